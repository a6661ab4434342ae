/- The statements' helpers (chapter 14): lives, and a store that lives. -/
import Derived.Test.YtlljpjehalodfaaProg
import Derived.Test.YtlljpjehalodfaaSaC
namespace Go.Proofs.Ytlljpjehalodfaa
open Go.RowKit
namespace St

theorem do_live (w : World) {L : LS} {n : Nat} {x : Cl} (h : At w L) (hi : PInv L.pure n) (hn : n ≤ 1000000) (hd : Dat w L.gs x.A x.c x.d) (hx : ClOk x) :
    Calls Try.prog 12 #[.pointer (some ⟨L.gs, 0, none⟩), x.val] w fun e w' => ∃ L' v, e = .returned v ∧ RepAt w.heap.size w' v (L.pure.step x.pure).2 ∧ StepTo w L x w' L' ∧ PInv L'.pure (n + 1) := by
  refine (do_calls w h hi.inv hn hd hx).mono ?_
  rintro e w' ⟨L', v, rfl, hr, hs⟩
  exact ⟨L', v, rfl, hr, hs, by rw [hs.pure]; exact hi.step h.srt x.pure⟩
theorem tick_live (w : World) {L : LS} {n : Nat} (h : At w L) (hi : PInv L.pure n) {k : Int} (hk : (Lit.int .i64 k).wf = true) :
    Calls Try.prog 19 #[.pointer (some ⟨L.gs, 0, none⟩), .int .i64 k] w fun e w' => e = .returned (.int .i64 (tickE L.pure.now k)) ∧ At w' (L.tick k) ∧ Keep L.foot w w' ∧ PInv (L.tick k).pure n := by
  have := wf_i64 hk
  refine (tick_calls w h this.1 this.2 hi.t0 hi.t1).mono ?_
  rintro e w' ⟨rfl, hA, hK⟩
  exact ⟨rfl, hA, hK, by rw [pure_tick]; exact hi.tick k⟩
theorem tick_gs (L : LS) (k : Int) : (L.tick k).gs = L.gs := by unfold LS.tick; split <;> rfl
theorem tick_foot (L : LS) (k : Int) {i : Nat} (h : (L.tick k).foot i) : L.foot i := by unfold LS.tick at h; split at h <;> exact h
/-- What a store's calls leave of what lay below it. -/
theorem StepTo.below {w w' : World} {L L' : LS} {x : Cl} {B : Nat} (h : StepTo w L x w' L') (hB : B ≤ w.heap.size) (hf : ∀ i, L.foot i → B ≤ i) : Below B w w' := h.keep.below hB hf
theorem StepTo.high {w w' : World} {L L' : LS} {x : Cl} {B : Nat} (h : StepTo w L x w' L') (hB : B ≤ w.heap.size) (hf : ∀ i, L.foot i → B ≤ i) : ∀ i, L'.foot i → B ≤ i := fun i hi => by
  rcases h.foot i hi with h | h
  · exact hf i h
  · omega
theorem empty_high (g : Nat) : ∀ i, (emptyLS g).foot i → g ≤ i := fun i hi => by
  rcases hi with h | h | h | ⟨p, hp, _⟩
  · rw [h]; show g ≤ g + 2; omega
  · rw [h]; exact Nat.le_refl _
  · rw [h]; show g ≤ g + 1; omega
  · cases hp
def keyA : ByteArray := ⟨#[97]⟩
theorem rightA : rightB keyA = true := by decide +kernel
theorem putA (g : Nat) : (emptyLS g).pure.step ⟨2, keyA, [120], 0, 0, 0, 0⟩ = ((emptyLS g).pure.made keyA [120], ⟨0, [], 1, 0, 0, [], false⟩) := by
  rw [kind_step]
  dsimp only
  rw [if_pos (.inr rfl)]
  have e : (emptyLS g).pure.putE ⟨2, keyA, [120], 0, 0, 0, 0⟩ = 0 := by
    unfold PS.putE
    rw [if_neg (by rw [rightA]; decide)]
    rfl
  unfold PS.put
  rw [if_pos e]; rfl
theorem getA (g : Nat) : (((emptyLS g).pure.made keyA [120]).step ⟨3, keyA, [], 0, 0, 0, 0⟩).2 = ⟨0, [120], 1, 0, 0, [], false⟩ := by
  rw [kind_step]
  dsimp only
  rw [if_neg (by decide), if_pos (.inl rfl)]
  rfl
theorem dat_nil (w : World) (gs : Nat) : Dat w gs none 0 [] := ⟨Nat.le_refl _, fun h => absurd h (by simp)⟩
theorem dat_const (w : World) {gs : Nat} (hg : gs < w.heap.size) : Dat (w.alloc (.cells #[.int .u8 120] 5 (1, 2))) gs (some ⟨w.heap.size, 0, none⟩) 1 [120] := by
  refine ⟨Nat.le_refl _, fun _ => ⟨w.heap.size, 0, rfl, by omega, fun j u hu => ?_⟩⟩
  have hj : j < 1 := (List.getElem?_eq_some_iff.1 hu).1
  obtain rfl : j = 0 := by omega
  have : u = .int .u8 120 := by injection hu with hu; rw [← hu]; rfl
  subst this
  unfold World.cell?
  rw [show (⟨w.heap.size, 0 + 0, none⟩ : Addr).block = w.heap.size from rfl, heap_alloc_new]
  rfl
theorem w0_ : (Lit.int .i64 0).wf = true := wfI (by decide) (by decide)
set_option maxRecDepth 100000 in
set_option maxHeartbeats 3200000 in
theorem lives_calls (w : World) : Calls Try.prog 10 #[] w fun e w' => e = .returned (.bool true) ∧ Below w.heap.size w w' := by
  have kc := fun (w : World) (C : Array Value) (n c : Nat) => Lib.run_convert_bytes_const (P := Try.prog) w 28 5 C n c Try.underlying28 Try.underlying5
  go_enter Try.func10, Try.ntmps10
  go_wp2_with fail
  refine (new_calls w).mono ?_
  rintro e w1 ⟨rfl, hA1, hb1⟩
  have HA1 := Lib.hid (hA1.alloc (.cells #[.int .u8 120] 5 (1, 2)))
  have HI1 := Lib.hid (pinv_empty w.heap.size 0)
  have HB1 := Lib.hid hb1
  have hle1 := hb1.size
  have HD1 := Lib.hid (dat_const w1 hA1.blk.lt)
  have HC2 := Lib.hid (do_live _ (x := ⟨2, keyA, some ⟨w1.heap.size, 0, none⟩, 1, [120], 0, 0, 0, 0⟩) HA1.out HI1.out (by omega) HD1.out ⟨by show 1 ≤ maxLen; unfold maxLen; omega, by show 1 ≤ _; omega, w0_, w0_⟩)
  have HX := Lib.hid (putA w.heap.size)
  have HG := Lib.hid (getA w.heap.size)
  clear hA1 hb1
  unfold Cl.val Cl.cells keyA at HC2
  dsimp only at HC2
  generalize hL0 : emptyLS w.heap.size = L0 at *
  have hgs0 : L0.gs = w.heap.size + 2 := by rw [← hL0]; rfl
  have hhi0 := empty_high w.heap.size
  rw [hL0] at hhi0
  have HHI0 := Lib.hid hhi0
  clear hL0 hhi0
  rw [hgs0] at HC2
  go_wp2_with fail
  refine HC2.out.mono ?_
  rintro e w2 ⟨L1, v1, rfl, hr1, hs1, hi1⟩
  have hp1 := hs1.pure
  rw [show (Cl.pure ⟨2, ⟨#[97]⟩, some ⟨w1.heap.size, 0, none⟩, 1, [120], 0, 0, 0, 0⟩) = ⟨2, keyA, [120], 0, 0, 0, 0⟩ from rfl, HX.out] at hr1 hp1
  obtain ⟨A2, c2, Al2, cl2, hv1, -, -⟩ := hr1
  dsimp only [List.length_nil] at hv1
  subst hv1
  have hle2 := hs1.keep.size
  have hz1 : (w1.alloc (.cells #[.int .u8 120] 5 (1, 2))).heap.size = w1.heap.size + 1 := by simp
  have HB2 : Hid (Below w.heap.size w w2) := Lib.hid ((HB1.out.alloc hle1 _).trans (hs1.below (by omega) HHI0.out))
  have HHI1 := Lib.hid (hs1.high (by omega) HHI0.out)
  have hgs1 : L1.gs = w.heap.size + 2 := hs1.gs.trans hgs0
  have HA2 := Lib.hid hs1.at_
  have HI2 := Lib.hid hi1
  have HP2 := Lib.hid hp1
  clear HC2 hs1 hi1 HD1 HA1 HB1
  go_upto_region 3 with fail
  have HB3 : Hid (Below w.heap.size w (w2.alloc (.cells #[.int .i64 0, .slice A2 0 c2, .int .i64 1, .int .i64 0, .int .i64 0, .slice Al2 0 cl2, .bool false] 36))) := Lib.hid (HB2.out.alloc (by omega) _)
  have HR3 := Lib.hid (Blk.new w2 36 #[.int .i64 0, .slice A2 0 c2, .int .i64 1, .int .i64 0, .int .i64 0, .slice Al2 0 cl2, .bool false])
  have HA3 := Lib.hid (HA2.out.alloc (.cells #[.int .i64 0, .slice A2 0 c2, .int .i64 1, .int .i64 0, .int .i64 0, .slice Al2 0 cl2, .bool false] 36))
  have HF3 : Hid (¬ L1.foot w2.heap.size) := Lib.hid fun h => by have := HA2.out.foot_lt h; omega
  have hz3 : (w2.alloc (.cells #[.int .i64 0, .slice A2 0 c2, .int .i64 1, .int .i64 0, .int .i64 0, .slice Al2 0 cl2, .bool false] 36)).heap.size = w2.heap.size + 1 := by simp
  generalize w2.alloc (.cells #[.int .i64 0, .slice A2 0 c2, .int .i64 1, .int .i64 0, .int .i64 0, .slice Al2 0 cl2, .bool false] 36) = w3 at *
  have hc := do_live w3 (x := ⟨3, keyA, none, 0, [], 0, 0, 0, 0⟩) HA3.out HI2.out (by omega) (dat_nil _ _) ⟨by show 1 ≤ maxLen; unfold maxLen; omega, by show 0 ≤ _; omega, w0_, w0_⟩
  rw [show (Cl.pure ⟨3, keyA, none, 0, [], 0, 0, 0, 0⟩) = ⟨3, keyA, [], 0, 0, 0, 0⟩ from rfl, HP2.out, HG.out, hgs1] at hc
  unfold Cl.val Cl.cells keyA at hc
  dsimp only [List.length_nil] at hc
  have HC3 := Lib.hid hc
  clear hc
  go_wp2_with fail
  refine HC3.out.mono ?_
  rintro e w4 ⟨L2, v2, rfl, hr2, hs2, -⟩
  obtain ⟨A4, c4, Al4, cl4, hv2, hown4, -⟩ := hr2
  dsimp only [List.length_nil, List.length_cons] at hv2 hown4
  subst hv2
  have HB4 : Hid (Below w.heap.size w w4) := Lib.hid (HB3.out.trans (hs2.below (by omega) HHI1.out))
  have HR4 := Lib.hid (hs2.keep.blk HR3.out HF3.out)
  have HBY := Lib.hid (own_bytes (l := [120]) hown4)
  have hle4 := HB4.out.size
  have hlt4 := HR4.out.lt
  clear hs2 hown4 HC3 HA3 HR3 HB3
  go_upto_region 4 with fail
  have HR5 := Lib.hid (HR4.out.alloc (.cells #[.int .i64 0, .slice A4 1 c4, .int .i64 1, .int .i64 0, .int .i64 0, .slice Al4 0 cl4, .bool false] 36))
  have HB5 : Hid (Below w.heap.size w (w4.alloc (.cells #[.int .i64 0, .slice A4 1 c4, .int .i64 1, .int .i64 0, .int .i64 0, .slice Al4 0 cl4, .bool false] 36))) := Lib.hid (HB4.out.alloc hle4 _)
  have hcv := (HBY.out.to ((Below.refl _ _).alloc (Nat.le_refl _) (.cells #[.int .i64 0, .slice A4 1 c4, .int .i64 1, .int .i64 0, .int .i64 0, .slice Al4 0 cl4, .bool false] 36)) (Nat.le_refl _)).conv Try.prog c4 28 5 9 Try.underlying28 Try.underlying5 Try.underlying9
  have hcv' : (convert 28 9 (.slice A4 1 c4)).run Try.prog (w4.alloc (.cells #[.int .i64 0, .slice A4 1 c4, .int .i64 1, .int .i64 0, .int .i64 0, .slice Al4 0 cl4, .bool false] 36)) = .ok (.string ⟨#[120]⟩) (w4.alloc (.cells #[.int .i64 0, .slice A4 1 c4, .int .i64 1, .int .i64 0, .int .i64 0, .slice Al4 0 cl4, .bool false] 36)) := hcv
  have HN5 := Lib.hid (Blk.new w4 36 #[.int .i64 0, .slice A4 1 c4, .int .i64 1, .int .i64 0, .int .i64 0, .slice Al4 0 cl4, .bool false])
  clear hcv HR4 HBY HB4 hlt4
  generalize w4.alloc (.cells #[.int .i64 0, .slice A4 1 c4, .int .i64 1, .int .i64 0, .int .i64 0, .slice Al4 0 cl4, .bool false] 36) = w5 at *
  have z0 : w5.cell? ⟨w2.heap.size, 0, none⟩ = some (.int .i64 0) := HR5.out.cell 0
  have z2 : w5.cell? ⟨w2.heap.size, 2, none⟩ = some (.int .i64 1) := HR5.out.cell 2
  have z1 : w5.cell? ⟨w4.heap.size, 1, none⟩ = some (.slice A4 1 c4) := HN5.out.cell 1
  go_wp2
  go_ret
  exact ⟨rfl, HB5.out⟩
end St
end Go.Proofs.Ytlljpjehalodfaa
