/- CommitPaces: State, Next, Take of a call that no reply came for. -/
import Derived.Test.YtibnehaibgbliaaGreatProg
import Derived.Test.YtibnehaibgbliaaGreatCpB
import Derived.StillTailTactics
import Derived.IntWalk
import Derived.Deep.Cut
namespace Go.Proofs.YtibnehaibgbliaaGreat.Cp
set_option linter.unusedVariables false
set_option linter.unusedSimpArgs false
open Go.RowKit Go.Proofs.YtibnehaibgbliaaGreat

theorem results_mf {P : Program} {fn : Func} {p u : Tmp} {ty : TypeId} (h : fn.results = #[.cell p ty, .tmp u]) (tmps : Array Value) (w : World) (g : Nat) (t : TypeId) (cs : Array Value) (d : TypeDesc) (q : Value)
    (hp : tmps.getD p undef = .pointer (some ⟨g, 0, none⟩)) (hq : tmps.getD u undef = q) (hg : Blk w g t cs)
    (hu : P.underlying ty = some d) (hd : (match d with | .struct _ | .array _ _ => true | _ => false) = true) (hi : (P.info? ty).map (·.size) = some cs.size) :
    (results fn tmps).run P w = .ok (.tuple #[.agg cs, q]) w := by
  rw [results_cell_tmp h, hp, hq]
  have : (asAddr (.pointer (some ⟨g, 0, none⟩))).run P w = .ok ⟨g, 0, none⟩ w := by simp [asAddr]
  rw [this, Result.andThen_ok, run_loadVar_row w g t ty cs (0, 0) d hg hu hd hi, Result.andThen_ok]
/-- Seven cells written one behind the other. -/
def set7 (w : World) (g : Nat) (v0 v1 v2 v3 v4 v5 v6 : Value) : World := ((((((w.setCell ⟨g, 0, none⟩ v0).setCell ⟨g, 1, none⟩ v1).setCell ⟨g, 2, none⟩ v2).setCell ⟨g, 3, none⟩ v3).setCell ⟨g, 4, none⟩ v4).setCell ⟨g, 5, none⟩ v5).setCell ⟨g, 6, none⟩ v6
theorem set7_blk {w : World} {g : Nat} {t : TypeId} {a0 a1 a2 a3 a4 a5 a6 : Value} (h : Blk w g t #[a0, a1, a2, a3, a4, a5, a6]) (v0 v1 v2 v3 v4 v5 v6 : Value) : Blk (set7 w g v0 v1 v2 v3 v4 v5 v6) g t #[v0, v1, v2, v3, v4, v5, v6] := by
  have := ((((((h.set_ 0 v0).set_ 1 v1).set_ 2 v2).set_ 3 v3).set_ 4 v4).set_ 5 v5).set_ 6 v6
  simpa [set7] using this
theorem set7_below {a w : World} {B g : Nat} (h : Below B a w) (hB : B ≤ g) (v0 v1 v2 v3 v4 v5 v6 : Value) : Below B a (set7 w g v0 v1 v2 v3 v4 v5 v6) :=
  ((((((h.setCell (p := ⟨g, 0, none⟩) hB v0).setCell (p := ⟨g, 1, none⟩) hB v1).setCell (p := ⟨g, 2, none⟩) hB v2).setCell (p := ⟨g, 3, none⟩) hB v3).setCell (p := ⟨g, 4, none⟩) hB v4).setCell (p := ⟨g, 5, none⟩) hB v5).setCell (p := ⟨g, 6, none⟩) hB v6
theorem set7_only {a w : World} {k g : Nat} (h : Only k a w) (hg : a.heap.size ≤ g) (v0 v1 v2 v3 v4 v5 v6 : Value) : Only k a (set7 w g v0 v1 v2 v3 v4 v5 v6) :=
  ((((((h.setCell (p := ⟨g, 0, none⟩) (.inr hg) v0).setCell (p := ⟨g, 1, none⟩) (.inr hg) v1).setCell (p := ⟨g, 2, none⟩) (.inr hg) v2).setCell (p := ⟨g, 3, none⟩) (.inr hg) v3).setCell (p := ⟨g, 4, none⟩) (.inr hg) v4).setCell (p := ⟨g, 5, none⟩) (.inr hg) v5).setCell (p := ⟨g, 6, none⟩) (.inr hg) v6
theorem set7_far {w : World} {g k : Nat} {t : TypeId} {cs : Array Value} (h : Blk w k t cs) (hk : k ≠ g) (v0 v1 v2 v3 v4 v5 v6 : Value) : Blk (set7 w g v0 v1 v2 v3 v4 v5 v6) k t cs :=
  ((((((h.far (p := ⟨g, 0, none⟩) hk v0).far (p := ⟨g, 1, none⟩) hk v1).far (p := ⟨g, 2, none⟩) hk v2).far (p := ⟨g, 3, none⟩) hk v3).far (p := ⟨g, 4, none⟩) hk v4).far (p := ⟨g, 5, none⟩) hk v5).far (p := ⟨g, 6, none⟩) hk v6

section
variable {V : V8} {tries wait fails due : Int} {asked : Bool} {st er : Int} {g : Nat}
set_option maxRecDepth 100000 in
theorem state_calls (w : World) (h : Blk w g 92 (cqA V tries wait fails due asked st er)) :
    Calls Tryz.prog 12 #[.pointer (some ⟨g, 0, none⟩)] w fun e w' => e = .returned (.tuple #[.int .i64 st, .int .i64 er]) ∧ Below w.heap.size w w' := by
  have z0 := h.cell 27
  have z1 := h.cell 28
  simp only [List.getElem?_toArray, List.getElem?_cons_zero, List.getElem?_cons_succ] at z0 z1
  clear h
  go_enter Tryz.func12, Tryz.ntmps12
  go_wp2_with fail
  go_quiet (fail)
  go_wp2
  go_ret2
  exact ⟨rfl, below_drewN_ (Below.refl _ _) _⟩
set_option maxRecDepth 100000 in
theorem end_calls (w : World) {cs : Array Value} (h : Blk w g 92 cs) (s0 e0 : Value) (h0 : cs[27]? = some s0) (h1 : cs[28]? = some e0) (s e : Int) :
    Calls Tryz.prog 31 #[.pointer (some ⟨g, 0, none⟩), .int .i64 s, .int .i64 e] w fun en w' => en = .returned (.tuple #[]) ∧ w' = (w.setCell ⟨g, 27, none⟩ (.int .i64 s)).setCell ⟨g, 28, none⟩ (.int .i64 e) := by
  have z0 := h.cell 27
  have z1 := (h.set_ 27 (.int .i64 s)).cell 28
  have f0 := h.frozen 27
  have f1 := (h.set_ 27 (.int .i64 s)).frozen 28
  have z1' := h.cell 28
  rw [h0] at z0
  rw [h1] at z1'
  rw [Array.getElem?_setIfInBounds_ne (by decide), h1] at z1
  clear h h0 h1
  go_enter Tryz.func31, Tryz.ntmps31
  go_wp2
  go_end0
  exact ⟨rfl, rfl⟩

abbrev zeroCall : Array Value := #[.int .i64 0, .string ⟨#[]⟩, .slice none 0 0, .int .i64 0, .int .i64 0, .int .i64 0, .int .i64 0]
abbrev getCall : Array Value := #[.int .i64 3, .string ⟨#[109, 97, 110, 105, 102, 101, 115, 116]⟩, .slice none 0 0, .int .i64 0, .int .i64 0, .int .i64 0, .int .i64 0]
set_option maxRecDepth 100000 in
set_option maxHeartbeats 1600000 in
theorem next_done (w : World) (h : Blk w g 92 (cqA V tries wait fails due asked 3 er)) (now : Int) :
    Calls Tryz.prog 10 #[.pointer (some ⟨g, 0, none⟩), .int .i64 now] w fun e w' => e = .returned (.tuple #[.agg zeroCall, .bool false]) ∧ Below w.heap.size w w' := by
  have h2 := h.alloc (.cells zeroCall 35)
  have z0 := h2.cell 27
  simp only [List.getElem?_toArray, List.getElem?_cons_zero, List.getElem?_cons_succ] at z0
  clear h h2
  go_enter Tryz.func10, Tryz.ntmps10
  go_wp2
  refine bodyPost_ret (results_mf rfl _ _ w.heap.size 35 zeroCall _ _ rfl rfl (Blk.new _ _ _) Tryz.underlying35 rfl (by kernel_rfl)) rfl ?_
  exact ⟨rfl, (Below.refl _ _).alloc (Nat.le_refl _) _⟩
set_option maxRecDepth 100000 in
set_option maxHeartbeats 1600000 in
theorem next_wait (w : World) (h : Blk w g 92 (cqA V tries wait fails due false 0 er)) (now : Int) (hn : now < due) :
    Calls Tryz.prog 10 #[.pointer (some ⟨g, 0, none⟩), .int .i64 now] w fun e w' => e = .returned (.tuple #[.agg zeroCall, .bool false]) ∧ Below w.heap.size w w' := by
  have h2 := h.alloc (.cells zeroCall 35)
  have z0 := h2.cell 27
  have z1 := h2.cell 13
  have z2 := h2.cell 11
  simp only [List.getElem?_toArray, List.getElem?_cons_zero, List.getElem?_cons_succ] at z0 z1 z2
  have dn : decide (now < due) = true := dct hn
  clear h h2
  go_enter Tryz.func10, Tryz.ntmps10
  go_wp2
  refine bodyPost_ret (results_mf rfl _ _ w.heap.size 35 zeroCall _ _ rfl rfl (Blk.new _ _ _) Tryz.underlying35 rfl (by kernel_rfl)) rfl ?_
  exact ⟨rfl, (Below.refl _ _).alloc (Nat.le_refl _) _⟩
set_option maxRecDepth 100000 in
set_option maxHeartbeats 1600000 in
theorem next_yes (w : World) (h : Blk w g 92 (cqA V tries wait fails due false 0 er)) (now : Int) (hn : ¬ now < due) :
    Calls Tryz.prog 10 #[.pointer (some ⟨g, 0, none⟩), .int .i64 now] w fun e w' => e = .returned (.tuple #[.agg getCall, .bool true]) ∧ Blk w' g 92 (cqA V tries wait fails due true 0 er) ∧ Only g w w' := by
  have h2 := h.alloc (.cells zeroCall 35)
  have z0 := h2.cell 27
  have z1 := h2.cell 13
  have z2 := h2.cell 11
  have z3 := h2.cell 14
  have f1 := h2.frozen 13
  simp only [List.getElem?_toArray, List.getElem?_cons_zero, List.getElem?_cons_succ] at z0 z1 z2 z3
  have dn : decide (now < due) = false := dcf hn
  have hne : g ≠ w.heap.size := by have := h.lt; omega
  have hb := (Blk.new w 35 zeroCall).far (p := ⟨g, 13, none⟩) (Ne.symm hne) (.bool true)
  have hb3 := h2.set_ 13 (.bool true)
  simp only [List.setIfInBounds_toArray, List.set_cons_zero, List.set_cons_succ] at hb3
  have y3 := hb3.cell 14
  simp only [List.getElem?_toArray, List.getElem?_cons_zero, List.getElem?_cons_succ] at y3
  have HB := Lib.hid hb
  have HB3 := Lib.hid hb3
  have HO : Hid (Only g w ((w.alloc (.cells zeroCall 35)).setCell ⟨g, 13, none⟩ (.bool true))) := Lib.hid (((Only.refl g w).alloc _).setCell (.inl rfl) _)
  have HN := Lib.hid hne
  have q0 := hb.cell 0
  have q1 := hb.cell 1
  have q2 := hb.cell 2
  have q3 := hb.cell 3
  have q4 := hb.cell 4
  have q5 := hb.cell 5
  have q6 := hb.cell 6
  have r0 := hb.frozen 0
  have r1 := hb.frozen 1
  have r2 := hb.frozen 2
  have r3 := hb.frozen 3
  have r4 := hb.frozen 4
  have r5 := hb.frozen 5
  have r6 := hb.frozen 6
  simp only [List.getElem?_toArray, List.getElem?_cons_zero, List.getElem?_cons_succ] at q0 q1 q2 q3 q4 q5 q6
  clear h h2 hb hb3 hne
  go_enter Tryz.func10, Tryz.ntmps10
  go_upto_region 4 with fail
  obtain ⟨gc, hgc⟩ : ∃ gc, gc = w.heap.size := ⟨_, rfl⟩
  have HGc := Lib.hid hgc
  have HL : Hid (w.heap.size ≤ gc) := Lib.hid (by omega)
  rw [← hgc] at HB HN q0 q1 q2 q3 q4 q5 q6 r0 r1 r2 r3 r4 r5 r6 ⊢
  clear hgc z0 z1 z2 z3 f1
  generalize (w.alloc (.cells zeroCall 35)).setCell ⟨g, 13, none⟩ (.bool true) = w2 at *
  go_wp2
  have hs := set7_blk HB.out (.int .i64 3) (.string ⟨#[109, 97, 110, 105, 102, 101, 115, 116]⟩) (.slice none 0 0) (.int .i64 0) (.int .i64 0) (.int .i64 0) (.int .i64 0)
  refine bodyPost_ret (results_mf rfl _ _ gc 35 getCall _ _ rfl rfl hs Tryz.underlying35 rfl (by kernel_rfl)) rfl ?_
  exact ⟨rfl, set7_far HB3.out (by have := HN.out; omega) _ _ _ _ _ _ _, set7_only HO.out HL.out _ _ _ _ _ _ _⟩
abbrev netReply : Array Value := #[.int .i64 10, .slice none 0 0, .int .i64 0, .int .i64 0, .int .i64 0, .slice none 0 0, .bool false]
set_option maxRecDepth 100000 in
set_option maxHeartbeats 3200000 in
theorem take_fail (w : World) {n : Nat} (h : Blk w g 92 (cqA V tries wait (n : Int) due true 0 0)) (now p : Int) (hp : p = wait * 2 ^ n) (hn : n ≤ 7) (hp0 : 0 ≤ p) (hp9 : p ≤ 1125899906842624) (h0 : 0 ≤ now) (h9 : now ≤ 1099511627776) (s9 e9 : Int) (hs : Hid (tries ≤ (n : Int) + 1 → s9 = 3 ∧ e9 = 15)) (hs' : Hid (¬ tries ≤ (n : Int) + 1 → s9 = 0 ∧ e9 = 0)) :
    Calls Tryz.prog 11 #[.pointer (some ⟨g, 0, none⟩), .agg netReply, .int .i64 now] w fun e w' => e = .returned (.int .i64 0) ∧ Blk w' g 92 (cqA V tries wait ((n : Int) + 1) (now + p) false s9 e9) ∧ Only g w w' := by
  have h2 := h.alloc (.cells netReply 42)
  have z0 := h2.cell 13
  have f0 := h2.frozen 13
  have f1 := h2.frozen 14
  have z1 := (h2.set_ 13 (.bool false)).cell 14
  have b3 := (h2.set_ 13 (.bool false)).set_ 14 (.bool false)
  simp only [List.setIfInBounds_toArray, List.set_cons_zero, List.set_cons_succ] at b3 z1
  simp only [List.getElem?_toArray, List.getElem?_cons_zero, List.getElem?_cons_succ] at z0 z1
  have f2 := (h2.set_ 13 (.bool false)).frozen 14
  have hne : g ≠ w.heap.size := by have := h.lt; omega
  have HN := Lib.hid hne
  have hr := ((Blk.new w 42 netReply).far (p := ⟨g, 13, none⟩) (Ne.symm hne) (.bool false)).far (p := ⟨g, 14, none⟩) (Ne.symm hne) (.bool false)
  have HB := Lib.hid b3
  have HR := Lib.hid hr
  have HO : Hid (Only g w (((w.alloc (.cells netReply 42)).setCell ⟨g, 13, none⟩ (.bool false)).setCell ⟨g, 14, none⟩ (.bool false))) := Lib.hid ((((Only.refl g w).alloc _).setCell (.inl rfl) _).setCell (.inl rfl) _)
  have HP := Lib.hid hp
  clear h h2 b3 hr hne hp
  go_enter Tryz.func11, Tryz.ntmps11
  go_upto_region 10 with fail
  obtain ⟨gr, hgr⟩ : ∃ gr, gr = w.heap.size := ⟨_, rfl⟩
  rw [← hgr] at HR HN ⊢
  clear hgr z0 z1 f0 f1 f2
  generalize ((w.alloc (.cells netReply 42)).setCell ⟨g, 13, none⟩ (.bool false)).setCell ⟨g, 14, none⟩ (.bool false) = w3 at *
  have r0 := HR.out.cell 0
  have c10 := HB.out.cell 10
  have f10 := HB.out.frozen 10
  simp only [List.getElem?_toArray, List.getElem?_cons_zero, List.getElem?_cons_succ] at r0 c10
  have e1 : IntKind.i64.wrap ((n : Int) + 1) = (n : Int) + 1 := IntWalk.i64_in _ (by omega)
  have b4 := HB.out.set_ 10 (.int .i64 ((n : Int) + 1))
  simp only [List.setIfInBounds_toArray, List.set_cons_zero, List.set_cons_succ] at b4
  have HB4 := Lib.hid b4
  have HO4 : Hid (Only g w (w3.setCell ⟨g, 10, none⟩ (.int .i64 ((n : Int) + 1)))) := Lib.hid (HO.out.setCell (.inl rfl) _)
  clear b4
  go_upto_region 12 with fail
  clear r0 c10 f10
  generalize w3.setCell ⟨g, 10, none⟩ (.int .i64 ((n : Int) + 1)) = w4 at *
  have y10 := HB4.out.cell 10
  have y8 := HB4.out.cell 8
  simp only [List.getElem?_toArray, List.getElem?_cons_zero, List.getElem?_cons_succ] at y10 y8
  go_quiet (fail)
  clear y10 y8
  have HB5 := Lib.hid (HB4.out.drewN nq)
  have HO5 := Lib.hid (HO4.out.drewN nq)
  generalize w4.drewN nq = w5 at *
  have e2 : IntKind.i64.wrap ((n : Int) + 1 - 1) = (n : Int) := by rw [show (n : Int) + 1 - 1 = (n : Int) by omega]; exact IntWalk.i64_in _ (by omega)
  have e2' : IntKind.i64.wrap (n : Int) = (n : Int) := IntWalk.i64_in _ (by omega)
  have e3 : IntKind.i64.wrap (wait * 2 ^ n) = wait * 2 ^ n := by rw [← HP.out]; exact IntWalk.i64_in _ (by omega)
  have e4 : IntKind.i64.wrap (now + wait * 2 ^ n) = now + wait * 2 ^ n := by rw [← HP.out]; exact IntWalk.i64_in _ (by omega)
  have s0 : (0 : Int) ≤ (n : Int) := by omega
  have s1 : (n : Int) ≤ 64 := by omega
  by_cases ht : tries ≤ (n : Int) + 1
  · have dt : decide (tries ≤ (n : Int) + 1) = true := dct ht
    have HS9 := Lib.hid (hs.out ht)
    have HEn := Lib.hid (end_calls w5 HB5.out (.int .i64 0) (.int .i64 0) rfl rfl 3 15)
    have b6 := (HB5.out.set_ 27 (.int .i64 3)).set_ 28 (.int .i64 15)
    simp only [List.setIfInBounds_toArray, List.set_cons_zero, List.set_cons_succ] at b6
    have HBz := Lib.hid b6
    have HOz : Hid (Only g w ((w5.setCell ⟨g, 27, none⟩ (.int .i64 3)).setCell ⟨g, 28, none⟩ (.int .i64 15))) := Lib.hid ((HO5.out.setCell (.inl rfl) _).setCell (.inl rfl) _)
    clear b6
    go_wp2_with fail
    refine HEn.out.mono ?_
    rintro en w6 ⟨rfl, rfl⟩
    clear HEn HB5 HO5
    generalize (w5.setCell ⟨g, 27, none⟩ (.int .i64 3)).setCell ⟨g, 28, none⟩ (.int .i64 15) = wz at *
    have y9 := HBz.out.cell 9
    have y10 := HBz.out.cell 10
    have y11 := HBz.out.cell 11
    have f11 := HBz.out.frozen 11
    simp only [List.getElem?_toArray, List.getElem?_cons_zero, List.getElem?_cons_succ] at y9 y10 y11
    have b9 := HBz.out.set_ 11 (.int .i64 (now + wait * 2 ^ n))
    simp only [List.setIfInBounds_toArray, List.set_cons_zero, List.set_cons_succ] at b9
    have HB9 := Lib.hid b9
    have HO9 : Hid (Only g w (wz.drew.setCell ⟨g, 11, none⟩ (.int .i64 (now + wait * 2 ^ n)))) := Lib.hid (HOz.out.drew.setCell (.inl rfl) _)
    clear b9
    go_wp2_with fail
    go_still_tail 15, (by kernel_rfl)
    go_wp2
    go_ret
    obtain ⟨rfl, rfl⟩ := HS9.out
    rw [HP.out]
    exact ⟨rfl, HB9.out, HO9.out⟩
  · have dt : decide (tries ≤ (n : Int) + 1) = false := dcf ht
    have HS9 := Lib.hid (hs'.out ht)
    have HBz := HB5
    have HOz := HO5
    have y9 := HBz.out.cell 9
    have y10 := HBz.out.cell 10
    have y11 := HBz.out.cell 11
    have f11 := HBz.out.frozen 11
    simp only [List.getElem?_toArray, List.getElem?_cons_zero, List.getElem?_cons_succ] at y9 y10 y11
    have b9 := HBz.out.set_ 11 (.int .i64 (now + wait * 2 ^ n))
    simp only [List.setIfInBounds_toArray, List.set_cons_zero, List.set_cons_succ] at b9
    have HB9 := Lib.hid b9
    have HO9 : Hid (Only g w (w5.drew.setCell ⟨g, 11, none⟩ (.int .i64 (now + wait * 2 ^ n)))) := Lib.hid (HOz.out.drew.setCell (.inl rfl) _)
    clear b9
    go_wp2_with fail
    go_still_tail 15, (by kernel_rfl)
    go_wp2
    go_ret
    obtain ⟨rfl, rfl⟩ := HS9.out
    rw [HP.out]
    exact ⟨rfl, HB9.out, HO9.out⟩
end
end Go.Proofs.YtibnehaibgbliaaGreat.Cp
