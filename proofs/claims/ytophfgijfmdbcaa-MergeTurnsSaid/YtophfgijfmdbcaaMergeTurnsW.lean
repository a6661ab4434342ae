/- MergeTurns: the walk. -/
import Derived.Test.YtophfgijfmdbcaaProg
import Derived.Test.YtophfgijfmdbcaaMgI
import Derived.Deep.Cut
namespace Go.Proofs.Ytophfgijfmdbcaa.lawMergeTurns
open Go.RowKit Go.Proofs.Ytophfgijfmdbcaa Go.Proofs.Ytophfgijfmdbcaa.So Go.Proofs.Ytophfgijfmdbcaa.Mg

set_option maxRecDepth 100000 in
theorem sliceL_at (w : World) (A : Option Addr) (n c k : Nat) (h : k ≤ n) (_hc : n ≤ c) :
    (Instr.slice 45 (.slice A n c) (some (.int .i64 (k : Int))) none none).run Try.prog w = .ok (.slice (cutR A c k 1) (n - k) (c - k)) w := by
  unfold cutR
  have e : ((k : Int)).toNat = k := by omega
  obtain ⟨i, hi, _, hs, _⟩ := info_parts Try.infoRows
  have hE : Try.prog.elem 45 = 47 := by kernel_rfl
  rw [run_slice_l w _ A n c Try.underlying45 .i64 _ (by omega) (by omega)]
  rw [hE]
  simp [sliced, Result.andThen, e, sizeOf, typeInfo, hi, hs]
set_option maxRecDepth 100000 in
theorem sliceH_at (w : World) (b off n c k : Nat) (h : k ≤ n) (hc : n ≤ c) :
    (Instr.slice 45 (.slice (some ⟨b, off, none⟩) n c) none (some (.int .i64 (k : Int))) none).run Try.prog w = .ok (.slice (some ⟨b, off, none⟩) k c) w := by
  have e : ((k : Int)).toNat = k := by omega
  obtain ⟨i, hi, _, hs, _⟩ := info_parts Try.infoRows
  have hE : Try.prog.elem 45 = 47 := by kernel_rfl
  rw [run_slice_h w _ (some ⟨b, off, none⟩) n c Try.underlying45 .i64 _ (by omega) (by omega)]
  rw [hE]
  by_cases h0 : c = 0
  · simp [sliced, Result.andThen, e, sizeOf, typeInfo, hi, hs, addr_add, h0]
  · simp [sliced, Result.andThen, e, sizeOf, typeInfo, hi, hs, addr_add, h0]
theorem rest_reads {w : World} {B b off c k : Nat} {L : List Lst} (h : Lists w B (some ⟨b, off, none⟩) L) (hk : k ≤ L.length) (hc : L.length ≤ c) : Reads w B 1 (cutR (some ⟨b, off, none⟩) c k 1) (L.length - k) ((L.drop k).map Lst.v) := by
  have := Reads.cutR_ (k := k) (cap := c) h.reads hk hc
  rwa [Nat.mul_one, ← List.map_drop] at this
theorem front_reads {w : World} {B b off k : Nat} {L : List Lst} (h : Lists w B (some ⟨b, off, none⟩) L) (hk : k ≤ L.length) : Reads w B 1 (some ⟨b, off, none⟩) k ((L.take k).map Lst.v) := by
  refine ⟨by rw [List.length_map, List.length_take]; omega, fun hp => ?_⟩
  obtain ⟨b', off', e, hb, hc⟩ := h.reads.2 (by omega)
  refine ⟨b', off', e, hb, fun j u hu => hc j u ?_⟩
  rw [List.map_take, List.getElem?_take] at hu
  split at hu
  · exact hu
  · cases hu

set_option maxRecDepth 100000 in
set_option maxHeartbeats 6400000 in
theorem body (w : World) {B c : Nat} {A : Option Addr} {L : List Lst} (n : Int) (h : Lists w B A L) (hB : B ≤ w.heap.size) (hc : L.length ≤ c) (hL : L.length ≤ 8796093022208) :
    Calls Try.prog 8 #[.slice A L.length c, .int .i64 n] w fun e w' => e = .returned (.bool true) ∧ Below w.heap.size w w' := by
  have H1 := Lib.hid h
  have HF := Lib.hid fun W (hW : Below w.heap.size w W) => few_calls W (c := c) (h.below (hW.mono hB)) (by have := hW.size; omega) hL
  clear h
  go_enter Try.func8, Try.ntmps8
  go_wp2_with fail
  refine (lives_calls w).mono ?_
  rintro e w1 ⟨rfl, hb1⟩
  go_wp2_with fail
  refine (HF.out w1 hb1).mono ?_
  rintro e w2 ⟨b, rfl, hbt, hb2⟩
  have hb12 := hb1.trans (hb2.mono hb1.size)
  clear hb1 hb2
  cases b
  · clear hbt
    go_wp2_with fail
    refine (lives_calls w2).mono ?_
    rintro e w3 ⟨rfl, hb3⟩
    go_wp2
    go_ret
    exact ⟨rfl, hb12.trans (hb3.mono hb12.size)⟩
  · have HT := Lib.hid (hbt rfl)
    clear hbt
    by_cases h0 : L.length = 0
    · have z0 : ((L.length : Int) == 0) = true := eqt (by omega)
      go_wp2_with fail
      refine (lives_calls w2).mono ?_
      rintro e w3 ⟨rfl, hb3⟩
      go_wp2
      go_ret
      exact ⟨rfl, hb12.trans (hb3.mono hb12.size)⟩
    · have z0 : ((L.length : Int) == 0) = false := eqf (by omega)
      have z1 : ¬ (L.length : Int) = 0 := by omega
      obtain ⟨k, hk, hke⟩ : ∃ k : Nat, k < L.length ∧ wrap64 ((IntKind.u64.wrap n).tmod (L.length : Int)) = (k : Int) := by
        have h1 : 0 ≤ IntKind.u64.wrap n := by rw [IntKind.wrap_u64]; omega
        have h2 : (IntKind.u64.wrap n).tmod (L.length : Int) = IntKind.u64.wrap n % (L.length : Int) := Int.tmod_eq_emod_of_nonneg h1
        have h3 := Int.emod_nonneg (IntKind.u64.wrap n) (show (L.length : Int) ≠ 0 by omega)
        have h4 := Int.emod_lt_of_pos (IntKind.u64.wrap n) (show (0 : Int) < (L.length : Int) by omega)
        refine ⟨(IntKind.u64.wrap n % (L.length : Int)).toNat, by omega, ?_⟩
        rw [h2]
        unfold wrap64
        omega
      have HE := Lib.hid hke
      clear hke
      go_upto_region 4 with fail
      rw [HE.out]
      clear HE HF
      have r2 := H1.out.below (hb12.mono hB)
      have hs2 := hb12.size
      obtain ⟨bL, oL, eL, hbL, -⟩ := r2.at_ (by omega)
      subst eL
      have hrL := fun W => sliceL_at W (some ⟨bL, oL, none⟩) L.length c k (by omega) hc
      have hrH := fun W => sliceH_at W bL oL L.length c k (by omega) hc
      have HRE := Lib.hid (rest_reads r2 (k := k) (by omega) hc)
      have HFR := Lib.hid (front_reads r2 (k := k) (by omega))
      have HL2 := Lib.hid r2
      generalize cutR (some ⟨bL, oL, none⟩) c k 1 = AC at *
      obtain ⟨p, hp⟩ : ∃ p, p = L.length - k := ⟨_, rfl⟩
      rw [← hp] at HRE hrL
      have HPK : Hid (p + k = L.length) := Lib.hid (by omega)
      have hp9 : p ≤ 9 := by have := HT.out.2; omega
      have hk9 : k ≤ 9 := by have := HT.out.2; omega
      clear hp r2
      go_wp2_with (at_builtin; go_must (refine wpList_append_sl _ rfl (.tmp 31) (.tmp 34) _ rfl w2.heap.size 47 _ 1 24 Try.underlying45 Try.infoRows rfl (by omega) _ _ _ rfl (World.ownsRow_nil _ _ _ _) B _ p (c - k) _ rfl HRE.out (lst_one _) (by unfold maxLen; omega) (by omega) (Nat.le_refl _) ?_))
      intro A4 c4 w4 hc4 hm4 hr4 hbel4 hown4 _ _
      have hs4 := hbel4.size
      have HFR4 := Lib.hid (HFR.out.below (hbel4.mono (by omega)))
      go_wp2_with (at_builtin; go_must (refine wpList_append_sl _ rfl (.tmp 36) (.tmp 39) _ rfl w2.heap.size 47 _ 1 24 Try.underlying45 Try.infoRows rfl (by omega) _ _ _ rfl hown4 B _ k c _ rfl HFR4.out (lst_one _) (by unfold maxLen; omega) (by omega) (by omega) ?_))
      intro A5 c5 w5 hc5 hm5 hr5 hbel5 hown5 _ _
      have hs5 := hbel5.size
      obtain ⟨M, hM⟩ : ∃ M, M = L.drop k ++ L.take k := ⟨_, rfl⟩
      have hMl : M.length = p + k := by rw [hM, List.length_append, List.length_drop, List.length_take]; have := HPK.out; omega
      have hMv : M.map Lst.v = List.drop k (List.map Lst.v L) ++ List.take k (List.map Lst.v L) := by rw [hM, List.map_append, List.map_drop, List.map_take]
      have hMm : ∀ x ∈ M, x ∈ L := fun x hx => by
        rw [hM] at hx
        rcases List.mem_append.1 hx with hx | hx
        · exact List.mem_of_mem_drop hx
        · exact List.mem_of_mem_take hx
      rw [← hMv] at hown5
      have hb25 : Below w2.heap.size w2 w5 := hbel4.trans hbel5
      have HLM : Hid (Lists w5 w5.heap.size A5 M) := Lib.hid (Lists.of_own hown5 hMl fun x hx => ((HL2.out.each x (hMm x hx)).below (hb25.mono (by omega))).more (by omega))
      have HTN : Hid (mErr (lists M) = mErr (lists L) ∧ mRows (lists M) = mRows (lists L)) := Lib.hid (by rw [hM]; exact turn (rot_perm L k))
      have hMt : (lAll M).length ≤ 200 := by rw [hM, rot_len]; have := HT.out.1; omega
      have HR1 : Hid (∀ W, Below w5.heap.size w5 W → Calls Try.prog 22 #[.slice (some ⟨bL, oL, none⟩) L.length c] W (RetRows W L)) := Lib.hid fun W hW => rows_calls W (HL2.out.below ((hb25.mono (by omega)).trans (hW.mono (by omega)))) (by have := hW.size; omega) (by have := HT.out.1; omega) (by have := HT.out.2; omega)
      have HR2 : Hid (∀ W, Below w5.heap.size w5 W → Calls Try.prog 22 #[.slice A5 M.length c5] W (RetRows W M)) := Lib.hid fun W hW => rows_calls W (HLM.out.below hW) (by have := hW.size; omega) hMt (by omega)
      have HFT := Lib.hid HL2.out.fits
      have HLE : Hid ((mRows (lists L)).length ≤ 80) := Lib.hid (Nat.le_trans (rows_len L) HT.out.1)
      have HB5 : Hid (Below w.heap.size w w5) := Lib.hid (hb12.trans (hb25.mono hs2))
      clear hown5 hMv hMm hM hMt hr4 hr5 hbel4 hbel5 hb25 hown4 hc4 hm4 hc5 hm5 hrL hrH HRE HFR HFR4 HL2 HPK H1
      rw [← hMl]
      clear hMl
      go_wp2_with fail
      refine (HR1.out _ (Below.refl _ _)).mono ?_
      rintro e w6 ⟨A6, c6, m1, rfl, hm1, ho1, hb6⟩
      have HM1 := Lib.hid hm1
      have HO1 := Lib.hid ho1
      clear hm1 ho1 HR1
      go_wp2_with fail
      refine (HR2.out _ hb6).mono ?_
      rintro e w7 ⟨A7, c7, m2, rfl, hm2, ho2, hb7⟩
      rw [HTN.out.1]
      rw [HTN.out.2] at hm2
      have hs6 := hb6.size
      have hs7 := hb7.size
      have HSR := Lib.hid (sameRowsL_calls (c1 := c6) (c2 := c7) w7 ((HO1.out.below hb7).rows (SameL.fits (Eq.symm HM1.out) HFT.out)) (ho2.rows (SameL.fits (Eq.symm hm2) HFT.out)) (Nat.le_refl _) (Nat.le_refl _) (SameL.via HM1.out hm2) (by have := HM1.out.len; have := HLE.out; omega))
      have HB7 : Hid (Below w.heap.size w w7) := Lib.hid ((HB5.out.trans (hb6.mono (by omega))).trans (hb7.mono (by omega)))
      generalize mErr (lists L) = ee at *
      have ee0 : (ee == ee) = true := eqt rfl
      clear HR2 HTN hm2 ho2 HM1 HO1
      go_wp2_with fail
      refine HSR.out.mono ?_
      rintro e w8 ⟨rfl, hb8⟩
      go_wp2
      go_ret
      exact ⟨rfl, HB7.out.trans (hb8.mono HB7.out.size)⟩
theorem walk {H : Type} {enc : TypeId × Value → H} {W : World} {base : Nat} {v0 v1 : Value} {d0 d1 : DataW H} {p0 p1 : List MemPlace} (g0 : Arg enc Try.prog W base 45 v0 d0 p0) (g1 : Arg enc Try.prog W base 3 v1 d1 p1) :
    Calls Try.prog 8 #[v0, v1] W fun e w' => e = .returned (.bool true) ∧ Below W.heap.size W w' := by
  obtain ⟨A, c, L, rfl, hc, hl, hL⟩ := arg_lists g0
  obtain ⟨n, rfl, _, _⟩ := g1.int Try.underlying3
  exact body W n hL (Nat.le_refl _) hc hl
end Go.Proofs.Ytophfgijfmdbcaa.lawMergeTurns
