/- MergeRows: the walk. -/
import Derived.Test.YtophfgijfmdbcaaProg
import Derived.Test.YtophfgijfmdbcaaMgJ
namespace Go.Proofs.Ytophfgijfmdbcaa.lawMergeRows
open Go.RowKit Go.Proofs.Ytophfgijfmdbcaa Go.Proofs.Ytophfgijfmdbcaa.So Go.Proofs.Ytophfgijfmdbcaa.Mg

set_option maxRecDepth 100000 in
set_option maxHeartbeats 6400000 in
theorem body (w : World) {B c : Nat} {A : Option Addr} {L : List Lst} (h : Lists w B A L) (hB : B ≤ w.heap.size) (hL : L.length ≤ 8796093022208) :
    Calls Try.prog 6 #[.slice A L.length c] w fun e w' => e = .returned (.bool true) ∧ Below w.heap.size w w' := by
  have H1 := Lib.hid h
  have HF := Lib.hid fun W (hW : Below w.heap.size w W) => few_calls W (c := c) (h.below (hW.mono hB)) (by have := hW.size; omega) hL
  clear h
  go_enter Try.func6, Try.ntmps6
  go_wp2_with fail
  refine (lives_calls w).mono ?_
  rintro e w1 ⟨rfl, hb1⟩
  go_wp2_with fail
  refine (HF.out w1 hb1).mono ?_
  rintro e w2 ⟨b, rfl, hbt, hb2⟩
  have hb12 := hb1.trans (hb2.mono hb1.size)
  clear hb1 hb2 HF
  cases b
  · clear hbt
    go_wp2_with fail
    refine (lives_calls w2).mono ?_
    rintro e w3 ⟨rfl, hb3⟩
    go_wp2
    go_ret
    exact ⟨rfl, hb12.trans (hb3.mono hb12.size)⟩
  · have HT := Lib.hid (hbt rfl)
    clear hbt
    have hs2 := hb12.size
    go_wp2
    go_loopw [3, 21] (fun v i wr => ∃ (k : Nat) (A' : Option Addr) (c' : Nat) (D : List Lst), k ≤ L.length ∧ i = .int .i64 (k : Int) ∧ v = .slice A' k c' ∧ Hid (Own wr w2.heap.size k A' c' D L) ∧ Below w2.heap.size w2 wr) (fun _ i _ => L.length - (intOf i).toNat)
    case atStart => exact ⟨0, none, 0, [], Nat.zero_le _, rfl, rfl, Lib.hid ⟨World.ownsRow_nil _ _ _ _, rfl, fun i hi => absurd hi (by omega)⟩, Below.refl _ _⟩
    case round =>
      obtain ⟨k, A', c', D, hk, rfl, rfl, HO, hbel⟩ := hrel
      have hsz := hbel.size
      by_cases hlt : k < L.length
      · have r1 := H1.out.below ((hb12.trans (hbel.mono hs2)).mono hB)
        obtain ⟨bL, oL, eL, hbL, -⟩ := r1.at_ (by omega)
        have yL := r1.cell_ eL hlt
        have i0 : (0 : Int) ≤ (k : Int) := by omega
        have i9 : (k : Int) < (L.length : Int) := by omega
        have kx := r1.each _ (lt_mem hlt)
        have hle := lAll_mem (lt_mem hlt)
        have HTW := Lib.hid (twinsR_calls (c := (lt_ L k).cp) wr kx.rows (by omega) (by have := HT.out.1; omega))
        have HSN := Lib.hid fun (w' w'' : World) (x : Lst) (A' : Option Addr) (c' : Nat) (A0 : Option Addr) (c0 : Nat) (h : Own w' w2.heap.size k A0 c0 D L) hx hs hr hg => Own.snoc (w := w') (w' := w'') (x := x) (A' := A') (c' := c') (A := A0) (c := c0) h hx hs hr hg
        have hk9 : L.length ≤ 9 := HT.out.2
        clear r1 kx hle
        subst eL
        generalize lt_ L k = x at *
        go_wp2_with fail
        refine HTW.out.mono ?_
        rintro e w3 ⟨A3, c3, d, rfl, hdl, hsm, hro, hb3⟩
        have hs3 := hb3.size
        have hb4 := (Below.refl w3.heap.size w3).alloc (Nat.le_refl _) (.cells #[.slice A3 x.l.length c3] 47)
        have HO4 := Lib.hid (HO.out.below (hb3.trans (hb4.mono hs3)))
        have hrd : Reads (w3.alloc (.cells #[.slice A3 x.l.length c3] 47)) (w3.heap.size + 1) 1 (some ⟨w3.heap.size, 0, none⟩) 1 [.slice A3 x.l.length c3] := Reads.made (n := 1) (size := 1) w3 _ 47 rfl
        have HRO := Lib.hid (hro.below hb4)
        have HB4 : Hid (Below w2.heap.size w2 (w3.alloc (.cells #[.slice A3 x.l.length c3] 47))) := Lib.hid (hbel.trans ((hb3.trans (hb4.mono hs3)).mono hsz))
        clear HTW hro hb4
        go_wp2_with (at_builtin; go_must (refine wpList_append_sl _ rfl (.tmp 25) (.tmp 28) _ rfl w2.heap.size 47 _ 1 24 Try.underlying45 Try.infoRows rfl (by omega) _ _ _ rfl HO4.out.row (w3.heap.size + 1) _ 1 1 _ rfl hrd (by simp [Value.oneCell']) (by unfold maxLen; omega) (by omega) (by simp; omega) ?_))
        intro A5 c5 w5 hc51 hc52 hr5 hbel5 hown5 hgr _
        have e1 : (⟨d, A3, c3⟩ : Lst).v = .slice A3 x.l.length c3 := by show Value.slice A3 d.length c3 = _; rw [hdl]
        have HX : Hid (Own w5 w2.heap.size (k + 1) A5 c5 (D ++ [⟨d, A3, c3⟩]) L) := Lib.hid (HSN.out _ w5 ⟨d, A3, c3⟩ A5 c5 A' c' HO4.out (by rw [e1]; exact HRO.out.low (by omega)) hsm (by rw [e1]; exact hown5) hgr)
        clear e1
        have HB5 : Hid (Below w2.heap.size w2 w5) := Lib.hid (HB4.out.trans hbel5)
        clear HSN hr5 hbel5 hown5 hgr hrd HRO HO4 HB4
        go_wp2
        go_roundw
        case rel => exact ⟨k + 1, A5, c5, _, by omega, by go_num, rfl, HX, HB5.out⟩
        case measure => simp [intOf]; omega
      · obtain rfl : k = L.length := by omega
        obtain ⟨wa, rfl⟩ : ∃ wa : World, wa = wr := ⟨_, rfl⟩
        have HLD : Hid (Lists wa wa.heap.size A' D) := Lib.hid (HO.out.lists_ H1.out (Nat.le_refl _))
        have hDl : D.length = L.length := HO.out.len
        have HLG := Lib.hid (merge_same HO.out.logs_)
        have HTD : (lAll D).length ≤ 200 := by rw [HO.out.total]; have := HT.out.1; omega
        have hbw : Below w.heap.size w wa := hb12.trans (hbel.mono hs2)
        have HSA : Hid (∀ i, i < L.length → SameL (lt_ D i).l (lt_ L i).l) := Lib.hid fun i hi => (HO.out.each i hi).2
        have HR1 := Lib.hid (rows_calls (c := c') wa HLD.out (Nat.le_refl _) HTD (by rw [hDl]; have := HT.out.2; omega))
        rw [hDl] at HR1
        have HR2 : Hid (∀ W, Below wa.heap.size wa W → Calls Try.prog 23 #[.slice A L.length c] W (RetRef W L)) := Lib.hid fun W hW => refRows_calls W (H1.out.below ((hbw.trans (hW.mono (by omega))).mono hB)) (by have := hW.size; omega) (by have := HT.out.1; omega) (by have := HT.out.2; omega)
        clear HO hlt hk HTD
        go_wp2_with fail
        refine HR1.out.mono ?_
        rintro e w3 ⟨A3, c3, m, rfl, hm, hmo, hb3⟩
        have HM := Lib.hid hm
        have HMO := Lib.hid hmo
        clear hm hmo HR1
        go_wp2_with fail
        refine (HR2.out _ hb3).mono ?_
        rintro e w4 ⟨A4, c4, x, rfl, hx, hxo, hb4⟩
        have HXE := Lib.hid hx
        have HXO := Lib.hid hxo
        have HB4 : Hid (Below wa.heap.size wa w4) := Lib.hid (hb3.trans (hb4.mono hb3.size))
        have HMO4 := Lib.hid (HMO.out.below hb4)
        have hs4 := HB4.out.size
        clear hx hxo hb3 hb4 HR2 HMO
        go_wp2
        have hDl2 := hDl
        clear hDl2
        go_loopw [43] (fun i w5 => ∃ k : Nat, k ≤ L.length ∧ i = .int .i64 (k : Int) ∧ Below w4.heap.size w4 w5) (fun i _ => L.length - (intOf i).toNat)
        case atStart => exact ⟨0, Nat.zero_le _, rfl, Below.refl _ _⟩
        case round =>
          obtain ⟨k, hk, rfl, hb5⟩ := hrel
          obtain ⟨w5, rfl⟩ : ∃ w5 : World, w5 = wr := ⟨_, rfl⟩
          have hs5 := hb5.size
          by_cases hlt : k < L.length
          · have hb05 : Below wa.heap.size wa w5 := HB4.out.trans (hb5.mono hs4)
            have r1 := H1.out.below ((hbw.trans (hb05.mono (by omega))).mono hB)
            have r2 := HLD.out.below hb05
            obtain ⟨bL, oL, eL, hbL, -⟩ := r1.at_ (by omega)
            obtain ⟨bD, oD, eD, hbD, -⟩ := r2.at_ (by omega)
            have Hkeep : Hid (∀ W, Below w5.heap.size w5 W → W.cell? ⟨bD, oD + k, none⟩ = some (.slice (lt_ D k).A (lt_ D k).l.length (lt_ D k).cp) ∧ W.cell? ⟨bL, oL + k, none⟩ = some (.slice (lt_ L k).A (lt_ L k).l.length (lt_ L k).cp)) := Lib.hid fun W hW => ⟨(r2.below (hW.mono (by omega))).cell_ eD (by omega), (r1.below (hW.mono (by omega))).cell_ eL hlt⟩
            have i0 : (0 : Int) ≤ (k : Int) := by omega
            have i9 : (k : Int) < (L.length : Int) := by omega
            have kL := r1.each _ (lt_mem hlt)
            have kD := r2.each _ (lt_mem (show k < D.length by omega))
            have HSR : Hid (∀ W, Below w5.heap.size w5 W → Calls Try.prog 24 #[.slice (lt_ D k).A (lt_ D k).l.length (lt_ D k).cp, .slice (lt_ L k).A (lt_ L k).l.length (lt_ L k).cp] W fun e w' => e = .returned (.bool true) ∧ Below W.heap.size W w') := Lib.hid fun W hW => sameRowsL_calls W (kD.rows.below (hW.mono (by omega))) (kL.rows.below (hW.mono (by omega))) (by have := hW.size; omega) (by have := hW.size; omega) (HSA.out k hlt) kD.len
            have HBB : Hid (∀ w6, Below w5.heap.size w5 w6 → Below w4.heap.size w4 w6) := Lib.hid fun w6 hb => hb5.trans (hb.mono hs5)
            clear r1 r2 kL kD hb05
            subst eL eD
            generalize lt_ L k = x1 at *
            generalize lt_ D k = x2 at *
            obtain ⟨t1, t2⟩ := Hkeep.out w5 (Below.refl _ _)
            go_wp2_with fail
            go_region_held3 (fun w' => w'.cell? ⟨bD, oD + k, none⟩ = some (.slice x2.A x2.l.length x2.cp) ∧ w'.cell? ⟨bL, oL + k, none⟩ = some (.slice x1.A x1.l.length x1.cp)) (exact Hkeep.out _ (by first | assumption | exact below_drewN_ (Below.refl _ _) 1)) ((go_at_call 24; refine (HSR.out _ (below_drewN_ (Below.refl _ _) 1)).mono ?_; rintro e w6 ⟨rfl, hb6⟩; have he6 : Below w5.heap.size w5 w6 := (below_drewN_ (Below.refl _ _) 1).trans hb6))
            have hz6 := HBB.out _ he6
            go_wp2
            go_roundw
            case rel => exact ⟨k + 1, by omega, by go_num, hz6⟩
            case measure => simp [intOf]; omega
          · obtain rfl : k = L.length := by omega
            have hbw5 : Below w.heap.size w w5 := hbw.trans ((HB4.out.trans (hb5.mono hs4)).mono (by omega))
            have HBW := Lib.hid hbw5
            have r1 := H1.out.below (hbw5.mono hB)
            have hxr : Rows w5 w5.heap.size A4 x := ⟨(Reads.of_own (own_below HXO.out hb5)), fun y hy => (r1.row_ok y (mem_rows (by rw [← HXE.out]; exact hy))).more (by have := hbw5.size; omega)⟩
            have HSR := Lib.hid (sameRowsL_calls (c1 := c3) (c2 := c4) w5 ((HMO4.out.below hb5).rows (SameL.fits (Eq.symm HM.out) HLD.out.fits)) hxr (Nat.le_refl _) (Nat.le_refl _) (by rw [HXE.out]; exact Eq.trans HM.out HLG.out.2) (by have h1 := HM.out.len; have h2 := HLG.out.2.len; have h3 := rows_len L; have := HT.out.1; omega))
            rw [HLG.out.1]
            generalize mErr (lists L) = ee at *
            have ee0 : (ee == ee) = true := eqt rfl
            clear r1 hxr hbw5
            go_wp2_with fail
            refine HSR.out.mono ?_
            rintro e w6 ⟨rfl, hb6⟩
            go_wp2
            go_ret
            exact ⟨rfl, HBW.out.trans (hb6.mono HBW.out.size)⟩
theorem walk {H : Type} {enc : TypeId × Value → H} {W : World} {base : Nat} {v0 : Value} {d0 : DataW H} {p0 : List MemPlace} (g0 : Arg enc Try.prog W base 45 v0 d0 p0) :
    Calls Try.prog 6 #[v0] W fun e w' => e = .returned (.bool true) ∧ Below W.heap.size W w' := by
  obtain ⟨A, c, L, rfl, hc, hl, hL⟩ := arg_lists g0
  exact body W hL (Nat.le_refl _) hl
end Go.Proofs.Ytophfgijfmdbcaa.lawMergeRows
