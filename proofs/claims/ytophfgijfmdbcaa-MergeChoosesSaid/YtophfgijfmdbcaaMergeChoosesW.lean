/- MergeChooses: the walk. -/
import Derived.Test.YtophfgijfmdbcaaProg
import Derived.Test.YtophfgijfmdbcaaMeL
namespace Go.Proofs.Ytophfgijfmdbcaa.lawMergeChooses
open Go.RowKit Go.Proofs.Ytophfgijfmdbcaa.So

theorem neq_same (W : World) (x : Ent) : (binOp .neq 29 (.agg #[.string x.key, .int .i64 x.window, .string x.part, .int .i64 x.first, .int .i64 x.last, .int .i64 x.rows, .int .i64 x.size, .int .u32 x.sum, .int .i64 x.born]) (.agg #[.string x.key, .int .i64 x.window, .string x.part, .int .i64 x.first, .int .i64 x.last, .int .i64 x.rows, .int .i64 x.size, .int .u32 x.sum, .int .i64 x.born])).run Try.prog W = .ok (.bool false) W := by
  have u3 := Try.underlying9
  have a3 := Try.isAgg9
  have z3 := Try.sizeOf9
  have u4 := Try.underlying3
  have a4 := Try.isAgg3
  have z4 := Try.sizeOf3
  have u5 := Try.underlying27
  have a5 := Try.isAgg27
  have z5 := Try.sizeOf27
  have hS : Try.prog.underlying 29 = some (.struct (Try.prog.fieldsOf 29)) := by kernel_rfl
  have hp : Try.prog.stoodInHeld 29 = false := by kernel_rfl
  rw [run_neq_struct, show (10000 : Nat) = 9999 + 1 from rfl, run_equalIn_agg W 9999 29 _ _ hS hp]
  simp only [Program.fieldsOf, Try.underlying29]
  go_simp

set_option maxRecDepth 100000 in
set_option maxHeartbeats 3200000 in
theorem early (w : World) {B c : Nat} {A : Option Addr} {l : List Ent} (small most : Int) (h : Ents w B A l) (hB : B ≤ w.heap.size) (hn : l.length ≤ 4398046511104) (hf : FitE l) (hm : most < 0 ∨ 1099511627776 < most) :
    Calls Try.prog 3 #[.slice A l.length c, .int .i64 small, .int .i64 most] w fun e w' => e = .returned (.bool true) ∧ Below w.heap.size w w' := by
  have HP := Lib.hid fun W (hW : Below w.heap.size w W) => plain_calls W (c := c) (h.below (hW.mono hB)) (by have := hW.size; omega) hn hf
  clear h hf
  go_enter Try.func3, Try.ntmps3
  go_wp2_with fail
  refine (lives_calls w).mono ?_
  rintro e w1 ⟨rfl, hb1⟩
  go_wp2_with fail
  refine (HP.out w1 hb1).mono ?_
  rintro e w2 ⟨b, rfl, _, hb2⟩
  have hb12 := hb1.trans (hb2.mono hb1.size)
  clear hb1 hb2
  rcases hm with hm | hm
  · have d1 : decide (most < 0) = true := dct hm
    cases b
    · go_wp2_with fail
      refine (lives_calls w2).mono ?_
      rintro e w3 ⟨rfl, hb3⟩
      go_wp2
      go_ret
      exact ⟨rfl, hb12.trans (hb3.mono hb12.size)⟩
    · go_wp2_with fail
      refine (lives_calls w2).mono ?_
      rintro e w3 ⟨rfl, hb3⟩
      go_wp2
      go_ret
      exact ⟨rfl, hb12.trans (hb3.mono hb12.size)⟩
  · have d1 : decide (most < 0) = false := dcf (by omega)
    have d2 : decide (1099511627776 < most) = true := dct hm
    cases b
    · go_wp2_with fail
      refine (lives_calls w2).mono ?_
      rintro e w3 ⟨rfl, hb3⟩
      go_wp2
      go_ret
      exact ⟨rfl, hb12.trans (hb3.mono hb12.size)⟩
    · go_wp2_with fail
      refine (lives_calls w2).mono ?_
      rintro e w3 ⟨rfl, hb3⟩
      go_wp2
      go_ret
      exact ⟨rfl, hb12.trans (hb3.mono hb12.size)⟩

set_option maxRecDepth 100000 in
set_option maxHeartbeats 3200000 in
theorem body (w : World) {B c : Nat} {A : Option Addr} {l : List Ent} (small most : Int) (h : Ents w B A l) (hB : B ≤ w.heap.size) (hn : l.length ≤ 4398046511104) (hf : FitE l) (hm0 : 0 ≤ most) (hm1 : most ≤ 1099511627776) :
    Calls Try.prog 3 #[.slice A l.length c, .int .i64 small, .int .i64 most] w fun e w' => e = .returned (.bool true) ∧ Below w.heap.size w w' := by
  have HP := Lib.hid fun W (hW : Below w.heap.size w W) => plain_calls W (c := c) (h.below (hW.mono hB)) (by have := hW.size; omega) hn hf
  have d1 : decide (most < 0) = false := dcf (by omega)
  have d2 : decide (1099511627776 < most) = false := dcf (by omega)
  have HL := Lib.hid h
  clear hf h
  go_enter Try.func3, Try.ntmps3
  go_wp2_with fail
  refine (lives_calls w).mono ?_
  rintro e w1 ⟨rfl, hb1⟩
  go_wp2_with fail
  refine (HP.out w1 hb1).mono ?_
  rintro e w2 ⟨b, rfl, hpl, hb2⟩
  have hb12 := hb1.trans (hb2.mono hb1.size)
  have HPL := Lib.hid hpl
  clear hb1 hb2 hpl HP
  cases b
  · go_wp2_with fail
    refine (lives_calls w2).mono ?_
    rintro e w3 ⟨rfl, hb3⟩
    go_wp2
    go_ret
    exact ⟨rfl, hb12.trans (hb3.mono hb12.size)⟩
  · have hp := HPL.out rfl
    have hn61 := hp.len
    have HR := Lib.hid hp.rows
    clear hp HPL
    have hs2 := hb12.size
    have hL2 : Ents w2 B A l := Reads.below HL.out (hb12.mono hB)
    go_wp2_with (at_builtin; go_must (refine wpList_append_sl _ rfl (.tmp 26) (.tmp 27) _ rfl w2.heap.size 29 _ 9 88 Try.underlying22 Try.infoEnt rfl (by omega) _ _ _ rfl (World.ownsRow_made w2 #[] 0 (Nat.le_refl _) (Nat.zero_le _) rfl) B A l.length c (flat Ent.c l) rfl (Reads.below hL2 ((Below.refl _ _).alloc (by omega) _)) (flat_one l) (by unfold maxLen; omega) (by omega) (by simp) ?_))
    intro A3 c3 w3 hc31 hc32 hrd3 hbel3 hown3 _ _
    have hb23 : Below w2.heap.size w2 w3 := ((Below.refl _ _).alloc (Nat.le_refl _) _).trans hbel3
    have hE3 : Ents w3 w3.heap.size A3 l := by unfold Ents; simpa using hrd3
    have hs3 := hb23.size
    have hC := choose_calls w3 (c := c3) small most hE3 (Nat.le_refl _) (by omega) hm0 hm1 (fun x hx => by have := HR.out x hx; omega)
    have HC := Lib.hid hC
    have HE3 := Lib.hid hE3
    have HB23 := Lib.hid hb23
    clear hC hE3 hb23 hbel3 hown3 hrd3 hL2
    go_wp2_with fail
    refine HC.out.mono ?_
    rintro e w4 ⟨A4, c4, rfl, hown4, hb4⟩
    have hs4 := hb4.size
    have HO4 := Lib.hid hown4
    have HB4 := Lib.hid hb4
    have HB24 := Lib.hid (HB23.out.trans (hb4.mono (by omega)))
    clear hown4 hb4
    go_wp2
    go_loopw [35] (fun vi wr => ∃ i : Nat, i ≤ l.length ∧ vi = .int .i64 (i : Int) ∧ Below w4.heap.size w4 wr) (fun vi _ => l.length - (intOf vi).toNat)
    case atStart => exact ⟨0, Nat.zero_le _, rfl, Below.refl _ _⟩
    case round =>
      obtain ⟨i, hin, rfl, hbel⟩ := hrel
      by_cases hlt : i < l.length
      · obtain ⟨b1, o1, hA, hlb, hc1⟩ := (show Ents wr B A l from Reads.below HL.out ((hb12.mono hB).trans ((HB24.out.mono (by omega)).trans (hbel.mono (by omega))))).nine (by omega)
        obtain ⟨b2, o2, hA3, hlb2, hc2⟩ := (show Ents wr w3.heap.size A3 l from Reads.below HE3.out (HB4.out.trans (hbel.mono (by omega)))).nine (by omega)
        obtain ⟨y0, y1, y2, y3, y4, y5, y6, y7, y8⟩ := hc1 i hlt
        obtain ⟨z0, z1, z2, z3, z4, z5, z6, z7, z8⟩ := hc2 i hlt
        generalize gt l i = x at *
        have hq := fun W => neq_same W x
        subst hA hA3
        clear hc1 hc2
        go_wp2
        go_quiet (fail)
        go_wp2
        go_roundw
        case rel => exact ⟨i + 1, by omega, by go_num, below_drewN_ hbel _⟩
        case measure => simp [intOf]; omega
      · obtain rfl : i = l.length := by omega
        have hbw : Below w2.heap.size w2 wr := HB24.out.trans (hbel.mono (by omega))
        have hsw := hbw.size
        have hRC := refChoose_calls wr (c := c) small most (show Ents wr B A l from Reads.below HL.out ((hb12.mono hB).trans (hbw.mono (by omega)))) (by omega) hn61 hm0 hm1 (fun x hx => by have := HR.out x hx; omega)
        rw [choose_ref small most l fun x hx => (HR.out x hx).1] at hRC
        have HRC := Lib.hid hRC
        have HK : Hid (Strs wr w4.heap.size A4 (chooseE small most l)) := Lib.hid (Reads.below (Reads.of_own HO4.out) hbel)
        have hkl : (chooseE small most l).length ≤ 4398046511104 := by have := choose_len small most l; omega
        clear hRC
        generalize chooseE small most l = ks at *
        have hsr := hbel.size
        go_wp2_with fail
        refine HRC.out.mono ?_
        rintro e w5 ⟨A5, c5, rfl, hown5, hb5⟩
        have hST := sameTexts_same w5 (c := c4) (c2 := c5) (HK.out.below (hb5.mono hsr)) (show Strs w5 w5.heap.size A5 ks from Reads.of_own hown5) (by have := hb5.size; omega) (Nat.le_refl _) hkl
        have HST := Lib.hid hST
        clear hST hown5
        go_wp2_with fail
        refine HST.out.mono ?_
        rintro e w6 ⟨rfl, hb6⟩
        go_wp2
        go_ret
        exact ⟨rfl, hb12.trans ((hbw.mono (by omega)).trans ((hb5.mono (by omega)).trans (hb6.mono (by have := hb5.size; omega))))⟩

theorem walk {H : Type} {enc : TypeId × Value → H} {W : World} {base : Nat} {v0 v1 v2 : Value} {d0 d1 d2 : DataW H} {p0 p1 p2 : List MemPlace} (g0 : Arg enc Try.prog W base 22 v0 d0 p0) (g1 : Arg enc Try.prog W base 3 v1 d1 p1) (g2 : Arg enc Try.prog W base 3 v2 d2 p2) :
    Calls Try.prog 3 #[v0, v1, v2] W fun e w' => e = .returned (.bool true) ∧ Below W.heap.size W w' := by
  obtain ⟨A, c, l, rfl, _, hl, hL, hF⟩ := arg_ents g0
  obtain ⟨small, rfl, _, _⟩ := g1.int Try.underlying3
  obtain ⟨most, rfl, _, _⟩ := g2.int Try.underlying3
  by_cases hm : most < 0 ∨ 1099511627776 < most
  · exact early W small most hL (Nat.le_refl _) hl hF hm
  · exact body W small most hL (Nat.le_refl _) hl hF (by omega) (by omega)
end Go.Proofs.Ytophfgijfmdbcaa.lawMergeChooses
