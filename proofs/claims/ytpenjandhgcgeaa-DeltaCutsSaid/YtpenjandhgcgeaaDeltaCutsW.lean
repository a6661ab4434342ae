/- The walk of DeltaCuts: a row's bytes, cut anywhere, end too soon; with anything behind them they are too long. -/
import Derived.Test.YtpenjandhgcgeaaDelD
import Derived.Test.YtpenjandhgcgeaaOpen
namespace Go.Proofs.Ytpenjandhgcgeaa.lawDeltaCuts
open Go.RowKit

theorem cut_in (x : Int) {s : Nat} (h1 : 1 ≤ s) (h2 : s ≤ 20490) : ∃ P : Nat, wrap64 ((IntKind.u64.wrap x).tmod (s : Int)) = (P : Int) ∧ P < s := by
  have h0 : 0 ≤ IntKind.u64.wrap x := by rw [IntKind.wrap_u64]; omega
  have h3 : (IntKind.u64.wrap x).tmod (s : Int) = IntKind.u64.wrap x % (s : Int) := Int.tmod_eq_emod_of_nonneg h0
  have h4 := Int.emod_nonneg (IntKind.u64.wrap x) (b := (s : Int)) (by omega)
  have h5 := Int.emod_lt_of_pos (IntKind.u64.wrap x) (b := (s : Int)) (by omega)
  rw [h3]
  refine ⟨(IntKind.u64.wrap x % (s : Int)).toNat, ?_, by omega⟩
  unfold wrap64; omega

set_option maxRecDepth 100000 in
set_option maxHeartbeats 1600000 in
theorem body (w : World) {A : Option Addr} {c : Nat} {l : List Int} (h : I64s w w.heap.size A l) (hnc : l.length ≤ c) (hc : c ≤ 140737488351232) (way : Int) (x : Int) :
    Calls Try.prog 8 #[.slice A l.length c, .int .i64 way, .int .i64 x] w fun e w' => e = .returned (.bool true) ∧ Below w.heap.size w w' := by
  by_cases hn : 2048 < l.length
  · go_enter Try.func8, Try.ntmps8
    go_wp2_with fail
    refine (lives_calls w).mono ?_
    rintro e w1 ⟨rfl, hbel1⟩
    go_wp2_with fail
    refine (lives_calls w1).mono ?_
    rintro e w2 ⟨rfl, hbel2⟩
    go_wp2
    go_ret
    exact ⟨rfl, hbel1.trans (hbel2.mono hbel1.size)⟩
  · have HE : Hid (∀ wx, Below w.heap.size w wx → Calls Try.prog 11 #[.slice A l.length c, .int .i64 way] wx (RetBE wx (dEncR l way))) := Lib.hid fun wx hb => encode_calls wx (c := c) way (h.below hb) hb.size (by omega)
    go_enter Try.func8, Try.ntmps8
    go_wp2_with fail
    refine (lives_calls w).mono ?_
    rintro e w1 ⟨rfl, hbel1⟩
    by_cases hd : dcheck l way = 0
    · obtain ⟨hw, hl, ha⟩ := dcheck_0 hd
      obtain ⟨v, rfl, hv⟩ := way_nat hw
      rw [dEncR_ok hd] at HE
      have hcut := fun {j : Nat} => @ddec_cut (v : Int) l hw ha hl j
      have htail := ddec_tail hw ha hl [0]
      rw [if_neg (by simp)] at htail
      rw [Int.toNat_natCast] at hcut htail
      have hdl := denc_len (way := v) ha hl
      have HC : Hid (∀ j : Nat, j < (denc v l).length → ddec ((denc v l).take j) (v : Int) = ([], 3)) := Lib.hid fun j hj => hcut hj
      have HT := Lib.hid htail
      clear hd hw ha hcut htail
      generalize denc v l = E at *
      obtain ⟨hE1, hE2⟩ := hdl
      go_wp2_with fail
      refine (HE.out w1 hbel1).mono ?_
      rintro e w2 he
      obtain ⟨A2, c2, rfl, hc2, hm2, hby2, hbel2, hown2⟩ := he.opened
      clear he
      dsimp only at hby2 hc2 hown2 ⊢
      have k2 := hbel1.trans (hbel2.mono hbel1.size)
      obtain ⟨P, hP, hPl⟩ := cut_in x hE2 hE1
      have i1 : (P : Int) ≤ (c2 : Int) := by omega
      have i2 : (0 : Int) ≤ (P : Int) := by omega
      have i3 : (P : Int) ≤ (E.length : Int) := by omega
      have hbt := hby2.taken (k := P) (by omega)
      have hbl : (E.take P).length = P := by rw [List.length_take]; omega
      have hbt2 : Bytes w2 w2.heap.size A2 (E.take P).length (E.take P) := by rw [hbl]; exact hbt
      have hdc := decode_calls w2 (c := c2) (v : Int) hbt2 (Nat.le_refl _) (by omega) (by omega)
      rw [HC.out P hPl, hbl] at hdc
      have HD := Lib.hid hdc
      clear hdc hbt2 hbl hbt
      go_wp2_with fail
      refine HD.out.mono ?_
      rintro e w3 he
      obtain ⟨A3, c3, rfl, -, -, -, hbel3, -⟩ := he.opened
      clear he
      dsimp only at ⊢
      have k3 := k2.trans (hbel3.mono k2.size)
      have hown3 := own_below hown2 hbel3
      have s13 : w1.heap.size ≤ w3.heap.size := Nat.le_trans hbel2.size hbel3.size
      go_wp2_with (at_builtin; go_must (refine wpList_push _ rfl (.tmp 47) (.tmp 48) _ rfl w1.heap.size 5 _ 1 Try.underlying27 Try.infoU8 rfl _ _ _ _ _ rfl rfl hown3 rfl (by unfold maxLen; omega) (by omega) s13 ?_))
      intro v4 w4 hown4 hbel4 _ _
      have hown5 := own_snoc (b := 0) hown4 rfl
      obtain ⟨A5, c5, rfl, hc5, hm5, hr5⟩ := own_slice hown5
      have k13 : Below w1.heap.size w1 w3 := hbel2.trans (hbel3.mono hbel2.size)
      have k4 : Below w.heap.size w w4 := hbel1.trans ((k13.trans hbel4).mono hbel1.size)
      have hFl : (E ++ [0]).length ≤ 20491 := by rw [List.length_append]; simp; omega
      clear hown4
      generalize E ++ [0] = F at *
      have hdc := decode_calls w4 (c := c5) (v : Int) (own_bytes hown5) (Nat.le_refl _) hc5 (by omega)
      rw [HT.out] at hdc
      have HD2 := Lib.hid hdc
      clear hdc hown3 hr5 hown2
      go_wp2_with fail
      refine HD2.out.mono ?_
      rintro e w6 he
      obtain ⟨A6, c6, rfl, -, -, -, hbel6, -⟩ := he.opened
      clear he
      dsimp only at ⊢
      go_wp2
      go_ret
      exact ⟨rfl, k4.trans (hbel6.mono k4.size)⟩
    · rw [dEncR_bad hd] at HE
      have q : (((dcheck l way : Nat) : Int) != 0) = true := net (by omega)
      generalize dcheck l way = d at *
      clear hd
      go_wp2_with fail
      refine (HE.out w1 hbel1).mono ?_
      rintro e w2 he
      obtain ⟨A2, c2, rfl, -, -, -, hbel2, -⟩ := he.opened
      clear he
      dsimp only at ⊢
      go_wp2
      go_ret
      exact ⟨rfl, hbel1.trans (hbel2.mono hbel1.size)⟩

theorem walk {H : Type} {enc : TypeId × Value → H} {W : World} {base : Nat} {v0 v1 v2 : Value} {d0 d1 d2 : DataW H} {p0 p1 p2 : List MemPlace} (g0 : Arg enc Try.prog W base 22 v0 d0 p0) (g1 : Arg enc Try.prog W base 3 v1 d1 p1) (g2 : Arg enc Try.prog W base 3 v2 d2 p2) :
    Calls Try.prog 8 #[v0, v1, v2] W fun e w' => e = .returned (.bool true) ∧ Below W.heap.size W w' := by
  obtain ⟨A, n, c, l, rfl, rfl, hn, hm, hr, hb, -⟩ := g0.ints Try.underlying22 Try.underlying2 (by kernel_rfl)
  obtain ⟨x, rfl, -, -⟩ := g1.int Try.underlying3
  obtain ⟨y, rfl, -, -⟩ := g2.int Try.underlying3
  have e8 : Try.prog.bytesOf 2 = 8 := by kernel_rfl
  rw [e8] at hr
  exact body W hb hn (by omega) x y
end Go.Proofs.Ytpenjandhgcgeaa.lawDeltaCuts
