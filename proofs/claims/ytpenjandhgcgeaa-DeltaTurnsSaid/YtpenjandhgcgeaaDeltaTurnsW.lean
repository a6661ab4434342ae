/- The walk of DeltaTurns: any row, in any way, becomes what the document says, or is refused as it says. -/
import Derived.Test.YtpenjandhgcgeaaDelC
import Derived.Test.YtpenjandhgcgeaaOpen
namespace Go.Proofs.Ytpenjandhgcgeaa.lawDeltaTurns
open Go.RowKit

set_option maxRecDepth 100000 in
set_option maxHeartbeats 1600000 in
theorem body (w : World) {A : Option Addr} {c : Nat} {l : List Int} (h : I64s w w.heap.size A l) (hnc : l.length ≤ c) (hc : c ≤ 140737488351232) (way : Int) :
    Calls Try.prog 3 #[.slice A l.length c, .int .i64 way] w fun e w' => e = .returned (.bool true) ∧ Below w.heap.size w w' := by
  by_cases hn : 2100 < l.length
  · go_enter Try.func3, Try.ntmps3
    go_wp2_with fail
    refine (lives_calls w).mono ?_
    rintro e w1 ⟨rfl, hbel1⟩
    go_wp2_with fail
    refine (lives_calls w1).mono ?_
    rintro e w2 ⟨rfl, hbel2⟩
    go_wp2
    go_ret
    exact ⟨rfl, hbel1.trans (hbel2.mono hbel1.size)⟩
  · go_enter Try.func3, Try.ntmps3
    go_wp2_with fail
    refine (lives_calls w).mono ?_
    rintro e w1 ⟨rfl, hbel1⟩
    have s1 := hbel1.size
    have h1 : I64s w1 w.heap.size A l := h.below hbel1
    go_wp2_with (at_builtin; go_must (refine wpList_append_sl _ rfl (.tmp 19) (.tmp 20) _ rfl w1.heap.size 2 _ 1 8 Try.underlying22 Try.infoI64 rfl (by omega) _ _ _ rfl (World.ownsRow_made w1 #[] 0 (Nat.le_refl _) (Nat.zero_le _) rfl) w.heap.size A l.length c (l.map (Value.int .i64)) rfl (h1.to ((Below.refl w.heap.size w1).alloc s1 _) (Nat.le_refl _)) (i64_one l) (by unfold maxLen; omega) (by omega) (by simp) ?_))
    intro A2 c2 w2 hc2 hm2 hr2 hbel2 hown2 _ _
    have hbelA : Below w1.heap.size w1 w2 := ((Below.refl _ _).alloc (Nat.le_refl _) _).trans hbel2
    have hr2' : I64s w2 w2.heap.size A2 l := by simpa [I64s] using hr2
    have s2 := hbelA.size
    have hbel : Below w.heap.size w w2 := hbel1.trans (hbelA.mono s1)
    have h2 : I64s w2 w.heap.size A l := h.below hbel
    clear hown2 hbel2 hr2 h1
    have HT := Lib.hid (turn_calls w2 (c := c2) way hr2' (Nat.le_refl _) (by omega))
    have HE : Hid (∀ wx, Below w2.heap.size w2 wx → Calls Try.prog 11 #[.slice A2 l.length c2, .int .i64 way] wx (RetBE wx (dEncR l way))) := Lib.hid fun wx hb => encode_calls wx (c := c2) way (hr2'.below hb) hb.size (by omega)
    have HK : Hid (∀ wx, Below w2.heap.size w2 wx → Calls Try.prog 12 #[.slice A l.length c, .int .i64 way] wx fun e w' => e = .returned (.int .i64 (dcheck l way : Nat)) ∧ wx = w') := Lib.hid fun wx hb => checkR_calls wx (c := c) way (h2.below (hb.mono hbel.size)) (by omega)
    have HS : Hid (∀ wx, Below w2.heap.size w2 wx → Calls Try.prog 13 #[.slice A2 l.length c2, .slice A l.length c] wx fun e w' => e = .returned (.bool true) ∧ Below wx.heap.size wx w') := Lib.hid fun wx hb => by
      have := same04_calls wx (c1 := c2) (c2 := c) (hr2'.below hb) (h2.below (hb.mono hbel.size)) (by omega)
      rwa [show (l == l) = true by simp] at this
    by_cases hd : dcheck l way = 0
    · obtain ⟨hw, hl, ha⟩ := dcheck_0 hd
      obtain ⟨v, rfl, hv⟩ := way_nat hw
      rw [dTurnR_ok hd] at HT
      rw [dEncR_ok hd] at HE
      rw [hd] at HK
      have HTR : Hid (∀ wx, Below w2.heap.size w2 wx → Calls Try.prog 14 #[.slice A l.length c, .int .i64 (v : Int)] wx (RetInts wx (dturn v l))) := Lib.hid fun wx hb => turnR_calls wx (c := c) v (h2.below (hb.mono hbel.size)) (Nat.le_trans hbel.size hb.size) hl hv ha
      have HER : Hid (∀ wx, Below w2.heap.size w2 wx → Calls Try.prog 16 #[.slice A l.length c, .int .i64 (v : Int)] wx (RetBytes 5 wx (denc v l))) := Lib.hid fun wx hb => encodeR_calls wx (c := c) v (h2.below (hb.mono hbel.size)) (Nat.le_trans hbel.size hb.size) hl hv ha
      have htl : (dturn v l).length ≤ 2048 := by rw [dturn_len]; exact hl
      generalize dturn v l = T at *
      generalize denc v l = E at *
      clear hd hw ha hr2' h2
      go_wp2_with fail
      refine HT.out.mono ?_
      rintro e w3 he
      obtain ⟨A3, c3, rfl, -, -, hr3, hbel3, -⟩ := he.opened
      clear he
      dsimp only at hr3 ⊢
      go_wp2_with fail
      refine (HE.out w3 hbel3).mono ?_
      rintro e w4 he
      obtain ⟨A4, c4, rfl, -, -, hby4, hbel4, -⟩ := he.opened
      clear he
      dsimp only at hby4 ⊢
      have k4 := hbel3.trans (hbel4.mono hbel3.size)
      have hr4 := hr3.below hbel4
      go_wp2_with fail
      refine (HK.out w4 k4).mono ?_
      rintro e w' ⟨rfl, rfl⟩
      go_wp2_with fail
      refine (HS.out w4 k4).mono ?_
      rintro e w5 ⟨rfl, hbel5⟩
      have k5 := k4.trans (hbel5.mono k4.size)
      have hr5 := hr4.below (hbel5.mono hbel4.size)
      have hby5 := hby4.below hbel5
      go_wp2_with fail
      refine (HTR.out w5 k5).mono ?_
      rintro e w6 he
      obtain ⟨A6, c6, rfl, -, -, hr6, hbel6, -⟩ := he.opened
      clear he
      have k6 := k5.trans (hbel6.mono k5.size)
      have hr56 := hr5.below (hbel6.mono (Nat.le_trans hbel4.size hbel5.size))
      have hby6 := hby5.below (hbel6.mono hbel5.size)
      have hs := same04_calls w6 (c1 := c3) (c2 := c6) hr56 hr6 (by omega)
      rw [show (T == T) = true by simp] at hs
      have Hs := Lib.hid hs
      clear hs
      go_wp2_with fail
      refine Hs.out.mono ?_
      rintro e w7 ⟨rfl, hbel7⟩
      have k7 := k6.trans (hbel7.mono k6.size)
      have hby7 := hby6.below (hbel7.mono (Nat.le_trans hbel5.size hbel6.size))
      go_wp2_with fail
      refine (HER.out w7 k7).mono ?_
      rintro e w8 he
      obtain ⟨A8, c8, rfl, -, -, hby8, hbel8, -⟩ := he.opened
      clear he
      have k8 := k7.trans (hbel8.mono k7.size)
      have hby78 := hby7.below (hbel8.mono (Nat.le_trans hbel5.size (Nat.le_trans hbel6.size hbel7.size)))
      have hs := same_calls w8 (c1 := c4) (c2 := c8) hby78 hby8
      rw [show (E == E) = true by simp] at hs
      have Hs2 := Lib.hid hs
      clear hs
      go_wp2_with fail
      refine Hs2.out.mono ?_
      rintro e w' ⟨rfl, rfl⟩
      go_wp2
      go_ret
      exact ⟨rfl, hbel.trans (k8.mono hbel.size)⟩
    · rw [dTurnR_bad hd] at HT
      rw [dEncR_bad hd] at HE
      have q : (((dcheck l way : Nat) : Int) != 0) = true := net (by omega)
      generalize dcheck l way = d at *
      clear hd hr2' h2
      go_wp2_with fail
      refine HT.out.mono ?_
      rintro e w3 he
      obtain ⟨A3, c3, rfl, -, -, -, hbel3, -⟩ := he.opened
      clear he
      dsimp only at ⊢
      go_wp2_with fail
      refine (HE.out w3 hbel3).mono ?_
      rintro e w4 he
      obtain ⟨A4, c4, rfl, -, -, -, hbel4, -⟩ := he.opened
      clear he
      dsimp only at ⊢
      have k4 := hbel3.trans (hbel4.mono hbel3.size)
      go_wp2_with fail
      refine (HK.out w4 k4).mono ?_
      rintro e w' ⟨rfl, rfl⟩
      go_wp2_with fail
      refine (HS.out w4 k4).mono ?_
      rintro e w5 ⟨rfl, hbel5⟩
      have k5 := k4.trans (hbel5.mono k4.size)
      go_wp2
      go_ret
      exact ⟨rfl, hbel.trans (k5.mono hbel.size)⟩

theorem walk {H : Type} {enc : TypeId × Value → H} {W : World} {base : Nat} {v0 v1 : Value} {d0 d1 : DataW H} {p0 p1 : List MemPlace} (g0 : Arg enc Try.prog W base 22 v0 d0 p0) (g1 : Arg enc Try.prog W base 3 v1 d1 p1) :
    Calls Try.prog 3 #[v0, v1] W fun e w' => e = .returned (.bool true) ∧ Below W.heap.size W w' := by
  obtain ⟨A, n, c, l, rfl, rfl, hn, hm, hr, hb, -⟩ := g0.ints Try.underlying22 Try.underlying2 (by kernel_rfl)
  obtain ⟨x, rfl, -, -⟩ := g1.int Try.underlying3
  have e8 : Try.prog.bytesOf 2 = 8 := by kernel_rfl
  rw [e8] at hr
  exact body W hb hn (by omega) x
end Go.Proofs.Ytpenjandhgcgeaa.lawDeltaTurns
