/- The walk of DeltaReads: any bytes are the row that the document says, in any way, or refused with the first error. -/
import Derived.Test.YtpenjandhgcgeaaDelE
import Derived.Test.YtpenjandhgcgeaaOpen
namespace Go.Proofs.Ytpenjandhgcgeaa.lawDeltaReads
open Go.RowKit

theorem dloop_len (b : List UInt8) (way : Nat) : ∀ (c at_ : Nat) (out : List Int), (dloop b way c at_ out).1.length ≤ out.length + c
  | 0, at_, out => by simp [dloop]
  | c + 1, at_, out => by
    simp only [dloop]
    split
    · simp
    · split
      · have := dloop_len b way c (at_ + (readU b at_).2.1) (out ++ [dbase way out + zagI (readU b at_).1])
        simp only [List.length_append, List.length_cons, List.length_nil] at this
        omega
      · simp
theorem ddec_len (b : List UInt8) (way : Int) : (ddec b way).1.length ≤ 140737488355328 := by
  unfold ddec
  split
  · simp
  · split
    · simp
    · split
      · simp
      · split
        · simp
        · split
          · simp
          · have := dloop_len b way.toNat (readU b 0).1 (readU b 0).2.1 []
            simp only [List.length_nil] at this
            dsimp only
            omega

set_option maxRecDepth 100000 in
set_option maxHeartbeats 1600000 in
theorem body (w : World) {A : Option Addr} {c : Nat} {b : List UInt8} (h : Bytes w w.heap.size A b.length b) (hnc : b.length ≤ c) (hc : c ≤ 140737488351232) (way : Int) :
    Calls Try.prog 6 #[.slice A b.length c, .int .i64 way] w fun e w' => e = .returned (.bool true) ∧ Below w.heap.size w w' := by
  by_cases hn : 9000 < b.length
  · go_enter Try.func6, Try.ntmps6
    go_wp2_with fail
    refine (lives_calls w).mono ?_
    rintro e w1 ⟨rfl, hbel1⟩
    go_wp2_with fail
    refine (lives_calls w1).mono ?_
    rintro e w2 ⟨rfl, hbel2⟩
    go_wp2
    go_ret
    exact ⟨rfl, hbel1.trans (hbel2.mono hbel1.size)⟩
  · go_enter Try.func6, Try.ntmps6
    go_wp2_with fail
    refine (lives_calls w).mono ?_
    rintro e w1 ⟨rfl, hbel1⟩
    have s1 := hbel1.size
    go_wp2_with fail
    refine (twin_calls w1 (h.below hbel1) s1 (by omega)).mono ?_
    rintro e w2 he
    obtain ⟨A2, c2, rfl, hc2, hm2, hby2, hbel2, -⟩ := he.opened
    clear he
    have k2 := hbel1.trans (hbel2.mono s1)
    have HD := Lib.hid (decode_calls w2 (c := c2) way hby2 (Nat.le_refl _) hc2 (by omega))
    go_wp2_with fail
    refine HD.out.mono ?_
    rintro e w3 he
    obtain ⟨A3, c3, rfl, -, -, hr3, hbel3, -⟩ := he.opened
    clear he
    have k3 := k2.trans (hbel3.mono k2.size)
    have HD2 := Lib.hid (decodeR_calls w3 (c := c) way (h.below k3) k3.size hnc (by omega))
    go_wp2_with fail
    refine HD2.out.mono ?_
    rintro e w4 he
    obtain ⟨A4, c4, rfl, -, -, hr4, hbel4, -⟩ := he.opened
    clear he
    have k4 := k3.trans (hbel4.mono k3.size)
    have hlen : (ddec b way).1.length ≤ 140737488355328 := ddec_len b way
    have hs := same04_calls w4 (c1 := c3) (c2 := c4) (hr3.below hbel4) hr4 hlen
    rw [show ((ddec b way).1 == (ddec b way).1) = true by simp] at hs
    have HS := Lib.hid hs
    clear hs
    generalize ddec b way = D at *
    obtain ⟨o, x⟩ := D
    dsimp only at *
    go_wp2_with fail
    refine HS.out.mono ?_
    rintro e w5 ⟨rfl, hbel5⟩
    have k5 := k4.trans (hbel5.mono k4.size)
    have hb5 := ((hby2.below hbel3).below (hbel4.mono hbel3.size)).below (hbel5.mono (Nat.le_trans hbel3.size hbel4.size))
    have hs := same_calls w5 (c1 := c2) (c2 := c) hb5 (h.below k5)
    rw [show (b == b) = true by simp] at hs
    have HS2 := Lib.hid hs
    clear hs
    go_wp2_with fail
    refine HS2.out.mono ?_
    rintro e w' ⟨rfl, rfl⟩
    go_wp2
    go_ret
    exact ⟨rfl, k5⟩

theorem walk {H : Type} {enc : TypeId × Value → H} {W : World} {base : Nat} {v0 v1 : Value} {d0 d1 : DataW H} {p0 p1 : List MemPlace} (g0 : Arg enc Try.prog W base 27 v0 d0 p0) (g1 : Arg enc Try.prog W base 3 v1 d1 p1) :
    Calls Try.prog 6 #[v0, v1] W fun e w' => e = .returned (.bool true) ∧ Below W.heap.size W w' := by
  obtain ⟨A, n, c, l, rfl, hn, hc, hb⟩ := g0.bytes Try.underlying27 Try.underlying5 (by kernel_rfl) (by kernel_rfl)
  obtain ⟨x, rfl, -, -⟩ := g1.int Try.underlying3
  have hl := hb.len
  subst hl
  exact body W hb hn hc x
end Go.Proofs.Ytpenjandhgcgeaa.lawDeltaReads
