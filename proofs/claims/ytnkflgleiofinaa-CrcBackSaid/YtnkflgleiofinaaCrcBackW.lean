/- The walk of CrcBack: a sealed text opens to its text. -/
import Derived.Test.YtnkflgleiofinaaCrcD
import Derived.Test.YtnkflgleiofinaaOpen
namespace Go.Proofs.Ytnkflgleiofinaa
theorem cseal_len (l : List UInt8) : (cseal l).length = l.length + 4 := by simp [cseal, four]
theorem copen_cseal (l : List UInt8) : copen (cseal l) = (l, 0) := by
  have hl := cseal_len l
  have e : (cseal l).length - 4 = l.length := by omega
  have h1 : (cseal l).take l.length = l := by unfold cseal; exact List.take_left
  have h2 : (cseal l).drop l.length = four (crcOf l) := by unfold cseal; exact List.drop_left
  have h := copen_good (s := cseal l) (by omega) (by rw [e, h1, h2])
  rw [h, e, h1]
end Go.Proofs.Ytnkflgleiofinaa
namespace Go.Proofs.Ytnkflgleiofinaa.lawCrcBack
open Go.RowKit

set_option maxRecDepth 100000 in
set_option maxHeartbeats 800000 in
theorem body (w : World) {B n c : Nat} {A : Option Addr} {l : List UInt8} (h : Bytes w B A n l) (hB : B ≤ w.heap.size) (hnc : n ≤ c) (hc : c ≤ 140737488351232) :
    Calls Try.prog 5 #[.slice A n c] w fun e w' => e = .returned (.bool true) ∧ Below w.heap.size w w' := by
  have hl := h.len
  subst hl
  by_cases hn : 4096 < l.length
  · go_enter Try.func5, Try.ntmps5
    go_wp2_with fail
    refine (lives_calls w).mono ?_
    rintro e w1 ⟨rfl, hbel1⟩
    go_wp2_with fail
    refine (lives_calls w1).mono ?_
    rintro e w2 ⟨rfl, hbel2⟩
    go_wp2
    go_ret
    exact ⟨rfl, hbel1.trans (hbel2.mono hbel1.size)⟩
  · go_enter Try.func5, Try.ntmps5
    go_wp2_with fail
    refine (lives_calls w).mono ?_
    rintro e w1 ⟨rfl, hbel1⟩
    have h1 := h.below (hbel1.mono hB)
    have s1 := hbel1.size
    go_wp2_with fail
    refine (seal_calls w1 h1 (by omega) hnc (by omega) (by omega)).mono ?_
    rintro e w2 he
    obtain ⟨A2, c2, rfl, hc2, hm2, hb2, hbel2, hown2⟩ := he.opened
    clear he
    have s2 := hbel2.size
    have h2 := h1.below (hbel2.mono (by omega))
    have hsl := cseal_len l
    have hop := open_calls (c := c2) w2 hb2 (by omega) hc2 (by omega)
    rw [copen_cseal] at hop
    have Ho := Lib.hid hop
    clear hop hsl
    go_wp2_with fail
    refine Ho.out.mono ?_
    rintro e w3 he
    obtain ⟨A3, c3, rfl, hc3, hm3, hb3, hbel3, hown3⟩ := he.opened
    clear he hown3 hown2
    have h3 := h2.below (hbel3.mono (by omega))
    have hs := same_calls (c1 := c3) (c2 := c) w3 hb3 h3
    rw [show (l == l) = true from beq_self_eq_true l] at hs
    have Hs := Lib.hid hs
    clear hs
    have hbel : Below w.heap.size w w3 := hbel1.trans ((hbel2.mono s1).trans (hbel3.mono (by omega)))
    go_wp2_with fail
    refine Hs.out.mono ?_
    rintro e w' ⟨rfl, rfl⟩
    go_wp2
    go_ret
    exact ⟨rfl, hbel⟩

theorem walk {H : Type} {enc : TypeId × Value → H} {W : World} {base : Nat} {v0 : Value} {d0 : DataW H} {p0 : List MemPlace} (g0 : Arg enc Try.prog W base 24 v0 d0 p0) :
    Calls Try.prog 5 #[v0] W fun e w' => e = .returned (.bool true) ∧ Below W.heap.size W w' := by
  obtain ⟨A, n, c, l, rfl, hn, hc, hb⟩ := g0.bytes Try.underlying24 Try.underlying5 (by kernel_rfl) (by kernel_rfl)
  exact body W hb (Nat.le_refl _) hn hc
end Go.Proofs.Ytnkflgleiofinaa.lawCrcBack
