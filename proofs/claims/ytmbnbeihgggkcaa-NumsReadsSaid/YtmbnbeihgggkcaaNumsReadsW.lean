/- The walk of NumsReads: what any bytes say at any place is the number that the document says, or its error. -/
import Derived.Test.YtmbnbeihgggkcaaNumV
import Derived.Test.YtmbnbeihgggkcaaNumQ
import Derived.Test.YtmbnbeihgggkcaaOpen
namespace Go.Proofs.Ytmbnbeihgggkcaa.lawNumsReads
open Go.RowKit

theorem putU_300 : putU 300 = [172, 2] := by
  rw [putU_ge (by omega), putU_lt (by omega)]; decide

set_option maxRecDepth 100000 in
set_option maxHeartbeats 1000000 in
theorem body (w : World) {A : Option Addr} {n c : Nat} {l : List UInt8} (at_ : Int) (hb : Bytes w w.heap.size A n l) (hn : n ≤ c) (hc : c ≤ 140737488351232) :
    Calls Try.prog 6 #[.slice A n c, .int .i64 at_] w fun e w' => e = .returned (.bool true) ∧ Below w.heap.size w w' := by
  have hmax := (readU_max l at_).1
  have herr := readU_err l at_
  have Hp := Lib.hid putU_300
  have hlen := hb.1
  subst hlen
  go_enter Try.func6, Try.ntmps6
  go_wp2_with fail
  refine (twin_calls _ hb (Nat.le_refl _) (by omega)).mono ?_
  rintro e w1 h
  obtain ⟨A1, c1, rfl, hc1, hm1, hb1, hbel1, -⟩ := h.opened
  clear h
  have hb' := hb.to hbel1 (Nat.le_refl _)
  have hl9 : l.length ≤ 9223372036854775807 := by omega
  go_wp2_with fail
  refine (u_calls w1 hb1 at_ hc1 hl9).mono ?_
  rintro e w' ⟨rfl, rfl⟩
  go_wp2_with fail
  refine (v_calls w1 hb' at_ (by omega)).mono ?_
  rintro e w' ⟨rfl, rfl⟩
  go_wp2_with fail
  refine (same_calls w1 hb1 hb').mono ?_
  rintro e w' ⟨rfl, rfl⟩
  rw [beq_self_eq_true]
  go_wp2_with fail
  refine (putU_calls 300 w1 (by rw [Hp.out]; decide)).mono ?_
  rintro e w2 h
  rw [Hp.out] at h
  obtain ⟨A2, c2, rfl, hc2, hm2, hb2, hbel2, -⟩ := h.opened
  clear h
  go_wp2_with fail
  have hb3 : Bytes (w2.alloc (.cells #[.int .u8 172, .int .u8 2] 5)) (w2.heap.size + 1) (some ⟨w2.heap.size, 0, none⟩) 2 [172, 2] := .of (Reads.made (n := 2) (size := 1) w2 _ _ rfl)
  have hb2' : Bytes (w2.alloc (.cells #[.int .u8 172, .int .u8 2] 5)) (w2.heap.size + 1) A2 2 [172, 2] := hb2.to ((Below.refl _ _).alloc (Nat.le_refl _) _) (by omega)
  have hbel3 : Below w2.heap.size w2 (w2.alloc (.cells #[.int .u8 172, .int .u8 2] 5)) := (Below.refl _ _).alloc (Nat.le_refl _) _
  clear hb2
  generalize w2.alloc (.cells #[.int .u8 172, .int .u8 2] 5) = w3 at *
  refine (same_calls w3 hb2' hb3).mono ?_
  rintro e w' ⟨rfl, rfl⟩
  rw [beq_self_eq_true]
  have hbel23 : Below w1.heap.size w1 w3 := hbel2.trans (hbel3.mono hbel2.size)
  have hb1' := hb1.to hbel23 (Nat.le_refl _)
  have hbel : Below w.heap.size w w3 := hbel1.trans (hbel23.mono hbel1.size)
  go_wp2_with fail
  refine (i_calls w3 hb1' at_ hc1 hl9).mono ?_
  rintro e w' ⟨rfl, rfl⟩
  generalize readU l at_ = r at *
  obtain ⟨x, j, g⟩ := r
  simp only at hmax herr
  by_cases hg : g = 0
  · subst hg
    go_wp2_with fail
    refine (zagR_calls x w3 hmax).mono ?_
    rintro e w' ⟨rfl, rfl⟩
    go_wp2
    go_ret
    exact ⟨rfl, hbel⟩
  · obtain ⟨h1, h2⟩ := herr hg
    subst h1 h2
    have q : ((g : Int) != 0) = true := net (by omega)
    have q2 : (if g = 0 then zagI 0 else 0) = 0 := if_neg hg
    clear herr
    go_wp2
    go_ret
    exact ⟨rfl, hbel⟩

theorem walk {H : Type} {enc : TypeId × Value → H} {W : World} {base : Nat} {v0 v1 : Value} {d0 d1 : DataW H} {p0 p1 : List MemPlace} (g0 : Arg enc Try.prog W base 23 v0 d0 p0) (g1 : Arg enc Try.prog W base 3 v1 d1 p1) :
    Calls Try.prog 6 #[v0, v1] W fun e w' => e = .returned (.bool true) ∧ Below W.heap.size W w' := by
  obtain ⟨A, n, c, l, rfl, hn, hc, hb⟩ := g0.bytes Try.underlying23 Try.underlying5 (by kernel_rfl) (by kernel_rfl)
  obtain ⟨y, rfl, -, hy⟩ := g1.int Try.underlying3
  exact body W y hb hn hc
end Go.Proofs.Ytmbnbeihgggkcaa.lawNumsReads
