/- The walk of NumsPuts: a number's bytes are those that the document says, signed and unsigned. -/
import Derived.Test.YtmbnbeihgggkcaaNumV
import Derived.Test.YtmbnbeihgggkcaaNumQ
import Derived.Test.YtmbnbeihgggkcaaOpen
namespace Go.Proofs.Ytmbnbeihgggkcaa.lawNumsPuts
open Go.RowKit

set_option maxRecDepth 100000 in
set_option maxHeartbeats 400000 in
theorem body (n : Nat) (m : Int) (w : World) (hn : n ≤ 18446744073709551615) (h1 : -9223372036854775808 ≤ m) (h2 : m ≤ 9223372036854775807) :
    Calls Try.prog 5 #[.int .u64 (n : Int), .int .i64 m] w fun e w' => e = .returned (.bool true) ∧ Below w.heap.size w w' := by
  have l1 := putU_len10 hn
  have l2 := putU_len10 (zig_lt h1 h2)
  go_enter Try.func5, Try.ntmps5
  go_wp2_with fail
  refine (putU_calls n _ l1).mono ?_
  rintro e w1 h
  obtain ⟨A1, c1, rfl, hc1, hm1, hb1, hbel1, -⟩ := h.opened
  clear h
  go_wp2_with fail
  refine (putURef_calls n _ l1 hn).mono ?_
  rintro e w2 h
  obtain ⟨A2, c2, rfl, hc2, hm2, hb2, hbel2, -⟩ := h.opened
  clear h
  go_wp2_with fail
  refine (same_calls w2 (hb1.to hbel2 hbel2.size) hb2).mono ?_
  rintro e w' ⟨rfl, rfl⟩
  rw [beq_self_eq_true]
  go_wp2_with fail
  refine (zig_calls m _ h1 h2).mono ?_
  rintro e w' ⟨rfl, rfl⟩
  go_wp2_with fail
  refine (zigR_calls m _ h1 h2).mono ?_
  rintro e w' ⟨rfl, rfl⟩
  go_wp2_with fail
  refine (zag_calls n _ hn).mono ?_
  rintro e w' ⟨rfl, rfl⟩
  go_wp2_with fail
  refine (zagR_calls n _ hn).mono ?_
  rintro e w' ⟨rfl, rfl⟩
  go_wp2_with fail
  refine (putI_calls m _ h1 h2 l2).mono ?_
  rintro e w3 h
  obtain ⟨A3, c3, rfl, hc3, hm3, hb3, hbel3, -⟩ := h.opened
  clear h
  go_wp2_with fail
  refine (zigR_calls m _ h1 h2).mono ?_
  rintro e w' ⟨rfl, rfl⟩
  go_wp2_with fail
  refine (putURef_calls (zigN m) _ l2 (zig_lt h1 h2)).mono ?_
  rintro e w4 h
  obtain ⟨A4, c4, rfl, hc4, hm4, hb4, hbel4, -⟩ := h.opened
  clear h
  go_wp2_with fail
  refine (same_calls w4 (hb3.to hbel4 hbel4.size) hb4).mono ?_
  rintro e w' ⟨rfl, rfl⟩
  rw [beq_self_eq_true]
  go_wp2
  go_ret
  exact ⟨rfl, ((hbel1.trans (hbel2.mono hbel1.size)).trans (hbel3.mono (Nat.le_trans hbel1.size hbel2.size))).trans (hbel4.mono (Nat.le_trans (Nat.le_trans hbel1.size hbel2.size) hbel3.size))⟩

theorem walk {H : Type} {enc : TypeId × Value → H} {W : World} {base : Nat} {v0 v1 : Value} {d0 d1 : DataW H} {p0 p1 : List MemPlace} (g0 : Arg enc Try.prog W base 22 v0 d0 p0) (g1 : Arg enc Try.prog W base 2 v1 d1 p1) :
    Calls Try.prog 5 #[v0, v1] W fun e w' => e = .returned (.bool true) ∧ Below W.heap.size W w' := by
  obtain ⟨x, rfl, -, hx⟩ := g0.int Try.underlying22
  obtain ⟨y, rfl, -, hy⟩ := g1.int Try.underlying2
  obtain ⟨n, rfl, hn⟩ := wf_u64 hx
  exact body n y W hn (wf_i64 hy).1 (wf_i64 hy).2
end Go.Proofs.Ytmbnbeihgggkcaa.lawNumsPuts
