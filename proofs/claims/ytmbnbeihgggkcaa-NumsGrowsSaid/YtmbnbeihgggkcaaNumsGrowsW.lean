/- The walk of NumsGrows: a greater number never has fewer bytes, and none more than ten. -/
import Derived.Test.YtmbnbeihgggkcaaNumV
import Derived.Test.YtmbnbeihgggkcaaNumQ
import Derived.Test.YtmbnbeihgggkcaaOpen
namespace Go.Proofs.Ytmbnbeihgggkcaa.lawNumsGrows
open Go.RowKit

set_option maxRecDepth 100000 in
set_option maxHeartbeats 400000 in
theorem body (n m : Nat) (w : World) (hn : (putU n).length ≤ 10) (hm : (putU m).length ≤ 10) :
    Calls Try.prog 4 #[.int .u64 (n : Int), .int .u64 (m : Int)] w fun e w' => e = .returned (.bool true) ∧ Below w.heap.size w w' := by
  rcases Nat.lt_or_ge m n with h | h
  · have l4 := putU_mono n m n (by omega) (Nat.le_refl _)
    have l3 := putU_pos m
    have h' : ¬ n < m := by omega
    go_enter Try.func4, Try.ntmps4
    go_wp2_with fail
    refine (putU_calls m _ hm).mono ?_
    rintro e w1 h
    obtain ⟨A1, c1, rfl, hc1, hm1, hb1, hbel1, -⟩ := h.opened
    clear h
    go_wp2_with fail
    refine (putU_calls n _ hn).mono ?_
    rintro e w2 h
    obtain ⟨A2, c2, rfl, hc2, hm2, hb2, hbel2, -⟩ := h.opened
    clear h
    have hbel : Below w.heap.size w w2 := hbel1.trans (hbel2.mono hbel1.size)
    go_wp2
    go_ret
    exact ⟨ret_bool (decide_eq_true (by omega)), hbel⟩
  · have l4 := putU_mono m n m (by omega) (Nat.le_refl _)
    have l3 := putU_pos n
    have h' : ¬ m < n := by omega
    rcases Nat.lt_or_ge n m with h2 | h2
    · go_enter Try.func4, Try.ntmps4
      go_wp2_with fail
      refine (putU_calls n _ hn).mono ?_
      rintro e w1 h
      obtain ⟨A1, c1, rfl, hc1, hm1, hb1, hbel1, -⟩ := h.opened
      clear h
      go_wp2_with fail
      refine (putU_calls m _ hm).mono ?_
      rintro e w2 h
      obtain ⟨A2, c2, rfl, hc2, hm2, hb2, hbel2, -⟩ := h.opened
      clear h
      have hbel : Below w.heap.size w w2 := hbel1.trans (hbel2.mono hbel1.size)
      go_wp2
      go_ret
      exact ⟨ret_bool (decide_eq_true (by omega)), hbel⟩
    · obtain rfl : n = m := by omega
      go_enter Try.func4, Try.ntmps4
      go_wp2_with fail
      refine (putU_calls n _ hn).mono ?_
      rintro e w1 h
      obtain ⟨A1, c1, rfl, hc1, hm1, hb1, hbel1, -⟩ := h.opened
      clear h
      go_wp2_with fail
      refine (putU_calls n _ hm).mono ?_
      rintro e w2 h
      obtain ⟨A2, c2, rfl, hc2, hm2, hb2, hbel2, -⟩ := h.opened
      clear h
      have hbel : Below w.heap.size w w2 := hbel1.trans (hbel2.mono hbel1.size)
      go_wp2
      go_ret
      exact ⟨ret_bool (decide_eq_true (by omega)), hbel⟩

theorem walk {H : Type} {enc : TypeId × Value → H} {W : World} {base : Nat} {v0 v1 : Value} {d0 d1 : DataW H} {p0 p1 : List MemPlace} (g0 : Arg enc Try.prog W base 22 v0 d0 p0) (g1 : Arg enc Try.prog W base 22 v1 d1 p1) :
    Calls Try.prog 4 #[v0, v1] W fun e w' => e = .returned (.bool true) ∧ Below W.heap.size W w' := by
  obtain ⟨x, rfl, -, hx⟩ := g0.int Try.underlying22
  obtain ⟨y, rfl, -, hy⟩ := g1.int Try.underlying22
  obtain ⟨n, rfl, hn⟩ := wf_u64 hx
  obtain ⟨m, rfl, hm⟩ := wf_u64 hy
  exact body n m W (putU_len10 hn) (putU_len10 hm)
end Go.Proofs.Ytmbnbeihgggkcaa.lawNumsGrows
