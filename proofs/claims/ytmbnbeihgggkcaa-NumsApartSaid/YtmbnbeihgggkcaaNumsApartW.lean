/- The walk of NumsApart: of two numbers' bytes none begins the other's. -/
import Derived.Test.YtmbnbeihgggkcaaNumV
import Derived.Test.YtmbnbeihgggkcaaNumQ
import Derived.Test.YtmbnbeihgggkcaaOpen
namespace Go.Proofs.Ytmbnbeihgggkcaa.lawNumsApart
open Go.RowKit

set_option maxRecDepth 100000 in
set_option maxHeartbeats 400000 in
theorem body (n m : Nat) (w : World) (hn : (putU n).length ≤ 10) (hm : (putU m).length ≤ 10) :
    Calls Try.prog 3 #[.int .u64 (n : Int), .int .u64 (m : Int)] w fun e w' => e = .returned (.bool true) ∧ Below w.heap.size w w' := by
  have l1 := putU_pos n
  have l2 := putU_pos m
  have d1 : (((putU n).length : Int) == 0) = false := eqf (by omega)
  have d2 : (((putU m).length : Int) == 0) = false := eqf (by omega)
  go_enter Try.func3, Try.ntmps3
  go_wp2_with fail
  refine (putU_calls n _ hn).mono ?_
  rintro e w1 h
  obtain ⟨A1, c1, rfl, hc1, hm1, hb1, hbel1, -⟩ := h.opened
  clear h
  go_wp2_with fail
  refine (putU_calls m _ hm).mono ?_
  rintro e w2 h
  obtain ⟨A2, c2, rfl, hc2, hm2, hb2, hbel2, -⟩ := h.opened
  clear h
  have hb1' := hb1.to hbel2 hbel2.size
  have hbel : Below w.heap.size w w2 := hbel1.trans (hbel2.mono hbel1.size)
  by_cases he : n = m
  · have q : ((n : Int) == (m : Int)) = true := by simp [he]
    have He := Lib.hid he; clear he
    go_wp2
    go_ret
    exact ⟨rfl, hbel⟩
  · have q : ((n : Int) == (m : Int)) = false := by simp; omega
    by_cases hl : (putU m).length < (putU n).length
    · clear he
      go_wp2
      go_ret
      exact ⟨rfl, hbel⟩
    · have hl2 : (putU n).length ≤ (putU m).length := by omega
      have hb2' := hb2.taken hl2
      have hs := same_calls (c1 := c1) (c2 := c2) w2 hb1' hb2'
      have hf : (putU n == (putU m).take (putU n).length) = false := by
        rw [beq_eq_false_iff_ne]
        intro h
        exact he (putU_apart n n m (Nat.le_refl _) (by rw [h]; exact List.take_prefix _ _))
      rw [hf] at hs
      have Hs := Lib.hid hs
      clear hs hf he
      go_wp2_with fail
      refine Hs.out.mono ?_
      rintro e w' ⟨rfl, rfl⟩
      go_wp2
      go_ret
      exact ⟨rfl, hbel⟩

theorem walk {H : Type} {enc : TypeId × Value → H} {W : World} {base : Nat} {v0 v1 : Value} {d0 d1 : DataW H} {p0 p1 : List MemPlace} (g0 : Arg enc Try.prog W base 22 v0 d0 p0) (g1 : Arg enc Try.prog W base 22 v1 d1 p1) :
    Calls Try.prog 3 #[v0, v1] W fun e w' => e = .returned (.bool true) ∧ Below W.heap.size W w' := by
  obtain ⟨x, rfl, -, hx⟩ := g0.int Try.underlying22
  obtain ⟨y, rfl, -, hy⟩ := g1.int Try.underlying22
  obtain ⟨n, rfl, hn⟩ := wf_u64 hx
  obtain ⟨m, rfl, hm⟩ := wf_u64 hy
  exact body n m W (putU_len10 hn) (putU_len10 hm)
end Go.Proofs.Ytmbnbeihgggkcaa.lawNumsApart
