/- The argument []api.Label, opened. -/
import Derived.Test.YtbnlfljlomhngaaProg
import Derived.Test.YtbnlfljlomhngaaOpen
import Derived.Test.YtbnlfljlomhngaaLabB
namespace Go.Proofs.Ytbnlfljlomhngaa
open Go.RowKit
open Go.ChangeShapes Go.WideShapes

theorem weights_all {H : Type} {P : Program} {e : TypeId} : ∀ (l : List (DataW H)) (d : DataW H), d ∈ l → ∀ n ∈ d.weights P e, n ∈ DataW.weightsAll P e l
  | [], d, h, n, hn => by cases h
  | x :: r, d, h, n, hn => by
    rw [DataW.weightsAll]
    rcases List.mem_cons.1 h with rfl | h
    · exact List.mem_append_left _ hn
    · exact List.mem_append_right _ (weights_all r d h n hn)

theorem str_of {H : Type} {enc : TypeId × Value → H} {P : Program} {W : World} {t : TypeId} {m : Nat} {u : Value} {y : DataW H × List MemPlace} (ht : P.underlying t = some .string)
    (h : DataW.trod enc P W 0 (fun _ => true) true m t [u] = some y) (hs : ∀ n ∈ y.1.weights P t, n ≤ reachBytes) : ∃ s : ByteArray, u = .string s ∧ s.size ≤ 140737488351232 := by
  obtain ⟨s, r, hy, _⟩ := DataW.trod_string ht h
  simp only [List.cons.injEq, and_true] at r
  refine ⟨s, r, ?_⟩
  have := hs s.data.toList.length (by subst hy; simp [DataW.weights])
  have e : s.data.toList.length = s.size := by rw [Array.length_toList]; rfl
  simp only [reachBytes] at this
  omega

theorem arg_labs {H : Type} {enc : TypeId × Value → H} {W : World} {base : Nat} {v : Value} {d : DataW H} {p : List MemPlace} (h : Arg enc Try.prog W base 22 v d p) :
    ∃ (A : Option Addr) (c : Nat) (l : List Lab), v = .slice A l.length c ∧ l.length ≤ c ∧ l.length ≤ 4398046511104 ∧ Labs W W.heap.size A l ∧ Fit l := by
  obtain ⟨A, n, c, D, rfl, hD, hn, hm, hby, hc, hd⟩ := h.structs Try.underlying22 Try.underlying37 (by kernel_rfl) (by kernel_rfl) (by decide)
  have hbz : Try.prog.bytesOf 37 = 32 := by kernel_rfl
  rw [hbz] at hby
  rcases Nat.eq_zero_or_pos n with h0 | h0
  · exact ⟨A, c, [], by rw [h0]; rfl, Nat.zero_le _, Nat.zero_le _, Labs.nil_, by simp [Fit]⟩
  · obtain ⟨b, off, rfl, hb, hi⟩ := hc h0
    rcases hd with hd | ⟨spare, hd⟩
    · omega
    have hw : ∀ i (hi : i < D.length), ∀ (j : Nat) (t : TypeId) (y : DataW H × List MemPlace), [9, 9][j]? = some t → D[i][j]? = some y → ∀ k ∈ y.1.weights Try.prog t, k ≤ reachBytes := by
      intro i hi j t y ht hy k hk
      refine h.sized k ?_
      subst hd
      have h1 : DataW.agg (D[i].map (·.1)) ∈ D.map fun ys => DataW.agg (ys.map (·.1)) := List.mem_map.2 ⟨D[i], List.getElem_mem hi, rfl⟩
      have h2 : k ∈ DataW.weights Try.prog 37 (.agg (D[i].map (·.1))) := by
        simp only [DataW.weights, Try.underlying37]
        exact DataW.weights_mem_each (j := j) (by simpa using ht) (by rw [List.getElem?_map, hy]; rfl) k hk
      have h3 := weights_all _ _ h1 k h2
      simp only [DataW.weights, Try.underlying22]
      simp only [List.mem_append, List.mem_cons]
      simp [h3]
    obtain ⟨l, hl, hp⟩ := choose_list (p := fun i (x : Lab) => W.cell? ⟨b, off + i * 2, none⟩ = some (.string x.1) ∧ W.cell? ⟨b, off + i * 2 + 1, none⟩ = some (.string x.2) ∧ x.1.size ≤ 140737488351232 ∧ x.2.size ≤ 140737488351232) n (fun i hin => by
      obtain ⟨hlen, m, hf⟩ := hi i (by omega)
      obtain ⟨u0, y0, c0, e0, t0⟩ := hf 0 _ rfl
      obtain ⟨u1, y1, c1, e1, t1⟩ := hf 1 _ rfl
      obtain ⟨x0, rfl, s0⟩ := str_of Try.underlying9 t0 (hw i (by omega) 0 _ _ rfl e0)
      obtain ⟨x1, rfl, s1⟩ := str_of Try.underlying9 t1 (hw i (by omega) 1 _ _ rfl e1)
      exact ⟨(x0, x1), c0, c1, s0, s1⟩)
    refine ⟨some ⟨b, off, none⟩, c, l, by rw [hl], by omega, by omega, ⟨labCells_len l, fun _ => ⟨b, off, rfl, hb, fun j u hu => ?_⟩⟩, fun x hx => ?_⟩
    · have hj : j < l.length * 2 := by rw [← labCells_len]; exact (List.getElem?_eq_some_iff.1 hu).1
      have hji : j / 2 < l.length := by omega
      obtain ⟨g0, g1⟩ := labCells_get l (j / 2) hji
      obtain ⟨q0, q1, _⟩ := hp (j / 2) hji
      rcases Nat.mod_two_eq_zero_or_one j with hz | hz
      · have e : j = j / 2 * 2 := by omega
        rw [← e] at g0 q0
        rw [hu] at g0
        injection g0 with g0
        rw [g0]; exact q0
      · have e : j = j / 2 * 2 + 1 := by omega
        rw [← e] at g1
        rw [Nat.add_assoc, ← e] at q1
        rw [hu] at g1
        injection g1 with g1
        rw [g1]; exact q1
    · obtain ⟨i, hi', rfl⟩ := List.getElem_of_mem hx
      exact (hp i hi').2.2
end Go.Proofs.Ytbnlfljlomhngaa
