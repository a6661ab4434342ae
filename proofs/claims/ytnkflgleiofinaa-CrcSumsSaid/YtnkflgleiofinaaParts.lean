/- The argument [][]byte of a statement, opened. -/
import Derived.Test.YtnkflgleiofinaaCrcB
import Derived.Test.YtnkflgleiofinaaOpen
namespace Go.Proofs.Ytnkflgleiofinaa
open Go.ChangeShapes Go.WideShapes Go.ChangeAt Go.RowKit

theorem weights_all {H : Type} {P : Program} {e : TypeId} : ∀ (l : List (DataW H)) (d : DataW H), d ∈ l → ∀ n ∈ d.weights P e, n ∈ DataW.weightsAll P e l
  | [], _, h, _, _ => absurd h (by simp)
  | x :: r, d, h, n, hn => by
    rw [DataW.weightsAll, List.mem_append]
    rcases List.mem_cons.1 h with rfl | h
    · exact .inl hn
    · exact .inr (weights_all r d h n hn)

/-- One slice of bytes inside an argument. -/
theorem trod_bytes {H : Type} {enc : TypeId × Value → H} {P : Program} {W : World} {t e : TypeId} {fuel : Nat} {u : Value} {d : DataW H} {p : List MemPlace}
    (hU : P.underlying t = some (.slice e)) (hE : P.underlying e = some (.int .u8)) (hC : P.cellsOf e = 1) (hB : P.bytesOf e = 1)
    (hf : DataW.trod enc P W 0 (fun _ => true) true fuel t [u] = some (d, p)) (hs : ∀ n ∈ d.weights P t, n ≤ reachBytes) :
    ∃ (A : Option Addr) (c : Nat) (l : List UInt8), u = .slice A l.length c ∧ l.length ≤ c ∧ c ≤ 140737488351232 ∧ Bytes W W.heap.size A l.length l := by
  rcases open_ints hU hE hC hf with ⟨hcs, _⟩ | ⟨x, n, c, zs, hcs, _, hl, hm, hz, hx, hcell, hwz⟩
  · simp at hcs
    subst hcs
    exact ⟨none, 0, [], rfl, Nat.le_refl _, by omega, rfl, Reads.none_⟩
  · simp at hcs
    subst hcs
    have hz : zs.length = c := by simpa using hz
    simp only [Prod.mk.injEq] at hx
    obtain ⟨rfl, rfl⟩ := hx
    have hr := hs (((lits (H := H) .u8 (zs.take n)).length + (lits (H := H) .u8 (zs.drop n)).length) * P.bytesOf e) (by simp [DataW.weights, hU])
    have hlen : (lits (H := H) .u8 (zs.take n)).length + (lits (H := H) .u8 (zs.drop n)).length = c := by simp [lits]; omega
    rw [hlen, hB, Nat.mul_one] at hr
    have hr' : c ≤ 140737488351232 := by simpa [reachBytes] using hr
    let l : List UInt8 := (zs.take n).map fun z => UInt8.ofNat z.toNat
    have hll : l.length = n := by simp [l]; omega
    have hrow : ∀ j (hj : j < n), W.cell? (x.add j) = some (byteV (l[j]'(by rw [hll]; exact hj))) := by
      intro j hj
      have h1 := hcell j (by omega)
      have hjz : j < zs.length := by omega
      have h2 := hwz zs[j] (List.getElem_mem hjz)
      have h3 : IntKind.u8.min = 0 := rfl
      have h4 : IntKind.u8.max = 255 := rfl
      simp only [Lit.wf, Bool.and_eq_true, decide_eq_true_eq, h3, h4] at h2
      rw [h1]
      simp only [byteV, l, List.getElem_map, List.getElem_take, Option.some.injEq, Value.int.injEq, true_and, UInt8.toNat_ofNat', List.getD, List.getElem?_eq_getElem hjz, Option.getD_some]
      omega
    refine ⟨some x, c, l, by rw [hll], by omega, hr', rfl, by simp, fun hn => ?_⟩
    obtain ⟨b, off, spot⟩ := x
    have hspot : spot = none := by simpa [Addr.add] using World.cell?_spot (hrow 0 (by omega))
    subst hspot
    refine ⟨b, off, rfl, ?_, fun j v hv => ?_⟩
    · have := World.block_lt_of_cell? W _ (hrow 0 (by omega))
      simpa [Addr.add] using this
    · rw [List.getElem?_map] at hv
      have hj : j < l.length := by
        rcases Nat.lt_or_ge j l.length with h | h
        · exact h
        · rw [List.getElem?_eq_none h] at hv; cases hv
      rw [List.getElem?_eq_getElem hj] at hv
      simp only [Option.map_some, Option.some.injEq] at hv
      subst hv
      have := hrow j (by omega)
      rw [addr_add] at this
      exact this

theorem arg_parts {H : Type} {enc : TypeId × Value → H} {W : World} {base : Nat} {v : Value} {d : DataW H} {p : List MemPlace} (h : Arg enc Try.prog W base 22 v d p) :
    ∃ (A : Option Addr) (c : Nat) (L : List (List UInt8)), v = .slice A L.length c ∧ Sl bytesRep W W.heap.size A L := by
  obtain ⟨A, n, c, rfl⟩ := okWide_slice Try.underlying22 h.ok
  obtain ⟨fuel, hf⟩ := h.trod
  have hs := h.sized
  rcases Go.Deep.open_slice1 Try.underlying22 (by kernel_rfl) hf with ⟨hcs, _⟩ | ⟨x, l, c', m, nf, V, D, Pl, hcs, _, hl, hm, hmm, hx, hi⟩
  · simp [Value.cells] at hcs
    obtain ⟨rfl, rfl, rfl⟩ := hcs
    exact ⟨none, 0, [], rfl, .nil_⟩
  · simp [Value.cells] at hcs
    obtain ⟨rfl, rfl, rfl⟩ := hcs
    have hmm : m = c := by simpa using hmm
    subst hmm
    simp only [Prod.mk.injEq] at hx
    obtain ⟨rfl, rfl⟩ := hx
    have key : ∀ i, i < n → ∃ y : Option Addr × Nat × List UInt8, V i = .slice y.1 y.2.2.length y.2.1 ∧ y.2.2.length ≤ y.2.1 ∧ y.2.1 ≤ 140737488351232 ∧ Bytes W W.heap.size y.1 y.2.2.length y.2.2 := fun i hin => by
      obtain ⟨hc, ht⟩ := hi i (by omega)
      obtain ⟨A, c, l, h1, h2, h3, h4⟩ := trod_bytes Try.underlying24 Try.underlying5 (by kernel_rfl) (by kernel_rfl) ht (fun k hk => hs k (by
        simp only [DataW.weights, Try.underlying22]
        have := weights_all ((List.range n).map D) (D i) (List.mem_map.2 ⟨i, by simpa using hin, rfl⟩) k hk
        simp [this]))
      exact ⟨(A, c, l), h1, h2, h3, h4⟩
    obtain ⟨Y, hY, hp⟩ := choose_list n key
    refine ⟨some x, m, Y.map (·.2.2), by rw [List.length_map, hY], Y.map (fun y => [.slice y.1 y.2.2.length y.2.1]), ⟨by simp, fun i h1 h2 => ?_⟩, ?_, fun hn => ?_⟩
    · have hi' : i < Y.length := by simpa using h1
      obtain ⟨k1, k2, k3, k4⟩ := hp i hi'
      simp only [List.getElem_map]
      exact ⟨Y[i].1, Y[i].2.1, rfl, k2, by omega, k4⟩
    · rw [flat_len (s := 1) _ (by intro c hc; obtain ⟨y, _, rfl⟩ := List.mem_map.1 hc; rfl)]
      simp [bytesRep]
    · have hn' : 0 < n := by simpa [hY] using hn
      obtain ⟨b, off, spot⟩ := x
      have h0 := (hi 0 (by omega)).1
      have hspot : spot = none := by simpa [Addr.add] using World.cell?_spot h0
      subst hspot
      refine ⟨b, off, rfl, ?_, fun j u hu => ?_⟩
      · have := World.block_lt_of_cell? W _ h0
        simpa [Addr.add] using this
      · have hfl : (Y.map (fun y => [Value.slice y.1 y.2.2.length y.2.1])).flatten = Y.map (fun y => Value.slice y.1 y.2.2.length y.2.1) := by
          clear hp hn hY hu
          induction Y with
          | nil => rfl
          | cons y r ih => simp only [List.map_cons, List.flatten_cons, ih, List.singleton_append]
        rw [hfl, List.getElem?_map] at hu
        have hj : j < Y.length := by
          rcases Nat.lt_or_ge j Y.length with h | h
          · exact h
          · rw [List.getElem?_eq_none h] at hu; cases hu
        rw [List.getElem?_eq_getElem hj] at hu
        simp only [Option.map_some, Option.some.injEq] at hu
        subst hu
        have h1 := (hi j (by omega)).1
        rw [addr_add] at h1
        rw [h1, (hp j hj).1]
end Go.Proofs.Ytnkflgleiofinaa
