/- A struct read inside an argument, its fields; a slice of whatever elements, opened as a list of things of one's own. -/
import Derived.Test.YtibnehaibgbliaaGreatProg
import Derived.Test.YtibnehaibgbliaaGreatPart
namespace Go.Proofs.YtibnehaibgbliaaGreat
set_option linter.unusedVariables false
set_option linter.unusedSimpArgs false
open Go.RowKit
open Go.ChangeShapes Go.WideShapes

/-- Cells read inside an argument: they read as a value of a type, and each part of it is within reach. -/
structure PartC {H : Type} (enc : TypeId × Value → H) (P : Program) (W : World) (t : TypeId) (cs : List Value) (d : DataW H) : Prop where
  trod : ∃ (m : Nat) (p : List MemPlace), DataW.trod enc P W 0 (fun _ => true) true m t cs = some (d, p)
  sized : ∀ n ∈ d.weights P t, n ≤ reachBytes

section
variable {H : Type} {enc : TypeId × Value → H} {P : Program} {W : World} {t e : TypeId} {v : Value} {cs : List Value} {d : DataW H}
theorem PartC.one (h : PartC enc P W t [v] d) : Part enc P W t v d := ⟨h.trod, h.sized⟩
theorem Part.toC (h : Part enc P W t v d) : PartC enc P W t [v] d := ⟨h.trod, h.sized⟩
theorem PartC.len {fs : Array Field} (h : PartC enc P W t cs d) (hE : P.underlying t = some (.struct fs)) : cs.length = P.cellsOf t := by
  obtain ⟨m, p, ht⟩ := h.trod
  obtain ⟨_, _, _, _, hl, _⟩ := DataW.trod_struct hE ht
  exact hl
theorem PartC.field {fs : Array Field} (h : PartC enc P W t cs d) (hE : P.underlying t = some (.struct fs)) {j : Nat} {f : Field} (hj : fs[j]? = some f) : ∃ y, PartC enc P W f.type ((cs.drop f.offset).take (P.cellsOf f.type)) y := by
  obtain ⟨m, p, ht⟩ := h.trod
  obtain ⟨ys, n', hn', hy, hlen, hyl, hfd⟩ := DataW.trod_struct hE ht
  simp only [Prod.mk.injEq] at hy
  have hjl : j < fs.size := (Array.getElem?_eq_some_iff.1 hj).1
  have hys : ys[j]? = some (ys[j]'(by omega)) := List.getElem?_eq_getElem (by omega)
  refine ⟨(ys[j]'(by omega)).1, ⟨n', (ys[j]'(by omega)).2, (hfd j f hj).trans hys⟩, fun k hk' => h.sized k ?_⟩
  rw [hy.1]
  simp only [DataW.weights, hE]
  refine DataW.weights_mem_each (j := j) (t := f.type) (d := (ys[j]'(by omega)).1) ?_ ?_ k hk'
  · rw [List.getElem?_map, Array.getElem?_toList, hj]; rfl
  · rw [List.getElem?_map, hys]; rfl
theorem PartC.fieldAt {fs : Array Field} (h : PartC enc P W t cs d) (hE : P.underlying t = some (.struct fs)) (j o k : Nat) (t' : TypeId) (hj : (fs[j]?).map (fun f => (f.type, f.offset, P.cellsOf f.type)) = some (t', o, k)) : ∃ y, PartC enc P W t' ((cs.drop o).take k) y := by
  cases hf : fs[j]? with
  | none => rw [hf] at hj; cases hj
  | some f =>
    rw [hf] at hj
    simp only [Option.map_some, Option.some.injEq, Prod.mk.injEq] at hj
    obtain ⟨rfl, rfl, rfl⟩ := hj
    exact h.field hE hf
/-- A slice of whatever elements: each element's cells, and that they read. -/
theorem Part.slots (h : Part enc P W t v d) (hU : P.underlying t = some (.slice e)) (hpos : 0 < P.cellsOf e) :
    ∃ (A : Option Addr) (n c : Nat), v = .slice A n c ∧ n ≤ c ∧ c ≤ maxLen ∧ c * P.bytesOf e ≤ 140737488351232 ∧
      (0 < n → ∃ b off, A = some ⟨b, off, none⟩ ∧ b < W.heap.size ∧ ∀ i, i < n → ∃ cs y, cs.length = P.cellsOf e ∧ (∀ j u, cs[j]? = some u → W.cell? ⟨b, off + (i * P.cellsOf e + j), none⟩ = some u) ∧ PartC enc P W e cs y) := by
  have hs := h.sized
  obtain ⟨m, p, h⟩ := h.trod
  rcases Go.Deep.open_slice hU h with ⟨hcs, _⟩ | ⟨x, l, c', m', nf, Dd, Pl, hcs, _, hl, hm, hmm, hx, hi⟩
  · simp only [List.cons.injEq, and_true] at hcs
    exact ⟨none, 0, 0, hcs, Nat.le_refl _, by simp [maxLen], by omega, fun h => absurd h (by omega)⟩
  · simp only [List.cons.injEq, and_true] at hcs
    subst hcs
    have hmm : m' = c' := by simpa using hmm
    subst hmm
    simp only [Prod.mk.injEq] at hx
    obtain ⟨rfl, rfl⟩ := hx
    have hr := hs (((List.range l).map Dd).length * P.bytesOf e + ((List.range (m' - l)).map fun j => Dd (l + j)).length * P.bytesOf e) (by simp [DataW.weights, hU, Nat.add_mul])
    simp only [List.length_map, List.length_range] at hr
    rw [← Nat.add_mul, show l + (m' - l) = m' by omega] at hr
    refine ⟨some x, l, m', rfl, hl, hm, by simpa [reachBytes] using hr, fun hn => ?_⟩
    have key : ∀ i, i < l → ∃ cs y, cs.length = P.cellsOf e ∧ (∀ j u, cs[j]? = some u → W.cell? (x.add (i * P.cellsOf e + j)) = some u) ∧ PartC enc P W e cs y := fun i hin => by
      obtain ⟨cs', hc, ht'⟩ := hi i (by omega)
      obtain ⟨_, hcl, hat⟩ := World.cells?_some hc
      refine ⟨cs', Dd i, hcl, fun j u hu => ?_, ⟨nf, Pl i, ht'⟩, fun k hk => hs k ?_⟩
      · have hj : j < P.cellsOf e := by rw [← hcl]; exact (List.getElem?_eq_some_iff.1 hu).1
        rw [← Go.Deep.add_add, hat j hj, hu]
      · have h3 := weights_all ((List.range l).map Dd) (Dd i) (List.mem_map.2 ⟨i, List.mem_range.2 hin, rfl⟩) k hk
        simp only [DataW.weights, hU]
        simp only [List.mem_append, List.mem_cons]
        simp [h3]
    obtain ⟨b, off, spot⟩ := x
    obtain ⟨cs0, y0, hl0, hc0, _⟩ := key 0 hn
    have hc00 := hc0 0 (cs0[0]'(by omega)) (List.getElem?_eq_getElem (by omega))
    have hspot : spot = none := by simpa [Addr.add] using World.cell?_spot hc00
    subst hspot
    refine ⟨b, off, rfl, ?_, fun i hi' => ?_⟩
    · have := World.block_lt_of_cell? W _ hc00
      simpa [Addr.add] using this
    · obtain ⟨cs, y, h3, h4, h5⟩ := key i hi'
      refine ⟨cs, y, h3, fun j u hu => ?_, h5⟩
      have := h4 j u hu
      rwa [addr_add] at this
/-- A slice of whatever elements, read as a list of things of one's own. -/
theorem Part.rows {α : Type} {size : Nat} (h : Part enc P W t v d) (hU : P.underlying t = some (.slice e)) (hC : P.cellsOf e = size) (hpos : 0 < size)
    (cells : α → List Value) (good : α → Prop) (hx : ∀ cs y, cs.length = size → PartC enc P W e cs y → ∃ x, good x ∧ cells x = cs) (hlen : ∀ x, (cells x).length = size) :
    ∃ (A : Option Addr) (c : Nat) (l : List α), v = .slice A l.length c ∧ l.length ≤ c ∧ c ≤ maxLen ∧ c * P.bytesOf e ≤ 140737488351232 ∧ Reads W W.heap.size size A l.length (l.flatMap cells) ∧ ∀ x ∈ l, good x := by
  obtain ⟨A, n, c, rfl, hn, hm, hby, hc⟩ := h.slots hU (by omega)
  rcases Nat.eq_zero_or_pos n with h0 | h0
  · subst h0
    exact ⟨A, c, [], rfl, Nat.zero_le _, hm, hby, ⟨by simp, fun h => absurd h (by simp)⟩, by simp⟩
  · obtain ⟨b, off, rfl, hb, hi⟩ := hc h0
    rw [hC] at hi
    obtain ⟨l, hl, hp⟩ := choose_list (p := fun i (x : α) => good x ∧ ∀ j u, (cells x)[j]? = some u → W.cell? ⟨b, off + (i * size + j), none⟩ = some u) n (fun i hin => by
      obtain ⟨cs, y, h1, h2, h3⟩ := hi i hin
      obtain ⟨x, hg, rfl⟩ := hx cs y h1 h3
      exact ⟨x, hg, h2⟩)
    refine ⟨some ⟨b, off, none⟩, c, l, by rw [hl], by omega, hm, hby, ⟨flatMap_len hlen l, fun _ => ⟨b, off, rfl, hb, fun j u hu => ?_⟩⟩, fun x hx => ?_⟩
    · have hj : j < l.length * size := by rw [← flatMap_len hlen]; exact (List.getElem?_eq_some_iff.1 hu).1
      have hji : j / size < l.length := (Nat.div_lt_iff_lt_mul hpos).2 hj
      have hjm := Nat.mod_lt j hpos
      have e : j / size * size + j % size = j := by rw [Nat.mul_comm]; exact Nat.div_add_mod j size
      have g := flatMap_get hlen l (j / size) hji (j % size) hjm
      rw [e] at g
      have q := (hp (j / size) hji).2 (j % size) u (by rw [← g, hu])
      rwa [e] at q
    · obtain ⟨i, hi', rfl⟩ := List.getElem_of_mem hx
      exact (hp i hi').1
end
end Go.Proofs.YtibnehaibgbliaaGreat
