/- Something read inside an argument; a slice of structs, opened as a list of things of one's own. -/
import Derived.Test.YtibnehaibgbliaaGreatProg
import Derived.Test.YtibnehaibgbliaaGreatOpen
import Derived.Lib.SmallJoins
namespace Go.Proofs.YtibnehaibgbliaaGreat
set_option linter.unusedVariables false
set_option linter.unusedSimpArgs false
open Go.RowKit
open Go.ChangeShapes Go.WideShapes

theorem weights_all {H : Type} {P : Program} {e : TypeId} : ∀ (l : List (DataW H)) (d : DataW H), d ∈ l → ∀ n ∈ d.weights P e, n ∈ DataW.weightsAll P e l
  | [], d, h, n, hn => by cases h
  | x :: r, d, h, n, hn => by
    rw [DataW.weightsAll]
    rcases List.mem_cons.1 h with rfl | h
    · exact List.mem_append_left _ hn
    · exact List.mem_append_right _ (weights_all r d h n hn)

/-- Something read inside an argument: it reads, and each part of it is within reach. -/
structure Part {H : Type} (enc : TypeId × Value → H) (P : Program) (W : World) (t : TypeId) (v : Value) (d : DataW H) : Prop where
  trod : ∃ (m : Nat) (p : List MemPlace), DataW.trod enc P W 0 (fun _ => true) true m t [v] = some (d, p)
  sized : ∀ n ∈ d.weights P t, n ≤ reachBytes

section
variable {H : Type} {enc : TypeId × Value → H} {P : Program} {W : World} {t e : TypeId} {v : Value} {d : DataW H}
theorem Part.int {k : IntKind} (h : Part enc P W t v d) (hU : P.underlying t = some (.int k)) : ∃ x : Int, v = .int k x ∧ (Lit.int k x).wf = true := by
  obtain ⟨m, p, h⟩ := h.trod
  obtain ⟨x, r, _, w⟩ := DataW.trod_int hU h
  simp only [List.cons.injEq, and_true] at r
  exact ⟨x, r, w⟩
theorem Part.str (h : Part enc P W t v d) (hU : P.underlying t = some .string) : ∃ s : ByteArray, v = .string s ∧ s.size ≤ 140737488351232 := by
  have hs := h.sized
  obtain ⟨m, p, h⟩ := h.trod
  obtain ⟨s, r, hy, _⟩ := DataW.trod_string hU h
  simp only [List.cons.injEq, and_true] at r
  simp only [Prod.mk.injEq] at hy
  refine ⟨s, r, ?_⟩
  have := hs s.data.toList.length (by rw [hy.1]; simp [DataW.weights])
  have e : s.data.toList.length = s.size := by rw [Array.length_toList]; rfl
  simp only [reachBytes] at this
  omega
theorem Part.bool (h : Part enc P W t v d) (hU : P.underlying t = some .bool) : ∃ x : Bool, v = .bool x := by
  obtain ⟨m, p, h⟩ := h.trod
  obtain ⟨x, r, _⟩ := DataW.trod_bool hU h
  simp only [List.cons.injEq, and_true] at r
  exact ⟨x, r⟩
/-- A slice of structs of one-cell fields. -/
theorem Part.structs {fs : Array Field} (h : Part enc P W t v d) (hU : P.underlying t = some (.slice e)) (hE : P.underlying e = some (.struct fs)) (hone : Go.Deep.oneCellFields P fs = true) (hC : P.cellsOf e = fs.size) (hpos : 0 < fs.size) :
    ∃ (A : Option Addr) (n c : Nat), v = .slice A n c ∧ n ≤ c ∧ c ≤ maxLen ∧ c * P.bytesOf e ≤ 140737488351232 ∧
      (0 < n → ∃ b off, A = some ⟨b, off, none⟩ ∧ b < W.heap.size ∧ ∀ i, i < n → ∀ j f, fs[j]? = some f → ∃ u y, W.cell? ⟨b, off + (i * fs.size + j), none⟩ = some u ∧ Part enc P W f.type u y) := by
  have hs := h.sized
  obtain ⟨m, p, h⟩ := h.trod
  rcases Go.Deep.open_slice hU h with ⟨hcs, _⟩ | ⟨x, l, c', m', nf, Dd, Pl, hcs, _, hl, hm, hmm, hx, hi⟩
  · simp only [List.cons.injEq, and_true] at hcs
    exact ⟨none, 0, 0, hcs, Nat.le_refl _, by simp [maxLen], by omega, fun h => absurd h (by omega)⟩
  · simp only [List.cons.injEq, and_true] at hcs
    subst hcs
    have hmm : m' = c' := by simpa using hmm
    subst hmm
    simp only [Prod.mk.injEq] at hx
    obtain ⟨rfl, rfl⟩ := hx
    have hr := hs (((List.range l).map Dd).length * P.bytesOf e + ((List.range (m' - l)).map fun j => Dd (l + j)).length * P.bytesOf e) (by simp [DataW.weights, hU, Nat.add_mul])
    simp only [List.length_map, List.length_range] at hr
    rw [← Nat.add_mul, show l + (m' - l) = m' by omega] at hr
    refine ⟨some x, l, m', rfl, hl, hm, by simpa [reachBytes] using hr, fun hn => ?_⟩
    have key : ∀ i, i < l → ∀ j f, fs[j]? = some f → ∃ u y, W.cell? (x.add (i * fs.size + j)) = some u ∧ Part enc P W f.type u y := fun i hin j f hj => by
      obtain ⟨cs', hc, ht'⟩ := hi i (by omega)
      rw [hC] at hc
      obtain ⟨ys, n', hn', hy, hlen, hyl, hfd⟩ := DataW.trod_struct hE ht'
      obtain ⟨_, hcl, hat⟩ := World.cells?_some hc
      simp only [Prod.mk.injEq] at hy
      obtain ⟨ho, hk⟩ := Go.Deep.hone_of hone j f hj
      have hjl : j < fs.size := (Array.getElem?_eq_some_iff.1 hj).1
      have hcell := hat j hjl
      have hv : cs'[j]? = some (cs'[j]'(by omega)) := List.getElem?_eq_getElem (by omega)
      have h1 := hfd j f hj
      rw [ho, hk] at h1
      have hone' : (cs'.drop j).take 1 = [cs'[j]'(by omega)] := by
        rw [List.drop_eq_getElem_cons (by omega)]
        rfl
      rw [hone'] at h1
      have hys : ys[j]? = some (ys[j]'(by omega)) := List.getElem?_eq_getElem (by omega)
      refine ⟨cs'[j]'(by omega), (ys[j]'(by omega)).1, ?_, ⟨n', (ys[j]'(by omega)).2, h1.trans hys⟩, fun k hk' => hs k ?_⟩
      · rw [← Go.Deep.add_add, hcell, hv]
      · have h2 : k ∈ DataW.weights P e (.agg (ys.map (·.1))) := by
          simp only [DataW.weights, hE]
          refine DataW.weights_mem_each (j := j) (t := f.type) (d := (ys[j]'(by omega)).1) ?_ ?_ k hk'
          · rw [List.getElem?_map, Array.getElem?_toList, hj]; rfl
          · rw [List.getElem?_map, hys]; rfl
        have h3 := weights_all ((List.range l).map Dd) (Dd i) (List.mem_map.2 ⟨i, List.mem_range.2 hin, rfl⟩) k (by rw [hy.1]; exact h2)
        simp only [DataW.weights, hU]
        simp only [List.mem_append, List.mem_cons]
        simp [h3]
    obtain ⟨b, off, spot⟩ := x
    obtain ⟨f0, hf0⟩ : ∃ f, fs[0]? = some f := ⟨fs[0], Array.getElem?_eq_getElem hpos⟩
    obtain ⟨u0, _, hc0, _⟩ := key 0 (by omega) 0 f0 hf0
    have hspot : spot = none := by simpa [Addr.add] using World.cell?_spot hc0
    subst hspot
    refine ⟨b, off, rfl, ?_, fun i hi' j f hj => ?_⟩
    · have := World.block_lt_of_cell? W _ hc0
      simpa [Addr.add] using this
    · obtain ⟨u, y, h4, h5⟩ := key i hi' j f hj
      rw [addr_add] at h4
      exact ⟨u, y, h4, h5⟩
end


theorem Arg.part {H : Type} {enc : TypeId × Value → H} {P : Program} {W : World} {base : Nat} {t : TypeId} {v : Value} {d : DataW H} {p : List MemPlace} (h : Arg enc P W base t v d p) (hv : v.cells.toList = [v]) : Part enc P W t v d :=
  ⟨by obtain ⟨m, hm⟩ := h.trod; exact ⟨m, p, by rw [← hv]; exact hm⟩, h.sized⟩

theorem flatMap_len {α : Type} {cells : α → List Value} {size : Nat} (h : ∀ x, (cells x).length = size) (l : List α) : (l.flatMap cells).length = l.length * size := by
  induction l with
  | nil => simp
  | cons x r ih => rw [List.flatMap_cons, List.length_append, h, ih, List.length_cons, Nat.succ_mul, Nat.add_comm]
theorem flatMap_get {α : Type} {cells : α → List Value} {size : Nat} (h : ∀ x, (cells x).length = size) : ∀ (l : List α) (i : Nat) (hi : i < l.length) (j : Nat), j < size → (l.flatMap cells)[i * size + j]? = (cells l[i])[j]?
  | [], i, hi, _, _ => absurd hi (by simp)
  | x :: r, 0, _, j, hj => by
    rw [List.flatMap_cons, Nat.zero_mul, Nat.zero_add, List.getElem?_append_left (by rw [h]; exact hj)]
    rfl
  | x :: r, i + 1, hi, j, hj => by
    rw [List.flatMap_cons, List.getElem?_append_right (by rw [h, Nat.succ_mul]; omega), h, show (i + 1) * size + j - size = i * size + j by rw [Nat.succ_mul]; omega]
    exact flatMap_get h r i (by simpa using hi) j hj
/-- A slice of structs, read as a list of things of one's own. -/
theorem Part.flat {H : Type} {enc : TypeId × Value → H} {P : Program} {W : World} {t e : TypeId} {v : Value} {d : DataW H} {fs : Array Field} {α : Type} (h : Part enc P W t v d) (hU : P.underlying t = some (.slice e)) (hE : P.underlying e = some (.struct fs)) (hone : Go.Deep.oneCellFields P fs = true) (hC : P.cellsOf e = fs.size) (hpos : 0 < fs.size)
    (cells : α → List Value) (hlen : ∀ x, (cells x).length = fs.size) (good : α → Prop)
    (hx : ∀ us : Nat → Value, (∀ j f, fs[j]? = some f → ∃ y, Part enc P W f.type (us j) y) → ∃ x, good x ∧ ∀ j, j < fs.size → (cells x)[j]? = some (us j)) :
    ∃ (A : Option Addr) (c : Nat) (l : List α), v = .slice A l.length c ∧ l.length ≤ c ∧ c ≤ maxLen ∧ c * P.bytesOf e ≤ 140737488351232 ∧ Reads W W.heap.size fs.size A l.length (l.flatMap cells) ∧ ∀ x ∈ l, good x := by
  obtain ⟨A, n, c, rfl, hn, hm, hby, hc⟩ := h.structs hU hE hone hC hpos
  rcases Nat.eq_zero_or_pos n with h0 | h0
  · subst h0
    exact ⟨A, c, [], rfl, Nat.zero_le _, hm, hby, ⟨by simp, fun h => absurd h (by simp)⟩, by simp⟩
  · obtain ⟨b, off, rfl, hb, hi⟩ := hc h0
    obtain ⟨l, hl, hp⟩ := choose_list (p := fun i (x : α) => good x ∧ ∀ j, j < fs.size → W.cell? ⟨b, off + (i * fs.size + j), none⟩ = (cells x)[j]?) n (fun i hin => by
      have hk : ∀ j, ∃ u, ∀ f, fs[j]? = some f → W.cell? ⟨b, off + (i * fs.size + j), none⟩ = some u ∧ ∃ y, Part enc P W f.type u y := fun j => by
        rcases Nat.lt_or_ge j fs.size with hj | hj
        · obtain ⟨u, y, h1, h2⟩ := hi i hin j fs[j] (Array.getElem?_eq_getElem hj)
          refine ⟨u, fun f hf => ?_⟩
          rw [Array.getElem?_eq_getElem hj] at hf
          injection hf with hf
          subst hf
          exact ⟨h1, y, h2⟩
        · exact ⟨undef, fun f hf => by rw [Array.getElem?_eq_none hj] at hf; cases hf⟩
      obtain ⟨x, hg, hxs⟩ := hx (fun j => (hk j).choose) (fun j f hf => ((hk j).choose_spec f hf).2)
      exact ⟨x, hg, fun j hj => by rw [hxs j hj]; exact ((hk j).choose_spec _ (Array.getElem?_eq_getElem hj)).1⟩)
    refine ⟨some ⟨b, off, none⟩, c, l, by rw [hl], by omega, hm, hby, ⟨flatMap_len hlen l, fun _ => ⟨b, off, rfl, hb, fun j u hu => ?_⟩⟩, fun x hx => ?_⟩
    · have hj : j < l.length * fs.size := by rw [← flatMap_len hlen]; exact (List.getElem?_eq_some_iff.1 hu).1
      have hji : j / fs.size < l.length := (Nat.div_lt_iff_lt_mul hpos).2 hj
      have hjm := Nat.mod_lt j hpos
      have e : j / fs.size * fs.size + j % fs.size = j := by rw [Nat.mul_comm]; exact Nat.div_add_mod j fs.size
      have g := flatMap_get hlen l (j / fs.size) hji (j % fs.size) hjm
      have q := (hp (j / fs.size) hji).2 (j % fs.size) hjm
      rw [e] at g q
      rw [q, ← g, hu]
    · obtain ⟨i, hi', rfl⟩ := List.getElem_of_mem hx
      exact (hp i hi').1
end Go.Proofs.YtibnehaibgbliaaGreat
