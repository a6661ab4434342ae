/- Labels: plain laws of Part; the argument []string opened. -/
import Derived.Test.YtennddlihcamnaaProg
import Derived.Test.YtennddlihcamnaaOpen
import Derived.Test.YtennddlihcamnaaLabPo
import Derived.SliceStrings
import Derived.Test.YtennddlihcamnaaRecA
namespace Go.Proofs.Ytennddlihcamnaa
set_option linter.unusedVariables false
set_option linter.unusedSimpArgs false
open Go.RowKit
open Go.ChangeShapes Go.WideShapes

theorem Try.infoStr : (Try.prog.info? 9).map (fun i => (i.zero, i.size, i.bytes)) = some (some (.string ⟨#[]⟩), 1, 16) := by kernel_rfl

set_option maxRecDepth 100000 in
theorem arg_strs {H : Type} {enc : TypeId × Value → H} {W : World} {base : Nat} {v : Value} {d : DataW H} {p : List MemPlace} (h : Arg enc Try.prog W base 46 v d p) :
    ∃ (A : Option Addr) (c : Nat) (l : List ByteArray), v = .slice A l.length c ∧ l.length ≤ c ∧ l.length ≤ 8796093022208 ∧ Strs W W.heap.size A l := by
  obtain ⟨A, n, c, rfl⟩ := okWide_slice Try.underlying46 h.ok
  obtain ⟨fuel, hf⟩ := h.trod
  have hs := h.sized
  have hlt := h.lt
  rcases open_strings Try.underlying46 Try.underlying9 (by kernel_rfl) hf with ⟨hcs, _⟩ | ⟨x, l, c', ss, hcs, _, hl, hm, hz, hx, hcell, _⟩
  · simp [Value.cells] at hcs
    obtain ⟨rfl, rfl, rfl⟩ := hcs
    exact ⟨none, 0, [], rfl, Nat.le_refl _, by decide, Strs.nil_⟩
  · simp [Value.cells] at hcs
    obtain ⟨rfl, rfl, rfl⟩ := hcs
    have hz : ss.length = c := by simpa using hz
    simp only [Prod.mk.injEq] at hx
    obtain ⟨rfl, rfl⟩ := hx
    have hbz : Try.prog.bytesOf 9 = 16 := by kernel_rfl
    have hr := hs (((strs (H := H) (ss.take n)).length + (strs (H := H) (ss.drop n)).length) * Try.prog.bytesOf 9) (by simp [DataW.weights, Try.underlying46])
    have hlen : (strs (H := H) (ss.take n)).length + (strs (H := H) (ss.drop n)).length = c := by simp [strs]; omega
    rw [hlen, hbz] at hr
    have hn : (ss.take n).length = n := by rw [List.length_take]; omega
    refine ⟨some x, c, ss.take n, by rw [hn], by omega, by rw [hn]; simp only [reachBytes] at hr; omega, by simp, fun h0 => ?_⟩
    rw [hn] at h0
    obtain ⟨b, off, spot⟩ := x
    have h00 := hcell 0 (by omega)
    have hspot : spot = none := by simpa [Addr.add] using World.cell?_spot h00
    subst hspot
    refine ⟨b, off, rfl, by simpa [Addr.add] using World.block_lt_of_cell? W _ h00, fun j u hu => ?_⟩
    have hj : j < n := by
      have := (List.getElem?_eq_some_iff.1 hu).1
      simp at this; omega
    have := hcell j (by omega)
    rw [addr_add] at this
    rw [this]
    rw [List.getElem?_map, List.getElem?_take_of_lt hj, List.getElem?_eq_getElem (by omega : j < ss.length)] at hu
    simpa [List.getD, List.getElem?_eq_getElem (by omega : j < ss.length)] using hu

/-! ### plain laws -/
theorem fit_part {l : List Lab} (h : Fit l) (by_ : List ByteArray) : Fit (partB l by_) := fun x hx => h x ((List.mem_filter.1 hx).1)
theorem part_part (l : List Lab) (a b both : List ByteArray) (h : ∀ z, hasB both z = (hasB a z && hasB b z)) : partB (partB l a) b = partB l both := by
  unfold partB
  rw [List.filter_filter]
  congr 1
  funext x
  rw [h, Bool.and_comm]
theorem part_le (l : List Lab) (by_ : List ByteArray) : (partB l by_).length ≤ l.length := List.length_filter_le _ _

theorem right_pair {l : List Lab} : rightP l ↔ l.length ≤ 4 ∧ (∀ x ∈ l, nameB x.1 = true ∧ x.2.size ≤ 16) ∧ l.Pairwise (fun x y => lessB x.1 y.1 = true) := by
  constructor
  · intro h
    refine ⟨h.1, fun x hx => ?_, ?_⟩
    · obtain ⟨i, hi, rfl⟩ := List.getElem_of_mem hx
      rw [labAt_eq hi]
      exact ⟨(h.2 i hi).1, (h.2 i hi).2.1⟩
    · rw [List.pairwise_iff_getElem]
      intro i j hi hj hij
      rw [labAt_eq hi, labAt_eq hj]
      exact chain j (fun k hk => h.2 k (by omega)) i hij
  · rintro ⟨h1, h2, h3⟩
    refine ⟨h1, fun i hi => ?_⟩
    have hm := h2 l[i] (List.getElem_mem hi)
    rw [labAt_eq hi] at hm
    refine ⟨hm.1, hm.2, fun h0 => ?_⟩
    rw [List.pairwise_iff_getElem] at h3
    have := h3 (i - 1) i (by omega) hi (by omega)
    rwa [labAt_eq (by omega : i - 1 < l.length), labAt_eq hi] at this
theorem right_part {l : List Lab} (h : rightB l = true) (by_ : List ByteArray) : rightB (partB l by_) = true := by
  have h := right_pair.1 (of_decide_eq_true h)
  refine rightB_yes (right_pair.2 ⟨Nat.le_trans (part_le l by_) h.1, fun x hx => h.2.1 x ((List.mem_filter.1 hx).1), h.2.2.filter _⟩)
end Go.Proofs.Ytennddlihcamnaa
