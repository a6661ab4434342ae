/- Labels: Part of both, Get (chapter 8). -/
import Derived.Test.YtjbmlhipjceeeaaProg
import Derived.Test.YtjbmlhipjceeeaaMLabS
import Derived.Test.YtjbmlhipjceeeaaShelf
namespace Go.Proofs.Ytjbmlhipjceeeaa.Lb
open Go.RowKit

/-! ### strings in a row -/
/-- A slice of strings reads. -/
def Strs (w : World) (B : Nat) (A : Option Addr) (l : List ByteArray) : Prop := Reads w B 1 A l.length (l.map .string)
section
variable {w w' : World} {B B' : Nat} {A : Option Addr} {l : List ByteArray}
theorem Strs.below (h : Strs w B A l) (hb : Below B w w') : Strs w' B A l := Reads.below h hb
theorem Strs.more (h : Strs w B A l) (hb : B ≤ B') : Strs w B' A l := Reads.more h hb
theorem Strs.nil_ : Strs w B A [] := ⟨rfl, fun h => absurd h (by simp)⟩
def strAt (l : List ByteArray) (i : Nat) : ByteArray := l.getD i ByteArray.empty
theorem Strs.cellAt (h : Strs w B A l) (hp : 0 < l.length) : ∃ b off, A = some ⟨b, off, none⟩ ∧ b < B ∧ ∀ j, j < l.length → w.cell? ⟨b, off + j, none⟩ = some (.string (strAt l j)) := by
  obtain ⟨b, off, e, hb, hc⟩ := h.2 hp
  exact ⟨b, off, e, hb, fun j hj => hc j _ (by simp [strAt, List.getD, List.getElem?_eq_getElem hj])⟩
end
theorem strs_one (l : List ByteArray) : ∀ u ∈ l.map Value.string, u.oneCell' = true := by
  intro u hu
  obtain ⟨x, _, rfl⟩ := List.mem_map.1 hu
  rfl

def hasB (by_ : List ByteArray) (x : ByteArray) : Bool := by_.any fun y => decide (y = x)
def partB (l : List Lab) (by_ : List ByteArray) : List Lab := l.filter fun x => hasB by_ x.1


theorem part_take {l : List Lab} {by_ : List ByteArray} {k : Nat} (hk : k < l.length) : partB (l.take (k + 1)) by_ = partB (l.take k) by_ ++ (if hasB by_ (labAt l k).1 = true then [labAt l k] else []) := by
  have e : l.take (k + 1) = l.take k ++ [labAt l k] := by rw [List.take_add_one, List.getElem?_eq_getElem hk, ← labAt_eq hk]; rfl
  rw [e, partB, List.filter_append]
  congr 1
  by_cases h : hasB by_ (labAt l k).1 = true <;> simp [h]
theorem part_yes {l : List Lab} {by_ : List ByteArray} {k : Nat} (hk : k < l.length) (h : hasB by_ (labAt l k).1 = true) : partB (l.take (k + 1)) by_ = partB (l.take k) by_ ++ [labAt l k] := by rw [part_take hk, if_pos h]
theorem part_none {l : List Lab} {by_ : List ByteArray} {k : Nat} (hk : k < l.length) (h : hasB by_ (labAt l k).1 = false) : partB (l.take (k + 1)) by_ = partB (l.take k) by_ := by rw [part_take hk, if_neg (by simp [h]), List.append_nil]
theorem part_len (l : List Lab) (by_ : List ByteArray) (k : Nat) : (partB (l.take k) by_).length ≤ k := by
  have := List.length_filter_le (fun x : Lab => hasB by_ x.1) (l.take k)
  have h2 : (l.take k).length ≤ k := List.length_take_le _ _
  unfold partB
  omega
theorem labCells_snoc (l : List Lab) (x : Lab) : labCells l ++ [.string x.1, .string x.2] = labCells (l ++ [x]) := by simp [labCells]

/-- A result: a row of labels of the call's own (or none). -/
def RetLabs (w : World) (l : List Lab) (e : Ending) (w' : World) : Prop := ∃ A c, e = .returned (.slice A l.length c) ∧ Labs w' w'.heap.size A l ∧ w'.ownsRow w.heap.size 104 2 (.slice A l.length c) l.length (labCells l) ∧ Below w.heap.size w w'


theorem has_yes {by_ : List ByteArray} {x : ByteArray} {j : Nat} (hj : j < by_.length) (h : strAt by_ j = x) : hasB by_ x = true := by
  unfold hasB
  rw [List.any_eq_true]
  exact ⟨by_[j], List.getElem_mem hj, by rw [decide_eq_true_iff, ← h]; simp [strAt, List.getD, List.getElem?_eq_getElem hj]⟩
theorem has_no {by_ : List ByteArray} {x : ByteArray} (h : ∀ j, j < by_.length → strAt by_ j ≠ x) : hasB by_ x = false := by
  unfold hasB
  rw [List.any_eq_false]
  intro y hy
  obtain ⟨j, hj, rfl⟩ := List.getElem_of_mem hy
  have := h j hj
  simpa [strAt, List.getD, List.getElem?_eq_getElem hj] using this


/-- The first label of a name. -/
def getB (l : List Lab) (x : ByteArray) : Option ByteArray := (l.find? fun y => decide (y.1 = x)).map (·.2)
theorem get_hit {l : List Lab} {x : ByteArray} {k : Nat} (hk : k < l.length) (hno : ∀ i, i < k → (labAt l i).1 ≠ x) (h : (labAt l k).1 = x) : getB l x = some (labAt l k).2 := by
  have : l.find? (fun y => decide (y.1 = x)) = some l[k] := by
    rw [List.find?_eq_some_iff_getElem]
    refine ⟨by rw [labAt_eq hk]; exact dct h, k, hk, rfl, fun j hj => ?_⟩
    rw [labAt_eq (by omega : j < l.length), dcf (hno j hj)]; rfl
  unfold getB
  rw [this, labAt_eq hk]
  rfl
theorem get_none {l : List Lab} {x : ByteArray} (hno : ∀ i, i < l.length → (labAt l i).1 ≠ x) : getB l x = none := by
  have : l.find? (fun y => decide (y.1 = x)) = none := by
    rw [List.find?_eq_none]
    intro y hy
    obtain ⟨j, hj, rfl⟩ := List.getElem_of_mem hy
    rw [labAt_eq hj]
    simpa using hno j hj
  unfold getB
  rw [this]
  rfl
def getV (o : Option ByteArray) : ByteArray := o.getD ⟨#[]⟩

end Go.Proofs.Ytjbmlhipjceeeaa.Lb
