/- Labels (chapter 8): how they lie in memory. -/
import Derived.Test.YtennddlihcamnaaProg
import Derived.Test.YtennddlihcamnaaMem
import Derived.IntWalk
import Derived.Sort.Walk0
namespace Go.Proofs.Ytennddlihcamnaa
set_option linter.unusedVariables false
set_option linter.unusedSimpArgs false
open Go.RowKit

theorem quiet_left {P : Program} {f : FuncId} {args : Array Value} {w : World} {n : Nat} {v : Value}
    (h : Calls P f args (w.drewN n) fun e w' => e = .returned v ∧ w.drewN n = w') : Calls P f args (w.drewN n) fun e w'' => e = .returned v ∧ ∃ m, w'' = w.drewN m :=
  h.mono fun _ _ ⟨he, hm⟩ => ⟨he, n, hm.symm⟩
theorem quiet_add_left {P : Program} {f : FuncId} {args : Array Value} {w : World} {a n : Nat} {v : Value}
    (h : Calls P f args (w.drewN (a + n)) fun e w' => e = .returned v ∧ w.drewN (a + n) = w') :
    Calls P f args (w.drewN (a + n)) fun e w'' => e = .returned v ∧ ∃ m, w'' = w.drewN (a + m) :=
  h.mono fun _ _ ⟨he, hm⟩ => ⟨he, n, hm.symm⟩

/-! ### how labels lie in memory -/
/-- A label: its name, its value. -/
abbrev Lab := ByteArray × ByteArray
def labCells (l : List Lab) : List Value := l.flatMap fun x => [.string x.1, .string x.2]
theorem labCells_len (l : List Lab) : (labCells l).length = l.length * 2 := by
  induction l with
  | nil => rfl
  | cons x r ih => simp only [labCells, List.flatMap_cons, List.length_append, List.length_cons, List.length_nil] at ih ⊢; omega
theorem labCells_get : ∀ (l : List Lab) (i : Nat) (hi : i < l.length), (labCells l)[i * 2]? = some (.string l[i].1) ∧ (labCells l)[i * 2 + 1]? = some (.string l[i].2)
  | [], i, hi => absurd hi (by simp)
  | x :: r, 0, _ => ⟨rfl, rfl⟩
  | x :: r, i + 1, hi => by
    have h := labCells_get r i (by simpa using hi)
    have e1 : (i + 1) * 2 = i * 2 + 1 + 1 := by omega
    rw [e1]
    exact h
theorem labCells_app (l m : List Lab) : labCells (l ++ m) = labCells l ++ labCells m := by simp [labCells]
theorem labCells_one (l : List Lab) : ∀ u ∈ labCells l, u.oneCell' = true := by
  intro u hu
  obtain ⟨x, _, hu⟩ := List.mem_flatMap.1 hu
  simp at hu
  rcases hu with rfl | rfl <;> rfl
/-- A slice of labels reads. -/
def Labs (w : World) (B : Nat) (A : Option Addr) (l : List Lab) : Prop := Reads w B 2 A l.length (labCells l)
section
variable {w w' : World} {B B' : Nat} {A : Option Addr} {l : List Lab}
theorem Labs.below (h : Labs w B A l) (hb : Below B w w') : Labs w' B A l := Reads.below h hb
theorem Labs.more (h : Labs w B A l) (hb : B ≤ B') : Labs w B' A l := Reads.more h hb
theorem Labs.to (h : Labs w B A l) (hb : Below B w w') (hB : B ≤ B') : Labs w' B' A l := (h.below hb).more hB
theorem Labs.nil_ : Labs w B A [] := ⟨rfl, fun h => absurd h (by simp)⟩
theorem Labs.cell (h : Labs w B A l) (hp : 0 < l.length) : ∃ b off, A = some ⟨b, off, none⟩ ∧ b < B ∧ ∀ j (hj : j < l.length), w.cell? ⟨b, off + j * 2, none⟩ = some (.string l[j].1) ∧ w.cell? ⟨b, off + j * 2 + 1, none⟩ = some (.string l[j].2) := by
  obtain ⟨b, off, e, hb, hc⟩ := h.2 hp
  exact ⟨b, off, e, hb, fun j hj => ⟨hc _ _ (labCells_get l j hj).1, by rw [Nat.add_assoc]; exact hc _ _ (labCells_get l j hj).2⟩⟩
end
/-- All names and values are short enough to be counted. -/
def Fit (l : List Lab) : Prop := ∀ x ∈ l, x.1.size ≤ 140737488351232 ∧ x.2.size ≤ 140737488351232

def labAt (l : List Lab) (i : Nat) : Lab := l.getD i (ByteArray.empty, ByteArray.empty)
theorem labAt_eq {l : List Lab} {i : Nat} (h : i < l.length) : l[i] = labAt l i := by simp [labAt, List.getD, List.getElem?_eq_getElem h]
theorem fit_at {l : List Lab} (h : Fit l) (i : Nat) : (labAt l i).1.size ≤ 140737488351232 ∧ (labAt l i).2.size ≤ 140737488351232 := by
  rcases Nat.lt_or_ge i l.length with h1 | h1
  · rw [← labAt_eq h1]; exact h _ (List.getElem_mem h1)
  · have e : labAt l i = (ByteArray.empty, ByteArray.empty) := by simp [labAt, List.getD, List.getElem?_eq_none h1]
    rw [e]
    exact ⟨by simp, by simp⟩
theorem Labs.cellAt {w : World} {B : Nat} {A : Option Addr} {l : List Lab} (h : Labs w B A l) (hp : 0 < l.length) : ∃ b off, A = some ⟨b, off, none⟩ ∧ b < B ∧ ∀ j, j < l.length → w.cell? ⟨b, off + j * 2, none⟩ = some (.string (labAt l j).1) ∧ w.cell? ⟨b, off + j * 2 + 1, none⟩ = some (.string (labAt l j).2) := by
  obtain ⟨b, off, e, hb, hc⟩ := h.cell hp
  exact ⟨b, off, e, hb, fun j hj => by rw [← labAt_eq hj]; exact hc j hj⟩

end Go.Proofs.Ytennddlihcamnaa
