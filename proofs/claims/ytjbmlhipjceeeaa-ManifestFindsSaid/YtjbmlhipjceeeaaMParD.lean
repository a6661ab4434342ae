/- Parse of the code (chapter 8). -/
import Derived.Test.YtjbmlhipjceeeaaProg
import Derived.Test.YtjbmlhipjceeeaaMParC
import Derived.Test.YtjbmlhipjceeeaaMLabP
import Derived.Shelf.Vars
namespace Go.Proofs.Ytjbmlhipjceeeaa.Lb
open Go.RowKit

/-- What Parse answers of a text: the set whose text it is; or, of none's text, a refusal. -/
def ParRet (w : World) (S : List UInt8) (y n : Value) (e : Ending) (w' : World) : Prop :=
  (∃ l A c, e = .returned (.tuple #[.slice A l.length c, y]) ∧ ParP S l ∧ Labs w' w'.heap.size A l ∧ Below w.heap.size w w') ∨ (e = .returned (.tuple #[.slice none 0 0, n]) ∧ (∀ l, ¬ ParP S l) ∧ Below w.heap.size w w')
theorem not_par_short {S : List UInt8} (h : S.length < 2) (l : List Lab) : ¬ ParP S l := fun ⟨_, h2⟩ => by
  obtain ⟨T, hT⟩ := text_ends l
  rw [hT] at h2
  rw [← h2] at h
  simp at h
  omega
theorem not_par_head {S X : List UInt8} {c : UInt8} (h : S = c :: X) (hc : c ≠ 123) (l : List Lab) : ¬ ParP S l := fun ⟨_, h2⟩ => by
  obtain ⟨T, hT⟩ := text_ends l
  rw [hT, h] at h2
  injection h2 with h3 h4
  exact hc h3.symm
theorem not_par_last {S : List UInt8} {k : Nat} {c : UInt8} (hk : S.length = k + 1) (h : S[k]? = some c) (hc : c ≠ 125) (l : List Lab) : ¬ ParP S l := fun ⟨_, h2⟩ => by
  obtain ⟨T, hT⟩ := text_ends l
  rw [hT] at h2
  rw [← h2] at h hk
  have e : k = T.length + 1 := by simp at hk; omega
  rw [e] at h
  simp at h
  exact hc h.symm
theorem at8_get {s : ByteArray} {i : Nat} (h : i < s.size) : s.data.toList[i]? = some (at8 s i) := by
  have hl : i < s.data.toList.length := by rw [Array.length_toList]; exact h
  simp [at8, List.getD, List.getElem?_eq_getElem hl]
theorem ext_list (s : ByteArray) (a b : Nat) : (s.extract a b).data.toList = (s.data.toList.drop a).take (b - a) := by
  rw [ByteArray.data_extract, Array.toList_extract, List.extract_eq_take_drop]
theorem mid_list {s : ByteArray} (h2 : 2 ≤ s.size) (h0 : at8 s 0 = 123) (h1 : at8 s (s.size - 1) = 125) : s.data.toList = 123 :: ((s.extract 1 (s.size - 1)).data.toList ++ [125]) := by
  have hl : s.data.toList.length = s.size := by rw [Array.length_toList]; rfl
  have e0 := drop8 (s := s) (q := 0) (by omega)
  have e1 := drop8 (s := s) (q := s.size - 1) (by omega)
  have e3 : s.data.toList.drop (s.size - 1 + 1) = [] := List.drop_eq_nil_of_le (by omega)
  rw [e3, h1] at e1
  rw [h0] at e0
  rw [ext_list]
  simp only [List.drop_zero, Nat.zero_add] at e0
  have e2 : (s.data.toList.drop 1).take (s.size - 1 - 1) ++ [125] = s.data.toList.drop 1 := by
    conv => rhs; rw [← List.take_append_drop (s.size - 1 - 1) (s.data.toList.drop 1)]
    rw [List.drop_drop, show 1 + (s.size - 1 - 1) = s.size - 1 by omega, e1]
  rw [e2]
  exact e0
end Go.Proofs.Ytjbmlhipjceeeaa.Lb
