/- Labels (chapter 8): Text of the package. -/
import Derived.Test.YtjbmlhipjceeeaaMLabT
import Derived.Test.YtjbmlhipjceeeaaShelf
namespace Go.Proofs.Ytjbmlhipjceeeaa.Lb
open Go.RowKit

theorem app_lit (s : ByteArray) (t : ByteArray) : (s ++ t).data.toList = s.data.toList ++ t.data.toList := by simp
theorem size_app2 (s : ByteArray) : (s ++ (⟨#[61, 34]⟩ : ByteArray)).size = s.size + 2 := by rw [ByteArray.size_append]; rfl
theorem valT_take {v : List UInt8} {j : Nat} {c : UInt8} (hj : j < v.length) (hc : c = v.getD j 0) : valT (v.take (j + 1)) = valT (v.take j) ++ escB c := by
  rw [List.take_succ_eq_append_getElem hj, valT_snoc, hc]
  congr 2
  simp [List.getD, List.getElem?_eq_getElem hj]
theorem pre_len {l : List Lab} (h : rightB l = true) {k : Nat} (hk : k ≤ l.length) (hl4 : l.length ≤ 4) : (123 :: textK l k).length ≤ 241 := by
  have := textK_len h k hk
  rw [List.length_cons]; omega

end Go.Proofs.Ytjbmlhipjceeeaa.Lb
