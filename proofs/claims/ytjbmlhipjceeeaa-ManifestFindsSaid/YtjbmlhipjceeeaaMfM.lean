/- has: does a list have a key? Of the document (chapter 13). -/
import Derived.Test.YtjbmlhipjceeeaaProg
import Derived.Test.YtjbmlhipjceeeaaMfL
namespace Go.Proofs.Ytjbmlhipjceeeaa.Mf
open Go.RowKit Go.Proofs.Ytjbmlhipjceeeaa

def hasB (l : List ByteArray) (k : ByteArray) : Bool := l.any fun x => x.toList == k.toList
theorem bytes_beq (x y : ByteArray) : (x.toList == y.toList) = decide (x = y) := by
  rw [Bool.eq_iff_iff, beq_iff_eq, decide_eq_true_iff, ByteArray.toList_eq, ByteArray.toList_eq]
  constructor
  · intro h
    cases x; cases y
    congr 1
    exact Array.ext' h
  · rintro rfl; rfl
theorem has_mem {l : List ByteArray} {k : ByteArray} : hasB l k = true ↔ k ∈ l := by
  unfold hasB
  rw [List.any_eq_true]
  constructor
  · rintro ⟨x, hx, h⟩
    rw [bytes_beq, decide_eq_true_iff] at h
    exact h ▸ hx
  · intro h
    exact ⟨k, h, by rw [bytes_beq]; exact dct rfl⟩
end Go.Proofs.Ytjbmlhipjceeeaa.Mf
