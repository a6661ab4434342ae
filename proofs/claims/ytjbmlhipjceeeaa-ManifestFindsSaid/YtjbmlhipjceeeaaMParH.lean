/- Parse of the reference: the walk (chapter 8). -/
import Derived.Test.YtjbmlhipjceeeaaProg
import Derived.Test.YtjbmlhipjceeeaaMParG
namespace Go.Proofs.Ytjbmlhipjceeeaa.Lb
open Go.RowKit

theorem ext_none (s : ByteArray) (a : Nat) : s.extract a a = ⟨#[]⟩ := bytes_ext (by rw [ext_list, Nat.sub_self, List.take_zero])
theorem par_nil : ParP [123, 125] [] := ⟨by decide +kernel, by decide +kernel⟩
theorem brace_list : (⟨#[123, 125]⟩ : ByteArray).toList = [123, 125] := by decide +kernel
theorem str_eq (s t : ByteArray) : (s.toList == t.toList) = true → s = t := fun h => by
  rw [bytes_eqd, decide_eq_true_iff] at h
  exact h

end Go.Proofs.Ytjbmlhipjceeeaa.Lb
