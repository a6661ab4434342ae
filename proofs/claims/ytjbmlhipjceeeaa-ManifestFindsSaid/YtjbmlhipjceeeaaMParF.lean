/- Reading a byte: read of the reference (chapter 8). -/
import Derived.Test.YtjbmlhipjceeeaaProg
import Derived.Test.YtjbmlhipjceeeaaMParD
import Derived.Test.YtjbmlhipjceeeaaMLabS
namespace Go.Proofs.Ytjbmlhipjceeeaa.Lb
open Go.RowKit

def ReadRet (S : List UInt8) (p : Nat) (e : Ending) : Prop :=
  (∃ c : UInt8, e = .returned (.tuple #[.int .u8 (c.toNat : Int), .int .i64 ((escB c).length : Int)]) ∧ S.drop p = escB c ++ S.drop (p + (escB c).length)) ∨
  (e = .returned (.tuple #[.int .u8 0, .int .i64 0]) ∧ NoRd (S.drop p))
theorem ext_eq1 {s : ByteArray} {p : Nat} (h : p < s.size) : ((⟨(escB s[p]).toArray⟩ : ByteArray).toList == (s.extract p (p + 1)).toList) = plainB s[p] := by
  rw [bytes_eqd]
  have hx : (s.extract p (p + 1)).data.toList = [s[p]] := by
    rw [ext_list, drop8 h, show p + 1 - p = 1 by omega, at8_eq h]
    rfl
  cases hp : plainB s[p]
  · refine dcf fun e => ?_
    have := congrArg (fun z => z.data.toList.length) e
    simp only [hx] at this
    rw [escB_hex hp] at this
    simp at this
  · refine dct (bytes_ext ?_)
    rw [hx, escB_plain hp]
theorem ext_eq3 {s : ByteArray} {p : Nat} (h : p + 3 ≤ s.size) {x : UInt8} (hx : plainB x = false) : ((s.extract p (p + 3)).toList == (⟨(escB x).toArray⟩ : ByteArray).toList) = true ↔ s.data.toList.drop p = escB x ++ s.data.toList.drop (p + 3) := by
  rw [bytes_eqd, decide_eq_true_iff]
  have hd : (s.extract p (p + 3)).data.toList = (s.data.toList.drop p).take 3 := by rw [ext_list, show p + 3 - p = 3 by omega]
  constructor
  · intro e
    have e2 := congrArg (fun z => z.data.toList) e
    simp only [hd] at e2
    have e3 : s.data.toList.drop (p + 3) = (s.data.toList.drop p).drop 3 := by rw [List.drop_drop]
    rw [e3]
    conv => lhs; rw [← List.take_append_drop 3 (s.data.toList.drop p), e2]
  · intro e
    refine bytes_ext ?_
    rw [hd, e]
    have : (escB x).length = 3 := by rw [escB_len13, hx]; rfl
    rw [List.take_append_of_le_length (by omega), List.take_of_length_le (by omega)]

end Go.Proofs.Ytjbmlhipjceeeaa.Lb
