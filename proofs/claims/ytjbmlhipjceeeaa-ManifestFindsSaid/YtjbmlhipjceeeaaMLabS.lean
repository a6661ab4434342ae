/- Labels: Text of what is no set; Same, Twin, few, lives (chapter 8). -/
import Derived.Test.YtjbmlhipjceeeaaProg
import Derived.Test.YtjbmlhipjceeeaaMLabV
namespace Go.Proofs.Ytjbmlhipjceeeaa.Lb
open Go.RowKit

theorem Try.infoLab : (Try.prog.info? 104).map (fun i => (i.zero, i.size, i.bytes)) = some (some (.agg #[.string ⟨#[]⟩, .string ⟨#[]⟩]), 2, 32) := by kernel_rfl



def sameB (l m : List Lab) : Bool := decide (l = m)
theorem same_all {l m : List Lab} (hl : l.length = m.length) (h : ∀ i, i < l.length → labAt l i = labAt m i) : l = m := by
  refine List.ext_getElem hl fun i h1 h2 => ?_
  rw [labAt_eq h1, labAt_eq h2]
  exact h i h1

theorem bytes_eqd (a b : ByteArray) : (a.toList == b.toList) = decide (a = b) := by
  rw [ByteArray.toList_eq, ByteArray.toList_eq]
  by_cases h : a = b
  · simp [h]
  · have h2 : a.data.toList ≠ b.data.toList := fun e => h (ByteArray.ext (Array.toList_inj.1 e))
    rw [dcf h]
    simpa using h2

theorem neq_lab (W : World) (x y : Lab) : (binOp .neq 104 (.agg #[.string x.1, .string x.2]) (.agg #[.string y.1, .string y.2])).run Try.prog W = .ok (.bool (!(decide (x = y)))) W := by
  have u3 := Try.underlying9
  have a3 := Try.isAgg9
  have z3 := Try.sizeOf9
  have hS : Try.prog.underlying 104 = some (.struct (Try.prog.fieldsOf 104)) := by kernel_rfl
  have hp : Try.prog.stoodInHeld 104 = false := by kernel_rfl
  rw [run_neq_struct, show (10000 : Nat) = 9999 + 1 from rfl, run_equalIn_agg W 9999 104 _ _ hS hp]
  simp only [Program.fieldsOf, Try.underlying104]
  go_simp
  have e1 : (x.1.toList == y.1.toList) = decide (x.1 = y.1) := bytes_eqd _ _
  have e2 : (x.2.toList == y.2.toList) = decide (x.2 = y.2) := bytes_eqd _ _
  obtain ⟨x1, x2⟩ := x
  obtain ⟨y1, y2⟩ := y
  simp only at e1 e2 ⊢
  by_cases h1 : x1 = y1 <;> by_cases h2 : x2 = y2 <;> simp [h1, h2] at e1 e2 ⊢ <;> simp [*]


def fewP (l : List Lab) : Prop := l.length ≤ 30 ∧ ∀ i, i < l.length → (labAt l i).1.size + (labAt l i).2.size ≤ 200
instance (l : List Lab) : Decidable (fewP l) := by unfold fewP; infer_instance
def fewB (l : List Lab) : Bool := decide (fewP l)

def liveL : List Lab := [(⟨#[97]⟩, ⟨#[120]⟩), (⟨#[98]⟩, ⟨#[]⟩)]
theorem live_right : rightB liveL = true := by decide +kernel
theorem live_text : textB liveL = [123, 97, 61, 34, 120, 34, 44, 98, 61, 34, 34, 125] := by decide +kernel
end Go.Proofs.Ytjbmlhipjceeeaa.Lb
