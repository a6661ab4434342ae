/- Plain laws on edits (chapter 13): no two keys alike. -/
import Derived.Test.YtjbmlhipjceeeaaGreatProg
import Derived.Test.YtjbmlhipjceeeaaGreatMfM
namespace Go.Proofs.YtjbmlhipjceeeaaGreat.Mf
set_option linter.unusedVariables false
set_option linter.unusedSimpArgs false
open Go.RowKit Go.Proofs.YtjbmlhipjceeeaaGreat

/-- Each thing is right, and is not among those before it. -/
def NdP {α κ : Type} [Inhabited α] (r : α → Bool) (key : α → κ) (l : List α) (k : Nat) : Prop := ∀ i, i < k → r (gt l i) = true ∧ ∀ j, j < i → key (gt l j) ≠ key (gt l i)
theorem nd_step {α κ : Type} [Inhabited α] {r : α → Bool} {key : α → κ} {l : List α} {k : Nat} (h : NdP r key l k) (h1 : r (gt l k) = true) (h2 : ∀ j, j < k → key (gt l j) ≠ key (gt l k)) : NdP r key l (k + 1) := by
  intro i hi
  rcases Nat.lt_or_ge i k with h3 | h3
  · exact h i h3
  · obtain rfl : i = k := by omega
    exact ⟨h1, h2⟩
theorem nd_all {α κ : Type} [Inhabited α] [DecidableEq κ] {r : α → Bool} {key : α → κ} {l : List α} (h : NdP r key l l.length) : l.all r = true ∧ (l.map key).Nodup := by
  refine ⟨all_yes fun i hi => (h i hi).1, ?_⟩
  rw [List.nodup_iff_pairwise_ne, List.pairwise_iff_getElem]
  intro i j hi hj hij
  rw [List.length_map] at hi hj
  rw [List.getElem_map, List.getElem_map, gt_eq hi, gt_eq hj]
  exact (h j hj).2 i hij
theorem nd_no {α κ : Type} [Inhabited α] [DecidableEq κ] {key : α → κ} {l : List α} {i j : Nat} (hi : i < l.length) (hj : j < i) (h : key (gt l j) = key (gt l i)) : ¬ (l.map key).Nodup := by
  intro hn
  rw [List.nodup_iff_pairwise_ne, List.pairwise_iff_getElem] at hn
  have := hn j i (by rw [List.length_map]; omega) (by rw [List.length_map]; omega) hj
  rw [List.getElem_map, List.getElem_map, gt_eq hi, gt_eq (show j < l.length by omega)] at this
  exact this h
theorem ltP_mk {y x : Mk} (hy : mkB y = true) (hx : mkB x = true) : ltP y x = (decide (y.maker < x.maker) || decide (y.maker = x.maker) && decide (y.seq < x.seq)) := by
  unfold mkB at hy hx
  simp only [Bool.and_eq_true, decide_eq_true_eq, numB_iff] at hy hx
  unfold ltP
  rw [Bool.eq_iff_iff]
  simp only [Bool.and_eq_true, Bool.or_eq_true, decide_eq_true_eq]
  omega
end Go.Proofs.YtjbmlhipjceeeaaGreat.Mf
