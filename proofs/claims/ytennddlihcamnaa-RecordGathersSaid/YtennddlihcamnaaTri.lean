/- Comparisons that tell less, equal, greater rightly (plain law). -/
import Derived.Test.YtennddlihcamnaaProg
import Derived.Test.YtennddlihcamnaaMeA
namespace Go.Proofs.Ytennddlihcamnaa
set_option linter.unusedVariables false
set_option linter.unusedSimpArgs false
open Go.RowKit Go.Proofs.Ytennddlihcamnaa.So

/-- A comparison that tells less, equal, greater rightly. -/
structure Tri {α : Type} (f : α → α → Int) : Prop where
  anti : ∀ x y, f y x = - f x y
  tr : ∀ x y z, f x y ≤ 0 → f y z ≤ 0 → f x z ≤ 0
section
variable {α β : Type}
theorem Tri.swo {f : α → α → Int} (h : Tri f) {lt : α → α → Bool} (hl : ∀ x y, lt x y = decide (f x y < 0)) : Swo lt where
  irr x := by
    rw [hl]
    have := h.anti x x
    exact dcf (by omega)
  trans x y z h1 h2 := by
    rw [hl, decide_eq_true_iff] at *
    have a1 := h.anti x y
    have a2 := h.anti y z
    have a3 := h.anti x z
    have t1 := h.tr x y z (by omega) (by omega)
    by_cases e : f x z = 0
    · have t2 := h.tr z x y (by omega) (by omega)
      omega
    · omega
  neg x y z h1 h2 := by
    rw [hl, decide_eq_false_iff_not] at *
    have a1 := h.anti x y
    have a2 := h.anti y z
    have a3 := h.anti x z
    have t1 := h.tr z y x (by omega) (by omega)
    omega
theorem Tri.lex {f g : α → α → Int} (hf : Tri f) (hg : Tri g) : Tri fun x y => if f x y = 0 then g x y else f x y where
  anti x y := by
    have a1 := hf.anti x y
    have a2 := hg.anti x y
    by_cases e : f x y = 0
    · rw [if_pos e, if_pos (by omega)]; exact a2
    · rw [if_neg e, if_neg (by omega)]; exact a1
  tr x y z h1 h2 := by
    have a1 := hf.anti x y
    have a2 := hf.anti y z
    have a3 := hf.anti x z
    have l1 : f x y ≤ 0 := by
      by_cases e : f x y = 0
      · omega
      · rw [if_neg e] at h1; exact h1
    have l2 : f y z ≤ 0 := by
      by_cases e : f y z = 0
      · omega
      · rw [if_neg e] at h2; exact h2
    have l3 := hf.tr x y z l1 l2
    by_cases e : f x z = 0
    · rw [if_pos e]
      have t1 := hf.tr y z x l2 (by omega)
      have t2 := hf.tr z x y (by omega) l1
      rw [if_pos (by omega)] at h1 h2
      exact hg.tr x y z h1 h2
    · rw [if_neg e]; exact l3
theorem Tri.on {f : β → β → Int} (h : Tri f) (k : α → β) : Tri fun x y => f (k x) (k y) := ⟨fun x y => h.anti _ _, fun x y z => h.tr _ _ _⟩
end
theorem triI : Tri cmpI where
  anti x y := by unfold cmpI; repeat' split <;> omega
  tr x y z h1 h2 := by
    unfold cmpI at *
    by_cases p1 : x < z
    · rw [if_pos p1]; omega
    · rw [if_neg p1]
      by_cases p2 : z < x
      · exfalso
        by_cases q1 : x < y
        · rw [if_neg (by omega), if_pos (by omega)] at h2; omega
        · rw [if_neg q1] at h1
          by_cases q2 : y < x
          · rw [if_pos q2] at h1; omega
          · rw [if_neg (by omega), if_pos (by omega)] at h2; omega
      · rw [if_neg p2]; omega
theorem orI4 (a b c d : Int) : orI [a, b, c, d] = if a = 0 then (if b = 0 then (if c = 0 then d else c) else b) else a := by
  simp only [orI]
  by_cases h1 : a = 0
  · by_cases h2 : b = 0
    · by_cases h3 : c = 0
      · by_cases h4 : d = 0
        · simp [h1, h2, h3, h4]
        · simp [h1, h2, h3, h4]
      · simp [h1, h2, h3]
    · simp [h1, h2]
  · simp [h1]
end Go.Proofs.Ytennddlihcamnaa
