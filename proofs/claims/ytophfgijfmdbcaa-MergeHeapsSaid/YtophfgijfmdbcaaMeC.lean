/- The comparison of entries is a strict weak order (plain law). -/
import Derived.Test.YtophfgijfmdbcaaProg
import Derived.Test.YtophfgijfmdbcaaMeB
namespace Go.Proofs.Ytophfgijfmdbcaa
open Go.RowKit Go.Proofs.Ytophfgijfmdbcaa.So

/-- A comparison that tells less, equal, greater rightly. -/
structure Tri {α : Type} (f : α → α → Int) : Prop where
  anti : ∀ x y, f y x = - f x y
  tr : ∀ x y z, f x y ≤ 0 → f y z ≤ 0 → f x z ≤ 0
section
variable {α β : Type}
theorem Tri.swo {f : α → α → Int} (h : Tri f) : Swo (ltc f) where
  irr x := by
    unfold ltc
    have := h.anti x x
    exact dcf (by omega)
  trans x y z h1 h2 := by
    unfold ltc at *
    rw [decide_eq_true_iff] at *
    have a1 := h.anti x y
    have a2 := h.anti y z
    have a3 := h.anti x z
    have t1 := h.tr x y z (by omega) (by omega)
    by_cases e : f x z = 0
    · have t2 := h.tr z x y (by omega) (by omega)
      omega
    · omega
  neg x y z h1 h2 := by
    unfold ltc at *
    rw [decide_eq_false_iff_not] at *
    have a1 := h.anti x y
    have a2 := h.anti y z
    have a3 := h.anti x z
    have t1 := h.tr z y x (by omega) (by omega)
    omega
theorem Tri.lex {f g : α → α → Int} (hf : Tri f) (hg : Tri g) : Tri fun x y => if f x y = 0 then g x y else f x y where
  anti x y := by
    have a1 := hf.anti x y
    have a2 := hg.anti x y
    by_cases e : f x y = 0
    · rw [if_pos e, if_pos (by omega)]; exact a2
    · rw [if_neg e, if_neg (by omega)]; exact a1
  tr x y z h1 h2 := by
    have a1 := hf.anti x y
    have a2 := hf.anti y z
    have a3 := hf.anti x z
    have l1 : f x y ≤ 0 := by
      by_cases e : f x y = 0
      · omega
      · rw [if_neg e] at h1; exact h1
    have l2 : f y z ≤ 0 := by
      by_cases e : f y z = 0
      · omega
      · rw [if_neg e] at h2; exact h2
    have l3 := hf.tr x y z l1 l2
    by_cases e : f x z = 0
    · rw [if_pos e]
      have t1 := hf.tr y z x l2 (by omega)
      have t2 := hf.tr z x y (by omega) l1
      rw [if_pos (by omega)] at h1 h2
      exact hg.tr x y z h1 h2
    · rw [if_neg e]; exact l3
theorem Tri.on {f : β → β → Int} (h : Tri f) (k : α → β) : Tri fun x y => f (k x) (k y) := ⟨fun x y => h.anti _ _, fun x y z => h.tr _ _ _⟩
end
theorem triI : Tri cmpI where
  anti x y := by unfold cmpI; repeat' split <;> omega
  tr x y z h1 h2 := by
    unfold cmpI at *
    by_cases p1 : x < z
    · rw [if_pos p1]; omega
    · rw [if_neg p1]
      by_cases p2 : z < x
      · exfalso
        by_cases q1 : x < y
        · rw [if_neg (by omega), if_pos (by omega)] at h2; omega
        · rw [if_neg q1] at h1
          by_cases q2 : y < x
          · rw [if_pos q2] at h1; omega
          · rw [if_neg (by omega), if_pos (by omega)] at h2; omega
      · rw [if_neg p2]; omega
theorem cmpS_le {x y : ByteArray} : cmpS x y ≤ 0 ↔ ¬ (y.toList < x.toList) := by
  unfold cmpS lessS
  simp only [bytesLess_eq, decide_eq_true_eq]
  by_cases h1 : x.toList < y.toList
  · rw [if_pos h1]
    exact ⟨fun _ h2 => List.lt_irrefl _ (List.lt_trans h1 h2), fun _ => by omega⟩
  · rw [if_neg h1]
    by_cases h2 : y.toList < x.toList
    · rw [if_pos h2]
      exact ⟨fun h => by omega, fun h => absurd h2 h⟩
    · rw [if_neg h2]
      exact ⟨fun _ => h2, fun _ => by omega⟩
theorem triS : Tri cmpS where
  anti x y := by
    unfold cmpS lessS
    simp only [bytesLess_eq, decide_eq_true_eq]
    by_cases h1 : x.toList < y.toList
    · have h2 : ¬ y.toList < x.toList := fun h2 => List.lt_irrefl _ (List.lt_trans h1 h2)
      rw [if_pos h1, if_neg h2, if_pos h1]
      rfl
    · rw [if_neg h1]
      by_cases h2 : y.toList < x.toList
      · rw [if_pos h2, if_neg h1, if_pos h2]
      · rw [if_neg h2, if_neg h2, if_neg h1]; rfl
  tr x y z h1 h2 := by
    rw [cmpS_le] at *
    rw [List.not_lt] at *
    exact List.le_trans h1 h2
theorem orI4 (a b c d : Int) : orI [a, b, c, d] = if a = 0 then (if b = 0 then (if c = 0 then d else c) else b) else a := by
  simp only [orI]
  by_cases h1 : a = 0
  · by_cases h2 : b = 0
    · by_cases h3 : c = 0
      · by_cases h4 : d = 0
        · simp [h1, h2, h3, h4]
        · simp [h1, h2, h3, h4]
      · simp [h1, h2, h3]
    · simp [h1, h2]
  · simp [h1]
theorem triE : Tri cfE := by
  have h : Tri fun x y : Ent => if cmpI x.window y.window = 0 then (if cmpS x.part y.part = 0 then (if cmpI x.born y.born = 0 then cmpS x.key y.key else cmpI x.born y.born) else cmpS x.part y.part) else cmpI x.window y.window :=
    (triI.on Ent.window).lex ((triS.on Ent.part).lex ((triI.on Ent.born).lex (triS.on Ent.key)))
  have e : cfE = fun x y : Ent => if cmpI x.window y.window = 0 then (if cmpS x.part y.part = 0 then (if cmpI x.born y.born = 0 then cmpS x.key y.key else cmpI x.born y.born) else cmpS x.part y.part) else cmpI x.window y.window := by
    funext x y
    exact orI4 _ _ _ _
  rw [e]
  exact h
theorem swoE : Swo (ltc cfE) := triE.swo

set_option maxRecDepth 100000 in
/-- The sort of Choose. -/
theorem sortE_calls (N : Nat) (base g cap : Nat) (w : World) (D0 : List Ent) (h : RowE Ent.c w base g cap D0) (hN : D0.length = N) (hd : N ≤ 1099511627776) :
    Calls Try.prog 30 #[.slice (some ⟨g, 0, none⟩) N cap, .func (.func 31) #[] #[]] w fun e w' =>
      e = .returned (.tuple #[]) ∧ RowE Ent.c w' base g cap (isort (ltc cfE) D0) ∧ Only g w w' :=
  sortStable_calls Ent.c Ent.one cfE 31 cmpE_calls (enters_of Try.func31 (by kernel_rfl) rfl) swoE N base g cap w D0 h hN hd
end Go.Proofs.Ytophfgijfmdbcaa
