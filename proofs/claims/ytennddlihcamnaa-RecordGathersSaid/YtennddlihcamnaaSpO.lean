/- Plain law: the things of all groups are all the things, each once. -/
import Derived.Test.YtennddlihcamnaaSpQ
namespace Go.Proofs.Ytennddlihcamnaa.Sp
set_option linter.unusedVariables false
set_option linter.unusedSimpArgs false
open Go.Proofs.Ytennddlihcamnaa Go.Proofs.Ytennddlihcamnaa.So

section
variable {κ ρ : Type} [DecidableEq κ] {key : ρ → κ} {lt : κ → κ → Bool}
theorem filter_two (p q : ρ → Bool) (h : ∀ x, p x = true → q x = false) : ∀ S : List ρ, (S.filter p ++ S.filter q).Perm (S.filter fun x => p x || q x)
  | [] => .refl _
  | x :: S => by
    have ih := filter_two p q h S
    cases hp : p x
    · cases hq : q x
      · simpa [List.filter_cons, hp, hq] using ih
      · have e1 : (x :: S).filter p = S.filter p := by simp [List.filter_cons, hp]
        have e2 : (x :: S).filter q = x :: S.filter q := by simp [List.filter_cons, hq]
        have e3 : (x :: S).filter (fun x => p x || q x) = x :: S.filter fun x => p x || q x := by simp [List.filter_cons, hp, hq]
        rw [e1, e2, e3]
        exact List.perm_middle.trans (ih.cons _)
    · have hq := h x hp
      have e1 : (x :: S).filter p = x :: S.filter p := by simp [List.filter_cons, hp]
      have e2 : (x :: S).filter q = S.filter q := by simp [List.filter_cons, hq]
      have e3 : (x :: S).filter (fun x => p x || q x) = x :: S.filter fun x => p x || q x := by simp [List.filter_cons, hp]
      rw [e1, e2, e3]
      exact ih.cons _
theorem flat_keys (S : List ρ) : ∀ ks : List κ, ks.Nodup → (ks.flatMap fun k => S.filter fun y => decide (key y = k)).Perm (S.filter fun y => decide (key y ∈ ks))
  | [], _ => by
    rw [List.flatMap_nil, List.filter_eq_nil_iff.2 (by simp)]
  | k :: ks, h => by
    rw [List.nodup_cons] at h
    have ih := flat_keys S ks h.2
    rw [List.flatMap_cons]
    refine (ih.append_left _).trans ((filter_two _ _ (fun x hx => ?_) S).trans ?_)
    · rw [decide_eq_true_iff] at hx
      rw [decide_eq_false_iff_not, hx]
      exact h.1
    · rw [show (fun x => decide (key x = k) || decide (key x ∈ ks)) = fun y => decide (key y ∈ k :: ks) from funext fun y => by simp]
theorem Inv.flat {S : List ρ} {gs : List (κ × List ρ)} (h : Inv key S gs) : (gs.flatMap Prod.snd).Perm S := by
  have e : gs.flatMap Prod.snd = (gs.map Prod.fst).flatMap fun k => S.filter fun y => decide (key y = k) := by
    rw [List.flatMap_map]
    have : ∀ l : List (κ × List ρ), (∀ g ∈ l, g.2 = S.filter fun y => decide (key y = g.1)) → l.flatMap Prod.snd = l.flatMap fun g => S.filter fun y => decide (key y = g.1) := fun l => by
      induction l with
      | nil => intro _; rfl
      | cons g l ih =>
        intro hl
        rw [List.flatMap_cons, List.flatMap_cons, ih fun x hx => hl x (List.mem_cons_of_mem _ hx), hl g List.mem_cons_self]
    exact this gs h.rows
  rw [e]
  refine (flat_keys S _ h.nd).trans ?_
  rw [List.filter_eq_self.2 fun y hy => decide_eq_true (h.all y hy)]
/-- What is so of each two things in their order is so in each group. -/
theorem Inv.inner {S : List ρ} {gs : List (κ × List ρ)} (h : Inv key S gs) {r : ρ → ρ → Prop} (hs : S.Pairwise r) {g : κ × List ρ} (hg : g ∈ gs) : g.2.Pairwise r ∧ ∀ y ∈ g.2, key y = g.1 := by
  rw [h.rows g hg]
  exact ⟨hs.sublist List.filter_sublist, fun y hy => of_decide_eq_true (List.mem_filter.1 hy).2⟩
end
/-- Two sorted lists of the same things, no two of which tie, are one. -/
theorem sort_one {ρ : Type} {f : ρ → ρ → Bool} (hirr : ∀ x, f x x = false) (htr : ∀ x y z, f x y = true → f y z = true → f x z = true) {a b : List ρ}
    (hp : a.Perm b) (ha : a.Pairwise fun x y => f y x = false) (hb : b.Pairwise fun x y => f y x = false) (hno : a.Pairwise fun x y => f x y = true ∨ f y x = true) : a = b := by
  have hno' : b.Pairwise fun x y => f x y = true ∨ f y x = true := hp.pairwise hno fun h => h.symm
  have up : ∀ l : List ρ, (l.Pairwise fun x y => f y x = false) → (l.Pairwise fun x y => f x y = true ∨ f y x = true) → l.Pairwise fun x y => f x y = true := fun l h1 h2 => by
    rw [List.pairwise_iff_getElem] at *
    intro i j hi hj hij
    rcases h2 i j hi hj hij with h3 | h3
    · exact h3
    · rw [h1 i j hi hj hij] at h3; cases h3
  exact srt_ext (r := fun x y => f x y = true) (fun x h => by rw [hirr] at h; cases h) htr (up a ha hno) (up b hb hno') fun x => hp.mem_iff
end Go.Proofs.Ytennddlihcamnaa.Sp
