/- Where the groups stand: what the program's map holds (plain law). -/
import Derived.Test.YtennddlihcamnaaSpPM
import Derived.Test.YtennddlihcamnaaPlc
namespace Go.Proofs.Ytennddlihcamnaa.Sp
set_option linter.unusedVariables false
set_option linter.unusedSimpArgs false
open Go.RowKit Go.Proofs.Ytennddlihcamnaa

theorem fst_app {α : Type} {p : α → Bool} {x : α} : ∀ l : List α, fst_ p (l ++ [x]) = if fst_ p l = l.length then (if p x = true then l.length else l.length + 1) else fst_ p l
  | [] => by simp [fst_]
  | y :: l => by
    have ih := fst_app (p := p) (x := x) l
    by_cases hy : p y = true
    · have e1 : fst_ p (y :: l ++ [x]) = 0 := by rw [List.cons_append]; unfold fst_; rw [if_pos hy]
      have e2 : fst_ p (y :: l) = 0 := by unfold fst_; rw [if_pos hy]
      rw [e1, e2, if_neg (by simp)]
    · have e1 : fst_ p (y :: l ++ [x]) = fst_ p (l ++ [x]) + 1 := by rw [List.cons_append]; conv => lhs; unfold fst_; rw [if_neg hy]
      have e2 : fst_ p (y :: l) = fst_ p l + 1 := by conv => lhs; unfold fst_; rw [if_neg hy]
      rw [e1, e2, ih, List.length_cons]
      by_cases h : fst_ p l = l.length
      · by_cases hx : p x = true <;> simp [h, hx]
      · simp [h]
theorem fst_map {α β : Type} (f : α → β) (p : β → Bool) : ∀ l : List α, fst_ p (l.map f) = fst_ (fun x => p (f x)) l
  | [] => rfl
  | x :: l => by
    rw [List.map_cons]
    unfold fst_
    rw [fst_map f p l]
variable {ρ : Type}
theorem fst_keys {κ : Type} [DecidableEq κ] (k : κ) (gs : List (κ × List ρ)) : fst_ (has k) gs = fst_ (fun y => decide (y = k)) (gs.map Prod.fst) := (fst_map Prod.fst (fun y => decide (y = k)) gs).symm
/-- The map tells of each place where its group stands. -/
def Idx (l : List (Place × Nat)) (gs : List ((Int × ByteArray) × List ρ)) : Prop := ∀ p : Place, mget l p = if fst_ (has p.1) gs = gs.length then none else some (fst_ (has p.1) gs)
section
variable {l : List (Place × Nat)} {gs gs' : List ((Int × ByteArray) × List ρ)} {p : Place}
theorem Idx.nil : Idx ([] : List (Place × Nat)) ([] : List ((Int × ByteArray) × List ρ)) := fun _ => rfl
theorem Idx.keys (h : Idx l gs) (e : gs'.map Prod.fst = gs.map Prod.fst) : Idx l gs' := fun q => by
  have hl : gs'.length = gs.length := by have := congrArg List.length e; simpa using this
  rw [h q, fst_keys, fst_keys, e, hl]
theorem Idx.new (h : Idx l gs) (lt : Place → Place → Bool) (hn : fst_ (has p.1) gs = gs.length) (r : List ρ) : Idx (mput lt l p gs.length) (gs ++ [(p.1, r)]) := fun q => by
  rw [mget_mput, fst_app, List.length_append, List.length_singleton]
  by_cases e : p = q
  · subst e
    have hh : has p.1 (p.1, r) = true := decide_eq_true rfl
    rw [if_pos rfl, if_pos hn, if_pos hh, if_neg (by omega)]
  · have hh : ¬ has q.1 (p.1, r) = true := fun h2 => e (Subtype.ext (of_decide_eq_true h2))
    rw [if_neg e, h q]
    by_cases h1 : fst_ (has q.1) gs = gs.length
    · rw [if_pos h1, if_pos h1, if_neg hh, if_pos rfl]
    · have := fst_le (has q.1) gs
      rw [if_neg h1, if_neg h1, if_neg (by omega)]
theorem Idx.there (h : Idx l gs) {n : Nat} (hn : mget l p = some n) : n < gs.length ∧ n = fst_ (has p.1) gs := by
  rw [h p] at hn
  have := fst_le (has p.1) gs
  by_cases h1 : fst_ (has p.1) gs = gs.length
  · rw [if_pos h1] at hn; cases hn
  · rw [if_neg h1] at hn
    injection hn with hn
    omega
theorem Idx.none_ (h : Idx l gs) (hn : mget l p = none) : fst_ (has p.1) gs = gs.length := by
  rw [h p] at hn
  by_cases h1 : fst_ (has p.1) gs = gs.length
  · exact h1
  · rw [if_neg h1] at hn; cases hn
end
/-- As the plain law has it. -/
def pr {ρ : Type} (win : Int) (part : ByteArray) (rows : List ρ) : (Int × ByteArray) × List ρ := ((win, part), rows)
/-- A step where the place has its group. -/
theorem stepG_old {κ : Type} [DecidableEq κ] {key : ρ → κ} {gs : List (κ × List ρ)} {x : ρ} {n : Nat} (hn : n < gs.length) (he : n = fst_ (has (key x)) gs) : stepG key gs x = gs.set n (gs[n].1, gs[n].2 ++ [x]) := by
  unfold stepG addTo
  rw [if_neg (by omega), ← he, List.getElem?_eq_getElem hn]
/-- A step where it has none. -/
theorem stepG_new {κ : Type} [DecidableEq κ] {key : ρ → κ} {gs : List (κ × List ρ)} {x : ρ} (he : fst_ (has (key x)) gs = gs.length) : stepG key gs x = (gs ++ [(key x, [])]).set gs.length (key x, [x]) := by
  unfold stepG addTo
  rw [if_pos he, he, List.getElem?_append_right (Nat.le_refl _), Nat.sub_self, List.getElem?_cons_zero]
  rfl
end Go.Proofs.Ytennddlihcamnaa.Sp
