/- A row of structs of nine cells that a sort works on; swapRangeCmpFunc. -/
import Derived.Test.YtennddlihcamnaaProg
import Derived.Test.YtennddlihcamnaaMem
import Derived.Test.YtennddlihcamnaaSoA
import Derived.Laws.OwnMore
import Derived.IntWalk
namespace Go.Proofs.Ytennddlihcamnaa.Sr
open Go.Proofs.Ytennddlihcamnaa.So
open Go.RowKit
variable {α : Type}

/-- The nine cells of a thing. -/
def nine (c : α → Nat → Value) (x : α) : List Value := [c x 0, c x 1, c x 2, c x 3, c x 4, c x 5, c x 6, c x 7, c x 8]
def flat (c : α → Nat → Value) (d : List α) : List Value := d.flatMap (nine c)
def gt [Inhabited α] (d : List α) (i : Nat) : α := d.getD i default
theorem gt_eq [Inhabited α] {d : List α} {i : Nat} (h : i < d.length) : d[i] = gt d i := by simp [gt, List.getD, List.getElem?_eq_getElem h]
theorem flat_len (c : α → Nat → Value) (d : List α) : (flat c d).length = d.length * 9 := by
  induction d with
  | nil => rfl
  | cons x r ih => simp only [flat, nine, List.flatMap_cons, List.length_append, List.length_cons, List.length_nil] at ih ⊢; omega
theorem nine_get (c : α → Nat → Value) (x : α) {j : Nat} (hj : j < 9) : (nine c x)[j]? = some (c x j) := by
  have : j = 0 ∨ j = 1 ∨ j = 2 ∨ j = 3 ∨ j = 4 ∨ j = 5 ∨ j = 6 ∨ j = 7 ∨ j = 8 := by omega
  rcases this with rfl | rfl | rfl | rfl | rfl | rfl | rfl | rfl | rfl <;> rfl
theorem flat_get [Inhabited α] (c : α → Nat → Value) : ∀ (d : List α) (i j : Nat), i < d.length → j < 9 → (flat c d)[i * 9 + j]? = some (c (gt d i) j)
  | [], i, _, hi, _ => absurd hi (by simp)
  | x :: r, 0, j, _, hj => by
    rw [show 0 * 9 + j = j by omega]
    simp only [flat, List.flatMap_cons]
    rw [List.getElem?_append_left (by simp [nine]; omega), nine_get c x hj]
    rfl
  | x :: r, i + 1, j, hi, hj => by
    have h := flat_get c r i j (by simpa using hi) hj
    simp only [flat, List.flatMap_cons] at h ⊢
    rw [List.getElem?_append_right (by simp [nine]; omega)]
    have e : (i + 1) * 9 + j - (nine c x).length = i * 9 + j := by simp [nine]; omega
    rw [e, h]
    rfl
/-- The row: memory of the call's own, that holds the things d. -/
def RowE (c : α → Nat → Value) (w : World) (base g cap : Nat) (d : List α) : Prop := w.ownsRow base 37 9 (.slice (some ⟨g, 0, none⟩) d.length cap) d.length (flat c d)
section
variable {c : α → Nat → Value} {w w' : World} {base g cap : Nat} {d : List α}
theorem RowE.cell [Inhabited α] (h : RowE c w base g cap d) {i : Nat} (hi : i < d.length) {j : Nat} (hj : j < 9) : w.cell? ⟨g, i * 9 + j, none⟩ = some (c (gt d i) j) := by
  rw [World.ownsRow.cellAt h _ (by omega), flat_get c d i j hi hj]
theorem RowE.frozen (h : RowE c w base g cap d) (j : Nat) : w.frozen? ⟨g, j, none⟩ = false := World.ownsRow.frozenAt h j
theorem RowE.below (h : RowE c w base g cap d) (hb : Below w.heap.size w w') : RowE c w' base g cap d := own_below h hb
theorem RowE.lt (h : RowE c w base g cap d) : base ≤ g ∧ g < w.heap.size := World.ownsRow.lt h g rfl
def setsAt (xs : List Value) (o : Nat) : List Value → List Value
  | [] => xs
  | v :: r => setsAt (xs.set o v) (o + 1) r
theorem setsAt_len : ∀ (vs xs : List Value) (o : Nat), (setsAt xs o vs).length = xs.length
  | [], _, _ => rfl
  | v :: r, xs, o => by rw [setsAt, setsAt_len r]; simp
theorem setsAt_eq : ∀ (vs xs : List Value) (o : Nat), o + vs.length ≤ xs.length → setsAt xs o vs = xs.take o ++ vs ++ xs.drop (o + vs.length)
  | [], xs, o, _ => by simp [setsAt]
  | v :: r, xs, o, h => by
    rw [List.length_cons] at h
    rw [setsAt, setsAt_eq r (xs.set o v) (o + 1) (by rw [List.length_set]; omega)]
    have e1 : (xs.set o v).take (o + 1) = xs.take o ++ [v] := by
      rw [List.take_add_one, List.take_set_of_le (by omega), List.getElem?_set_self (by omega)]
      rfl
    have e2 : (xs.set o v).drop (o + 1 + r.length) = xs.drop (o + (v :: r).length) := by
      rw [List.drop_set_of_lt (by omega), List.length_cons, show o + 1 + r.length = o + (r.length + 1) by omega]
    rw [e1, e2]
    simp
theorem flat_app (c : α → Nat → Value) (a b : List α) : flat c (a ++ b) = flat c a ++ flat c b := by simp [flat]
theorem flat_cons (c : α → Nat → Value) (x : α) (r : List α) : flat c (x :: r) = nine c x ++ flat c r := by simp [flat]
theorem flat_set {i : Nat} (hi : i < d.length) (x : α) : setsAt (flat c d) (i * 9) (nine c x) = flat c (d.set i x) := by
  have hl : (nine c x).length = 9 := rfl
  rw [setsAt_eq _ _ _ (by rw [hl, flat_len]; omega), hl]
  have e0 : d = d.take i ++ d[i] :: d.drop (i + 1) := by rw [← List.drop_eq_getElem_cons hi, List.take_append_drop]
  have e1 : d.set i x = d.take i ++ x :: d.drop (i + 1) := by rw [List.set_eq_take_append_cons_drop, if_pos hi]
  have hli : (flat c (d.take i)).length = i * 9 := by rw [flat_len, List.length_take]; congr 1; omega
  have h9 : (nine c d[i]).length = 9 := rfl
  have e2 : flat c d = flat c (d.take i) ++ (nine c d[i] ++ flat c (d.drop (i + 1))) := by
    conv => lhs; rw [e0]
    rw [flat_app, flat_cons]
  rw [e1, flat_app]
  conv => lhs; rw [e2]
  rw [List.take_left' hli]
  have e3 : (flat c (d.take i) ++ (nine c d[i] ++ flat c (d.drop (i + 1)))).drop (i * 9 + 9) = flat c (d.drop (i + 1)) := by
    rw [← List.drop_drop, List.drop_left' hli, List.drop_left' h9]
  rw [e3, flat_cons, List.append_assoc]
theorem own_sets {xs : List Value} {n : Nat} {e : TypeId} : ∀ (vs : List Value) (o : Nat) (w : World) (xs : List Value), w.ownsRow base e 9 (.slice (some ⟨g, 0, none⟩) n cap) n xs →
    (w.setCells g o vs).ownsRow base e 9 (.slice (some ⟨g, 0, none⟩) n cap) n (setsAt xs o vs) ∧ Only g w (w.setCells g o vs)
  | [], _, w, _, h => ⟨h, Only.refl g w⟩
  | v :: r, o, w, xs, h => by
    have h1 := (World.ownsRow.stored h o v).1
    obtain ⟨h2, h3⟩ := own_sets (xs := xs) r (o + 1) _ _ h1
    exact ⟨h2, ((Only.refl g w).setCell (.inl rfl) v).trans h3⟩
theorem RowE.put (h : RowE c w base g cap d) {i : Nat} (hi : i < d.length) (x : α) : RowE c (w.setCells g (i * 9) (nine c x)) base g cap (d.set i x) ∧ Only g w (w.setCells g (i * 9) (nine c x)) := by
  obtain ⟨h1, h2⟩ := own_sets (xs := flat c d) (nine c x) (i * 9) w _ h
  rw [flat_set hi x] at h1
  exact ⟨by unfold RowE; rw [List.length_set]; exact h1, h2⟩
/-- Two things changed about. -/
def sw [Inhabited α] (d : List α) (p q : Nat) : List α := (d.set p (gt d q)).set q (gt d p)
theorem sw_len [Inhabited α] (d : List α) (p q : Nat) : (sw d p q).length = d.length := by simp [sw]
theorem RowE.swap [Inhabited α] (h : RowE c w base g cap d) {p q : Nat} (hp : p < d.length) (hq : q < d.length) : RowE c ((w.setCells g (p * 9) (nine c (gt d q))).setCells g (q * 9) (nine c (gt d p))) base g cap (sw d p q) ∧ Only g w ((w.setCells g (p * 9) (nine c (gt d q))).setCells g (q * 9) (nine c (gt d p))) := by
  obtain ⟨h1, o1⟩ := h.put hp (gt d q)
  obtain ⟨h2, o2⟩ := h1.put (i := q) (by rw [List.length_set]; exact hq) (gt d p)
  exact ⟨h2, o1.trans o2⟩
end
def swr [Inhabited α] (d : List α) (a b n : Nat) : List α := (List.range n).foldl (fun d i => sw d (a + i) (b + i)) d
theorem swr_succ [Inhabited α] (d : List α) (a b n : Nat) : swr d a b (n + 1) = sw (swr d a b n) (a + n) (b + n) := by simp [swr, List.range_succ]
theorem swr_len [Inhabited α] (d : List α) (a b : Nat) : ∀ n, (swr d a b n).length = d.length
  | 0 => rfl
  | n + 1 => by rw [swr_succ, sw_len, swr_len d a b n]

end Go.Proofs.Ytennddlihcamnaa.Sr
