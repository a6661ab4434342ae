/- Plain: a number's bytes, and what bytes say (chapter 1). No program in sight. -/
import Derived.WalkKit
namespace Go.Proofs.Ytlljpjehalodfaa

/-- The bytes of a number, by division. -/
def putU (n : Nat) : List UInt8 := if h : n < 128 then [UInt8.ofNat n] else UInt8.ofNat (n % 128 + 128) :: putU (n / 128)
termination_by n
decreasing_by omega

theorem putU_lt {n : Nat} (h : n < 128) : putU n = [UInt8.ofNat n] := by rw [putU, dif_pos h]
theorem putU_ge {n : Nat} (h : ¬ n < 128) : putU n = UInt8.ofNat (n % 128 + 128) :: putU (n / 128) := by rw [putU, dif_neg h]
theorem putU_pos (n : Nat) : 1 ≤ (putU n).length := by
  by_cases h : n < 128
  · rw [putU_lt h]; simp
  · rw [putU_ge h]; simp
theorem putU_len (k : Nat) : ∀ n, n < 128 ^ (k + 1) → (putU n).length ≤ k + 1 := by
  induction k with
  | zero => intro n h; rw [putU_lt (by omega)]; simp
  | succ k ih =>
    intro n h
    by_cases hn : n < 128
    · rw [putU_lt hn]; simp
    · rw [putU_ge hn, List.length_cons]
      have := ih (n / 128) (by rw [Nat.pow_succ] at h; omega)
      omega

theorem putU_step {n m : Nat} {pre : List UInt8} (h : pre ++ putU m = putU n) (hm : ¬ m < 128) : (pre ++ [UInt8.ofNat (m % 128 + 128)]) ++ putU (m / 128) = putU n := by
  rw [putU_ge hm] at h; rw [← h]; simp
theorem putU_end {n m : Nat} {pre : List UInt8} (h : pre ++ putU m = putU n) (hm : m < 128) : pre ++ [UInt8.ofNat m] = putU n := by
  rw [putU_lt hm] at h; exact h
theorem putU_room {n m : Nat} {pre : List UInt8} (h : pre ++ putU m = putU n) (hn : (putU n).length ≤ 10) : pre.length + 1 ≤ 10 := by
  have := congrArg List.length h
  have := putU_pos m
  simp at *; omega

/-- The bytes of 128 and more that stand ahead, f at the most. -/
def headsF : Nat → List UInt8 → Nat
  | 0, _ => 0
  | _ + 1, [] => 0
  | f + 1, x :: r => if 128 ≤ x.toNat then headsF f r + 1 else 0
/-- Little-endian, base 128. -/
def lev : List UInt8 → Nat
  | [] => 0
  | x :: r => x.toNat % 128 + 128 * lev r
/-- What stands at the head of r: the number, how many bytes, the error. -/
def readAt (r : List UInt8) : Nat × Nat × Nat :=
  if r.length ≤ headsF 9 r then (0, 0, 3)
  else if (headsF 9 r = 9 ∧ 1 < (r.getD (headsF 9 r) 0).toNat) ∨ (0 < headsF 9 r ∧ (r.getD (headsF 9 r) 0).toNat = 0) then (0, 0, 4)
  else (lev (r.take (headsF 9 r + 1)), headsF 9 r + 1, 0)
def readU (l : List UInt8) (at_ : Int) : Nat × Nat × Nat :=
  if at_ < 0 ∨ (l.length : Int) ≤ at_ then (0, 0, 3) else readAt (l.drop at_.toNat)

theorem headsF_le (f : Nat) : ∀ r, headsF f r ≤ f := by
  induction f with
  | zero => intro r; simp [headsF]
  | succ f ih =>
    intro r
    cases r with
    | nil => simp [headsF]
    | cons x r => simp only [headsF]; have := ih r; split <;> omega
theorem headsF_len (f : Nat) : ∀ r, headsF f r ≤ r.length := by
  induction f with
  | zero => intro r; simp [headsF]
  | succ f ih =>
    intro r
    cases r with
    | nil => simp [headsF]
    | cons x r => simp only [headsF, List.length_cons]; have := ih r; split <;> omega
theorem headsF_eq (f : Nat) : ∀ (r : List UInt8) (k : Nat), k ≤ f → k ≤ r.length → (∀ j, j < k → 128 ≤ (r.getD j 0).toNat) →
    (k = f ∨ k = r.length ∨ (r.getD k 0).toNat < 128) → headsF f r = k := by
  induction f with
  | zero => intro r k h1 _ _ _; simp [headsF]; omega
  | succ f ih =>
    intro r k h1 h2 h3 h4
    cases r with
    | nil => simp at h2; subst h2; simp [headsF]
    | cons x r =>
      cases k with
      | zero =>
        have : x.toNat < 128 := by rcases h4 with h | h | h <;> simp at h; exact h
        simp only [headsF]; rw [if_neg (by omega)]
      | succ k =>
        have h0 := h3 0 (by omega)
        simp at h0
        simp only [headsF]; rw [if_pos h0]
        rw [ih r k (by omega) (by simpa using h2) (fun j hj => by have := h3 (j + 1) (by omega); simpa using this) (by rcases h4 with h | h | h; exact .inl (by omega); exact .inr (.inl (by simpa using h)); exact .inr (.inr (by simpa using h)))]
theorem headsF_big (f : Nat) : ∀ (r : List UInt8) (j : Nat), j < headsF f r → 128 ≤ (r.getD j 0).toNat := by
  induction f with
  | zero => intro r j h; simp [headsF] at h
  | succ f ih =>
    intro r j h
    cases r with
    | nil => simp [headsF] at h
    | cons x r =>
      simp only [headsF] at h
      split at h
      · cases j with
        | zero => simpa
        | succ j => simpa using ih r j (by omega)
      · omega

theorem lev_snoc : ∀ (r : List UInt8) (x : UInt8), lev (r ++ [x]) = lev r + 128 ^ r.length * (x.toNat % 128)
  | [], x => by simp [lev]
  | y :: r, x => by
    simp only [List.cons_append, lev, lev_snoc r x, List.length_cons, Nat.pow_succ]
    rw [Nat.mul_add, ← Nat.mul_assoc, Nat.mul_comm 128 (128 ^ r.length), Nat.add_assoc]
theorem take_snoc {α : Type} (r : List α) (k : Nat) (h : k < r.length) : r.take (k + 1) = r.take k ++ [r[k]] := List.take_succ_eq_append_getElem h
theorem lev_take (r : List UInt8) (k : Nat) (h : k < r.length) : lev (r.take (k + 1)) = lev (r.take k) + 128 ^ k * (r[k].toNat % 128) := by
  rw [take_snoc r k h, lev_snoc, List.length_take, Nat.min_eq_left (by omega)]
theorem lev_lt : ∀ r : List UInt8, lev r < 128 ^ r.length
  | [] => by simp [lev]
  | x :: r => by
    have := lev_lt r
    simp only [lev, List.length_cons, Nat.pow_succ]
    omega
theorem lev_take_lt (r : List UInt8) (k : Nat) : lev (r.take k) < 128 ^ k := by
  have h1 := lev_lt (r.take k)
  have h2 : (r.take k).length ≤ k := List.length_take_le _ _
  exact Nat.lt_of_lt_of_le h1 (Nat.pow_le_pow_right (by omega) h2)

theorem readAt_short {r : List UInt8} (hl : r.length ≤ 9) (h : ∀ j, j < r.length → 128 ≤ (r.getD j 0).toNat) : readAt r = (0, 0, 3) := by
  have := headsF_eq 9 r r.length hl (Nat.le_refl _) h (.inr (.inl rfl))
  unfold readAt; rw [this, if_pos (Nat.le_refl _)]
theorem readAt_form {r : List UInt8} {k : Nat} (hk : k ≤ 9) (hl : k < r.length) (h : ∀ j, j < k → 128 ≤ (r.getD j 0).toNat) (hx : (k = 9 ∧ 1 < r[k].toNat) ∨ (r[k].toNat = 0 ∧ 0 < k)) : readAt r = (0, 0, 4) := by
  have hg : r.getD k 0 = r[k] := by simp [List.getD, List.getElem?_eq_getElem hl]
  have := headsF_eq 9 r k hk (by omega) h (by rcases hx with h | h; exact .inl h.1; exact .inr (.inr (by rw [hg]; omega)))
  unfold readAt; rw [this, if_neg (by omega), if_pos]
  rw [hg]
  rcases hx with h | h
  · exact .inl h
  · exact .inr ⟨h.2, h.1⟩
theorem readAt_ok {r : List UInt8} {k : Nat} (hk : k ≤ 9) (hl : k < r.length) (h : ∀ j, j < k → 128 ≤ (r.getD j 0).toNat) (hx : ¬ ((k = 9 ∧ 1 < r[k].toNat) ∨ (r[k].toNat = 0 ∧ 0 < k))) (hx2 : r[k].toNat < 128) :
    readAt r = (lev (r.take (k + 1)), k + 1, 0) := by
  have hg : r.getD k 0 = r[k] := by simp [List.getD, List.getElem?_eq_getElem hl]
  have := headsF_eq 9 r k hk (by omega) h (.inr (.inr (by rw [hg]; omega)))
  unfold readAt; rw [this, if_neg (by omega), if_neg]
  rw [hg]
  intro h; exact hx (by rcases h with h | h; exact .inl h; exact .inr ⟨h.2, h.1⟩)

theorem readAt_h1 {r : List UInt8} {j : Nat} (h : headsF 9 r = j) (hl : r.length ≤ j) : readAt r = (0, 0, 3) := by
  unfold readAt; rw [h, if_pos hl]
theorem readAt_h2 {r : List UInt8} {j : Nat} (h : headsF 9 r = j) (hl : j < r.length) (hx : (j = 9 ∧ 1 < r[j].toNat) ∨ (0 < j ∧ r[j].toNat = 0)) : readAt r = (0, 0, 4) := by
  have hg : r.getD j 0 = r[j] := by simp [List.getD, List.getElem?_eq_getElem hl]
  unfold readAt; rw [h, if_neg (by omega), hg, if_pos hx]
theorem readAt_h3 {r : List UInt8} {j : Nat} (h : headsF 9 r = j) (hl : j < r.length) (hx : ¬ ((j = 9 ∧ 1 < r[j].toNat) ∨ (0 < j ∧ r[j].toNat = 0))) : readAt r = (lev (r.take (j + 1)), j + 1, 0) := by
  have hg : r.getD j 0 = r[j] := by simp [List.getD, List.getElem?_eq_getElem hl]
  unfold readAt; rw [h, if_neg (by omega), hg, if_neg hx]
theorem lev_drop_le : ∀ (l : List UInt8) (t : Nat), lev (l.drop t) ≤ lev l
  | [], t => by simp [lev]
  | x :: r, 0 => by simp
  | x :: r, t + 1 => by
    have := lev_drop_le r t
    simp only [List.drop_succ_cons, lev]
    omega
theorem lev_drop (l : List UInt8) (t : Nat) (h : t < l.length) : lev (l.drop t) = l[t].toNat % 128 + 128 * lev (l.drop (t + 1)) := by
  rw [List.drop_eq_getElem_cons h, lev]
theorem lev_back {r : List UInt8} {j t : Nat} (ht : t < j + 1) (hl : j < r.length) : lev ((r.take (j + 1)).drop t) = (r[t]'(by omega)).toNat % 128 + 128 * lev ((r.take (j + 1)).drop (t + 1)) := by
  rw [lev_drop _ t (by rw [List.length_take]; omega), List.getElem_take]
theorem lev_max {r : List UInt8} {k : Nat} (hk : k ≤ 9) (hl : k < r.length) (hx : ¬ (k = 9 ∧ 1 < r[k].toNat)) : lev (r.take (k + 1)) ≤ 18446744073709551615 := by
  rw [lev_take r k hl]
  have h0 := lev_take_lt r k
  rcases Nat.lt_or_ge k 9 with h | h
  · have h1 : 128 ^ k ≤ 128 ^ 8 := Nat.pow_le_pow_right (by omega) (by omega)
    have h2 : 128 ^ k * (r[k].toNat % 128) ≤ 128 ^ 8 * 127 := Nat.mul_le_mul h1 (by omega)
    omega
  · obtain rfl : k = 9 := by omega
    have : r[9].toNat % 128 ≤ 1 := by omega
    have h2 : 128 ^ 9 * (r[9].toNat % 128) ≤ 128 ^ 9 * 1 := Nat.mul_le_mul_left _ this
    omega
theorem readAt_max (r : List UInt8) : (readAt r).1 ≤ 18446744073709551615 ∧ (readAt r).2.1 ≤ 10 ∧ (readAt r).2.1 ≤ r.length := by
  have h9 := headsF_le 9 r
  unfold readAt
  split
  · simp
  · split
    · simp
    · rename_i h1 h2
      refine ⟨lev_max h9 (by omega) (fun h => h2 (.inl ⟨h.1, ?_⟩)), by simp only; omega, by simp only; omega⟩
      have := h.2
      simpa [List.getD, List.getElem?_eq_getElem (show headsF 9 r < r.length by omega)] using this
theorem heads_step {r : List UInt8} {j : Nat} (h : ∀ t, t < j → 128 ≤ (r.getD t 0).toNat) (hj : j < r.length) (hx : 128 ≤ r[j].toNat) : ∀ t, t < j + 1 → 128 ≤ (r.getD t 0).toNat := by
  intro t ht
  rcases Nat.lt_or_ge t j with h1 | h1
  · exact h t h1
  · obtain rfl : t = j := by omega
    simpa [List.getD, List.getElem?_eq_getElem hj] using hx
/-- Where the heads end ahead of the ninth and of the end, a small byte stands. -/
theorem headsF_stop (f : Nat) : ∀ r : List UInt8, headsF f r < f → headsF f r < r.length → (r.getD (headsF f r) 0).toNat < 128 := by
  induction f with
  | zero => intro r h _; omega
  | succ f ih =>
    intro r h1 h2
    cases r with
    | nil => simp at h2
    | cons x r =>
      simp only [headsF] at h1 h2 ⊢
      split
      · rename_i hx
        rw [if_pos hx] at h1 h2
        simpa using ih r (by omega) (by simpa using h2)
      · simp; omega
end Go.Proofs.Ytlljpjehalodfaa
