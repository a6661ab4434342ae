/- Heaps (plain law). -/
import Derived.Test.YtophfgijfmdbcaaProg
import Derived.Test.YtophfgijfmdbcaaSoI
namespace Go.Proofs.Ytophfgijfmdbcaa.Hp
open Go.RowKit Go.Proofs.Ytophfgijfmdbcaa Go.Proofs.Ytophfgijfmdbcaa.So
variable {α : Type} [Inhabited α] {lt : α → α → Bool} {d : List α}

def Heap (lt : α → α → Bool) (d : List α) : Prop := ∀ j, 0 < j → j < d.length → lt (gt d j) (gt d ((j - 1) / 2)) = false
structure Up (lt : α → α → Bool) (d : List α) (i : Nat) : Prop where
  all : ∀ j, 0 < j → j < d.length → j ≠ i → lt (gt d j) (gt d ((j - 1) / 2)) = false
  kid : 0 < i → ∀ j, 0 < j → j < d.length → (j - 1) / 2 = i → lt (gt d j) (gt d ((i - 1) / 2)) = false
structure Down (lt : α → α → Bool) (d : List α) (i : Nat) : Prop where
  all : ∀ j, 0 < j → j < d.length → (j - 1) / 2 ≠ i → lt (gt d j) (gt d ((j - 1) / 2)) = false
  kid : 0 < i → ∀ j, 0 < j → j < d.length → (j - 1) / 2 = i → lt (gt d j) (gt d ((i - 1) / 2)) = false

theorem gt_set {i j : Nat} {x : α} (hi : i < d.length) : gt (d.set i x) j = if j = i then x else gt d j := by
  unfold gt
  rw [List.getD_eq_getElem?_getD, List.getD_eq_getElem?_getD, List.getElem?_set]
  by_cases h : i = j
  · subst h; simp [hi]
  · rw [if_neg h, if_neg (Ne.symm h)]
theorem gt_sw {p q j : Nat} (hp : p < d.length) (hq : q < d.length) : gt (sw d p q) j = if j = q then gt d p else if j = p then gt d q else gt d j := by
  unfold sw
  rw [gt_set (by rw [List.length_set]; exact hq), gt_set hp]
theorem gt_app {x : α} {j : Nat} (h : j < d.length) : gt (d ++ [x]) j = gt d j := by
  unfold gt
  rw [List.getD_eq_getElem?_getD, List.getD_eq_getElem?_getD, List.getElem?_append_left h]
theorem gt_take {k j : Nat} (h : j < k) : gt (d.take k) j = gt d j := by
  unfold gt
  rw [List.getD_eq_getElem?_getD, List.getD_eq_getElem?_getD, List.getElem?_take, if_pos h]
theorem sw_perm {p q : Nat} (hp : p < d.length) (hq : q < d.length) : (sw d p q).Perm d := by
  unfold sw
  rw [← gt_eq hp, ← gt_eq hq]
  exact List.set_set_perm hp hq

theorem Up.start (h : Heap lt d) (x : α) : Up lt (d ++ [x]) d.length where
  all j h0 hj hne := by
    have hl : j < d.length := by rw [List.length_append] at hj; simp at hj; omega
    rw [gt_app hl, gt_app (by omega)]
    exact h j h0 hl
  kid _ j h0 hj hp := by
    rw [List.length_append] at hj
    simp at hj
    omega
theorem Up.stop {i : Nat} (h : Up lt d i) (hi : i = 0 ∨ lt (gt d i) (gt d ((i - 1) / 2)) = false) : Heap lt d := fun j h0 hj => by
  by_cases e : j = i
  · subst e
    rcases hi with hi | hi
    · omega
    · exact hi
  · exact h.all j h0 hj e
theorem Up.step (hO : Swo lt) {i : Nat} (h : Up lt d i) (h0 : 0 < i) (hi : i < d.length) (hl : lt (gt d i) (gt d ((i - 1) / 2)) = true) : Up lt (sw d i ((i - 1) / 2)) ((i - 1) / 2) := by
  have hp : (i - 1) / 2 < d.length := by omega
  have hpi : (i - 1) / 2 < i := by omega
  generalize hpe : (i - 1) / 2 = p at *
  refine ⟨fun j j0 hj hne => ?_, fun hp0 j j0 hj hjp => ?_⟩
  · rw [sw_len] at hj
    rw [gt_sw hi hp, gt_sw hi hp, if_neg hne]
    by_cases e1 : j = i
    · subst e1
      rw [if_pos rfl, hpe, if_pos rfl]
      exact hO.asym hl
    · rw [if_neg e1]
      by_cases e2 : (j - 1) / 2 = i
      · rw [e2, if_neg (by omega), if_pos rfl]
        have := h.kid h0 j j0 hj e2
        rwa [hpe] at this
      · by_cases e3 : (j - 1) / 2 = p
        · rw [e3, if_pos rfl]
          have h1 := h.all j j0 hj e1
          rw [e3] at h1
          cases hq : lt (gt d j) (gt d i)
          · rfl
          · rw [hO.trans _ _ _ hq hl] at h1; cases h1
        · rw [if_neg e3, if_neg e2]
          exact h.all j j0 hj e1
  · rw [sw_len] at hj
    have hpp : (p - 1) / 2 < p := by omega
    rw [gt_sw hi hp, gt_sw hi hp, if_neg (show (p - 1) / 2 ≠ p by omega), if_neg (show (p - 1) / 2 ≠ i by omega), if_neg (show j ≠ p by omega)]
    have h2 := h.all p hp0 hp (by omega)
    by_cases e1 : j = i
    · rw [if_pos e1]; exact h2
    · rw [if_neg e1]
      have h1 := h.all j j0 hj e1
      rw [hjp] at h1
      exact hO.neg _ _ _ h1 h2

theorem Down.stop {i : Nat} (h : Down lt d i) (hk : ∀ j, 0 < j → j < d.length → (j - 1) / 2 = i → lt (gt d j) (gt d i) = false) : Heap lt d := fun j h0 hj => by
  by_cases e : (j - 1) / 2 = i
  · rw [e]; exact hk j h0 hj e
  · exact h.all j h0 hj e
theorem Down.step (hO : Swo lt) {i k : Nat} (h : Down lt d i) (hi : i < d.length) (hk : k < d.length) (k0 : 0 < k) (hp : (k - 1) / 2 = i) (hl : lt (gt d k) (gt d i) = true) (hs : ∀ j, 0 < j → j < d.length → (j - 1) / 2 = i → lt (gt d j) (gt d k) = false) : Down lt (sw d i k) k := by
  have hik : i < k := by omega
  refine ⟨fun j j0 hj hne => ?_, fun _ j j0 hj hjp => ?_⟩
  · rw [sw_len] at hj
    rw [gt_sw hi hk, gt_sw hi hk, if_neg hne]
    by_cases e1 : (j - 1) / 2 = i
    · rw [if_pos e1]
      by_cases e2 : j = k
      · rw [if_pos e2]; exact hO.asym hl
      · rw [if_neg e2, if_neg (by omega)]
        exact hs j j0 hj e1
    · rw [if_neg e1, if_neg (show j ≠ k by rintro rfl; exact e1 hp)]
      by_cases e2 : j = i
      · subst e2
        rw [if_pos rfl]
        exact h.kid j0 k k0 hk hp
      · rw [if_neg e2]
        exact h.all j j0 hj e1
  · rw [sw_len] at hj
    rw [gt_sw hi hk, gt_sw hi hk, hp, if_neg (show i ≠ k by omega), if_pos rfl, if_neg (show j ≠ k by omega), if_neg (show j ≠ i by omega)]
    have := h.all j j0 hj (by omega)
    rwa [hjp] at this
/-- The list behind the taking of the first thing, ahead of the sifting. -/
def cutLast (d : List α) : List α := (d.set 0 (gt d (d.length - 1))).take (d.length - 1)
theorem cutLast_len : (cutLast d).length = d.length - 1 := by unfold cutLast; rw [List.length_take, List.length_set]; omega
theorem Down.start (h : Heap lt d) : Down lt (cutLast d) 0 := by
  have hl : (cutLast d).length = d.length - 1 := cutLast_len
  refine ⟨fun j j0 hj hne => ?_, fun h0 => absurd h0 (by omega)⟩
  rw [hl] at hj
  have e : ∀ m, 0 < m → m < d.length - 1 → gt (cutLast d) m = gt d m := fun m m0 hm => by
    have h1 : gt (cutLast d) m = gt (d.set 0 (gt d (d.length - 1))) m := gt_take hm
    rw [h1, gt_set (by omega), if_neg (by omega)]
  rw [e j j0 hj, e _ (by omega) (by omega)]
  exact h j j0 (by omega)
theorem cutLast_perm (h : 0 < d.length) : d.Perm (gt d 0 :: cutLast d) := by
  cases d with
  | nil => simp at h
  | cons x r =>
    have e0 : gt (x :: r) 0 = x := rfl
    rw [e0]
    refine List.Perm.cons x ?_
    unfold cutLast
    rw [List.set_cons_zero, List.length_cons, Nat.add_sub_cancel]
    cases hr : r.length with
    | zero => rw [List.eq_nil_of_length_eq_zero hr]; exact List.Perm.refl _
    | succ n =>
      rw [List.take_succ_cons]
      have e1 : gt (x :: r) (n + 1) = r[n]'(by omega) := by rw [← gt_eq (by simp; omega)]; rfl
      rw [e1]
      have e2 : r = r.take n ++ [r[n]'(by omega)] := by
        conv => lhs; rw [← List.take_append_drop n r, List.drop_eq_getElem_cons (by omega), List.drop_of_length_le (by omega)]
      conv => lhs; rw [e2]
      exact List.perm_append_comm
theorem root_least (hO : Swo lt) (h : Heap lt d) : ∀ (n j : Nat), j ≤ n → j < d.length → lt (gt d j) (gt d 0) = false
  | 0, j, hn, _ => by obtain rfl : j = 0 := by omega
                      exact hO.irr _
  | n + 1, j, hn, hj => by
    rcases Nat.eq_zero_or_pos j with h0 | h0
    · subst h0; exact hO.irr _
    · exact hO.neg _ _ _ (h j h0 hj) (root_least hO h n ((j - 1) / 2) (by omega) (by omega))
theorem heap_nil : Heap lt ([] : List α) := fun j _ hj => absurd hj (by simp)
end Go.Proofs.Ytophfgijfmdbcaa.Hp
