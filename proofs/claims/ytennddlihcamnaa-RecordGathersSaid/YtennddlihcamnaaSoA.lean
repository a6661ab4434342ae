/- A stable sort: lists put together, put in order, chunk by chunk (plain laws). -/
import Derived.Test.YtennddlihcamnaaProg
namespace Go.Proofs.Ytennddlihcamnaa.So
set_option linter.unusedVariables false
set_option linter.unusedSimpArgs false
variable {α : Type}

/-- What is asked of 'comes before': a strict weak order. -/
structure Swo (lt : α → α → Bool) : Prop where
  irr : ∀ x, lt x x = false
  trans : ∀ x y z, lt x y = true → lt y z = true → lt x z = true
  neg : ∀ x y z, lt x y = false → lt y z = false → lt x z = false
section
variable {lt : α → α → Bool}
theorem Swo.asym (h : Swo lt) {x y : α} (hxy : lt x y = true) : lt y x = false := by
  cases hq : lt y x
  · rfl
  · have := h.trans x y x hxy hq
    rw [h.irr] at this
    cases this
theorem Swo.le_lt (h : Swo lt) {x y z : α} (h1 : lt y x = false) (h2 : lt y z = true) : lt x z = true := by
  cases hq : lt x z
  · have := h.neg y x z h1 hq
    rw [h2] at this; cases this
  · rfl
theorem Swo.lt_le (h : Swo lt) {x y z : α} (h1 : lt x y = true) (h2 : lt z y = false) : lt x z = true := by
  cases hq : lt x z
  · have := h.neg x z y hq h2
    rw [h1] at this; cases this
  · rfl

/-- Two lists put together, the left one first where neither comes before the other. -/
def mg (lt : α → α → Bool) : List α → List α → List α
  | [], r => r
  | x :: l, [] => x :: l
  | x :: l, y :: r => if lt y x then y :: mg lt (x :: l) r else x :: mg lt l (y :: r)
termination_by l r => l.length + r.length
theorem mg_nil (l : List α) : mg lt l [] = l := by cases l <;> simp [mg]
theorem mg_nil_l (r : List α) : mg lt [] r = r := by simp [mg]
theorem mg_len : ∀ (l r : List α), (mg lt l r).length = l.length + r.length
  | [], r => by simp [mg]
  | x :: l, [] => by simp [mg]
  | x :: l, y :: r => by
    rw [mg]
    split
    · rw [List.length_cons, mg_len (x :: l) r]; simp; omega
    · rw [List.length_cons, mg_len l (y :: r)]; simp; omega
termination_by l r => l.length + r.length
theorem mg_mem : ∀ (l r : List α) (z : α), z ∈ mg lt l r ↔ z ∈ l ∨ z ∈ r
  | [], r, z => by simp [mg]
  | x :: l, [], z => by simp [mg]
  | x :: l, y :: r, z => by
    rw [mg]
    split
    · rw [List.mem_cons, mg_mem (x :: l) r z, List.mem_cons (a := z) (b := y) (l := r)]
      exact or_left_comm
    · rw [List.mem_cons, mg_mem l (y :: r) z, List.mem_cons (a := z) (b := x) (l := l)]
      exact or_assoc.symm
termination_by l r => l.length + r.length
theorem mg_perm : ∀ (l r : List α), (mg lt l r).Perm (l ++ r)
  | [], r => by simp [mg]
  | x :: l, [] => by simp [mg]
  | x :: l, y :: r => by
    rw [mg]
    split
    · refine ((mg_perm (x :: l) r).cons y).trans ?_
      exact (List.perm_middle (l₁ := x :: l) (l₂ := r) (a := y)).symm
    · exact (mg_perm l (y :: r)).cons x
termination_by l r => l.length + r.length

/-- THE SPLIT: what is below stays below. -/
theorem mg_split : ∀ (L1 R1 L2 R2 : List α), (∀ x ∈ L1, ∀ y ∈ R2, lt y x = false) → (∀ x ∈ L2, ∀ y ∈ R1, lt y x = true) → mg lt (L1 ++ L2) (R1 ++ R2) = mg lt L1 R1 ++ mg lt L2 R2
  | [], [], L2, R2, _, _ => by simp [mg]
  | [], y :: R1, [], R2, _, _ => by simp [mg]
  | [], y :: R1, x :: L2, R2, h1, h2 => by
    have hy := h2 x (by simp) y (by simp)
    have ih := mg_split [] R1 (x :: L2) R2 (by simp) (fun a ha b hb => h2 a ha b (by simp [hb]))
    simp only [List.nil_append, mg_nil_l] at ih ⊢
    rw [List.cons_append, mg, if_pos hy, ih]
    rfl
  | x :: L1, [], L2, [], _, _ => by simp [mg_nil]
  | x :: L1, [], L2, y :: R2, h1, h2 => by
    have hy := h1 x (by simp) y (by simp)
    have ih := mg_split L1 [] L2 (y :: R2) (fun a ha b hb => h1 a (by simp [ha]) b hb) (by simp)
    simp only [List.nil_append, mg_nil] at ih ⊢
    rw [List.cons_append, mg, if_neg (by simp [hy]), ih]
    rfl
  | x :: L1, y :: R1, L2, R2, h1, h2 => by
    rw [List.cons_append, List.cons_append, mg]
    conv => rhs; rw [mg]
    split
    · have ih := mg_split (x :: L1) R1 L2 R2 h1 (fun a ha b hb => h2 a ha b (by simp [hb]))
      rw [List.cons_append] at ih
      rw [ih]; rfl
    · have ih := mg_split L1 (y :: R1) L2 R2 (fun a ha b hb => h1 a (by simp [ha]) b hb) h2
      rw [List.cons_append] at ih
      rw [ih]; rfl
termination_by L1 R1 => L1.length + R1.length

/-- One thing put into a list from the right, or from the left. -/
theorem mg_one {P Q : List α} {x : α} (h1 : ∀ p ∈ P, lt x p = false) (h2 : ∀ q ∈ Q, lt x q = true) : mg lt (P ++ Q) [x] = P ++ x :: Q := by
  have := mg_split (lt := lt) P [] Q [x] (fun a ha b hb => by simp at hb; subst hb; exact h1 a ha) (by simp)
  rw [List.nil_append, mg_nil] at this
  rw [this]
  cases Q with
  | nil => simp [mg]
  | cons q Q => rw [mg, if_pos (h2 q (by simp)), mg_nil]
theorem mg_first {P Q : List α} {x : α} (h1 : ∀ p ∈ P, lt p x = true) (h2 : ∀ q ∈ Q, lt q x = false) : mg lt [x] (P ++ Q) = P ++ x :: Q := by
  have := mg_split (lt := lt) [] P [x] Q (by simp) (fun a ha b hb => by simp at ha; subst ha; exact h1 b hb)
  rw [List.nil_append, mg_nil_l] at this
  rw [this]
  cases Q with
  | nil => simp [mg]
  | cons q Q => rw [mg, if_neg (by simp [h2 q (by simp)]), mg_nil_l]

/-- In order: none comes before one that stands ahead of it. -/
def Srt (lt : α → α → Bool) (l : List α) : Prop := l.Pairwise fun x y => lt y x = false
theorem Srt.nil : Srt lt [] := List.Pairwise.nil
theorem srt_app {l r : List α} : Srt lt (l ++ r) ↔ Srt lt l ∧ Srt lt r ∧ ∀ x ∈ l, ∀ y ∈ r, lt y x = false := by
  unfold Srt
  exact List.pairwise_append
theorem mg_srt (h : Swo lt) : ∀ (l r : List α), Srt lt l → Srt lt r → Srt lt (mg lt l r)
  | [], r, _, h2 => by simpa [mg] using h2
  | x :: l, [], h1, _ => by simpa [mg] using h1
  | x :: l, y :: r, h1, h2 => by
    rw [mg]
    have a1 := List.pairwise_cons.1 h1
    have a2 := List.pairwise_cons.1 h2
    split
    · rename_i hyx
      refine List.pairwise_cons.2 ⟨fun z hz => ?_, mg_srt h (x :: l) r h1 a2.2⟩
      rcases (mg_mem _ _ _).1 hz with hz | hz
      · rcases List.mem_cons.1 hz with rfl | hz
        · exact h.asym hyx
        · exact h.neg z x y (a1.1 z hz) (h.asym hyx)
      · exact a2.1 z hz
    · rename_i hyx
      have hyx' : lt y x = false := by simpa using hyx
      refine List.pairwise_cons.2 ⟨fun z hz => ?_, mg_srt h l (y :: r) a1.2 h2⟩
      rcases (mg_mem _ _ _).1 hz with hz | hz
      · exact a1.1 z hz
      · rcases List.mem_cons.1 hz with rfl | hz
        · exact hyx'
        · exact h.neg z y x (a2.1 z hz) hyx'
termination_by l r => l.length + r.length

/-- A list in order, parted by one thing. -/
theorem srt_part (h : Swo lt) (x : α) : ∀ (l : List α), Srt lt l → ∃ P Q, l = P ++ Q ∧ (∀ p ∈ P, lt x p = false) ∧ ∀ q ∈ Q, lt x q = true
  | [], _ => ⟨[], [], rfl, by simp, by simp⟩
  | y :: l, hs => by
    have a := List.pairwise_cons.1 hs
    obtain ⟨P, Q, rfl, h1, h2⟩ := srt_part h x l a.2
    cases hq : lt x y
    · exact ⟨y :: P, Q, rfl, fun p hp => by rcases List.mem_cons.1 hp with rfl | hp; exact hq; exact h1 p hp, h2⟩
    · refine ⟨[], y :: (P ++ Q), rfl, by simp, fun q hq' => ?_⟩
      rcases List.mem_cons.1 hq' with rfl | hq'
      · exact hq
      · exact h.lt_le hq (a.1 q hq')
theorem mg_assoc1 (h : Swo lt) {A B : List α} {x : α} (hA : Srt lt A) (hB : Srt lt B) : mg lt A (mg lt B [x]) = mg lt (mg lt A B) [x] := by
  obtain ⟨A1, A2, rfl, a1, a2⟩ := srt_part h x A hA
  obtain ⟨B1, B2, rfl, b1, b2⟩ := srt_part h x B hB
  have c1 : ∀ a ∈ A1, ∀ y ∈ B2, lt y a = false := fun a ha y hy => h.asym (h.le_lt (a1 a ha) (b2 y hy))
  have c2 : ∀ a ∈ A2, ∀ y ∈ B1, lt y a = true := fun a ha y hy => h.le_lt (b1 y hy) (a2 a ha)
  rw [mg_one b1 b2, mg_split A1 B1 A2 B2 c1 c2, mg_split A1 B1 A2 (x :: B2) (fun a ha y hy => by rcases List.mem_cons.1 hy with rfl | hy; exact a1 a ha; exact c1 a ha y hy) c2]
  rw [mg_one (fun p hp => by rcases (mg_mem _ _ _).1 hp with hp | hp; exact a1 p hp; exact b1 p hp) (fun q hq => by rcases (mg_mem _ _ _).1 hq with hq | hq; exact a2 q hq; exact b2 q hq)]
  congr 1
  cases A2 with
  | nil => simp [mg]
  | cons a A2 => rw [mg, if_pos (a2 a (by simp))]

/-- A list put in order, one thing after the other. -/
def isort (lt : α → α → Bool) (l : List α) : List α := l.foldl (fun acc x => mg lt acc [x]) []
theorem isort_nil : isort lt [] = [] := rfl
theorem isort_snoc (l : List α) (x : α) : isort lt (l ++ [x]) = mg lt (isort lt l) [x] := by simp [isort]
theorem snoc_ind {p : List α → Prop} (h0 : p []) (h1 : ∀ l x, p l → p (l ++ [x])) (l : List α) : p l := by
  rw [← List.reverse_reverse l]
  induction l.reverse with
  | nil => exact h0
  | cons x r ih => rw [List.reverse_cons]; exact h1 _ _ ih
theorem isort_srt (h : Swo lt) (l : List α) : Srt lt (isort lt l) := by
  refine snoc_ind (p := fun l => Srt lt (isort lt l)) Srt.nil (fun l x ih => ?_) l
  rw [isort_snoc]
  exact mg_srt h _ _ ih (List.pairwise_singleton _ _)
theorem isort_perm (l : List α) : (isort lt l).Perm l := by
  refine snoc_ind (p := fun l => (isort lt l).Perm l) (List.Perm.refl _) (fun l x ih => ?_) l
  rw [isort_snoc]
  exact (mg_perm _ _).trans (ih.append_right _)
theorem isort_len (l : List α) : (isort lt l).length = l.length := (isort_perm l).length_eq
theorem isort_app (h : Swo lt) (l r : List α) : isort lt (l ++ r) = mg lt (isort lt l) (isort lt r) := by
  refine snoc_ind (p := fun r => isort lt (l ++ r) = mg lt (isort lt l) (isort lt r)) ?_ (fun r x ih => ?_) r
  · rw [List.append_nil, isort_nil, mg_nil]
  · rw [← List.append_assoc, isort_snoc, ih, isort_snoc, mg_assoc1 h (isort_srt h l) (isort_srt h r)]
theorem isort_one (x : α) : isort lt [x] = [x] := by simp [isort, mg]
/-- A list that is in order stays as it is. -/
theorem isort_id (h : Swo lt) {l : List α} : Srt lt l → isort lt l = l := by
  refine snoc_ind (p := fun l => Srt lt l → isort lt l = l) (fun _ => rfl) (fun l x ih hs => ?_) l
  obtain ⟨h1, _, h3⟩ := srt_app.1 hs
  rw [isort_snoc, ih h1]
  have := mg_one (lt := lt) (P := l) (Q := []) (x := x) (fun p hp => h3 p hp x (by simp)) (by simp)
  simpa using this

/-! ### Chunks -/
/-- A list, each chunk of s of it put in order. -/
def chunk (lt : α → α → Bool) (s : Nat) (l : List α) : List α := if h : s = 0 ∨ l.length ≤ s then isort lt l else isort lt (l.take s) ++ chunk lt s (l.drop s)
termination_by l.length
decreasing_by (simp only [List.length_drop]; omega)
theorem chunk_small {s : Nat} {l : List α} (h : l.length ≤ s) : chunk lt s l = isort lt l := by rw [chunk, dif_pos (.inr h)]
theorem chunk_big {s : Nat} {l : List α} (hs : 0 < s) (h : s ≤ l.length) : chunk lt s l = isort lt (l.take s) ++ chunk lt s (l.drop s) := by
  rcases Nat.lt_or_ge s l.length with h1 | h1
  · rw [chunk, dif_neg (by omega)]
  · have e : l.length = s := by omega
    rw [chunk_small (by omega), List.take_of_length_le (by omega), List.drop_eq_nil_of_le (by omega), chunk_small (by simp), isort_nil, List.append_nil]
theorem chunk_len {s : Nat} (hs : 0 < s) (l : List α) : (chunk lt s l).length = l.length := by
  generalize hn : l.length = n
  induction n using Nat.strongRecOn generalizing l with
  | ind n ih =>
    rcases Nat.lt_or_ge s l.length with h | h
    · rw [chunk_big hs (by omega), List.length_append, isort_len, ih (l.drop s).length (by rw [List.length_drop]; omega) (l.drop s) rfl, List.length_take, List.length_drop]
      omega
    · rw [chunk_small h, isort_len, hn]
end
end Go.Proofs.Ytennddlihcamnaa.So
