/- The texts of label sets, read back: plain laws (chapter 8). -/
import Derived.Test.YtjbmlhipjceeeaaProg
import Derived.Test.YtjbmlhipjceeeaaMLabT
namespace Go.Proofs.Ytjbmlhipjceeeaa.Lb
open Go.RowKit

theorem plain_ne {c : UInt8} (h : plainB c = true) : c ≠ 34 ∧ c ≠ 92 := by
  unfold plainB at h
  rw [decide_eq_true_iff] at h
  exact ⟨fun e => by subst e; exact h.2.2.1 rfl, fun e => by subst e; exact h.2.2.2 rfl⟩
theorem dig16_inj : ∀ a, a < 16 → ∀ b, b < 16 → dig16 a = dig16 b → a = b := by decide +kernel
theorem escB_ne (c : UInt8) : escB c ≠ [] := by unfold escB; split <;> simp
/-- No written byte begins another one's. -/
theorem escB_pre {c d : UInt8} {r t : List UInt8} (h : escB c ++ r = escB d ++ t) : c = d ∧ r = t := by
  cases hc : plainB c <;> cases hd : plainB d
  · rw [escB_hex hc, escB_hex hd] at h
    simp only [List.cons_append, List.nil_append, List.cons.injEq, true_and] at h
    obtain ⟨h1, h2, h3⟩ := h
    have b1 := UInt8.toNat_lt c
    have b2 := UInt8.toNat_lt d
    have e1 := dig16_inj _ (by omega) _ (by omega) h1
    have e2 := dig16_inj _ (by omega) _ (by omega) h2
    exact ⟨UInt8.toNat_inj.1 (by omega), h3⟩
  · rw [escB_hex hc, escB_plain hd] at h
    simp only [List.cons_append, List.nil_append, List.cons.injEq] at h
    exact absurd h.1.symm (plain_ne hd).2
  · rw [escB_plain hc, escB_hex hd] at h
    simp only [List.cons_append, List.nil_append, List.cons.injEq] at h
    exact absurd h.1 (plain_ne hc).2
  · rw [escB_plain hc, escB_plain hd] at h
    simp only [List.cons_append, List.nil_append, List.cons.injEq] at h
    exact h
theorem escB_34 {c : UInt8} {r t : List UInt8} (h : escB c ++ r = 34 :: t) : False := by
  cases hc : plainB c
  · rw [escB_hex hc] at h
    simp only [List.cons_append, List.cons.injEq] at h
    exact absurd h.1 (by decide)
  · rw [escB_plain hc] at h
    simp only [List.cons_append, List.cons.injEq] at h
    exact (plain_ne hc).1 h.1
theorem valT_cons (c : UInt8) (v : List UInt8) : valT (c :: v) = escB c ++ valT v := by simp [valT]
theorem valT_app (u v : List UInt8) : valT (u ++ v) = valT u ++ valT v := by simp [valT]
/-- No written value begins another one's. -/
theorem valT_pre : ∀ {u v r t : List UInt8}, valT u ++ 34 :: r = valT v ++ 34 :: t → u = v ∧ r = t
  | [], [], r, t, h => by simpa [valT] using h
  | [], d :: v, r, t, h => by
    rw [valT_cons, List.append_assoc] at h
    exact absurd h.symm (fun h' => escB_34 h')
  | c :: u, [], r, t, h => by
    rw [valT_cons, List.append_assoc] at h
    exact absurd h (fun h' => escB_34 h')
  | c :: u, d :: v, r, t, h => by
    rw [valT_cons, valT_cons, List.append_assoc, List.append_assoc] at h
    obtain ⟨rfl, h2⟩ := escB_pre h
    obtain ⟨rfl, h3⟩ := valT_pre h2
    exact ⟨rfl, h3⟩

/-! ### Sets as lists -/
def tailT (l : List Lab) : List UInt8 := l.flatMap fun x => 44 :: labT x
def bodyT : List Lab → List UInt8
  | [] => []
  | x :: r => labT x ++ tailT r
theorem tailT_app (l m : List Lab) : tailT (l ++ m) = tailT l ++ tailT m := by simp [tailT]
theorem bodyT_app {l : List Lab} (m : List Lab) (h : l ≠ []) : bodyT (l ++ m) = bodyT l ++ tailT m := by
  cases l with
  | nil => exact absurd rfl h
  | cons x r => simp [bodyT, tailT_app]
theorem labAt_app {l : List Lab} {m : List Lab} {i : Nat} (h : i < l.length) : labAt (l ++ m) i = labAt l i := by
  simp [labAt, List.getD, List.getElem?_append_left h]
theorem textK_body (l : List Lab) : ∀ k, k ≤ l.length → textK l k = bodyT (l.take k) := by
  intro k
  induction k with
  | zero => intro _; rfl
  | succ k ih =>
    intro hk
    rw [textK_succ, ih (by omega)]
    have e : l.take (k + 1) = l.take k ++ [labAt l k] := by
      rw [List.take_succ_eq_append_getElem (by omega), labAt_eq (by omega)]
    rw [e]
    rcases Nat.eq_zero_or_pos k with h0 | h0
    · subst h0
      simp [bodyT, tailT]
    · rw [if_pos h0, bodyT_app _ (by intro h; rw [List.take_eq_nil_iff] at h; rcases h with h | h; omega; subst h; simp at hk)]
      simp [tailT]
theorem textB_body (l : List Lab) : textB l = 123 :: (bodyT l ++ [125]) := by
  unfold textB
  rw [textK_body l _ (Nat.le_refl _), List.take_length]

/-- A name's bytes are letters: no '=' among them. -/
theorem name_no61 {s : ByteArray} (h : nameB s = true) : ∀ c ∈ s.data.toList, c ≠ 61 ∧ letterB c = true := by
  have h' : nameP s := of_decide_eq_true h
  intro c hc
  obtain ⟨i, hi, rfl⟩ := List.getElem_of_mem hc
  have hi' : i < s.size := by rw [Array.length_toList] at hi; exact hi
  have h1 := h'.2.2 i hi'
  have e : at8 s i = s.data.toList[i] := by simp [at8, List.getD, List.getElem?_eq_getElem hi]
  rw [e] at h1
  refine ⟨fun e61 => ?_, okC_letter h1⟩
  rw [e61] at h1
  unfold okC at h1
  simp at h1
theorem name_pre : ∀ {a b r t : List UInt8}, (∀ c ∈ a, c ≠ 61) → (∀ c ∈ b, c ≠ 61) → a ++ 61 :: r = b ++ 61 :: t → a = b ∧ r = t
  | [], [], r, t, _, _, h => by simpa using h
  | [], d :: b, r, t, _, hb, h => by
    simp only [List.nil_append, List.cons_append, List.cons.injEq] at h
    exact absurd h.1.symm (hb d (by simp))
  | c :: a, [], r, t, ha, _, h => by
    simp only [List.nil_append, List.cons_append, List.cons.injEq] at h
    exact absurd h.1 (ha c (by simp))
  | c :: a, d :: b, r, t, ha, hb, h => by
    simp only [List.cons_append, List.cons.injEq] at h
    obtain ⟨rfl, h2⟩ := h
    obtain ⟨rfl, h3⟩ := name_pre (fun c hc => ha c (by simp [hc])) (fun c hc => hb c (by simp [hc])) h2
    exact ⟨rfl, h3⟩
theorem right_name {l : List Lab} (h : rightB l = true) : ∀ x ∈ l, nameB x.1 = true := by
  have h' : rightP l := of_decide_eq_true h
  intro x hx
  obtain ⟨i, hi, rfl⟩ := List.getElem_of_mem hx
  have := (h'.2 i hi).1
  rwa [← labAt_eq hi] at this
theorem bytes_ext {a b : ByteArray} (h : a.data.toList = b.data.toList) : a = b := ByteArray.ext (Array.toList_inj.1 h)
theorem labT_pre {x y : Lab} {r t : List UInt8} (hx : ∀ c ∈ x.1.data.toList, c ≠ 61) (hy : ∀ c ∈ y.1.data.toList, c ≠ 61) (h : labT x ++ r = labT y ++ t) : x = y ∧ r = t := by
  unfold labT at h
  simp only [List.append_assoc, List.cons_append, List.nil_append] at h
  obtain ⟨h1, h2⟩ := name_pre hx hy h
  simp only [List.cons.injEq, true_and] at h2
  obtain ⟨h3, h4⟩ := valT_pre h2
  exact ⟨Prod.ext (bytes_ext h1) (bytes_ext h3), h4⟩
theorem tailT_inj : ∀ {l m : List Lab}, (∀ x ∈ l, nameB x.1 = true) → (∀ x ∈ m, nameB x.1 = true) → tailT l ++ [125] = tailT m ++ [125] → l = m
  | [], [], _, _, _ => rfl
  | [], y :: m, _, _, h => by simp [tailT] at h
  | x :: l, [], _, _, h => by simp [tailT] at h
  | x :: l, y :: m, hl, hm, h => by
    have e : ∀ (x : Lab) (l : List Lab), tailT (x :: l) = 44 :: (labT x ++ tailT l) := fun x l => by simp [tailT]
    rw [e, e] at h
    simp only [List.cons_append, List.cons.injEq, true_and, List.append_assoc] at h
    obtain ⟨rfl, h2⟩ := labT_pre (fun c hc => (name_no61 (hl x (by simp)) c hc).1) (fun c hc => (name_no61 (hm y (by simp)) c hc).1) h
    rw [tailT_inj (fun z hz => hl z (by simp [hz])) (fun z hz => hm z (by simp [hz])) h2]
theorem labT_ne (x : Lab) : labT x ≠ [] := by unfold labT; simp
theorem textB_inj {l m : List Lab} (hl : rightB l = true) (hm : rightB m = true) (h : textB l = textB m) : l = m := by
  rw [textB_body, textB_body] at h
  simp only [List.cons.injEq, true_and] at h
  have h1 := right_name hl
  have h2 := right_name hm
  cases l with
  | nil =>
    cases m with
    | nil => rfl
    | cons y m =>
      have := congrArg List.length h
      have h3 := List.length_pos_iff.2 (labT_ne y)
      simp [bodyT] at this
      omega
  | cons x l =>
    cases m with
    | nil =>
      have := congrArg List.length h
      have h3 := List.length_pos_iff.2 (labT_ne x)
      simp [bodyT] at this
      omega
    | cons y m =>
      simp only [bodyT, List.append_assoc] at h
      obtain ⟨rfl, h3⟩ := labT_pre (fun c hc => (name_no61 (h1 x (by simp)) c hc).1) (fun c hc => (name_no61 (h2 y (by simp)) c hc).1) h
      rw [tailT_inj (fun z hz => h1 z (by simp [hz])) (fun z hz => h2 z (by simp [hz])) h3]

/-- What is left of a set's text behind its first labels. -/
def restT (out r : List Lab) : List UInt8 := if out = [] then bodyT r else tailT r
theorem body_rest (out r : List Lab) : bodyT (out ++ r) = bodyT out ++ restT out r := by
  unfold restT
  split
  · rename_i h; subst h; rfl
  · rename_i h; exact bodyT_app r h
theorem restT_nil {out r : List Lab} (h : restT out r = []) : r = [] := by
  cases r with
  | nil => rfl
  | cons x r =>
    exfalso
    have h3 := List.length_pos_iff.2 (labT_ne x)
    have := congrArg List.length h
    unfold restT at this
    split at this
    · simp only [bodyT, List.length_append, List.length_nil] at this; omega
    · simp [tailT] at this
theorem body_snoc (out : List Lab) (x : Lab) : bodyT (out ++ [x]) = bodyT out ++ ((if out = [] then [] else [44]) ++ labT x) := by
  rw [body_rest]
  congr 1
  unfold restT
  split
  · simp [bodyT, tailT]
  · simp [tailT]
theorem rest_cons (out : List Lab) (x : Lab) (r : List Lab) : restT out (x :: r) = (if out = [] then [] else [44]) ++ (labT x ++ tailT r) := by
  unfold restT
  split
  · simp [bodyT]
  · simp [tailT]
end Go.Proofs.Ytjbmlhipjceeeaa.Lb
