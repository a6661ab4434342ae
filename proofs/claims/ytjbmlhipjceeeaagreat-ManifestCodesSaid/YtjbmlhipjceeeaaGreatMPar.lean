/- The texts of label sets, read back: plain laws (chapter 8). Reading a value: digit and value of the code (chapter 8). Reading a set's text: what is known between two labels (plain laws, chapter 8). Parse of the code (chapter 8). Parse of the code (chapter 8): the walk. Reading a byte: read of the reference (chapter 8). Parse of the reference: plain laws (chapter 8). Parse of the reference: the walk (chapter 8). -/
import Derived.Test.YtjbmlhipjceeeaaGreatProg
import Derived.Test.YtjbmlhipjceeeaaGreatMLab
import Derived.Lib.IndexMore
import Derived.Shelf.Vars

namespace Go.Proofs.YtjbmlhipjceeeaaGreat.Lb
set_option linter.unusedVariables false
set_option linter.unusedSimpArgs false
open Go.RowKit

theorem plain_ne {c : UInt8} (h : plainB c = true) : c ≠ 34 ∧ c ≠ 92 := by
  unfold plainB at h
  rw [decide_eq_true_iff] at h
  exact ⟨fun e => by subst e; exact h.2.2.1 rfl, fun e => by subst e; exact h.2.2.2 rfl⟩
theorem dig16_inj : ∀ a, a < 16 → ∀ b, b < 16 → dig16 a = dig16 b → a = b := by decide +kernel
theorem escB_ne (c : UInt8) : escB c ≠ [] := by unfold escB; split <;> simp
/-- No written byte begins another one's. -/
theorem escB_pre {c d : UInt8} {r t : List UInt8} (h : escB c ++ r = escB d ++ t) : c = d ∧ r = t := by
  cases hc : plainB c <;> cases hd : plainB d
  · rw [escB_hex hc, escB_hex hd] at h
    simp only [List.cons_append, List.nil_append, List.cons.injEq, true_and] at h
    obtain ⟨h1, h2, h3⟩ := h
    have b1 := UInt8.toNat_lt c
    have b2 := UInt8.toNat_lt d
    have e1 := dig16_inj _ (by omega) _ (by omega) h1
    have e2 := dig16_inj _ (by omega) _ (by omega) h2
    exact ⟨UInt8.toNat_inj.1 (by omega), h3⟩
  · rw [escB_hex hc, escB_plain hd] at h
    simp only [List.cons_append, List.nil_append, List.cons.injEq] at h
    exact absurd h.1.symm (plain_ne hd).2
  · rw [escB_plain hc, escB_hex hd] at h
    simp only [List.cons_append, List.nil_append, List.cons.injEq] at h
    exact absurd h.1 (plain_ne hc).2
  · rw [escB_plain hc, escB_plain hd] at h
    simp only [List.cons_append, List.nil_append, List.cons.injEq] at h
    exact h
theorem escB_34 {c : UInt8} {r t : List UInt8} (h : escB c ++ r = 34 :: t) : False := by
  cases hc : plainB c
  · rw [escB_hex hc] at h
    simp only [List.cons_append, List.cons.injEq] at h
    exact absurd h.1 (by decide)
  · rw [escB_plain hc] at h
    simp only [List.cons_append, List.cons.injEq] at h
    exact (plain_ne hc).1 h.1
theorem valT_cons (c : UInt8) (v : List UInt8) : valT (c :: v) = escB c ++ valT v := by simp [valT]
theorem valT_app (u v : List UInt8) : valT (u ++ v) = valT u ++ valT v := by simp [valT]
/-- No written value begins another one's. -/
theorem valT_pre : ∀ {u v r t : List UInt8}, valT u ++ 34 :: r = valT v ++ 34 :: t → u = v ∧ r = t
  | [], [], r, t, h => by simpa [valT] using h
  | [], d :: v, r, t, h => by
    rw [valT_cons, List.append_assoc] at h
    exact absurd h.symm (fun h' => escB_34 h')
  | c :: u, [], r, t, h => by
    rw [valT_cons, List.append_assoc] at h
    exact absurd h (fun h' => escB_34 h')
  | c :: u, d :: v, r, t, h => by
    rw [valT_cons, valT_cons, List.append_assoc, List.append_assoc] at h
    obtain ⟨rfl, h2⟩ := escB_pre h
    obtain ⟨rfl, h3⟩ := valT_pre h2
    exact ⟨rfl, h3⟩

/-! ### Sets as lists -/
def tailT (l : List Lab) : List UInt8 := l.flatMap fun x => 44 :: labT x
def bodyT : List Lab → List UInt8
  | [] => []
  | x :: r => labT x ++ tailT r
theorem tailT_app (l m : List Lab) : tailT (l ++ m) = tailT l ++ tailT m := by simp [tailT]
theorem bodyT_app {l : List Lab} (m : List Lab) (h : l ≠ []) : bodyT (l ++ m) = bodyT l ++ tailT m := by
  cases l with
  | nil => exact absurd rfl h
  | cons x r => simp [bodyT, tailT_app]
theorem labAt_app {l : List Lab} {m : List Lab} {i : Nat} (h : i < l.length) : labAt (l ++ m) i = labAt l i := by
  simp [labAt, List.getD, List.getElem?_append_left h]
theorem textK_body (l : List Lab) : ∀ k, k ≤ l.length → textK l k = bodyT (l.take k) := by
  intro k
  induction k with
  | zero => intro _; rfl
  | succ k ih =>
    intro hk
    rw [textK_succ, ih (by omega)]
    have e : l.take (k + 1) = l.take k ++ [labAt l k] := by
      rw [List.take_succ_eq_append_getElem (by omega), labAt_eq (by omega)]
    rw [e]
    rcases Nat.eq_zero_or_pos k with h0 | h0
    · subst h0
      simp [bodyT, tailT]
    · rw [if_pos h0, bodyT_app _ (by intro h; rw [List.take_eq_nil_iff] at h; rcases h with h | h; omega; subst h; simp at hk)]
      simp [tailT]
theorem textB_body (l : List Lab) : textB l = 123 :: (bodyT l ++ [125]) := by
  unfold textB
  rw [textK_body l _ (Nat.le_refl _), List.take_length]

/-- A name's bytes are letters: no '=' among them. -/
theorem name_no61 {s : ByteArray} (h : nameB s = true) : ∀ c ∈ s.data.toList, c ≠ 61 ∧ letterB c = true := by
  have h' : nameP s := of_decide_eq_true h
  intro c hc
  obtain ⟨i, hi, rfl⟩ := List.getElem_of_mem hc
  have hi' : i < s.size := by rw [Array.length_toList] at hi; exact hi
  have h1 := h'.2.2 i hi'
  have e : at8 s i = s.data.toList[i] := by simp [at8, List.getD, List.getElem?_eq_getElem hi]
  rw [e] at h1
  refine ⟨fun e61 => ?_, okC_letter h1⟩
  rw [e61] at h1
  unfold okC at h1
  simp at h1
theorem name_pre : ∀ {a b r t : List UInt8}, (∀ c ∈ a, c ≠ 61) → (∀ c ∈ b, c ≠ 61) → a ++ 61 :: r = b ++ 61 :: t → a = b ∧ r = t
  | [], [], r, t, _, _, h => by simpa using h
  | [], d :: b, r, t, _, hb, h => by
    simp only [List.nil_append, List.cons_append, List.cons.injEq] at h
    exact absurd h.1.symm (hb d (by simp))
  | c :: a, [], r, t, ha, _, h => by
    simp only [List.nil_append, List.cons_append, List.cons.injEq] at h
    exact absurd h.1 (ha c (by simp))
  | c :: a, d :: b, r, t, ha, hb, h => by
    simp only [List.cons_append, List.cons.injEq] at h
    obtain ⟨rfl, h2⟩ := h
    obtain ⟨rfl, h3⟩ := name_pre (fun c hc => ha c (by simp [hc])) (fun c hc => hb c (by simp [hc])) h2
    exact ⟨rfl, h3⟩
theorem right_name {l : List Lab} (h : rightB l = true) : ∀ x ∈ l, nameB x.1 = true := by
  have h' : rightP l := of_decide_eq_true h
  intro x hx
  obtain ⟨i, hi, rfl⟩ := List.getElem_of_mem hx
  have := (h'.2 i hi).1
  rwa [← labAt_eq hi] at this
theorem bytes_ext {a b : ByteArray} (h : a.data.toList = b.data.toList) : a = b := ByteArray.ext (Array.toList_inj.1 h)
theorem labT_pre {x y : Lab} {r t : List UInt8} (hx : ∀ c ∈ x.1.data.toList, c ≠ 61) (hy : ∀ c ∈ y.1.data.toList, c ≠ 61) (h : labT x ++ r = labT y ++ t) : x = y ∧ r = t := by
  unfold labT at h
  simp only [List.append_assoc, List.cons_append, List.nil_append] at h
  obtain ⟨h1, h2⟩ := name_pre hx hy h
  simp only [List.cons.injEq, true_and] at h2
  obtain ⟨h3, h4⟩ := valT_pre h2
  exact ⟨Prod.ext (bytes_ext h1) (bytes_ext h3), h4⟩
theorem tailT_inj : ∀ {l m : List Lab}, (∀ x ∈ l, nameB x.1 = true) → (∀ x ∈ m, nameB x.1 = true) → tailT l ++ [125] = tailT m ++ [125] → l = m
  | [], [], _, _, _ => rfl
  | [], y :: m, _, _, h => by simp [tailT] at h
  | x :: l, [], _, _, h => by simp [tailT] at h
  | x :: l, y :: m, hl, hm, h => by
    have e : ∀ (x : Lab) (l : List Lab), tailT (x :: l) = 44 :: (labT x ++ tailT l) := fun x l => by simp [tailT]
    rw [e, e] at h
    simp only [List.cons_append, List.cons.injEq, true_and, List.append_assoc] at h
    obtain ⟨rfl, h2⟩ := labT_pre (fun c hc => (name_no61 (hl x (by simp)) c hc).1) (fun c hc => (name_no61 (hm y (by simp)) c hc).1) h
    rw [tailT_inj (fun z hz => hl z (by simp [hz])) (fun z hz => hm z (by simp [hz])) h2]
theorem labT_ne (x : Lab) : labT x ≠ [] := by unfold labT; simp
theorem textB_inj {l m : List Lab} (hl : rightB l = true) (hm : rightB m = true) (h : textB l = textB m) : l = m := by
  rw [textB_body, textB_body] at h
  simp only [List.cons.injEq, true_and] at h
  have h1 := right_name hl
  have h2 := right_name hm
  cases l with
  | nil =>
    cases m with
    | nil => rfl
    | cons y m =>
      have := congrArg List.length h
      have h3 := List.length_pos_iff.2 (labT_ne y)
      simp [bodyT] at this
      omega
  | cons x l =>
    cases m with
    | nil =>
      have := congrArg List.length h
      have h3 := List.length_pos_iff.2 (labT_ne x)
      simp [bodyT] at this
      omega
    | cons y m =>
      simp only [bodyT, List.append_assoc] at h
      obtain ⟨rfl, h3⟩ := labT_pre (fun c hc => (name_no61 (h1 x (by simp)) c hc).1) (fun c hc => (name_no61 (h2 y (by simp)) c hc).1) h
      rw [tailT_inj (fun z hz => h1 z (by simp [hz])) (fun z hz => h2 z (by simp [hz])) h3]

/-- What is left of a set's text behind its first labels. -/
def restT (out r : List Lab) : List UInt8 := if out = [] then bodyT r else tailT r
theorem body_rest (out r : List Lab) : bodyT (out ++ r) = bodyT out ++ restT out r := by
  unfold restT
  split
  · rename_i h; subst h; rfl
  · rename_i h; exact bodyT_app r h
theorem restT_nil {out r : List Lab} (h : restT out r = []) : r = [] := by
  cases r with
  | nil => rfl
  | cons x r =>
    exfalso
    have h3 := List.length_pos_iff.2 (labT_ne x)
    have := congrArg List.length h
    unfold restT at this
    split at this
    · simp only [bodyT, List.length_append, List.length_nil] at this; omega
    · simp [tailT] at this
theorem body_snoc (out : List Lab) (x : Lab) : bodyT (out ++ [x]) = bodyT out ++ ((if out = [] then [] else [44]) ++ labT x) := by
  rw [body_rest]
  congr 1
  unfold restT
  split
  · simp [bodyT, tailT]
  · simp [tailT]
theorem rest_cons (out : List Lab) (x : Lab) (r : List Lab) : restT out (x :: r) = (if out = [] then [] else [44]) ++ (labT x ++ tailT r) := by
  unfold restT
  split
  · simp [bodyT]
  · simp [tailT]
end Go.Proofs.YtjbmlhipjceeeaaGreat.Lb

namespace Go.Proofs.YtjbmlhipjceeeaaGreat.Lb
set_option linter.unusedVariables false
set_option linter.unusedSimpArgs false
open Go.RowKit

theorem drop8 {s : ByteArray} {q : Nat} (h : q < s.size) : s.data.toList.drop q = at8 s q :: s.data.toList.drop (q + 1) := by
  have hl : q < s.data.toList.length := by rw [Array.length_toList]; exact h
  rw [List.drop_eq_getElem_cons hl]
  simp [at8, List.getD, List.getElem?_eq_getElem hl]
def hexV (c : UInt8) : Int := if 48 ≤ c.toNat ∧ c.toNat ≤ 57 then (c.toNat : Int) - 48 else if 97 ≤ c.toNat ∧ c.toNat ≤ 102 then (c.toNat : Int) - 87 else -1
theorem hexV_dig : ∀ k, k < 16 → hexV (dig16 k) = (k : Int) := by decide +kernel
theorem hexV_lt (c : UInt8) : hexV c < 16 := by unfold hexV; split; omega; split <;> omega
theorem dig_hexV (c : UInt8) (h : 0 ≤ hexV c) : dig16 (hexV c).toNat = c := by
  have : ∀ n, n < 256 → 0 ≤ hexV (UInt8.ofNat n) → dig16 (hexV (UInt8.ofNat n)).toNat = UInt8.ofNat n := by decide +kernel
  have h2 := this c.toNat (UInt8.toNat_lt c)
  rw [UInt8.ofNat_toNat] at h2
  exact h2 h
set_option maxRecDepth 100000 in
theorem digit_calls (c : UInt8) (w : World) : Calls Tryz.prog 137 #[.int .u8 (c.toNat : Int)] w fun e w' => e = .returned (.int .i64 (hexV c)) ∧ w = w' := by
  have hc8 := UInt8.toNat_lt c
  have hcase : (48 ≤ (c.toNat : Int) ∧ (c.toNat : Int) ≤ 57 ∧ hexV c = (c.toNat : Int) - 48) ∨ ((c.toNat : Int) < 48 ∧ hexV c = -1) ∨ (48 ≤ (c.toNat : Int) ∧ 57 < (c.toNat : Int) ∧ (c.toNat : Int) < 97 ∧ hexV c = -1) ∨ (48 ≤ (c.toNat : Int) ∧ 57 < (c.toNat : Int) ∧ 97 ≤ (c.toNat : Int) ∧ (c.toNat : Int) ≤ 102 ∧ hexV c = (c.toNat : Int) - 87) ∨ (48 ≤ (c.toNat : Int) ∧ 57 < (c.toNat : Int) ∧ 97 ≤ (c.toNat : Int) ∧ 102 < (c.toNat : Int) ∧ hexV c = -1) := by
    unfold hexV
    split
    · omega
    · split <;> omega
  rcases hcase with ⟨h1, h2, h⟩ | ⟨h1, h⟩ | ⟨h1, h2, h3, h⟩ | ⟨h1, h2, h3, h4, h⟩ | ⟨h1, h2, h3, h4, h⟩
  all_goals
    have HX := Lib.hid h
    clear h
    try (have d57 : decide ((c.toNat : Int) ≤ 57) = true := dct (by omega))
    try (have e57 : decide ((c.toNat : Int) ≤ 57) = false := dcf (by omega))
    try (have d102 : decide ((c.toNat : Int) ≤ 102) = true := dct (by omega))
    try (have e102 : decide ((c.toNat : Int) ≤ 102) = false := dcf (by omega))
    try (have w1 : IntKind.u8.wrap ((c.toNat : Int) - 48) = (c.toNat : Int) - 48 := by rw [IntKind.wrap_u8]; omega)
    try (have w2 : IntKind.u8.wrap ((c.toNat : Int) - 97) = (c.toNat : Int) - 97 := by rw [IntKind.wrap_u8]; omega)
    go_enter Tryz.func137, Tryz.ntmps137
    go_wp2
    go_ret
    exact ⟨by rw [HX.out]; first | rfl | exact congrArg (fun z => Ending.returned (.int .i64 z)) (show (c.toNat : Int) - 97 + 10 = (c.toNat : Int) - 87 by omega), rfl⟩

/-! ### One written byte -/
def NoRd (X : List UInt8) : Prop := ∀ c r, X ≠ escB c ++ r
theorem noRd_nil : NoRd [] := fun c r h => by
  have h2 := escB_ne c
  have := congrArg List.length h
  have h3 := List.length_pos_iff.2 h2
  simp at this
  omega
theorem noRd_bad {c : UInt8} {X : List UInt8} (h1 : plainB c = false) (h2 : c ≠ 92) : NoRd (c :: X) := fun d r h => by
  cases hd : plainB d
  · rw [escB_hex hd] at h; simp only [List.cons_append, List.cons.injEq] at h; exact h2 h.1
  · rw [escB_plain hd] at h; simp only [List.cons_append, List.cons.injEq] at h; rw [h.1, hd] at h1; cases h1
theorem esc92 {d : UInt8} {X r : List UInt8} (h : 92 :: X = escB d ++ r) : plainB d = false ∧ X = dig16 (d.toNat / 16) :: dig16 (d.toNat % 16) :: r := by
  cases hd : plainB d
  · rw [escB_hex hd] at h; simp only [List.cons_append, List.cons.injEq, List.nil_append, true_and] at h; exact ⟨rfl, h⟩
  · rw [escB_plain hd] at h; simp only [List.cons_append, List.cons.injEq] at h; exact absurd h.1.symm (plain_ne hd).2
theorem noRd_short {X : List UInt8} (h : X.length < 2) : NoRd (92 :: X) := fun d r he => by
  have := congrArg List.length (esc92 he).2
  simp at this
  omega
theorem noRd_d1 {a : UInt8} {X : List UInt8} (h : hexV a < 0) : NoRd (92 :: a :: X) := fun d r he => by
  have h2 := (esc92 he).2
  simp only [List.cons.injEq] at h2
  have := hexV_dig (d.toNat / 16) (by have := UInt8.toNat_lt d; omega)
  rw [← h2.1] at this
  omega
theorem noRd_d2 {a b : UInt8} {X : List UInt8} (h : hexV b < 0) : NoRd (92 :: a :: b :: X) := fun d r he => by
  have h2 := (esc92 he).2
  simp only [List.cons.injEq] at h2
  have := hexV_dig (d.toNat % 16) (by omega)
  rw [← h2.2.1] at this
  omega
/-- The byte of two digits. -/
def hexB (a b : UInt8) : UInt8 := UInt8.ofNat (16 * (hexV a).toNat + (hexV b).toNat)
theorem hexB_nat {a b : UInt8} (h1 : 0 ≤ hexV a) (h2 : 0 ≤ hexV b) : ((hexB a b).toNat : Int) = 16 * hexV a + hexV b := by
  have b1 := hexV_lt a
  have b2 := hexV_lt b
  unfold hexB
  rw [UInt8.toNat_ofNat']
  omega
theorem noRd_plain {a b : UInt8} {X : List UInt8} (h1 : 0 ≤ hexV a) (h2 : 0 ≤ hexV b) (h : plainB (hexB a b) = true) : NoRd (92 :: a :: b :: X) := fun d r he => by
  obtain ⟨h3, h4⟩ := esc92 he
  simp only [List.cons.injEq] at h4
  have e1 := hexV_dig (d.toNat / 16) (by have := UInt8.toNat_lt d; omega)
  have e2 := hexV_dig (d.toNat % 16) (by omega)
  rw [← h4.1] at e1
  rw [← h4.2.1] at e2
  have e3 := hexB_nat h1 h2
  have : hexB a b = d := UInt8.toNat_inj.1 (by omega)
  rw [this, h3] at h
  cases h
theorem rd_hex {a b : UInt8} {X : List UInt8} (h1 : 0 ≤ hexV a) (h2 : 0 ≤ hexV b) (h : plainB (hexB a b) = false) : 92 :: a :: b :: X = escB (hexB a b) ++ X := by
  have e3 := hexB_nat h1 h2
  have b1 := hexV_lt a
  have b2 := hexV_lt b
  rw [escB_hex h, show (hexB a b).toNat / 16 = (hexV a).toNat by omega, show (hexB a b).toNat % 16 = (hexV b).toNat by omega, dig_hexV a h1, dig_hexV b h2]
  rfl
theorem escB_len13 (c : UInt8) : (escB c).length = if plainB c = true then 1 else 3 := by unfold escB; split <;> rfl
/-- Where no written byte is, and no mark of the end, no value is. -/
theorem noVal {X : List UInt8} (h : NoRd X) (h34 : ∀ r, X ≠ 34 :: r) (v r : List UInt8) : X ≠ valT v ++ 34 :: r := by
  cases v with
  | nil => exact h34 r
  | cons d v => rw [valT_cons, List.append_assoc]; exact h d _
theorem valT_ext : ∀ {u v X r : List UInt8}, valT u ++ X = valT v ++ 34 :: r → ∃ v', v = u ++ v' ∧ X = valT v' ++ 34 :: r
  | [], v, X, r, h => ⟨v, rfl, by simpa [valT] using h⟩
  | c :: u, [], X, r, h => by
    rw [valT_cons, List.append_assoc] at h
    exact absurd h (fun h' => escB_34 h')
  | c :: u, d :: v, X, r, h => by
    rw [valT_cons, valT_cons, List.append_assoc, List.append_assoc] at h
    obtain ⟨rfl, h2⟩ := escB_pre h
    obtain ⟨v', rfl, h3⟩ := valT_ext h2
    exact ⟨v', rfl, h3⟩

/-- Of a value that is read from p on: the bytes u up to q. -/
def Upto (S : List UInt8) (p : Nat) (u : List UInt8) (q : Nat) : Prop := S.drop p = valT u ++ S.drop q ∧ q = p + (valT u).length
theorem Upto.start (S : List UInt8) (p : Nat) : Upto S p [] p := ⟨rfl, rfl⟩
theorem Upto.next {S : List UInt8} {p q : Nat} {u : List UInt8} (h : Upto S p u q) {c : UInt8} {m : Nat} (hm : (escB c).length = m) (he : S.drop q = escB c ++ S.drop (q + m)) : Upto S p (u ++ [c]) (q + m) := by
  refine ⟨?_, ?_⟩
  · rw [valT_snoc, h.1, he, List.append_assoc]
  · rw [valT_snoc, List.length_append, hm, h.2]; omega
theorem Upto.none {S : List UInt8} {p q : Nat} {u : List UInt8} (h : Upto S p u q) (hn : NoRd (S.drop q)) (h34 : ∀ r, S.drop q ≠ 34 :: r) : ∀ v r, S.drop p ≠ valT v ++ 34 :: r := fun v r he => by
  rw [h.1] at he
  obtain ⟨v', _, h2⟩ := valT_ext he
  exact noVal hn h34 v' r h2
theorem Upto.done {S : List UInt8} {p q : Nat} {u : List UInt8} (h : Upto S p u q) (he : S.drop q = 34 :: S.drop (q + 1)) : S.drop p = valT u ++ 34 :: S.drop (q + 1) := by rw [h.1, he]
theorem valT_ge : ∀ v : List UInt8, v.length ≤ (valT v).length
  | [] => Nat.zero_le _
  | c :: v => by
    have h1 := valT_ge v
    have h2 := List.length_pos_iff.2 (escB_ne c)
    rw [valT_cons, List.length_append, List.length_cons]
    omega

/-- What 'value' answers at place p. -/
def ValRet (S : List UInt8) (p : Nat) (e : Ending) : Prop :=
  (∃ v : List UInt8, e = .returned (.tuple #[.string ⟨v.toArray⟩, .int .i64 ((p + (valT v).length + 1 : Nat) : Int), .bool true]) ∧ S.drop p = valT v ++ 34 :: S.drop (p + (valT v).length + 1) ∧ p + (valT v).length < S.length) ∨
  (∃ (x : ByteArray) (k : Int), e = .returned (.tuple #[.string x, .int .i64 k, .bool false]) ∧ ∀ v r, S.drop p ≠ valT v ++ 34 :: r)

set_option maxRecDepth 100000 in
set_option maxHeartbeats 3200000 in
theorem value_calls (s : ByteArray) (p : Nat) (w : World) (hp : p ≤ s.size) (hs : s.size ≤ 1000000) :
    Calls Tryz.prog 115 #[.string s, .int .i64 (p : Int)] w fun e w' => ValRet s.data.toList p e ∧ Below w.heap.size w w' := by
  have HSZ : Hid (s.data.toList.length = s.size) := Lib.hid (by rw [Array.length_toList]; rfl)
  have HD := Lib.hid (fun (c : UInt8) (W : World) => digit_calls c W)
  have HP := Lib.hid (fun (c : UInt8) (W : World) => plain_calls c W)
  go_enter Tryz.func115, Tryz.ntmps115
  go_wp2
  go_loopw [1, 7] (fun a o wr => ∃ (q : Nat) (u : List UInt8), q ≤ s.size ∧ a = .int .i64 (q : Int) ∧ u.length ≤ 2000000 ∧ Hid (Upto s.data.toList p u q) ∧ wr.ownsRow w.heap.size 5 1 o u.length (u.map byteV) ∧ Below w.heap.size w wr) (fun a _ _ => s.size - (intOf a).toNat)
  case atStart => exact ⟨p, [], hp, rfl, by simp, Lib.hid (Upto.start _ _), World.ownsRow_nil _ _ _ _, Below.refl _ _⟩
  case round =>
    obtain ⟨q, u, hq, rfl, hul, HU, hown, hbel⟩ := hrel
    have hsz := hbel.size
    by_cases hlt : q < s.size
    · have Hdr := Lib.hid (drop8 hlt)
      have Hc := Lib.hid (at8_eq hlt)
      by_cases h34 : ((s[q].toNat : Int) == 34) = true
      · have HE : Hid (s.data.toList.drop p = valT u ++ 34 :: s.data.toList.drop (q + 1)) := Lib.hid (by
          refine HU.out.done ?_
          rw [Hdr.out, ← Hc.out]
          congr 1
          rw [beq_iff_eq] at h34
          exact UInt8.toNat_inj.1 (by show s[q].toNat = 34; omega))
        obtain ⟨A, co, rfl, -, -, hrd⟩ := own_slice hown
        have hconv := fun W (hW : Below wr.heap.size wr W) => (Bytes.of (hrd.below hW)).conv Tryz.prog co 46 5 9 Tryz.underlying46 Tryz.underlying5 Tryz.underlying9
        have hcv := hconv wr (Below.refl _ _)
        have hnf : ((s[q].toNat : Int) != 34) = false := by simpa using h34
        clear h34 hconv
        go_wp2
        go_ret3
        refine ⟨.inl ⟨u, ?_, ?_, ?_⟩, hbel⟩
        · have e : ((p + (valT u).length + 1 : Nat) : Int) = (q : Int) + 1 := by have := HU.out.2; omega
          rw [e]
          rfl
        · rw [← HU.out.2]; exact HE.out
        · rw [← HU.out.2, HSZ.out]; exact hlt
      · have hnf : ((s[q].toNat : Int) != 34) = true := by simpa using h34
        have Hh34 : Hid (∀ r, s.data.toList.drop q ≠ 34 :: r) := Lib.hid (fun r hr => by
          rw [Hdr.out, ← Hc.out] at hr
          simp only [List.cons.injEq] at hr
          rw [hr.1] at h34
          exact h34 rfl)
        have hul : u.length ≤ s.size := by have h1 := HU.out.2; have h2 := valT_ge u; omega
        clear h34
        by_cases h92 : ((s[q].toNat : Int) == 92) = true
        · have hc92 : at8 s q = 92 := by
            rw [← Hc.out]
            rw [beq_iff_eq] at h92
            exact UInt8.toNat_inj.1 (by show s[q].toNat = 92; omega)
          rw [hc92] at Hdr
          have Hno : Hid (NoRd (s.data.toList.drop q) → ∀ v r, s.data.toList.drop p ≠ valT v ++ 34 :: r) := Lib.hid fun h => HU.out.none h Hh34.out
          clear hc92
          by_cases h2 : s.size ≤ q + 2
          · have HN := Lib.hid (Hno.out (by rw [Hdr.out]; exact noRd_short (by rw [List.length_drop, HSZ.out]; omega)))
            have i1 : (s.size : Int) ≤ (q : Int) + 1 + 1 := by omega
            clear h2
            go_wp2
            go_ret3
            exact ⟨.inr ⟨_, _, rfl, HN.out⟩, hbel⟩
          · have i1 : (q : Int) + 1 + 1 < (s.size : Int) := by omega
            have j1 : q + 1 < s.size := by omega
            have j2 : q + 2 < s.size := by omega
            have Hd1 := Lib.hid (drop8 j1)
            have Hd2 := Lib.hid (drop8 j2)
            have Hc1 := Lib.hid (at8_eq j1)
            have Hc2 := Lib.hid (at8_eq j2)
            have Hfull : Hid (s.data.toList.drop q = 92 :: s[q + 1] :: s[q + 2] :: s.data.toList.drop (q + 3)) := Lib.hid (by rw [Hdr.out, Hd1.out, Hd2.out, Hc1.out, Hc2.out])
            have e1 : ((q : Int) + 1).toNat = q + 1 := by omega
            have e2 : ((q : Int) + 1 + 1).toNat = q + 2 := by omega
            have l1 : hexV s[q + 1] < 16 := hexV_lt _
            have l2 : hexV s[q + 2] < 16 := hexV_lt _
            have HD1 := Lib.hid (fun W => HD.out s[q + 1] W)
            have HD2 := Lib.hid (fun W => HD.out s[q + 2] W)
            clear h2 Hd1 Hd2 Hc1 Hc2
            by_cases g1 : hexV s[q + 1] < 0
            · have HN := Lib.hid (Hno.out (by rw [Hfull.out]; exact noRd_d1 g1))
              go_wp2_with fail
              refine (HD1.out _).mono ?_
              rintro e w1 ⟨rfl, rfl⟩
              go_wp2
              go_ret3
              exact ⟨.inr ⟨_, _, rfl, HN.out⟩, hbel⟩
            · have g1' : 0 ≤ hexV s[q + 1] := by omega
              by_cases g2 : hexV s[q + 2] < 0
              · have HN := Lib.hid (Hno.out (by rw [Hfull.out]; exact noRd_d2 g2))
                have d2 := dct g2
                go_wp2_with fail
                refine (HD1.out _).mono ?_
                rintro e w1 ⟨rfl, rfl⟩
                go_wp2_with fail
                refine (HD2.out _).mono ?_
                rintro e w1 ⟨rfl, rfl⟩
                go_wp2
                go_ret3
                exact ⟨.inr ⟨_, _, rfl, HN.out⟩, hbel⟩
              · have g2' : 0 ≤ hexV s[q + 2] := by omega
                have d2 := dcf g2
                have Hnp := Lib.hid (fun (h : plainB (hexB s[q + 1] s[q + 2]) = true) => Hno.out (by rw [Hfull.out]; exact noRd_plain g1' g2' h))
                have Hup := Lib.hid (fun (h : plainB (hexB s[q + 1] s[q + 2]) = false) => HU.out.next (c := hexB s[q + 1] s[q + 2]) (m := 3) (by rw [escB_len13, h]; rfl) (by rw [Hfull.out]; exact rd_hex g1' g2' h))
                have hxn := hexB_nat g1' g2'
                have k1 : IntKind.i64.wrap (16 * hexV s[q + 1]) = 16 * hexV s[q + 1] := IntWalk.i64_in _ (by omega)
                have k2 : IntKind.i64.wrap (16 * hexV s[q + 1] + hexV s[q + 2]) = 16 * hexV s[q + 1] + hexV s[q + 2] := IntWalk.i64_in _ (by omega)
                have k3 : IntKind.u8.wrap (16 * hexV s[q + 1] + hexV s[q + 2]) = ((hexB s[q + 1] s[q + 2]).toNat : Int) := by
                  have := UInt8.toNat_lt (hexB s[q + 1] s[q + 2])
                  rw [IntKind.wrap_u8]
                  omega
                have k4 : IntKind.i64.wrap ((q : Int) + 1 + 1) = (q : Int) + 1 + 1 := IntWalk.i64_in _ (by omega)
                have HPc := Lib.hid (fun W => HP.out (hexB s[q + 1] s[q + 2]) W)
                clear hxn
                generalize hexB s[q + 1] s[q + 2] = x at *
                generalize hpx : plainB x = px at *
                go_wp2_with fail
                refine (HD1.out _).mono ?_
                rintro e w1 ⟨rfl, rfl⟩
                go_wp2_with fail
                refine (HD2.out _).mono ?_
                rintro e w1 ⟨rfl, rfl⟩
                go_wp2_with fail
                go_quiet ((go_at_call 137; exact quiet_left (HD.out _ _)))
                clear k1 k2 k3 k4 hpx
                cases px
                · have Hup2 := Lib.hid (Hup.out rfl)
                  clear Hup Hnp
                  go_wp2_with fail
                  refine (HPc.out _).mono ?_
                  rintro e w1 ⟨rfl, rfl⟩
                  go_wp2_with (at_builtin; go_must (refine wpList_push _ rfl (.tmp 65) (.tmp 67) _ rfl w.heap.size 5 _ 1 Tryz.underlying46 Tryz.infoU8b rfl _ _ _ _ _ rfl rfl (own_drewN hown _) rfl (by unfold maxLen; omega) (by omega) hsz ?_))
                  intro v' w1 hown' hbel' _ _
                  have hown2 := own_snoc hown' rfl
                  clear hown' hown
                  go_wp2
                  go_roundw
                  case rel => exact ⟨q + 3, u ++ [x], by omega, by go_num, by simp; omega, Hup2, hown2, (below_drewN_ hbel _).trans (hbel'.mono (Nat.le_refl _))⟩
                  case measure => simp [intOf]; omega
                · have HN := Lib.hid (Hnp.out rfl)
                  clear Hup Hnp
                  go_wp2_with fail
                  refine (HPc.out _).mono ?_
                  rintro e w1 ⟨rfl, rfl⟩
                  go_wp2
                  go_ret3
                  exact ⟨.inr ⟨_, _, rfl, HN.out⟩, below_drewN_ hbel _⟩
        · have hn92 : at8 s q ≠ 92 := fun e => by
            rw [← Hc.out] at e
            rw [e] at h92
            exact h92 rfl
          have h92' : ((s[q].toNat : Int) == 92) = false := by simpa using h92
          have Hup := Lib.hid (fun (h : plainB s[q] = true) => HU.out.next (c := s[q]) (m := 1) (by rw [escB_len13, h]; rfl) (by rw [Hdr.out, ← Hc.out, escB_plain h]; rfl))
          have Hnp := Lib.hid (fun (h : plainB s[q] = false) => HU.out.none (by rw [Hdr.out, ← Hc.out]; exact noRd_bad h (by rw [Hc.out]; exact hn92)) Hh34.out)
          have HPc := Lib.hid (fun W => HP.out s[q] W)
          clear h92 hn92
          generalize hpx : plainB s[q] = px at *
          clear hpx
          cases px
          · have HN := Lib.hid (Hnp.out rfl)
            clear Hup Hnp
            go_wp2_with fail
            refine (HPc.out _).mono ?_
            rintro e w1 ⟨rfl, rfl⟩
            go_wp2
            go_ret3
            exact ⟨.inr ⟨_, _, rfl, HN.out⟩, hbel⟩
          · have Hup2 := Lib.hid (Hup.out rfl)
            clear Hup Hnp
            go_wp2_with fail
            refine (HPc.out _).mono ?_
            rintro e w1 ⟨rfl, rfl⟩
            go_wp2_with (at_builtin; go_must (refine wpList_push _ rfl (.tmp 65) (.tmp 67) _ rfl w.heap.size 5 _ 1 Tryz.underlying46 Tryz.infoU8b rfl _ _ _ _ _ rfl rfl hown rfl (by unfold maxLen; omega) (by omega) hsz ?_))
            intro v' w1 hown' hbel' _ _
            have hown2 := own_snoc hown' rfl
            clear hown' hown
            go_wp2
            go_roundw
            case rel => exact ⟨q + 1, u ++ [s[q]], by omega, by go_num, by simp; omega, Hup2, hown2, hbel.trans hbel'⟩
            case measure => simp [intOf]; omega
    · obtain rfl : q = s.size := by omega
      have HN : Hid (∀ v r, s.data.toList.drop p ≠ valT v ++ 34 :: r) := Lib.hid (by
        have e : s.data.toList.drop s.size = [] := List.drop_eq_nil_of_le (by rw [HSZ.out]; omega)
        exact HU.out.none (by rw [e]; exact noRd_nil) (fun r h => by rw [e] at h; cases h))
      obtain ⟨A, co, rfl, -, -, hrd⟩ := own_slice hown
      have hcv := (Bytes.of hrd).conv Tryz.prog co 46 5 9 Tryz.underlying46 Tryz.underlying5 Tryz.underlying9
      go_wp2
      go_ret3
      exact ⟨.inr ⟨_, _, rfl, HN.out⟩, hbel⟩
end Go.Proofs.YtjbmlhipjceeeaaGreat.Lb

namespace Go.Proofs.YtjbmlhipjceeeaaGreat.Lb
set_option linter.unusedVariables false
set_option linter.unusedSimpArgs false
open Go.RowKit

/-- The text of this set. -/
def ParP (S : List UInt8) (l : List Lab) : Prop := rightB l = true ∧ textB l = S
def NoSet (T : List UInt8) : Prop := ∀ l, rightB l = true → bodyT l ≠ T
theorem noSet_par {T S : List UInt8} (h : NoSet T) (hS : S = 123 :: (T ++ [125])) (l : List Lab) : ¬ ParP S l := fun ⟨h1, h2⟩ => by
  rw [textB_body, hS] at h2
  simp only [List.cons.injEq, true_and] at h2
  exact h l h1 (List.append_cancel_right h2)
theorem par_of {T S : List UInt8} (hS : S = 123 :: (T ++ [125])) {l : List Lab} (h : rightB l = true) (hb : bodyT l = T) : ParP S l := ⟨h, by rw [textB_body, hS, hb]⟩
theorem text_ends (l : List Lab) : ∃ T, textB l = 123 :: (T ++ [125]) := ⟨_, textB_body l⟩
def sepT (out : List Lab) : List UInt8 := if out = [] then [] else [44]

/-- The labels out are read, up to place q. -/
structure St (T : List UInt8) (out : List Lab) (q : Nat) : Prop where
  le : q ≤ T.length
  sound : T.take q = bodyT out
  comp : ∀ l, rightB l = true → bodyT l = T → ∃ r, l = out ++ r
/-- The same, behind the comma: one label more must come. -/
structure St2 (T : List UInt8) (out : List Lab) (q : Nat) : Prop where
  le : q ≤ T.length
  sound : T.take q = bodyT out ++ sepT out
  comp : ∀ l, rightB l = true → bodyT l = T → ∃ x r, l = out ++ x :: r ∧ T.drop q = labT x ++ tailT r
theorem St.start (T : List UInt8) : St T [] 0 := ⟨Nat.zero_le _, rfl, fun l _ _ => ⟨l, rfl⟩⟩
theorem St.rest {T : List UInt8} {out : List Lab} {q : Nat} (h : St T out q) {r : List Lab} (hb : bodyT (out ++ r) = T) : T.drop q = restT out r := by
  rw [body_rest] at hb
  have h1 : T.take q ++ T.drop q = bodyT out ++ restT out r := by rw [List.take_append_drop, hb]
  rw [h.sound] at h1
  exact List.append_cancel_left h1
theorem St.more0 {T : List UInt8} {q : Nat} (h : St T [] q) (hq : q < T.length) : St2 T [] q where
  le := h.le
  sound := by rw [h.sound]; rfl
  comp l hl hb := by
    have h1 := h.rest (r := l) hb
    cases l with
    | nil =>
      have := congrArg List.length h1
      simp [restT, bodyT] at this
      omega
    | cons x r => exact ⟨x, r, rfl, h1⟩
theorem St.comma {T : List UInt8} {out : List Lab} {q : Nat} (h : St T out q) (ho : out ≠ []) {X : List UInt8} (hq : T.drop q = 44 :: X) : St2 T out (q + 1) where
  le := by
    have := congrArg List.length hq
    simp at this
    have := h.le
    omega
  sound := by
    have hlt : q < T.length := by
      have := congrArg List.length hq
      simp at this
      omega
    rw [List.take_succ_eq_append_getElem hlt, h.sound]
    unfold sepT
    rw [if_neg ho]
    rw [List.drop_eq_getElem_cons hlt] at hq
    injection hq with h1 h2
    rw [h1]
  comp l hl hb := by
    obtain ⟨r, rfl⟩ := h.comp l hl hb
    have h1 := h.rest hb
    rw [hq] at h1
    cases r with
    | nil => simp [restT, ho, tailT] at h1
    | cons x r =>
      rw [rest_cons, if_neg ho] at h1
      refine ⟨x, r, rfl, ?_⟩
      have h2 : T.drop (q + 1) = X := by
        have := congrArg (List.drop 1) hq
        simpa [List.drop_drop] using this
      rw [h2]
      simpa using h1
theorem St.nocomma {T : List UInt8} {out : List Lab} {q : Nat} (h : St T out q) (ho : out ≠ []) {c : UInt8} {X : List UInt8} (hq : T.drop q = c :: X) (hc : c ≠ 44) : NoSet T := fun l hl hb => by
  obtain ⟨r, rfl⟩ := h.comp l hl hb
  have h1 := h.rest hb
  rw [hq] at h1
  cases r with
  | nil => simp [restT, ho, tailT] at h1
  | cons x r =>
    rw [rest_cons, if_neg ho] at h1
    simp only [List.cons_append, List.cons.injEq] at h1
    exact hc h1.1
theorem St2.many {T : List UInt8} {out : List Lab} {q : Nat} (h : St2 T out q) (ho : 4 < out.length) : NoSet T := fun l hl hb => by
  obtain ⟨x, r, rfl, _⟩ := h.comp l hl hb
  have h1 : rightP (out ++ x :: r) := of_decide_eq_true hl
  have := h1.1
  simp at this
  omega
theorem labT_split (x : Lab) : labT x = x.1.data.toList ++ 61 :: 34 :: (valT x.2.data.toList ++ [34]) := by simp [labT]
theorem St2.noeq {T : List UInt8} {out : List Lab} {q : Nat} (h : St2 T out q) (hn : ∀ a r, T.drop q ≠ a ++ 61 :: 34 :: r) : NoSet T := fun l hl hb => by
  obtain ⟨x, r, rfl, h1⟩ := h.comp l hl hb
  rw [labT_split, List.append_assoc] at h1
  exact hn _ _ h1
/-- Behind the name and its '="'. -/
theorem St2.name {T : List UInt8} {out : List Lab} {q : Nat} (h : St2 T out q) {i : Nat} {X : List UInt8} (hi : T.drop q = (T.drop q).take i ++ 61 :: 34 :: X) (hno : ∀ a r, T.drop q = a ++ 61 :: 34 :: r → i ≤ a.length) (l : List Lab) (hl : rightB l = true) (hb : bodyT l = T) :
    ∃ x r, l = out ++ x :: r ∧ x.1.data.toList = (T.drop q).take i ∧ X = valT x.2.data.toList ++ 34 :: tailT r := by
  obtain ⟨x, r, rfl, h1⟩ := h.comp l hl hb
  have hnm : nameB x.1 = true := right_name hl x (by simp)
  rw [labT_split, List.append_assoc] at h1
  have hle := hno _ _ h1
  have h2 := h1
  rw [hi] at h2
  have hlen : ((T.drop q).take i).length ≤ i := List.length_take_le _ _
  have hno61 : ∀ c ∈ (T.drop q).take i, c ≠ 61 := fun c hc => by
    have hp : (T.drop q).take i <+: x.1.data.toList := by
      refine List.prefix_of_prefix_length_le (List.take_prefix _ _) (l₃ := T.drop q) ?_ (by omega)
      rw [h1]
      exact List.prefix_append _ _
    exact (name_no61 hnm c (hp.subset hc)).1
  have h3 : (T.drop q).take i ++ 61 :: (34 :: X) = x.1.data.toList ++ 61 :: (34 :: (valT x.2.data.toList ++ [34] ++ tailT r)) := by
    rw [h2]; simp
  obtain ⟨e1, e2⟩ := name_pre hno61 (fun c hc => (name_no61 hnm c hc).1) h3
  simp only [List.cons.injEq, true_and] at e2
  exact ⟨x, r, rfl, e1.symm, by rw [e2]; simp⟩
theorem St2.noval {T : List UInt8} {out : List Lab} {q : Nat} (h : St2 T out q) {i : Nat} {X : List UInt8} (hi : T.drop q = (T.drop q).take i ++ 61 :: 34 :: X) (hno : ∀ a r, T.drop q = a ++ 61 :: 34 :: r → i ≤ a.length) (hv : ∀ v r, X ≠ valT v ++ 34 :: r) : NoSet T := fun l hl hb => by
  obtain ⟨x, r, _, _, h2⟩ := h.name hi hno l hl hb
  exact hv _ _ h2
theorem St2.label {T : List UInt8} {out : List Lab} {q : Nat} (h : St2 T out q) {i : Nat} (hi : T.drop q = (T.drop q).take i ++ 61 :: 34 :: T.drop (q + i + 2)) (hno : ∀ a r, T.drop q = a ++ 61 :: 34 :: r → i ≤ a.length) (hil : ((T.drop q).take i).length = i)
    {n v : ByteArray} (hn : n.data.toList = (T.drop q).take i) (hv : T.drop (q + i + 2) = valT v.data.toList ++ 34 :: T.drop (q + i + 2 + (valT v.data.toList).length + 1)) : St T (out ++ [(n, v)]) (q + i + 2 + (valT v.data.toList).length + 1) where
  le := by
    have h1 := congrArg List.length hv
    have h2 := congrArg List.length hi
    simp at h1 h2
    have := h.le
    omega
  sound := by
    have e : T = bodyT (out ++ [(n, v)]) ++ T.drop (q + i + 2 + (valT v.data.toList).length + 1) := by
      conv => lhs; rw [← List.take_append_drop q T, h.sound, hi, hv]
      rw [body_snoc, labT_split]
      simp only [hn, sepT, List.append_assoc, List.cons_append, List.nil_append]
    have hl : (bodyT (out ++ [(n, v)])).length = q + i + 2 + (valT v.data.toList).length + 1 := by
      have h0 := congrArg List.length h.sound
      have h1 := congrArg List.length hv
      have h2 := congrArg List.length hi
      have h3 := congrArg List.length e
      have h5 := h.le
      rw [List.length_append, List.length_cons, List.length_cons, hil] at h2
      rw [List.length_append, List.length_cons] at h1
      rw [List.length_append] at h3
      simp only [List.length_drop] at h1 h2 h3
      omega
    conv => lhs; rw [e]
    rw [← hl]
    simp
  comp l hl hb := by
    obtain ⟨x, r, rfl, h1, h2⟩ := h.name hi hno l hl hb
    rw [hv] at h2
    obtain ⟨e1, _⟩ := valT_pre h2
    refine ⟨r, ?_⟩
    have : x = (n, v) := Prod.ext (bytes_ext (by rw [h1, hn])) (bytes_ext e1.symm)
    rw [this]
    simp
theorem St.fin {T : List UInt8} {out : List Lab} (h : St T out T.length) : bodyT out = T := by rw [← h.sound, List.take_length]
theorem St.finno {T : List UInt8} {out : List Lab} (h : St T out T.length) (hr : rightB out = false) : NoSet T := fun l hl hb => by
  obtain ⟨r, rfl⟩ := h.comp l hl hb
  have h1 := h.rest hb
  rw [List.drop_length] at h1
  have := restT_nil h1.symm
  subst this
  rw [List.append_nil, hr] at hl
  cases hl

/-- Where '="' stands first. -/
theorem index_eq (X : List UInt8) : (Lib.index X [61, 34] = -1 ∧ ∀ a r, X ≠ a ++ 61 :: 34 :: r) ∨ (∃ i : Nat, Lib.index X [61, 34] = (i : Int) ∧ i + 2 ≤ X.length ∧ X = X.take i ++ 61 :: 34 :: X.drop (i + 2) ∧ ∀ a r, X = a ++ 61 :: 34 :: r → i ≤ a.length) := by
  have hocc : ∀ a r, X = a ++ 61 :: 34 :: r → a.length ≤ X.length ∧ Lib.occAt X [61, 34] a.length = true := fun a r e => by
    subst e
    refine ⟨by simp, ?_⟩
    unfold Lib.occAt
    simp
  rcases Lib.index_spec X [61, 34] with ⟨h1, h2⟩ | ⟨i, h1, h2, h3, h4⟩
  · exact .inl ⟨h1, fun a r e => by
      obtain ⟨k1, k2⟩ := hocc a r e
      rw [h2 _ k1] at k2
      cases k2⟩
  · unfold Lib.occAt at h3
    have hp : [61, 34] <+: X.drop i := by
      simpa using h3
    obtain ⟨t, ht⟩ := hp
    have hd : X.drop (i + 2) = t := by
      have := congrArg (List.drop 2) ht
      rw [List.drop_drop] at this
      simpa using this.symm
    refine .inr ⟨i, h1, ?_, ?_, fun a r e => ?_⟩
    · have := congrArg List.length ht
      simp at this
      omega
    · rw [hd]
      conv => lhs; rw [← List.take_append_drop i X, ← ht]
      simp
    · rcases Nat.lt_or_ge a.length i with h5 | h5
      · have := (hocc a r e).2
        rw [h4 _ h5] at this
        cases this
      · exact h5
end Go.Proofs.YtjbmlhipjceeeaaGreat.Lb

namespace Go.Proofs.YtjbmlhipjceeeaaGreat.Lb
set_option linter.unusedVariables false
set_option linter.unusedSimpArgs false
open Go.RowKit

/-- What Parse answers of a text: the set whose text it is; or, of none's text, a refusal. -/
def ParRet (w : World) (S : List UInt8) (y n : Value) (e : Ending) (w' : World) : Prop :=
  (∃ l A c, e = .returned (.tuple #[.slice A l.length c, y]) ∧ ParP S l ∧ Labs w' w'.heap.size A l ∧ Below w.heap.size w w') ∨ (e = .returned (.tuple #[.slice none 0 0, n]) ∧ (∀ l, ¬ ParP S l) ∧ Below w.heap.size w w')
theorem not_par_short {S : List UInt8} (h : S.length < 2) (l : List Lab) : ¬ ParP S l := fun ⟨_, h2⟩ => by
  obtain ⟨T, hT⟩ := text_ends l
  rw [hT] at h2
  rw [← h2] at h
  simp at h
  omega
theorem not_par_head {S X : List UInt8} {c : UInt8} (h : S = c :: X) (hc : c ≠ 123) (l : List Lab) : ¬ ParP S l := fun ⟨_, h2⟩ => by
  obtain ⟨T, hT⟩ := text_ends l
  rw [hT, h] at h2
  injection h2 with h3 h4
  exact hc h3.symm
theorem not_par_last {S : List UInt8} {k : Nat} {c : UInt8} (hk : S.length = k + 1) (h : S[k]? = some c) (hc : c ≠ 125) (l : List Lab) : ¬ ParP S l := fun ⟨_, h2⟩ => by
  obtain ⟨T, hT⟩ := text_ends l
  rw [hT] at h2
  rw [← h2] at h hk
  have e : k = T.length + 1 := by simp at hk; omega
  rw [e] at h
  simp at h
  exact hc h.symm
theorem at8_get {s : ByteArray} {i : Nat} (h : i < s.size) : s.data.toList[i]? = some (at8 s i) := by
  have hl : i < s.data.toList.length := by rw [Array.length_toList]; exact h
  simp [at8, List.getD, List.getElem?_eq_getElem hl]
theorem ext_list (s : ByteArray) (a b : Nat) : (s.extract a b).data.toList = (s.data.toList.drop a).take (b - a) := by
  rw [ByteArray.data_extract, Array.toList_extract, List.extract_eq_take_drop]
theorem mid_list {s : ByteArray} (h2 : 2 ≤ s.size) (h0 : at8 s 0 = 123) (h1 : at8 s (s.size - 1) = 125) : s.data.toList = 123 :: ((s.extract 1 (s.size - 1)).data.toList ++ [125]) := by
  have hl : s.data.toList.length = s.size := by rw [Array.length_toList]; rfl
  have e0 := drop8 (s := s) (q := 0) (by omega)
  have e1 := drop8 (s := s) (q := s.size - 1) (by omega)
  have e3 : s.data.toList.drop (s.size - 1 + 1) = [] := List.drop_eq_nil_of_le (by omega)
  rw [e3, h1] at e1
  rw [h0] at e0
  rw [ext_list]
  simp only [List.drop_zero, Nat.zero_add] at e0
  have e2 : (s.data.toList.drop 1).take (s.size - 1 - 1) ++ [125] = s.data.toList.drop 1 := by
    conv => rhs; rw [← List.take_append_drop (s.size - 1 - 1) (s.data.toList.drop 1)]
    rw [List.drop_drop, show 1 + (s.size - 1 - 1) = s.size - 1 by omega, e1]
  rw [e2]
  exact e0
end Go.Proofs.YtjbmlhipjceeeaaGreat.Lb

namespace Go.Proofs.YtjbmlhipjceeeaaGreat.Lb
set_option linter.unusedVariables false
set_option linter.unusedSimpArgs false
open Go.RowKit

theorem cell0_below {w w' : World} {m : Int} (h : w.cell? ⟨0, 0, none⟩ = some (.int .i64 m)) (hb : Below w.heap.size w w') : w'.cell? ⟨0, 0, none⟩ = some (.int .i64 m) := by
  rw [hb.cell (p := ⟨0, 0, none⟩) (World.block_lt_of_cell? w _ h)]
  exact h

set_option maxRecDepth 100000 in
set_option maxHeartbeats 3200000 in
theorem parse_calls (s : ByteArray) (w : World) (hs : s.size ≤ 100000) (hm : ∃ m, w.cell? ⟨0, 0, none⟩ = some (.int .i64 m)) :
    Calls Tryz.prog 92 #[.string s] w (ParRet w s.data.toList (.int .i64 0) (.int .i64 4)) := by
  have HL : Hid (s.data.toList.length = s.size) := Lib.hid (by rw [Array.length_toList]; rfl)
  by_cases h2 : s.size < 2
  · have HN := Lib.hid (not_par_short (S := s.data.toList) (by rw [HL.out]; exact h2))
    go_enter Tryz.func92, Tryz.ntmps92
    go_wp2
    go_ret2
    exact .inr ⟨rfl, HN.out, Below.refl _ _⟩
  have h2' : 2 ≤ s.size := by omega
  have j0 : 0 < s.size := by omega
  have j1 : s.size - 1 < s.size := by omega
  have c0 := at8_eq j0
  have c1 := at8_eq j1
  have e1 : ((s.size : Int) - 1).toNat = s.size - 1 := by omega
  by_cases h0 : ((s[0].toNat : Int) == 123) = true
  case neg =>
    have h0' : ((s[0].toNat : Int) != 123) = true := by simpa using h0
    have HN := Lib.hid (not_par_head (S := s.data.toList) (drop8 j0) (fun e => h0 (by rw [c0, e]; rfl)))
    clear h0 c0 c1
    go_enter Tryz.func92, Tryz.ntmps92
    go_wp2
    go_ret2
    exact .inr ⟨rfl, HN.out, Below.refl _ _⟩
  have h0' : ((s[0].toNat : Int) != 123) = false := by simpa using h0
  have g0 : at8 s 0 = 123 := by
    rw [← c0]
    rw [beq_iff_eq] at h0
    exact UInt8.toNat_inj.1 (by show s[0].toNat = 123; omega)
  by_cases h1 : ((s[s.size - 1].toNat : Int) == 125) = true
  case neg =>
    have h1' : ((s[s.size - 1].toNat : Int) != 125) = true := by simpa using h1
    have HN := Lib.hid (not_par_last (S := s.data.toList) (k := s.size - 1) (by rw [HL.out]; omega) (at8_get j1) (fun e => h1 (by rw [c1, e]; rfl)))
    clear h1 h0 g0 c0 c1
    go_enter Tryz.func92, Tryz.ntmps92
    go_wp2
    go_ret2
    exact .inr ⟨rfl, HN.out, Below.refl _ _⟩
  have h1' : ((s[s.size - 1].toNat : Int) != 125) = false := by simpa using h1
  have g1 : at8 s (s.size - 1) = 125 := by
    rw [← c1]
    rw [beq_iff_eq] at h1
    exact UInt8.toNat_inj.1 (by show s[s.size - 1].toNat = 125; omega)
  have HS := Lib.hid (mid_list h2' g0 g1)
  clear h0 h1 g0 g1 c0 c1
  obtain ⟨m, hm⟩ := hm
  have HM := Lib.hid hm
  clear hm
  have i1 : (1 : Int) ≤ (s.size : Int) - 1 := by omega
  have i2 : (s.size : Int) - 1 ≤ (s.size : Int) := by omega
  have ez : (s.extract 1 (s.size - 1)).size ≤ 100000 := by rw [ByteArray.size_extract]; omega
  go_enter Tryz.func92, Tryz.ntmps92
  go_wp2
  clear h0' h1'
  generalize s.extract 1 (s.size - 1) = t at *
  have HT : Hid (t.data.toList.length = t.size) := Lib.hid (by rw [Array.length_toList]; rfl)
  have Hno : Hid (NoSet t.data.toList → ∀ l, ¬ ParP s.data.toList l) := Lib.hid fun h => noSet_par h HS.out
  go_loopw [4, 5] (fun o a wr => ∃ (q : Nat) (out : List Lab) (A : Option Addr) (co : Nat), o = .slice A out.length co ∧ a = .int .i64 (q : Int) ∧ q ≤ t.size ∧ out.length ≤ 5 ∧ Hid (St t.data.toList out q) ∧ Hid (Fit out) ∧ wr.ownsRow w.heap.size 143 2 (.slice A out.length co) out.length (labCells out) ∧ Below w.heap.size w wr) (fun _ a _ => t.size - (intOf a).toNat)
  case atStart => exact ⟨0, [], none, 0, rfl, rfl, Nat.zero_le _, by simp, Lib.hid (St.start _), Lib.hid (fun x hx => by cases hx), World.ownsRow_nil _ _ _ _, Below.refl _ _⟩
  case round =>
    obtain ⟨q, out, A, co, rfl, rfl, hq, ho5, HSt, HFit, hown, hbel⟩ := hrel
    have hsz := hbel.size
    by_cases hlt : q < t.size
    · have Hdr := Lib.hid (drop8 hlt)
      have Hc := Lib.hid (at8_eq hlt)
      go_upto_if 37 with (fail)
      go_cut [5] (fun a wx => ∃ q' : Nat, a = .int .i64 (q' : Int) ∧ q' ≤ t.size ∧ q ≤ q' ∧ Hid (St2 t.data.toList out q') ∧ wx = wr)
      case first =>
        by_cases hne : 0 < out.length
        · have hne' : out ≠ [] := by intro e; rw [e] at hne; simp at hne
          by_cases hcm : ((t[q].toNat : Int) == 44) = true
          · have hcm' : ((t[q].toNat : Int) != 44) = false := by simpa using hcm
            have HS2 := Lib.hid (HSt.out.comma hne' (X := t.data.toList.drop (q + 1)) (by
              rw [Hdr.out, ← Hc.out]
              congr 1
              rw [beq_iff_eq] at hcm
              exact UInt8.toNat_inj.1 (by show t[q].toNat = 44; omega)))
            clear hcm hne'
            go_wp2
            go_meet
            case rel => exact ⟨q + 1, by go_num, by omega, by omega, HS2, rfl⟩
          · have hcm' : ((t[q].toNat : Int) != 44) = true := by simpa using hcm
            have HN := Lib.hid (Hno.out (HSt.out.nocomma hne' Hdr.out (fun e => hcm (by rw [Hc.out, e]; rfl))))
            clear hcm hne'
            go_wp2
            go_ret2
            exact .inr ⟨rfl, HN.out, hbel⟩
        · have h0 : out = [] := by cases out with
            | nil => rfl
            | cons x r => simp at hne
          have HS2 := Lib.hid (St.more0 (by rw [← h0]; exact HSt.out) (by rw [HT.out]; exact hlt))
          rw [← h0] at HS2
          clear h0
          go_wp2
          go_meet
          case rel => exact ⟨q, rfl, by omega, by omega, HS2, rfl⟩
      case rest =>
        obtain ⟨q', rfl, hq', hqq, HS2, rfl⟩ := hcut
        clear Hdr Hc hlt
        have hxs : (t.extract q' t.size).size = t.size - q' := by rw [ByteArray.size_extract]; omega
        have hxl : (t.extract q' t.size).data.toList = t.data.toList.drop q' := by rw [ext_list, List.take_of_length_le (by rw [List.length_drop, HT.out]; omega)]
        have hm' := cell0_below HM.out hbel
        have hidx := fun W hc => Tryz.strings_Index (t.extract q' t.size) ⟨#[61, 34]⟩ m W (by omega) hc
        rw [hxl] at hidx
        have i1 : (q' : Int) ≤ (t.size : Int) := by omega
        have hsz := hbel.size
        rcases index_eq (t.data.toList.drop q') with ⟨h1, h2⟩ | ⟨i, h1, h2, h3, h4⟩
        · have HN := Lib.hid (Hno.out (HS2.out.noeq h2))
          have hidx2 : ∀ W, W.cell? ⟨0, 0, none⟩ = some (.int .i64 m) → Calls Tryz.prog 114 #[.string (t.extract q' t.size), .string ⟨#[61, 34]⟩] W fun e w' => e = .returned (.int .i64 (-1)) ∧ w' = W := by rw [← h1]; exact hidx
          have HI := Lib.hid hidx2
          clear hidx hidx2 h1 h2 hxl hxs
          go_wp2_with fail
          refine (HI.out _ hm').mono ?_
          rintro e w1 ⟨rfl, rfl⟩
          go_wp2
          go_ret2
          exact .inr ⟨rfl, HN.out, hbel⟩
        · have hidx2 : ∀ W, W.cell? ⟨0, 0, none⟩ = some (.int .i64 m) → Calls Tryz.prog 114 #[.string (t.extract q' t.size), .string ⟨#[61, 34]⟩] W fun e w' => e = .returned (.int .i64 (i : Int)) ∧ w' = W := by rw [← h1]; exact hidx
          have HI := Lib.hid hidx2
          rw [List.length_drop, HT.out] at h2
          rw [List.drop_drop, show q' + (i + 2) = q' + i + 2 by omega] at h3
          have Hi := Lib.hid h3
          have H4 := Lib.hid h4
          have hil : Hid (((t.data.toList.drop q').take i).length = i) := Lib.hid (by rw [List.length_take, List.length_drop, HT.out]; omega)
          clear hidx hidx2 h1 h3 h4 hxl hxs
          by_cases h5 : 4 < out.length
          · have HN := Lib.hid (Hno.out (HS2.out.many h5))
            have d5 : decide ((4 : Int) < (out.length : Int)) = true := dct (by omega)
            go_wp2_with fail
            refine (HI.out _ hm').mono ?_
            rintro e w1 ⟨rfl, rfl⟩
            go_wp2
            go_ret2
            exact .inr ⟨rfl, HN.out, hbel⟩
          · have d5 : decide ((4 : Int) < (out.length : Int)) = false := dcf (by omega)
            have hval := fun W => value_calls t (q' + i + 2) W (by omega) (by omega)
            rw [show ((q' + i + 2 : Nat) : Int) = (q' : Int) + (i : Int) + 2 by omega] at hval
            have HV := Lib.hid hval
            clear hval
            go_wp2_with fail
            refine (HI.out _ hm').mono ?_
            rintro e w1 ⟨rfl, rfl⟩
            go_wp2_with fail
            refine (HV.out _).mono ?_
            rintro e w1 ⟨hret, hb1⟩
            have s1 := hb1.size
            rcases hret with ⟨v, rfl, hv1, hv2⟩ | ⟨x, k, rfl, hv⟩
            · have hvl := valT_ge v
              rw [HT.out] at hv2
              have hSt := fun (n : ByteArray) (hn : n.data.toList = (t.data.toList.drop q').take i) => HS2.out.label Hi.out H4.out hil.out (n := n) (v := ⟨v.toArray⟩) hn (by simpa using hv1)
              have Hst := Lib.hid (hSt (t.extract q' (q' + i)) (by rw [ext_list, show q' + i - q' = i by omega]))
              have hns : (t.extract q' (q' + i)).size = i := by rw [ByteArray.size_extract]; omega
              have hvs : (⟨v.toArray⟩ : ByteArray).size = v.length := mk_size v
              have Hfit2 : Hid (Fit (out ++ [(t.extract q' (q' + i), ⟨v.toArray⟩)])) := Lib.hid (fun y hy => by
                rcases List.mem_append.1 hy with hy | hy
                · exact HFit.out y hy
                · simp at hy
                  subst hy
                  exact ⟨by simp only; omega, by simp only; omega⟩)
              have hown1 := own_below hown hb1
              have e9 : ((q' : Int) + (i : Int)).toNat = q' + i := by omega
              have i9 : (q' : Int) + (i : Int) ≤ (t.size : Int) := by omega
              clear hSt hv1 hvs
              have hnn : (⟨v.toArray⟩ : ByteArray).data.toList = v := rfl
              rw [hnn] at Hst
              generalize (⟨v.toArray⟩ : ByteArray) = vb at *
              clear hns
              have hrd : Reads (w1.alloc (.cells #[.string (t.extract q' (q' + i)), .string vb] 143)) (w1.heap.size + 1) 2 (some ⟨w1.heap.size, 0, none⟩) 1 (labCells [(t.extract q' (q' + i), vb)]) := Reads.made (n := 1) (size := 2) w1 #[.string (t.extract q' (q' + i)), .string vb] 143 rfl
              go_wp2_with (at_builtin; go_must (refine wpList_append_sl _ rfl (.tmp 67) (.tmp 76) _ rfl w.heap.size 143 _ 2 32 Tryz.underlying116 Tryz.infoLab rfl (by omega) _ _ _ rfl (hown1.alloc _) (w1.heap.size + 1) _ 1 1 (labCells [(t.extract q' (q' + i), vb)]) rfl hrd (labCells_one _) (by unfold maxLen; omega) (by omega) (by simp; omega) ?_))
              intro A2' c2' w2 hc1 hc2 hrd2 hbel2 hown2 _ _
              have hown3 : w2.ownsRow w.heap.size 143 2 (.slice A2' (out ++ [(t.extract q' (q' + i), vb)]).length c2') (out ++ [(t.extract q' (q' + i), vb)]).length (labCells (out ++ [(t.extract q' (q' + i), vb)])) := by rw [labCells_app, List.length_append]; exact hown2
              have hbe : Below w.heap.size w w2 := ((hbel.trans (hb1.mono hsz)).alloc (by omega) _).trans hbel2
              clear hown2 hown1 hown hrd2
              go_wp2
              go_roundw
              case rel => exact ⟨q' + i + 2 + (valT v).length + 1, out ++ [(t.extract q' (q' + i), vb)], A2', c2', by simp, by go_num, by omega, by simp; omega, Hst, Hfit2, hown3, hbe⟩
              case measure => simp [intOf]; omega
            · have HN := Lib.hid (Hno.out (HS2.out.noval Hi.out H4.out hv))
              clear hv
              go_wp2
              go_ret2
              exact .inr ⟨rfl, HN.out, hbel.trans (hb1.mono hsz)⟩
    · obtain rfl : q = t.size := by omega
      have hrd := Reads.of_own hown
      have hlab : Labs wr wr.heap.size A out := hrd
      have hRC := right_calls wr (c := co) hlab (Nat.le_refl _) HFit.out (by omega)
      have HSt' : Hid (St t.data.toList out t.data.toList.length) := Lib.hid (by rw [HT.out]; exact HSt.out)
      cases hr : rightB out
      · have HN := Lib.hid (Hno.out (HSt'.out.finno hr))
        rw [hr] at hRC
        have HRC := Lib.hid hRC
        clear hRC hr
        go_wp2_with fail
        refine HRC.out.mono ?_
        rintro e w1 ⟨rfl, hb1⟩
        go_wp2
        go_ret2
        exact .inr ⟨rfl, HN.out, hbel.trans (hb1.mono hsz)⟩
      · have HP := Lib.hid (par_of HS.out hr HSt'.out.fin)
        rw [hr] at hRC
        have HRC := Lib.hid hRC
        clear hRC hr
        go_wp2_with fail
        refine HRC.out.mono ?_
        rintro e w1 ⟨rfl, hb1⟩
        go_wp2
        go_ret2
        exact .inl ⟨out, A, co, rfl, HP.out, (hlab.below hb1).more hb1.size, hbel.trans (hb1.mono hsz)⟩
end Go.Proofs.YtjbmlhipjceeeaaGreat.Lb

namespace Go.Proofs.YtjbmlhipjceeeaaGreat.Lb
set_option linter.unusedVariables false
set_option linter.unusedSimpArgs false
open Go.RowKit

def ReadRet (S : List UInt8) (p : Nat) (e : Ending) : Prop :=
  (∃ c : UInt8, e = .returned (.tuple #[.int .u8 (c.toNat : Int), .int .i64 ((escB c).length : Int)]) ∧ S.drop p = escB c ++ S.drop (p + (escB c).length)) ∨
  (e = .returned (.tuple #[.int .u8 0, .int .i64 0]) ∧ NoRd (S.drop p))
theorem ext_eq1 {s : ByteArray} {p : Nat} (h : p < s.size) : ((⟨(escB s[p]).toArray⟩ : ByteArray).toList == (s.extract p (p + 1)).toList) = plainB s[p] := by
  rw [bytes_eqd]
  have hx : (s.extract p (p + 1)).data.toList = [s[p]] := by
    rw [ext_list, drop8 h, show p + 1 - p = 1 by omega, at8_eq h]
    rfl
  cases hp : plainB s[p]
  · refine dcf fun e => ?_
    have := congrArg (fun z => z.data.toList.length) e
    simp only [hx] at this
    rw [escB_hex hp] at this
    simp at this
  · refine dct (bytes_ext ?_)
    rw [hx, escB_plain hp]
theorem ext_eq3 {s : ByteArray} {p : Nat} (h : p + 3 ≤ s.size) {x : UInt8} (hx : plainB x = false) : ((s.extract p (p + 3)).toList == (⟨(escB x).toArray⟩ : ByteArray).toList) = true ↔ s.data.toList.drop p = escB x ++ s.data.toList.drop (p + 3) := by
  rw [bytes_eqd, decide_eq_true_iff]
  have hd : (s.extract p (p + 3)).data.toList = (s.data.toList.drop p).take 3 := by rw [ext_list, show p + 3 - p = 3 by omega]
  constructor
  · intro e
    have e2 := congrArg (fun z => z.data.toList) e
    simp only [hd] at e2
    have e3 : s.data.toList.drop (p + 3) = (s.data.toList.drop p).drop 3 := by rw [List.drop_drop]
    rw [e3]
    conv => lhs; rw [← List.take_append_drop 3 (s.data.toList.drop p), e2]
  · intro e
    refine bytes_ext ?_
    rw [hd, e]
    have : (escB x).length = 3 := by rw [escB_len13, hx]; rfl
    rw [List.take_append_of_le_length (by omega), List.take_of_length_le (by omega)]

set_option maxRecDepth 100000 in
set_option maxHeartbeats 3200000 in
theorem read_calls (s : ByteArray) (p : Nat) (w : World) (hp : p < s.size) (hs : s.size ≤ 1000000) :
    Calls Tryz.prog 112 #[.string s, .int .i64 (p : Int)] w fun e w' => ReadRet s.data.toList p e ∧ Below w.heap.size w w' := by
  have HSZ : Hid (s.data.toList.length = s.size) := Lib.hid (by rw [Array.length_toList]; rfl)
  have Hdr := Lib.hid (drop8 hp)
  have Hc := Lib.hid (at8_eq hp)
  by_cases h92 : ((s[p].toNat : Int) == 92) = true
  · have hn : ((s[p].toNat : Int) != 92) = false := by simpa using h92
    have g92 : at8 s p = 92 := by
      rw [← Hc.out]
      rw [beq_iff_eq] at h92
      exact UInt8.toNat_inj.1 (by show s[p].toNat = 92; omega)
    have Hd : Hid (s.data.toList.drop p = 92 :: s.data.toList.drop (p + 1)) := Lib.hid (by rw [Hdr.out, g92])
    clear g92 h92
    go_enter Tryz.func112, Tryz.ntmps112
    go_wp2
    go_loopw [6] (fun i wr => ∃ k : Nat, k ≤ 256 ∧ i = .int .i64 (k : Int) ∧ Hid (∀ j, j < k → ∀ r, s.data.toList.drop p ≠ escB (UInt8.ofNat j) ++ r) ∧ Below w.heap.size w wr) (fun i _ => 256 - (intOf i).toNat)
    case atStart => exact ⟨0, Nat.zero_le _, rfl, Lib.hid fun j hj => absurd hj (by omega), Below.refl _ _⟩
    case round =>
      obtain ⟨k, hk, rfl, HK, hbel⟩ := hrel
      have hsz := hbel.size
      by_cases hlt : k < 256
      · have hx : ((UInt8.ofNat k).toNat : Int) = (k : Int) := by rw [UInt8.toNat_ofNat']; omega
        have k0 : IntKind.u8.wrap (k : Int) = (k : Int) := by rw [IntKind.wrap_u8]; omega
        have hB := fun W => byteR_calls (UInt8.ofNat k) W
        rw [hx] at hB
        have Hnext : Hid ((∀ r, s.data.toList.drop p ≠ escB (UInt8.ofNat k) ++ r) → ∀ j, j < k + 1 → ∀ r, s.data.toList.drop p ≠ escB (UInt8.ofNat j) ++ r) := Lib.hid fun h j hj r => by
          rcases Nat.lt_or_ge j k with h1 | h1
          · exact HK.out j h1 r
          · obtain rfl : j = k := by omega
            exact h r
        have hln := escB_len13 (UInt8.ofNat k)
        have hmk := mk_size (escB (UInt8.ofNat k))
        by_cases hpl : plainB (UInt8.ofNat k) = true
        · have HN := Lib.hid (Hnext.out fun r e => by
            rw [Hd.out] at e
            rw [(esc92 e).1] at hpl
            cases hpl)
          rw [hpl, if_pos rfl] at hln
          have z1 : ((⟨(escB (UInt8.ofNat k)).toArray⟩ : ByteArray).size : Int) = 1 := by omega
          have HB := Lib.hid hB
          clear hB hln hmk hpl hx
          generalize (⟨(escB (UInt8.ofNat k)).toArray⟩ : ByteArray) = bw at *
          have z2 : ((bw.size : Int) == 3) = false := eqf (by omega)
          go_wp2_with fail
          refine (HB.out _).mono ?_
          rintro e w1 ⟨rfl, hb1⟩
          go_wp2
          go_roundw
          case rel => exact ⟨k + 1, by omega, by go_num, HN, hbel.trans (hb1.mono hsz)⟩
          case measure => simp [intOf]; omega
        · have hpl' : plainB (UInt8.ofNat k) = false := by simpa using hpl
          rw [hpl', if_neg (by simp)] at hln
          have z1 : ((⟨(escB (UInt8.ofNat k)).toArray⟩ : ByteArray).size : Int) = 3 := by omega
          have HB := Lib.hid hB
          by_cases hroom : p + 3 ≤ s.size
          · have Hiff := Lib.hid (ext_eq3 hroom hpl')
            have i3 : (3 : Int) ≤ (s.size : Int) - (p : Int) := by omega
            have d3 : decide ((3 : Int) ≤ (s.size : Int) - (p : Int)) = true := dct i3
            have e3 : ((p : Int) + 3).toNat = p + 3 := by omega
            have i4 : (p : Int) + 3 ≤ (s.size : Int) := by omega
            by_cases hq : ((s.extract p (p + 3)).toList == (⟨(escB (UInt8.ofNat k)).toArray⟩ : ByteArray).toList) = true
            · have HR : Hid (s.data.toList.drop p = escB (UInt8.ofNat k) ++ s.data.toList.drop (p + (escB (UInt8.ofNat k)).length)) := Lib.hid (by rw [hln]; exact Hiff.out.1 hq)
              have HL3 := Lib.hid hln
              have HX := Lib.hid hx
              clear hB hln hmk hpl hpl' hx Hiff i3
              generalize (⟨(escB (UInt8.ofNat k)).toArray⟩ : ByteArray) = bw at *
              have z2 : ((bw.size : Int) == 3) = true := eqt (by omega)
              go_wp2_with fail
              refine (HB.out _).mono ?_
              rintro e w1 ⟨rfl, hb1⟩
              go_wp2
              go_ret2
              exact ⟨.inl ⟨UInt8.ofNat k, by rw [HL3.out, HX.out]; rfl, HR.out⟩, hbel.trans (hb1.mono hsz)⟩
            · have HN := Lib.hid (Hnext.out fun r e => hq (Hiff.out.2 (by
                have e4 := congrArg (List.drop 3) e
                rw [List.drop_drop, List.drop_left' hln] at e4
                rw [e4]; exact e)))
              have hq' : ((s.extract p (p + 3)).toList == (⟨(escB (UInt8.ofNat k)).toArray⟩ : ByteArray).toList) = false := by simpa using hq
              clear hB hln hmk hpl hpl' hx Hiff hq i3
              generalize (⟨(escB (UInt8.ofNat k)).toArray⟩ : ByteArray) = bw at *
              have z2 : ((bw.size : Int) == 3) = true := eqt (by omega)
              go_wp2_with fail
              refine (HB.out _).mono ?_
              rintro e w1 ⟨rfl, hb1⟩
              go_wp2
              go_roundw
              case rel => exact ⟨k + 1, by omega, by go_num, HN, hbel.trans (hb1.mono hsz)⟩
              case measure => simp [intOf]; omega
          · have HN := Lib.hid (Hnext.out fun r e => by
              have := congrArg List.length e
              rw [List.length_drop, HSZ.out, List.length_append] at this
              omega)
            have d3 : decide ((3 : Int) ≤ (s.size : Int) - (p : Int)) = false := dcf (by omega)
            clear hB hln hmk hpl hpl' hx
            generalize (⟨(escB (UInt8.ofNat k)).toArray⟩ : ByteArray) = bw at *
            have z2 : ((bw.size : Int) == 3) = true := eqt (by omega)
            go_wp2_with fail
            refine (HB.out _).mono ?_
            rintro e w1 ⟨rfl, hb1⟩
            go_wp2
            go_roundw
            case rel => exact ⟨k + 1, by omega, by go_num, HN, hbel.trans (hb1.mono hsz)⟩
            case measure => simp [intOf]; omega
      · obtain rfl : k = 256 := by omega
        have HN : Hid (NoRd (s.data.toList.drop p)) := Lib.hid fun c r e => by
          have h8 := UInt8.toNat_lt c
          exact HK.out c.toNat (by omega) r (by rw [UInt8.ofNat_toNat]; exact e)
        go_wp2
        go_ret2
        exact ⟨.inr ⟨rfl, HN.out⟩, hbel⟩
  · have hn : ((s[p].toNat : Int) != 92) = true := by simpa using h92
    have h92' : at8 s p ≠ 92 := fun e => h92 (by rw [Hc.out, e]; rfl)
    have q := ext_eq1 hp
    have e1 : ((p : Int) + 1).toNat = p + 1 := by omega
    have i1 : (p : Int) + 1 ≤ (s.size : Int) := by omega
    have i2 : (p : Int) ≤ (p : Int) + 1 := by omega
    have i3 : (0 : Int) ≤ (p : Int) := by omega
    have k1 : IntKind.i64.wrap ((p : Int) + 1) = (p : Int) + 1 := IntWalk.i64_in _ (by omega)
    have HB := Lib.hid (fun W => byteR_calls s[p] W)
    have Hyes := Lib.hid (fun (h : plainB s[p] = true) => show s.data.toList.drop p = escB s[p] ++ s.data.toList.drop (p + (escB s[p]).length) by rw [escB_plain h, Hdr.out, Hc.out]; rfl)
    have Hno := Lib.hid (fun (h : plainB s[p] = false) => show NoRd (s.data.toList.drop p) by rw [Hdr.out, ← Hc.out]; exact noRd_bad h (by rw [Hc.out]; exact h92'))
    have Hln := Lib.hid (fun (h : plainB s[p] = true) => show ((escB s[p]).length : Int) = 1 by rw [escB_plain h]; rfl)
    clear h92 h92'
    generalize (⟨(escB s[p]).toArray⟩ : ByteArray) = bw at *
    generalize hpl : plainB s[p] = pl at *
    cases pl
    · have HN := Lib.hid (Hno.out rfl)
      clear Hno Hyes Hln hpl
      go_enter Tryz.func112, Tryz.ntmps112
      go_wp2_with fail
      go_region_held3 (fun w' => Below w.heap.size w w') (first | exact below_drewN_ (Below.refl _ _) 1 | assumption) ((go_at_call 134; refine (HB.out _).mono ?_; rintro en w3 ⟨rfl, hb3⟩; have hHH := ‹Below w.heap.size w _›; have he3 : Below w.heap.size w w3 := Below.trans hHH (hb3.mono hHH.size)))
      go_wp2
      go_ret2
      exact ⟨.inr ⟨rfl, HN.out⟩, he3⟩
    · have HY := Lib.hid (Hyes.out rfl)
      have HL := Lib.hid (Hln.out rfl)
      clear Hno Hyes Hln hpl
      go_enter Tryz.func112, Tryz.ntmps112
      go_wp2_with fail
      go_region_held3 (fun w' => Below w.heap.size w w') (first | exact below_drewN_ (Below.refl _ _) 1 | assumption) ((go_at_call 134; refine (HB.out _).mono ?_; rintro en w3 ⟨rfl, hb3⟩; have hHH := ‹Below w.heap.size w _›; have he3 : Below w.heap.size w w3 := Below.trans hHH (hb3.mono hHH.size)))
      go_wp2
      go_ret2
      exact ⟨.inl ⟨s[p], by rw [HL.out]; rfl, HY.out⟩, he3⟩
end Go.Proofs.YtjbmlhipjceeeaaGreat.Lb

namespace Go.Proofs.YtjbmlhipjceeeaaGreat.Lb
set_option linter.unusedVariables false
set_option linter.unusedSimpArgs false
open Go.RowKit

theorem drop_S {S T : List UInt8} (hS : S = 123 :: (T ++ [125])) {q : Nat} (hq : q ≤ T.length) : S.drop (1 + q) = T.drop q ++ [125] := by
  rw [hS, Nat.add_comm, List.drop_succ_cons, List.drop_append_of_le_length hq]
theorem letters_pre : ∀ {a b X Y : List UInt8} {c d : UInt8}, (∀ x ∈ a, letterB x = true) → (∀ x ∈ b, letterB x = true) → letterB c = false → letterB d = false → a ++ c :: X = b ++ d :: Y → a = b ∧ c :: X = d :: Y
  | [], [], _, _, _, _, _, _, _, _, h => ⟨rfl, h⟩
  | [], y :: b, _, _, c, _, _, hb, hc, _, h => by
    simp only [List.nil_append, List.cons_append, List.cons.injEq] at h
    have := hb y (by simp)
    rw [← h.1, hc] at this
    cases this
  | x :: a, [], _, _, _, d, ha, _, _, hd, h => by
    simp only [List.nil_append, List.cons_append, List.cons.injEq] at h
    have := ha x (by simp)
    rw [h.1, hd] at this
    cases this
  | x :: a, y :: b, X, Y, c, d, ha, hb, hc, hd, h => by
    simp only [List.cons_append, List.cons.injEq] at h
    obtain ⟨rfl, h2⟩ := h
    obtain ⟨rfl, h3⟩ := letters_pre (fun z hz => ha z (by simp [hz])) (fun z hz => hb z (by simp [hz])) hc hd h2
    exact ⟨rfl, h3⟩
theorem not_letter61 : letterB 61 = false := by decide
section
variable {T : List UInt8} {out : List Lab} {q j : Nat} {c : UInt8} {X : List UInt8}
theorem St2.scan (h : St2 T out q) (hall : ∀ x ∈ (T.drop q ++ [125]).take j, letterB x = true) (hj : (T.drop q ++ [125]).drop j = c :: X) (hc : letterB c = false) (l : List Lab) (hl : rightB l = true) (hb : bodyT l = T) :
    ∃ x r, l = out ++ x :: r ∧ x.1.data.toList = (T.drop q ++ [125]).take j ∧ c :: X = 61 :: 34 :: (valT x.2.data.toList ++ 34 :: (tailT r ++ [125])) := by
  obtain ⟨x, r, rfl, h1⟩ := h.comp l hl hb
  have hnm : nameB x.1 = true := right_name hl x (by simp)
  have e : (T.drop q ++ [125]).take j ++ c :: X = x.1.data.toList ++ 61 :: (34 :: (valT x.2.data.toList ++ 34 :: (tailT r ++ [125]))) := by
    rw [← hj, List.take_append_drop, h1, labT_split]
    simp
  obtain ⟨e1, e2⟩ := letters_pre hall (fun z hz => (name_no61 hnm z hz).2) hc not_letter61 e
  exact ⟨x, r, rfl, e1.symm, e2⟩
theorem St2.scan_short (h : St2 T out q) (hall : ∀ x ∈ (T.drop q ++ [125]).take j, letterB x = true) (hj : (T.drop q ++ [125]).drop j = c :: X) (hc : letterB c = false) (hs : X.length < 2) : NoSet T := fun l hl hb => by
  obtain ⟨x, r, _, _, e⟩ := h.scan hall hj hc l hl hb
  simp only [List.cons.injEq] at e
  rw [e.2] at hs
  simp at hs
  omega
theorem St2.scan_61 (h : St2 T out q) (hall : ∀ x ∈ (T.drop q ++ [125]).take j, letterB x = true) (hj : (T.drop q ++ [125]).drop j = c :: X) (hc : letterB c = false) (h61 : c ≠ 61) : NoSet T := fun l hl hb => by
  obtain ⟨x, r, _, _, e⟩ := h.scan hall hj hc l hl hb
  simp only [List.cons.injEq] at e
  exact h61 e.1
theorem St2.scan_34 (h : St2 T out q) (hall : ∀ x ∈ (T.drop q ++ [125]).take j, letterB x = true) {d : UInt8} (hj : (T.drop q ++ [125]).drop j = 61 :: d :: X) (h34 : d ≠ 34) : NoSet T := fun l hl hb => by
  obtain ⟨x, r, _, _, e⟩ := h.scan hall hj not_letter61 l hl hb
  simp only [List.cons.injEq, true_and] at e
  exact h34 e.1
theorem St2.scan_val (h : St2 T out q) (hall : ∀ x ∈ (T.drop q ++ [125]).take j, letterB x = true) (hj : (T.drop q ++ [125]).drop j = 61 :: 34 :: X) (hv : ∀ v r, X ≠ valT v ++ 34 :: r) : NoSet T := fun l hl hb => by
  obtain ⟨x, r, _, _, e⟩ := h.scan hall hj not_letter61 l hl hb
  simp only [List.cons.injEq, true_and] at e
  exact hv _ _ e
theorem St2.scan_label (h : St2 T out q) (hall : ∀ x ∈ (T.drop q ++ [125]).take j, letterB x = true) (hj : (T.drop q ++ [125]).drop j = 61 :: 34 :: (T.drop (q + j + 2) ++ [125])) (hjl : q + j + 2 ≤ T.length)
    {n v : ByteArray} (hn : n.data.toList = (T.drop q ++ [125]).take j) {q2 : Nat} (hq2 : q2 = q + j + 2 + (valT v.data.toList).length + 1) (hle : q2 ≤ T.length) (hv : T.drop (q + j + 2) ++ [125] = valT v.data.toList ++ 34 :: (T.drop q2 ++ [125])) : St T (out ++ [(n, v)]) q2 := by
  have hlen : j ≤ (T.drop q).length := by rw [List.length_drop]; omega
  rw [List.take_append_of_le_length hlen] at hall hn
  rw [List.drop_append_of_le_length hlen] at hj
  have hj' : (T.drop q).drop j = 61 :: 34 :: T.drop (q + j + 2) := by
    have : (T.drop q).drop j ++ [125] = (61 :: 34 :: T.drop (q + j + 2)) ++ [125] := by rw [hj]; rfl
    exact List.append_cancel_right this
  have hv' : T.drop (q + j + 2) = valT v.data.toList ++ 34 :: T.drop q2 := by
    have : T.drop (q + j + 2) ++ [125] = (valT v.data.toList ++ 34 :: T.drop q2) ++ [125] := by rw [hv]; simp
    exact List.append_cancel_right this
  rw [hq2] at hv' ⊢
  refine h.label (i := j) ?_ (fun a r e => ?_) (by rw [List.length_take]; omega) hn hv'
  · conv => lhs; rw [← List.take_append_drop j (T.drop q), hj']
  · rcases Nat.lt_or_ge a.length j with h1 | h1
    · exfalso
      have hm : (61 : UInt8) ∈ (T.drop q).take j := by
        rw [List.mem_take_iff_getElem]
        refine ⟨a.length, by rw [e]; simp; omega, ?_⟩
        simp only [e]
        simp
      have := hall _ hm
      rw [not_letter61] at this
      cases this
    · exact h1
theorem St.brk (h : St T out q) (ho : out ≠ []) (hq : T.drop q ++ [125] = c :: X) (hc : c ≠ 44) (hne : q ≠ T.length) : NoSet T := by
  have hlt : q < T.length := by have := h.le; omega
  rw [List.drop_eq_getElem_cons hlt] at hq
  simp only [List.cons_append, List.cons.injEq] at hq
  exact h.nocomma ho (List.drop_eq_getElem_cons hlt) (by rw [hq.1]; exact hc)
end
theorem own_apart {w w' : World} {g base : Nat} {e : TypeId} {size n : Nat} {v : Value} {xs : List Value} (h : w.ownsRow base e size v n xs) (ho : Only g w w') (hg : v.ownBlock ≠ some g) : w'.ownsRow base e size v n xs :=
  h.kept ho (by
    rcases hv : v.ownBlock with _ | k
    · exact .inl rfl
    · right
      intro e'
      rw [hv, e'] at hg
      exact hg rfl)
theorem own_new {w : World} {base : Nat} {e : TypeId} {size n : Nat} {v : Value} {xs : List Value} (h : w.ownsRow base e size v n xs) : v.ownBlock ≠ some w.heap.size := fun hv => by
  have := (h.lt _ hv).2
  omega
theorem ext_next {s : ByteArray} {a b : Nat} (hab : a ≤ b) (hb : b < s.size) : s.extract a b ++ s.extract b (b + 1) = s.extract a (b + 1) := by
  rw [ByteArray.extract_append_extract, Nat.min_eq_left hab, Nat.max_eq_right (by omega)]
end Go.Proofs.YtjbmlhipjceeeaaGreat.Lb

namespace Go.Proofs.YtjbmlhipjceeeaaGreat.Lb
set_option linter.unusedVariables false
set_option linter.unusedSimpArgs false
open Go.RowKit

theorem ext_none (s : ByteArray) (a : Nat) : s.extract a a = ⟨#[]⟩ := bytes_ext (by rw [ext_list, Nat.sub_self, List.take_zero])
theorem par_nil : ParP [123, 125] [] := ⟨by decide +kernel, by decide +kernel⟩
theorem brace_list : (⟨#[123, 125]⟩ : ByteArray).toList = [123, 125] := by decide +kernel
theorem str_eq (s t : ByteArray) : (s.toList == t.toList) = true → s = t := fun h => by
  rw [bytes_eqd, decide_eq_true_iff] at h
  exact h

set_option maxRecDepth 100000 in
set_option maxHeartbeats 6400000 in
theorem parseR_calls (s : ByteArray) (w : World) (hs : s.size ≤ 100000) :
    Calls Tryz.prog 89 #[.string s] w (ParRet w s.data.toList (.bool true) (.bool false)) := by
  have HL : Hid (s.data.toList.length = s.size) := Lib.hid (by rw [Array.length_toList]; rfl)
  have hbw : Below w.heap.size w (w.alloc (.cells #[] 143)) := (Below.refl _ _).alloc (Nat.le_refl _) _
  by_cases h2 : s.size < 2
  · have HN := Lib.hid (not_par_short (S := s.data.toList) (by rw [HL.out]; exact h2))
    go_enter Tryz.func89, Tryz.ntmps89
    go_wp2
    go_ret2
    exact .inr ⟨rfl, HN.out, hbw⟩
  have h2' : 2 ≤ s.size := by omega
  have j0 : 0 < s.size := by omega
  have j1 : s.size - 1 < s.size := by omega
  have c0 := at8_eq j0
  have c1 := at8_eq j1
  have e1 : ((s.size : Int) - 1).toNat = s.size - 1 := by omega
  by_cases h0 : ((s[0].toNat : Int) == 123) = true
  case neg =>
    have h0' : ((s[0].toNat : Int) != 123) = true := by simpa using h0
    have HN := Lib.hid (not_par_head (S := s.data.toList) (drop8 j0) (fun e => h0 (by rw [c0, e]; rfl)))
    clear h0 c0 c1
    go_enter Tryz.func89, Tryz.ntmps89
    go_wp2
    go_ret2
    exact .inr ⟨rfl, HN.out, hbw⟩
  have h0' : ((s[0].toNat : Int) != 123) = false := by simpa using h0
  have g0 : at8 s 0 = 123 := by
    rw [← c0]
    rw [beq_iff_eq] at h0
    exact UInt8.toNat_inj.1 (by show s[0].toNat = 123; omega)
  by_cases h1 : ((s[s.size - 1].toNat : Int) == 125) = true
  case neg =>
    have h1' : ((s[s.size - 1].toNat : Int) != 125) = true := by simpa using h1
    have HN := Lib.hid (not_par_last (S := s.data.toList) (k := s.size - 1) (by rw [HL.out]; omega) (at8_get j1) (fun e => h1 (by rw [c1, e]; rfl)))
    clear h1 h0 g0 c0 c1
    go_enter Tryz.func89, Tryz.ntmps89
    go_wp2
    go_ret2
    exact .inr ⟨rfl, HN.out, hbw⟩
  have h1' : ((s[s.size - 1].toNat : Int) != 125) = false := by simpa using h1
  have g1 : at8 s (s.size - 1) = 125 := by
    rw [← c1]
    rw [beq_iff_eq] at h1
    exact UInt8.toNat_inj.1 (by show s[s.size - 1].toNat = 125; omega)
  have HS := Lib.hid (mid_list h2' g0 g1)
  have HG1 := Lib.hid g1
  clear h0 h1 g0 g1 c0 c1
  generalize hT : (s.extract 1 (s.size - 1)).data.toList = T at *
  have hTl : T.length = s.size - 2 := by rw [← hT, Array.length_toList]; show (s.extract 1 (s.size - 1)).size = _; rw [ByteArray.size_extract]; omega
  have HTl := Lib.hid hTl
  clear hT hTl
  have Hno : Hid (NoSet T → ∀ l, ¬ ParP s.data.toList l) := Lib.hid fun h => noSet_par h HS.out
  by_cases hq : (s.toList == [123, 125]) = true
  · have HE : Hid (s.data.toList = [123, 125]) := Lib.hid (by rw [← brace_list] at hq; rw [str_eq _ _ hq])
    go_enter Tryz.func89, Tryz.ntmps89
    go_wp2
    go_ret2
    exact .inl ⟨[], _, _, rfl, by rw [HE.out]; exact par_nil, Labs.nil_, hbw⟩
  have hq' : (s.toList == [123, 125]) = false := by simpa using hq
  have Hpos : Hid (0 < T.length) := Lib.hid (by
    rcases Nat.eq_zero_or_pos T.length with h | h
    · exfalso
      refine hq ?_
      rw [← brace_list, bytes_eqd, decide_eq_true_iff]
      refine bytes_ext ?_
      rw [HS.out, List.eq_nil_of_length_eq_zero h]
      rfl
    · exact h)
  clear hq
  go_enter Tryz.func89, Tryz.ntmps89
  go_wp2
  go_loopw [4, 5] (fun o a wr => ∃ (p q : Nat) (out : List Lab) (A : Option Addr) (co : Nat), o = .slice A out.length co ∧ a = .int .i64 (p : Int) ∧ Hid (p = 1 + q) ∧ p + 1 ≤ s.size ∧ out.length ≤ 5 ∧ Hid (St2 T out q) ∧ Hid (Fit out) ∧ wr.ownsRow w.heap.size 143 2 (.slice A out.length co) out.length (labCells out) ∧ Below w.heap.size w wr) (fun _ a _ => s.size - (intOf a).toNat)
  case atStart => exact ⟨1, 0, [], _, _, rfl, rfl, Lib.hid rfl, by omega, by simp, Lib.hid (St.more0 (St.start _) Hpos.out), Lib.hid (fun x hx => by cases hx), World.ownsRow_made w #[] 0 (Nat.le_refl _) (Nat.zero_le _) rfl, hbw⟩
  case round =>
    obtain ⟨p, q, out, A, co, rfl, rfl, Hpq, hp, ho5, HSt, HFit, hown, hbel⟩ := hrel
    have hsz := hbel.size
    by_cases h5 : out.length = 5
    · have HN := Lib.hid (Hno.out (HSt.out.many (by omega)))
      have hlab : Labs wr wr.heap.size A out := Reads.of_own hown
      have hRC := rightR_calls wr (c := co) hlab HFit.out (by omega)
      have hr : rightB out = false := rightB_no fun h => by have := h.1; omega
      rw [hr] at hRC
      have HRC := Lib.hid hRC
      have i5 : ¬ (out.length : Int) < 5 := by omega
      clear hRC hr h5
      by_cases hend : p + 1 = s.size
      · have he1 : ((p : Int) != (s.size : Int) - 1) = false := nef (by omega)
        have hp1 : p < s.size := by omega
        have hc125 : ((s[p].toNat : Int) != 125) = false := by
          have h8 := HG1.out
          rw [show s.size - 1 = p by omega, ← at8_eq hp1] at h8
          rw [h8]; rfl
        clear hend
        go_wp2_with fail
        refine HRC.out.mono ?_
        rintro e w4 ⟨rfl, hb4⟩
        go_wp2
        go_ret2
        exact .inr ⟨rfl, HN.out, hbel.trans (hb4.mono hsz)⟩
      · have he1 : ((p : Int) != (s.size : Int) - 1) = true := net (by omega)
        clear hend
        go_wp2
        go_ret2
        exact .inr ⟨rfl, HN.out, hbel⟩
    · have i5 : (out.length : Int) < 5 := by omega
      have hne := own_new hown
      have hown1 := hown.alloc (.cells #[.string ⟨#[]⟩, .string ⟨#[]⟩] 143)
      have hx0 := Blk.new wr 143 #[.string ⟨#[]⟩, .string ⟨#[]⟩]
      have hb0 : Below w.heap.size w (wr.alloc (.cells #[.string ⟨#[]⟩, .string ⟨#[]⟩] 143)) := hbel.alloc hsz _
      go_wp2
      generalize wr.alloc (.cells #[.string ⟨#[]⟩, .string ⟨#[]⟩] 143) = w1 at *
      generalize wr.heap.size = g at *
      have hgw : w.heap.size ≤ g := hsz
      clear hown hbel
      have HqT : Hid (q ≤ T.length) := Lib.hid HSt.out.le
      have HD : Hid (s.data.toList.drop p = T.drop q ++ [125]) := Lib.hid (by rw [Hpq.out]; exact drop_S HS.out HqT.out)
      go_loopw [5] (fun a wx => ∃ b : Nat, a = .int .i64 (b : Int) ∧ p ≤ b ∧ b + 1 ≤ s.size ∧ Hid (∀ x ∈ (s.data.toList.drop p).take (b - p), letterB x = true) ∧ Blk wx g 143 #[.string (s.extract p b), .string ⟨#[]⟩] ∧ Only g w1 wx) (fun a _ => s.size - (intOf a).toNat)
      case atStart => exact ⟨p, rfl, Nat.le_refl _, hp, Lib.hid (by rw [Nat.sub_self]; simp), by rw [ext_none]; exact hx0, Only.refl _ _⟩
      case round =>
        obtain ⟨b, rfl, hpb, hbs, Hlet, hx, honly⟩ := hrel
        have hbl : b < s.size := by omega
        have Hdr := Lib.hid (drop8 hbl)
        have Hc := Lib.hid (at8_eq hbl)
        have HLC := Lib.hid (fun W => letter_calls s[b] W)
        have Hsplit : Hid ((T.drop q ++ [125]).drop (b - p) = s[b] :: s.data.toList.drop (b + 1)) := Lib.hid (by rw [← HD.out, List.drop_drop, show p + (b - p) = b by omega, Hdr.out, Hc.out])
        cases hlt : letterB s[b]
        · rw [hlt] at HLC
          have Hall : Hid (∀ x ∈ (T.drop q ++ [125]).take (b - p), letterB x = true) := Lib.hid (by rw [← HD.out]; exact Hlet.out)
          have hbx : Below w.heap.size w wr := hb0.trans (honly.below hgw hb0.size)
          have HF := Lib.hid hlt
          clear hlt
          by_cases h3 : s.size < b + 3
          · have HN := Lib.hid (Hno.out (HSt.out.scan_short Hall.out Hsplit.out HF.out (by rw [List.length_drop, HL.out]; omega)))
            have d3 : decide ((s.size : Int) - (b : Int) < 3) = true := dct (by omega)
            have d4 : (s.size : Int) - (b : Int) < 3 := by omega
            go_wp2_with fail
            refine (HLC.out _).mono ?_
            rintro e w2 ⟨rfl, rfl⟩
            go_wp2
            go_ret2
            exact .inr ⟨rfl, HN.out, hbx⟩
          have d3 : decide ((s.size : Int) - (b : Int) < 3) = false := dcf (by omega)
          have d4 : (3 : Int) ≤ (s.size : Int) - (b : Int) := by omega
          have e1 : ((b : Int) + 1).toNat = b + 1 := by omega
          have jb1 : b + 1 < s.size := by omega
          have ib1 : (b : Int) + 1 < (s.size : Int) := by omega
          by_cases h61 : ((s[b].toNat : Int) == 61) = true
          case neg =>
            have h61' : ((s[b].toNat : Int) != 61) = true := by simpa using h61
            have HN := Lib.hid (Hno.out (HSt.out.scan_61 Hall.out Hsplit.out HF.out (fun e => h61 (by rw [e]; rfl))))
            clear h61
            go_wp2_with fail
            refine (HLC.out _).mono ?_
            rintro e w2 ⟨rfl, rfl⟩
            go_wp2
            go_ret2
            exact .inr ⟨rfl, HN.out, hbx⟩
          have h61' : ((s[b].toNat : Int) != 61) = false := by simpa using h61
          have hb61 : s[b] = 61 := by
            rw [beq_iff_eq] at h61
            exact UInt8.toNat_inj.1 (by show s[b].toNat = 61; omega)
          have Hsp2 : Hid ((T.drop q ++ [125]).drop (b - p) = 61 :: s[b + 1] :: s.data.toList.drop (b + 2)) := Lib.hid (by rw [Hsplit.out, hb61, drop8 jb1, at8_eq jb1])
          clear h61 hb61
          by_cases h34 : ((s[b + 1].toNat : Int) == 34) = true
          case neg =>
            have h34' : ((s[b + 1].toNat : Int) != 34) = true := by simpa using h34
            have HN := Lib.hid (Hno.out (HSt.out.scan_34 Hall.out Hsp2.out (fun e => h34 (by rw [e]; rfl))))
            clear h34
            go_wp2_with fail
            refine (HLC.out _).mono ?_
            rintro e w2 ⟨rfl, rfl⟩
            go_wp2
            go_ret2
            exact .inr ⟨rfl, HN.out, hbx⟩
          have h34' : ((s[b + 1].toNat : Int) != 34) = false := by simpa using h34
          have hb34 : s[b + 1] = 34 := by
            rw [beq_iff_eq] at h34
            exact UInt8.toNat_inj.1 (by show s[b + 1].toNat = 34; omega)
          have Hsp3 : Hid ((T.drop q ++ [125]).drop (b - p) = 61 :: 34 :: s.data.toList.drop (b + 2)) := Lib.hid (by rw [Hsp2.out, hb34])
          clear h34 hb34 Hsp2
          go_wp2_with fail
          refine (HLC.out _).mono ?_
          rintro e w2 ⟨rfl, rfl⟩
          go_wp2
          go_loopw [5] (fun a wx => ∃ (p2 : Nat) (u : List UInt8), a = .int .i64 (p2 : Int) ∧ p2 ≤ s.size ∧ Hid (Upto s.data.toList (b + 2) u p2) ∧ Blk wx g 143 #[.string (s.extract p b), .string ⟨u.toArray⟩] ∧ Only g w1 wx) (fun a _ => s.size - (intOf a).toNat)
          case atStart => exact ⟨b + 2, [], by go_num, by omega, Lib.hid (Upto.start _ _), hx, honly⟩
          case round =>
            obtain ⟨p2, u, rfl, hp2, HU, hx2, honly2⟩ := hrel
            clear hx honly hbx
            have hbx : Below w.heap.size w wr := hb0.trans (honly2.below hgw hb0.size)
            have s2 := hbx.size
            have hul : u.length ≤ s.size := by have hug := HU.out.2; have hvg := valT_ge u; omega
            by_cases hlt2 : p2 < s.size
            · have Hdr2 := Lib.hid (drop8 hlt2)
              have Hc2 := Lib.hid (at8_eq hlt2)
              by_cases hq34 : ((s[p2].toNat : Int) == 34) = true
              · have hq34' : ((s[p2].toNat : Int) != 34) = false := by simpa using hq34
                have hd34 : s.data.toList.drop p2 = 34 :: s.data.toList.drop (p2 + 1) := by
                  rw [Hdr2.out, ← Hc2.out]
                  congr 1
                  rw [beq_iff_eq] at hq34
                  exact UInt8.toNat_inj.1 (by show s[p2].toNat = 34; omega)
                have hlast : p2 + 1 ≠ s.size := fun e => by
                  have h8 := HG1.out
                  rw [← e, show p2 + 1 - 1 = p2 by omega, ← Hc2.out] at h8
                  rw [h8] at hq34
                  exact absurd hq34 (by decide)
                have hl2 : p2 + 1 < s.size := by omega
                have hpq : p = 1 + q := Hpq.out
                have hTl : T.length = s.size - 2 := HTl.out
                have hug := HU.out.2
                have HSt2 : Hid (St T (out ++ [(s.extract p b, ⟨u.toArray⟩)]) p2) := Lib.hid (by
                  refine HSt.out.scan_label Hall.out (j := b - p) (n := s.extract p b) (v := ⟨u.toArray⟩) (q2 := p2) ?_ (by omega) ?_ ?_ (by omega) ?_
                  · rw [Hsp3.out, ← drop_S HS.out (by omega), show 1 + (q + (b - p) + 2) = b + 2 by omega]
                  · rw [ext_list, HD.out]
                  · show p2 = q + (b - p) + 2 + (valT u).length + 1
                    omega
                  · rw [← drop_S HS.out (by omega), show 1 + (q + (b - p) + 2) = b + 2 by omega, ← drop_S HS.out (by omega), show 1 + p2 = p2 + 1 by omega]
                    exact HU.out.done hd34)
                have hb2 : b + 2 ≤ p2 := by omega
                clear hug hpq hTl hd34 hq34 hlast
                have hown2 := own_apart hown1 honly2 hne
                have y0 := hx2.cell 0
                have y1 := hx2.cell 1
                simp only [List.getElem?_toArray, List.getElem?_cons_zero, List.getElem?_cons_succ] at y0 y1
                have hns : (s.extract p b).size ≤ 100000 := by rw [ByteArray.size_extract]; omega
                have hvs : (⟨u.toArray⟩ : ByteArray).size ≤ 100000 := by rw [mk_size]; omega
                generalize (⟨u.toArray⟩ : ByteArray) = vb at *
                have Hfit2 : Hid (Fit (out ++ [(s.extract p b, vb)])) := Lib.hid (fun y hy => by
                  rcases List.mem_append.1 hy with hy | hy
                  · exact HFit.out y hy
                  · simp at hy
                    subst hy
                    exact ⟨by simp only; omega, by simp only; omega⟩)
                have hrd : Reads (wr.alloc (.cells #[.string (s.extract p b), .string vb] 143)) (wr.heap.size + 1) 2 (some ⟨wr.heap.size, 0, none⟩) 1 (labCells [(s.extract p b, vb)]) := Reads.made (n := 1) (size := 2) wr #[.string (s.extract p b), .string vb] 143 rfl
                clear hns hvs
                go_wp2_with (at_builtin; go_must (refine wpList_append_sl _ rfl (.tmp 102) (.tmp 104) _ rfl w.heap.size 143 _ 2 32 Tryz.underlying116 Tryz.infoLab rfl (by omega) _ _ _ rfl (hown2.alloc _) (wr.heap.size + 1) _ 1 1 (labCells [(s.extract p b, vb)]) rfl hrd (labCells_one _) (by unfold maxLen; omega) (by omega) (by simp; omega) ?_))
                intro A2' c2' w3 hc1 hc2 hrd2 hbel2 hown3' _ _
                have hown3 : w3.ownsRow w.heap.size 143 2 (.slice A2' (out ++ [(s.extract p b, vb)]).length c2') (out ++ [(s.extract p b, vb)]).length (labCells (out ++ [(s.extract p b, vb)])) := by rw [labCells_app, List.length_append]; exact hown3'
                have hbe : Below w.heap.size w w3 := (hbx.alloc (by omega) _).trans hbel2
                have s3 := hbe.size
                clear hown3' hown2 hown1 hrd2 hrd y0 y1
                have e1 : ((p2 : Int) + 1).toNat = p2 + 1 := by omega
                have i1 : (p2 : Int) + 1 < (s.size : Int) := by omega
                have Hp1 : Hid (T.drop p2 ++ [125] = s[p2 + 1] :: s.data.toList.drop (p2 + 2)) := Lib.hid (by
                  rw [← drop_S HS.out HSt2.out.le, show 1 + p2 = p2 + 1 by omega, drop8 hl2, at8_eq hl2])
                by_cases h44 : ((s[p2 + 1].toNat : Int) == 44) = true
                · have h44' : ((s[p2 + 1].toNat : Int) != 44) = false := by simpa using h44
                  have hc44 : s[p2 + 1] = 44 := by
                    rw [beq_iff_eq] at h44
                    exact UInt8.toNat_inj.1 (by show s[p2 + 1].toNat = 44; omega)
                  have hlt3 : p2 < T.length := by
                    rcases Nat.lt_or_ge p2 T.length with h | h
                    · exact h
                    · exfalso
                      have h9 := Hp1.out
                      rw [List.drop_eq_nil_of_le h, hc44] at h9
                      simp at h9
                  have HSt3 := Lib.hid (HSt2.out.comma (by simp) (X := T.drop (p2 + 1)) (by
                    have h9 := Hp1.out
                    rw [List.drop_eq_getElem_cons hlt3, hc44] at h9
                    simp only [List.cons_append, List.cons.injEq] at h9
                    rw [List.drop_eq_getElem_cons hlt3, h9.1]))
                  have hsz3 : p2 + 3 ≤ s.size := by have := HTl.out; omega
                  clear h44 hc44 hlt3
                  go_wp2
                  go_roundw
                  case rel => exact ⟨p2 + 2, p2 + 1, out ++ [(s.extract p b, vb)], A2', c2', by simp, by go_num, Lib.hid (by omega), by omega, by simp; omega, HSt3, Hfit2, hown3, hbe⟩
                  case measure => simp [intOf]; omega
                · have h44' : ((s[p2 + 1].toNat : Int) != 44) = true := by simpa using h44
                  have hne44 : s[p2 + 1] ≠ 44 := fun e => h44 (by rw [e]; rfl)
                  by_cases hend : p2 + 2 = s.size
                  · have hT2 : p2 = T.length := by have := HTl.out; omega
                    have hSf : St T (out ++ [(s.extract p b, vb)]) T.length := by rw [← hT2]; exact HSt2.out
                    have he1 : ((p2 : Int) + 1 != (s.size : Int) - 1) = false := nef (by omega)
                    have hc125 : ((s[p2 + 1].toNat : Int) != 125) = false := by
                      have h8 := HG1.out
                      rw [show s.size - 1 = p2 + 1 by omega, ← at8_eq hl2] at h8
                      rw [h8]; rfl
                    have hlab : Labs w3 w3.heap.size A2' (out ++ [(s.extract p b, vb)]) := Reads.of_own hown3
                    have hRC := rightR_calls w3 (c := c2') hlab Hfit2.out (by simp; omega)
                    have hlen : (out ++ [(s.extract p b, vb)]).length = out.length + 1 := by simp
                    clear h44 hne44
                    cases hr : rightB (out ++ [(s.extract p b, vb)])
                    · have HN := Lib.hid (Hno.out (hSf.finno hr))
                      rw [hr, hlen] at hRC
                      have HRC := Lib.hid hRC
                      clear hRC hr hT2 hend hlen
                      go_wp2_with fail
                      refine HRC.out.mono ?_
                      rintro e w4 ⟨rfl, hb4⟩
                      go_wp2
                      go_ret2
                      exact .inr ⟨rfl, HN.out, hbe.trans (hb4.mono s3)⟩
                    · have HP := Lib.hid (par_of HS.out hr hSf.fin)
                      rw [hr, hlen] at hRC
                      have HRC := Lib.hid hRC
                      have HLen := Lib.hid hlen
                      clear hRC hr hT2 hend hlen
                      go_wp2_with fail
                      refine HRC.out.mono ?_
                      rintro e w4 ⟨rfl, hb4⟩
                      go_wp2
                      go_ret2
                      exact .inl ⟨out ++ [(s.extract p b, vb)], A2', c2', by rw [HLen.out]; rfl, HP.out, (hlab.below hb4).more hb4.size, hbe.trans (hb4.mono s3)⟩
                  · have HN := Lib.hid (Hno.out (HSt2.out.brk (by simp) Hp1.out hne44 (by have := HTl.out; omega)))
                    have he1 : ((p2 : Int) + 1 != (s.size : Int) - 1) = true := net (by omega)
                    clear h44 hne44
                    go_wp2
                    go_ret2
                    exact .inr ⟨rfl, HN.out, hbe⟩
              · have hq34' : ((s[p2].toNat : Int) != 34) = true := by simpa using hq34
                have Hn34 : Hid (∀ r, s.data.toList.drop p2 ≠ 34 :: r) := Lib.hid (fun r hr => by
                  rw [Hdr2.out, ← Hc2.out] at hr
                  simp only [List.cons.injEq] at hr
                  rw [hr.1] at hq34
                  exact hq34 rfl)
                have HRD := Lib.hid (fun W => read_calls s p2 W hlt2 (by omega))
                have y1 := hx2.cell 1
                simp only [List.getElem?_toArray, List.getElem?_cons_zero, List.getElem?_cons_succ] at y1
                clear hq34
                go_wp2_with fail
                refine (HRD.out _).mono ?_
                rintro e w3 ⟨hret, hb3⟩
                have s3 := hb3.size
                rcases hret with ⟨ch, rfl, hch⟩ | ⟨rfl, hno⟩
                · have hlc : (escB ch).length = 1 ∨ (escB ch).length = 3 := by rw [escB_len13]; split <;> simp
                  have hrem : p2 + (escB ch).length ≤ s.size := by
                    have := congrArg List.length hch
                    rw [List.length_append, List.length_drop, List.length_drop, HL.out] at this
                    omega
                  have Hup := Lib.hid (HU.out.next rfl hch)
                  have hz : (((escB ch).length : Int) == 0) = false := eqf (by omega)
                  have hm1 : 1 ≤ (escB ch).length := by omega
                  generalize (escB ch).length = m at *
                  have x3 := hx2.below hb3 hx2.lt
                  have y1' := x3.cell 1
                  have f1' := x3.frozen 1
                  simp only [List.getElem?_toArray, List.getElem?_cons_zero, List.getElem?_cons_succ] at y1'
                  have hcv := conv_new w3 [ch] #[.int .u8 (ch.toNat : Int)] 1 1 rfl rfl
                  have happ : (⟨u.toArray⟩ : ByteArray) ++ (⟨[ch].toArray⟩ : ByteArray) = ⟨(u ++ [ch]).toArray⟩ := app_str _ _
                  have hadd : ∀ W, (Op.stringOp .add (⟨u.toArray⟩ : ByteArray) (⟨[ch].toArray⟩ : ByteArray)).run Tryz.prog W = .ok (.string ⟨(u ++ [ch]).toArray⟩) W := fun W => by
                    rw [run_string_add_sum W _ _ (by rw [mk_size, mk_size]; simp; omega), happ]
                  have x3a := x3.alloc (.cells #[.int .u8 (ch.toNat : Int)] 5)
                  have hg3 := x3.lt
                  have y1a := x3a.cell 1
                  have f1a := x3a.frozen 1
                  simp only [List.getElem?_toArray, List.getElem?_cons_zero, List.getElem?_cons_succ] at y1a
                  have Hset : Hid (Blk _ g 143 #[.string (s.extract p b), .string ⟨(u ++ [ch]).toArray⟩]) := Lib.hid ((x3.set_ 1 (.string ⟨(u ++ [ch]).toArray⟩)).alloc (.cells #[.int .u8 (ch.toNat : Int)] 5))
                  have ho3 : Only g w1 w3 := honly2.trans (Only.of_below hb3)
                  clear hch happ y1 hlc
                  generalize (⟨u.toArray⟩ : ByteArray) = bu at *
                  generalize (⟨[ch].toArray⟩ : ByteArray) = bc at *
                  go_wp2
                  go_roundw
                  case rel => exact ⟨p2 + m, u ++ [ch], by go_num, hrem, Hup, Hset.out, (ho3.setCell (.inl rfl) _).alloc _⟩
                  case measure => simp [intOf]; omega
                · have HN := Lib.hid (Hno.out (HSt.out.scan_val Hall.out Hsp3.out (HU.out.none hno Hn34.out)))
                  clear hno
                  go_wp2
                  go_ret2
                  exact .inr ⟨rfl, HN.out, hbx.trans (hb3.mono s2)⟩
            · obtain rfl : p2 = s.size := by omega
              have HN := Lib.hid (Hno.out (HSt.out.scan_val Hall.out Hsp3.out (by
                have e : s.data.toList.drop s.size = [] := List.drop_eq_nil_of_le (by rw [HL.out]; omega)
                exact HU.out.none (by rw [e]; exact noRd_nil) (fun r h => by rw [e] at h; cases h))))
              have hown2 := own_apart hown1 honly2 hne
              have y0 := hx2.cell 0
              have y1 := hx2.cell 1
              simp only [List.getElem?_toArray, List.getElem?_cons_zero, List.getElem?_cons_succ] at y0 y1
              have hns : (s.extract p b).size ≤ 100000 := by rw [ByteArray.size_extract]; omega
              have hvs : (⟨u.toArray⟩ : ByteArray).size ≤ 100000 := by rw [mk_size]; omega
              generalize (⟨u.toArray⟩ : ByteArray) = vb at *
              have Hfit2 : Hid (Fit (out ++ [(s.extract p b, vb)])) := Lib.hid (fun y hy => by
                rcases List.mem_append.1 hy with hy | hy
                · exact HFit.out y hy
                · simp at hy
                  subst hy
                  exact ⟨by simp only; omega, by simp only; omega⟩)
              have hrd : Reads (wr.alloc (.cells #[.string (s.extract p b), .string vb] 143)) (wr.heap.size + 1) 2 (some ⟨wr.heap.size, 0, none⟩) 1 (labCells [(s.extract p b, vb)]) := Reads.made (n := 1) (size := 2) wr #[.string (s.extract p b), .string vb] 143 rfl
              clear hns hvs
              go_wp2_with (at_builtin; go_must (refine wpList_append_sl _ rfl (.tmp 102) (.tmp 104) _ rfl w.heap.size 143 _ 2 32 Tryz.underlying116 Tryz.infoLab rfl (by omega) _ _ _ rfl (hown2.alloc _) (wr.heap.size + 1) _ 1 1 (labCells [(s.extract p b, vb)]) rfl hrd (labCells_one _) (by unfold maxLen; omega) (by omega) (by simp; omega) ?_))
              intro A2' c2' w3 hc1 hc2 hrd2 hbel2 hown3' _ _
              have hown3 : w3.ownsRow w.heap.size 143 2 (.slice A2' (out ++ [(s.extract p b, vb)]).length c2') (out ++ [(s.extract p b, vb)]).length (labCells (out ++ [(s.extract p b, vb)])) := by rw [labCells_app, List.length_append]; exact hown3'
              have hbe : Below w.heap.size w w3 := (hbx.alloc (by omega) _).trans hbel2
              have s3 := hbe.size
              clear hown3' hown2 hown1 hrd2 hrd y0 y1
              go_wp2
              go_ret2
              exact .inr ⟨rfl, HN.out, hbe⟩
        · rw [hlt] at HLC
          have hne1 : b + 1 ≠ s.size := fun e => by
            have h8 := HG1.out
            rw [← e, show b + 1 - 1 = b by omega, ← Hc.out] at h8
            rw [h8] at hlt
            exact absurd hlt (by decide)
          have Hlet2 : Hid (∀ x ∈ (s.data.toList.drop p).take (b + 1 - p), letterB x = true) := Lib.hid (fun x hx => by
            rw [show b + 1 - p = (b - p) + 1 by omega, List.take_add_one] at hx
            rcases List.mem_append.1 hx with hx | hx
            · exact Hlet.out x hx
            · rw [List.getElem?_drop, show p + (b - p) = b by omega, at8_get hbl] at hx
              simp at hx
              rw [hx, ← Hc.out]; exact hlt)
          have Hnx := Lib.hid (ext_next (s := s) hpb hbl)
          clear hlt
          have y0 := hx.cell 0
          have f0 := hx.frozen 0
          simp only [List.getElem?_toArray, List.getElem?_cons_zero] at y0
          have e1 : ((b : Int) + 1).toNat = b + 1 := by omega
          have i1 : (b : Int) + 1 ≤ (s.size : Int) := by omega
          have i2 : (b : Int) ≤ (b : Int) + 1 := by omega
          have i3 : (0 : Int) ≤ (b : Int) := by omega
          have k1 : IntKind.i64.wrap ((b : Int) + 1) = (b : Int) + 1 := IntWalk.i64_in _ (by omega)
          have z1 : (s.extract p b).size ≤ 100000 := by rw [ByteArray.size_extract]; omega
          have z2 : (s.extract b (b + 1)).size ≤ 100000 := by rw [ByteArray.size_extract]; omega
          have hadd : ∀ W, (Op.stringOp .add (s.extract p b) (s.extract b (b + 1))).run Tryz.prog W = .ok (.string (s.extract p (b + 1))) W := fun W => by rw [run_string_add_sum W _ _ (by omega), Hnx.out]
          have Hset := Lib.hid (hx.set_ 0 (.string (s.extract p (b + 1))))
          go_wp2_with fail
          refine (HLC.out _).mono ?_
          rintro e w2 ⟨rfl, rfl⟩
          go_wp2_with fail
          go_still_tail 8, (by kernel_rfl)
          go_wp2
          go_roundw
          case rel => exact ⟨b + 1, by go_num, by omega, by omega, Hlet2, Hset.out, (honly.drewN _).setCell (.inl rfl) _⟩
          case measure => simp [intOf]; omega
end Go.Proofs.YtjbmlhipjceeeaaGreat.Lb
