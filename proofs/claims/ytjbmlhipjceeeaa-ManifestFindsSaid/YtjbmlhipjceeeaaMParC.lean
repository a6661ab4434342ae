/- Reading a set's text: what is known between two labels (plain laws, chapter 8). -/
import Derived.Test.YtjbmlhipjceeeaaProg
import Derived.Test.YtjbmlhipjceeeaaMParB
import Derived.Lib.IndexMore
namespace Go.Proofs.Ytjbmlhipjceeeaa.Lb
open Go.RowKit

/-- The text of this set. -/
def ParP (S : List UInt8) (l : List Lab) : Prop := rightB l = true ∧ textB l = S
def NoSet (T : List UInt8) : Prop := ∀ l, rightB l = true → bodyT l ≠ T
theorem noSet_par {T S : List UInt8} (h : NoSet T) (hS : S = 123 :: (T ++ [125])) (l : List Lab) : ¬ ParP S l := fun ⟨h1, h2⟩ => by
  rw [textB_body, hS] at h2
  simp only [List.cons.injEq, true_and] at h2
  exact h l h1 (List.append_cancel_right h2)
theorem par_of {T S : List UInt8} (hS : S = 123 :: (T ++ [125])) {l : List Lab} (h : rightB l = true) (hb : bodyT l = T) : ParP S l := ⟨h, by rw [textB_body, hS, hb]⟩
theorem text_ends (l : List Lab) : ∃ T, textB l = 123 :: (T ++ [125]) := ⟨_, textB_body l⟩
def sepT (out : List Lab) : List UInt8 := if out = [] then [] else [44]

/-- The labels out are read, up to place q. -/
structure St (T : List UInt8) (out : List Lab) (q : Nat) : Prop where
  le : q ≤ T.length
  sound : T.take q = bodyT out
  comp : ∀ l, rightB l = true → bodyT l = T → ∃ r, l = out ++ r
/-- The same, behind the comma: one label more must come. -/
structure St2 (T : List UInt8) (out : List Lab) (q : Nat) : Prop where
  le : q ≤ T.length
  sound : T.take q = bodyT out ++ sepT out
  comp : ∀ l, rightB l = true → bodyT l = T → ∃ x r, l = out ++ x :: r ∧ T.drop q = labT x ++ tailT r
theorem St.start (T : List UInt8) : St T [] 0 := ⟨Nat.zero_le _, rfl, fun l _ _ => ⟨l, rfl⟩⟩
theorem St.rest {T : List UInt8} {out : List Lab} {q : Nat} (h : St T out q) {r : List Lab} (hb : bodyT (out ++ r) = T) : T.drop q = restT out r := by
  rw [body_rest] at hb
  have h1 : T.take q ++ T.drop q = bodyT out ++ restT out r := by rw [List.take_append_drop, hb]
  rw [h.sound] at h1
  exact List.append_cancel_left h1
theorem St.more0 {T : List UInt8} {q : Nat} (h : St T [] q) (hq : q < T.length) : St2 T [] q where
  le := h.le
  sound := by rw [h.sound]; rfl
  comp l hl hb := by
    have h1 := h.rest (r := l) hb
    cases l with
    | nil =>
      have := congrArg List.length h1
      simp [restT, bodyT] at this
      omega
    | cons x r => exact ⟨x, r, rfl, h1⟩
theorem St.comma {T : List UInt8} {out : List Lab} {q : Nat} (h : St T out q) (ho : out ≠ []) {X : List UInt8} (hq : T.drop q = 44 :: X) : St2 T out (q + 1) where
  le := by
    have := congrArg List.length hq
    simp at this
    have := h.le
    omega
  sound := by
    have hlt : q < T.length := by
      have := congrArg List.length hq
      simp at this
      omega
    rw [List.take_succ_eq_append_getElem hlt, h.sound]
    unfold sepT
    rw [if_neg ho]
    rw [List.drop_eq_getElem_cons hlt] at hq
    injection hq with h1 h2
    rw [h1]
  comp l hl hb := by
    obtain ⟨r, rfl⟩ := h.comp l hl hb
    have h1 := h.rest hb
    rw [hq] at h1
    cases r with
    | nil => simp [restT, ho, tailT] at h1
    | cons x r =>
      rw [rest_cons, if_neg ho] at h1
      refine ⟨x, r, rfl, ?_⟩
      have h2 : T.drop (q + 1) = X := by
        have := congrArg (List.drop 1) hq
        simpa [List.drop_drop] using this
      rw [h2]
      simpa using h1
theorem St.nocomma {T : List UInt8} {out : List Lab} {q : Nat} (h : St T out q) (ho : out ≠ []) {c : UInt8} {X : List UInt8} (hq : T.drop q = c :: X) (hc : c ≠ 44) : NoSet T := fun l hl hb => by
  obtain ⟨r, rfl⟩ := h.comp l hl hb
  have h1 := h.rest hb
  rw [hq] at h1
  cases r with
  | nil => simp [restT, ho, tailT] at h1
  | cons x r =>
    rw [rest_cons, if_neg ho] at h1
    simp only [List.cons_append, List.cons.injEq] at h1
    exact hc h1.1
theorem St2.many {T : List UInt8} {out : List Lab} {q : Nat} (h : St2 T out q) (ho : 4 < out.length) : NoSet T := fun l hl hb => by
  obtain ⟨x, r, rfl, _⟩ := h.comp l hl hb
  have h1 : rightP (out ++ x :: r) := of_decide_eq_true hl
  have := h1.1
  simp at this
  omega
theorem labT_split (x : Lab) : labT x = x.1.data.toList ++ 61 :: 34 :: (valT x.2.data.toList ++ [34]) := by simp [labT]
theorem St2.noeq {T : List UInt8} {out : List Lab} {q : Nat} (h : St2 T out q) (hn : ∀ a r, T.drop q ≠ a ++ 61 :: 34 :: r) : NoSet T := fun l hl hb => by
  obtain ⟨x, r, rfl, h1⟩ := h.comp l hl hb
  rw [labT_split, List.append_assoc] at h1
  exact hn _ _ h1
/-- Behind the name and its '="'. -/
theorem St2.name {T : List UInt8} {out : List Lab} {q : Nat} (h : St2 T out q) {i : Nat} {X : List UInt8} (hi : T.drop q = (T.drop q).take i ++ 61 :: 34 :: X) (hno : ∀ a r, T.drop q = a ++ 61 :: 34 :: r → i ≤ a.length) (l : List Lab) (hl : rightB l = true) (hb : bodyT l = T) :
    ∃ x r, l = out ++ x :: r ∧ x.1.data.toList = (T.drop q).take i ∧ X = valT x.2.data.toList ++ 34 :: tailT r := by
  obtain ⟨x, r, rfl, h1⟩ := h.comp l hl hb
  have hnm : nameB x.1 = true := right_name hl x (by simp)
  rw [labT_split, List.append_assoc] at h1
  have hle := hno _ _ h1
  have h2 := h1
  rw [hi] at h2
  have hlen : ((T.drop q).take i).length ≤ i := List.length_take_le _ _
  have hno61 : ∀ c ∈ (T.drop q).take i, c ≠ 61 := fun c hc => by
    have hp : (T.drop q).take i <+: x.1.data.toList := by
      refine List.prefix_of_prefix_length_le (List.take_prefix _ _) (l₃ := T.drop q) ?_ (by omega)
      rw [h1]
      exact List.prefix_append _ _
    exact (name_no61 hnm c (hp.subset hc)).1
  have h3 : (T.drop q).take i ++ 61 :: (34 :: X) = x.1.data.toList ++ 61 :: (34 :: (valT x.2.data.toList ++ [34] ++ tailT r)) := by
    rw [h2]; simp
  obtain ⟨e1, e2⟩ := name_pre hno61 (fun c hc => (name_no61 hnm c hc).1) h3
  simp only [List.cons.injEq, true_and] at e2
  exact ⟨x, r, rfl, e1.symm, by rw [e2]; simp⟩
theorem St2.noval {T : List UInt8} {out : List Lab} {q : Nat} (h : St2 T out q) {i : Nat} {X : List UInt8} (hi : T.drop q = (T.drop q).take i ++ 61 :: 34 :: X) (hno : ∀ a r, T.drop q = a ++ 61 :: 34 :: r → i ≤ a.length) (hv : ∀ v r, X ≠ valT v ++ 34 :: r) : NoSet T := fun l hl hb => by
  obtain ⟨x, r, _, _, h2⟩ := h.name hi hno l hl hb
  exact hv _ _ h2
theorem St2.label {T : List UInt8} {out : List Lab} {q : Nat} (h : St2 T out q) {i : Nat} (hi : T.drop q = (T.drop q).take i ++ 61 :: 34 :: T.drop (q + i + 2)) (hno : ∀ a r, T.drop q = a ++ 61 :: 34 :: r → i ≤ a.length) (hil : ((T.drop q).take i).length = i)
    {n v : ByteArray} (hn : n.data.toList = (T.drop q).take i) (hv : T.drop (q + i + 2) = valT v.data.toList ++ 34 :: T.drop (q + i + 2 + (valT v.data.toList).length + 1)) : St T (out ++ [(n, v)]) (q + i + 2 + (valT v.data.toList).length + 1) where
  le := by
    have h1 := congrArg List.length hv
    have h2 := congrArg List.length hi
    simp at h1 h2
    have := h.le
    omega
  sound := by
    have e : T = bodyT (out ++ [(n, v)]) ++ T.drop (q + i + 2 + (valT v.data.toList).length + 1) := by
      conv => lhs; rw [← List.take_append_drop q T, h.sound, hi, hv]
      rw [body_snoc, labT_split]
      simp only [hn, sepT, List.append_assoc, List.cons_append, List.nil_append]
    have hl : (bodyT (out ++ [(n, v)])).length = q + i + 2 + (valT v.data.toList).length + 1 := by
      have h0 := congrArg List.length h.sound
      have h1 := congrArg List.length hv
      have h2 := congrArg List.length hi
      have h3 := congrArg List.length e
      have h5 := h.le
      rw [List.length_append, List.length_cons, List.length_cons, hil] at h2
      rw [List.length_append, List.length_cons] at h1
      rw [List.length_append] at h3
      simp only [List.length_drop] at h1 h2 h3
      omega
    conv => lhs; rw [e]
    rw [← hl]
    simp
  comp l hl hb := by
    obtain ⟨x, r, rfl, h1, h2⟩ := h.name hi hno l hl hb
    rw [hv] at h2
    obtain ⟨e1, _⟩ := valT_pre h2
    refine ⟨r, ?_⟩
    have : x = (n, v) := Prod.ext (bytes_ext (by rw [h1, hn])) (bytes_ext e1.symm)
    rw [this]
    simp
theorem St.fin {T : List UInt8} {out : List Lab} (h : St T out T.length) : bodyT out = T := by rw [← h.sound, List.take_length]
theorem St.finno {T : List UInt8} {out : List Lab} (h : St T out T.length) (hr : rightB out = false) : NoSet T := fun l hl hb => by
  obtain ⟨r, rfl⟩ := h.comp l hl hb
  have h1 := h.rest hb
  rw [List.drop_length] at h1
  have := restT_nil h1.symm
  subst this
  rw [List.append_nil, hr] at hl
  cases hl

/-- Where '="' stands first. -/
theorem index_eq (X : List UInt8) : (Lib.index X [61, 34] = -1 ∧ ∀ a r, X ≠ a ++ 61 :: 34 :: r) ∨ (∃ i : Nat, Lib.index X [61, 34] = (i : Int) ∧ i + 2 ≤ X.length ∧ X = X.take i ++ 61 :: 34 :: X.drop (i + 2) ∧ ∀ a r, X = a ++ 61 :: 34 :: r → i ≤ a.length) := by
  have hocc : ∀ a r, X = a ++ 61 :: 34 :: r → a.length ≤ X.length ∧ Lib.occAt X [61, 34] a.length = true := fun a r e => by
    subst e
    refine ⟨by simp, ?_⟩
    unfold Lib.occAt
    simp
  rcases Lib.index_spec X [61, 34] with ⟨h1, h2⟩ | ⟨i, h1, h2, h3, h4⟩
  · exact .inl ⟨h1, fun a r e => by
      obtain ⟨k1, k2⟩ := hocc a r e
      rw [h2 _ k1] at k2
      cases k2⟩
  · unfold Lib.occAt at h3
    have hp : [61, 34] <+: X.drop i := by
      simpa using h3
    obtain ⟨t, ht⟩ := hp
    have hd : X.drop (i + 2) = t := by
      have := congrArg (List.drop 2) ht
      rw [List.drop_drop] at this
      simpa using this.symm
    refine .inr ⟨i, h1, ?_, ?_, fun a r e => ?_⟩
    · have := congrArg List.length ht
      simp at this
      omega
    · rw [hd]
      conv => lhs; rw [← List.take_append_drop i X, ← ht]
      simp
    · rcases Nat.lt_or_ge a.length i with h5 | h5
      · have := (hocc a r e).2
        rw [h4 _ h5] at this
        cases this
      · exact h5
end Go.Proofs.Ytjbmlhipjceeeaa.Lb
