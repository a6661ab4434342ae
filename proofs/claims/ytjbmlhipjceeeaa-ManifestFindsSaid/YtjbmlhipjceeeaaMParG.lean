/- Parse of the reference: plain laws (chapter 8). -/
import Derived.Test.YtjbmlhipjceeeaaProg
import Derived.Test.YtjbmlhipjceeeaaMParF
namespace Go.Proofs.Ytjbmlhipjceeeaa.Lb
open Go.RowKit

theorem drop_S {S T : List UInt8} (hS : S = 123 :: (T ++ [125])) {q : Nat} (hq : q ≤ T.length) : S.drop (1 + q) = T.drop q ++ [125] := by
  rw [hS, Nat.add_comm, List.drop_succ_cons, List.drop_append_of_le_length hq]
theorem letters_pre : ∀ {a b X Y : List UInt8} {c d : UInt8}, (∀ x ∈ a, letterB x = true) → (∀ x ∈ b, letterB x = true) → letterB c = false → letterB d = false → a ++ c :: X = b ++ d :: Y → a = b ∧ c :: X = d :: Y
  | [], [], _, _, _, _, _, _, _, _, h => ⟨rfl, h⟩
  | [], y :: b, _, _, c, _, _, hb, hc, _, h => by
    simp only [List.nil_append, List.cons_append, List.cons.injEq] at h
    have := hb y (by simp)
    rw [← h.1, hc] at this
    cases this
  | x :: a, [], _, _, _, d, ha, _, _, hd, h => by
    simp only [List.nil_append, List.cons_append, List.cons.injEq] at h
    have := ha x (by simp)
    rw [h.1, hd] at this
    cases this
  | x :: a, y :: b, X, Y, c, d, ha, hb, hc, hd, h => by
    simp only [List.cons_append, List.cons.injEq] at h
    obtain ⟨rfl, h2⟩ := h
    obtain ⟨rfl, h3⟩ := letters_pre (fun z hz => ha z (by simp [hz])) (fun z hz => hb z (by simp [hz])) hc hd h2
    exact ⟨rfl, h3⟩
theorem not_letter61 : letterB 61 = false := by decide
section
variable {T : List UInt8} {out : List Lab} {q j : Nat} {c : UInt8} {X : List UInt8}
theorem St2.scan (h : St2 T out q) (hall : ∀ x ∈ (T.drop q ++ [125]).take j, letterB x = true) (hj : (T.drop q ++ [125]).drop j = c :: X) (hc : letterB c = false) (l : List Lab) (hl : rightB l = true) (hb : bodyT l = T) :
    ∃ x r, l = out ++ x :: r ∧ x.1.data.toList = (T.drop q ++ [125]).take j ∧ c :: X = 61 :: 34 :: (valT x.2.data.toList ++ 34 :: (tailT r ++ [125])) := by
  obtain ⟨x, r, rfl, h1⟩ := h.comp l hl hb
  have hnm : nameB x.1 = true := right_name hl x (by simp)
  have e : (T.drop q ++ [125]).take j ++ c :: X = x.1.data.toList ++ 61 :: (34 :: (valT x.2.data.toList ++ 34 :: (tailT r ++ [125]))) := by
    rw [← hj, List.take_append_drop, h1, labT_split]
    simp
  obtain ⟨e1, e2⟩ := letters_pre hall (fun z hz => (name_no61 hnm z hz).2) hc not_letter61 e
  exact ⟨x, r, rfl, e1.symm, e2⟩
theorem St2.scan_short (h : St2 T out q) (hall : ∀ x ∈ (T.drop q ++ [125]).take j, letterB x = true) (hj : (T.drop q ++ [125]).drop j = c :: X) (hc : letterB c = false) (hs : X.length < 2) : NoSet T := fun l hl hb => by
  obtain ⟨x, r, _, _, e⟩ := h.scan hall hj hc l hl hb
  simp only [List.cons.injEq] at e
  rw [e.2] at hs
  simp at hs
  omega
theorem St2.scan_61 (h : St2 T out q) (hall : ∀ x ∈ (T.drop q ++ [125]).take j, letterB x = true) (hj : (T.drop q ++ [125]).drop j = c :: X) (hc : letterB c = false) (h61 : c ≠ 61) : NoSet T := fun l hl hb => by
  obtain ⟨x, r, _, _, e⟩ := h.scan hall hj hc l hl hb
  simp only [List.cons.injEq] at e
  exact h61 e.1
theorem St2.scan_34 (h : St2 T out q) (hall : ∀ x ∈ (T.drop q ++ [125]).take j, letterB x = true) {d : UInt8} (hj : (T.drop q ++ [125]).drop j = 61 :: d :: X) (h34 : d ≠ 34) : NoSet T := fun l hl hb => by
  obtain ⟨x, r, _, _, e⟩ := h.scan hall hj not_letter61 l hl hb
  simp only [List.cons.injEq, true_and] at e
  exact h34 e.1
theorem St2.scan_val (h : St2 T out q) (hall : ∀ x ∈ (T.drop q ++ [125]).take j, letterB x = true) (hj : (T.drop q ++ [125]).drop j = 61 :: 34 :: X) (hv : ∀ v r, X ≠ valT v ++ 34 :: r) : NoSet T := fun l hl hb => by
  obtain ⟨x, r, _, _, e⟩ := h.scan hall hj not_letter61 l hl hb
  simp only [List.cons.injEq, true_and] at e
  exact hv _ _ e
theorem St2.scan_label (h : St2 T out q) (hall : ∀ x ∈ (T.drop q ++ [125]).take j, letterB x = true) (hj : (T.drop q ++ [125]).drop j = 61 :: 34 :: (T.drop (q + j + 2) ++ [125])) (hjl : q + j + 2 ≤ T.length)
    {n v : ByteArray} (hn : n.data.toList = (T.drop q ++ [125]).take j) {q2 : Nat} (hq2 : q2 = q + j + 2 + (valT v.data.toList).length + 1) (hle : q2 ≤ T.length) (hv : T.drop (q + j + 2) ++ [125] = valT v.data.toList ++ 34 :: (T.drop q2 ++ [125])) : St T (out ++ [(n, v)]) q2 := by
  have hlen : j ≤ (T.drop q).length := by rw [List.length_drop]; omega
  rw [List.take_append_of_le_length hlen] at hall hn
  rw [List.drop_append_of_le_length hlen] at hj
  have hj' : (T.drop q).drop j = 61 :: 34 :: T.drop (q + j + 2) := by
    have : (T.drop q).drop j ++ [125] = (61 :: 34 :: T.drop (q + j + 2)) ++ [125] := by rw [hj]; rfl
    exact List.append_cancel_right this
  have hv' : T.drop (q + j + 2) = valT v.data.toList ++ 34 :: T.drop q2 := by
    have : T.drop (q + j + 2) ++ [125] = (valT v.data.toList ++ 34 :: T.drop q2) ++ [125] := by rw [hv]; simp
    exact List.append_cancel_right this
  rw [hq2] at hv' ⊢
  refine h.label (i := j) ?_ (fun a r e => ?_) (by rw [List.length_take]; omega) hn hv'
  · conv => lhs; rw [← List.take_append_drop j (T.drop q), hj']
  · rcases Nat.lt_or_ge a.length j with h1 | h1
    · exfalso
      have hm : (61 : UInt8) ∈ (T.drop q).take j := by
        rw [List.mem_take_iff_getElem]
        refine ⟨a.length, by rw [e]; simp; omega, ?_⟩
        simp only [e]
        simp
      have := hall _ hm
      rw [not_letter61] at this
      cases this
    · exact h1
theorem St.brk (h : St T out q) (ho : out ≠ []) (hq : T.drop q ++ [125] = c :: X) (hc : c ≠ 44) (hne : q ≠ T.length) : NoSet T := by
  have hlt : q < T.length := by have := h.le; omega
  rw [List.drop_eq_getElem_cons hlt] at hq
  simp only [List.cons_append, List.cons.injEq] at hq
  exact h.nocomma ho (List.drop_eq_getElem_cons hlt) (by rw [hq.1]; exact hc)
end
theorem own_apart {w w' : World} {g base : Nat} {e : TypeId} {size n : Nat} {v : Value} {xs : List Value} (h : w.ownsRow base e size v n xs) (ho : Only g w w') (hg : v.ownBlock ≠ some g) : w'.ownsRow base e size v n xs :=
  h.kept ho (by
    rcases hv : v.ownBlock with _ | k
    · exact .inl rfl
    · right
      intro e'
      rw [hv, e'] at hg
      exact hg rfl)
theorem own_new {w : World} {base : Nat} {e : TypeId} {size n : Nat} {v : Value} {xs : List Value} (h : w.ownsRow base e size v n xs) : v.ownBlock ≠ some w.heap.size := fun hv => by
  have := (h.lt _ hv).2
  omega
theorem ext_next {s : ByteArray} {a b : Nat} (hab : a ≤ b) (hb : b < s.size) : s.extract a b ++ s.extract b (b + 1) = s.extract a (b + 1) := by
  rw [ByteArray.extract_append_extract, Nat.min_eq_left hab, Nat.max_eq_right (by omega)]
end Go.Proofs.Ytjbmlhipjceeeaa.Lb
