/- Putting together again and again (plain law). -/
import Derived.Test.YtophfgijfmdbcaaProg
import Derived.Test.YtophfgijfmdbcaaMeL
namespace Go.Proofs.Ytophfgijfmdbcaa
open Go.RowKit Go.Proofs.Ytophfgijfmdbcaa.So

def isIn (ks : List ByteArray) (x : Ent) : Bool := ks.any fun k => decide (k = x.key)
theorem isIn_iff {ks : List ByteArray} {x : Ent} : isIn ks x = true ↔ x.key ∈ ks := by
  unfold isIn
  rw [List.any_eq_true]
  constructor
  · rintro ⟨k, hk, he⟩; rw [← of_decide_eq_true he]; exact hk
  · exact fun h => ⟨_, h, dct rfl⟩
def sumR (l : List Ent) : Int := (l.map Ent.rows).sum
theorem sumR_cons (x : Ent) (l : List Ent) : sumR (x :: l) = x.rows + sumR l := by simp [sumR]
theorem sumR_app (a b : List Ent) : sumR (a ++ b) = sumR a + sumR b := by simp [sumR]
def zeroE : Ent := ⟨⟨#[]⟩, 0, ⟨#[]⟩, 0, 0, 0, 0, 0, 0⟩
/-- What several entries become. -/
def oneOf : List Ent → Ent
  | [] => zeroE
  | x :: r => { x with rows := x.rows + sumR r }
theorem oneOf_snoc (l : List Ent) (x : Ent) (h : l ≠ []) : oneOf (l ++ [x]) = { oneOf l with rows := (oneOf l).rows + x.rows } := by
  cases l with
  | nil => exact absurd rfl h
  | cons y r =>
    show ({ y with rows := y.rows + sumR (r ++ [x]) } : Ent) = { y with rows := y.rows + sumR r + x.rows }
    rw [sumR_app]
    have : sumR [x] = x.rows := by simp [sumR]
    rw [this, Int.add_assoc]
theorem sumR_nonneg : ∀ (l : List Ent), (∀ x ∈ l, 1 ≤ x.rows) → 0 ≤ sumR l
  | [], _ => by simp [sumR]
  | x :: r, h => by
    rw [sumR_cons]
    have h1 := h x (by simp)
    have h2 := sumR_nonneg r fun y hy => h y (by simp [hy])
    omega
theorem oneOf_rows {l : List Ent} (h : ∀ x ∈ l, 1 ≤ x.rows) : (oneOf l).rows = 0 ↔ l = [] := by
  cases l with
  | nil => simp [oneOf, zeroE]
  | cons x r =>
    have h1 := h x (by simp)
    have h2 := sumR_nonneg r fun y hy => h y (by simp [hy])
    have : (oneOf (x :: r)).rows = x.rows + sumR r := rfl
    rw [this]
    simp
    omega
theorem oneOf_sum : ∀ (l : List Ent), (oneOf l).rows = sumR l
  | [] => rfl
  | x :: r => by rw [sumR_cons]; rfl

/-- What Choose takes: some entries of one window and part, two at least, of at most 'most' rows. -/
structure Taken (small most : Int) (s : List Ent) (ks : List ByteArray) (T : List Ent) : Prop where
  sub : T.Sublist s
  keys : ks = T.map Ent.key
  two : 2 ≤ T.length
  same : ∀ x ∈ T, ∀ y ∈ T, x.window = y.window ∧ x.part = y.part
  sum : sumR T ≤ most
theorem fold_taken (a : Ent) : ∀ (r : List Ent) (q : Int) (ks : List ByteArray), ∃ T : List Ent, T.Sublist r ∧ (r.foldl (stp a) (q, ks)).2 = ks ++ T.map Ent.key ∧ (r.foldl (stp a) (q, ks)).1 = q - sumR T ∧ ∀ x ∈ T, a.window = x.window ∧ a.part = x.part
  | [], q, ks => ⟨[], List.Sublist.refl _, by simp, by simp [sumR], by simp⟩
  | x :: r, q, ks => by
    rw [List.foldl_cons]
    by_cases h : a.window = x.window ∧ a.part = x.part ∧ x.rows ≤ q
    · rw [show stp a (q, ks) x = (q - x.rows, ks ++ [x.key]) from if_pos h]
      obtain ⟨T, h1, h2, h3, h4⟩ := fold_taken a r (q - x.rows) (ks ++ [x.key])
      refine ⟨x :: T, h1.cons_cons x, by rw [h2]; simp, by rw [h3, sumR_cons]; omega, fun y hy => ?_⟩
      rcases List.mem_cons.1 hy with rfl | hy
      · exact ⟨h.1, h.2.1⟩
      · exact h4 y hy
    · rw [show stp a (q, ks) x = (q, ks) from if_neg h]
      obtain ⟨T, h1, h2, h3, h4⟩ := fold_taken a r q ks
      exact ⟨T, h1.cons x, h2, h3, h4⟩
theorem pick_taken (small most : Int) : ∀ (s : List Ent), pickE most s ≠ [] → ∃ T, Taken small most s (pickE most s) T
  | [], h => absurd rfl h
  | a :: r, h => by
    unfold pickE at h ⊢
    split
    · rename_i hc
      obtain ⟨T, h1, h2, h3, h4⟩ := fold_taken a r (most - a.rows) [a.key]
      refine ⟨a :: T, h1.cons_cons a, by unfold took; rw [h2]; simp, ?_, ?_, ?_⟩
      · have := hc.1
        unfold took at this
        rw [h2] at this
        simp at this ⊢
        omega
      · intro x hx y hy
        have hh : ∀ z ∈ a :: T, a.window = z.window ∧ a.part = z.part := fun z hz => by
          rcases List.mem_cons.1 hz with rfl | hz
          · exact ⟨rfl, rfl⟩
          · exact h4 z hz
        exact ⟨(hh x hx).1.symm.trans (hh y hy).1, (hh x hx).2.symm.trans (hh y hy).2⟩
      · have := hc.2
        unfold took at this
        rw [h3] at this
        rw [sumR_cons]
        omega
    · rename_i hc
      rw [if_neg hc] at h
      obtain ⟨T, h1, h2, h3, h4, h5⟩ := pick_taken small most r h
      exact ⟨T, h1.cons a, h2, h3, h4, h5⟩

theorem keys_nodup {l : List Ent} (h : l.Pairwise fun x y => x.key ≠ y.key) : (l.map Ent.key).Nodup := by
  rw [List.Nodup, List.pairwise_map]
  exact h
/-- Of a list with unlike keys, those with the keys of some of its entries are these. -/
theorem filter_perm {l T : List Ent} (hl : l.Pairwise fun x y => x.key ≠ y.key) (hT : T.Pairwise fun x y => x.key ≠ y.key) (hs : ∀ x ∈ T, x ∈ l) : (l.filter (isIn (T.map Ent.key))).Perm T := by
  have n1 : (l.filter (isIn (T.map Ent.key))).Nodup := (List.Pairwise.imp (fun h e => h (by rw [e])) hl).filter _
  have n2 : T.Nodup := List.Pairwise.imp (fun h e => h (by rw [e])) hT
  refine (List.perm_ext_iff_of_nodup n1 n2).2 fun x => ?_
  rw [List.mem_filter, isIn_iff, List.mem_map]
  constructor
  · rintro ⟨hx, y, hy, he⟩
    have hyl := hs y hy
    have : x = y := by
      rw [List.pairwise_iff_getElem] at hl
      obtain ⟨i, hi, rfl⟩ := List.getElem_of_mem hx
      obtain ⟨j, hj, rfl⟩ := List.getElem_of_mem hyl
      rcases Nat.lt_trichotomy i j with h | h | h
      · exact absurd he.symm (hl i j hi hj h)
      · subst h; rfl
      · exact absurd he (hl j i hj hi h)
    rw [this]; exact hy
  · exact fun hx => ⟨hs x hx, x, hx, rfl⟩
theorem perm_sum {a b : List Ent} (h : a.Perm b) : sumR a = sumR b := by
  induction h with
  | nil => rfl
  | cons x _ ih => rw [sumR_cons, sumR_cons, ih]
  | swap x y l => simp only [sumR_cons]; omega
  | trans _ _ ih1 ih2 => exact ih1.trans ih2

/-- What is known of the entries at each time. -/
structure GoodL (l : List Ent) : Prop where
  rows : ∀ x ∈ l, 1 ≤ x.rows ∧ x.rows ≤ 1099511627776
  keys : l.Pairwise fun x y => x.key ≠ y.key
theorem PlainE.good {l : List Ent} (h : PlainE l) : GoodL l := ⟨fun x hx => by have := h.rows x hx; omega, h.keys⟩
theorem pairwise_sub {l T : List Ent} (h : T.Sublist l) (hp : l.Pairwise fun x y => x.key ≠ y.key) : T.Pairwise fun x y => x.key ≠ y.key := hp.sublist h
theorem pairwise_perm {l m : List Ent} (h : l.Perm m) (hp : l.Pairwise fun x y => x.key ≠ y.key) : m.Pairwise fun x y => x.key ≠ y.key := h.pairwise hp fun hab e => hab e.symm

structure Next (small most : Int) (l : List Ent) (ks : List ByteArray) : Prop where
  same : ∀ x ∈ l, ∀ y ∈ l, isIn ks x = true → isIn ks y = true → x.window = y.window ∧ x.part = y.part
  two : 2 ≤ (l.filter (isIn ks)).length
  sum : sumR (l.filter (isIn ks)) ≤ most
theorem choose_next {small most : Int} {l : List Ent} (hg : GoodL l) (h : chooseE small most l ≠ []) : Next small most l (chooseE small most l) := by
  obtain ⟨T, h1, h2, h3, h4, h5⟩ := pick_taken small most _ h
  have hsub : ∀ x ∈ T, x ∈ l := fun x hx => (List.mem_filter.1 (isort_mem.1 (h1.subset hx))).1
  have hp1 : (isort (ltc cfE) (smalls small l)).Pairwise fun x y => x.key ≠ y.key := pairwise_perm (isort_perm _).symm (hg.keys.filter _)
  have hT := pairwise_sub h1 hp1
  have hperm := filter_perm hg.keys hT hsub
  have e : chooseE small most l = T.map Ent.key := h2
  rw [e]
  refine ⟨fun x hx y hy ix iy => ?_, ?_, ?_⟩
  · exact h4 x (hperm.mem_iff.1 (List.mem_filter.2 ⟨hx, ix⟩)) y (hperm.mem_iff.1 (List.mem_filter.2 ⟨hy, iy⟩))
  · rw [hperm.length_eq]; exact h3
  · rw [perm_sum hperm]; exact h5
theorem filter_len (l : List Ent) (p : Ent → Bool) : (l.filter p).length + (l.filter fun x => !p x).length = l.length := by
  induction l with
  | nil => rfl
  | cons x r ih =>
    cases h : p x <;> simp [h] <;> omega
theorem oneOf_key {l : List Ent} (h : l ≠ []) : ∃ x ∈ l, (oneOf l).key = x.key := by
  cases l with
  | nil => exact absurd rfl h
  | cons x r => exact ⟨x, by simp, rfl⟩
theorem next_good {small most : Int} {l : List Ent} {ks : List ByteArray} (hg : GoodL l) (hm : most ≤ 1099511627776) (h : Next small most l ks) : GoodL ((l.filter fun x => !isIn ks x) ++ [oneOf (l.filter (isIn ks))]) := by
  have hne : l.filter (isIn ks) ≠ [] := fun e => by have := h.two; rw [e] at this; simp at this
  refine ⟨fun x hx => ?_, ?_⟩
  · rcases List.mem_append.1 hx with hx | hx
    · exact hg.rows x (List.mem_filter.1 hx).1
    · obtain rfl : x = oneOf (l.filter (isIn ks)) := by simpa using hx
      have h1 : ∀ y ∈ l.filter (isIn ks), 1 ≤ y.rows := fun y hy => (hg.rows y (List.mem_filter.1 hy).1).1
      have h2 := oneOf_sum (l.filter (isIn ks))
      have h3 := sumR_nonneg _ h1
      have h4 := h.sum
      have h5 := oneOf_rows h1
      constructor
      · rcases Int.lt_or_eq_of_le h3 with h6 | h6
        · omega
        · exact absurd (h5.1 (by omega)) hne
      · omega
  · rw [List.pairwise_append]
    refine ⟨hg.keys.filter _, List.pairwise_singleton _ _, fun x hx y hy => ?_⟩
    obtain rfl : y = oneOf (l.filter (isIn ks)) := by simpa using hy
    obtain ⟨z, hz, e⟩ := oneOf_key hne
    rw [e]
    intro he
    have h1 := (List.mem_filter.1 hx).2
    have h2 := (List.mem_filter.1 hz).2
    have h3 : isIn ks x = isIn ks z := by unfold isIn; rw [he]
    rw [h3, h2] at h1
    cases h1
theorem rest_len {small most : Int} {l : List Ent} {ks : List ByteArray} (h : Next small most l ks) : (l.filter fun x => !isIn ks x).length + 2 ≤ l.length := by
  have := filter_len l (isIn ks)
  have := h.two
  omega

theorem in_snoc {ks : List ByteArray} {L : List Ent} {j : Nat} (hj : j < L.length) (h : isIn ks (gt L j) = true) : (L.take (j + 1)).filter (isIn ks) = (L.take j).filter (isIn ks) ++ [gt L j] ∧ (L.take (j + 1)).filter (fun x => !isIn ks x) = (L.take j).filter (fun x => !isIn ks x) := by
  rw [take_snoc hj, List.filter_append, List.filter_append]
  simp [h]
theorem out_snoc {ks : List ByteArray} {L : List Ent} {j : Nat} (hj : j < L.length) (h : isIn ks (gt L j) = false) : (L.take (j + 1)).filter (isIn ks) = (L.take j).filter (isIn ks) ∧ (L.take (j + 1)).filter (fun x => !isIn ks x) = (L.take j).filter (fun x => !isIn ks x) ++ [gt L j] := by
  rw [take_snoc hj, List.filter_append, List.filter_append]
  simp [h]
theorem isIn_snoc {ks : List ByteArray} {q : Nat} (hq : q < ks.length) (x : Ent) : isIn (ks.take (q + 1)) x = (isIn (ks.take q) x || decide (strAt ks q = x.key)) := by
  unfold isIn
  rw [List.take_add_one, List.getElem?_eq_getElem hq, List.any_append]
  simp [strAt, List.getD, List.getElem?_eq_getElem hq]
theorem pre_sum {L : List Ent} (h : ∀ x ∈ L, 1 ≤ x.rows) (p : Ent → Bool) (j : Nat) : 0 ≤ sumR ((L.take j).filter p) ∧ sumR ((L.take j).filter p) ≤ sumR (L.filter p) := by
  have e : L.filter p = (L.take j).filter p ++ (L.drop j).filter p := by rw [← List.filter_append, List.take_append_drop]
  rw [e, sumR_app]
  have h1 := sumR_nonneg ((L.take j).filter p) fun x hx => h x (List.mem_of_mem_take (List.mem_filter.1 hx).1)
  have h2 := sumR_nonneg ((L.drop j).filter p) fun x hx => h x (List.mem_of_mem_drop (List.mem_filter.1 hx).1)
  omega
theorem oneOf_wp {F : List Ent} (h : F ≠ []) : ∃ y ∈ F, (oneOf F).window = y.window ∧ (oneOf F).part = y.part := by
  cases F with
  | nil => exact absurd rfl h
  | cons x r => exact ⟨x, by simp, rfl, rfl⟩
theorem Next.wp {small most : Int} {L : List Ent} {ks : List ByteArray} (h : Next small most L ks) {j : Nat} (hj : j < L.length) (hin : isIn ks (gt L j) = true) (hne : (L.take j).filter (isIn ks) ≠ []) : (oneOf ((L.take j).filter (isIn ks))).window = (gt L j).window ∧ (oneOf ((L.take j).filter (isIn ks))).part = (gt L j).part := by
  obtain ⟨y, hy, e1, e2⟩ := oneOf_wp hne
  rw [e1, e2]
  rw [List.mem_filter] at hy
  exact h.same y (List.mem_of_mem_take hy.1) _ (by rw [← gt_eq hj]; exact List.getElem_mem _) hy.2 hin

theorem togB_symm {small most : Int} {x y : Ent} (hx : 1 ≤ x.rows) (hy : 1 ≤ y.rows) : togB small most x y = togB small most y x := by
  unfold togB
  rw [Bool.eq_iff_iff, decide_eq_true_iff, decide_eq_true_iff]
  unfold togP
  constructor <;> rintro ⟨h1, h2, h3, h4, h5, h6⟩ <;> exact ⟨h1.symm, h2.symm, h4, h3, by omega, by omega⟩
theorem refRow_none {small most : Int} {a : Ent} : ∀ {r : List Ent}, refRow small most a r = none → ∀ b ∈ r, togB small most a b = false
  | [], _, b, hb => by cases hb
  | x :: r, h, b, hb => by
    unfold refRow at h
    split at h
    · cases h
    · rename_i hn
      rcases List.mem_cons.1 hb with rfl | hb
      · simpa using hn
      · exact refRow_none h b hb
theorem refRow_ne {small most : Int} {a : Ent} : ∀ {r : List Ent} {k : List ByteArray}, refRow small most a r = some k → k ≠ []
  | [], k, h => by cases h
  | x :: r, k, h => by
    unfold refRow at h
    split at h
    · rename_i ht
      injection h with h
      intro e
      have h6 := (of_decide_eq_true ht).2.2.2.2.2
      have := (rfold_le small most a r (a.rows + x.rows) [a.key, x.key] (by omega)).2
      rw [h, e] at this
      simp at this
    · exact refRow_ne h
theorem refPick_nil {small most : Int} : ∀ {s : List Ent}, refPick small most s = [] → s.Pairwise fun x y => togB small most x y = false
  | [], _ => List.Pairwise.nil
  | a :: r, h => by
    unfold refPick at h
    cases hr : refRow small most a r with
    | none =>
      rw [hr] at h
      exact List.pairwise_cons.2 ⟨refRow_none hr, refPick_nil h⟩
    | some k =>
      rw [hr] at h
      exact absurd h (refRow_ne hr)
theorem choose_end {small most : Int} {l : List Ent} (hg : GoodL l) (h : chooseE small most l = []) : l.Pairwise fun x y => togB small most x y = false ∧ togB small most y x = false := by
  rw [← choose_ref small most l fun x hx => (hg.rows x hx).1] at h
  have h1 := refPick_nil h
  have h2 : (isort (ltc cfE) l).Pairwise fun x y => (1 ≤ x.rows → 1 ≤ y.rows → togB small most x y = false ∧ togB small most y x = false) := h1.imp fun {x y} h a b => ⟨h, by rw [togB_symm b a]; exact h⟩
  have h3 : l.Pairwise fun x y => (1 ≤ x.rows → 1 ≤ y.rows → togB small most x y = false ∧ togB small most y x = false) := (isort_perm l).pairwise h2 fun h a b => (h b a).symm
  rw [List.pairwise_iff_getElem] at h3 ⊢
  exact fun i j hi hj hij => h3 i j hi hj hij (hg.rows _ (List.getElem_mem hi)).1 (hg.rows _ (List.getElem_mem hj)).1
end Go.Proofs.Ytophfgijfmdbcaa
