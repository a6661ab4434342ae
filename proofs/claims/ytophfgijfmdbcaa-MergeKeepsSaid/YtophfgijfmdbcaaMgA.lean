/- Lists in order, merged by a heap of heads (plain law, chapter 16). -/
import Derived.Test.YtophfgijfmdbcaaProg
import Derived.Test.YtophfgijfmdbcaaHrA
import Derived.Test.YtophfgijfmdbcaaRwM
namespace Go.Proofs.Ytophfgijfmdbcaa.Mg
open Go.RowKit Go.Proofs.Ytophfgijfmdbcaa Go.Proofs.Ytophfgijfmdbcaa.So Go.Proofs.Ytophfgijfmdbcaa.Hp Go.Proofs.Ytophfgijfmdbcaa.Hr

abbrev ltR : Rw → Rw → Bool := Sr.ltc cfR
def ltH (a b : Hd) : Bool := ltR a.x b.x
theorem swoH : Swo ltH := ⟨fun x => swoR.irr x.x, fun x y z => swoR.trans x.x y.x z.x, fun x y z => swoR.neg x.x y.x z.x⟩
/-- Each above the one ahead. -/
def Rsn (l : List Rw) : Prop := l.Pairwise fun x y => ltR x y = true
def risP (l : List Rw) : Prop := ∀ i, i < l.length - 1 → ltR (Sr.gt l i) (Sr.gt l (i + 1)) = true
instance (l : List Rw) : Decidable (risP l) := by unfold risP; infer_instance
def risB (l : List Rw) : Bool := decide (risP l)
theorem risP_cons {x y : Rw} {l : List Rw} (h : risP (x :: y :: l)) : ltR x y = true ∧ risP (y :: l) :=
  ⟨h 0 (by simp), fun i hi => h (i + 1) (by simp at hi ⊢; omega)⟩
theorem rsn_of : ∀ {l : List Rw}, risP l → Rsn l
  | [], _ => List.Pairwise.nil
  | [x], _ => List.pairwise_singleton _ _
  | x :: y :: l, h => by
    obtain ⟨h1, h2⟩ := risP_cons h
    have ih := rsn_of h2
    refine List.pairwise_cons.2 ⟨fun z hz => ?_, ih⟩
    rcases List.mem_cons.1 hz with rfl | hz
    · exact h1
    · exact swoR.trans _ _ _ h1 ((List.pairwise_cons.1 ih).1 z hz)
theorem of_rsn {l : List Rw} (h : Rsn l) : risP l := fun i hi => by
  have := (List.pairwise_iff_getElem.1 h) i (i + 1) (by omega) (by omega) (by omega)
  rwa [Sr.gt_eq (by omega), Sr.gt_eq (by omega)] at this
theorem risB_iff {l : List Rw} : risB l = true ↔ Rsn l := ⟨fun h => rsn_of (of_decide_eq_true h), fun h => decide_eq_true (of_rsn h)⟩
theorem Rsn.srt {l : List Rw} (h : Rsn l) : Srt ltR l := h.imp fun h => swoR.asym h
/-- Two lists of the same things in order: one is strictly in order if the other one is. -/
theorem rsn_perm {l m : List Rw} (hp : l.Perm m) (hm : Srt ltR m) (h : Rsn l) : Rsn m := by
  have h1 : l.Pairwise fun x y => ltR x y = true ∨ ltR y x = true := h.imp fun h => .inl h
  have h2 := (hp.pairwise_iff (fun {x y} h => h.symm)).1 h1
  refine (h2.and hm).imp ?_
  rintro x y ⟨a | a, b⟩
  · exact a
  · rw [b] at a; cases a
theorem rsn_eq : ∀ {l m : List Rw}, l.Perm m → Rsn l → Rsn m → l = m
  | [], m, hp, _, _ => (List.nil_perm.1 hp).symm
  | x :: l, [], hp, _, _ => by have := hp.length_eq; simp at this
  | x :: l, y :: m, hp, hl, hm => by
    have a := List.pairwise_cons.1 hl
    have b := List.pairwise_cons.1 hm
    have e : x = y := by
      rcases List.mem_cons.1 (hp.mem_iff.1 (List.mem_cons_self (a := x) (l := l))) with h | h
      · exact h
      · rcases List.mem_cons.1 (hp.mem_iff.2 (List.mem_cons_self (a := y) (l := m))) with h' | h'
        · exact h'.symm
        · have h1 := b.1 x h
          have h2 := a.1 y h'
          exact absurd (h2.symm.trans (swoR.asym h1)) (by decide)
    subst e
    rw [rsn_eq ((List.perm_cons x).1 hp) a.2 b.2]
theorem srt_eq {l m : List Rw} (hp : l.Perm m) (hl : Srt ltR l) (hm : Srt ltR m) : risB l = risB m := by
  cases h : risB m
  · cases h' : risB l
    · rfl
    · rw [risB_iff.2 (rsn_perm hp hm (risB_iff.1 h'))] at h; cases h
  · exact risB_iff.2 (rsn_perm hp.symm hl (risB_iff.1 h))

/-- All that a heap of heads holds. -/
def allH (d : List Hd) : List Rw := d.flatMap fun h => h.x :: h.rest
theorem allH_cons (h : Hd) (d : List Hd) : allH (h :: d) = h.x :: (h.rest ++ allH d) := by simp [allH]
theorem allH_perm {d e : List Hd} (h : d.Perm e) : (allH d).Perm (allH e) := h.flatMap_right _
/-- How far the merging is: what is out, what is left in the heap. -/
structure Mrg (all o : List Rw) (d : List Hd) : Prop where
  perm : (o ++ allH d).Perm all
  srt : Srt ltR o
  low : ∀ a ∈ o, ∀ y ∈ allH d, ltR y a = false
  each : ∀ h ∈ d, Srt ltR (h.x :: h.rest)
theorem Mrg.of_perm {all o : List Rw} {d e : List Hd} (h : Mrg all o d) (hp : d.Perm e) : Mrg all o e :=
  ⟨((allH_perm hp.symm).append_left o).trans h.perm, h.srt, fun a ha y hy => h.low a ha y ((allH_perm hp).mem_iff.2 hy), fun x hx => h.each x (hp.mem_iff.2 hx)⟩
/-- The least head is taken; the rest of its list comes back. -/
theorem Mrg.pop {all o : List Rw} {a : Hd} {d : List Hd} (h : Mrg all o (a :: d)) (hl : ∀ b ∈ d, ltH b a = false) (e : List Hd) (he : (allH e) = a.rest) (hs : ∀ b ∈ e, Srt ltR (b.x :: b.rest)) : Mrg all (o ++ [a.x]) (e ++ d) where
  perm := by
    refine List.Perm.trans ?_ h.perm
    rw [List.append_assoc, allH_cons, ← he]
    simp [allH]
  srt := by
    refine srt_app.2 ⟨h.srt, List.pairwise_singleton _ _, fun x hx y hy => ?_⟩
    obtain rfl := List.mem_singleton.1 hy
    exact h.low x hx _ (by rw [allH_cons]; exact List.mem_cons_self)
  low x hx y hy := by
    have hy' : y ∈ a.rest ++ allH d := by
      rw [← he]
      simpa [allH] using hy
    rcases List.mem_append.1 hx with h1 | h1
    · exact h.low x h1 y (by rw [allH_cons]; exact List.mem_cons_of_mem _ hy')
    · obtain rfl := List.mem_singleton.1 h1
      rcases List.mem_append.1 hy' with h2 | h2
      · exact (List.pairwise_cons.1 (h.each a List.mem_cons_self)).1 y h2
      · obtain ⟨b, hb, hyb⟩ := List.mem_flatMap.1 h2
        have h3 := hl b hb
        rcases List.mem_cons.1 hyb with rfl | h4
        · exact h3
        · exact swoR.neg _ _ _ ((List.pairwise_cons.1 (h.each b (List.mem_cons_of_mem _ hb))).1 y h4) h3
  each b hb := by
    rcases List.mem_append.1 hb with h1 | h1
    · exact hs b h1
    · exact h.each b (List.mem_cons_of_mem _ h1)
theorem Mrg.done {all o : List Rw} (h : Mrg all o []) : o.Perm all ∧ Srt ltR o := ⟨by simpa [allH] using h.perm, h.srt⟩
theorem Mrg.start {d : List Hd} (h : ∀ x ∈ d, Srt ltR (x.x :: x.rest)) : Mrg (allH d) [] d := ⟨by simp, Srt.nil, by simp, h⟩

/-- What merging lists of rows gives: the rows; the error. -/
def mAll (L : List (List Rw)) : List Rw := L.flatMap id
def mErr (L : List (List Rw)) : Int := if L.all risB then (if risB (isort ltR (mAll L)) then 0 else 18) else 4
def mRows (L : List (List Rw)) : List Rw := if L.all risB then (if risB (isort ltR (mAll L)) then isort ltR (mAll L) else []) else []
theorem merged_ok {all o : List Rw} (hp : o.Perm all) (hs : Srt ltR o) : risB o = risB (isort ltR all) ∧ (risB o = true → isort ltR o = isort ltR all) := by
  have h1 := srt_eq (hp.trans (isort_perm all).symm) hs (isort_srt swoR all)
  refine ⟨h1, fun h => ?_⟩
  rw [isort_id swoR hs]
  exact rsn_eq (hp.trans (isort_perm all).symm) (risB_iff.1 h) (risB_iff.1 (h1 ▸ h))
theorem isort_turn {l m : List Rw} (h : l.Perm m) : risB (isort ltR l) = risB (isort ltR m) ∧ (risB (isort ltR l) = true → isort ltR l = isort ltR m) := by
  have hp := ((isort_perm (lt := ltR) l).trans h).trans (isort_perm (lt := ltR) m).symm
  have h1 := srt_eq hp (isort_srt swoR l) (isort_srt swoR m)
  exact ⟨h1, fun h => rsn_eq hp (risB_iff.1 h) (risB_iff.1 (h1 ▸ h))⟩
/-- Lists in another order: the same comes out. -/
theorem turn {L M : List (List Rw)} (h : L.Perm M) : mErr L = mErr M ∧ mRows L = mRows M := by
  have ha : L.all risB = M.all risB := by
    cases hm : M.all risB
    · rw [List.all_eq_false] at hm ⊢
      obtain ⟨x, hx, hn⟩ := hm
      exact ⟨x, h.mem_iff.2 hx, hn⟩
    · rw [List.all_eq_true] at hm ⊢
      exact fun x hx => hm x (h.mem_iff.1 hx)
  obtain ⟨h1, h2⟩ := isort_turn (show (mAll L).Perm (mAll M) from h.flatMap_right id)
  unfold mErr mRows
  rw [ha, h1]
  refine ⟨rfl, ?_⟩
  by_cases h3 : risB (isort ltR (mAll M)) = true
  · rw [if_pos h3, if_pos h3, h2 (h1.trans h3)]
  · rw [if_neg h3, if_neg h3]
end Go.Proofs.Ytophfgijfmdbcaa.Mg
