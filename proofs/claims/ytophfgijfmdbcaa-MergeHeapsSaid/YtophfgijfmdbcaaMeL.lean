/- What Choose takes is what the reference takes (plain law); the argument of entries, opened. -/
import Derived.Test.YtophfgijfmdbcaaProg
import Derived.Test.YtophfgijfmdbcaaMeK
import Derived.Test.YtophfgijfmdbcaaPart
namespace Go.Proofs.Ytophfgijfmdbcaa
open Go.RowKit Go.Proofs.Ytophfgijfmdbcaa.So

theorem smalls_isort (small : Int) (l : List Ent) : smalls small (isort (ltc cfE) l) = isort (ltc cfE) (smalls small l) := by
  refine snoc_ind (p := fun l => smalls small (isort (ltc cfE) l) = isort (ltc cfE) (smalls small l)) rfl (fun l x ih => ?_) l
  obtain ⟨P, Q, e, h1, h2⟩ := srt_part swoE x _ (isort_srt swoE l)
  rw [isort_snoc, smalls_app, e, mg_one h1 h2]
  rw [e, smalls_app] at ih
  have hc : smalls small (P ++ x :: Q) = smalls small P ++ (smalls small [x] ++ smalls small Q) := by
    rw [← smalls_app, ← smalls_app]; rfl
  rw [hc]
  by_cases hx : x.rows < small
  · have e1 : smalls small [x] = [x] := by simp [smalls, hx]
    rw [e1, isort_snoc, ← ih]
    exact (mg_one (P := smalls small P) (Q := smalls small Q) (fun p hp => h1 p (List.mem_filter.1 hp).1) (fun q hq => h2 q (List.mem_filter.1 hq).1)).symm
  · have e1 : smalls small [x] = [] := by simp [smalls]; omega
    rw [e1, List.append_nil, List.nil_append]
    exact ih
theorem fold_eq (small most : Int) (a : Ent) : ∀ (r : List Ent) (q : Int) (keys : List ByteArray),
    (smalls small r).foldl (stp a) (most - q, keys) = (most - (r.foldl (rstp small most a) (q, keys)).1, (r.foldl (rstp small most a) (q, keys)).2)
  | [], q, keys => rfl
  | x :: r, q, keys => by
    have hc : smalls small (x :: r) = smalls small [x] ++ smalls small r := by rw [← smalls_app]; rfl
    rw [hc, List.foldl_cons]
    by_cases hx : x.rows < small
    · have e1 : smalls small [x] = [x] := by simp [smalls, hx]
      rw [e1, List.cons_append, List.nil_append, List.foldl_cons]
      by_cases hp : x.window = a.window ∧ x.part = a.part ∧ x.rows < small ∧ x.rows ≤ most - q
      · rw [show rstp small most a (q, keys) x = (q + x.rows, keys ++ [x.key]) from if_pos hp, show stp a (most - q, keys) x = (most - q - x.rows, keys ++ [x.key]) from if_pos ⟨hp.1.symm, hp.2.1.symm, hp.2.2.2⟩, show most - q - x.rows = most - (q + x.rows) by omega]
        exact fold_eq small most a r _ _
      · rw [show rstp small most a (q, keys) x = (q, keys) from if_neg hp, show stp a (most - q, keys) x = (most - q, keys) from if_neg fun h => hp ⟨h.1.symm, h.2.1.symm, hx, h.2.2⟩]
        exact fold_eq small most a r _ _
    · have e1 : smalls small [x] = [] := by simp [smalls]; omega
      rw [e1, List.nil_append, show rstp small most a (q, keys) x = (q, keys) from if_neg fun h => hx h.2.2.1]
      exact fold_eq small most a r _ _
theorem rfold_le (small most : Int) (a : Ent) : ∀ (r : List Ent) (q : Int) (keys : List ByteArray), q ≤ most → (r.foldl (rstp small most a) (q, keys)).1 ≤ most ∧ keys.length ≤ (r.foldl (rstp small most a) (q, keys)).2.length
  | [], q, keys, h => ⟨h, Nat.le_refl _⟩
  | x :: r, q, keys, h => by
    rw [List.foldl_cons]
    by_cases hp : x.window = a.window ∧ x.part = a.part ∧ x.rows < small ∧ x.rows ≤ most - q
    · rw [show rstp small most a (q, keys) x = (q + x.rows, keys ++ [x.key]) from if_pos hp]
      have := rfold_le small most a r (q + x.rows) (keys ++ [x.key]) (by omega)
      rw [List.length_append] at this
      exact ⟨this.1, by omega⟩
    · rw [show rstp small most a (q, keys) x = (q, keys) from if_neg hp]
      exact rfold_le small most a r q keys h
theorem refRow_eq (small most : Int) (a : Ent) (ha : a.rows < small) : ∀ (r : List Ent), (∀ x ∈ r, 1 ≤ x.rows) →
    refRow small most a r = if 1 < (took a most (smalls small r)).2.length ∧ 0 ≤ (took a most (smalls small r)).1 then some (took a most (smalls small r)).2 else none
  | [], _ => by simp [refRow, took, smalls]
  | x :: r, h => by
    have hx := h x (by simp)
    have ih := refRow_eq small most a ha r fun y hy => h y (by simp [hy])
    have hc : smalls small (x :: r) = smalls small [x] ++ smalls small r := by rw [← smalls_app]; rfl
    unfold refRow
    by_cases ht : togB small most a x = true
    · obtain ⟨h1, h2, _, h4, h5, h6⟩ := of_decide_eq_true ht
      rw [if_pos ht]
      have e1 : smalls small [x] = [x] := by simp [smalls, h4]
      have e2 : took a most (smalls small (x :: r)) = (smalls small r).foldl (stp a) (most - (a.rows + x.rows), [a.key, x.key]) := by
        unfold took
        rw [hc, e1, List.cons_append, List.nil_append, List.foldl_cons, show stp a (most - a.rows, [a.key]) x = (most - a.rows - x.rows, [a.key] ++ [x.key]) from if_pos ⟨h1, h2, by omega⟩, show most - a.rows - x.rows = most - (a.rows + x.rows) by omega]
        rfl
      rw [e2, fold_eq]
      have := rfold_le small most a r (a.rows + x.rows) [a.key, x.key] (by omega)
      generalize r.foldl (rstp small most a) (a.rows + x.rows, [a.key, x.key]) = F at *
      obtain ⟨t1, t2⟩ := this
      simp only [List.length_cons, List.length_nil] at t2
      rw [if_pos (show 1 < F.2.length ∧ 0 ≤ most - F.1 from ⟨by omega, by omega⟩)]
    · rw [if_neg ht, ih]
      have e2 : took a most (smalls small (x :: r)) = took a most (smalls small r) := by
        unfold took
        rw [hc, List.foldl_append]
        congr 1
        by_cases h4 : x.rows < small
        · have e1 : smalls small [x] = [x] := by simp [smalls, h4]
          rw [e1, List.foldl_cons, List.foldl_nil]
          refine if_neg fun hq => ht (dct ⟨hq.1, hq.2.1, ha, h4, ?_, hq.2.2⟩)
          have h3 := hq.2.2
          simp only at h3
          omega
        · have e1 : smalls small [x] = [] := by simp [smalls]; omega
          rw [e1]; rfl
      rw [e2]
theorem refPick_eq (small most : Int) : ∀ (s : List Ent), (∀ x ∈ s, 1 ≤ x.rows) → refPick small most s = pickE most (smalls small s)
  | [], _ => rfl
  | a :: r, h => by
    have ih := refPick_eq small most r fun y hy => h y (by simp [hy])
    have hc : smalls small (a :: r) = smalls small [a] ++ smalls small r := by rw [← smalls_app]; rfl
    unfold refPick
    rw [hc]
    by_cases ha : a.rows < small
    · have e1 : smalls small [a] = [a] := by simp [smalls, ha]
      rw [e1, List.cons_append, List.nil_append, refRow_eq small most a ha r fun y hy => h y (by simp [hy])]
      conv => rhs; unfold pickE
      split
      · rfl
      · exact ih
    · have e1 : smalls small [a] = [] := by simp [smalls]; omega
      rw [e1, List.nil_append]
      have : ∀ (r : List Ent), refRow small most a r = none := by
        intro r
        induction r with
        | nil => rfl
        | cons x r ih2 =>
          unfold refRow
          rw [if_neg (fun hq => ha (of_decide_eq_true hq).2.2.1), ih2]
      rw [this]
      exact ih
theorem choose_ref (small most : Int) (l : List Ent) (h : ∀ x ∈ l, 1 ≤ x.rows) : refPick small most (isort (ltc cfE) l) = chooseE small most l := by
  rw [refPick_eq small most _ fun x hx => h x (isort_mem.1 hx), smalls_isort]
  rfl

theorem stp_len (a : Ent) : ∀ (r : List Ent) (q : Int × List ByteArray), (r.foldl (stp a) q).2.length ≤ q.2.length + r.length
  | [], q => Nat.le_refl _
  | x :: r, q => by
    rw [List.foldl_cons, List.length_cons]
    have h1 := stp_len a r (stp a q x)
    have h2 : (stp a q x).2.length ≤ q.2.length + 1 := by
      unfold stp
      split
      · simp
      · omega
    omega
theorem pick_len (most : Int) : ∀ (s : List Ent), (pickE most s).length ≤ s.length
  | [] => Nat.le_refl _
  | a :: r => by
    have h1 := stp_len a r (most - a.rows, [a.key])
    have h2 := pick_len most r
    unfold pickE
    split
    · unfold took at *
      simp only [List.length_cons, List.length_nil] at h1 ⊢
      omega
    · simp only [List.length_cons]; omega
theorem choose_len (small most : Int) (l : List Ent) : (chooseE small most l).length ≤ l.length := by
  have := pick_len most (isort (ltc cfE) (smalls small l))
  rw [isort_len] at this
  exact Nat.le_trans this (List.length_filter_le _ _)

theorem arg_ents {H : Type} {enc : TypeId × Value → H} {W : World} {base : Nat} {v : Value} {d : DataW H} {p : List MemPlace} (h : Arg enc Try.prog W base 22 v d p) :
    ∃ (A : Option Addr) (c : Nat) (l : List Ent), v = .slice A l.length c ∧ l.length ≤ c ∧ l.length ≤ 4398046511104 ∧ Ents W W.heap.size A l ∧ FitE l := by
  obtain ⟨A0, n0, c0, rfl⟩ := Go.WideShapes.okWide_slice Try.underlying22 h.ok
  obtain ⟨A, c, l, e, hl, _, hby, hr, hg⟩ := (h.part rfl).flat Try.underlying22 Try.underlying29 (by kernel_rfl) (by kernel_rfl) (by decide) (nine Ent.c) (fun _ => rfl) (fun x => x.key.size ≤ 140737488351232 ∧ x.part.size ≤ 140737488351232) (fun us hu => by
    obtain ⟨y0, t0⟩ := hu 0 _ rfl
    obtain ⟨y1, t1⟩ := hu 1 _ rfl
    obtain ⟨y2, t2⟩ := hu 2 _ rfl
    obtain ⟨y3, t3⟩ := hu 3 _ rfl
    obtain ⟨y4, t4⟩ := hu 4 _ rfl
    obtain ⟨y5, t5⟩ := hu 5 _ rfl
    obtain ⟨y6, t6⟩ := hu 6 _ rfl
    obtain ⟨y7, t7⟩ := hu 7 _ rfl
    obtain ⟨y8, t8⟩ := hu 8 _ rfl
    obtain ⟨x0, e0, s0⟩ := t0.str Try.underlying9
    obtain ⟨x1, e1, _⟩ := t1.int Try.underlying3
    obtain ⟨x2, e2, s2⟩ := t2.str Try.underlying9
    obtain ⟨x3, e3, _⟩ := t3.int Try.underlying3
    obtain ⟨x4, e4, _⟩ := t4.int Try.underlying3
    obtain ⟨x5, e5, _⟩ := t5.int Try.underlying3
    obtain ⟨x6, e6, _⟩ := t6.int Try.underlying3
    obtain ⟨x7, e7, _⟩ := t7.int Try.underlying27
    obtain ⟨x8, e8, _⟩ := t8.int Try.underlying3
    refine ⟨⟨x0, x1, x2, x3, x4, x5, x6, x7, x8⟩, ⟨s0, s2⟩, fun j hj => ?_⟩
    have hj9 : j < 9 := hj
    have : j = 0 ∨ j = 1 ∨ j = 2 ∨ j = 3 ∨ j = 4 ∨ j = 5 ∨ j = 6 ∨ j = 7 ∨ j = 8 := by omega
    rcases this with rfl | rfl | rfl | rfl | rfl | rfl | rfl | rfl | rfl
    · rw [e0]; rfl
    · rw [e1]; rfl
    · rw [e2]; rfl
    · rw [e3]; rfl
    · rw [e4]; rfl
    · rw [e5]; rfl
    · rw [e6]; rfl
    · rw [e7]; rfl
    · rw [e8]; rfl)
  have hbz : Try.prog.bytesOf 29 = 88 := by kernel_rfl
  rw [hbz] at hby
  exact ⟨A, c, l, e, hl, by omega, hr, hg⟩
end Go.Proofs.Ytophfgijfmdbcaa
