/- What is merged is each row of each list, taken from the lists' heads (plain law, chapter 16). -/
import Derived.Test.YtophfgijfmdbcaaProg
import Derived.Test.YtophfgijfmdbcaaMgJ
namespace Go.Proofs.Ytophfgijfmdbcaa.Mg
open Go.RowKit Go.Proofs.Ytophfgijfmdbcaa Go.Proofs.Ytophfgijfmdbcaa.So

theorem irrR (x : Rw) : ltR x x = false := swoR.irr x
/-- The lists rise, and so does what is merged; it is their rows. -/
structure Gd (L : List Lst) (M : List Rw) : Prop where
  ris : ∀ i, i < L.length → Rsn (lt_ L i).l
  perm : M.Perm (lAll L)
  rsn : Rsn M
theorem err_good (L : List Lst) : (mErr (lists L) = 0 ∧ Gd L (mRows (lists L))) ∨ (mErr (lists L) ≠ 0 ∧ mRows (lists L) = []) := by
  unfold mErr mRows
  rw [mAll_lists]
  by_cases h1 : (lists L).all risB = true
  · rw [if_pos h1, if_pos h1]
    by_cases h2 : risB (isort ltR (lAll L)) = true
    · rw [if_pos h2, if_pos h2]
      refine .inl ⟨rfl, fun i hi => ?_, isort_perm _, risB_iff.1 h2⟩
      have := List.all_eq_true.1 h1 (lt_ L i).l (List.mem_map.2 ⟨_, lt_mem hi, rfl⟩)
      exact risB_iff.1 this
    · rw [if_neg h2, if_neg h2]; exact .inr ⟨by decide, rfl⟩
  · rw [if_neg h1, if_neg h1]; exact .inr ⟨by decide, rfl⟩
theorem Gd.nodup {L : List Lst} {M : List Rw} (h : Gd L M) : (lAll L).Nodup :=
  (List.Perm.nodup_iff h.perm).1 (h.rsn.imp fun {x y} hxy e => by
    rw [e, irrR] at hxy; cases hxy)
theorem Gd.apart {L : List Lst} {M : List Rw} (h : Gd L M) {i k : Nat} (hi : i < L.length) (hk : k < L.length) (hne : i ≠ k) {x : Rw} (h1 : x ∈ (lt_ L i).l) (h2 : x ∈ (lt_ L k).l) : False := by
  have hd := h.nodup
  unfold lAll at hd
  have hp := (List.pairwise_flatMap.1 hd).2
  rcases Nat.lt_or_ge i k with hik | hik
  · have := (List.pairwise_iff_getElem.1 hp) i k hi hk hik
    rw [lt_eq hi, lt_eq hk] at this
    exact this x h1 x h2 rfl
  · have := (List.pairwise_iff_getElem.1 hp) k i hk hi (by omega)
    rw [lt_eq hi, lt_eq hk] at this
    exact this x h2 x h1 rfl
def ga (a : List Nat) (i : Nat) : Nat := a.getD i 0
theorem ga_eq {a : List Nat} {i : Nat} (h : i < a.length) : a[i] = ga a i := by simp [ga, List.getD, List.getElem?_eq_getElem h]
theorem ga_set {a : List Nat} {i k v : Nat} (h : i < a.length) : ga (a.set k v) i = if i = k then v else ga a i := by
  have h' : i < (a.set k v).length := by rw [List.length_set]; exact h
  rw [← ga_eq h', List.getElem_set]
  by_cases e : k = i
  · rw [if_pos e, if_pos e.symm]
  · rw [if_neg e, if_neg (fun e' => e e'.symm), ga_eq h]
/-- How far the lists are, where j rows of what is merged were found. -/
structure KSt (L : List Lst) (M : List Rw) (a : List Nat) (j : Nat) : Prop where
  len : a.length = L.length
  le : ∀ i, i < L.length → ga a i ≤ (lt_ L i).l.length
  sub : ∀ i, i < L.length → ∀ y ∈ (lt_ L i).l.drop (ga a i), y ∈ M.drop j
  sup : ∀ y ∈ M.drop j, ∃ i, i < L.length ∧ y ∈ (lt_ L i).l.drop (ga a i)
theorem KSt.start {L : List Lst} {M : List Rw} (h : Gd L M) : KSt L M (List.replicate L.length 0) 0 where
  len := List.length_replicate
  le i hi := by
    have : ga (List.replicate L.length 0) i = 0 := by rw [← ga_eq (by simpa using hi)]; simp
    omega
  sub i hi y hy := by
    have e : ga (List.replicate L.length 0) i = 0 := by rw [← ga_eq (by simpa using hi)]; simp
    rw [e] at hy
    exact h.perm.mem_iff.2 (List.mem_flatMap.2 ⟨_, lt_mem hi, hy⟩)
  sup y hy := by
    have h1 := h.perm.mem_iff.1 (show y ∈ M from hy)
    obtain ⟨x, hx, hxy⟩ := List.mem_flatMap.1 h1
    obtain ⟨i, hi, rfl⟩ := List.getElem_of_mem hx
    refine ⟨i, hi, ?_⟩
    have e : ga (List.replicate L.length 0) i = 0 := by rw [← ga_eq (by simpa using hi)]; simp
    rw [e, ← lt_eq hi]
    exact hxy
theorem dropR_eq {l : List Rw} {j : Nat} (h : j < l.length) : l.drop j = Sr.gt l j :: l.drop (j + 1) := by
  rw [List.drop_eq_getElem_cons h, Sr.gt_eq h]
theorem Rsn.drop {l : List Rw} (h : Rsn l) (j : Nat) : Rsn (l.drop j) := List.Pairwise.sublist (List.drop_sublist _ _) h
/-- Of what is left the next row alone equals it in the order. -/
theorem next_only {M : List Rw} {j : Nat} (hM : Rsn M) (hj : j < M.length) {y : Rw} (hy : y ∈ M.drop j) (h : ltR (Sr.gt M j) y = false) : y = Sr.gt M j := by
  have h1 := hM.drop j
  rw [dropR_eq hj] at h1 hy
  rcases List.mem_cons.1 hy with rfl | hy
  · rfl
  · have := (List.pairwise_cons.1 h1).1 y hy
    rw [this] at h; cases h
theorem next_not {M : List Rw} {j : Nat} (hM : Rsn M) (hj : j < M.length) {y : Rw} (hy : y ∈ M.drop (j + 1)) : y ≠ Sr.gt M j := by
  have h1 := hM.drop j
  rw [dropR_eq hj] at h1
  intro e
  have := (List.pairwise_cons.1 h1).1 y hy
  rw [e, irrR] at this; cases this
theorem KSt.found {L : List Lst} {M : List Rw} {a : List Nat} {j : Nat} (h : KSt L M a j) (hG : Gd L M) (hj : j < M.length) : ∃ i, i < L.length ∧ ga a i < (lt_ L i).l.length ∧ Sr.gt (lt_ L i).l (ga a i) = Sr.gt M j := by
  obtain ⟨i, hi, hy⟩ := h.sup (Sr.gt M j) (by rw [dropR_eq hj]; exact List.mem_cons_self)
  have hlt : ga a i < (lt_ L i).l.length := by
    rcases Nat.lt_or_ge (ga a i) (lt_ L i).l.length with h1 | h1
    · exact h1
    · rw [List.drop_eq_nil_of_le h1] at hy; cases hy
  refine ⟨i, hi, hlt, ?_⟩
  have hsub := h.sub i hi (Sr.gt (lt_ L i).l (ga a i)) (by rw [dropR_eq hlt]; exact List.mem_cons_self)
  have hr := (hG.ris i hi).drop (ga a i)
  rw [dropR_eq hlt] at hr hy
  rcases List.mem_cons.1 hy with e | e
  · exact e.symm
  · have h1 := (List.pairwise_cons.1 hr).1 _ e
    exact next_only hG.rsn hj hsub (swoR.asym h1)
theorem KSt.step {L : List Lst} {M : List Rw} {a : List Nat} {j i : Nat} (h : KSt L M a j) (hG : Gd L M) (hj : j < M.length) (hi : i < L.length) (hlt : ga a i < (lt_ L i).l.length) (hc : ltR (Sr.gt M j) (Sr.gt (lt_ L i).l (ga a i)) = false) : KSt L M (a.set i (ga a i + 1)) (j + 1) := by
  have hsub := h.sub i hi (Sr.gt (lt_ L i).l (ga a i)) (by rw [dropR_eq hlt]; exact List.mem_cons_self)
  have he := next_only hG.rsn hj hsub hc
  have hmem : Sr.gt M j ∈ (lt_ L i).l := by rw [← he, ← Sr.gt_eq hlt]; exact List.getElem_mem _
  have hga : ∀ k, k < L.length → ga (a.set i (ga a i + 1)) k = if k = i then ga a i + 1 else ga a k := fun k hk => ga_set (by rw [h.len]; exact hk)
  refine ⟨by rw [List.length_set, h.len], fun k hk => ?_, fun k hk y hy => ?_, fun y hy => ?_⟩
  · rw [hga k hk]
    by_cases e : k = i
    · rw [if_pos e, e]; omega
    · rw [if_neg e]; exact h.le k hk
  · rw [hga k hk] at hy
    have hy' : y ∈ M.drop j ∧ y ≠ Sr.gt M j := by
      by_cases e : k = i
      · rw [if_pos e] at hy
        subst e
        refine ⟨h.sub k hk y (by rw [dropR_eq hlt]; exact List.mem_cons_of_mem _ hy), fun e2 => ?_⟩
        have hr := (hG.ris k hk).drop (ga a k)
        rw [dropR_eq hlt] at hr
        have := (List.pairwise_cons.1 hr).1 y hy
        rw [he, e2, irrR] at this; cases this
      · rw [if_neg e] at hy
        refine ⟨h.sub k hk y hy, fun e2 => ?_⟩
        rw [e2] at hy
        exact hG.apart hk hi e (List.mem_of_mem_drop hy) hmem
    obtain ⟨h1, h2⟩ := hy'
    rw [dropR_eq hj] at h1
    rcases List.mem_cons.1 h1 with e | e
    · exact absurd e h2
    · exact e
  · have hne := next_not hG.rsn hj hy
    obtain ⟨k, hk, hyk⟩ := h.sup y (by rw [dropR_eq hj]; exact List.mem_cons_of_mem _ hy)
    refine ⟨k, hk, ?_⟩
    rw [hga k hk]
    by_cases e : k = i
    · rw [if_pos e]
      subst e
      rw [dropR_eq hlt, he] at hyk
      rcases List.mem_cons.1 hyk with e | e
      · exact absurd e hne
      · exact e
    · rw [if_neg e]; exact hyk
theorem KSt.ends_ {L : List Lst} {M : List Rw} {a : List Nat} (h : KSt L M a M.length) {i : Nat} (hi : i < L.length) : ga a i = (lt_ L i).l.length := by
  have h1 := h.le i hi
  rcases Nat.lt_or_ge (ga a i) (lt_ L i).l.length with h2 | h2
  · have := h.sub i hi (Sr.gt (lt_ L i).l (ga a i)) (by rw [dropR_eq h2]; exact List.mem_cons_self)
    rw [List.drop_length] at this
    cases this
  · omega
/-- The search through the lists for one row. -/
def hit (L : List Lst) (a : List Nat) (x : Rw) (i : Nat) : Prop := ga a i < (lt_ L i).l.length ∧ sameRwB (Sr.gt (lt_ L i).l (ga a i)) x = true
def InSt (L : List Lst) (M : List Rw) (x : Rw) (j k : Nat) (a : List Nat) (b : Bool) : Prop := (b = false → KSt L M a j ∧ ∀ i, i < k → ¬ hit L a x i) ∧ (b = true → KSt L M a (j + 1))
theorem InSt.start {L : List Lst} {M : List Rw} {x : Rw} {j : Nat} {a : List Nat} (h : KSt L M a j) : InSt L M x j 0 a false := ⟨fun _ => ⟨h, fun i hi => absurd hi (by omega)⟩, fun e => (by cases e)⟩
theorem InSt.skip {L : List Lst} {M : List Rw} {x : Rw} {j k : Nat} {a : List Nat} (h : InSt L M x j k a true) : InSt L M x j (k + 1) a true := ⟨fun e => (by cases e), h.2⟩
theorem InSt.miss {L : List Lst} {M : List Rw} {x : Rw} {j k : Nat} {a : List Nat} (h : InSt L M x j k a false) (hn : ¬ hit L a x k) : InSt L M x j (k + 1) a false :=
  ⟨fun _ => ⟨(h.1 rfl).1, fun i hi => by
    rcases Nat.lt_or_ge i k with h1 | h1
    · exact (h.1 rfl).2 i h1
    · obtain rfl : i = k := by omega
      exact hn⟩, fun e => (by cases e)⟩
theorem hit_lt {L : List Lst} {M : List Rw} {x : Rw} {j k : Nat} {a : List Nat} (hx : x.logic = (Sr.gt M j).logic) (h : hit L a x k) : ltR (Sr.gt M j) (Sr.gt (lt_ L k).l (ga a k)) = false := by
  have h1 : cfR (Sr.gt (lt_ L k).l (ga a k)) x = 0 := (of_decide_eq_true h.2).1
  have h2 : cfR (Sr.gt (lt_ L k).l (ga a k)) (Sr.gt M j) = 0 := by
    rw [← cfR_logic, ← hx, cfR_logic]; exact h1
  have h3 := triR.anti (Sr.gt (lt_ L k).l (ga a k)) (Sr.gt M j)
  refine decide_eq_false ?_
  omega
theorem InSt.hit_ {L : List Lst} {M : List Rw} {x : Rw} {j k : Nat} {a : List Nat} (h : InSt L M x j k a false) (hG : Gd L M) (hj : j < M.length) (hk : k < L.length) (hx : x.logic = (Sr.gt M j).logic) (hh : hit L a x k) : InSt L M x j (k + 1) (a.set k (ga a k + 1)) true :=
  ⟨fun e => (by cases e), fun _ => (h.1 rfl).1.step hG hj hk hh.1 (hit_lt hx hh)⟩
theorem InSt.done {L : List Lst} {M : List Rw} {x : Rw} {j : Nat} {a : List Nat} {b : Bool} (h : InSt L M x j L.length a b) (hG : Gd L M) (hj : j < M.length) (hx : x.logic = (Sr.gt M j).logic) : b = true ∧ KSt L M a (j + 1) := by
  cases b
  · obtain ⟨h1, h2⟩ := h.1 rfl
    obtain ⟨i, hi, hlt, he⟩ := h1.found hG hj
    refine absurd ⟨hlt, ?_⟩ (h2 i hi)
    rw [he]
    exact decide_eq_true (same_logic hx.symm)
  · exact ⟨rfl, h.2 rfl⟩
end Go.Proofs.Ytophfgijfmdbcaa.Mg
