/- A region that changes two things of a row about: one rule for all its orders. -/
import Derived.Test.YtennddlihcamnaaProg
import Derived.Test.YtennddlihcamnaaSrB
import Derived.Test.YtennddlihcamnaaGrow
import Derived.Deep.MidRow
namespace Go.Proofs.Ytennddlihcamnaa.Sr
open Go.Proofs.Ytennddlihcamnaa.So
open Go.RowKit
variable {α : Type} [Inhabited α]

/-- How far the exchange is. -/
structure SwS (c : α → Nat → Value) (base g cap : Nat) (d : List α) (p q : Nat) (val : Nat → Value) (l1 l2 s1 s2 : Nat) (wr : World) (cc : Nat → Bool) (vs : Nat → Value) (w : World) : Prop where
  vals : ∀ i, cc i = true → i ≠ s1 → i ≠ s2 → vs i = val i
  mem : RowE c w base g cap (if cc s2 = true then sw d p q else if cc s1 = true then d.set p (gt d q) else d)
  only : Only g wr w
  o1 : cc s1 = true → cc l1 = true ∧ cc l2 = true
  o2 : cc s2 = true → cc s1 = true
section
variable {c : α → Nat → Value} {w : World} {base g cap : Nat} {d : List α}
theorem RowE.range (h : RowE c w base g cap d) {i : Nat} (hi : i < d.length) : w.rangeAt g (i * 9) (nine c (gt d i)) := fun j v hj => by
  have h9 : j < 9 := (List.getElem?_eq_some_iff.1 hj).1
  rw [h.cell hi h9]
  rw [nine_get c _ h9] at hj
  exact hj
theorem RowE.there (h : RowE c w base g cap d) {i : Nat} (hi : i < d.length) : w.there g (i * 9) 9 := fun j hj => by
  rw [h.cell hi hj]
  exact ⟨rfl, h.frozen _⟩
end
theorem gt_set_ne {d : List α} {p q : Nat} {x : α} (h : q ≠ p) : gt (d.set p x) q = gt d q := by
  unfold gt
  rw [List.getD_eq_getElem?_getD, List.getD_eq_getElem?_getD, List.getElem?_set_ne (Ne.symm h)]

/-- The puts of temporaries with their values. -/
def putP : List (Option Tmp × Value) → Act → Act
  | [], a => a
  | (d, v) :: r, a => putP r (a.put d v)
theorem putL_putP (ops : Array Oper) (vs val : Nat → Value) : ∀ (n k : Nat) (a : Act), (∀ i, k ≤ i → i < k + n → dstOf ops i = none ∨ vs i = val i) → putL ((List.range' k n).map (dstOf ops)) vs k a = putP ((List.range' k n).map fun i => (dstOf ops i, val i)) a
  | 0, _, _, _ => rfl
  | n + 1, k, a, h => by
    simp only [List.range'_succ, List.map_cons, putL, putP]
    rw [putL_putP ops vs val n (k + 1) _ fun i h1 h2 => h i (by omega) (by omega)]
    rcases h k (Nat.le_refl _) (by omega) with h0 | h0
    · rw [h0]; rfl
    · rw [h0]

theorem wp_swap {P : Program} {ops : Array Oper} {Q : Exit → Act → World → Prop} {id : Nat} {a : Act} {w : World} (hm : P.follows .mixedOrders = true) (hg : growable ops a.tmps.size = true)
    (c : α → Nat → Value) (hone : ∀ x j, (c x j).oneCell' = true) (base g cap : Nat) (d : List α) (p q : Nat) (hp : p < d.length) (hq : q < d.length) (hmem : RowE c w base g cap d)
    (ET : TypeId) (fs : Array Field) (hu : P.underlying ET = some (.struct fs)) (hi9 : (P.info? ET).map (·.size) = some 9)
    (val : Nat → Value) (l1 l2 s1 s2 a1 a2 b1 b2 : Nat) (ta1 ta2 tb1 tb2 tl1 tl2 : Tmp)
    (hv1 : val l1 = .agg (nine c (gt d q)).toArray) (hv2 : val l2 = .agg (nine c (gt d p)).toArray)
    (hva1 : val a1 = .pointer (some ⟨g, q * 9, none⟩)) (hva2 : val a2 = .pointer (some ⟨g, p * 9, none⟩)) (hvb1 : val b1 = .pointer (some ⟨g, p * 9, none⟩)) (hvb2 : val b2 = .pointer (some ⟨g, q * 9, none⟩))
    (hl1 : ∃ o, ops[l1]? = some o ∧ o.op = .load ET (.tmp ta1)) (hl2 : ∃ o, ops[l2]? = some o ∧ o.op = .load ET (.tmp ta2))
    (hs1 : ∃ o, ops[s1]? = some o ∧ o.op = .store ET (.tmp tb1) (.tmp tl1) ∧ o.dst = none) (hs2 : ∃ o, ops[s2]? = some o ∧ o.op = .store ET (.tmp tb2) (.tmp tl2) ∧ o.dst = none)
    (hd : dstOf ops a1 = some ta1 ∧ dstOf ops a2 = some ta2 ∧ dstOf ops b1 = some tb1 ∧ dstOf ops b2 = some tb2 ∧ dstOf ops l1 = some tl1 ∧ dstOf ops l2 = some tl2)
    (hw : (waits ops l1 a1 && waits ops l2 a2 && waits ops s1 b1 && waits ops s1 l1 && waits ops s1 l2 && waits ops s2 b2 && waits ops s2 l2 && waits ops s2 s1) = true)
    (hne : [l1, l2, s1, s2].Nodup ∧ a1 ≠ s1 ∧ a1 ≠ s2 ∧ a2 ≠ s1 ∧ a2 ≠ s2 ∧ b1 ≠ s1 ∧ b1 ≠ s2 ∧ b2 ≠ s1 ∧ b2 ≠ s2)
    (hpure : ∀ (i : Nat) (o : Oper), ops[i]? = some o → i ≠ l1 → i ≠ l2 → i ≠ s1 → i ≠ s2 → ∀ (b : Act) (W : World), (∀ j t, waits ops i j = true → j ≠ s1 → j ≠ s2 → dstOf ops j = some t → b.eval (.tmp t) = val j) → (∀ t, outer ops t = true → b.eval (.tmp t) = a.eval (.tmp t)) →
      (execOp b.eval o).run P W = .ok (.value (val i)) W)
    (pv : List (Option Tmp × Value)) (hpv : (List.range ops.size).map (fun i => (dstOf ops i, val i)) = pv)
    (hend : ∀ (w' : World), RowE c w' base g cap (sw d p q) → Only g w w' → Q .normal (putP pv a) w')
    (hsz : s1 < ops.size ∧ s2 < ops.size) :
    (Code.region id ops true).wp P Q a w := by
  simp only [Bool.and_eq_true] at hw
  obtain ⟨⟨⟨⟨⟨⟨⟨w1, w2⟩, w3⟩, w4⟩, w5⟩, w6⟩, w7⟩, w8⟩ := hw
  obtain ⟨d1, d2, d3, d4, d5, d6⟩ := hd
  obtain ⟨hnd, n1, n2, n3, n4, n5, n6, n7, n8⟩ := hne
  simp only [List.nodup_cons, List.mem_cons, not_or, List.not_mem_nil, not_false_eq_true, and_true, List.nodup_nil] at hnd
  obtain ⟨⟨x1, x2, x3⟩, ⟨x4, x5⟩, x6⟩ := hnd
  have h9 : ∀ x : α, (nine c x).length = 9 := fun _ => rfl
  have hone9 : ∀ x : α, (nine c x).toArray.all (·.oneCell') = true := fun x => all_oneCell_toArray (fun v hv => by
    simp [nine] at hv
    rcases hv with rfl | rfl | rfl | rfl | rfl | rfl | rfl | rfl | rfl <;> exact hone x _)
  refine wp_region_steps hm hg (SwS c base g cap d p q val l1 l2 s1 s2 w) ?_ ?_ _ rfl ?_
  · exact ⟨fun i hi => (by cases hi), (by rw [if_neg (by simp), if_neg (by simp)]; exact own_drewN hmem 1), (Only.refl g w).drewN 1, fun h => (by cases h), fun h => (by cases h)⟩
  · intro i o ho cc vs W b hS hci hbd hev hout
    have hvl : ∀ j t, cc j = true → j ≠ s1 → j ≠ s2 → dstOf ops j = some t → b.eval (.tmp t) = val j := fun j t hj h1 h2 ht => (hev j t hj ht).trans (hS.vals j hj h1 h2)
    by_cases e1 : i = l1
    · subst e1
      obtain ⟨o', ho', hop⟩ := hl1
      obtain rfl : o = o' := by rw [ho] at ho'; exact Option.some.inj ho'
      have hcs1 : cc s1 = false := by cases hq1 : cc s1; rfl; rw [(hS.o1 hq1).1] at hci; cases hci
      have hcs2 : cc s2 = false := by cases hq1 : cc s2; rfl; rw [hS.o2 hq1] at hcs1; cases hcs1
      have hmm := hS.mem
      rw [hcs2, hcs1, if_neg (by simp), if_neg (by simp)] at hmm
      refine wp_load_mid ET (.tmp ta1) hop g (q * 9) ((hvl a1 ta1 (hbd a1 w1) n1 n2 d1).trans hva1) (nine c (gt d q)) _ (hmm.range hq) hu rfl (by rw [h9]; exact hi9) ⟨_, rfl, ?_⟩
      refine ⟨fun j hj k1 k2 => ?_, ?_, hS.only, fun h => ?_, fun h => ?_⟩
      · by_cases e : j = i
        · subst e; simp [hv1]
        · simp only [if_neg e] at hj ⊢; exact hS.vals j hj k1 k2
      · simp only [if_neg (Ne.symm x2), if_neg (Ne.symm x3)]; exact hS.mem
      · simp only [if_neg (Ne.symm x2)] at h; rw [hcs1] at h; cases h
      · simp only [if_neg (Ne.symm x3)] at h; rw [hcs2] at h; cases h
    by_cases e2 : i = l2
    · subst e2
      obtain ⟨o', ho', hop⟩ := hl2
      obtain rfl : o = o' := by rw [ho] at ho'; exact Option.some.inj ho'
      have hcs1 : cc s1 = false := by cases hq1 : cc s1; rfl; rw [(hS.o1 hq1).2] at hci; cases hci
      have hcs2 : cc s2 = false := by cases hq1 : cc s2; rfl; rw [hS.o2 hq1] at hcs1; cases hcs1
      have hmm := hS.mem
      rw [hcs2, hcs1, if_neg (by simp), if_neg (by simp)] at hmm
      refine wp_load_mid ET (.tmp ta2) hop g (p * 9) ((hvl a2 ta2 (hbd a2 w2) n3 n4 d2).trans hva2) (nine c (gt d p)) _ (hmm.range hp) hu rfl (by rw [h9]; exact hi9) ⟨_, rfl, ?_⟩
      refine ⟨fun j hj k1 k2 => ?_, ?_, hS.only, fun h => ?_, fun h => ?_⟩
      · by_cases e : j = i
        · subst e; simp [hv2]
        · simp only [if_neg e] at hj ⊢; exact hS.vals j hj k1 k2
      · simp only [if_neg (Ne.symm x4), if_neg (Ne.symm x5)]; exact hS.mem
      · simp only [if_neg (Ne.symm x4)] at h; rw [hcs1] at h; cases h
      · simp only [if_neg (Ne.symm x5)] at h; rw [hcs2] at h; cases h
    by_cases e3 : i = s1
    · subst e3
      obtain ⟨o', ho', hop, hod⟩ := hs1
      obtain rfl : o = o' := by rw [ho] at ho'; exact Option.some.inj ho'
      have hcs2 : cc s2 = false := by cases hq1 : cc s2; rfl; rw [hS.o2 hq1] at hci; cases hci
      have hmm := hS.mem
      rw [hcs2, hci, if_neg (by simp), if_neg (by simp)] at hmm
      obtain ⟨m1, m2⟩ := hmm.put hp (gt d q)
      refine wp_store_mid ET (.tmp tb1) (.tmp tl1) hop g (p * 9) (nine c (gt d q)).toArray ((hvl b1 tb1 (hbd b1 w3) n5 n6 d3).trans hvb1) ((hvl l1 tl1 (hbd l1 w4) x2 x3 d5).trans hv1) (hmm.there hp) (by simpa [h9] using hi9) (hone9 _) ⟨_, rfl, ?_⟩
      refine ⟨fun j hj k1 k2 => ?_, ?_, hS.only.trans m2, fun _ => ?_, fun h => ?_⟩
      · simp only [if_neg k1] at hj ⊢; exact hS.vals j hj k1 k2
      · simp only [if_neg (Ne.symm x6), hcs2, if_true, Bool.false_eq_true, if_false]; exact m1
      · simp only [if_neg x2, if_neg x4]; exact ⟨hbd l1 w4, hbd l2 w5⟩
      · simp only [if_true]
    by_cases e4 : i = s2
    · subst e4
      obtain ⟨o', ho', hop, hod⟩ := hs2
      obtain rfl : o = o' := by rw [ho] at ho'; exact Option.some.inj ho'
      have hcs1 : cc s1 = true := hbd s1 w8
      have hmm := hS.mem
      rw [hci, hcs1, if_neg (by simp), if_pos rfl] at hmm
      obtain ⟨m1, m2⟩ := hmm.put (i := q) (by rw [List.length_set]; exact hq) (gt d p)
      refine wp_store_mid ET (.tmp tb2) (.tmp tl2) hop g (q * 9) (nine c (gt d p)).toArray ((hvl b2 tb2 (hbd b2 w6) n7 n8 d4).trans hvb2) ((hvl l2 tl2 (hbd l2 w7) x4 x5 d6).trans hv2) (hmm.there (by rw [List.length_set]; exact hq)) (by simpa [h9] using hi9) (hone9 _) ⟨_, rfl, ?_⟩
      refine ⟨fun j hj k1 k2 => ?_, ?_, hS.only.trans m2, fun _ => ?_, fun _ => ?_⟩
      · simp only [if_neg k2] at hj ⊢; exact hS.vals j hj k1 k2
      · simp only [if_true]; exact m1
      · simp only [if_neg x3, if_neg x5]; exact hS.o1 hcs1
      · simp only [if_neg x6]; exact hcs1
    · refine wp_of_run _ (hpure i o ho e1 e2 e3 e4 b W (fun j t hj k1 k2 ht => hvl j t (hbd j hj) k1 k2 ht) hout) ⟨_, rfl, ?_⟩
      refine ⟨fun j hj k1 k2 => ?_, ?_, hS.only, fun h => ?_, fun h => ?_⟩
      · by_cases e : j = i
        · subst e; simp
        · simp only [if_neg e] at hj ⊢; exact hS.vals j hj k1 k2
      · simp only [if_neg (Ne.symm e3), if_neg (Ne.symm e4)]; exact hS.mem
      · simp only [if_neg (Ne.symm e3)] at h
        obtain ⟨k1, k2⟩ := hS.o1 h
        exact ⟨by split; rfl; exact k1, by split; rfl; exact k2⟩
      · simp only [if_neg (Ne.symm e4)] at h
        simp only [if_neg (Ne.symm e3)]; exact hS.o2 h
  · intro cc vs W hS hall
    have hm2 := hS.mem
    rw [hall s2 hsz.2, if_pos rfl] at hm2
    have := hend W hm2 hS.only
    rw [← hpv, List.range_eq_range', ← putL_putP ops vs val] at this
    · rw [List.range_eq_range']; exact this
    · intro i _ hi
      obtain ⟨o1, h1, -, h2⟩ := hs1
      obtain ⟨o2, h3, -, h4⟩ := hs2
      by_cases e1 : i = s1
      · left; subst e1; simp [dstOf, h1, h2]
      · by_cases e2 : i = s2
        · left; subst e2; simp [dstOf, h3, h4]
        · exact .inr (hS.vals i (hall i (by omega)) e1 e2)
end Go.Proofs.Ytennddlihcamnaa.Sr
