/- A row of structs of nine cells that a sort works on; swapRangeCmpFunc. A region that changes two things of a row about: one rule for all its orders. swapRangeCmpFunc. rotateCmpFunc. A region that compares two things of a row: one rule for all its orders. symMergeCmpFunc where the left list is of one thing. -/
import Derived.Test.YtennddlihcamnaaProg
import Derived.Test.YtennddlihcamnaaMem
import Derived.Test.YtennddlihcamnaaSoA
import Derived.Test.YtennddlihcamnaaGrow
import Derived.Laws.OwnMore
import Derived.IntWalk
import Derived.Deep.MidRow

namespace Go.Proofs.Ytennddlihcamnaa.Sr
set_option linter.unusedVariables false
set_option linter.unusedSimpArgs false
open Go.Proofs.Ytennddlihcamnaa.So
open Go.RowKit
variable {α : Type}

/-- The nine cells of a thing. -/
def nine (c : α → Nat → Value) (x : α) : List Value := [c x 0, c x 1, c x 2, c x 3, c x 4, c x 5, c x 6, c x 7, c x 8]
def flat (c : α → Nat → Value) (d : List α) : List Value := d.flatMap (nine c)
def gt [Inhabited α] (d : List α) (i : Nat) : α := d.getD i default
theorem gt_eq [Inhabited α] {d : List α} {i : Nat} (h : i < d.length) : d[i] = gt d i := by simp [gt, List.getD, List.getElem?_eq_getElem h]
theorem flat_len (c : α → Nat → Value) (d : List α) : (flat c d).length = d.length * 9 := by
  induction d with
  | nil => rfl
  | cons x r ih => simp only [flat, nine, List.flatMap_cons, List.length_append, List.length_cons, List.length_nil] at ih ⊢; omega
theorem nine_get (c : α → Nat → Value) (x : α) {j : Nat} (hj : j < 9) : (nine c x)[j]? = some (c x j) := by
  have : j = 0 ∨ j = 1 ∨ j = 2 ∨ j = 3 ∨ j = 4 ∨ j = 5 ∨ j = 6 ∨ j = 7 ∨ j = 8 := by omega
  rcases this with rfl | rfl | rfl | rfl | rfl | rfl | rfl | rfl | rfl <;> rfl
theorem flat_get [Inhabited α] (c : α → Nat → Value) : ∀ (d : List α) (i j : Nat), i < d.length → j < 9 → (flat c d)[i * 9 + j]? = some (c (gt d i) j)
  | [], i, _, hi, _ => absurd hi (by simp)
  | x :: r, 0, j, _, hj => by
    rw [show 0 * 9 + j = j by omega]
    simp only [flat, List.flatMap_cons]
    rw [List.getElem?_append_left (by simp [nine]; omega), nine_get c x hj]
    rfl
  | x :: r, i + 1, j, hi, hj => by
    have h := flat_get c r i j (by simpa using hi) hj
    simp only [flat, List.flatMap_cons] at h ⊢
    rw [List.getElem?_append_right (by simp [nine]; omega)]
    have e : (i + 1) * 9 + j - (nine c x).length = i * 9 + j := by simp [nine]; omega
    rw [e, h]
    rfl
/-- The row: memory of the call's own, that holds the things d. -/
def RowE (c : α → Nat → Value) (w : World) (base g cap : Nat) (d : List α) : Prop := w.ownsRow base 37 9 (.slice (some ⟨g, 0, none⟩) d.length cap) d.length (flat c d)
section
variable {c : α → Nat → Value} {w w' : World} {base g cap : Nat} {d : List α}
theorem RowE.cell [Inhabited α] (h : RowE c w base g cap d) {i : Nat} (hi : i < d.length) {j : Nat} (hj : j < 9) : w.cell? ⟨g, i * 9 + j, none⟩ = some (c (gt d i) j) := by
  rw [World.ownsRow.cellAt h _ (by omega), flat_get c d i j hi hj]
theorem RowE.frozen (h : RowE c w base g cap d) (j : Nat) : w.frozen? ⟨g, j, none⟩ = false := World.ownsRow.frozenAt h j
theorem RowE.below (h : RowE c w base g cap d) (hb : Below w.heap.size w w') : RowE c w' base g cap d := own_below h hb
theorem RowE.lt (h : RowE c w base g cap d) : base ≤ g ∧ g < w.heap.size := World.ownsRow.lt h g rfl
def setsAt (xs : List Value) (o : Nat) : List Value → List Value
  | [] => xs
  | v :: r => setsAt (xs.set o v) (o + 1) r
theorem setsAt_len : ∀ (vs xs : List Value) (o : Nat), (setsAt xs o vs).length = xs.length
  | [], _, _ => rfl
  | v :: r, xs, o => by rw [setsAt, setsAt_len r]; simp
theorem setsAt_eq : ∀ (vs xs : List Value) (o : Nat), o + vs.length ≤ xs.length → setsAt xs o vs = xs.take o ++ vs ++ xs.drop (o + vs.length)
  | [], xs, o, _ => by simp [setsAt]
  | v :: r, xs, o, h => by
    rw [List.length_cons] at h
    rw [setsAt, setsAt_eq r (xs.set o v) (o + 1) (by rw [List.length_set]; omega)]
    have e1 : (xs.set o v).take (o + 1) = xs.take o ++ [v] := by
      rw [List.take_add_one, List.take_set_of_le (by omega), List.getElem?_set_self (by omega)]
      rfl
    have e2 : (xs.set o v).drop (o + 1 + r.length) = xs.drop (o + (v :: r).length) := by
      rw [List.drop_set_of_lt (by omega), List.length_cons, show o + 1 + r.length = o + (r.length + 1) by omega]
    rw [e1, e2]
    simp
theorem flat_app (c : α → Nat → Value) (a b : List α) : flat c (a ++ b) = flat c a ++ flat c b := by simp [flat]
theorem flat_cons (c : α → Nat → Value) (x : α) (r : List α) : flat c (x :: r) = nine c x ++ flat c r := by simp [flat]
theorem flat_set {i : Nat} (hi : i < d.length) (x : α) : setsAt (flat c d) (i * 9) (nine c x) = flat c (d.set i x) := by
  have hl : (nine c x).length = 9 := rfl
  rw [setsAt_eq _ _ _ (by rw [hl, flat_len]; omega), hl]
  have e0 : d = d.take i ++ d[i] :: d.drop (i + 1) := by rw [← List.drop_eq_getElem_cons hi, List.take_append_drop]
  have e1 : d.set i x = d.take i ++ x :: d.drop (i + 1) := by rw [List.set_eq_take_append_cons_drop, if_pos hi]
  have hli : (flat c (d.take i)).length = i * 9 := by rw [flat_len, List.length_take]; congr 1; omega
  have h9 : (nine c d[i]).length = 9 := rfl
  have e2 : flat c d = flat c (d.take i) ++ (nine c d[i] ++ flat c (d.drop (i + 1))) := by
    conv => lhs; rw [e0]
    rw [flat_app, flat_cons]
  rw [e1, flat_app]
  conv => lhs; rw [e2]
  rw [List.take_left' hli]
  have e3 : (flat c (d.take i) ++ (nine c d[i] ++ flat c (d.drop (i + 1)))).drop (i * 9 + 9) = flat c (d.drop (i + 1)) := by
    rw [← List.drop_drop, List.drop_left' hli, List.drop_left' h9]
  rw [e3, flat_cons, List.append_assoc]
theorem own_sets {xs : List Value} {n : Nat} {e : TypeId} : ∀ (vs : List Value) (o : Nat) (w : World) (xs : List Value), w.ownsRow base e 9 (.slice (some ⟨g, 0, none⟩) n cap) n xs →
    (w.setCells g o vs).ownsRow base e 9 (.slice (some ⟨g, 0, none⟩) n cap) n (setsAt xs o vs) ∧ Only g w (w.setCells g o vs)
  | [], _, w, _, h => ⟨h, Only.refl g w⟩
  | v :: r, o, w, xs, h => by
    have h1 := (World.ownsRow.stored h o v).1
    obtain ⟨h2, h3⟩ := own_sets (xs := xs) r (o + 1) _ _ h1
    exact ⟨h2, ((Only.refl g w).setCell (.inl rfl) v).trans h3⟩
theorem RowE.put (h : RowE c w base g cap d) {i : Nat} (hi : i < d.length) (x : α) : RowE c (w.setCells g (i * 9) (nine c x)) base g cap (d.set i x) ∧ Only g w (w.setCells g (i * 9) (nine c x)) := by
  obtain ⟨h1, h2⟩ := own_sets (xs := flat c d) (nine c x) (i * 9) w _ h
  rw [flat_set hi x] at h1
  exact ⟨by unfold RowE; rw [List.length_set]; exact h1, h2⟩
/-- Two things changed about. -/
def sw [Inhabited α] (d : List α) (p q : Nat) : List α := (d.set p (gt d q)).set q (gt d p)
theorem sw_len [Inhabited α] (d : List α) (p q : Nat) : (sw d p q).length = d.length := by simp [sw]
theorem RowE.swap [Inhabited α] (h : RowE c w base g cap d) {p q : Nat} (hp : p < d.length) (hq : q < d.length) : RowE c ((w.setCells g (p * 9) (nine c (gt d q))).setCells g (q * 9) (nine c (gt d p))) base g cap (sw d p q) ∧ Only g w ((w.setCells g (p * 9) (nine c (gt d q))).setCells g (q * 9) (nine c (gt d p))) := by
  obtain ⟨h1, o1⟩ := h.put hp (gt d q)
  obtain ⟨h2, o2⟩ := h1.put (i := q) (by rw [List.length_set]; exact hq) (gt d p)
  exact ⟨h2, o1.trans o2⟩
end
def swr [Inhabited α] (d : List α) (a b n : Nat) : List α := (List.range n).foldl (fun d i => sw d (a + i) (b + i)) d
theorem swr_succ [Inhabited α] (d : List α) (a b n : Nat) : swr d a b (n + 1) = sw (swr d a b n) (a + n) (b + n) := by simp [swr, List.range_succ]
theorem swr_len [Inhabited α] (d : List α) (a b : Nat) : ∀ n, (swr d a b n).length = d.length
  | 0 => rfl
  | n + 1 => by rw [swr_succ, sw_len, swr_len d a b n]

end Go.Proofs.Ytennddlihcamnaa.Sr

namespace Go.Proofs.Ytennddlihcamnaa.Sr
set_option linter.unusedVariables false
set_option linter.unusedSimpArgs false
open Go.Proofs.Ytennddlihcamnaa.So
open Go.RowKit
variable {α : Type} [Inhabited α]

/-- How far the exchange is. -/
structure SwS (c : α → Nat → Value) (base g cap : Nat) (d : List α) (p q : Nat) (val : Nat → Value) (l1 l2 s1 s2 : Nat) (wr : World) (cc : Nat → Bool) (vs : Nat → Value) (w : World) : Prop where
  vals : ∀ i, cc i = true → i ≠ s1 → i ≠ s2 → vs i = val i
  mem : RowE c w base g cap (if cc s2 = true then sw d p q else if cc s1 = true then d.set p (gt d q) else d)
  only : Only g wr w
  o1 : cc s1 = true → cc l1 = true ∧ cc l2 = true
  o2 : cc s2 = true → cc s1 = true
section
variable {c : α → Nat → Value} {w : World} {base g cap : Nat} {d : List α}
theorem RowE.range (h : RowE c w base g cap d) {i : Nat} (hi : i < d.length) : w.rangeAt g (i * 9) (nine c (gt d i)) := fun j v hj => by
  have h9 : j < 9 := (List.getElem?_eq_some_iff.1 hj).1
  rw [h.cell hi h9]
  rw [nine_get c _ h9] at hj
  exact hj
theorem RowE.there (h : RowE c w base g cap d) {i : Nat} (hi : i < d.length) : w.there g (i * 9) 9 := fun j hj => by
  rw [h.cell hi hj]
  exact ⟨rfl, h.frozen _⟩
end
theorem gt_set_ne {d : List α} {p q : Nat} {x : α} (h : q ≠ p) : gt (d.set p x) q = gt d q := by
  unfold gt
  rw [List.getD_eq_getElem?_getD, List.getD_eq_getElem?_getD, List.getElem?_set_ne (Ne.symm h)]

/-- The puts of temporaries with their values. -/
def putP : List (Option Tmp × Value) → Act → Act
  | [], a => a
  | (d, v) :: r, a => putP r (a.put d v)
theorem putL_putP (ops : Array Oper) (vs val : Nat → Value) : ∀ (n k : Nat) (a : Act), (∀ i, k ≤ i → i < k + n → dstOf ops i = none ∨ vs i = val i) → putL ((List.range' k n).map (dstOf ops)) vs k a = putP ((List.range' k n).map fun i => (dstOf ops i, val i)) a
  | 0, _, _, _ => rfl
  | n + 1, k, a, h => by
    simp only [List.range'_succ, List.map_cons, putL, putP]
    rw [putL_putP ops vs val n (k + 1) _ fun i h1 h2 => h i (by omega) (by omega)]
    rcases h k (Nat.le_refl _) (by omega) with h0 | h0
    · rw [h0]; rfl
    · rw [h0]

theorem wp_swap {P : Program} {ops : Array Oper} {Q : Exit → Act → World → Prop} {id : Nat} {a : Act} {w : World} (hm : P.follows .mixedOrders = true) (hg : growable ops a.tmps.size = true)
    (c : α → Nat → Value) (hone : ∀ x j, (c x j).oneCell' = true) (base g cap : Nat) (d : List α) (p q : Nat) (hp : p < d.length) (hq : q < d.length) (hmem : RowE c w base g cap d)
    (ET : TypeId) (fs : Array Field) (hu : P.underlying ET = some (.struct fs)) (hi9 : (P.info? ET).map (·.size) = some 9)
    (val : Nat → Value) (l1 l2 s1 s2 a1 a2 b1 b2 : Nat) (ta1 ta2 tb1 tb2 tl1 tl2 : Tmp)
    (hv1 : val l1 = .agg (nine c (gt d q)).toArray) (hv2 : val l2 = .agg (nine c (gt d p)).toArray)
    (hva1 : val a1 = .pointer (some ⟨g, q * 9, none⟩)) (hva2 : val a2 = .pointer (some ⟨g, p * 9, none⟩)) (hvb1 : val b1 = .pointer (some ⟨g, p * 9, none⟩)) (hvb2 : val b2 = .pointer (some ⟨g, q * 9, none⟩))
    (hl1 : ∃ o, ops[l1]? = some o ∧ o.op = .load ET (.tmp ta1)) (hl2 : ∃ o, ops[l2]? = some o ∧ o.op = .load ET (.tmp ta2))
    (hs1 : ∃ o, ops[s1]? = some o ∧ o.op = .store ET (.tmp tb1) (.tmp tl1) ∧ o.dst = none) (hs2 : ∃ o, ops[s2]? = some o ∧ o.op = .store ET (.tmp tb2) (.tmp tl2) ∧ o.dst = none)
    (hd : dstOf ops a1 = some ta1 ∧ dstOf ops a2 = some ta2 ∧ dstOf ops b1 = some tb1 ∧ dstOf ops b2 = some tb2 ∧ dstOf ops l1 = some tl1 ∧ dstOf ops l2 = some tl2)
    (hw : (waits ops l1 a1 && waits ops l2 a2 && waits ops s1 b1 && waits ops s1 l1 && waits ops s1 l2 && waits ops s2 b2 && waits ops s2 l2 && waits ops s2 s1) = true)
    (hne : [l1, l2, s1, s2].Nodup ∧ a1 ≠ s1 ∧ a1 ≠ s2 ∧ a2 ≠ s1 ∧ a2 ≠ s2 ∧ b1 ≠ s1 ∧ b1 ≠ s2 ∧ b2 ≠ s1 ∧ b2 ≠ s2)
    (hpure : ∀ (i : Nat) (o : Oper), ops[i]? = some o → i ≠ l1 → i ≠ l2 → i ≠ s1 → i ≠ s2 → ∀ (b : Act) (W : World), (∀ j t, waits ops i j = true → j ≠ s1 → j ≠ s2 → dstOf ops j = some t → b.eval (.tmp t) = val j) → (∀ t, outer ops t = true → b.eval (.tmp t) = a.eval (.tmp t)) →
      (execOp b.eval o).run P W = .ok (.value (val i)) W)
    (pv : List (Option Tmp × Value)) (hpv : (List.range ops.size).map (fun i => (dstOf ops i, val i)) = pv)
    (hend : ∀ (w' : World), RowE c w' base g cap (sw d p q) → Only g w w' → Q .normal (putP pv a) w')
    (hsz : s1 < ops.size ∧ s2 < ops.size) :
    (Code.region id ops true).wp P Q a w := by
  simp only [Bool.and_eq_true] at hw
  obtain ⟨⟨⟨⟨⟨⟨⟨w1, w2⟩, w3⟩, w4⟩, w5⟩, w6⟩, w7⟩, w8⟩ := hw
  obtain ⟨d1, d2, d3, d4, d5, d6⟩ := hd
  obtain ⟨hnd, n1, n2, n3, n4, n5, n6, n7, n8⟩ := hne
  simp only [List.nodup_cons, List.mem_cons, not_or, List.not_mem_nil, not_false_eq_true, and_true, List.nodup_nil] at hnd
  obtain ⟨⟨x1, x2, x3⟩, ⟨x4, x5⟩, x6⟩ := hnd
  have h9 : ∀ x : α, (nine c x).length = 9 := fun _ => rfl
  have hone9 : ∀ x : α, (nine c x).toArray.all (·.oneCell') = true := fun x => all_oneCell_toArray (fun v hv => by
    simp [nine] at hv
    rcases hv with rfl | rfl | rfl | rfl | rfl | rfl | rfl | rfl | rfl <;> exact hone x _)
  refine wp_region_steps hm hg (SwS c base g cap d p q val l1 l2 s1 s2 w) ?_ ?_ _ rfl ?_
  · exact ⟨fun i hi => (by cases hi), (by rw [if_neg (by simp), if_neg (by simp)]; exact own_drewN hmem 1), (Only.refl g w).drewN 1, fun h => (by cases h), fun h => (by cases h)⟩
  · intro i o ho cc vs W b hS hci hbd hev hout
    have hvl : ∀ j t, cc j = true → j ≠ s1 → j ≠ s2 → dstOf ops j = some t → b.eval (.tmp t) = val j := fun j t hj h1 h2 ht => (hev j t hj ht).trans (hS.vals j hj h1 h2)
    by_cases e1 : i = l1
    · subst e1
      obtain ⟨o', ho', hop⟩ := hl1
      obtain rfl : o = o' := by rw [ho] at ho'; exact Option.some.inj ho'
      have hcs1 : cc s1 = false := by cases hq1 : cc s1; rfl; rw [(hS.o1 hq1).1] at hci; cases hci
      have hcs2 : cc s2 = false := by cases hq1 : cc s2; rfl; rw [hS.o2 hq1] at hcs1; cases hcs1
      have hmm := hS.mem
      rw [hcs2, hcs1, if_neg (by simp), if_neg (by simp)] at hmm
      refine wp_load_mid ET (.tmp ta1) hop g (q * 9) ((hvl a1 ta1 (hbd a1 w1) n1 n2 d1).trans hva1) (nine c (gt d q)) _ (hmm.range hq) hu rfl (by rw [h9]; exact hi9) ⟨_, rfl, ?_⟩
      refine ⟨fun j hj k1 k2 => ?_, ?_, hS.only, fun h => ?_, fun h => ?_⟩
      · by_cases e : j = i
        · subst e; simp [hv1]
        · simp only [if_neg e] at hj ⊢; exact hS.vals j hj k1 k2
      · simp only [if_neg (Ne.symm x2), if_neg (Ne.symm x3)]; exact hS.mem
      · simp only [if_neg (Ne.symm x2)] at h; rw [hcs1] at h; cases h
      · simp only [if_neg (Ne.symm x3)] at h; rw [hcs2] at h; cases h
    by_cases e2 : i = l2
    · subst e2
      obtain ⟨o', ho', hop⟩ := hl2
      obtain rfl : o = o' := by rw [ho] at ho'; exact Option.some.inj ho'
      have hcs1 : cc s1 = false := by cases hq1 : cc s1; rfl; rw [(hS.o1 hq1).2] at hci; cases hci
      have hcs2 : cc s2 = false := by cases hq1 : cc s2; rfl; rw [hS.o2 hq1] at hcs1; cases hcs1
      have hmm := hS.mem
      rw [hcs2, hcs1, if_neg (by simp), if_neg (by simp)] at hmm
      refine wp_load_mid ET (.tmp ta2) hop g (p * 9) ((hvl a2 ta2 (hbd a2 w2) n3 n4 d2).trans hva2) (nine c (gt d p)) _ (hmm.range hp) hu rfl (by rw [h9]; exact hi9) ⟨_, rfl, ?_⟩
      refine ⟨fun j hj k1 k2 => ?_, ?_, hS.only, fun h => ?_, fun h => ?_⟩
      · by_cases e : j = i
        · subst e; simp [hv2]
        · simp only [if_neg e] at hj ⊢; exact hS.vals j hj k1 k2
      · simp only [if_neg (Ne.symm x4), if_neg (Ne.symm x5)]; exact hS.mem
      · simp only [if_neg (Ne.symm x4)] at h; rw [hcs1] at h; cases h
      · simp only [if_neg (Ne.symm x5)] at h; rw [hcs2] at h; cases h
    by_cases e3 : i = s1
    · subst e3
      obtain ⟨o', ho', hop, hod⟩ := hs1
      obtain rfl : o = o' := by rw [ho] at ho'; exact Option.some.inj ho'
      have hcs2 : cc s2 = false := by cases hq1 : cc s2; rfl; rw [hS.o2 hq1] at hci; cases hci
      have hmm := hS.mem
      rw [hcs2, hci, if_neg (by simp), if_neg (by simp)] at hmm
      obtain ⟨m1, m2⟩ := hmm.put hp (gt d q)
      refine wp_store_mid ET (.tmp tb1) (.tmp tl1) hop g (p * 9) (nine c (gt d q)).toArray ((hvl b1 tb1 (hbd b1 w3) n5 n6 d3).trans hvb1) ((hvl l1 tl1 (hbd l1 w4) x2 x3 d5).trans hv1) (hmm.there hp) (by simpa [h9] using hi9) (hone9 _) ⟨_, rfl, ?_⟩
      refine ⟨fun j hj k1 k2 => ?_, ?_, hS.only.trans m2, fun _ => ?_, fun h => ?_⟩
      · simp only [if_neg k1] at hj ⊢; exact hS.vals j hj k1 k2
      · simp only [if_neg (Ne.symm x6), hcs2, if_true, Bool.false_eq_true, if_false]; exact m1
      · simp only [if_neg x2, if_neg x4]; exact ⟨hbd l1 w4, hbd l2 w5⟩
      · simp only [if_true]
    by_cases e4 : i = s2
    · subst e4
      obtain ⟨o', ho', hop, hod⟩ := hs2
      obtain rfl : o = o' := by rw [ho] at ho'; exact Option.some.inj ho'
      have hcs1 : cc s1 = true := hbd s1 w8
      have hmm := hS.mem
      rw [hci, hcs1, if_neg (by simp), if_pos rfl] at hmm
      obtain ⟨m1, m2⟩ := hmm.put (i := q) (by rw [List.length_set]; exact hq) (gt d p)
      refine wp_store_mid ET (.tmp tb2) (.tmp tl2) hop g (q * 9) (nine c (gt d p)).toArray ((hvl b2 tb2 (hbd b2 w6) n7 n8 d4).trans hvb2) ((hvl l2 tl2 (hbd l2 w7) x4 x5 d6).trans hv2) (hmm.there (by rw [List.length_set]; exact hq)) (by simpa [h9] using hi9) (hone9 _) ⟨_, rfl, ?_⟩
      refine ⟨fun j hj k1 k2 => ?_, ?_, hS.only.trans m2, fun _ => ?_, fun _ => ?_⟩
      · simp only [if_neg k2] at hj ⊢; exact hS.vals j hj k1 k2
      · simp only [if_true]; exact m1
      · simp only [if_neg x3, if_neg x5]; exact hS.o1 hcs1
      · simp only [if_neg x6]; exact hcs1
    · refine wp_of_run _ (hpure i o ho e1 e2 e3 e4 b W (fun j t hj k1 k2 ht => hvl j t (hbd j hj) k1 k2 ht) hout) ⟨_, rfl, ?_⟩
      refine ⟨fun j hj k1 k2 => ?_, ?_, hS.only, fun h => ?_, fun h => ?_⟩
      · by_cases e : j = i
        · subst e; simp
        · simp only [if_neg e] at hj ⊢; exact hS.vals j hj k1 k2
      · simp only [if_neg (Ne.symm e3), if_neg (Ne.symm e4)]; exact hS.mem
      · simp only [if_neg (Ne.symm e3)] at h
        obtain ⟨k1, k2⟩ := hS.o1 h
        exact ⟨by split; rfl; exact k1, by split; rfl; exact k2⟩
      · simp only [if_neg (Ne.symm e4)] at h
        simp only [if_neg (Ne.symm e3)]; exact hS.o2 h
  · intro cc vs W hS hall
    have hm2 := hS.mem
    rw [hall s2 hsz.2, if_pos rfl] at hm2
    have := hend W hm2 hS.only
    rw [← hpv, List.range_eq_range', ← putL_putP ops vs val] at this
    · rw [List.range_eq_range']; exact this
    · intro i _ hi
      obtain ⟨o1, h1, -, h2⟩ := hs1
      obtain ⟨o2, h3, -, h4⟩ := hs2
      by_cases e1 : i = s1
      · left; subst e1; simp [dstOf, h1, h2]
      · by_cases e2 : i = s2
        · left; subst e2; simp [dstOf, h3, h4]
        · exact .inr (hS.vals i (hall i (by omega)) e1 e2)
end Go.Proofs.Ytennddlihcamnaa.Sr

namespace Go.Proofs.Ytennddlihcamnaa.Sr
set_option linter.unusedVariables false
set_option linter.unusedSimpArgs false
open Go.Proofs.Ytennddlihcamnaa.So
open Go.RowKit

theorem run_move {P : Program} {o : Oper} {b : Act} (W : World) (x : Operand) (ho : o.op = .move x) {v : Value} (hx : b.eval x = v) : (execOp b.eval o).run P W = .ok (.value v) W := by
  unfold execOp
  simp [ho, hx]
theorem run_add {P : Program} {o : Oper} {b : Act} (W : World) (x y : Operand) {t t' : TypeId} (ho : o.op = .binOp .add t x y t') {u v r : Int} (hx : b.eval x = .int .i64 u) (hy : b.eval y = .int .i64 v) (hr : IntKind.i64.wrap (u + v) = r) : (execOp b.eval o).run P W = .ok (.value (.int .i64 r)) W := by
  unfold execOp
  simp only [ho, hx, hy]
  simp [go_sem, hr]
theorem run_sub {P : Program} {o : Oper} {b : Act} (W : World) (x y : Operand) {t t' : TypeId} (ho : o.op = .binOp .sub t x y t') {u v r : Int} (hx : b.eval x = .int .i64 u) (hy : b.eval y = .int .i64 v) (hr : IntKind.i64.wrap (u - v) = r) : (execOp b.eval o).run P W = .ok (.value (.int .i64 r)) W := by
  unfold execOp
  simp only [ho, hx, hy]
  simp [go_sem, hr]
theorem idx_run {g cap n : Nat} (W : World) {i : Nat} (hi : i < n) {x : Int} (hx : x = (i : Int)) : (Instr.indexAt 33 (.slice (some ⟨g, 0, none⟩) n cap) (.int .i64 x)).run Try.prog W = .ok (.pointer (some ⟨g, i * 9, none⟩)) W := by
  subst hx
  have h1 : (i : Int) < (n : Int) := by omega
  simp [go_sem, h1]
theorem run_idx {o : Oper} {b : Act} (W : World) (x y : Operand) (ho : o.op = .indexAddr 33 x y) {u v r : Value} (hx : b.eval x = u) (hy : b.eval y = v) (hr : ∀ W, (Instr.indexAt 33 u v).run Try.prog W = .ok r W) : (execOp b.eval o).run Try.prog W = .ok (.value r) W := by
  unfold execOp
  simp [ho, hx, hy, hr]
variable {α : Type} [Inhabited α]

set_option maxRecDepth 100000 in
set_option maxHeartbeats 3200000 in
theorem swapRange_calls (c : α → Nat → Value) (h1 : ∀ x j, (c x j).oneCell' = true) (d : List α) (base g cap a b n : Nat) (fv : Value) (w : World) (h : RowE c w base g cap d) (hab : a + n ≤ b) (hb : b + n ≤ d.length) (hd : d.length ≤ 4398046511104) :
    Calls Try.prog 89 #[.slice (some ⟨g, 0, none⟩) d.length cap, .int .i64 (a : Int), .int .i64 (b : Int), .int .i64 (n : Int), fv] w fun e w' =>
      e = .returned (.tuple #[]) ∧ RowE c w' base g cap (swr d a b n) ∧ Only g w w' := by
  have H0 := Lib.hid h
  have H1 := Lib.hid h1
  clear h h1
  go_enter Try.func89, Try.ntmps89
  go_wp2
  go_loopw [10] (fun i wr => ∃ k : Nat, k ≤ n ∧ i = .int .i64 (k : Int) ∧ Hid (RowE c wr base g cap (swr d a b k)) ∧ Only g w wr) (fun i _ => n - (intOf i).toNat)
  case atStart => exact ⟨0, Nat.zero_le _, rfl, Lib.hid H0.out, Only.refl _ _⟩
  case round =>
    obtain ⟨k, hk, rfl, HR, honly⟩ := hrel
    by_cases hlt : k < n
    · have hl : (swr d a b k).length = d.length := swr_len d a b k
      have Hsn : Hid (swr d a b (k + 1) = sw (swr d a b k) (a + k) (b + k)) := Lib.hid (swr_succ d a b k)
      have kw1 : IntKind.i64.wrap ((a : Int) + (k : Int)) = (a : Int) + (k : Int) := IntWalk.i64_in _ (by omega)
      have kw2 : IntKind.i64.wrap ((b : Int) + (k : Int)) = (b : Int) + (k : Int) := IntWalk.i64_in _ (by omega)
      have ia1 := fun W => idx_run (g := g) (cap := cap) (n := d.length) W (i := a + k) (by omega) (x := (a : Int) + (k : Int)) (by omega)
      have ia2 := fun W => idx_run (g := g) (cap := cap) (n := d.length) W (i := b + k) (by omega) (x := (b : Int) + (k : Int)) (by omega)
      have HLn := Lib.hid hl
      have hpl : a + k < (swr d a b k).length := by omega
      have hql : b + k < (swr d a b k).length := by omega
      clear hl
      go_wp2_with fail
      refine wp_swap (by kernel_rfl) (by kernel_rfl) c H1.out base g cap (swr d a b k) (a + k) (b + k) (by omega) (by omega) HR.out 37 _ Try.underlying37 (by kernel_rfl)
        (fun i => (#[.slice (some ⟨g, 0, none⟩) d.length cap, .int .i64 (a : Int), .int .i64 (k : Int), .int .i64 ((a : Int) + (k : Int)), .slice (some ⟨g, 0, none⟩) d.length cap, .int .i64 (b : Int), .int .i64 (k : Int), .int .i64 ((b : Int) + (k : Int)), .slice (some ⟨g, 0, none⟩) d.length cap, .int .i64 (b : Int), .int .i64 (k : Int), .int .i64 ((b : Int) + (k : Int)), .pointer (some ⟨g, (b + k) * 9, none⟩), .agg (nine c (gt (swr d a b k) (b + k))).toArray, .slice (some ⟨g, 0, none⟩) d.length cap, .int .i64 (a : Int), .int .i64 (k : Int), .int .i64 ((a : Int) + (k : Int)), .pointer (some ⟨g, (a + k) * 9, none⟩), .agg (nine c (gt (swr d a b k) (a + k))).toArray, .pointer (some ⟨g, (a + k) * 9, none⟩), undef, .pointer (some ⟨g, (b + k) * 9, none⟩), undef] : Array Value).getD i undef) 13 19 21 23 12 18 20 22 28 34 36 37 29 35 rfl rfl rfl rfl rfl rfl ⟨_, rfl, rfl⟩ ⟨_, rfl, rfl⟩ ⟨_, rfl, rfl, rfl⟩ ⟨_, rfl, rfl, rfl⟩ (by exact ⟨rfl, rfl, rfl, rfl, rfl, rfl⟩) (by kernel_rfl) (by decide) ?_ [(some 16, .slice (some ⟨g, 0, none⟩) d.length cap), (some 17, .int .i64 (a : Int)), (some 18, .int .i64 (k : Int)), (some 19, .int .i64 ((a : Int) + (k : Int))), (some 20, .slice (some ⟨g, 0, none⟩) d.length cap), (some 21, .int .i64 (b : Int)), (some 22, .int .i64 (k : Int)), (some 23, .int .i64 ((b : Int) + (k : Int))), (some 24, .slice (some ⟨g, 0, none⟩) d.length cap), (some 25, .int .i64 (b : Int)), (some 26, .int .i64 (k : Int)), (some 27, .int .i64 ((b : Int) + (k : Int))), (some 28, .pointer (some ⟨g, (b + k) * 9, none⟩)), (some 29, .agg (nine c (gt (swr d a b k) (b + k))).toArray), (some 30, .slice (some ⟨g, 0, none⟩) d.length cap), (some 31, .int .i64 (a : Int)), (some 32, .int .i64 (k : Int)), (some 33, .int .i64 ((a : Int) + (k : Int))), (some 34, .pointer (some ⟨g, (a + k) * 9, none⟩)), (some 35, .agg (nine c (gt (swr d a b k) (a + k))).toArray), (some 36, .pointer (some ⟨g, (a + k) * 9, none⟩)), (none, undef), (some 37, .pointer (some ⟨g, (b + k) * 9, none⟩)), (none, undef)] rfl ?_ (by exact ⟨by decide, by decide⟩)
      · intro i o ho k1 k2 k3 k4 b' W hev hout
        rcases i with _ | _ | _ | _ | _ | _ | _ | _ | _ | _ | _ | _ | _ | _ | _ | _ | _ | _ | _ | _ | _ | _ | _ | _ | i
        · cases ho
          exact run_move W (.tmp 0) rfl ((hout 0 (by kernel_rfl)).trans rfl)
        · cases ho
          exact run_move W (.tmp 1) rfl ((hout 1 (by kernel_rfl)).trans rfl)
        · cases ho
          exact run_move W (.tmp 10) rfl ((hout 10 (by kernel_rfl)).trans rfl)
        · cases ho
          exact run_add W (.tmp 17) (.tmp 18) rfl (hev 1 17 (by kernel_rfl) (by decide) (by decide) rfl) (hev 2 18 (by kernel_rfl) (by decide) (by decide) rfl) kw1
        · cases ho
          exact run_move W (.tmp 0) rfl ((hout 0 (by kernel_rfl)).trans rfl)
        · cases ho
          exact run_move W (.tmp 2) rfl ((hout 2 (by kernel_rfl)).trans rfl)
        · cases ho
          exact run_move W (.tmp 10) rfl ((hout 10 (by kernel_rfl)).trans rfl)
        · cases ho
          exact run_add W (.tmp 21) (.tmp 22) rfl (hev 5 21 (by kernel_rfl) (by decide) (by decide) rfl) (hev 6 22 (by kernel_rfl) (by decide) (by decide) rfl) kw2
        · cases ho
          exact run_move W (.tmp 0) rfl ((hout 0 (by kernel_rfl)).trans rfl)
        · cases ho
          exact run_move W (.tmp 2) rfl ((hout 2 (by kernel_rfl)).trans rfl)
        · cases ho
          exact run_move W (.tmp 10) rfl ((hout 10 (by kernel_rfl)).trans rfl)
        · cases ho
          exact run_add W (.tmp 25) (.tmp 26) rfl (hev 9 25 (by kernel_rfl) (by decide) (by decide) rfl) (hev 10 26 (by kernel_rfl) (by decide) (by decide) rfl) kw2
        · cases ho
          exact run_idx W (.tmp 24) (.tmp 27) rfl (hev 8 24 (by kernel_rfl) (by decide) (by decide) rfl) (hev 11 27 (by kernel_rfl) (by decide) (by decide) rfl) ia2
        · exact absurd rfl k1
        · cases ho
          exact run_move W (.tmp 0) rfl ((hout 0 (by kernel_rfl)).trans rfl)
        · cases ho
          exact run_move W (.tmp 1) rfl ((hout 1 (by kernel_rfl)).trans rfl)
        · cases ho
          exact run_move W (.tmp 10) rfl ((hout 10 (by kernel_rfl)).trans rfl)
        · cases ho
          exact run_add W (.tmp 31) (.tmp 32) rfl (hev 15 31 (by kernel_rfl) (by decide) (by decide) rfl) (hev 16 32 (by kernel_rfl) (by decide) (by decide) rfl) kw1
        · cases ho
          exact run_idx W (.tmp 30) (.tmp 33) rfl (hev 14 30 (by kernel_rfl) (by decide) (by decide) rfl) (hev 17 33 (by kernel_rfl) (by decide) (by decide) rfl) ia1
        · exact absurd rfl k2
        · cases ho
          exact run_idx W (.tmp 16) (.tmp 19) rfl (hev 0 16 (by kernel_rfl) (by decide) (by decide) rfl) (hev 3 19 (by kernel_rfl) (by decide) (by decide) rfl) ia1
        · exact absurd rfl k3
        · cases ho
          exact run_idx W (.tmp 20) (.tmp 23) rfl (hev 4 20 (by kernel_rfl) (by decide) (by decide) rfl) (hev 7 23 (by kernel_rfl) (by decide) (by decide) rfl) ia2
        · exact absurd rfl k4
        · cases ho
      · intro w2 hrow honly2
        clear hpl hql
        simp only [putP]
        go_wp2
        go_roundw
        case rel => exact ⟨k + 1, by omega, by go_num, Lib.hid (by rw [Hsn.out]; exact hrow), honly.trans honly2⟩
        case measure => simp [intOf]; omega
    · obtain rfl : k = n := by omega
      go_wp2
      go_end0
      exact ⟨rfl, HR.out, honly⟩
end Go.Proofs.Ytennddlihcamnaa.Sr

namespace Go.Proofs.Ytennddlihcamnaa.Sr
set_option linter.unusedVariables false
set_option linter.unusedSimpArgs false
open Go.Proofs.Ytennddlihcamnaa.So
open Go.RowKit
variable {α : Type} [Inhabited α]

theorem gt_app_right {A B : List α} {i : Nat} : gt (A ++ B) (A.length + i) = gt B i := by
  unfold gt
  rw [List.getD_eq_getElem?_getD, List.getD_eq_getElem?_getD, List.getElem?_append_right (by omega), Nat.add_sub_cancel_left]
theorem gt_app_left {A B : List α} {i : Nat} (h : i < A.length) : gt (A ++ B) i = gt A i := by
  unfold gt
  rw [List.getD_eq_getElem?_getD, List.getD_eq_getElem?_getD, List.getElem?_append_left h]
theorem gt_zero {x : α} {B : List α} : gt (x :: B) 0 = x := rfl
theorem sw_mid (A M B : List α) (x y : α) {p q : Nat} (hp : p = A.length) (hq : q = A.length + 1 + M.length) : sw (A ++ x :: (M ++ y :: B)) p q = A ++ y :: (M ++ x :: B) := by
  subst hp hq
  have g1 : gt (A ++ x :: (M ++ y :: B)) A.length = x := by
    have := gt_app_right (A := A) (B := x :: (M ++ y :: B)) (i := 0)
    exact this
  have g2 : gt (A ++ x :: (M ++ y :: B)) (A.length + 1 + M.length) = y := by
    have e : A ++ x :: (M ++ y :: B) = (A ++ x :: M) ++ y :: B := by simp
    rw [e, show A.length + 1 + M.length = (A ++ x :: M).length + 0 by simp; omega, gt_app_right]
    rfl
  unfold sw
  rw [g1, g2]
  have e1 : (A ++ x :: (M ++ y :: B)).set A.length y = (A ++ y :: M) ++ y :: B := by
    rw [List.set_append_right _ _ (Nat.le_refl _), Nat.sub_self, List.set_cons_zero]
    simp
  rw [e1, List.set_append_right _ _ (by simp; omega), show A.length + 1 + M.length - (A ++ y :: M).length = 0 by simp; omega, List.set_cons_zero]
  simp
theorem swr_lists : ∀ (n : Nat) (A U M V B : List α), U.length = n → V.length = n → ∀ (a b : Nat), a = A.length → b = A.length + n + M.length → swr (A ++ (U ++ (M ++ (V ++ B)))) a b n = A ++ (V ++ (M ++ (U ++ B)))
  | 0, A, U, M, V, B, hU, hV, a, b, _, _ => by
    rw [List.eq_nil_of_length_eq_zero hU, List.eq_nil_of_length_eq_zero hV]
    rfl
  | n + 1, A, U, M, V, B, hU, hV, a, b, ha, hb => by
    rcases List.eq_nil_or_concat U with rfl | ⟨U', u, rfl⟩
    · simp at hU
    rcases List.eq_nil_or_concat V with rfl | ⟨V', v, rfl⟩
    · simp at hV
    simp only [List.concat_eq_append, List.length_append, List.length_singleton] at hU hV ⊢
    have ih := swr_lists n A U' ([u] ++ M) V' ([v] ++ B) (by omega) (by omega) a b ha (by simp; omega)
    have e1 : A ++ ((U' ++ [u]) ++ (M ++ ((V' ++ [v]) ++ B))) = A ++ (U' ++ (([u] ++ M) ++ (V' ++ ([v] ++ B)))) := by simp
    rw [e1, swr_succ, ih]
    have e2 : A ++ (V' ++ (([u] ++ M) ++ (U' ++ ([v] ++ B)))) = (A ++ V') ++ u :: ((M ++ U') ++ v :: B) := by simp
    rw [e2, sw_mid _ _ _ _ _ (by simp; omega) (by simp; omega)]
    simp

theorem swapRange_n (c : α → Nat → Value) (h1 : ∀ x j, (c x j).oneCell' = true) (N : Nat) (base g cap a b n : Nat) (fv : Value) (w : World) (A U M V B : List α) (h : RowE c w base g cap (A ++ (U ++ (M ++ (V ++ B))))) (hN : (A ++ (U ++ (M ++ (V ++ B)))).length = N) (hU : U.length = n) (hV : V.length = n) (ha : a = A.length) (hb : b = A.length + n + M.length) (hd : N ≤ 4398046511104) :
    Calls Try.prog 89 #[.slice (some ⟨g, 0, none⟩) N cap, .int .i64 (a : Int), .int .i64 (b : Int), .int .i64 (n : Int), fv] w fun e w' =>
      e = .returned (.tuple #[]) ∧ RowE c w' base g cap (A ++ (V ++ (M ++ (U ++ B)))) ∧ Only g w w' := by
  subst hN
  have := swapRange_calls c h1 _ base g cap a b n fv w h (by omega) (by simp; omega) hd
  rw [swr_lists n A U M V B hU hV a b ha hb] at this
  exact this

set_option maxRecDepth 100000 in
set_option maxHeartbeats 3200000 in
theorem rotate_calls (c : α → Nat → Value) (h1 : ∀ x j, (c x j).oneCell' = true) (N : Nat) (base g cap a m b : Nat) (fv : Value) (w : World) (A X Y B : List α) (h : RowE c w base g cap (A ++ (X ++ (Y ++ B)))) (hN : (A ++ (X ++ (Y ++ B))).length = N) (ha : a = A.length) (hm : m = a + X.length) (hb : b = m + Y.length) (hX : 0 < X.length) (hY : 0 < Y.length) (hd : N ≤ 4398046511104) :
    Calls Try.prog 82 #[.slice (some ⟨g, 0, none⟩) N cap, .int .i64 (a : Int), .int .i64 (m : Int), .int .i64 (b : Int), fv] w fun e w' =>
      e = .returned (.tuple #[]) ∧ RowE c w' base g cap (A ++ (Y ++ (X ++ B))) ∧ Only g w w' := by
  have H1 := Lib.hid h1
  have hmN : m + Y.length ≤ N := by rw [← hN]; simp; omega
  have HS : Hid (∃ (A' U V B' : List α), A'.length + X.length = m ∧ U.length = X.length ∧ V.length = Y.length ∧ (A' ++ (U ++ (V ++ B'))).length = N ∧ RowE c w base g cap (A' ++ (U ++ (V ++ B'))) ∧ A ++ (Y ++ (X ++ B)) = A' ++ (V ++ (U ++ B'))) := Lib.hid ⟨A, X, Y, B, by omega, rfl, rfl, hN, h, rfl⟩
  obtain ⟨x, hx⟩ : ∃ x, x = X.length := ⟨_, rfl⟩
  obtain ⟨y, hy⟩ : ∃ y, y = Y.length := ⟨_, rfl⟩
  rw [← hx] at HS hX hm
  rw [← hy] at HS hY hb hmN
  have hxa : a ≤ m := by omega
  have ex : (m : Int) - (a : Int) = (x : Int) := by omega
  have ey : (b : Int) - (m : Int) = (y : Int) := by omega
  have hxm : x ≤ m := by omega
  generalize A ++ (Y ++ (X ++ B)) = T at *
  clear h1 h hN hx hy ha hm hb
  go_enter Try.func82, Try.ntmps82
  go_wp2
  go_loopw [10, 11] (fun vi vj wr => ∃ (i j : Nat), vi = .int .i64 (i : Int) ∧ vj = .int .i64 (j : Int) ∧ 1 ≤ i ∧ 1 ≤ j ∧ i ≤ m ∧ m + j ≤ N ∧ Hid (∃ (A' U V B' : List α), A'.length + i = m ∧ U.length = i ∧ V.length = j ∧ (A' ++ (U ++ (V ++ B'))).length = N ∧ RowE c wr base g cap (A' ++ (U ++ (V ++ B'))) ∧ T = A' ++ (V ++ (U ++ B'))) ∧ Only g w wr) (fun vi vj _ => (intOf vi).toNat + (intOf vj).toNat)
  case atStart => exact ⟨x, y, rfl, rfl, hX, hY, hxm, hmN, HS, Only.refl _ _⟩
  case round =>
    obtain ⟨i, j, rfl, rfl, hi1, hj1, him, hjN, HR, honly⟩ := hrel
    clear ex ey HS
    rcases Nat.lt_trichotomy i j with hij | hij | hij
    · -- the left one is shorter
      have hne : ((i : Int) != (j : Int)) = true := net (by omega)
      have hgt : decide ((j : Int) < (i : Int)) = false := dcf (by omega)
      have hgt' : ¬ (j : Int) < (i : Int) := by omega
      have hsr : Calls Try.prog 89 #[.slice (some ⟨g, 0, none⟩) N cap, .int .i64 ((m : Int) - (i : Int)), .int .i64 ((m : Int) + (j : Int) - (i : Int)), .int .i64 (i : Int), fv] wr fun e w' =>
          e = .returned (.tuple #[]) ∧ (∃ (A' U V B' : List α), A'.length + i = m ∧ U.length = i ∧ V.length = j - i ∧ (A' ++ (U ++ (V ++ B'))).length = N ∧ RowE c w' base g cap (A' ++ (U ++ (V ++ B'))) ∧ T = A' ++ (V ++ (U ++ B'))) ∧ Only g wr w' := by
        obtain ⟨A', U, V, B', q1, q2, q3, q4, q5, q6⟩ := HR.out
        have e0 : V = V.take (j - i) ++ V.drop (j - i) := (List.take_append_drop _ _).symm
        have hr : RowE c wr base g cap (A' ++ (U ++ (V.take (j - i) ++ (V.drop (j - i) ++ B')))) := by
          rw [← List.append_assoc (V.take (j - i)), ← e0]; exact q5
        have hl : (A' ++ (U ++ (V.take (j - i) ++ (V.drop (j - i) ++ B')))).length = N := by
          rw [← List.append_assoc (V.take (j - i)), ← e0]; exact q4
        have hc := swapRange_n c H1.out N base g cap (m - i) (m + j - i) i fv wr A' U (V.take (j - i)) (V.drop (j - i)) B' hr hl q2 (by rw [List.length_drop]; omega) (by omega) (by rw [List.length_take]; omega) hd
        rw [show ((m - i : Nat) : Int) = (m : Int) - (i : Int) by omega, show ((m + j - i : Nat) : Int) = (m : Int) + (j : Int) - (i : Int) by omega] at hc
        refine hc.mono ?_
        rintro e w' ⟨rfl, h2, h3⟩
        refine ⟨rfl, ⟨A', V.drop (j - i), V.take (j - i), U ++ B', q1, by rw [List.length_drop]; omega, by rw [List.length_take]; omega, ?_, h2, ?_⟩, h3⟩
        · have := q4
          simp only [List.length_append, List.length_take, List.length_drop] at this ⊢
          omega
        · rw [q6, ← List.append_assoc (V.take (j - i)), ← e0]
      have HC := Lib.hid hsr
      clear hsr HR
      have i9 : (0 : Int) ≤ (i : Int) := by omega
      go_wp2_with fail
      refine HC.out.mono ?_
      rintro e w1 ⟨rfl, hr1, ho1⟩
      have HR1 := Lib.hid hr1
      clear hr1
      go_wp2
      go_roundw
      case rel => exact ⟨i, j - i, rfl, by go_num, hi1, by omega, him, by omega, HR1, honly.trans ho1⟩
      case measure => simp [intOf]; omega
    · -- both are of one length
      subst hij
      have hne : ((i : Int) != (i : Int)) = false := nef rfl
      have hsr : Calls Try.prog 89 #[.slice (some ⟨g, 0, none⟩) N cap, .int .i64 ((m : Int) - (i : Int)), .int .i64 (m : Int), .int .i64 (i : Int), fv] wr fun e w' =>
          e = .returned (.tuple #[]) ∧ RowE c w' base g cap T ∧ Only g wr w' := by
        obtain ⟨A', U, V, B', q1, q2, q3, q4, q5, q6⟩ := HR.out
        have hc := swapRange_n c H1.out N base g cap (m - i) m i fv wr A' U [] V B' (by simpa using q5) (by simpa using q4) q2 q3 (by omega) (by simp; omega) hd
        rw [show ((m - i : Nat) : Int) = (m : Int) - (i : Int) by omega] at hc
        refine hc.mono ?_
        rintro e w' ⟨rfl, h2, h3⟩
        exact ⟨rfl, by rw [q6]; simpa using h2, h3⟩
      have HC := Lib.hid hsr
      clear hsr HR
      go_wp2_with fail
      refine HC.out.mono ?_
      rintro e w1 ⟨rfl, hr1, ho1⟩
      have HR1 := Lib.hid hr1
      clear hr1
      go_wp2
      go_end0
      exact ⟨rfl, HR1.out, honly.trans ho1⟩
    · -- the right one is shorter
      have hne : ((i : Int) != (j : Int)) = true := net (by omega)
      have hgt : (j : Int) < (i : Int) := by omega
      have hsr : Calls Try.prog 89 #[.slice (some ⟨g, 0, none⟩) N cap, .int .i64 ((m : Int) - (i : Int)), .int .i64 (m : Int), .int .i64 (j : Int), fv] wr fun e w' =>
          e = .returned (.tuple #[]) ∧ (∃ (A' U V B' : List α), A'.length + (i - j) = m ∧ U.length = i - j ∧ V.length = j ∧ (A' ++ (U ++ (V ++ B'))).length = N ∧ RowE c w' base g cap (A' ++ (U ++ (V ++ B'))) ∧ T = A' ++ (V ++ (U ++ B'))) ∧ Only g wr w' := by
        obtain ⟨A', U, V, B', q1, q2, q3, q4, q5, q6⟩ := HR.out
        have e0 : U = U.take j ++ U.drop j := (List.take_append_drop _ _).symm
        have hr : RowE c wr base g cap (A' ++ (U.take j ++ (U.drop j ++ (V ++ B')))) := by
          rw [← List.append_assoc (U.take j), ← e0]; exact q5
        have hl : (A' ++ (U.take j ++ (U.drop j ++ (V ++ B')))).length = N := by
          rw [← List.append_assoc (U.take j), ← e0]; exact q4
        have hc := swapRange_n c H1.out N base g cap (m - i) m j fv wr A' (U.take j) (U.drop j) V B' hr hl (by rw [List.length_take]; omega) q3 (by omega) (by rw [List.length_drop]; omega) hd
        rw [show ((m - i : Nat) : Int) = (m : Int) - (i : Int) by omega] at hc
        refine hc.mono ?_
        rintro e w' ⟨rfl, h2, h3⟩
        refine ⟨rfl, ⟨A' ++ V, U.drop j, U.take j, B', by rw [List.length_append]; omega, by rw [List.length_drop]; omega, by rw [List.length_take]; omega, ?_, by rw [List.append_assoc]; exact h2, ?_⟩, h3⟩
        · have := q4
          simp only [List.length_append, List.length_take, List.length_drop] at this ⊢
          omega
        · rw [q6, List.append_assoc]
          congr 2
          rw [← List.append_assoc (U.take j), ← e0]
      have HC := Lib.hid hsr
      clear hsr HR
      go_wp2_with fail
      refine HC.out.mono ?_
      rintro e w1 ⟨rfl, hr1, ho1⟩
      have HR1 := Lib.hid hr1
      clear hr1
      go_wp2
      go_roundw
      case rel => exact ⟨i - j, j, by go_num, rfl, by omega, hj1, by omega, hjN, HR1, honly.trans ho1⟩
      case measure => simp [intOf]; omega
end Go.Proofs.Ytennddlihcamnaa.Sr

namespace Go.Proofs.Ytennddlihcamnaa.Sr
set_option linter.unusedVariables false
set_option linter.unusedSimpArgs false
open Go.Proofs.Ytennddlihcamnaa.So
open Go.RowKit
variable {α : Type} [Inhabited α]

/-- How far the comparison is. -/
structure CmS (val : Nat → Value) (wr : World) (cc : Nat → Bool) (vs : Nat → Value) (w : World) : Prop where
  vals : ∀ i, cc i = true → vs i = val i
  below : Below wr.heap.size wr w

theorem wp_cmp {P : Program} {ops : Array Oper} {Q : Exit → Act → World → Prop} {id : Nat} {a : Act} {w : World} (hm : P.follows .mixedOrders = true) (hg : growable ops a.tmps.size = true)
    (c : α → Nat → Value) (base g cap : Nat) (d : List α) (p q : Nat) (hp : p < d.length) (hq : q < d.length) (hmem : RowE c w base g cap d)
    (ET : TypeId) (fs : Array Field) (hu : P.underlying ET = some (.struct fs)) (hi9 : (P.info? ET).map (·.size) = some 9)
    (val : Nat → Value) (l1 l2 k a1 a2 f : Nat) (ta1 ta2 tl1 tl2 tf : Tmp) (ts : Array TypeId) (gc : FuncId) (r : Int)
    (hv1 : val l1 = .agg (nine c (gt d p)).toArray) (hv2 : val l2 = .agg (nine c (gt d q)).toArray)
    (hva1 : val a1 = .pointer (some ⟨g, p * 9, none⟩)) (hva2 : val a2 = .pointer (some ⟨g, q * 9, none⟩)) (hvf : val f = .func (.func gc) #[] #[]) (hvk : val k = .int .i64 r)
    (hl1 : ∃ o, ops[l1]? = some o ∧ o.op = .load ET (.tmp ta1)) (hl2 : ∃ o, ops[l2]? = some o ∧ o.op = .load ET (.tmp ta2))
    (hk : ∃ o, ops[k]? = some o ∧ o.op = .call { callee := .value (.tmp tf), args := #[.tmp tl1, .tmp tl2], argTypes := ts })
    (hd : dstOf ops a1 = some ta1 ∧ dstOf ops a2 = some ta2 ∧ dstOf ops l1 = some tl1 ∧ dstOf ops l2 = some tl2 ∧ dstOf ops f = some tf)
    (hw : (waits ops l1 a1 && waits ops l2 a2 && waits ops k l1 && waits ops k l2 && waits ops k f) = true)
    (hne : [l1, l2, k].Nodup)
    (hent : ∀ args W, (callFunc gc args).run P W = .ok (.enter gc args) W)
    (hcmp : ∀ W, Below w.heap.size w W → Calls P gc #[.agg (nine c (gt d p)).toArray, .agg (nine c (gt d q)).toArray] W fun e W' => e = .returned (.int .i64 r) ∧ Below W.heap.size W W')
    (hpure : ∀ (i : Nat) (o : Oper), ops[i]? = some o → i ≠ l1 → i ≠ l2 → i ≠ k → ∀ (b : Act) (W : World), (∀ j t, waits ops i j = true → dstOf ops j = some t → b.eval (.tmp t) = val j) → (∀ t, outer ops t = true → b.eval (.tmp t) = a.eval (.tmp t)) →
      (execOp b.eval o).run P W = .ok (.value (val i)) W)
    (pv : List (Option Tmp × Value)) (hpv : (List.range ops.size).map (fun i => (dstOf ops i, val i)) = pv)
    (hend : ∀ (w' : World), RowE c w' base g cap d → Below w.heap.size w w' → Q .normal (putP pv a) w') :
    (Code.region id ops true).wp P Q a w := by
  simp only [Bool.and_eq_true] at hw
  obtain ⟨⟨⟨⟨w1, w2⟩, w3⟩, w4⟩, w5⟩ := hw
  obtain ⟨d1, d2, d3, d4, d5⟩ := hd
  simp only [List.nodup_cons, List.mem_cons, not_or, List.not_mem_nil, not_false_eq_true, and_true, List.nodup_nil] at hne
  obtain ⟨⟨x1, x2⟩, x3⟩ := hne
  have h9 : ∀ x : α, (nine c x).length = 9 := fun _ => rfl
  have step : ∀ {cc : Nat → Bool} {vs : Nat → Value} {W W' : World} (i : Nat), CmS val w cc vs W → Below W.heap.size W W' → CmS val w (fun j => if j = i then true else cc j) (fun j => if j = i then val i else vs j) W' := fun {cc vs W W'} i hS hb => by
    refine ⟨fun j hj => ?_, hS.below.trans (hb.mono hS.below.size)⟩
    by_cases e : j = i
    · subst e; simp
    · simp only [if_neg e] at hj ⊢; exact hS.vals j hj
  refine wp_region_steps hm hg (CmS val w) ⟨fun i hi => (by cases hi), below_drewN_ (Below.refl _ _) 1⟩ ?_ _ rfl ?_
  · intro i o ho cc vs W b hS hci hbd hev hout
    have hvl : ∀ j t, cc j = true → dstOf ops j = some t → b.eval (.tmp t) = val j := fun j t hj ht => (hev j t hj ht).trans (hS.vals j hj)
    have hmW : RowE c W base g cap d := hmem.below hS.below
    by_cases e1 : i = l1
    · subst e1
      obtain ⟨o', ho', hop⟩ := hl1
      obtain rfl : o = o' := by rw [ho] at ho'; exact Option.some.inj ho'
      refine wp_load_mid ET (.tmp ta1) hop g (p * 9) ((hvl a1 ta1 (hbd a1 w1) d1).trans hva1) (nine c (gt d p)) _ (hmW.range hp) hu rfl (by rw [h9]; exact hi9) ⟨_, rfl, ?_⟩
      rw [← hv1]
      exact step _ hS (Below.refl _ _)
    by_cases e2 : i = l2
    · subst e2
      obtain ⟨o', ho', hop⟩ := hl2
      obtain rfl : o = o' := by rw [ho] at ho'; exact Option.some.inj ho'
      refine wp_load_mid ET (.tmp ta2) hop g (q * 9) ((hvl a2 ta2 (hbd a2 w2) d2).trans hva2) (nine c (gt d q)) _ (hmW.range hq) hu rfl (by rw [h9]; exact hi9) ⟨_, rfl, ?_⟩
      rw [← hv2]
      exact step _ hS (Below.refl _ _)
    by_cases e3 : i = k
    · subst e3
      obtain ⟨o', ho', hop⟩ := hk
      obtain rfl : o = o' := by rw [ho] at ho'; exact Option.some.inj ho'
      have hx := (hvl l1 tl1 (hbd l1 w3) d3).trans hv1
      have hy := (hvl l2 tl2 (hbd l2 w4) d4).trans hv2
      have hf := (hvl f tf (hbd f w5) d5).trans hvf
      refine wp_of_call (f := gc) (args := #[.agg (nine c (gt d p)).toArray, .agg (nine c (gt d q)).toArray]) (w' := W) ?_ ((hcmp W hS.below).mono ?_)
      · unfold execOp
        simp only [hop, resolve, invoke, hx, hy, hf, Deferred.ofValue, List.map_toArray, List.map_cons, List.map_nil, Array.empty_append, Array.append_empty, hent, Sem.run_bind, Sem.run_pure, Result.andThen_ok]
      · rintro e w'' ⟨rfl, hb⟩
        refine ⟨_, rfl, _, rfl, ?_⟩
        rw [← hvk]
        exact step _ hS hb
    · exact wp_of_run _ (hpure i o ho e1 e2 e3 b W (fun j t hj ht => hvl j t (hbd j hj) ht) hout) ⟨_, rfl, step _ hS (Below.refl _ _)⟩
  · intro cc vs W hS hall
    have := hend W (hmem.below hS.below) hS.below
    rw [← hpv, List.range_eq_range', ← putL_putP ops vs val] at this
    · rw [List.range_eq_range']; exact this
    · exact fun i _ hi => .inr (hS.vals i (hall i (by omega)))
end Go.Proofs.Ytennddlihcamnaa.Sr

namespace Go.Proofs.Ytennddlihcamnaa.Sr
set_option linter.unusedVariables false
set_option linter.unusedSimpArgs false
open Go.Proofs.Ytennddlihcamnaa.So
open Go.RowKit

theorem run_lss0 {P : Program} {o : Oper} {b : Act} (W : World) (x : Operand) {t t' : TypeId} (ho : o.op = .binOp .lss t x (.const (.int .i64 0)) t') {u : Int} (hx : b.eval x = .int .i64 u) : (execOp b.eval o).run P W = .ok (.value (.bool (decide (u < 0)))) W := by
  have hy : b.eval (.const (.int .i64 0)) = .int .i64 0 := rfl
  unfold execOp
  simp only [ho, hx, hy]
  simp [go_sem]
theorem run_not {P : Program} {o : Oper} {b : Act} (W : World) (x : Operand) {t : TypeId} (ho : o.op = .unOp .not t x) {u : Bool} (hx : b.eval x = .bool u) : (execOp b.eval o).run P W = .ok (.value (.bool (!u))) W := by
  unfold execOp
  simp only [ho, hx]
  simp [go_sem]
variable {α : Type} [Inhabited α]

theorem srt_gt {lt : α → α → Bool} (hO : Swo lt) {Y : List α} (hY : Srt lt Y) {i j : Nat} (hij : i ≤ j) (hj : j < Y.length) : lt (gt Y j) (gt Y i) = false := by
  rcases Nat.lt_or_ge i j with h | h
  · have := List.pairwise_iff_getElem.1 hY i j (by omega) hj h
    rwa [gt_eq, gt_eq] at this
  · obtain rfl : i = j := by omega
    exact hO.irr _
theorem mem_take {Y : List α} {t : Nat} {p : α} (h : p ∈ Y.take t) : ∃ k, k < t ∧ k < Y.length ∧ p = gt Y k := by
  obtain ⟨k, hk, rfl⟩ := List.getElem_of_mem h
  rw [List.length_take] at hk
  exact ⟨k, by omega, by omega, by rw [List.getElem_take, gt_eq]⟩
theorem mem_drop {Y : List α} {t : Nat} {p : α} (h : p ∈ Y.drop t) : ∃ k, t ≤ k ∧ k < Y.length ∧ p = gt Y k := by
  obtain ⟨k, hk, rfl⟩ := List.getElem_of_mem h
  rw [List.length_drop] at hk
  exact ⟨t + k, by omega, by omega, by rw [List.getElem_drop, gt_eq]⟩
theorem drop_gt {Y : List α} {t : Nat} (h : t < Y.length) : Y.drop t = gt Y t :: Y.drop (t + 1) := by rw [List.drop_eq_getElem_cons h, gt_eq h]
theorem take_gt {Y : List α} {t : Nat} (h : t < Y.length) : Y.take (t + 1) = Y.take t ++ [gt Y t] := by rw [List.take_succ_eq_append_getElem h, gt_eq h]

/-- What is asked of the comparison. -/
def CmpE (c : α → Nat → Value) (gc : FuncId) (cf : α → α → Int) : Prop := ∀ (W : World) (x y : α), Calls Try.prog gc #[.agg (nine c x).toArray, .agg (nine c y).toArray] W fun e W' => e = .returned (.int .i64 (cf x y)) ∧ Below W.heap.size W W'
def ltc (cf : α → α → Int) (x y : α) : Bool := decide (cf x y < 0)
theorem half_run (x : Int) (h0 : 0 ≤ x) (h1 : x ≤ 9223372036854775807) : IntKind.u64.wrap x = x := IntWalk.u64_in _ (by omega)

set_option maxRecDepth 100000 in
set_option maxHeartbeats 3200000 in
theorem symA (c : α → Nat → Value) (h1 : ∀ x j, (c x j).oneCell' = true) (cf : α → α → Int) (gc : FuncId) (hcmp : CmpE c gc cf) (hent : ∀ args W, (callFunc gc args).run Try.prog W = .ok (.enter gc args) W) (hO : Swo (ltc cf))
    (N : Nat) (base g cap a b : Nat) (w : World) (A Y B : List α) (x : α) (h : RowE c w base g cap (A ++ (x :: (Y ++ B)))) (hN : (A ++ (x :: (Y ++ B))).length = N) (ha : a = A.length) (hb : b = a + 1 + Y.length) (hY : Srt (ltc cf) Y) (hd : N ≤ 4398046511104) :
    Calls Try.prog 69 #[.slice (some ⟨g, 0, none⟩) N cap, .int .i64 (a : Int), .int .i64 ((a : Int) + 1), .int .i64 (b : Int), .func (.func gc) #[] #[]] w fun e w' =>
      e = .returned (.tuple #[]) ∧ RowE c w' base g cap (A ++ (mg (ltc cf) [x] Y ++ B)) ∧ Only g w w' := by
  have H1 := Lib.hid h1
  have Hcmp : Hid (CmpE c gc cf) := Lib.hid hcmp
  have Hent := Lib.hid hent
  have HR0 := Lib.hid h
  have HN := Lib.hid hN
  have HA := Lib.hid ha
  have HB := Lib.hid hb
  have hbN : b ≤ N := by rw [← hN, hb, ha]; simp; omega
  have hab : a + 1 ≤ b := by omega
  have em : (a : Int) + 1 - (a : Int) = 1 := by omega
  have e11 : ((1 : Int) == 1) = true := rfl
  have HY := Lib.hid hY
  clear h1 hcmp hent h hN ha hb hY
  go_enter Try.func69, Try.ntmps69
  go_wp2
  go_loopw [10, 11] (fun vi vj wr => ∃ (i j : Nat), vi = .int .i64 (i : Int) ∧ vj = .int .i64 (j : Int) ∧ a + 1 ≤ i ∧ i ≤ j ∧ j ≤ b ∧ Hid ((∀ k, a + 1 + k < i → ltc cf (gt Y k) x = true) ∧ (∀ k, j ≤ a + 1 + k → k < Y.length → ltc cf (gt Y k) x = false)) ∧ Hid (RowE c wr base g cap (A ++ (x :: (Y ++ B)))) ∧ Below w.heap.size w wr) (fun vi vj _ => (intOf vj).toNat - (intOf vi).toNat)
  case atStart => exact ⟨a + 1, b, by go_num, rfl, Nat.le_refl _, hab, Nat.le_refl _, Lib.hid ⟨fun k hk => absurd hk (by omega), fun k hk hk2 => absurd hk2 (by have := HB.out; omega)⟩, Lib.hid HR0.out, Below.refl _ _⟩
  case round =>
    obtain ⟨i, j, rfl, rfl, hi, hij, hj, HI, HR, hbel⟩ := hrel
    by_cases hlt : i < j
    · obtain ⟨h, hh⟩ : ∃ h : Nat, h = (i + j) / 2 := ⟨_, rfl⟩
      have eh : ((i : Int) + (j : Int)) / 2 = (h : Int) := by omega
      have hi1 : i ≤ h := by omega
      have hh1 : h < j := by omega
      clear hh
      have HGa : Hid (gt (A ++ (x :: (Y ++ B))) a = x) := Lib.hid (by
        have := gt_app_right (A := A) (B := x :: (Y ++ B)) (i := 0)
        rw [Nat.add_zero, ← HA.out] at this
        exact this)
      have HGh : Hid (gt (A ++ (x :: (Y ++ B))) h = gt Y (h - (a + 1))) := Lib.hid (by
        have e : A ++ (x :: (Y ++ B)) = (A ++ [x]) ++ (Y ++ B) := by simp
        have hl : (A ++ [x]).length = a + 1 := by rw [HA.out]; simp
        rw [e]
        conv => lhs; rw [show h = (A ++ [x]).length + (h - (a + 1)) by omega]
        rw [gt_app_right, gt_app_left (by have := HB.out; omega)])
      have HF : Hid (ltc cf (gt Y (h - (a + 1))) x = false → (∀ k, a + 1 + k < i → ltc cf (gt Y k) x = true) ∧ (∀ k, h ≤ a + 1 + k → k < Y.length → ltc cf (gt Y k) x = false)) := Lib.hid fun ht => ⟨HI.out.1, fun k hk hk2 => hO.neg _ _ _ (srt_gt hO HY.out (i := h - (a + 1)) (by omega) hk2) ht⟩
      have HT : Hid (ltc cf (gt Y (h - (a + 1))) x = true → (∀ k, a + 1 + k < h + 1 → ltc cf (gt Y k) x = true) ∧ (∀ k, j ≤ a + 1 + k → k < Y.length → ltc cf (gt Y k) x = false)) := Lib.hid fun ht => ⟨fun k hk => hO.le_lt (srt_gt hO HY.out (j := h - (a + 1)) (by omega) (by have := HB.out; omega)) ht, HI.out.2⟩
      generalize gt Y (h - (a + 1)) = yv at *
      have hpl : h < (A ++ (x :: (Y ++ B))).length := by rw [HN.out]; omega
      have hql : a < (A ++ (x :: (Y ++ B))).length := by rw [HN.out]; omega
      have iah := fun W => idx_run (g := g) (cap := cap) (n := N) W (i := h) (by omega) (x := (h : Int)) rfl
      have iaa := fun W => idx_run (g := g) (cap := cap) (n := N) W (i := a) (by omega) (x := (a : Int)) rfl
      go_wp2_with fail
      refine wp_cmp (by kernel_rfl) (by kernel_rfl) c base g cap (A ++ (x :: (Y ++ B))) (h) (a) (by omega) (by omega) HR.out 37 _ Try.underlying37 (by kernel_rfl)
        (fun i => (#[.func (.func gc) #[] #[], .slice (some ⟨g, 0, none⟩) N cap, .int .i64 (h : Int), .pointer (some ⟨g, h * 9, none⟩), .agg (nine c (gt (A ++ (x :: (Y ++ B))) h)).toArray, .slice (some ⟨g, 0, none⟩) N cap, .int .i64 (a : Int), .pointer (some ⟨g, a * 9, none⟩), .agg (nine c (gt (A ++ (x :: (Y ++ B))) a)).toArray, .int .i64 (cf (gt (A ++ (x :: (Y ++ B))) h) (gt (A ++ (x :: (Y ++ B))) a)), .bool (decide (cf (gt (A ++ (x :: (Y ++ B))) h) (gt (A ++ (x :: (Y ++ B))) a) < 0))] : Array Value).getD i undef) 4 8 9 3 7 0 43 47 44 48 40 _ gc (cf (gt (A ++ (x :: (Y ++ B))) (h)) (gt (A ++ (x :: (Y ++ B))) (a))) rfl rfl rfl rfl rfl rfl ⟨_, rfl, rfl⟩ ⟨_, rfl, rfl⟩ ⟨_, rfl, rfl⟩ (by exact ⟨rfl, rfl, rfl, rfl, rfl⟩) (by kernel_rfl) (by decide) Hent.out (fun W _ => Hcmp.out W _ _) ?_ [(some 40, .func (.func gc) #[] #[]), (some 41, .slice (some ⟨g, 0, none⟩) N cap), (some 42, .int .i64 (h : Int)), (some 43, .pointer (some ⟨g, h * 9, none⟩)), (some 44, .agg (nine c (gt (A ++ (x :: (Y ++ B))) h)).toArray), (some 45, .slice (some ⟨g, 0, none⟩) N cap), (some 46, .int .i64 (a : Int)), (some 47, .pointer (some ⟨g, a * 9, none⟩)), (some 48, .agg (nine c (gt (A ++ (x :: (Y ++ B))) a)).toArray), (some 49, .int .i64 (cf (gt (A ++ (x :: (Y ++ B))) h) (gt (A ++ (x :: (Y ++ B))) a))), (some 50, .bool (decide (cf (gt (A ++ (x :: (Y ++ B))) h) (gt (A ++ (x :: (Y ++ B))) a) < 0)))] rfl ?_
      · intro i o ho k1 k2 k3 b' W hev hout
        rcases i with _ | _ | _ | _ | _ | _ | _ | _ | _ | _ | _ | i
        · cases ho
          exact run_move W (.tmp 4) rfl ((hout 4 (by kernel_rfl)).trans rfl)
        · cases ho
          exact run_move W (.tmp 0) rfl ((hout 0 (by kernel_rfl)).trans rfl)
        · cases ho
          exact run_move W (.tmp 12) rfl ((hout 12 (by kernel_rfl)).trans rfl)
        · cases ho
          exact run_idx W (.tmp 41) (.tmp 42) rfl (hev 1 41 (by kernel_rfl) rfl) (hev 2 42 (by kernel_rfl) rfl) iah
        · exact absurd rfl k1
        · cases ho
          exact run_move W (.tmp 0) rfl ((hout 0 (by kernel_rfl)).trans rfl)
        · cases ho
          exact run_move W (.tmp 1) rfl ((hout 1 (by kernel_rfl)).trans rfl)
        · cases ho
          exact run_idx W (.tmp 45) (.tmp 46) rfl (hev 5 45 (by kernel_rfl) rfl) (hev 6 46 (by kernel_rfl) rfl) iaa
        · exact absurd rfl k2
        · exact absurd rfl k3
        · cases ho
          exact run_lss0 W (.tmp 49) rfl (hev 9 49 (by kernel_rfl) rfl)
        · cases ho
      · intro w2 hrow hb2
        rw [HGa.out, HGh.out]
        have hbe : Below w.heap.size w w2 := hbel.trans (hb2.mono hbel.size)
        have HRW := Lib.hid hrow
        clear hpl hql iah iaa hrow eh
        cases ht : decide (cf yv x < 0)
        · have HI3 := Lib.hid (HF.out ht)
          clear ht HT HF
          simp only [putP, Exit.then, Act.put, List.setIfInBounds_toArray, List.set_cons_zero, List.set_cons_succ]
          go_wp2
          go_roundw
          case rel => exact ⟨i, h, rfl, rfl, hi, hi1, by omega, HI3, HRW, hbe⟩
          case measure => simp [intOf]; omega
        · have HI3 := Lib.hid (HT.out ht)
          clear ht HT HF
          simp only [putP, Exit.then, Act.put, List.setIfInBounds_toArray, List.set_cons_zero, List.set_cons_succ]
          go_wp2
          go_roundw
          case rel => exact ⟨h + 1, j, by go_num, rfl, by omega, by omega, hj, HI3, HRW, hbe⟩
          case measure => simp [intOf]; omega
    · obtain rfl : i = j := by omega
      have hs0 := hbel.size
      have HT : Hid (A ++ (mg (ltc cf) [x] Y ++ B) = A ++ (Y.take (i - 1 - a) ++ (x :: (Y.drop (i - 1 - a) ++ B)))) := Lib.hid (by
        have e := mg_first (lt := ltc cf) (P := Y.take (i - 1 - a)) (Q := Y.drop (i - 1 - a)) (x := x) (fun p hp => by
          obtain ⟨k, hk, _, rfl⟩ := mem_take hp
          exact HI.out.1 k (by omega)) (fun q hq => by
          obtain ⟨k, hk, hk2, rfl⟩ := mem_drop hq
          exact HI.out.2 k (by omega) hk2)
        rw [List.take_append_drop] at e
        rw [e]
        simp)
      have HYl : Hid (i ≤ a + 1 + Y.length) := Lib.hid (by have := HB.out; omega)
      go_wp2
      go_loopw [13] (fun vk wk => ∃ k : Nat, vk = .int .i64 (k : Int) ∧ a ≤ k ∧ k + 1 ≤ i ∧ Hid (RowE c wk base g cap (A ++ (Y.take (k - a) ++ (x :: (Y.drop (k - a) ++ B))))) ∧ Only g wr wk) (fun vk _ => i - (intOf vk).toNat)
      case atStart => exact ⟨a, rfl, Nat.le_refl _, hi, Lib.hid (by rw [Nat.sub_self]; simpa using HR.out), Only.refl _ _⟩
      case round =>
        obtain ⟨k, rfl, hak, hki, HR2, honly⟩ := hrel
        by_cases hlt2 : k + 1 < i
        · have i2 : (k : Int) < (i : Int) - 1 := by omega
          obtain ⟨dk, hdk⟩ : ∃ dk, dk = A ++ (Y.take (k - a) ++ (x :: (Y.drop (k - a) ++ B))) := ⟨_, rfl⟩
          have hkY : k - a < Y.length := by have := HYl.out; omega
          have hdl : dk.length = N := by
            rw [hdk, ← HN.out]
            simp
            omega
          have Hsw : Hid (sw dk k (k + 1) = A ++ (Y.take (k + 1 - a) ++ (x :: (Y.drop (k + 1 - a) ++ B)))) := Lib.hid (by
            have e1 : dk = (A ++ Y.take (k - a)) ++ x :: ([] ++ gt Y (k - a) :: (Y.drop (k - a + 1) ++ B)) := by
              rw [hdk, drop_gt hkY]
              simp
            have hA := HA.out
            rw [e1, sw_mid _ _ _ _ _ (by rw [List.length_append, List.length_take]; omega) (by rw [List.length_append, List.length_take, List.length_nil]; omega)]
            rw [show k + 1 - a = k - a + 1 by omega, take_gt hkY]
            simp)
          rw [← hdk] at HR2
          clear hdk hkY
          have HR : Hid (RowE c wr base g cap dk) := HR2
          have kw1 : IntKind.i64.wrap ((k : Int) + 1) = (k : Int) + 1 := IntWalk.i64_in _ (by omega)
          have ia0 := fun W => idx_run (g := g) (cap := cap) (n := N) W (i := k) (by omega) (x := (k : Int)) rfl
          have ia1 := fun W => idx_run (g := g) (cap := cap) (n := N) W (i := k + 1) (by omega) (x := (k : Int) + 1) (by omega)
          have hp2 : k + 1 < dk.length := by omega
          have hp1 : k < dk.length := by omega
          clear hdl
          go_wp2_with fail
          refine wp_swap (by kernel_rfl) (by kernel_rfl) c H1.out base g cap (dk) (k) (k + 1) (by omega) (by omega) HR.out 37 _ Try.underlying37 (by kernel_rfl)
            (fun i => (#[.slice (some ⟨g, 0, none⟩) N cap, .int .i64 (k : Int), .slice (some ⟨g, 0, none⟩) N cap, .int .i64 (k : Int), .int .i64 ((k : Int) + 1), .slice (some ⟨g, 0, none⟩) N cap, .int .i64 (k : Int), .int .i64 ((k : Int) + 1), .pointer (some ⟨g, (k + 1) * 9, none⟩), .agg (nine c (gt dk (k + 1))).toArray, .slice (some ⟨g, 0, none⟩) N cap, .int .i64 (k : Int), .pointer (some ⟨g, k * 9, none⟩), .agg (nine c (gt dk k)).toArray, .pointer (some ⟨g, k * 9, none⟩), undef, .pointer (some ⟨g, (k + 1) * 9, none⟩), undef] : Array Value).getD i undef) 9 13 15 17 8 12 14 16 69 73 75 76 70 74 rfl rfl rfl rfl rfl rfl ⟨_, rfl, rfl⟩ ⟨_, rfl, rfl⟩ ⟨_, rfl, rfl, rfl⟩ ⟨_, rfl, rfl, rfl⟩ (by exact ⟨rfl, rfl, rfl, rfl, rfl, rfl⟩) (by kernel_rfl) (by decide) ?_ [(some 61, .slice (some ⟨g, 0, none⟩) N cap), (some 62, .int .i64 (k : Int)), (some 63, .slice (some ⟨g, 0, none⟩) N cap), (some 64, .int .i64 (k : Int)), (some 65, .int .i64 ((k : Int) + 1)), (some 66, .slice (some ⟨g, 0, none⟩) N cap), (some 67, .int .i64 (k : Int)), (some 68, .int .i64 ((k : Int) + 1)), (some 69, .pointer (some ⟨g, (k + 1) * 9, none⟩)), (some 70, .agg (nine c (gt dk (k + 1))).toArray), (some 71, .slice (some ⟨g, 0, none⟩) N cap), (some 72, .int .i64 (k : Int)), (some 73, .pointer (some ⟨g, k * 9, none⟩)), (some 74, .agg (nine c (gt dk k)).toArray), (some 75, .pointer (some ⟨g, k * 9, none⟩)), (none, undef), (some 76, .pointer (some ⟨g, (k + 1) * 9, none⟩)), (none, undef)] rfl ?_ (by exact ⟨by decide, by decide⟩)
          · intro i o ho k1 k2 k3 k4 b' W hev hout
            rcases i with _ | _ | _ | _ | _ | _ | _ | _ | _ | _ | _ | _ | _ | _ | _ | _ | _ | _ | i
            · cases ho
              exact run_move W (.tmp 0) rfl ((hout 0 (by kernel_rfl)).trans rfl)
            · cases ho
              exact run_move W (.tmp 13) rfl ((hout 13 (by kernel_rfl)).trans rfl)
            · cases ho
              exact run_move W (.tmp 0) rfl ((hout 0 (by kernel_rfl)).trans rfl)
            · cases ho
              exact run_move W (.tmp 13) rfl ((hout 13 (by kernel_rfl)).trans rfl)
            · cases ho
              exact run_add W (.tmp 64) (.const (.int .i64 1)) rfl (hev 3 64 (by kernel_rfl) (by decide) (by decide) rfl) rfl kw1
            · cases ho
              exact run_move W (.tmp 0) rfl ((hout 0 (by kernel_rfl)).trans rfl)
            · cases ho
              exact run_move W (.tmp 13) rfl ((hout 13 (by kernel_rfl)).trans rfl)
            · cases ho
              exact run_add W (.tmp 67) (.const (.int .i64 1)) rfl (hev 6 67 (by kernel_rfl) (by decide) (by decide) rfl) rfl kw1
            · cases ho
              exact run_idx W (.tmp 66) (.tmp 68) rfl (hev 5 66 (by kernel_rfl) (by decide) (by decide) rfl) (hev 7 68 (by kernel_rfl) (by decide) (by decide) rfl) ia1
            · exact absurd rfl k1
            · cases ho
              exact run_move W (.tmp 0) rfl ((hout 0 (by kernel_rfl)).trans rfl)
            · cases ho
              exact run_move W (.tmp 13) rfl ((hout 13 (by kernel_rfl)).trans rfl)
            · cases ho
              exact run_idx W (.tmp 71) (.tmp 72) rfl (hev 10 71 (by kernel_rfl) (by decide) (by decide) rfl) (hev 11 72 (by kernel_rfl) (by decide) (by decide) rfl) ia0
            · exact absurd rfl k2
            · cases ho
              exact run_idx W (.tmp 61) (.tmp 62) rfl (hev 0 61 (by kernel_rfl) (by decide) (by decide) rfl) (hev 1 62 (by kernel_rfl) (by decide) (by decide) rfl) ia0
            · exact absurd rfl k3
            · cases ho
              exact run_idx W (.tmp 63) (.tmp 65) rfl (hev 2 63 (by kernel_rfl) (by decide) (by decide) rfl) (hev 4 65 (by kernel_rfl) (by decide) (by decide) rfl) ia1
            · exact absurd rfl k4
            · cases ho
          · intro w3 hrow honly2
            have HR3 : Hid (RowE c w3 base g cap (A ++ (Y.take (k + 1 - a) ++ (x :: (Y.drop (k + 1 - a) ++ B))))) := Lib.hid (by rw [← Hsw.out]; exact hrow)
            clear hp1 hp2 hrow ia0 ia1
            simp only [putP, Exit.then, Act.put, List.setIfInBounds_toArray, List.set_cons_zero, List.set_cons_succ]
            go_wp2
            go_roundw
            case rel => exact ⟨k + 1, by go_num, by omega, by omega, HR3, honly.trans honly2⟩
            case measure => simp [intOf]; omega
        · obtain rfl : i = k + 1 := by omega
          have i2 : ¬ (k : Int) < ((k + 1 : Nat) : Int) - 1 := by omega
          have HR3 : Hid (RowE c wr base g cap (A ++ (mg (ltc cf) [x] Y ++ B))) := Lib.hid (by rw [HT.out, show k + 1 - 1 - a = k - a by omega]; exact HR2.out)
          go_wp2
          refine bodyPost_ret (results_none rfl _ _ _) rfl ?_
          exact ⟨rfl, HR3.out, (Only.of_below hbel).trans honly⟩
end Go.Proofs.Ytennddlihcamnaa.Sr
