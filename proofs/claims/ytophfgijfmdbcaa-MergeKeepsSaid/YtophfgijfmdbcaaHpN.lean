/- Rows of things of any size; a region that changes two of them about; a region that asks a function about two of them: one rule for all orders. Heaps (plain law). What the operations of the heap's regions yield. -/
import Derived.Test.YtophfgijfmdbcaaProg
import Derived.Test.YtophfgijfmdbcaaSoJ
import Derived.Test.YtophfgijfmdbcaaPart
import Derived.Test.YtophfgijfmdbcaaSoI
import Derived.Test.YtophfgijfmdbcaaSoK
import Derived.Test.YtophfgijfmdbcaaMeB

namespace Go.Proofs.Ytophfgijfmdbcaa.Hp
open Go.RowKit Go.Proofs.Ytophfgijfmdbcaa Go.Proofs.Ytophfgijfmdbcaa.So

/-- How a thing lies: its cells, how many, its type, its value. -/
structure Enc (α : Type) where
  cs : α → List Value
  sz : Nat
  E : TypeId
  vf : α → Value
structure Enc.Ok {α : Type} (P : Program) (e : Enc α) : Prop where
  len : ∀ x, (e.cs x).length = e.sz
  one : ∀ x, ∀ v ∈ e.cs x, v.oneCell' = true
  pos : 0 < e.sz
  ld : ∀ (W : World) (g o : Nat) (x : α), (∀ j v, (e.cs x)[j]? = some v → W.cell? ⟨g, o + j, none⟩ = some v) → (Instr.loadAt e.E (.pointer (some ⟨g, o, none⟩))).run P W = .ok (e.vf x) W
  st : ∀ (W : World) (g o : Nat) (x : α), (∀ j, j < e.sz → (W.cell? ⟨g, o + j, none⟩).isSome = true ∧ W.frozen? ⟨g, o + j, none⟩ = false) → (Instr.storeAt e.E (.pointer (some ⟨g, o, none⟩)) (e.vf x)).run P W = .ok () (W.setCells g o (e.cs x))

section
variable {α : Type} {P : Program} {e : Enc α}
/-- A row of the call's own. -/
def RowG (e : Enc α) (w : World) (base g cap : Nat) (d : List α) : Prop := w.ownsRow base e.E e.sz (.slice (some ⟨g, 0, none⟩) d.length cap) d.length (d.flatMap e.cs)
variable {w w' : World} {base g cap : Nat} {d : List α}
theorem RowG.cell [Inhabited α] (he : e.Ok P) (h : RowG e w base g cap d) {i : Nat} (hi : i < d.length) {j : Nat} {v : Value} (hv : (e.cs (gt d i))[j]? = some v) : w.cell? ⟨g, i * e.sz + j, none⟩ = some v := by
  have hj : j < e.sz := by rw [← he.len (gt d i)]; exact (List.getElem?_eq_some_iff.1 hv).1
  have hl := flatMap_len he.len d
  have hij : i * e.sz + j < d.length * e.sz := by
    have : (i + 1) * e.sz ≤ d.length * e.sz := Nat.mul_le_mul_right _ hi
    rw [Nat.succ_mul] at this
    omega
  rw [World.ownsRow.cellAt h _ (by omega), flatMap_get he.len d i hi j hj, gt_eq hi]
  exact hv
theorem RowG.there [Inhabited α] (he : e.Ok P) (h : RowG e w base g cap d) {i : Nat} (hi : i < d.length) : ∀ j, j < e.sz → (w.cell? ⟨g, i * e.sz + j, none⟩).isSome = true ∧ w.frozen? ⟨g, i * e.sz + j, none⟩ = false := fun j hj => by
  have hv : (e.cs (gt d i))[j]? = some ((e.cs (gt d i))[j]'(by rw [he.len]; exact hj)) := List.getElem?_eq_getElem _
  rw [h.cell he hi hv]
  exact ⟨rfl, World.ownsRow.frozenAt h _⟩
theorem RowG.below (h : RowG e w base g cap d) (hb : Below w.heap.size w w') : RowG e w' base g cap d := own_below h hb
theorem RowG.lt (h : RowG e w base g cap d) : base ≤ g ∧ g < w.heap.size := World.ownsRow.lt h g rfl
theorem RowG.rebase (h : RowG e w base g cap d) {b : Nat} (hb : b ≤ base) : RowG e w b g cap d := own_base h hb
theorem flatMap_set (he : e.Ok P) {i : Nat} (hi : i < d.length) (x : α) : setsAt (d.flatMap e.cs) (i * e.sz) (e.cs x) = (d.set i x).flatMap e.cs := by
  have hl := flatMap_len he.len d
  have h1 := he.len x
  have hle : i * e.sz + e.sz ≤ d.length * e.sz := by
    have : (i + 1) * e.sz ≤ d.length * e.sz := Nat.mul_le_mul_right _ hi
    rw [Nat.succ_mul] at this
    exact this
  rw [setsAt_eq _ _ _ (by omega), h1]
  have e1 : d = d.take i ++ d[i] :: d.drop (i + 1) := by rw [← List.drop_eq_getElem_cons hi, List.take_append_drop]
  have hli : ((d.take i).flatMap e.cs).length = i * e.sz := by rw [flatMap_len he.len, List.length_take, Nat.min_eq_left (by omega)]
  have e2 : d.flatMap e.cs = (d.take i).flatMap e.cs ++ (e.cs d[i] ++ (d.drop (i + 1)).flatMap e.cs) := by
    conv => lhs; rw [e1]
    rw [List.flatMap_append, List.flatMap_cons]
  have e3 : (d.set i x).flatMap e.cs = (d.take i).flatMap e.cs ++ (e.cs x ++ (d.drop (i + 1)).flatMap e.cs) := by
    rw [List.set_eq_take_append_cons_drop, if_pos hi, List.flatMap_append, List.flatMap_cons]
  rw [e3, e2, List.take_left' hli, ← List.drop_drop, List.drop_left' hli, List.drop_left' (he.len _), List.append_assoc]
theorem own_setsG {xs : List Value} {n size : Nat} {t : TypeId} : ∀ (vs : List Value) (o : Nat) (w : World) (xs : List Value), w.ownsRow base t size (.slice (some ⟨g, 0, none⟩) n cap) n xs →
    (w.setCells g o vs).ownsRow base t size (.slice (some ⟨g, 0, none⟩) n cap) n (setsAt xs o vs) ∧ Only g w (w.setCells g o vs)
  | [], _, w, _, h => ⟨h, Only.refl g w⟩
  | v :: r, o, w, xs, h => by
    have h1 := (World.ownsRow.stored h o v).1
    obtain ⟨h2, h3⟩ := own_setsG (xs := xs) r (o + 1) _ _ h1
    exact ⟨h2, ((Only.refl g w).setCell (.inl rfl) v).trans h3⟩
theorem RowG.put (he : e.Ok P) (h : RowG e w base g cap d) {i : Nat} (hi : i < d.length) (x : α) : RowG e (w.setCells g (i * e.sz) (e.cs x)) base g cap (d.set i x) ∧ Only g w (w.setCells g (i * e.sz) (e.cs x)) := by
  obtain ⟨h1, h2⟩ := own_setsG (xs := d.flatMap e.cs) (e.cs x) (i * e.sz) w _ h
  rw [flatMap_set he hi x] at h1
  exact ⟨by unfold RowG; rw [List.length_set]; exact h1, h2⟩
end

section
variable {P : Program} {ops : Array Oper} {Q : Exit → Act → World → Prop}
theorem run_load {o : Oper} {b : Act} {W : World} (x : Operand) {t : TypeId} (ho : o.op = .load t x) {u r : Value} (hx : b.eval x = u) (hr : (Instr.loadAt t u).run P W = .ok r W) : (execOp b.eval o).run P W = .ok (.value r) W := by
  unfold execOp
  simp only [ho, hx]
  simp [hr]
theorem run_store {o : Oper} {b : Act} {W W' : World} (x y : Operand) {t : TypeId} (ho : o.op = .store t x y) {u v : Value} (hx : b.eval x = u) (hy : b.eval y = v) (hr : (Instr.storeAt t u v).run P W = .ok () W') : (execOp b.eval o).run P W = .ok .skip W' := by
  unfold execOp
  simp only [ho, hx, hy]
  simp [hr]

/-- How far the exchange is. -/
structure ExS {α : Type} [Inhabited α] (e : Enc α) (base g cap : Nat) (d : List α) (p q : Nat) (val : Nat → Value) (l1 l2 s1 s2 : Nat) (wr : World) (cc : Nat → Bool) (vs : Nat → Value) (w : World) : Prop where
  vals : ∀ i, cc i = true → i ≠ s1 → i ≠ s2 → vs i = val i
  mem : RowG e w base g cap (if cc s2 = true then sw d p q else if cc s1 = true then d.set p (gt d q) else d)
  only : Only g wr w
  o1 : cc s1 = true → cc l1 = true ∧ cc l2 = true
  o2 : cc s2 = true → cc s1 = true

theorem wp_exch {α : Type} [Inhabited α] {id : Nat} {a : Act} {w : World} (hm : P.follows .mixedOrders = true) (hg : growable ops a.tmps.size = true)
    (e : Enc α) (he : e.Ok P) (base g cap : Nat) (d : List α) (p q : Nat) (hp : p < d.length) (hq : q < d.length) (hmem : RowG e w base g cap d)
    (val : Nat → Value) (l1 l2 s1 s2 a1 a2 b1 b2 : Nat) (ta1 ta2 tb1 tb2 tl1 tl2 : Tmp)
    (hv1 : val l1 = e.vf (gt d q)) (hv2 : val l2 = e.vf (gt d p))
    (hva1 : val a1 = .pointer (some ⟨g, q * e.sz, none⟩)) (hva2 : val a2 = .pointer (some ⟨g, p * e.sz, none⟩)) (hvb1 : val b1 = .pointer (some ⟨g, p * e.sz, none⟩)) (hvb2 : val b2 = .pointer (some ⟨g, q * e.sz, none⟩))
    (hl1 : ∃ o, ops[l1]? = some o ∧ o.op = .load e.E (.tmp ta1)) (hl2 : ∃ o, ops[l2]? = some o ∧ o.op = .load e.E (.tmp ta2))
    (hs1 : ∃ o, ops[s1]? = some o ∧ o.op = .store e.E (.tmp tb1) (.tmp tl1) ∧ o.dst = none) (hs2 : ∃ o, ops[s2]? = some o ∧ o.op = .store e.E (.tmp tb2) (.tmp tl2) ∧ o.dst = none)
    (hd : dstOf ops a1 = some ta1 ∧ dstOf ops a2 = some ta2 ∧ dstOf ops b1 = some tb1 ∧ dstOf ops b2 = some tb2 ∧ dstOf ops l1 = some tl1 ∧ dstOf ops l2 = some tl2)
    (hw : (waits ops l1 a1 && waits ops l2 a2 && waits ops s1 b1 && waits ops s1 l1 && waits ops s1 l2 && waits ops s2 b2 && waits ops s2 l2 && waits ops s2 s1) = true)
    (hne : [l1, l2, s1, s2].Nodup ∧ a1 ≠ s1 ∧ a1 ≠ s2 ∧ a2 ≠ s1 ∧ a2 ≠ s2 ∧ b1 ≠ s1 ∧ b1 ≠ s2 ∧ b2 ≠ s1 ∧ b2 ≠ s2)
    (hpure : ∀ (i : Nat) (o : Oper), ops[i]? = some o → i ≠ l1 → i ≠ l2 → i ≠ s1 → i ≠ s2 → ∀ (b : Act) (W : World), Only g w W → (∀ j t, waits ops i j = true → j ≠ s1 → j ≠ s2 → dstOf ops j = some t → b.eval (.tmp t) = val j) → (∀ t, outer ops t = true → b.eval (.tmp t) = a.eval (.tmp t)) →
      (execOp b.eval o).run P W = .ok (.value (val i)) W)
    (pv : List (Option Tmp × Value)) (hpv : (List.range ops.size).map (fun i => (dstOf ops i, val i)) = pv)
    (hend : ∀ (w' : World), RowG e w' base g cap (sw d p q) → Only g w w' → Q .normal (putP pv a) w')
    (hsz : s1 < ops.size ∧ s2 < ops.size) :
    (Code.region id ops true).wp P Q a w := by
  simp only [Bool.and_eq_true] at hw
  obtain ⟨⟨⟨⟨⟨⟨⟨w1, w2⟩, w3⟩, w4⟩, w5⟩, w6⟩, w7⟩, w8⟩ := hw
  obtain ⟨d1, d2, d3, d4, d5, d6⟩ := hd
  obtain ⟨hnd, n1, n2, n3, n4, n5, n6, n7, n8⟩ := hne
  simp only [List.nodup_cons, List.mem_cons, not_or, List.not_mem_nil, not_false_eq_true, and_true, List.nodup_nil] at hnd
  obtain ⟨⟨x1, x2, x3⟩, ⟨x4, x5⟩, x6⟩ := hnd
  refine wp_region_steps hm hg (ExS e base g cap d p q val l1 l2 s1 s2 w) ?_ ?_ _ rfl ?_
  · exact ⟨fun i hi => (by cases hi), (by rw [if_neg (by simp), if_neg (by simp)]; exact own_drewN hmem 1), (Only.refl g w).drewN 1, fun h => (by cases h), fun h => (by cases h)⟩
  · intro i o ho cc vs W b hS hci hbd hev hout
    have hvl : ∀ j t, cc j = true → j ≠ s1 → j ≠ s2 → dstOf ops j = some t → b.eval (.tmp t) = val j := fun j t hj h1 h2 ht => (hev j t hj ht).trans (hS.vals j hj h1 h2)
    by_cases e1 : i = l1
    · subst e1
      obtain ⟨o', ho', hop⟩ := hl1
      obtain rfl : o = o' := by rw [ho] at ho'; exact Option.some.inj ho'
      have hcs1 : cc s1 = false := by cases hq1 : cc s1; rfl; rw [(hS.o1 hq1).1] at hci; cases hci
      have hcs2 : cc s2 = false := by cases hq1 : cc s2; rfl; rw [hS.o2 hq1] at hcs1; cases hcs1
      have hmm := hS.mem
      rw [hcs2, hcs1, if_neg (by simp), if_neg (by simp)] at hmm
      refine wp_of_run _ (run_load (.tmp ta1) hop ((hvl a1 ta1 (hbd a1 w1) n1 n2 d1).trans hva1) (he.ld W g (q * e.sz) (gt d q) fun j v hv => hmm.cell he hq hv)) ⟨_, rfl, ?_⟩
      refine ⟨fun j hj k1 k2 => ?_, ?_, hS.only, fun h => ?_, fun h => ?_⟩
      · by_cases e : j = i
        · subst e; simp [hv1]
        · simp only [if_neg e] at hj ⊢; exact hS.vals j hj k1 k2
      · simp only [if_neg (Ne.symm x2), if_neg (Ne.symm x3)]; exact hS.mem
      · simp only [if_neg (Ne.symm x2)] at h; rw [hcs1] at h; cases h
      · simp only [if_neg (Ne.symm x3)] at h; rw [hcs2] at h; cases h
    by_cases e2 : i = l2
    · subst e2
      obtain ⟨o', ho', hop⟩ := hl2
      obtain rfl : o = o' := by rw [ho] at ho'; exact Option.some.inj ho'
      have hcs1 : cc s1 = false := by cases hq1 : cc s1; rfl; rw [(hS.o1 hq1).2] at hci; cases hci
      have hcs2 : cc s2 = false := by cases hq1 : cc s2; rfl; rw [hS.o2 hq1] at hcs1; cases hcs1
      have hmm := hS.mem
      rw [hcs2, hcs1, if_neg (by simp), if_neg (by simp)] at hmm
      refine wp_of_run _ (run_load (.tmp ta2) hop ((hvl a2 ta2 (hbd a2 w2) n3 n4 d2).trans hva2) (he.ld W g (p * e.sz) (gt d p) fun j v hv => hmm.cell he hp hv)) ⟨_, rfl, ?_⟩
      refine ⟨fun j hj k1 k2 => ?_, ?_, hS.only, fun h => ?_, fun h => ?_⟩
      · by_cases e : j = i
        · subst e; simp [hv2]
        · simp only [if_neg e] at hj ⊢; exact hS.vals j hj k1 k2
      · simp only [if_neg (Ne.symm x4), if_neg (Ne.symm x5)]; exact hS.mem
      · simp only [if_neg (Ne.symm x4)] at h; rw [hcs1] at h; cases h
      · simp only [if_neg (Ne.symm x5)] at h; rw [hcs2] at h; cases h
    by_cases e3 : i = s1
    · subst e3
      obtain ⟨o', ho', hop, hod⟩ := hs1
      obtain rfl : o = o' := by rw [ho] at ho'; exact Option.some.inj ho'
      have hcs2 : cc s2 = false := by cases hq1 : cc s2; rfl; rw [hS.o2 hq1] at hci; cases hci
      have hmm := hS.mem
      rw [hcs2, hci, if_neg (by simp), if_neg (by simp)] at hmm
      obtain ⟨m1, m2⟩ := hmm.put he hp (gt d q)
      refine wp_of_skip (run_store (.tmp tb1) (.tmp tl1) hop ((hvl b1 tb1 (hbd b1 w3) n5 n6 d3).trans hvb1) ((hvl l1 tl1 (hbd l1 w4) x2 x3 d5).trans hv1) (he.st W g (p * e.sz) (gt d q) (hmm.there he hp))) ⟨_, rfl, ?_⟩
      refine ⟨fun j hj k1 k2 => ?_, ?_, hS.only.trans m2, fun _ => ?_, fun h => ?_⟩
      · simp only [if_neg k1] at hj ⊢; exact hS.vals j hj k1 k2
      · simp only [if_neg (Ne.symm x6), hcs2, if_true, Bool.false_eq_true, if_false]; exact m1
      · simp only [if_neg x2, if_neg x4]; exact ⟨hbd l1 w4, hbd l2 w5⟩
      · simp only [if_true]
    by_cases e4 : i = s2
    · subst e4
      obtain ⟨o', ho', hop, hod⟩ := hs2
      obtain rfl : o = o' := by rw [ho] at ho'; exact Option.some.inj ho'
      have hcs1 : cc s1 = true := hbd s1 w8
      have hmm := hS.mem
      rw [hci, hcs1, if_neg (by simp), if_pos rfl] at hmm
      have hq' : q < (d.set p (gt d q)).length := by rw [List.length_set]; exact hq
      obtain ⟨m1, m2⟩ := hmm.put he hq' (gt d p)
      refine wp_of_skip (run_store (.tmp tb2) (.tmp tl2) hop ((hvl b2 tb2 (hbd b2 w6) n7 n8 d4).trans hvb2) ((hvl l2 tl2 (hbd l2 w7) x4 x5 d6).trans hv2) (he.st W g (q * e.sz) (gt d p) (hmm.there he hq'))) ⟨_, rfl, ?_⟩
      refine ⟨fun j hj k1 k2 => ?_, ?_, hS.only.trans m2, fun _ => ?_, fun _ => ?_⟩
      · simp only [if_neg k2] at hj ⊢; exact hS.vals j hj k1 k2
      · simp only [if_true]; exact m1
      · simp only [if_neg x3, if_neg x5]; exact hS.o1 hcs1
      · simp only [if_neg x6]; exact hcs1
    · refine wp_of_run _ (hpure i o ho e1 e2 e3 e4 b W hS.only (fun j t hj k1 k2 ht => hvl j t (hbd j hj) k1 k2 ht) hout) ⟨_, rfl, ?_⟩
      refine ⟨fun j hj k1 k2 => ?_, ?_, hS.only, fun h => ?_, fun h => ?_⟩
      · by_cases e : j = i
        · subst e; simp
        · simp only [if_neg e] at hj ⊢; exact hS.vals j hj k1 k2
      · simp only [if_neg (Ne.symm e3), if_neg (Ne.symm e4)]; exact hS.mem
      · simp only [if_neg (Ne.symm e3)] at h
        obtain ⟨k1, k2⟩ := hS.o1 h
        exact ⟨by split; rfl; exact k1, by split; rfl; exact k2⟩
      · simp only [if_neg (Ne.symm e4)] at h
        simp only [if_neg (Ne.symm e3)]; exact hS.o2 h
  · intro cc vs W hS hall
    have hm2 := hS.mem
    rw [hall s2 hsz.2, if_pos rfl] at hm2
    have := hend W hm2 hS.only
    rw [← hpv, List.range_eq_range', ← putL_putP ops vs val] at this
    · rw [List.range_eq_range']; exact this
    · intro i _ hi
      obtain ⟨o1, h1, -, h2⟩ := hs1
      obtain ⟨o2, h3, -, h4⟩ := hs2
      by_cases e1 : i = s1
      · left; subst e1; simp [dstOf, h1, h2]
      · by_cases e2 : i = s2
        · left; subst e2; simp [dstOf, h3, h4]
        · exact .inr (hS.vals i (hall i (by omega)) e1 e2)

/-- How far the putting is. -/
structure PuS {α : Type} [Inhabited α] (e : Enc α) (base g cap : Nat) (d : List α) (p q : Nat) (val : Nat → Value) (l1 s1 : Nat) (wr : World) (cc : Nat → Bool) (vs : Nat → Value) (w : World) : Prop where
  vals : ∀ i, cc i = true → i ≠ s1 → vs i = val i
  mem : RowG e w base g cap (if cc s1 = true then d.set p (gt d q) else d)
  only : Only g wr w
  o1 : cc s1 = true → cc l1 = true
/-- A region that puts one thing of a row over another one. -/
theorem wp_put {α : Type} [Inhabited α] {id : Nat} {a : Act} {w : World} (hm : P.follows .mixedOrders = true) (hg : growable ops a.tmps.size = true)
    (e : Enc α) (he : e.Ok P) (base g cap : Nat) (d : List α) (p q : Nat) (hp : p < d.length) (hq : q < d.length) (hmem : RowG e w base g cap d)
    (val : Nat → Value) (l1 s1 a1 b1 : Nat) (ta1 tb1 tl1 : Tmp)
    (hv1 : val l1 = e.vf (gt d q)) (hva1 : val a1 = .pointer (some ⟨g, q * e.sz, none⟩)) (hvb1 : val b1 = .pointer (some ⟨g, p * e.sz, none⟩))
    (hl1 : ∃ o, ops[l1]? = some o ∧ o.op = .load e.E (.tmp ta1)) (hs1 : ∃ o, ops[s1]? = some o ∧ o.op = .store e.E (.tmp tb1) (.tmp tl1) ∧ o.dst = none)
    (hd : dstOf ops a1 = some ta1 ∧ dstOf ops b1 = some tb1 ∧ dstOf ops l1 = some tl1)
    (hw : (waits ops l1 a1 && waits ops s1 b1 && waits ops s1 l1) = true)
    (hne : l1 ≠ s1 ∧ a1 ≠ s1 ∧ b1 ≠ s1)
    (hpure : ∀ (i : Nat) (o : Oper), ops[i]? = some o → i ≠ l1 → i ≠ s1 → ∀ (b : Act) (W : World), Only g w W → (∀ j t, waits ops i j = true → j ≠ s1 → dstOf ops j = some t → b.eval (.tmp t) = val j) → (∀ t, outer ops t = true → b.eval (.tmp t) = a.eval (.tmp t)) →
      (execOp b.eval o).run P W = .ok (.value (val i)) W)
    (pv : List (Option Tmp × Value)) (hpv : (List.range ops.size).map (fun i => (dstOf ops i, val i)) = pv)
    (hend : ∀ (w' : World), RowG e w' base g cap (d.set p (gt d q)) → Only g w w' → Q .normal (putP pv a) w')
    (hsz : s1 < ops.size) :
    (Code.region id ops true).wp P Q a w := by
  simp only [Bool.and_eq_true] at hw
  obtain ⟨⟨w1, w3⟩, w4⟩ := hw
  obtain ⟨d1, d3, d5⟩ := hd
  obtain ⟨x2, n1, n5⟩ := hne
  refine wp_region_steps hm hg (PuS e base g cap d p q val l1 s1 w) ?_ ?_ _ rfl ?_
  · exact ⟨fun i hi => (by cases hi), (by rw [if_neg (by simp)]; exact own_drewN hmem 1), (Only.refl g w).drewN 1, fun h => (by cases h)⟩
  · intro i o ho cc vs W b hS hci hbd hev hout
    have hvl : ∀ j t, cc j = true → j ≠ s1 → dstOf ops j = some t → b.eval (.tmp t) = val j := fun j t hj h1 ht => (hev j t hj ht).trans (hS.vals j hj h1)
    by_cases e1 : i = l1
    · subst e1
      obtain ⟨o', ho', hop⟩ := hl1
      obtain rfl : o = o' := by rw [ho] at ho'; exact Option.some.inj ho'
      have hcs1 : cc s1 = false := by cases hq1 : cc s1; rfl; rw [hS.o1 hq1] at hci; cases hci
      have hmm := hS.mem
      rw [hcs1, if_neg (by simp)] at hmm
      refine wp_of_run _ (run_load (.tmp ta1) hop ((hvl a1 ta1 (hbd a1 w1) n1 d1).trans hva1) (he.ld W g (q * e.sz) (gt d q) fun j v hv => hmm.cell he hq hv)) ⟨_, rfl, ?_⟩
      refine ⟨fun j hj k1 => ?_, ?_, hS.only, fun h => ?_⟩
      · by_cases e : j = i
        · subst e; simp [hv1]
        · simp only [if_neg e] at hj ⊢; exact hS.vals j hj k1
      · simp only [if_neg (Ne.symm x2)]; exact hS.mem
      · simp only [if_neg (Ne.symm x2)] at h; rw [hcs1] at h; cases h
    by_cases e3 : i = s1
    · subst e3
      obtain ⟨o', ho', hop, hod⟩ := hs1
      obtain rfl : o = o' := by rw [ho] at ho'; exact Option.some.inj ho'
      have hmm := hS.mem
      rw [hci, if_neg (by simp)] at hmm
      obtain ⟨m1, m2⟩ := hmm.put he hp (gt d q)
      refine wp_of_skip (run_store (.tmp tb1) (.tmp tl1) hop ((hvl b1 tb1 (hbd b1 w3) n5 d3).trans hvb1) ((hvl l1 tl1 (hbd l1 w4) x2 d5).trans hv1) (he.st W g (p * e.sz) (gt d q) (hmm.there he hp))) ⟨_, rfl, ?_⟩
      refine ⟨fun j hj k1 => ?_, ?_, hS.only.trans m2, fun _ => ?_⟩
      · simp only [if_neg k1] at hj ⊢; exact hS.vals j hj k1
      · simp only [if_true]; exact m1
      · simp only [if_neg x2]; exact hbd l1 w4
    · refine wp_of_run _ (hpure i o ho e1 e3 b W hS.only (fun j t hj k1 ht => hvl j t (hbd j hj) k1 ht) hout) ⟨_, rfl, ?_⟩
      refine ⟨fun j hj k1 => ?_, ?_, hS.only, fun h => ?_⟩
      · by_cases e : j = i
        · subst e; simp
        · simp only [if_neg e] at hj ⊢; exact hS.vals j hj k1
      · simp only [if_neg (Ne.symm e3)]; exact hS.mem
      · simp only [if_neg (Ne.symm e3)] at h
        have k1 := hS.o1 h
        show (if l1 = i then true else cc l1) = true
        split; rfl; exact k1
  · intro cc vs W hS hall
    have hm2 := hS.mem
    rw [hall s1 hsz, if_pos rfl] at hm2
    have := hend W hm2 hS.only
    rw [← hpv, List.range_eq_range', ← putL_putP ops vs val] at this
    · rw [List.range_eq_range']; exact this
    · intro i _ hi
      obtain ⟨o1, h1, -, h2⟩ := hs1
      by_cases e1 : i = s1
      · left; subst e1; simp [dstOf, h1, h2]
      · exact .inr (hS.vals i (hall i (by omega)) e1)

/-- A region that draws its order, reads, and makes one call that may make memory. -/
theorem wp_ask {id : Nat} {a : Act} {w : World} (hm : P.follows .mixedOrders = true) (hg : growableG ops a.tmps.size = true)
    (val : Nat → Value) (k : Nat) (gc : FuncId) (args : Array Value)
    (hwant : ∀ (i : Nat) (o : Oper), ops[i]? = some o → ∀ (b : Act), (∀ j t, waits ops i j = true → dstOf ops j = some t → b.eval (.tmp t) = val j) → Region.wanted o (yielded ops b.tmps) = true)
    (hk : ∀ (o : Oper), ops[k]? = some o → ∀ (b : Act) (W : World), (∀ j t, waits ops k j = true → dstOf ops j = some t → b.eval (.tmp t) = val j) → (execOp b.eval o).run P W = .ok (.enter gc args) W)
    (hcmp : ∀ W, Below w.heap.size w W → Calls P gc args W fun e W' => e = .returned (val k) ∧ Below W.heap.size W W')
    (hpure : ∀ (i : Nat) (o : Oper), ops[i]? = some o → i ≠ k → ∀ (b : Act) (W : World), Below w.heap.size w W → (∀ j t, waits ops i j = true → dstOf ops j = some t → b.eval (.tmp t) = val j) → (∀ t, outer ops t = true → b.eval (.tmp t) = a.eval (.tmp t)) →
      (execOp b.eval o).run P W = .ok (.value (val i)) W)
    (pv : List (Option Tmp × Value)) (hpv : (List.range ops.size).map (fun i => (dstOf ops i, val i)) = pv)
    (hend : ∀ (w' : World), Below w.heap.size w w' → Q .normal (putP pv a) w') :
    (Code.region id ops true).wp P Q a w := by
  have step : ∀ {cc : Nat → Bool} {vs : Nat → Value} {W W' : World} (i : Nat), CmS val w cc vs W → Below W.heap.size W W' → CmS val w (fun j => if j = i then true else cc j) (fun j => if j = i then val i else vs j) W' := fun {cc vs W W'} i hS hb => by
    refine ⟨fun j hj => ?_, hS.below.trans (hb.mono hS.below.size)⟩
    by_cases e : j = i
    · subst e; simp
    · simp only [if_neg e] at hj ⊢; exact hS.vals j hj
  refine wp_region_stepsG hm hg (CmS val w) ⟨fun i hi => (by cases hi), below_drewN_ (Below.refl _ _) 1⟩ ?_ _ rfl ?_
  · intro i o ho cc vs W b hS hci hbd hev hout
    have hvl : ∀ j t, waits ops i j = true → dstOf ops j = some t → b.eval (.tmp t) = val j := fun j t hj ht => (hev j t (hbd j hj) ht).trans (hS.vals j (hbd j hj))
    refine ⟨hwant i o ho b hvl, ?_⟩
    by_cases e3 : i = k
    · subst e3
      refine wp_of_call (hk o ho b W hvl) ((hcmp W hS.below).mono ?_)
      rintro e w'' ⟨rfl, hb⟩
      exact ⟨_, rfl, _, rfl, step _ hS hb⟩
    · exact wp_of_run _ (hpure i o ho e3 b W hS.below hvl hout) ⟨_, rfl, step _ hS (Below.refl _ _)⟩
  · intro cc vs W hS hall
    have := hend W hS.below
    rw [← hpv, List.range_eq_range', ← putL_putP ops vs val] at this
    · rw [List.range_eq_range']; exact this
    · exact fun i _ hi => .inr (hS.vals i (hall i (by omega)))
/-- No operation of a region is guarded. -/
def freeB (ops : Array Oper) : Bool := (List.range ops.size).all fun i => match ops[i]? with
  | none => true
  | some o => o.guard.isNone
theorem wanted_free {ops : Array Oper} (h : freeB ops = true) {i : Nat} {o : Oper} (ho : ops[i]? = some o) (b : Act) : Region.wanted o (yielded ops b.tmps) = true := by
  have hi : i < ops.size := by
    rcases Nat.lt_or_ge i ops.size with h1 | h1
    · exact h1
    · rw [Array.getElem?_eq_none h1] at ho; cases ho
  have := List.all_eq_true.1 h i (List.mem_range.2 hi)
  simp only [ho, Option.isNone_iff_eq_none] at this
  simp [Region.wanted, this]
end
end Go.Proofs.Ytophfgijfmdbcaa.Hp

namespace Go.Proofs.Ytophfgijfmdbcaa.Hp
open Go.RowKit Go.Proofs.Ytophfgijfmdbcaa Go.Proofs.Ytophfgijfmdbcaa.So
variable {α : Type} [Inhabited α] {lt : α → α → Bool} {d : List α}

def Heap (lt : α → α → Bool) (d : List α) : Prop := ∀ j, 0 < j → j < d.length → lt (gt d j) (gt d ((j - 1) / 2)) = false
structure Up (lt : α → α → Bool) (d : List α) (i : Nat) : Prop where
  all : ∀ j, 0 < j → j < d.length → j ≠ i → lt (gt d j) (gt d ((j - 1) / 2)) = false
  kid : 0 < i → ∀ j, 0 < j → j < d.length → (j - 1) / 2 = i → lt (gt d j) (gt d ((i - 1) / 2)) = false
structure Down (lt : α → α → Bool) (d : List α) (i : Nat) : Prop where
  all : ∀ j, 0 < j → j < d.length → (j - 1) / 2 ≠ i → lt (gt d j) (gt d ((j - 1) / 2)) = false
  kid : 0 < i → ∀ j, 0 < j → j < d.length → (j - 1) / 2 = i → lt (gt d j) (gt d ((i - 1) / 2)) = false

theorem gt_set {i j : Nat} {x : α} (hi : i < d.length) : gt (d.set i x) j = if j = i then x else gt d j := by
  unfold gt
  rw [List.getD_eq_getElem?_getD, List.getD_eq_getElem?_getD, List.getElem?_set]
  by_cases h : i = j
  · subst h; simp [hi]
  · rw [if_neg h, if_neg (Ne.symm h)]
theorem gt_sw {p q j : Nat} (hp : p < d.length) (hq : q < d.length) : gt (sw d p q) j = if j = q then gt d p else if j = p then gt d q else gt d j := by
  unfold sw
  rw [gt_set (by rw [List.length_set]; exact hq), gt_set hp]
theorem gt_app {x : α} {j : Nat} (h : j < d.length) : gt (d ++ [x]) j = gt d j := by
  unfold gt
  rw [List.getD_eq_getElem?_getD, List.getD_eq_getElem?_getD, List.getElem?_append_left h]
theorem gt_take {k j : Nat} (h : j < k) : gt (d.take k) j = gt d j := by
  unfold gt
  rw [List.getD_eq_getElem?_getD, List.getD_eq_getElem?_getD, List.getElem?_take, if_pos h]
theorem sw_perm {p q : Nat} (hp : p < d.length) (hq : q < d.length) : (sw d p q).Perm d := by
  unfold sw
  rw [← gt_eq hp, ← gt_eq hq]
  exact List.set_set_perm hp hq

theorem Up.start (h : Heap lt d) (x : α) : Up lt (d ++ [x]) d.length where
  all j h0 hj hne := by
    have hl : j < d.length := by rw [List.length_append] at hj; simp at hj; omega
    rw [gt_app hl, gt_app (by omega)]
    exact h j h0 hl
  kid _ j h0 hj hp := by
    rw [List.length_append] at hj
    simp at hj
    omega
theorem Up.stop {i : Nat} (h : Up lt d i) (hi : i = 0 ∨ lt (gt d i) (gt d ((i - 1) / 2)) = false) : Heap lt d := fun j h0 hj => by
  by_cases e : j = i
  · subst e
    rcases hi with hi | hi
    · omega
    · exact hi
  · exact h.all j h0 hj e
theorem Up.step (hO : Swo lt) {i : Nat} (h : Up lt d i) (h0 : 0 < i) (hi : i < d.length) (hl : lt (gt d i) (gt d ((i - 1) / 2)) = true) : Up lt (sw d i ((i - 1) / 2)) ((i - 1) / 2) := by
  have hp : (i - 1) / 2 < d.length := by omega
  have hpi : (i - 1) / 2 < i := by omega
  generalize hpe : (i - 1) / 2 = p at *
  refine ⟨fun j j0 hj hne => ?_, fun hp0 j j0 hj hjp => ?_⟩
  · rw [sw_len] at hj
    rw [gt_sw hi hp, gt_sw hi hp, if_neg hne]
    by_cases e1 : j = i
    · subst e1
      rw [if_pos rfl, hpe, if_pos rfl]
      exact hO.asym hl
    · rw [if_neg e1]
      by_cases e2 : (j - 1) / 2 = i
      · rw [e2, if_neg (by omega), if_pos rfl]
        have := h.kid h0 j j0 hj e2
        rwa [hpe] at this
      · by_cases e3 : (j - 1) / 2 = p
        · rw [e3, if_pos rfl]
          have h1 := h.all j j0 hj e1
          rw [e3] at h1
          cases hq : lt (gt d j) (gt d i)
          · rfl
          · rw [hO.trans _ _ _ hq hl] at h1; cases h1
        · rw [if_neg e3, if_neg e2]
          exact h.all j j0 hj e1
  · rw [sw_len] at hj
    have hpp : (p - 1) / 2 < p := by omega
    rw [gt_sw hi hp, gt_sw hi hp, if_neg (show (p - 1) / 2 ≠ p by omega), if_neg (show (p - 1) / 2 ≠ i by omega), if_neg (show j ≠ p by omega)]
    have h2 := h.all p hp0 hp (by omega)
    by_cases e1 : j = i
    · rw [if_pos e1]; exact h2
    · rw [if_neg e1]
      have h1 := h.all j j0 hj e1
      rw [hjp] at h1
      exact hO.neg _ _ _ h1 h2

theorem Down.stop {i : Nat} (h : Down lt d i) (hk : ∀ j, 0 < j → j < d.length → (j - 1) / 2 = i → lt (gt d j) (gt d i) = false) : Heap lt d := fun j h0 hj => by
  by_cases e : (j - 1) / 2 = i
  · rw [e]; exact hk j h0 hj e
  · exact h.all j h0 hj e
theorem Down.step (hO : Swo lt) {i k : Nat} (h : Down lt d i) (hi : i < d.length) (hk : k < d.length) (k0 : 0 < k) (hp : (k - 1) / 2 = i) (hl : lt (gt d k) (gt d i) = true) (hs : ∀ j, 0 < j → j < d.length → (j - 1) / 2 = i → lt (gt d j) (gt d k) = false) : Down lt (sw d i k) k := by
  have hik : i < k := by omega
  refine ⟨fun j j0 hj hne => ?_, fun _ j j0 hj hjp => ?_⟩
  · rw [sw_len] at hj
    rw [gt_sw hi hk, gt_sw hi hk, if_neg hne]
    by_cases e1 : (j - 1) / 2 = i
    · rw [if_pos e1]
      by_cases e2 : j = k
      · rw [if_pos e2]; exact hO.asym hl
      · rw [if_neg e2, if_neg (by omega)]
        exact hs j j0 hj e1
    · rw [if_neg e1, if_neg (show j ≠ k by rintro rfl; exact e1 hp)]
      by_cases e2 : j = i
      · subst e2
        rw [if_pos rfl]
        exact h.kid j0 k k0 hk hp
      · rw [if_neg e2]
        exact h.all j j0 hj e1
  · rw [sw_len] at hj
    rw [gt_sw hi hk, gt_sw hi hk, hp, if_neg (show i ≠ k by omega), if_pos rfl, if_neg (show j ≠ k by omega), if_neg (show j ≠ i by omega)]
    have := h.all j j0 hj (by omega)
    rwa [hjp] at this
/-- The list behind the taking of the first thing, ahead of the sifting. -/
def cutLast (d : List α) : List α := (d.set 0 (gt d (d.length - 1))).take (d.length - 1)
theorem cutLast_len : (cutLast d).length = d.length - 1 := by unfold cutLast; rw [List.length_take, List.length_set]; omega
theorem Down.start (h : Heap lt d) : Down lt (cutLast d) 0 := by
  have hl : (cutLast d).length = d.length - 1 := cutLast_len
  refine ⟨fun j j0 hj hne => ?_, fun h0 => absurd h0 (by omega)⟩
  rw [hl] at hj
  have e : ∀ m, 0 < m → m < d.length - 1 → gt (cutLast d) m = gt d m := fun m m0 hm => by
    have h1 : gt (cutLast d) m = gt (d.set 0 (gt d (d.length - 1))) m := gt_take hm
    rw [h1, gt_set (by omega), if_neg (by omega)]
  rw [e j j0 hj, e _ (by omega) (by omega)]
  exact h j j0 (by omega)
theorem cutLast_perm (h : 0 < d.length) : d.Perm (gt d 0 :: cutLast d) := by
  cases d with
  | nil => simp at h
  | cons x r =>
    have e0 : gt (x :: r) 0 = x := rfl
    rw [e0]
    refine List.Perm.cons x ?_
    unfold cutLast
    rw [List.set_cons_zero, List.length_cons, Nat.add_sub_cancel]
    cases hr : r.length with
    | zero => rw [List.eq_nil_of_length_eq_zero hr]; exact List.Perm.refl _
    | succ n =>
      rw [List.take_succ_cons]
      have e1 : gt (x :: r) (n + 1) = r[n]'(by omega) := by rw [← gt_eq (by simp; omega)]; rfl
      rw [e1]
      have e2 : r = r.take n ++ [r[n]'(by omega)] := by
        conv => lhs; rw [← List.take_append_drop n r, List.drop_eq_getElem_cons (by omega), List.drop_of_length_le (by omega)]
      conv => lhs; rw [e2]
      exact List.perm_append_comm
theorem root_least (hO : Swo lt) (h : Heap lt d) : ∀ (n j : Nat), j ≤ n → j < d.length → lt (gt d j) (gt d 0) = false
  | 0, j, hn, _ => by obtain rfl : j = 0 := by omega
                      exact hO.irr _
  | n + 1, j, hn, hj => by
    rcases Nat.eq_zero_or_pos j with h0 | h0
    · subst h0; exact hO.irr _
    · exact hO.neg _ _ _ (h j h0 hj) (root_least hO h n ((j - 1) / 2) (by omega) (by omega))
theorem heap_nil : Heap lt ([] : List α) := fun j _ hj => absurd hj (by simp)
end Go.Proofs.Ytophfgijfmdbcaa.Hp

namespace Go.Proofs.Ytophfgijfmdbcaa.Hp
open Go.RowKit Go.Proofs.Ytophfgijfmdbcaa Go.Proofs.Ytophfgijfmdbcaa.So
section
variable {P : Program} {o : Oper} {b : Act}
theorem run_nil (W : World) (x : Operand) (ho : o.op = .nilCheck x) {ad : Addr} (hx : b.eval x = .pointer (some ad)) : (execOp b.eval o).run P W = .ok (.value (.pointer (some ad))) W := by
  unfold execOp
  simp only [ho, hx]
  simp [go_sem]
theorem run_mul2 (W : World) (y : Operand) {t t' : TypeId} (ho : o.op = .binOp .mul t (.const (.int .i64 2)) y t') {v r : Int} (hy : b.eval y = .int .i64 v) (hr : IntKind.i64.wrap (2 * v) = r) : (execOp b.eval o).run P W = .ok (.value (.int .i64 r)) W := by
  have hx : b.eval (.const (.int .i64 2)) = .int .i64 2 := rfl
  unfold execOp
  simp only [ho, hx, hy]
  simp [go_sem, hr]
theorem run_half (W : World) (x : Operand) {t t' : TypeId} (ho : o.op = .binOp .quo t x (.const (.int .i64 2)) t') {u : Int} (hx : b.eval x = .int .i64 u) (h0 : 0 ≤ u) (h1 : u ≤ 4611686018427387904) : (execOp b.eval o).run P W = .ok (.value (.int .i64 (u / 2))) W := by
  have hy : b.eval (.const (.int .i64 2)) = .int .i64 2 := rfl
  have hd : u.tdiv 2 = u / 2 := Int.tdiv_eq_ediv_of_nonneg h0
  have hw : IntKind.i64.wrap (u / 2) = u / 2 := IntWalk.i64_in _ (by omega)
  unfold execOp
  simp only [ho, hx, hy]
  simp [go_sem, hd, hw]
theorem run_lss (W : World) (x y : Operand) {t t' : TypeId} (ho : o.op = .binOp .lss t x y t') {u v : Int} (hx : b.eval x = .int .i64 u) (hy : b.eval y = .int .i64 v) (h : u < v) : (execOp b.eval o).run P W = .ok (.value (.bool true)) W := by
  unfold execOp
  simp only [ho, hx, hy]
  simp [go_sem, h]
theorem run_gtr0 (W : World) (x : Operand) {t t' : TypeId} (ho : o.op = .binOp .gtr t x (.const (.int .i64 0)) t') {u : Int} (hx : b.eval x = .int .i64 u) (h : 0 < u) : (execOp b.eval o).run P W = .ok (.value (.bool true)) W := by
  have hy : b.eval (.const (.int .i64 0)) = .int .i64 0 := rfl
  unfold execOp
  simp only [ho, hx, hy]
  simp [go_sem, h]
theorem run_idxv (W : World) (x y : Operand) {t : TypeId} (ho : o.op = .indexAddr t x y) {u v r : Value} (hx : b.eval x = u) (hy : b.eval y = v) (hr : (Instr.indexAt t u v).run P W = .ok r W) : (execOp b.eval o).run P W = .ok (.value r) W := by
  unfold execOp
  simp [ho, hx, hy, hr]
theorem run_callv (W : World) (tf tx ty : Tmp) {ts : Array TypeId} {gc : FuncId} {FR : Array Value} {u v : Value} (ho : o.op = .call { callee := .value (.tmp tf), args := #[.tmp tx, .tmp ty], argTypes := ts })
    (hf : b.eval (.tmp tf) = .func (.func gc) #[] FR) (hx : b.eval (.tmp tx) = u) (hy : b.eval (.tmp ty) = v) (hent : (callFunc gc (#[u, v] ++ FR)).run P W = .ok (.enter gc (#[u, v] ++ FR)) W) : (execOp b.eval o).run P W = .ok (.enter gc (#[u, v] ++ FR)) W := by
  unfold execOp
  simp only [ho, resolve, invoke, hx, hy, hf, Deferred.ofValue, List.map_toArray, List.map_cons, List.map_nil, Array.empty_append, Sem.run_bind, Sem.run_pure, Result.andThen_ok, hent]
end

theorem own_not' {w w' : World} {g base n size : Nat} {e : TypeId} {v : Value} {xs : List Value} (h : w.ownsRow base e size v n xs) (ho : Only g w w') (hne : v.ownBlock ≠ some g) : w'.ownsRow base e size v n xs := h.kept ho (.inr hne)
/-- From w to w' at most blocks gh and g have turned, of those that were there. -/
structure Fr (gh : Nat) (g : Option Nat) (w w' : World) : Prop where
  os : w'.os = w.os
  tape : w'.tape = w.tape
  output : w'.output = w.output
  size : w.heap.size ≤ w'.heap.size
  block : ∀ i, i < w.heap.size → i ≠ gh → some i ≠ g → w'.heap[i]? = w.heap[i]?
theorem Fr.refl (gh : Nat) (g : Option Nat) (w : World) : Fr gh g w w := ⟨rfl, rfl, rfl, Nat.le_refl _, fun _ _ _ _ => rfl⟩
theorem Fr.below {gh : Nat} {g : Option Nat} {w w1 w2 : World} (h : Fr gh g w w1) (hb : Below w1.heap.size w1 w2) : Fr gh g w w2 :=
  ⟨hb.os.trans h.os, hb.tape.trans h.tape, hb.output.trans h.output, Nat.le_trans h.size hb.size, fun i hi h1 h2 => (hb.block i (Nat.lt_of_lt_of_le hi h.size)).trans (h.block i hi h1 h2)⟩
theorem Fr.only {gh k : Nat} {g : Option Nat} {w w1 w2 : World} (h : Fr gh g w w1) (ho : Only k w1 w2) (hk : k = gh ∨ some k = g ∨ w.heap.size ≤ k) : Fr gh g w w2 :=
  ⟨ho.os.trans h.os, ho.tape.trans h.tape, ho.output.trans h.output, Nat.le_trans h.size ho.size, fun i hi h1 h2 => (ho.block i (Nat.lt_of_lt_of_le hi h.size) (fun e => by
    injection e with e
    subst e
    rcases hk with hk | hk | hk
    · exact h1 hk
    · exact h2 hk
    · omega)).trans (h.block i hi h1 h2)⟩
theorem Fr.grown {gh : Nat} {g : Option Nat} {w : World} {o : Obj} {w2 : World} (hb : (w.alloc o).grownBy w2 g) : Fr gh g w w2 :=
  ⟨hb.os, hb.tape, hb.output, by have := hb.size; rw [World.size_alloc] at this; omega, fun i hi _ h2 => (hb.block i (by simp; omega) h2).trans (Below.heap_alloc w o i hi)⟩
theorem Fr.blk {gh k : Nat} {g : Option Nat} {w w' : World} {t : TypeId} {cs : Array Value} (h : Fr gh g w w') (hb : Blk w k t cs) (h1 : k ≠ gh) (h2 : some k ≠ g) : Blk w' k t cs := (h.block k hb.lt h1 h2).trans hb
def ownB (A : Option Addr) : Option Nat := (Value.slice A 0 0).ownBlock
theorem ownB_eq (A : Option Addr) (n c : Nat) : (Value.slice A n c).ownBlock = ownB A := by cases A <;> rfl
/-- A heap of the call's own behind a pointer: its row, its order; the row lies elsewhere. -/
structure HeapAt {α : Type} (e : Enc α) (TH : TypeId) (w : World) (B gh : Nat) (fv : Value) (A : Option Addr) (c : Nat) (d : List α) : Prop where
  blk : Blk w gh TH #[.slice A d.length c, fv]
  low : B ≤ gh
  own : w.ownsRow B e.E e.sz (.slice A d.length c) d.length (d.flatMap e.cs)
theorem HeapAt.below {α : Type} {e : Enc α} {TH : TypeId} {w w' : World} {B gh c : Nat} {fv : Value} {A : Option Addr} {d : List α} (h : HeapAt e TH w B gh fv A c d) (hb : Below w.heap.size w w') : HeapAt e TH w' B gh fv A c d :=
  ⟨h.blk.below hb h.blk.lt, h.low, own_below h.own hb⟩
theorem HeapAt.row {α : Type} {e : Enc α} {TH : TypeId} {w : World} {B gh g c : Nat} {fv : Value} {d : List α} (h : HeapAt e TH w B gh fv (some ⟨g, 0, none⟩) c d) : RowG e w B g c d := h.own
theorem HeapAt.ne {α : Type} {e : Enc α} {TH : TypeId} {w : World} {B gh g c : Nat} {fv : Value} {d : List α} (h : HeapAt e TH w B gh fv (some ⟨g, 0, none⟩) c d) (ht : TH ≠ e.E) : gh ≠ g := by
  rcases h.own.2 with ⟨h1, _⟩ | ⟨g', cap', cur, h1, _, hg, _⟩
  · cases h1
  · injection h1 with h1
    injection h1 with h1
    injection h1 with h1
    subst h1
    exact Blk.ne_ h.blk hg ht
theorem own_at {w : World} {base n c : Nat} {t : TypeId} {size : Nat} {A : Option Addr} {xs : List Value} (h : w.ownsRow base t size (.slice A n c) n xs) (hn : 0 < n) : ∃ g, A = some ⟨g, 0, none⟩ ∧ base ≤ g ∧ g < w.heap.size ∧ n ≤ c := by
  rcases h.2 with ⟨h1, h2⟩ | ⟨g, cap, cur, h1, hb, hg, hnc, _⟩
  · omega
  · injection h1 with e1 _ e2
    subst e1 e2
    exact ⟨g, rfl, hb, Blk.lt hg, hnc⟩
/-- A row, cut behind. -/
theorem own_prefix {w : World} {base g n k cap : Nat} {t : TypeId} {size : Nat} {xs : List Value} (h : w.ownsRow base t size (.slice (some ⟨g, 0, none⟩) n cap) n xs) (hk : k ≤ n) : w.ownsRow base t size (.slice (some ⟨g, 0, none⟩) k cap) k (xs.take (k * size)) := by
  have hl := h.1
  have hle : k * size ≤ n * size := Nat.mul_le_mul_right _ hk
  refine ⟨by rw [List.length_take, hl]; omega, .inr ?_⟩
  rcases h.2 with ⟨h', _⟩ | ⟨g', cap', cur, h', hb, hg, hnc, hcm, hcs, htake⟩
  · cases h'
  · injection h' with e1 _ e2
    injection e1 with e1
    injection e1 with e1
    subst e1 e2
    refine ⟨g, cap, cur, rfl, hb, hg, by omega, hcm, hcs, ?_⟩
    rw [← htake, List.take_take, Nat.min_eq_left hle]
theorem flatMap_take {α : Type} {cells : α → List Value} {size : Nat} (h : ∀ x, (cells x).length = size) : ∀ (l : List α) (k : Nat), (l.flatMap cells).take (k * size) = (l.take k).flatMap cells
  | [], k => by simp
  | x :: r, 0 => by simp
  | x :: r, k + 1 => by
    rw [List.flatMap_cons, List.take_succ_cons, List.flatMap_cons, ← flatMap_take h r k, show (k + 1) * size = (cells x).length + k * size by rw [h, Nat.succ_mul, Nat.add_comm], List.take_length_add_append]
end Go.Proofs.Ytophfgijfmdbcaa.Hp
