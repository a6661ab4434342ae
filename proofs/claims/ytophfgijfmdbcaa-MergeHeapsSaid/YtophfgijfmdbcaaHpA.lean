/- Rows of things of any size; a region that changes two of them about; a region that asks a function about two of them: one rule for all orders. -/
import Derived.Test.YtophfgijfmdbcaaProg
import Derived.Test.YtophfgijfmdbcaaSoJ
import Derived.Test.YtophfgijfmdbcaaPart
namespace Go.Proofs.Ytophfgijfmdbcaa.Hp
open Go.RowKit Go.Proofs.Ytophfgijfmdbcaa Go.Proofs.Ytophfgijfmdbcaa.So

/-- How a thing lies: its cells, how many, its type, its value. -/
structure Enc (α : Type) where
  cs : α → List Value
  sz : Nat
  E : TypeId
  vf : α → Value
structure Enc.Ok {α : Type} (P : Program) (e : Enc α) : Prop where
  len : ∀ x, (e.cs x).length = e.sz
  one : ∀ x, ∀ v ∈ e.cs x, v.oneCell' = true
  pos : 0 < e.sz
  ld : ∀ (W : World) (g o : Nat) (x : α), (∀ j v, (e.cs x)[j]? = some v → W.cell? ⟨g, o + j, none⟩ = some v) → (Instr.loadAt e.E (.pointer (some ⟨g, o, none⟩))).run P W = .ok (e.vf x) W
  st : ∀ (W : World) (g o : Nat) (x : α), (∀ j, j < e.sz → (W.cell? ⟨g, o + j, none⟩).isSome = true ∧ W.frozen? ⟨g, o + j, none⟩ = false) → (Instr.storeAt e.E (.pointer (some ⟨g, o, none⟩)) (e.vf x)).run P W = .ok () (W.setCells g o (e.cs x))

section
variable {α : Type} {P : Program} {e : Enc α}
/-- A row of the call's own. -/
def RowG (e : Enc α) (w : World) (base g cap : Nat) (d : List α) : Prop := w.ownsRow base e.E e.sz (.slice (some ⟨g, 0, none⟩) d.length cap) d.length (d.flatMap e.cs)
variable {w w' : World} {base g cap : Nat} {d : List α}
theorem RowG.cell [Inhabited α] (he : e.Ok P) (h : RowG e w base g cap d) {i : Nat} (hi : i < d.length) {j : Nat} {v : Value} (hv : (e.cs (gt d i))[j]? = some v) : w.cell? ⟨g, i * e.sz + j, none⟩ = some v := by
  have hj : j < e.sz := by rw [← he.len (gt d i)]; exact (List.getElem?_eq_some_iff.1 hv).1
  have hl := flatMap_len he.len d
  have hij : i * e.sz + j < d.length * e.sz := by
    have : (i + 1) * e.sz ≤ d.length * e.sz := Nat.mul_le_mul_right _ hi
    rw [Nat.succ_mul] at this
    omega
  rw [World.ownsRow.cellAt h _ (by omega), flatMap_get he.len d i hi j hj, gt_eq hi]
  exact hv
theorem RowG.there [Inhabited α] (he : e.Ok P) (h : RowG e w base g cap d) {i : Nat} (hi : i < d.length) : ∀ j, j < e.sz → (w.cell? ⟨g, i * e.sz + j, none⟩).isSome = true ∧ w.frozen? ⟨g, i * e.sz + j, none⟩ = false := fun j hj => by
  have hv : (e.cs (gt d i))[j]? = some ((e.cs (gt d i))[j]'(by rw [he.len]; exact hj)) := List.getElem?_eq_getElem _
  rw [h.cell he hi hv]
  exact ⟨rfl, World.ownsRow.frozenAt h _⟩
theorem RowG.below (h : RowG e w base g cap d) (hb : Below w.heap.size w w') : RowG e w' base g cap d := own_below h hb
theorem RowG.lt (h : RowG e w base g cap d) : base ≤ g ∧ g < w.heap.size := World.ownsRow.lt h g rfl
theorem RowG.rebase (h : RowG e w base g cap d) {b : Nat} (hb : b ≤ base) : RowG e w b g cap d := own_base h hb
theorem flatMap_set (he : e.Ok P) {i : Nat} (hi : i < d.length) (x : α) : setsAt (d.flatMap e.cs) (i * e.sz) (e.cs x) = (d.set i x).flatMap e.cs := by
  have hl := flatMap_len he.len d
  have h1 := he.len x
  have hle : i * e.sz + e.sz ≤ d.length * e.sz := by
    have : (i + 1) * e.sz ≤ d.length * e.sz := Nat.mul_le_mul_right _ hi
    rw [Nat.succ_mul] at this
    exact this
  rw [setsAt_eq _ _ _ (by omega), h1]
  have e1 : d = d.take i ++ d[i] :: d.drop (i + 1) := by rw [← List.drop_eq_getElem_cons hi, List.take_append_drop]
  have hli : ((d.take i).flatMap e.cs).length = i * e.sz := by rw [flatMap_len he.len, List.length_take, Nat.min_eq_left (by omega)]
  have e2 : d.flatMap e.cs = (d.take i).flatMap e.cs ++ (e.cs d[i] ++ (d.drop (i + 1)).flatMap e.cs) := by
    conv => lhs; rw [e1]
    rw [List.flatMap_append, List.flatMap_cons]
  have e3 : (d.set i x).flatMap e.cs = (d.take i).flatMap e.cs ++ (e.cs x ++ (d.drop (i + 1)).flatMap e.cs) := by
    rw [List.set_eq_take_append_cons_drop, if_pos hi, List.flatMap_append, List.flatMap_cons]
  rw [e3, e2, List.take_left' hli, ← List.drop_drop, List.drop_left' hli, List.drop_left' (he.len _), List.append_assoc]
theorem own_setsG {xs : List Value} {n size : Nat} {t : TypeId} : ∀ (vs : List Value) (o : Nat) (w : World) (xs : List Value), w.ownsRow base t size (.slice (some ⟨g, 0, none⟩) n cap) n xs →
    (w.setCells g o vs).ownsRow base t size (.slice (some ⟨g, 0, none⟩) n cap) n (setsAt xs o vs) ∧ Only g w (w.setCells g o vs)
  | [], _, w, _, h => ⟨h, Only.refl g w⟩
  | v :: r, o, w, xs, h => by
    have h1 := (World.ownsRow.stored h o v).1
    obtain ⟨h2, h3⟩ := own_setsG (xs := xs) r (o + 1) _ _ h1
    exact ⟨h2, ((Only.refl g w).setCell (.inl rfl) v).trans h3⟩
theorem RowG.put (he : e.Ok P) (h : RowG e w base g cap d) {i : Nat} (hi : i < d.length) (x : α) : RowG e (w.setCells g (i * e.sz) (e.cs x)) base g cap (d.set i x) ∧ Only g w (w.setCells g (i * e.sz) (e.cs x)) := by
  obtain ⟨h1, h2⟩ := own_setsG (xs := d.flatMap e.cs) (e.cs x) (i * e.sz) w _ h
  rw [flatMap_set he hi x] at h1
  exact ⟨by unfold RowG; rw [List.length_set]; exact h1, h2⟩
end

section
variable {P : Program} {ops : Array Oper} {Q : Exit → Act → World → Prop}
theorem run_load {o : Oper} {b : Act} {W : World} (x : Operand) {t : TypeId} (ho : o.op = .load t x) {u r : Value} (hx : b.eval x = u) (hr : (Instr.loadAt t u).run P W = .ok r W) : (execOp b.eval o).run P W = .ok (.value r) W := by
  unfold execOp
  simp only [ho, hx]
  simp [hr]
theorem run_store {o : Oper} {b : Act} {W W' : World} (x y : Operand) {t : TypeId} (ho : o.op = .store t x y) {u v : Value} (hx : b.eval x = u) (hy : b.eval y = v) (hr : (Instr.storeAt t u v).run P W = .ok () W') : (execOp b.eval o).run P W = .ok .skip W' := by
  unfold execOp
  simp only [ho, hx, hy]
  simp [hr]

/-- How far the exchange is. -/
structure ExS {α : Type} [Inhabited α] (e : Enc α) (base g cap : Nat) (d : List α) (p q : Nat) (val : Nat → Value) (l1 l2 s1 s2 : Nat) (wr : World) (cc : Nat → Bool) (vs : Nat → Value) (w : World) : Prop where
  vals : ∀ i, cc i = true → i ≠ s1 → i ≠ s2 → vs i = val i
  mem : RowG e w base g cap (if cc s2 = true then sw d p q else if cc s1 = true then d.set p (gt d q) else d)
  only : Only g wr w
  o1 : cc s1 = true → cc l1 = true ∧ cc l2 = true
  o2 : cc s2 = true → cc s1 = true

theorem wp_exch {α : Type} [Inhabited α] {id : Nat} {a : Act} {w : World} (hm : P.follows .mixedOrders = true) (hg : growable ops a.tmps.size = true)
    (e : Enc α) (he : e.Ok P) (base g cap : Nat) (d : List α) (p q : Nat) (hp : p < d.length) (hq : q < d.length) (hmem : RowG e w base g cap d)
    (val : Nat → Value) (l1 l2 s1 s2 a1 a2 b1 b2 : Nat) (ta1 ta2 tb1 tb2 tl1 tl2 : Tmp)
    (hv1 : val l1 = e.vf (gt d q)) (hv2 : val l2 = e.vf (gt d p))
    (hva1 : val a1 = .pointer (some ⟨g, q * e.sz, none⟩)) (hva2 : val a2 = .pointer (some ⟨g, p * e.sz, none⟩)) (hvb1 : val b1 = .pointer (some ⟨g, p * e.sz, none⟩)) (hvb2 : val b2 = .pointer (some ⟨g, q * e.sz, none⟩))
    (hl1 : ∃ o, ops[l1]? = some o ∧ o.op = .load e.E (.tmp ta1)) (hl2 : ∃ o, ops[l2]? = some o ∧ o.op = .load e.E (.tmp ta2))
    (hs1 : ∃ o, ops[s1]? = some o ∧ o.op = .store e.E (.tmp tb1) (.tmp tl1) ∧ o.dst = none) (hs2 : ∃ o, ops[s2]? = some o ∧ o.op = .store e.E (.tmp tb2) (.tmp tl2) ∧ o.dst = none)
    (hd : dstOf ops a1 = some ta1 ∧ dstOf ops a2 = some ta2 ∧ dstOf ops b1 = some tb1 ∧ dstOf ops b2 = some tb2 ∧ dstOf ops l1 = some tl1 ∧ dstOf ops l2 = some tl2)
    (hw : (waits ops l1 a1 && waits ops l2 a2 && waits ops s1 b1 && waits ops s1 l1 && waits ops s1 l2 && waits ops s2 b2 && waits ops s2 l2 && waits ops s2 s1) = true)
    (hne : [l1, l2, s1, s2].Nodup ∧ a1 ≠ s1 ∧ a1 ≠ s2 ∧ a2 ≠ s1 ∧ a2 ≠ s2 ∧ b1 ≠ s1 ∧ b1 ≠ s2 ∧ b2 ≠ s1 ∧ b2 ≠ s2)
    (hpure : ∀ (i : Nat) (o : Oper), ops[i]? = some o → i ≠ l1 → i ≠ l2 → i ≠ s1 → i ≠ s2 → ∀ (b : Act) (W : World), Only g w W → (∀ j t, waits ops i j = true → j ≠ s1 → j ≠ s2 → dstOf ops j = some t → b.eval (.tmp t) = val j) → (∀ t, outer ops t = true → b.eval (.tmp t) = a.eval (.tmp t)) →
      (execOp b.eval o).run P W = .ok (.value (val i)) W)
    (pv : List (Option Tmp × Value)) (hpv : (List.range ops.size).map (fun i => (dstOf ops i, val i)) = pv)
    (hend : ∀ (w' : World), RowG e w' base g cap (sw d p q) → Only g w w' → Q .normal (putP pv a) w')
    (hsz : s1 < ops.size ∧ s2 < ops.size) :
    (Code.region id ops true).wp P Q a w := by
  simp only [Bool.and_eq_true] at hw
  obtain ⟨⟨⟨⟨⟨⟨⟨w1, w2⟩, w3⟩, w4⟩, w5⟩, w6⟩, w7⟩, w8⟩ := hw
  obtain ⟨d1, d2, d3, d4, d5, d6⟩ := hd
  obtain ⟨hnd, n1, n2, n3, n4, n5, n6, n7, n8⟩ := hne
  simp only [List.nodup_cons, List.mem_cons, not_or, List.not_mem_nil, not_false_eq_true, and_true, List.nodup_nil] at hnd
  obtain ⟨⟨x1, x2, x3⟩, ⟨x4, x5⟩, x6⟩ := hnd
  refine wp_region_steps hm hg (ExS e base g cap d p q val l1 l2 s1 s2 w) ?_ ?_ _ rfl ?_
  · exact ⟨fun i hi => (by cases hi), (by rw [if_neg (by simp), if_neg (by simp)]; exact own_drewN hmem 1), (Only.refl g w).drewN 1, fun h => (by cases h), fun h => (by cases h)⟩
  · intro i o ho cc vs W b hS hci hbd hev hout
    have hvl : ∀ j t, cc j = true → j ≠ s1 → j ≠ s2 → dstOf ops j = some t → b.eval (.tmp t) = val j := fun j t hj h1 h2 ht => (hev j t hj ht).trans (hS.vals j hj h1 h2)
    by_cases e1 : i = l1
    · subst e1
      obtain ⟨o', ho', hop⟩ := hl1
      obtain rfl : o = o' := by rw [ho] at ho'; exact Option.some.inj ho'
      have hcs1 : cc s1 = false := by cases hq1 : cc s1; rfl; rw [(hS.o1 hq1).1] at hci; cases hci
      have hcs2 : cc s2 = false := by cases hq1 : cc s2; rfl; rw [hS.o2 hq1] at hcs1; cases hcs1
      have hmm := hS.mem
      rw [hcs2, hcs1, if_neg (by simp), if_neg (by simp)] at hmm
      refine wp_of_run _ (run_load (.tmp ta1) hop ((hvl a1 ta1 (hbd a1 w1) n1 n2 d1).trans hva1) (he.ld W g (q * e.sz) (gt d q) fun j v hv => hmm.cell he hq hv)) ⟨_, rfl, ?_⟩
      refine ⟨fun j hj k1 k2 => ?_, ?_, hS.only, fun h => ?_, fun h => ?_⟩
      · by_cases e : j = i
        · subst e; simp [hv1]
        · simp only [if_neg e] at hj ⊢; exact hS.vals j hj k1 k2
      · simp only [if_neg (Ne.symm x2), if_neg (Ne.symm x3)]; exact hS.mem
      · simp only [if_neg (Ne.symm x2)] at h; rw [hcs1] at h; cases h
      · simp only [if_neg (Ne.symm x3)] at h; rw [hcs2] at h; cases h
    by_cases e2 : i = l2
    · subst e2
      obtain ⟨o', ho', hop⟩ := hl2
      obtain rfl : o = o' := by rw [ho] at ho'; exact Option.some.inj ho'
      have hcs1 : cc s1 = false := by cases hq1 : cc s1; rfl; rw [(hS.o1 hq1).2] at hci; cases hci
      have hcs2 : cc s2 = false := by cases hq1 : cc s2; rfl; rw [hS.o2 hq1] at hcs1; cases hcs1
      have hmm := hS.mem
      rw [hcs2, hcs1, if_neg (by simp), if_neg (by simp)] at hmm
      refine wp_of_run _ (run_load (.tmp ta2) hop ((hvl a2 ta2 (hbd a2 w2) n3 n4 d2).trans hva2) (he.ld W g (p * e.sz) (gt d p) fun j v hv => hmm.cell he hp hv)) ⟨_, rfl, ?_⟩
      refine ⟨fun j hj k1 k2 => ?_, ?_, hS.only, fun h => ?_, fun h => ?_⟩
      · by_cases e : j = i
        · subst e; simp [hv2]
        · simp only [if_neg e] at hj ⊢; exact hS.vals j hj k1 k2
      · simp only [if_neg (Ne.symm x4), if_neg (Ne.symm x5)]; exact hS.mem
      · simp only [if_neg (Ne.symm x4)] at h; rw [hcs1] at h; cases h
      · simp only [if_neg (Ne.symm x5)] at h; rw [hcs2] at h; cases h
    by_cases e3 : i = s1
    · subst e3
      obtain ⟨o', ho', hop, hod⟩ := hs1
      obtain rfl : o = o' := by rw [ho] at ho'; exact Option.some.inj ho'
      have hcs2 : cc s2 = false := by cases hq1 : cc s2; rfl; rw [hS.o2 hq1] at hci; cases hci
      have hmm := hS.mem
      rw [hcs2, hci, if_neg (by simp), if_neg (by simp)] at hmm
      obtain ⟨m1, m2⟩ := hmm.put he hp (gt d q)
      refine wp_of_skip (run_store (.tmp tb1) (.tmp tl1) hop ((hvl b1 tb1 (hbd b1 w3) n5 n6 d3).trans hvb1) ((hvl l1 tl1 (hbd l1 w4) x2 x3 d5).trans hv1) (he.st W g (p * e.sz) (gt d q) (hmm.there he hp))) ⟨_, rfl, ?_⟩
      refine ⟨fun j hj k1 k2 => ?_, ?_, hS.only.trans m2, fun _ => ?_, fun h => ?_⟩
      · simp only [if_neg k1] at hj ⊢; exact hS.vals j hj k1 k2
      · simp only [if_neg (Ne.symm x6), hcs2, if_true, Bool.false_eq_true, if_false]; exact m1
      · simp only [if_neg x2, if_neg x4]; exact ⟨hbd l1 w4, hbd l2 w5⟩
      · simp only [if_true]
    by_cases e4 : i = s2
    · subst e4
      obtain ⟨o', ho', hop, hod⟩ := hs2
      obtain rfl : o = o' := by rw [ho] at ho'; exact Option.some.inj ho'
      have hcs1 : cc s1 = true := hbd s1 w8
      have hmm := hS.mem
      rw [hci, hcs1, if_neg (by simp), if_pos rfl] at hmm
      have hq' : q < (d.set p (gt d q)).length := by rw [List.length_set]; exact hq
      obtain ⟨m1, m2⟩ := hmm.put he hq' (gt d p)
      refine wp_of_skip (run_store (.tmp tb2) (.tmp tl2) hop ((hvl b2 tb2 (hbd b2 w6) n7 n8 d4).trans hvb2) ((hvl l2 tl2 (hbd l2 w7) x4 x5 d6).trans hv2) (he.st W g (q * e.sz) (gt d p) (hmm.there he hq'))) ⟨_, rfl, ?_⟩
      refine ⟨fun j hj k1 k2 => ?_, ?_, hS.only.trans m2, fun _ => ?_, fun _ => ?_⟩
      · simp only [if_neg k2] at hj ⊢; exact hS.vals j hj k1 k2
      · simp only [if_true]; exact m1
      · simp only [if_neg x3, if_neg x5]; exact hS.o1 hcs1
      · simp only [if_neg x6]; exact hcs1
    · refine wp_of_run _ (hpure i o ho e1 e2 e3 e4 b W hS.only (fun j t hj k1 k2 ht => hvl j t (hbd j hj) k1 k2 ht) hout) ⟨_, rfl, ?_⟩
      refine ⟨fun j hj k1 k2 => ?_, ?_, hS.only, fun h => ?_, fun h => ?_⟩
      · by_cases e : j = i
        · subst e; simp
        · simp only [if_neg e] at hj ⊢; exact hS.vals j hj k1 k2
      · simp only [if_neg (Ne.symm e3), if_neg (Ne.symm e4)]; exact hS.mem
      · simp only [if_neg (Ne.symm e3)] at h
        obtain ⟨k1, k2⟩ := hS.o1 h
        exact ⟨by split; rfl; exact k1, by split; rfl; exact k2⟩
      · simp only [if_neg (Ne.symm e4)] at h
        simp only [if_neg (Ne.symm e3)]; exact hS.o2 h
  · intro cc vs W hS hall
    have hm2 := hS.mem
    rw [hall s2 hsz.2, if_pos rfl] at hm2
    have := hend W hm2 hS.only
    rw [← hpv, List.range_eq_range', ← putL_putP ops vs val] at this
    · rw [List.range_eq_range']; exact this
    · intro i _ hi
      obtain ⟨o1, h1, -, h2⟩ := hs1
      obtain ⟨o2, h3, -, h4⟩ := hs2
      by_cases e1 : i = s1
      · left; subst e1; simp [dstOf, h1, h2]
      · by_cases e2 : i = s2
        · left; subst e2; simp [dstOf, h3, h4]
        · exact .inr (hS.vals i (hall i (by omega)) e1 e2)

/-- How far the putting is. -/
structure PuS {α : Type} [Inhabited α] (e : Enc α) (base g cap : Nat) (d : List α) (p q : Nat) (val : Nat → Value) (l1 s1 : Nat) (wr : World) (cc : Nat → Bool) (vs : Nat → Value) (w : World) : Prop where
  vals : ∀ i, cc i = true → i ≠ s1 → vs i = val i
  mem : RowG e w base g cap (if cc s1 = true then d.set p (gt d q) else d)
  only : Only g wr w
  o1 : cc s1 = true → cc l1 = true
/-- A region that puts one thing of a row over another one. -/
theorem wp_put {α : Type} [Inhabited α] {id : Nat} {a : Act} {w : World} (hm : P.follows .mixedOrders = true) (hg : growable ops a.tmps.size = true)
    (e : Enc α) (he : e.Ok P) (base g cap : Nat) (d : List α) (p q : Nat) (hp : p < d.length) (hq : q < d.length) (hmem : RowG e w base g cap d)
    (val : Nat → Value) (l1 s1 a1 b1 : Nat) (ta1 tb1 tl1 : Tmp)
    (hv1 : val l1 = e.vf (gt d q)) (hva1 : val a1 = .pointer (some ⟨g, q * e.sz, none⟩)) (hvb1 : val b1 = .pointer (some ⟨g, p * e.sz, none⟩))
    (hl1 : ∃ o, ops[l1]? = some o ∧ o.op = .load e.E (.tmp ta1)) (hs1 : ∃ o, ops[s1]? = some o ∧ o.op = .store e.E (.tmp tb1) (.tmp tl1) ∧ o.dst = none)
    (hd : dstOf ops a1 = some ta1 ∧ dstOf ops b1 = some tb1 ∧ dstOf ops l1 = some tl1)
    (hw : (waits ops l1 a1 && waits ops s1 b1 && waits ops s1 l1) = true)
    (hne : l1 ≠ s1 ∧ a1 ≠ s1 ∧ b1 ≠ s1)
    (hpure : ∀ (i : Nat) (o : Oper), ops[i]? = some o → i ≠ l1 → i ≠ s1 → ∀ (b : Act) (W : World), Only g w W → (∀ j t, waits ops i j = true → j ≠ s1 → dstOf ops j = some t → b.eval (.tmp t) = val j) → (∀ t, outer ops t = true → b.eval (.tmp t) = a.eval (.tmp t)) →
      (execOp b.eval o).run P W = .ok (.value (val i)) W)
    (pv : List (Option Tmp × Value)) (hpv : (List.range ops.size).map (fun i => (dstOf ops i, val i)) = pv)
    (hend : ∀ (w' : World), RowG e w' base g cap (d.set p (gt d q)) → Only g w w' → Q .normal (putP pv a) w')
    (hsz : s1 < ops.size) :
    (Code.region id ops true).wp P Q a w := by
  simp only [Bool.and_eq_true] at hw
  obtain ⟨⟨w1, w3⟩, w4⟩ := hw
  obtain ⟨d1, d3, d5⟩ := hd
  obtain ⟨x2, n1, n5⟩ := hne
  refine wp_region_steps hm hg (PuS e base g cap d p q val l1 s1 w) ?_ ?_ _ rfl ?_
  · exact ⟨fun i hi => (by cases hi), (by rw [if_neg (by simp)]; exact own_drewN hmem 1), (Only.refl g w).drewN 1, fun h => (by cases h)⟩
  · intro i o ho cc vs W b hS hci hbd hev hout
    have hvl : ∀ j t, cc j = true → j ≠ s1 → dstOf ops j = some t → b.eval (.tmp t) = val j := fun j t hj h1 ht => (hev j t hj ht).trans (hS.vals j hj h1)
    by_cases e1 : i = l1
    · subst e1
      obtain ⟨o', ho', hop⟩ := hl1
      obtain rfl : o = o' := by rw [ho] at ho'; exact Option.some.inj ho'
      have hcs1 : cc s1 = false := by cases hq1 : cc s1; rfl; rw [hS.o1 hq1] at hci; cases hci
      have hmm := hS.mem
      rw [hcs1, if_neg (by simp)] at hmm
      refine wp_of_run _ (run_load (.tmp ta1) hop ((hvl a1 ta1 (hbd a1 w1) n1 d1).trans hva1) (he.ld W g (q * e.sz) (gt d q) fun j v hv => hmm.cell he hq hv)) ⟨_, rfl, ?_⟩
      refine ⟨fun j hj k1 => ?_, ?_, hS.only, fun h => ?_⟩
      · by_cases e : j = i
        · subst e; simp [hv1]
        · simp only [if_neg e] at hj ⊢; exact hS.vals j hj k1
      · simp only [if_neg (Ne.symm x2)]; exact hS.mem
      · simp only [if_neg (Ne.symm x2)] at h; rw [hcs1] at h; cases h
    by_cases e3 : i = s1
    · subst e3
      obtain ⟨o', ho', hop, hod⟩ := hs1
      obtain rfl : o = o' := by rw [ho] at ho'; exact Option.some.inj ho'
      have hmm := hS.mem
      rw [hci, if_neg (by simp)] at hmm
      obtain ⟨m1, m2⟩ := hmm.put he hp (gt d q)
      refine wp_of_skip (run_store (.tmp tb1) (.tmp tl1) hop ((hvl b1 tb1 (hbd b1 w3) n5 d3).trans hvb1) ((hvl l1 tl1 (hbd l1 w4) x2 d5).trans hv1) (he.st W g (p * e.sz) (gt d q) (hmm.there he hp))) ⟨_, rfl, ?_⟩
      refine ⟨fun j hj k1 => ?_, ?_, hS.only.trans m2, fun _ => ?_⟩
      · simp only [if_neg k1] at hj ⊢; exact hS.vals j hj k1
      · simp only [if_true]; exact m1
      · simp only [if_neg x2]; exact hbd l1 w4
    · refine wp_of_run _ (hpure i o ho e1 e3 b W hS.only (fun j t hj k1 ht => hvl j t (hbd j hj) k1 ht) hout) ⟨_, rfl, ?_⟩
      refine ⟨fun j hj k1 => ?_, ?_, hS.only, fun h => ?_⟩
      · by_cases e : j = i
        · subst e; simp
        · simp only [if_neg e] at hj ⊢; exact hS.vals j hj k1
      · simp only [if_neg (Ne.symm e3)]; exact hS.mem
      · simp only [if_neg (Ne.symm e3)] at h
        have k1 := hS.o1 h
        show (if l1 = i then true else cc l1) = true
        split; rfl; exact k1
  · intro cc vs W hS hall
    have hm2 := hS.mem
    rw [hall s1 hsz, if_pos rfl] at hm2
    have := hend W hm2 hS.only
    rw [← hpv, List.range_eq_range', ← putL_putP ops vs val] at this
    · rw [List.range_eq_range']; exact this
    · intro i _ hi
      obtain ⟨o1, h1, -, h2⟩ := hs1
      by_cases e1 : i = s1
      · left; subst e1; simp [dstOf, h1, h2]
      · exact .inr (hS.vals i (hall i (by omega)) e1)

/-- A region that draws its order, reads, and makes one call that may make memory. -/
theorem wp_ask {id : Nat} {a : Act} {w : World} (hm : P.follows .mixedOrders = true) (hg : growableG ops a.tmps.size = true)
    (val : Nat → Value) (k : Nat) (gc : FuncId) (args : Array Value)
    (hwant : ∀ (i : Nat) (o : Oper), ops[i]? = some o → ∀ (b : Act), (∀ j t, waits ops i j = true → dstOf ops j = some t → b.eval (.tmp t) = val j) → Region.wanted o (yielded ops b.tmps) = true)
    (hk : ∀ (o : Oper), ops[k]? = some o → ∀ (b : Act) (W : World), (∀ j t, waits ops k j = true → dstOf ops j = some t → b.eval (.tmp t) = val j) → (execOp b.eval o).run P W = .ok (.enter gc args) W)
    (hcmp : ∀ W, Below w.heap.size w W → Calls P gc args W fun e W' => e = .returned (val k) ∧ Below W.heap.size W W')
    (hpure : ∀ (i : Nat) (o : Oper), ops[i]? = some o → i ≠ k → ∀ (b : Act) (W : World), Below w.heap.size w W → (∀ j t, waits ops i j = true → dstOf ops j = some t → b.eval (.tmp t) = val j) → (∀ t, outer ops t = true → b.eval (.tmp t) = a.eval (.tmp t)) →
      (execOp b.eval o).run P W = .ok (.value (val i)) W)
    (pv : List (Option Tmp × Value)) (hpv : (List.range ops.size).map (fun i => (dstOf ops i, val i)) = pv)
    (hend : ∀ (w' : World), Below w.heap.size w w' → Q .normal (putP pv a) w') :
    (Code.region id ops true).wp P Q a w := by
  have step : ∀ {cc : Nat → Bool} {vs : Nat → Value} {W W' : World} (i : Nat), CmS val w cc vs W → Below W.heap.size W W' → CmS val w (fun j => if j = i then true else cc j) (fun j => if j = i then val i else vs j) W' := fun {cc vs W W'} i hS hb => by
    refine ⟨fun j hj => ?_, hS.below.trans (hb.mono hS.below.size)⟩
    by_cases e : j = i
    · subst e; simp
    · simp only [if_neg e] at hj ⊢; exact hS.vals j hj
  refine wp_region_stepsG hm hg (CmS val w) ⟨fun i hi => (by cases hi), below_drewN_ (Below.refl _ _) 1⟩ ?_ _ rfl ?_
  · intro i o ho cc vs W b hS hci hbd hev hout
    have hvl : ∀ j t, waits ops i j = true → dstOf ops j = some t → b.eval (.tmp t) = val j := fun j t hj ht => (hev j t (hbd j hj) ht).trans (hS.vals j (hbd j hj))
    refine ⟨hwant i o ho b hvl, ?_⟩
    by_cases e3 : i = k
    · subst e3
      refine wp_of_call (hk o ho b W hvl) ((hcmp W hS.below).mono ?_)
      rintro e w'' ⟨rfl, hb⟩
      exact ⟨_, rfl, _, rfl, step _ hS hb⟩
    · exact wp_of_run _ (hpure i o ho e3 b W hS.below hvl hout) ⟨_, rfl, step _ hS (Below.refl _ _)⟩
  · intro cc vs W hS hall
    have := hend W hS.below
    rw [← hpv, List.range_eq_range', ← putL_putP ops vs val] at this
    · rw [List.range_eq_range']; exact this
    · exact fun i _ hi => .inr (hS.vals i (hall i (by omega)))
/-- No operation of a region is guarded. -/
def freeB (ops : Array Oper) : Bool := (List.range ops.size).all fun i => match ops[i]? with
  | none => true
  | some o => o.guard.isNone
theorem wanted_free {ops : Array Oper} (h : freeB ops = true) {i : Nat} {o : Oper} (ho : ops[i]? = some o) (b : Act) : Region.wanted o (yielded ops b.tmps) = true := by
  have hi : i < ops.size := by
    rcases Nat.lt_or_ge i ops.size with h1 | h1
    · exact h1
    · rw [Array.getElem?_eq_none h1] at ho; cases ho
  have := List.all_eq_true.1 h i (List.mem_range.2 hi)
  simp only [ho, Option.isNone_iff_eq_none] at this
  simp [Region.wanted, this]
end
end Go.Proofs.Ytophfgijfmdbcaa.Hp
