/- A region that draws its order and of which each operation keeps what the others know: one walk for all orders. -/
import Derived.Test.YtennddlihcamnaaProg
import Derived.Test.YtennddlihcamnaaMem
import Derived.Orders
namespace Go.Proofs.Ytennddlihcamnaa
set_option linter.unusedVariables false
set_option linter.unusedSimpArgs false
open Go.RowKit
section
variable {P : Program} {ops : Array Oper} {Q : Exit → Act → World → Prop}

theorem wpAny_inv {md : Region.Mode} (I : Array Bool → Act → World → Prop)
    (hend : ∀ listed a w, I listed a w → Region.ready md ops listed = [] → Q .normal a w)
    (hstep : ∀ listed a w, I listed a w → ∀ i ∈ Region.ready md ops listed, wpOp P ops Q i (I (listed.setIfInBounds i true)) a w)
    (hfree : ∀ listed a w, I listed a w → listed.size = ops.size) :
    ∀ (fuel : Nat) (listed : Array Bool) (a : Act) (w : World), I listed a w → (listed.toList.countP (! ·)) ≤ fuel → wpAny P md ops Q fuel listed a w
  | 0, listed, a, w, h, hf => by
    have hr : Region.ready md ops listed = [] := by
      unfold Region.ready
      rw [List.filter_eq_nil_iff]
      intro i hi
      have hs := hfree _ _ _ h
      have hi' : i < listed.size := by rw [hs]; exact List.mem_range.1 hi
      have h0 : listed.toList.countP (! ·) = 0 := by omega
      rw [List.countP_eq_zero] at h0
      have := h0 listed[i] (by simp)
      simp at this
      simp [Array.getD, hi', this]
    exact ⟨hr, hend _ _ _ h hr⟩
  | fuel + 1, listed, a, w, h, hf => by
    refine ⟨hend _ _ _ h, fun i hi => wpOp_mono (fun a' w' h' => wpAny_inv I hend hstep hfree fuel _ a' w' h' ?_) (hstep _ _ _ h i hi)⟩
    have hs := hfree _ _ _ h
    unfold Region.ready at hi
    rw [List.mem_filter] at hi
    have hi' : i < listed.size := by rw [hs]; exact List.mem_range.1 hi.1
    have hb := hi.2
    simp [Array.getD, hi'] at hb
    have hlf : listed.toList[i]'(by simpa using hi') = false := by simpa using hb.1
    rw [Array.toList_setIfInBounds, List.countP_set (by simpa using hi'), hlf]
    have hpos : 0 < listed.toList.countP (! ·) := List.countP_pos_iff.2 ⟨listed.toList[i]'(by simpa using hi'), List.getElem_mem _, by rw [hlf]; rfl⟩
    generalize listed.toList.countP (! ·) = n at *
    have e : ((if (!false) = true then 1 else 0) : Nat) = 1 := rfl
    have e2 : ((if (!true) = true then 1 else 0) : Nat) = 0 := rfl
    rw [e, e2]
    omega

def dstOf (ops : Array Oper) (i : Nat) : Option Tmp := (ops[i]?).bind (·.dst)
/-- The puts of the operations that are listed, in the text's order. -/
def putsIf (ops : Array Oper) (vs : Nat → Value) (c : Nat → Bool) : List Nat → Act → Act
  | [], a => a
  | j :: L, a => putsIf ops vs c L (if c j then a.put (dstOf ops j) (vs j) else a)

theorem putsIf_put (vs : Nat → Value) (c : Nat → Bool) (x : Option Tmp) (v : Value) : ∀ (L : List Nat) (a : Act), (∀ j ∈ L, ∀ d, x = some d → dstOf ops j ≠ some d) → putsIf ops vs c L (a.put x v) = (putsIf ops vs c L a).put x v
  | [], _, _ => rfl
  | j :: L, a, h => by
    have hj := h j (by simp)
    have hL := fun k hk => h k (List.mem_cons_of_mem _ hk)
    simp only [putsIf]
    cases c j
    · exact putsIf_put vs c x v L a hL
    · simp only [if_true]
      rw [Act.put_comm a v (vs j) hj]
      exact putsIf_put vs c x v L _ hL
theorem putsIf_congr {vs vs' : Nat → Value} {c c' : Nat → Bool} : ∀ (L : List Nat) (a : Act), (∀ j ∈ L, c' j = c j ∧ (c j = true → vs' j = vs j)) → putsIf ops vs' c' L a = putsIf ops vs c L a
  | [], _, _ => rfl
  | j :: L, a, h => by
    obtain ⟨h1, h2⟩ := h j (by simp)
    simp only [putsIf, h1]
    rw [putsIf_congr L _ fun k hk => h k (List.mem_cons_of_mem _ hk)]
    cases hc : c j
    · rfl
    · simp [h2 hc]
theorem putsIf_add {vs vs' : Nat → Value} {c c' : Nat → Bool} {i : Nat} (hc : c i = false) (hc' : c' i = true) (ho : ∀ j, j ≠ i → c' j = c j ∧ (c j = true → vs' j = vs j)) : ∀ (L : List Nat) (a : Act), L.Nodup → i ∈ L → (∀ j ∈ L, j ≠ i → ∀ d, dstOf ops i = some d → dstOf ops j ≠ some d) → putsIf ops vs' c' L a = (putsIf ops vs c L a).put (dstOf ops i) (vs' i)
  | [], _, _, hi, _ => by simp at hi
  | j :: L, a, hn, hi, hd => by
    rw [List.nodup_cons] at hn
    simp only [putsIf]
    by_cases hji : j = i
    · subst hji
      simp only [hc, hc', if_true]
      rw [putsIf_put]
      · simp only [Bool.false_eq_true, if_false]
        rw [putsIf_congr L a fun k hk => ho k (by rintro rfl; exact hn.1 hk)]
      · exact fun k hk => hd k (List.mem_cons_of_mem _ hk) (by rintro rfl; exact hn.1 hk)
    · obtain ⟨h1, h2⟩ := ho j hji
      rw [putsIf_add hc hc' ho L _ hn.2 (by simpa [Ne.symm hji] using hi) fun k hk => hd k (List.mem_cons_of_mem _ hk), h1]
      cases hcj : c j
      · rfl
      · simp [h2 hcj]
theorem putsIf_size (vs : Nat → Value) (c : Nat → Bool) : ∀ (L : List Nat) (a : Act), (putsIf ops vs c L a).tmps.size = a.tmps.size
  | [], _ => rfl
  | j :: L, a => by
    simp only [putsIf]
    rw [putsIf_size]
    cases c j
    · rfl
    · simp only [if_true]
      cases dstOf ops j <;> simp [Act.put]
theorem putsIf_eval (vs : Nat → Value) (c : Nat → Bool) {x : Operand} : ∀ (L : List Nat) (a : Act), (∀ j ∈ L, c j = true → ∀ d, dstOf ops j = some d → x ≠ .tmp d) → (putsIf ops vs c L a).eval x = a.eval x
  | [], _, _ => rfl
  | j :: L, a, h => by
    simp only [putsIf]
    rw [putsIf_eval vs c L _ fun k hk => h k (List.mem_cons_of_mem _ hk)]
    cases hc : c j
    · rfl
    · simp only [if_true]
      exact Act.eval_put (h j (by simp) hc)
theorem putsIf_at (vs : Nat → Value) (c : Nat → Bool) {i : Nat} {d : Tmp} (hi : c i = true) (hd : dstOf ops i = some d) : ∀ (L : List Nat) (a : Act), L.Nodup → i ∈ L → (∀ j ∈ L, j ≠ i → dstOf ops j ≠ some d) → d < a.tmps.size → (putsIf ops vs c L a).eval (.tmp d) = vs i
  | [], _, _, hm, _, _ => by simp at hm
  | j :: L, a, hn, hm, ho, hs => by
    rw [List.nodup_cons] at hn
    simp only [putsIf]
    by_cases hji : j = i
    · subst hji
      simp only [hi, if_true]
      rw [putsIf_eval]
      · simp [hd, Act.put, Act.eval, Array.getD, hs]
      · intro k hk _ d' hd' e
        injection e with e
        subst e
        exact ho k (List.mem_cons_of_mem _ hk) (by rintro rfl; exact hn.1 hk) hd'
    · rw [putsIf_at vs c hi hd L _ hn.2 (by simpa [Ne.symm hji] using hm) fun k hk => ho k (List.mem_cons_of_mem _ hk)]
      cases c j
      · exact hs
      · simp only [if_true]
        cases dstOf ops j <;> simp [Act.put, hs]

/-- What the kernel sees of a region at once: no guards, each operation's edges go back, no two operations write one temporary, all of it in the frame. -/
def growable (ops : Array Oper) (n : Nat) : Bool :=
  (List.range ops.size).all fun i => match ops[i]? with
    | none => true
    | some o => o.guard.isNone && (o.after.all fun e => !Region.binds .any e || decide (e.on < i)) && (match o.dst with | none => true | some d => decide (d < n)) &&
      (List.range ops.size).all fun j => j == i || (match o.dst with | none => true | some d => dstOf ops j != some d)

theorem growable_spec {n : Nat} (h : growable ops n = true) {i : Nat} {o : Oper} (ho : ops[i]? = some o) :
    o.guard = none ∧ (∀ e ∈ o.after, Region.binds .any e = true → e.on < i) ∧ (∀ d, o.dst = some d → d < n ∧ ∀ j, j < ops.size → j ≠ i → dstOf ops j ≠ some d) := by
  have hi : i < ops.size := by
    rcases Nat.lt_or_ge i ops.size with h1 | h1
    · exact h1
    · rw [Array.getElem?_eq_none h1] at ho; cases ho
  have := List.all_eq_true.1 h i (List.mem_range.2 hi)
  simp only [ho, Bool.and_eq_true, Option.isNone_iff_eq_none] at this
  obtain ⟨⟨⟨h1, h2⟩, h3⟩, h4⟩ := this
  refine ⟨h1, fun e he hb => ?_, fun d hd => ?_⟩
  · rw [Array.all_eq_true_iff_forall_mem] at h2
    simpa [hb] using h2 e he
  · rw [hd] at h3 h4
    refine ⟨by simpa using h3, fun j hj hji => ?_⟩
    have := List.all_eq_true.1 h4 j (List.mem_range.2 hj)
    simpa [hji] using this

theorem mem_ready_b {md : Region.Mode} {listed : Array Bool} {i : Nat} : i ∈ Region.ready md ops listed ↔ i < ops.size ∧ listed.getD i true = false ∧ ∃ o, ops[i]? = some o ∧ ∀ e ∈ o.after, Region.binds md e = true → listed.getD e.on false = true := by
  unfold Region.ready
  rw [List.mem_filter, List.mem_range]
  refine and_congr_right fun hi => ?_
  have ho : ops[i]? = some ops[i] := Array.getElem?_eq_getElem hi
  rw [ho, Option.map_some, Option.getD_some, Bool.and_eq_true, Bool.not_eq_true']
  refine and_congr_right fun _ => ?_
  rw [Array.all_eq_true_iff_forall_mem]
  constructor
  · intro h
    refine ⟨_, rfl, fun e he hb => ?_⟩
    have := h e he
    simpa [hb] using this
  · rintro ⟨o, h1, h2⟩ e he
    injection h1 with h1
    subst h1
    cases hb : Region.binds md e
    · rfl
    · simp [h2 e he hb]
theorem getD_set_nb (l : Array Bool) {i j : Nat} (v b : Bool) (h : j ≠ i) : (l.setIfInBounds i v).getD j b = l.getD j b := by
  rw [Array.getD_eq_getD_getElem?, Array.getD_eq_getD_getElem?, Array.getElem?_setIfInBounds_ne (Ne.symm h)]
theorem getD_both {l : Array Bool} {i : Nat} (h : i < l.size) (b c : Bool) : l.getD i b = l.getD i c := by simp [Array.getD, h]
/-- A region that draws its order, by a state that each operation carries on: one walk in place of all orders. -/
theorem wp_region_state {id : Nat} {a : Act} {w : World} (hm : P.follows .mixedOrders = true) (hg : growable ops a.tmps.size = true)
    (S : (Nat → Bool) → (Nat → Value) → World → Prop) (h0 : S (fun _ => false) (fun _ => undef) { w with drawn := w.drawn + 1 })
    (hstep : ∀ (i : Nat) (o : Oper), ops[i]? = some o → ∀ (c : Nat → Bool) (vs : Nat → Value) (w' : World) (b : Act), S c vs w' → c i = false →
      (∀ e ∈ o.after, Region.binds .any e = true → c e.on = true) →
      (∀ j d, c j = true → dstOf ops j = some d → b.eval (.tmp d) = vs j) →
      (∀ x, (∀ j, j < ops.size → ∀ d, dstOf ops j = some d → x ≠ .tmp d) → b.eval x = a.eval x) →
      o.wp P b w' (fun b' w'' => ∃ v, b' = b.put o.dst v ∧ S (fun j => if j = i then true else c j) (fun j => if j = i then v else vs j) w'') Q)
    (hend : ∀ (c : Nat → Bool) (vs : Nat → Value) (w' : World), S c vs w' → (∀ j, j < ops.size → c j = true) → Q .normal (putsIf ops vs (fun _ => true) (List.range ops.size) a) w') :
    (Code.region id ops true).wp P Q a w := by
  refine wp_region_any hm ?_
  refine wpAny_inv (P := P) (Q := Q) (md := .any) (fun listed b w' => listed.size = ops.size ∧ ∃ vs : Nat → Value, b = putsIf ops vs (fun j => listed.getD j false) (List.range ops.size) a ∧ S (fun j => listed.getD j false) vs w') ?_ ?_ ?_ _ _ _ _ ?_ ?_
  · rintro listed b w' ⟨hs, vs, rfl, hS⟩ hr
    have hlisted : ∀ k j, j < k → j < ops.size → listed.getD j false = true := by
      intro k
      induction k with
      | zero => intro j hj; omega
      | succ k ih =>
        intro j hj hjo
        rcases Nat.lt_or_ge j k with h1 | h1
        · exact ih j h1 hjo
        · obtain rfl : j = k := by omega
          cases hb : listed.getD j false
          · exfalso
            have hm : j ∈ Region.ready .any ops listed := by
              have ho : ops[j]? = some ops[j] := Array.getElem?_eq_getElem hjo
              obtain ⟨_, h2, _⟩ := growable_spec hg ho
              exact mem_ready_b.2 ⟨hjo, (getD_both (by omega) _ _).trans hb, _, ho, fun e he hbd => ih e.on (h2 e he hbd) (by have := h2 e he hbd; omega)⟩
            rw [hr] at hm
            simp at hm
          · rfl
    have hc : putsIf ops vs (fun j => listed.getD j false) (List.range ops.size) a = putsIf ops vs (fun _ => true) (List.range ops.size) a :=
      (putsIf_congr _ _ fun j hj => ⟨(hlisted (j + 1) j (by omega) (List.mem_range.1 hj)).symm, fun _ => rfl⟩).symm
    rw [hc]
    exact hend _ vs w' hS fun j hj => hlisted (j + 1) j (by omega) hj
  · rintro listed b w' ⟨hs, vs, rfl, hS⟩ i hi
    obtain ⟨hio, hn1, o, ho, hn2⟩ := mem_ready_b.1 hi
    obtain ⟨g1, g2, g3⟩ := growable_spec hg ho
    have hil : i < listed.size := by omega
    have hdis : ∀ j ∈ List.range ops.size, j ≠ i → ∀ d, dstOf ops i = some d → dstOf ops j ≠ some d := fun j hj hji d hd =>
      (g3 d (by simpa [dstOf, ho] using hd)).2 j (List.mem_range.1 hj) hji
    have hb1 : listed.getD i false = false := (getD_both hil _ _).trans hn1
    have hset : (fun j => (listed.setIfInBounds i true).getD j false) = fun j => if j = i then true else listed.getD j false := by
      funext j
      by_cases hji : j = i
      · subst hji; simp [Array.getD, hil]
      · rw [if_neg hji]; exact getD_set_nb _ _ _ hji
    unfold wpOp
    simp only [ho]
    have hw : Region.wanted o (yielded ops (putsIf ops vs (fun j => listed.getD j false) (List.range ops.size) a).tmps) = true := by simp [Region.wanted, g1]
    rw [if_pos hw]
    refine .inl (Oper.wp_mono ?_ (hstep i o ho _ vs w' _ hS hb1 hn2 (fun j d hj hd => ?_) (fun x hx => putsIf_eval _ _ _ _ fun j hj _ d hd => hx j (List.mem_range.1 hj) d hd)))
    · rintro b' w'' ⟨v, rfl, h1⟩
      refine ⟨by simp [hs], fun j => if j = i then v else vs j, ?_, ?_⟩
      · have hadd := putsIf_add (ops := ops) (vs := vs) (vs' := fun j => if j = i then v else vs j) (c := fun j => listed.getD j false) (c' := fun j => (listed.setIfInBounds i true).getD j false) (i := i)
          hb1 (by simp [Array.getD, hil]) (fun j hji => ⟨getD_set_nb _ _ _ hji, fun _ => by simp [hji]⟩) (List.range ops.size) a List.nodup_range (List.mem_range.2 hio) hdis
        rw [hadd]
        simp [dstOf, ho]
      · rw [hset]; exact h1
    · have hjo : j < ops.size := by
        rcases Nat.lt_or_ge j ops.size with h | h
        · exact h
        · exfalso
          have : ¬ j < listed.size := by omega
          simp [Array.getD, this] at hj
      have hoe : ops[j]? = some ops[j] := Array.getElem?_eq_getElem hjo
      obtain ⟨_, _, k3⟩ := growable_spec hg hoe
      have hd' : ops[j].dst = some d := by simpa [dstOf, hoe] using hd
      exact putsIf_at vs _ hj hd _ _ List.nodup_range (List.mem_range.2 hjo) (fun k hk hkj => (k3 d hd').2 k (List.mem_range.1 hk) hkj) (k3 d hd').1
  · rintro listed b w' ⟨hs, _⟩
    exact hs
  · have hz : (fun j => (Array.replicate ops.size false).getD j false) = fun _ => false := by
      funext j
      simp [Array.getD]
    refine ⟨by simp, fun _ => undef, ?_, ?_⟩
    · have h0 : ∀ (L : List Nat) (b : Act), putsIf ops (fun _ => undef) (fun _ => false) L b = b := by
        intro L
        induction L with
        | nil => intro b; rfl
        | cons j L ih => intro b; simp only [putsIf]; exact ih b
      rw [hz]
      exact (h0 _ _).symm
    · rw [hz]; exact h0
  · refine Nat.le_trans List.countP_le_length ?_
    simp

/-- Has operation i to wait for operation j? -/
def waits (ops : Array Oper) (i j : Nat) : Bool := match ops[i]? with
  | none => false
  | some o => o.after.any fun e => e.on == j && Region.binds .any e
/-- Does no operation of the region write this temporary? -/
def outer (ops : Array Oper) (t : Tmp) : Bool := (List.range ops.size).all fun j => dstOf ops j != some t
/-- The puts of a row of temporaries, from place k on. -/
def putL : List (Option Tmp) → (Nat → Value) → Nat → Act → Act
  | [], _, _, a => a
  | d :: r, vs, k, a => putL r vs (k + 1) (a.put d (vs k))
theorem putsIf_putL (vs : Nat → Value) : ∀ (n k : Nat) (a : Act), putsIf ops vs (fun _ => true) (List.range' k n) a = putL ((List.range' k n).map (dstOf ops)) vs k a
  | 0, _, _ => rfl
  | n + 1, k, a => by
    simp only [List.range'_succ, putsIf, List.map_cons, putL, if_true]
    exact putsIf_putL vs n (k + 1) _
/-- The same rule, what a step is told as facts that the kernel reckons. -/
theorem wp_region_steps {id : Nat} {a : Act} {w : World} (hm : P.follows .mixedOrders = true) (hg : growable ops a.tmps.size = true)
    (S : (Nat → Bool) → (Nat → Value) → World → Prop) (h0 : S (fun _ => false) (fun _ => undef) { w with drawn := w.drawn + 1 })
    (hstep : ∀ (i : Nat) (o : Oper), ops[i]? = some o → ∀ (c : Nat → Bool) (vs : Nat → Value) (w' : World) (b : Act), S c vs w' → c i = false →
      (∀ j, waits ops i j = true → c j = true) → (∀ j d, c j = true → dstOf ops j = some d → b.eval (.tmp d) = vs j) → (∀ t, outer ops t = true → b.eval (.tmp t) = a.eval (.tmp t)) →
      o.wp P b w' (fun b' w'' => ∃ v, b' = b.put o.dst v ∧ S (fun j => if j = i then true else c j) (fun j => if j = i then v else vs j) w'') Q)
    (ds : List (Option Tmp)) (hds : (List.range ops.size).map (dstOf ops) = ds)
    (hend : ∀ (c : Nat → Bool) (vs : Nat → Value) (w' : World), S c vs w' → (∀ j, j < ops.size → c j = true) → Q .normal (putL ds vs 0 a) w') :
    (Code.region id ops true).wp P Q a w := by
  have hend' : ∀ (c : Nat → Bool) (vs : Nat → Value) (w' : World), S c vs w' → (∀ j, j < ops.size → c j = true) → Q .normal (putsIf ops vs (fun _ => true) (List.range ops.size) a) w' := fun c vs w' h1 h2 => by
    have := hend c vs w' h1 h2
    rw [List.range_eq_range', putsIf_putL, ← List.range_eq_range', hds]
    exact this
  refine wp_region_state hm hg S h0 (fun i o ho c vs w' b hS hci hbd hev hout => hstep i o ho c vs w' b hS hci (fun j hj => ?_) hev (fun t ht => hout _ fun j hj d hd e => ?_)) hend'
  · unfold waits at hj
    rw [ho] at hj
    simp only [Array.any_eq_true] at hj
    obtain ⟨k, hk, h1⟩ := hj
    rw [Bool.and_eq_true, beq_iff_eq] at h1
    have := hbd _ (Array.getElem_mem hk) h1.2
    rwa [h1.1] at this
  · injection e with e
    subst e
    have := List.all_eq_true.1 ht j (List.mem_range.2 hj)
    rw [hd] at this
    simp at this

/-- The same where each operation keeps what the others know. -/
theorem wp_region_grows {id : Nat} {a : Act} {w : World} (hm : P.follows .mixedOrders = true) (hg : growable ops a.tmps.size = true)
    (Le : World → World → Prop) (hrefl : ∀ w, Le w w) (htrans : ∀ {x y z}, Le x y → Le y z → Le x z)
    (F : Nat → Value → World → Prop) (hF : ∀ i v w w', Le w w' → F i v w → F i v w')
    (hstep : ∀ (i : Nat) (o : Oper), ops[i]? = some o → ∀ (b : Act) (vs : Nat → Value) (w' : World), Le { w with drawn := w.drawn + 1 } w' →
      (∀ j, waits ops i j = true → F j (vs j) w' ∧ ∀ d, dstOf ops j = some d → b.eval (.tmp d) = vs j) → (∀ t, outer ops t = true → b.eval (.tmp t) = a.eval (.tmp t)) →
      o.wp P b w' (fun b' w'' => ∃ v, b' = b.put o.dst v ∧ F i v w'' ∧ Le w' w'') Q)
    (ds : List (Option Tmp)) (hds : (List.range ops.size).map (dstOf ops) = ds)
    (hend : ∀ (vs : Nat → Value) (w' : World), Le { w with drawn := w.drawn + 1 } w' → (∀ j, j < ops.size → F j (vs j) w') → Q .normal (putL ds vs 0 a) w') :
    (Code.region id ops true).wp P Q a w := by
  refine wp_region_steps hm hg (fun c vs w' => Le { w with drawn := w.drawn + 1 } w' ∧ ∀ j, c j = true → F j (vs j) w') ⟨hrefl _, fun j hj => by cases hj⟩ ?_ ds hds ?_
  · rintro i o ho c vs w' b ⟨hle, hf⟩ hci hbd hev hout
    refine Oper.wp_mono ?_ (hstep i o ho b vs w' hle (fun j hj => ⟨hf _ (hbd j hj), fun d hd => hev _ d (hbd j hj) hd⟩) hout)
    rintro b' w'' ⟨v, rfl, h1, h2⟩
    refine ⟨v, rfl, htrans hle h2, fun j hj => ?_⟩
    by_cases hji : j = i
    · subst hji; simpa using h1
    · simp only [if_neg hji] at hj ⊢
      exact hF _ _ _ _ h2 (hf j hj)
  · rintro c vs w' ⟨hle, hf⟩ hc
    exact hend vs w' hle fun j hj => hf j (hc j hj)

/-- An operation that hands back a value. -/
theorem wp_of_run {o : Oper} {b : Act} {w w' : World} {K : Act → World → Prop} (v : Value) (hrun : (execOp b.eval o).run P w = .ok (.value v) w') (h : K (b.put o.dst v) w') : o.wp P b w K Q := by
  unfold Oper.wp
  rw [hrun, Oper.upon_value]
  exact h
/-- An operation that hands nothing back (a store). -/
theorem wp_of_skip {o : Oper} {b : Act} {w w' : World} {K : Act → World → Prop} (hrun : (execOp b.eval o).run P w = .ok .skip w') (h : K (b.put o.dst undef) w') : o.wp P b w K Q := by
  unfold Oper.wp
  rw [hrun, Oper.upon_skip]
  exact h
/-- A call of which all endings are returns. -/
theorem wp_of_call {o : Oper} {b : Act} {w w' : World} {K : Act → World → Prop} {f : FuncId} {args : Array Value} (hrun : (execOp b.eval o).run P w = .ok (.enter f args) w')
    (h : Calls P f args w' fun e w'' => ∃ v, e = .returned v ∧ K (b.put o.dst v) w'') : o.wp P b w K Q := by
  unfold Oper.wp
  rw [hrun, Oper.upon_enter]
  refine h.mono ?_
  rintro e w'' ⟨v, rfl, hK⟩
  exact hK

theorem wp_move {o : Oper} {b : Act} {w : World} {K : Act → World → Prop} (x : Operand) (ho : o.op = .move x) {v : Value} (hx : b.eval x = v) (h : K (b.put o.dst v) w) : o.wp P b w K Q := by
  refine wp_of_run v ?_ h
  unfold execOp
  simp [ho, hx, Sem.run_pure]
theorem wp_assign {o : Oper} {b : Act} {w : World} {K : Act → World → Prop} (x : Operand) (ho : o.op = .assign x) {v : Value} (hx : b.eval x = v) (h : K (b.put o.dst v) w) : o.wp P b w K Q := by
  refine wp_of_run v ?_ h
  unfold execOp
  simp [ho, hx, Sem.run_pure]
/-- A call of a function of the program with two arguments. -/
theorem wp_call2 {o : Oper} {b : Act} {w : World} {K : Act → World → Prop} {f : FuncId} {x y : Operand} {ts : Array TypeId} (ho : o.op = .call { callee := .value (.func f), args := #[x, y], argTypes := ts }) {u v : Value} (hx : b.eval x = u) (hy : b.eval y = v)
    (hent : (callFunc f #[u, v]).run P w = .ok (.enter f #[u, v]) w)
    (h : Calls P f #[u, v] w fun e w'' => ∃ r, e = .returned r ∧ K (b.put o.dst r) w'') : o.wp P b w K Q := by
  refine wp_of_call ?_ h
  have hf : b.eval (.func f) = .func (.func f) #[] #[] := rfl
  unfold execOp
  simp only [ho, resolve, invoke, hx, hy, hf, Deferred.ofValue, Array.empty_append, Array.append_empty, hent, List.map_toArray, List.map_cons, List.map_nil, Sem.run_bind, Sem.run_pure, Result.andThen_ok]
end
end Go.Proofs.Ytennddlihcamnaa
