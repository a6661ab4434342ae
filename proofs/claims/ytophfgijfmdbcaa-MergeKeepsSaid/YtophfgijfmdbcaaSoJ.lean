/- Regions with guards; the comparison of a loop's head. -/
import Derived.Test.YtophfgijfmdbcaaProg
import Derived.Test.YtophfgijfmdbcaaSoI
namespace Go.Proofs.Ytophfgijfmdbcaa.So
open Go.RowKit
section
variable {P : Program} {ops : Array Oper} {Q : Exit → Act → World → Prop}
/-- What the kernel sees of a region at once: no guards, each operation's edges go back, no two operations write one temporary, all of it in the frame. -/
def growableG (ops : Array Oper) (n : Nat) : Bool :=
  (List.range ops.size).all fun i => match ops[i]? with
    | none => true
    | some o => (o.after.all fun e => !Region.binds .any e || decide (e.on < i)) && (match o.dst with | none => true | some d => decide (d < n)) &&
      (List.range ops.size).all fun j => j == i || (match o.dst with | none => true | some d => dstOf ops j != some d)

theorem growableG_spec {n : Nat} (h : growableG ops n = true) {i : Nat} {o : Oper} (ho : ops[i]? = some o) :
    (∀ e ∈ o.after, Region.binds .any e = true → e.on < i) ∧ (∀ d, o.dst = some d → d < n ∧ ∀ j, j < ops.size → j ≠ i → dstOf ops j ≠ some d) := by
  have hi : i < ops.size := by
    rcases Nat.lt_or_ge i ops.size with h1 | h1
    · exact h1
    · rw [Array.getElem?_eq_none h1] at ho; cases ho
  have := List.all_eq_true.1 h i (List.mem_range.2 hi)
  simp only [ho, Bool.and_eq_true] at this
  obtain ⟨⟨h2, h3⟩, h4⟩ := this
  refine ⟨fun e he hb => ?_, fun d hd => ?_⟩
  · rw [Array.all_eq_true_iff_forall_mem] at h2
    simpa [hb] using h2 e he
  · rw [hd] at h3 h4
    refine ⟨by simpa using h3, fun j hj hji => ?_⟩
    have := List.all_eq_true.1 h4 j (List.mem_range.2 hj)
    simpa [hji] using this

/-- A region that draws its order, by a state that each operation carries on: one walk in place of all orders. -/
theorem wp_region_stateG {id : Nat} {a : Act} {w : World} (hm : P.follows .mixedOrders = true) (hg : growableG ops a.tmps.size = true)
    (S : (Nat → Bool) → (Nat → Value) → World → Prop) (h0 : S (fun _ => false) (fun _ => undef) { w with drawn := w.drawn + 1 })
    (hstep : ∀ (i : Nat) (o : Oper), ops[i]? = some o → ∀ (c : Nat → Bool) (vs : Nat → Value) (w' : World) (b : Act), S c vs w' → c i = false →
      (∀ e ∈ o.after, Region.binds .any e = true → c e.on = true) →
      (∀ j d, c j = true → dstOf ops j = some d → b.eval (.tmp d) = vs j) →
      (∀ x, (∀ j, j < ops.size → ∀ d, dstOf ops j = some d → x ≠ .tmp d) → b.eval x = a.eval x) →
      Region.wanted o (yielded ops b.tmps) = true ∧ o.wp P b w' (fun b' w'' => ∃ v, b' = b.put o.dst v ∧ S (fun j => if j = i then true else c j) (fun j => if j = i then v else vs j) w'') Q)
    (hend : ∀ (c : Nat → Bool) (vs : Nat → Value) (w' : World), S c vs w' → (∀ j, j < ops.size → c j = true) → Q .normal (putsIf ops vs (fun _ => true) (List.range ops.size) a) w') :
    (Code.region id ops true).wp P Q a w := by
  refine wp_region_any hm ?_
  refine wpAny_inv (P := P) (Q := Q) (md := .any) (fun listed b w' => listed.size = ops.size ∧ ∃ vs : Nat → Value, b = putsIf ops vs (fun j => listed.getD j false) (List.range ops.size) a ∧ S (fun j => listed.getD j false) vs w') ?_ ?_ ?_ _ _ _ _ ?_ ?_
  · rintro listed b w' ⟨hs, vs, rfl, hS⟩ hr
    have hlisted : ∀ k j, j < k → j < ops.size → listed.getD j false = true := by
      intro k
      induction k with
      | zero => intro j hj; omega
      | succ k ih =>
        intro j hj hjo
        rcases Nat.lt_or_ge j k with h1 | h1
        · exact ih j h1 hjo
        · obtain rfl : j = k := by omega
          cases hb : listed.getD j false
          · exfalso
            have hm : j ∈ Region.ready .any ops listed := by
              have ho : ops[j]? = some ops[j] := Array.getElem?_eq_getElem hjo
              obtain ⟨h2, _⟩ := growableG_spec hg ho
              exact mem_ready_b.2 ⟨hjo, (getD_both (by omega) _ _).trans hb, _, ho, fun e he hbd => ih e.on (h2 e he hbd) (by have := h2 e he hbd; omega)⟩
            rw [hr] at hm
            simp at hm
          · rfl
    have hc : putsIf ops vs (fun j => listed.getD j false) (List.range ops.size) a = putsIf ops vs (fun _ => true) (List.range ops.size) a :=
      (putsIf_congr _ _ fun j hj => ⟨(hlisted (j + 1) j (by omega) (List.mem_range.1 hj)).symm, fun _ => rfl⟩).symm
    rw [hc]
    exact hend _ vs w' hS fun j hj => hlisted (j + 1) j (by omega) hj
  · rintro listed b w' ⟨hs, vs, rfl, hS⟩ i hi
    obtain ⟨hio, hn1, o, ho, hn2⟩ := mem_ready_b.1 hi
    obtain ⟨g2, g3⟩ := growableG_spec hg ho
    have hil : i < listed.size := by omega
    have hdis : ∀ j ∈ List.range ops.size, j ≠ i → ∀ d, dstOf ops i = some d → dstOf ops j ≠ some d := fun j hj hji d hd =>
      (g3 d (by simpa [dstOf, ho] using hd)).2 j (List.mem_range.1 hj) hji
    have hb1 : listed.getD i false = false := (getD_both hil _ _).trans hn1
    have hset : (fun j => (listed.setIfInBounds i true).getD j false) = fun j => if j = i then true else listed.getD j false := by
      funext j
      by_cases hji : j = i
      · subst hji; simp [Array.getD, hil]
      · rw [if_neg hji]; exact getD_set_nb _ _ _ hji
    unfold wpOp
    simp only [ho]
    have hev0 : ∀ j d, listed.getD j false = true → dstOf ops j = some d → (putsIf ops vs (fun j => listed.getD j false) (List.range ops.size) a).eval (.tmp d) = vs j := by
      intro j d hj hd
      have hjo : j < ops.size := by
        rcases Nat.lt_or_ge j ops.size with h | h
        · exact h
        · exfalso
          have : ¬ j < listed.size := by omega
          simp [Array.getD, this] at hj
      have hoe : ops[j]? = some ops[j] := Array.getElem?_eq_getElem hjo
      obtain ⟨_, k3⟩ := growableG_spec hg hoe
      have hd' : ops[j].dst = some d := by simpa [dstOf, hoe] using hd
      exact putsIf_at vs _ hj hd _ _ List.nodup_range (List.mem_range.2 hjo) (fun k hk hkj => (k3 d hd').2 k (List.mem_range.1 hk) hkj) (k3 d hd').1
    obtain ⟨hw, hstp⟩ := hstep i o ho _ vs w' _ hS hb1 hn2 hev0 (fun x hx => putsIf_eval _ _ _ _ fun j hj _ d hd => hx j (List.mem_range.1 hj) d hd)
    rw [if_pos hw]
    refine .inl (Oper.wp_mono ?_ hstp)
    · rintro b' w'' ⟨v, rfl, h1⟩
      refine ⟨by simp [hs], fun j => if j = i then v else vs j, ?_, ?_⟩
      · have hadd := putsIf_add (ops := ops) (vs := vs) (vs' := fun j => if j = i then v else vs j) (c := fun j => listed.getD j false) (c' := fun j => (listed.setIfInBounds i true).getD j false) (i := i)
          hb1 (by simp [Array.getD, hil]) (fun j hji => ⟨getD_set_nb _ _ _ hji, fun _ => by simp [hji]⟩) (List.range ops.size) a List.nodup_range (List.mem_range.2 hio) hdis
        rw [hadd]
        simp [dstOf, ho]
      · rw [hset]; exact h1
  · rintro listed b w' ⟨hs, _⟩
    exact hs
  · have hz : (fun j => (Array.replicate ops.size false).getD j false) = fun _ => false := by
      funext j
      simp [Array.getD]
    refine ⟨by simp, fun _ => undef, ?_, ?_⟩
    · have h0 : ∀ (L : List Nat) (b : Act), putsIf ops (fun _ => undef) (fun _ => false) L b = b := by
        intro L
        induction L with
        | nil => intro b; rfl
        | cons j L ih => intro b; simp only [putsIf]; exact ih b
      rw [hz]
      exact (h0 _ _).symm
    · rw [hz]; exact h0
  · refine Nat.le_trans List.countP_le_length ?_
    simp

theorem wp_region_stepsG {id : Nat} {a : Act} {w : World} (hm : P.follows .mixedOrders = true) (hg : growableG ops a.tmps.size = true)
    (S : (Nat → Bool) → (Nat → Value) → World → Prop) (h0 : S (fun _ => false) (fun _ => undef) { w with drawn := w.drawn + 1 })
    (hstep : ∀ (i : Nat) (o : Oper), ops[i]? = some o → ∀ (c : Nat → Bool) (vs : Nat → Value) (w' : World) (b : Act), S c vs w' → c i = false →
      (∀ j, waits ops i j = true → c j = true) → (∀ j d, c j = true → dstOf ops j = some d → b.eval (.tmp d) = vs j) → (∀ t, outer ops t = true → b.eval (.tmp t) = a.eval (.tmp t)) →
      Region.wanted o (yielded ops b.tmps) = true ∧ o.wp P b w' (fun b' w'' => ∃ v, b' = b.put o.dst v ∧ S (fun j => if j = i then true else c j) (fun j => if j = i then v else vs j) w'') Q)
    (ds : List (Option Tmp)) (hds : (List.range ops.size).map (dstOf ops) = ds)
    (hend : ∀ (c : Nat → Bool) (vs : Nat → Value) (w' : World), S c vs w' → (∀ j, j < ops.size → c j = true) → Q .normal (putL ds vs 0 a) w') :
    (Code.region id ops true).wp P Q a w := by
  have hend' : ∀ (c : Nat → Bool) (vs : Nat → Value) (w' : World), S c vs w' → (∀ j, j < ops.size → c j = true) → Q .normal (putsIf ops vs (fun _ => true) (List.range ops.size) a) w' := fun c vs w' h1 h2 => by
    have := hend c vs w' h1 h2
    rw [List.range_eq_range', putsIf_putL, ← List.range_eq_range', hds]
    exact this
  refine wp_region_stateG hm hg S h0 (fun i o ho c vs w' b hS hci hbd hev hout => hstep i o ho c vs w' b hS hci (fun j hj => ?_) hev (fun t ht => hout _ fun j hj d hd e => ?_)) hend'
  · unfold waits at hj
    rw [ho] at hj
    simp only [Array.any_eq_true] at hj
    obtain ⟨k, hk, h1⟩ := hj
    rw [Bool.and_eq_true, beq_iff_eq] at h1
    have := hbd _ (Array.getElem_mem hk) h1.2
    rwa [h1.1] at this
  · injection e with e
    subst e
    have := List.all_eq_true.1 ht j (List.mem_range.2 hj)
    rw [hd] at this
    simp at this

end
/-- Are all guards the one operation's, with the one answer, and waited for? -/
def guardsB (ops : Array Oper) (gk : Nat) (want : Bool) : Bool := (List.range ops.size).all fun i => match ops[i]? with
  | none => true
  | some o => match o.guard with
    | none => true
    | some (j, b) => j == gk && b == want && waits ops i gk
theorem wanted_of {ops : Array Oper} {gk : Nat} {want : Bool} (hgu : guardsB ops gk want = true) {i : Nat} {o : Oper} (ho : ops[i]? = some o) {b : Act} {tg : Tmp} {v : Value} (hev : waits ops i gk = true → b.eval (.tmp tg) = v) (hgv : v = .bool want) (hgt : dstOf ops gk = some tg) : Region.wanted o (yielded ops b.tmps) = true := by
  have hi : i < ops.size := by
    rcases Nat.lt_or_ge i ops.size with h1 | h1
    · exact h1
    · rw [Array.getElem?_eq_none h1] at ho; cases ho
  have h := List.all_eq_true.1 hgu i (List.mem_range.2 hi)
  simp only [ho] at h
  unfold Region.wanted
  cases hg : o.guard with
  | none => rfl
  | some p =>
    obtain ⟨j, w⟩ := p
    simp only [hg, Bool.and_eq_true, beq_iff_eq] at h
    obtain ⟨⟨rfl, rfl⟩, h3⟩ := h
    have he := hev h3
    rw [hgv] at he
    have hd : (ops[j]?).bind (·.dst) = some tg := hgt
    have ht : b.tmps[tg]? = some (.bool w) := by
      simp only [Act.eval] at he
      rw [Array.getD_eq_getD_getElem?] at he
      cases hq : b.tmps[tg]? with
      | none => rw [hq] at he; simp [undef] at he
      | some z => rw [hq] at he; simp at he; rw [he]
    simp [yielded, hd, ht]
variable {α : Type} [Inhabited α]

theorem wp_cmpG {P : Program} {ops : Array Oper} {Q : Exit → Act → World → Prop} {id : Nat} {a : Act} {w : World} (hm : P.follows .mixedOrders = true) (hg : growableG ops a.tmps.size = true)
    (c : α → Nat → Value) (base g cap : Nat) (d : List α) (p q : Nat) (hp : p < d.length) (hq : q < d.length) (hmem : RowE c w base g cap d)
    (ET : TypeId) (fs : Array Field) (hu : P.underlying ET = some (.struct fs)) (hi9 : (P.info? ET).map (·.size) = some 9)
    (val : Nat → Value) (l1 l2 k a1 a2 f : Nat) (ta1 ta2 tl1 tl2 tf : Tmp) (ts : Array TypeId) (gc : FuncId) (r : Int)
    (hv1 : val l1 = .agg (nine c (gt d p)).toArray) (hv2 : val l2 = .agg (nine c (gt d q)).toArray)
    (hva1 : val a1 = .pointer (some ⟨g, p * 9, none⟩)) (hva2 : val a2 = .pointer (some ⟨g, q * 9, none⟩)) (hvf : val f = .func (.func gc) #[] #[]) (hvk : val k = .int .i64 r)
    (hl1 : ∃ o, ops[l1]? = some o ∧ o.op = .load ET (.tmp ta1)) (hl2 : ∃ o, ops[l2]? = some o ∧ o.op = .load ET (.tmp ta2))
    (hk : ∃ o, ops[k]? = some o ∧ o.op = .call { callee := .value (.tmp tf), args := #[.tmp tl1, .tmp tl2], argTypes := ts })
    (hd : dstOf ops a1 = some ta1 ∧ dstOf ops a2 = some ta2 ∧ dstOf ops l1 = some tl1 ∧ dstOf ops l2 = some tl2 ∧ dstOf ops f = some tf)
    (hw : (waits ops l1 a1 && waits ops l2 a2 && waits ops k l1 && waits ops k l2 && waits ops k f) = true)
    (hne : [l1, l2, k].Nodup) (gk : Nat) (tg : Tmp) (want : Bool) (hgu : guardsB ops gk want = true) (hgt : dstOf ops gk = some tg) (hgv : val gk = .bool want)
    (hent : ∀ args W, (callFunc gc args).run P W = .ok (.enter gc args) W)
    (hcmp : ∀ W, Below w.heap.size w W → Calls P gc #[.agg (nine c (gt d p)).toArray, .agg (nine c (gt d q)).toArray] W fun e W' => e = .returned (.int .i64 r) ∧ Below W.heap.size W W')
    (hpure : ∀ (i : Nat) (o : Oper), ops[i]? = some o → i ≠ l1 → i ≠ l2 → i ≠ k → ∀ (b : Act) (W : World), (∀ j t, waits ops i j = true → dstOf ops j = some t → b.eval (.tmp t) = val j) → (∀ t, outer ops t = true → b.eval (.tmp t) = a.eval (.tmp t)) →
      (execOp b.eval o).run P W = .ok (.value (val i)) W)
    (pv : List (Option Tmp × Value)) (hpv : (List.range ops.size).map (fun i => (dstOf ops i, val i)) = pv)
    (hend : ∀ (w' : World), RowE c w' base g cap d → Below w.heap.size w w' → Q .normal (putP pv a) w') :
    (Code.region id ops true).wp P Q a w := by
  simp only [Bool.and_eq_true] at hw
  obtain ⟨⟨⟨⟨w1, w2⟩, w3⟩, w4⟩, w5⟩ := hw
  obtain ⟨d1, d2, d3, d4, d5⟩ := hd
  simp only [List.nodup_cons, List.mem_cons, not_or, List.not_mem_nil, not_false_eq_true, and_true, List.nodup_nil] at hne
  obtain ⟨⟨x1, x2⟩, x3⟩ := hne
  have h9 : ∀ x : α, (nine c x).length = 9 := fun _ => rfl
  have step : ∀ {cc : Nat → Bool} {vs : Nat → Value} {W W' : World} (i : Nat), CmS val w cc vs W → Below W.heap.size W W' → CmS val w (fun j => if j = i then true else cc j) (fun j => if j = i then val i else vs j) W' := fun {cc vs W W'} i hS hb => by
    refine ⟨fun j hj => ?_, hS.below.trans (hb.mono hS.below.size)⟩
    by_cases e : j = i
    · subst e; simp
    · simp only [if_neg e] at hj ⊢; exact hS.vals j hj
  refine wp_region_stepsG hm hg (CmS val w) ⟨fun i hi => (by cases hi), below_drewN_ (Below.refl _ _) 1⟩ ?_ _ rfl ?_
  · intro i o ho cc vs W b hS hci hbd hev hout
    have hvl : ∀ j t, cc j = true → dstOf ops j = some t → b.eval (.tmp t) = val j := fun j t hj ht => (hev j t hj ht).trans (hS.vals j hj)
    have hmW : RowE c W base g cap d := hmem.below hS.below
    refine ⟨wanted_of hgu ho (fun hw0 => hvl gk tg (hbd gk hw0) hgt) hgv hgt, ?_⟩
    by_cases e1 : i = l1
    · subst e1
      obtain ⟨o', ho', hop⟩ := hl1
      obtain rfl : o = o' := by rw [ho] at ho'; exact Option.some.inj ho'
      refine wp_load_mid ET (.tmp ta1) hop g (p * 9) ((hvl a1 ta1 (hbd a1 w1) d1).trans hva1) (nine c (gt d p)) _ (hmW.range hp) hu rfl (by rw [h9]; exact hi9) ⟨_, rfl, ?_⟩
      rw [← hv1]
      exact step _ hS (Below.refl _ _)
    by_cases e2 : i = l2
    · subst e2
      obtain ⟨o', ho', hop⟩ := hl2
      obtain rfl : o = o' := by rw [ho] at ho'; exact Option.some.inj ho'
      refine wp_load_mid ET (.tmp ta2) hop g (q * 9) ((hvl a2 ta2 (hbd a2 w2) d2).trans hva2) (nine c (gt d q)) _ (hmW.range hq) hu rfl (by rw [h9]; exact hi9) ⟨_, rfl, ?_⟩
      rw [← hv2]
      exact step _ hS (Below.refl _ _)
    by_cases e3 : i = k
    · subst e3
      obtain ⟨o', ho', hop⟩ := hk
      obtain rfl : o = o' := by rw [ho] at ho'; exact Option.some.inj ho'
      have hx := (hvl l1 tl1 (hbd l1 w3) d3).trans hv1
      have hy := (hvl l2 tl2 (hbd l2 w4) d4).trans hv2
      have hf := (hvl f tf (hbd f w5) d5).trans hvf
      refine wp_of_call (f := gc) (args := #[.agg (nine c (gt d p)).toArray, .agg (nine c (gt d q)).toArray]) (w' := W) ?_ ((hcmp W hS.below).mono ?_)
      · unfold execOp
        simp only [hop, resolve, invoke, hx, hy, hf, Deferred.ofValue, List.map_toArray, List.map_cons, List.map_nil, Array.empty_append, Array.append_empty, hent, Sem.run_bind, Sem.run_pure, Result.andThen_ok]
      · rintro e w'' ⟨rfl, hb⟩
        refine ⟨_, rfl, _, rfl, ?_⟩
        rw [← hvk]
        exact step _ hS hb
    · exact wp_of_run _ (hpure i o ho e1 e2 e3 b W (fun j t hj ht => hvl j t (hbd j hj) ht) hout) ⟨_, rfl, step _ hS (Below.refl _ _)⟩
  · intro cc vs W hS hall
    have := hend W (hmem.below hS.below) hS.below
    rw [← hpv, List.range_eq_range', ← putL_putP ops vs val] at this
    · rw [List.range_eq_range']; exact this
    · exact fun i _ hi => .inr (hS.vals i (hall i (by omega)))
end Go.Proofs.Ytophfgijfmdbcaa.So
