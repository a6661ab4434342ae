/- A region that compares two things of a row: one rule for all its orders. -/
import Derived.Test.YtennddlihcamnaaProg
import Derived.Test.YtennddlihcamnaaSrE
namespace Go.Proofs.Ytennddlihcamnaa.Sr
open Go.Proofs.Ytennddlihcamnaa.So
open Go.RowKit
variable {α : Type} [Inhabited α]

/-- How far the comparison is. -/
structure CmS (val : Nat → Value) (wr : World) (cc : Nat → Bool) (vs : Nat → Value) (w : World) : Prop where
  vals : ∀ i, cc i = true → vs i = val i
  below : Below wr.heap.size wr w

theorem wp_cmp {P : Program} {ops : Array Oper} {Q : Exit → Act → World → Prop} {id : Nat} {a : Act} {w : World} (hm : P.follows .mixedOrders = true) (hg : growable ops a.tmps.size = true)
    (c : α → Nat → Value) (base g cap : Nat) (d : List α) (p q : Nat) (hp : p < d.length) (hq : q < d.length) (hmem : RowE c w base g cap d)
    (ET : TypeId) (fs : Array Field) (hu : P.underlying ET = some (.struct fs)) (hi9 : (P.info? ET).map (·.size) = some 9)
    (val : Nat → Value) (l1 l2 k a1 a2 f : Nat) (ta1 ta2 tl1 tl2 tf : Tmp) (ts : Array TypeId) (gc : FuncId) (r : Int)
    (hv1 : val l1 = .agg (nine c (gt d p)).toArray) (hv2 : val l2 = .agg (nine c (gt d q)).toArray)
    (hva1 : val a1 = .pointer (some ⟨g, p * 9, none⟩)) (hva2 : val a2 = .pointer (some ⟨g, q * 9, none⟩)) (hvf : val f = .func (.func gc) #[] #[]) (hvk : val k = .int .i64 r)
    (hl1 : ∃ o, ops[l1]? = some o ∧ o.op = .load ET (.tmp ta1)) (hl2 : ∃ o, ops[l2]? = some o ∧ o.op = .load ET (.tmp ta2))
    (hk : ∃ o, ops[k]? = some o ∧ o.op = .call { callee := .value (.tmp tf), args := #[.tmp tl1, .tmp tl2], argTypes := ts })
    (hd : dstOf ops a1 = some ta1 ∧ dstOf ops a2 = some ta2 ∧ dstOf ops l1 = some tl1 ∧ dstOf ops l2 = some tl2 ∧ dstOf ops f = some tf)
    (hw : (waits ops l1 a1 && waits ops l2 a2 && waits ops k l1 && waits ops k l2 && waits ops k f) = true)
    (hne : [l1, l2, k].Nodup)
    (hent : ∀ args W, (callFunc gc args).run P W = .ok (.enter gc args) W)
    (hcmp : ∀ W, Below w.heap.size w W → Calls P gc #[.agg (nine c (gt d p)).toArray, .agg (nine c (gt d q)).toArray] W fun e W' => e = .returned (.int .i64 r) ∧ Below W.heap.size W W')
    (hpure : ∀ (i : Nat) (o : Oper), ops[i]? = some o → i ≠ l1 → i ≠ l2 → i ≠ k → ∀ (b : Act) (W : World), (∀ j t, waits ops i j = true → dstOf ops j = some t → b.eval (.tmp t) = val j) → (∀ t, outer ops t = true → b.eval (.tmp t) = a.eval (.tmp t)) →
      (execOp b.eval o).run P W = .ok (.value (val i)) W)
    (pv : List (Option Tmp × Value)) (hpv : (List.range ops.size).map (fun i => (dstOf ops i, val i)) = pv)
    (hend : ∀ (w' : World), RowE c w' base g cap d → Below w.heap.size w w' → Q .normal (putP pv a) w') :
    (Code.region id ops true).wp P Q a w := by
  simp only [Bool.and_eq_true] at hw
  obtain ⟨⟨⟨⟨w1, w2⟩, w3⟩, w4⟩, w5⟩ := hw
  obtain ⟨d1, d2, d3, d4, d5⟩ := hd
  simp only [List.nodup_cons, List.mem_cons, not_or, List.not_mem_nil, not_false_eq_true, and_true, List.nodup_nil] at hne
  obtain ⟨⟨x1, x2⟩, x3⟩ := hne
  have h9 : ∀ x : α, (nine c x).length = 9 := fun _ => rfl
  have step : ∀ {cc : Nat → Bool} {vs : Nat → Value} {W W' : World} (i : Nat), CmS val w cc vs W → Below W.heap.size W W' → CmS val w (fun j => if j = i then true else cc j) (fun j => if j = i then val i else vs j) W' := fun {cc vs W W'} i hS hb => by
    refine ⟨fun j hj => ?_, hS.below.trans (hb.mono hS.below.size)⟩
    by_cases e : j = i
    · subst e; simp
    · simp only [if_neg e] at hj ⊢; exact hS.vals j hj
  refine wp_region_steps hm hg (CmS val w) ⟨fun i hi => (by cases hi), below_drewN_ (Below.refl _ _) 1⟩ ?_ _ rfl ?_
  · intro i o ho cc vs W b hS hci hbd hev hout
    have hvl : ∀ j t, cc j = true → dstOf ops j = some t → b.eval (.tmp t) = val j := fun j t hj ht => (hev j t hj ht).trans (hS.vals j hj)
    have hmW : RowE c W base g cap d := hmem.below hS.below
    by_cases e1 : i = l1
    · subst e1
      obtain ⟨o', ho', hop⟩ := hl1
      obtain rfl : o = o' := by rw [ho] at ho'; exact Option.some.inj ho'
      refine wp_load_mid ET (.tmp ta1) hop g (p * 9) ((hvl a1 ta1 (hbd a1 w1) d1).trans hva1) (nine c (gt d p)) _ (hmW.range hp) hu rfl (by rw [h9]; exact hi9) ⟨_, rfl, ?_⟩
      rw [← hv1]
      exact step _ hS (Below.refl _ _)
    by_cases e2 : i = l2
    · subst e2
      obtain ⟨o', ho', hop⟩ := hl2
      obtain rfl : o = o' := by rw [ho] at ho'; exact Option.some.inj ho'
      refine wp_load_mid ET (.tmp ta2) hop g (q * 9) ((hvl a2 ta2 (hbd a2 w2) d2).trans hva2) (nine c (gt d q)) _ (hmW.range hq) hu rfl (by rw [h9]; exact hi9) ⟨_, rfl, ?_⟩
      rw [← hv2]
      exact step _ hS (Below.refl _ _)
    by_cases e3 : i = k
    · subst e3
      obtain ⟨o', ho', hop⟩ := hk
      obtain rfl : o = o' := by rw [ho] at ho'; exact Option.some.inj ho'
      have hx := (hvl l1 tl1 (hbd l1 w3) d3).trans hv1
      have hy := (hvl l2 tl2 (hbd l2 w4) d4).trans hv2
      have hf := (hvl f tf (hbd f w5) d5).trans hvf
      refine wp_of_call (f := gc) (args := #[.agg (nine c (gt d p)).toArray, .agg (nine c (gt d q)).toArray]) (w' := W) ?_ ((hcmp W hS.below).mono ?_)
      · unfold execOp
        simp only [hop, resolve, invoke, hx, hy, hf, Deferred.ofValue, List.map_toArray, List.map_cons, List.map_nil, Array.empty_append, Array.append_empty, hent, Sem.run_bind, Sem.run_pure, Result.andThen_ok]
      · rintro e w'' ⟨rfl, hb⟩
        refine ⟨_, rfl, _, rfl, ?_⟩
        rw [← hvk]
        exact step _ hS hb
    · exact wp_of_run _ (hpure i o ho e1 e2 e3 b W (fun j t hj ht => hvl j t (hbd j hj) ht) hout) ⟨_, rfl, step _ hS (Below.refl _ _)⟩
  · intro cc vs W hS hall
    have := hend W (hmem.below hS.below) hS.below
    rw [← hpv, List.range_eq_range', ← putL_putP ops vs val] at this
    · rw [List.range_eq_range']; exact this
    · exact fun i _ hi => .inr (hS.vals i (hall i (by omega)))
end Go.Proofs.Ytennddlihcamnaa.Sr
