/- What a call of the document's store turns (chapter 14). -/
import Derived.Test.YtlljpjehalodfaaGreatProg
import Derived.Test.YtlljpjehalodfaaGreatPlE
import Derived.Test.YtlljpjehalodfaaGreatStU
namespace Go.Proofs.YtlljpjehalodfaaGreat
open Go.RowKit
open St
section
variable {P : Program} {ops : Array Oper} {Q : Exit → Act → World → Prop} {md : Region.Mode} {S : World → Prop} {t : Nat}
/-- Two may come up next. -/
theorem wpAnyT_two {i j : Nat} {o p : Oper} {n : Nat} {l : Array Bool} {a : Act} {w : World} (hr : Region.ready md ops l = [i, j]) (ho : ops[i]? = some o) (hp : ops[j]? = some p)
    (h : ∀ K : Act → World → Prop, Shut (∀ a w, (i ≠ t → S w) → wpAnyT P md ops Q S t n (l.setIfInBounds i true) a w → K a w) → if Region.wanted o (yielded ops a.tmps) = true then Oper.wp P o a w K Q else K (a.put o.dst undef) w)
    (h' : ∀ K : Act → World → Prop, Shut (∀ a w, (j ≠ t → S w) → wpAnyT P md ops Q S t n (l.setIfInBounds j true) a w → K a w) → if Region.wanted p (yielded ops a.tmps) = true then Oper.wp P p a w K Q else K (a.put p.dst undef) w) : wpAnyT P md ops Q S t (n + 1) l a w :=
  ⟨fun h0 => absurd (hr ▸ h0) (by simp), fun x hx => by
    rw [hr] at hx
    rcases List.mem_cons.1 hx with hx | hx
    · rw [hx]; exact wpOp_step ho fun K hK => h K fun a w h1 h2 => hK a w ⟨h1, h2⟩
    · rw [List.mem_singleton.1 hx]; exact wpOp_step hp fun K hK => h' K fun a w h1 h2 => hK a w ⟨h1, h2⟩⟩
end
namespace Rf

def Ru.addr (u : Ru) (b : Nat) : Prop := (0 < u.parts.length ∧ ∃ a, u.PA = some a ∧ a.block = b) ∨ ∃ p ∈ u.parts, 0 < p.d.length ∧ ∃ a, p.A = some a ∧ a.block = b
def RS.addr (R : RS) (b : Nat) : Prop := (∃ o ∈ R.objs, 0 < o.d.length ∧ ∃ a, o.A = some a ∧ a.block = b) ∨ ∃ u ∈ R.ups, u.addr b
structure Turn (w : World) (base : Nat) (R : RS) (w' : World) (R' : RS) : Prop where
  at_ : RAt w' base R'
  keep : Keep R.foot w w'
  grew : Grew w R R'
  prov : ∀ b, R'.addr b → R.addr b ∨ w.heap.size ≤ b
  g : R'.g = R.g
section
variable {w w' w'' wX : World} {base : Nat} {R R' R'' : RS}
theorem Turn.same (h : RAt w base R) (hb : Below w.heap.size w w') : Turn w base R w' R := ⟨h.below hb, Keep.of_below hb, Grew.refl _ _, fun _ h => .inl h, rfl⟩
theorem Turn.trans (h : Turn w base R w' R') (k : Turn w' base R' w'' R'') : Turn w base R w'' R'' := by
  have hs := h.keep.size
  refine ⟨k.at_, h.keep.then k.keep fun i hi hf => (h.grew i hf).resolve_right (by omega), fun i hi => ?_, fun b hb => ?_, k.g.trans h.g⟩
  · rcases k.grew i hi with h1 | h1
    · exact h.grew i h1
    · exact .inr (by omega)
  · rcases k.prov b hb with h1 | h1
    · exact h.prov b h1
    · exact .inr (by omega)
theorem Turn.on (h : Turn w base R w' R') (hb : Below w'.heap.size w' w'') : Turn w base R w'' R' := h.trans (Turn.same h.at_ hb)
theorem Turn.drew (h : Turn w base R w' R') : Turn w base R w'.drew R' := h.on (below_drewN_ (Below.refl _ _) 1)
theorem Turn.start (hb : Below w.heap.size w w') (h : RAt w base R) (k : Turn w' base R w'' R'') : Turn w base R w'' R'' := (Turn.same h hb).trans k
theorem bound_own {b : Nat} {e : TypeId} {size n : Nat} {v : Value} {xs : List Value} (h : w.ownsRow b e size v n xs) {i : Nat} (hi : v.ownBlock = some i) : b ≤ i ∧ i < w.heap.size := h.lt i hi
/-- The objects lie in a new row. -/
theorem RAt.newO (h : RAt w base R) (hb : Below w.heap.size w wX) {l : List Ro} {AO : Option Addr} {cO : Nat} (ho : wX.ownsRow w.heap.size 68 4 (.slice AO l.length cO) l.length (oCells l)) (hod : ∀ o ∈ l, o ∈ R.objs ∨ RD w R o.A o.c o.d) :
    RAt (wX.setCell ⟨R.g, 0, none⟩ (.slice AO l.length cO)) base { R with objs := l, AO := AO, cO := cO } ∧ Keep R.foot w (wX.setCell ⟨R.g, 0, none⟩ (.slice AO l.length cO)) ∧ Grew w R { R with objs := l, AO := AO, cO := cO } := by
  have hk : Keep R.foot w (wX.setCell ⟨R.g, 0, none⟩ (.slice AO l.length cO)) := (Keep.of_below hb).setCell (.inl (.inl rfl)) _
  have hgr : Grew w R { R with objs := l, AO := AO, cO := cO } := fun i hi => by
    rcases hi with hi | hi | hi
    · exact .inl (.inl hi)
    · exact .inr (ho.lt i hi).1
    · exact .inl (.inr (.inr hi))
  refine ⟨h.to hk rfl hgr ((h.blk.below hb h.blk.lt).set_ 0 _) (own_setCell (p := ⟨R.g, 0, none⟩) (own_base ho h.bw) h.gb _) (own_setCell (p := ⟨R.g, 0, none⟩) (own_below h.ru hb) h.gb _) (fun x hx hx' => ?_) (fun o hm => ?_) (fun u hu => .inl hu), hk, hgr⟩
  · have h1 := (ho.lt x hx).1
    have h2 := (h.ru.lt x hx').2
    omega
  · rcases hod o hm with h1 | h1
    · exact .inl h1
    · exact .inr (h1.kept hk hgr)
/-- The uploads lie in a new row. -/
theorem RAt.newU (h : RAt w base R) (hb : Below w.heap.size w wX) {l : List Ru} {AU : Option Addr} {cU : Nat} (ho : wX.ownsRow w.heap.size 74 4 (.slice AU l.length cU) l.length (uCells l)) (hod : ∀ u ∈ l, u ∈ R.ups ∨ RU w R u) :
    RAt (wX.setCell ⟨R.g, 1, none⟩ (.slice AU l.length cU)) base { R with ups := l, AU := AU, cU := cU } ∧ Keep R.foot w (wX.setCell ⟨R.g, 1, none⟩ (.slice AU l.length cU)) ∧ Grew w R { R with ups := l, AU := AU, cU := cU } := by
  have hk : Keep R.foot w (wX.setCell ⟨R.g, 1, none⟩ (.slice AU l.length cU)) := (Keep.of_below hb).setCell (.inl (.inl rfl)) _
  have hgr : Grew w R { R with ups := l, AU := AU, cU := cU } := fun i hi => by
    rcases hi with hi | hi | hi
    · exact .inl (.inl hi)
    · exact .inl (.inr (.inl hi))
    · exact .inr (ho.lt i hi).1
  refine ⟨h.to hk rfl hgr ((h.blk.below hb h.blk.lt).set_ 1 _) (own_setCell (p := ⟨R.g, 1, none⟩) (own_below h.ro hb) h.gb _) (own_setCell (p := ⟨R.g, 1, none⟩) (own_base ho h.bw) h.gb _) (fun x hx hx' => ?_) (fun o hm => .inl hm) (fun u hu => ?_), hk, hgr⟩
  · have h1 := (ho.lt x hx').1
    have h2 := (h.ro.lt x hx).2
    omega
  · rcases hod u hu with h1 | h1
    · exact .inl h1
    · exact .inr (h1.kept hk hgr)
theorem set4_flat {α : Type} {f : α → List Value} (hf : ∀ x, (f x).length = 4) : ∀ (l : List α) (i : Nat) (_ : i < l.length) (x : α) {a b c d : Value}, f x = [a, b, c, d] → ((((l.flatMap f).set (i * 4) a).set (i * 4 + 1) b).set (i * 4 + 2) c).set (i * 4 + 3) d = (l.set i x).flatMap f
  | y :: r, 0, _, x, a, b, c, d, hx => by
    rw [List.set_cons_zero, List.flatMap_cons, List.flatMap_cons, hx]
    have hy := hf y
    match f y, hy with
    | [_, _, _, _], _ => rfl
  | y :: r, i + 1, hi, x, a, b, c, d, hx => by
    have ih := set4_flat hf r i (by simpa using hi) x hx
    have hy := hf y
    have e : ∀ k, (i + 1) * 4 + k - (f y).length = i * 4 + k := fun k => by rw [hy]; omega
    rw [List.set_cons_succ, List.flatMap_cons, List.flatMap_cons, ← ih]
    rw [List.set_append_right _ _ (by rw [hy]; omega), List.set_append_right _ _ (by rw [hy]; omega), List.set_append_right _ _ (by rw [hy]; omega), List.set_append_right _ _ (by rw [hy]; omega)]
    rw [e 1, e 2, e 3, show (i + 1) * 4 - (f y).length = i * 4 from e 0]
def set4 (w : World) (b o : Nat) (v0 v1 v2 v3 : Value) : World := (((w.setCell ⟨b, o, none⟩ v0).setCell ⟨b, o + 1, none⟩ v1).setCell ⟨b, o + 2, none⟩ v2).setCell ⟨b, o + 3, none⟩ v3
theorem set4_keep {F : Nat → Prop} {b o : Nat} {v0 v1 v2 v3 : Value} (hF : F b) : Keep F w (set4 w b o v0 v1 v2 v3) := ((((Keep.refl F w).setCell (.inl hF) v0).setCell (.inl hF) v1).setCell (.inl hF) v2).setCell (.inl hF) v3
theorem own_form {b : Nat} {e : TypeId} {n c : Nat} {A : Option Addr} {xs : List Value} (h : w.ownsRow b e 4 (.slice A n c) n xs) (hn : 0 < n) : ∃ g, A = some ⟨g, 0, none⟩ ∧ b ≤ g ∧ g < w.heap.size := by
  obtain ⟨g, cap, hv, h1, h2⟩ := h.form hn
  injection hv with hv
  exact ⟨g, hv, h1, h2⟩
/-- An object is set. -/
theorem RAt.setO (h : RAt w base R) {b n : Nat} (hA : R.AO = some ⟨b, 0, none⟩) (hn : n < R.objs.length) {o : Ro} (ho : RD w R o.A o.c o.d) :
    RAt (set4 w b (n * 4) (.string o.key) (.slice o.A o.d.length o.c) (.int .i64 o.ver) (.int .i64 o.born)) base { R with objs := R.objs.set n o } ∧ Keep R.foot w (set4 w b (n * 4) (.string o.key) (.slice o.A o.d.length o.c) (.int .i64 o.ver) (.int .i64 o.born)) ∧ Grew w R { R with objs := R.objs.set n o } := by
  have hoV : R.oV.ownBlock = some b := by unfold RS.oV; rw [hA]; rfl
  have hlt := h.ro.lt b hoV
  have hk : Keep R.foot w (set4 w b (n * 4) (.string o.key) (.slice o.A o.d.length o.c) (.int .i64 o.ver) (.int .i64 o.born)) := set4_keep (.inr (.inl hoV))
  have hk1 : Keep (fun i => i = b) w (set4 w b (n * 4) (.string o.key) (.slice o.A o.d.length o.c) (.int .i64 o.ver) (.int .i64 o.born)) := set4_keep rfl
  have hlen : (R.objs.set n o).length = R.objs.length := List.length_set ..
  have hgr : Grew w R { R with objs := R.objs.set n o } := fun i hi => .inl (by
    rcases hi with hi | hi | hi
    · exact .inl hi
    · refine .inr (.inl ?_)
      rw [← hi]; unfold RS.oV; dsimp only; rw [hlen]
    · exact .inr (.inr hi))
  have hgb := h.gb
  have hro := h.ro
  unfold RS.oV at hro
  rw [hA] at hro
  have h4 := ((((hro.stored (n * 4) (.string o.key)).1.stored (n * 4 + 1) (.slice o.A o.d.length o.c)).1.stored (n * 4 + 2) (.int .i64 o.ver)).1.stored (n * 4 + 3) (.int .i64 o.born)).1
  unfold oCells at h4
  rw [set4_flat (f := Ro.cells) (fun _ => rfl) R.objs n hn o (show o.cells = _ from rfl)] at h4
  refine ⟨h.to hk rfl hgr ?_ ?_ ?_ (fun x hx => ?_) (fun x hx => ?_) (fun u hu => .inl hu), hk, hgr⟩
  · have := hk1.blk h.blk (by omega)
    unfold RS.cells at this ⊢
    dsimp only
    rw [hlen]; exact this
  · unfold RS.oV oCells
    dsimp only
    rw [hlen, hA]
    exact h4
  · exact h.ru.kept (row := some b) ⟨hk1.os, hk1.tape, hk1.output, hk1.size, fun i hi hne => hk1.block i hi fun e => hne (by rw [e])⟩ (.inr (by
      intro e
      exact h.ou b hoV e))
  · refine h.ou x ?_
    rw [← hx]; unfold RS.oV; dsimp only; rw [hlen]
  · rcases List.mem_or_eq_of_mem_set hx with h1 | rfl
    · exact .inl h1
    · exact .inr (ho.kept hk hgr)
/-- An upload is set. -/
theorem RAt.setU (h : RAt w base R) {b n : Nat} (hA : R.AU = some ⟨b, 0, none⟩) (hn : n < R.ups.length) {u : Ru} (hu : RU w R u) :
    RAt (set4 w b (n * 4) (.int .i64 u.id) (.int .i64 u.born) (.string u.key) (.slice u.PA u.parts.length u.pc)) base { R with ups := R.ups.set n u } ∧ Keep R.foot w (set4 w b (n * 4) (.int .i64 u.id) (.int .i64 u.born) (.string u.key) (.slice u.PA u.parts.length u.pc)) ∧ Grew w R { R with ups := R.ups.set n u } := by
  have hoV : R.uV.ownBlock = some b := by unfold RS.uV; rw [hA]; rfl
  have hlt := h.ru.lt b hoV
  have hk : Keep R.foot w (set4 w b (n * 4) (.int .i64 u.id) (.int .i64 u.born) (.string u.key) (.slice u.PA u.parts.length u.pc)) := set4_keep (.inr (.inr hoV))
  have hk1 : Keep (fun i => i = b) w (set4 w b (n * 4) (.int .i64 u.id) (.int .i64 u.born) (.string u.key) (.slice u.PA u.parts.length u.pc)) := set4_keep rfl
  have hlen : (R.ups.set n u).length = R.ups.length := List.length_set ..
  have hgr : Grew w R { R with ups := R.ups.set n u } := fun i hi => .inl (by
    rcases hi with hi | hi | hi
    · exact .inl hi
    · exact .inr (.inl hi)
    · refine .inr (.inr ?_)
      rw [← hi]; unfold RS.uV; dsimp only; rw [hlen])
  have hgb := h.gb
  have hro := h.ru
  unfold RS.uV at hro
  rw [hA] at hro
  have h4 := ((((hro.stored (n * 4) (.int .i64 u.id)).1.stored (n * 4 + 1) (.int .i64 u.born)).1.stored (n * 4 + 2) (.string u.key)).1.stored (n * 4 + 3) (.slice u.PA u.parts.length u.pc)).1
  unfold uCells at h4
  rw [set4_flat (f := Ru.cells) (fun _ => rfl) R.ups n hn u (show u.cells = _ from rfl)] at h4
  refine ⟨h.to hk rfl hgr ?_ ?_ ?_ (fun x hx hx' => ?_) (fun o ho => .inl ho) (fun x hx => ?_), hk, hgr⟩
  · have := hk1.blk h.blk (by omega)
    unfold RS.cells at this ⊢
    dsimp only
    rw [hlen]; exact this
  · exact h.ro.kept (row := some b) ⟨hk1.os, hk1.tape, hk1.output, hk1.size, fun i hi hne => hk1.block i hi fun e => hne (by rw [e])⟩ (.inr (by
      intro e
      exact h.ou b e hoV))
  · unfold RS.uV uCells
    dsimp only
    rw [hlen, hA]
    exact h4
  · refine h.ou x hx ?_
    rw [← hx']; unfold RS.uV; dsimp only; rw [hlen]
  · rcases List.mem_or_eq_of_mem_set hx with h1 | rfl
    · exact .inl h1
    · exact .inr (hu.kept hk hgr)
/-- An upload comes behind the others, in their row or a new one. -/
theorem RAt.snocU (h : RAt w base R) (hbw : Below base w wX) {u : Ru} {AU : Option Addr} {cU : Nat} (hgr : w.grownBy wX R.uV.ownBlock) (ho : wX.ownsRow base 74 4 (.slice AU (R.ups.length + 1) cU) (R.ups.length + 1) (uCells R.ups ++ u.cells)) (hor : (Value.slice AU (R.ups.length + 1) cU).ownBlock = R.uV.ownBlock ∨ (∃ i, (Value.slice AU (R.ups.length + 1) cU).ownBlock = some i ∧ w.heap.size ≤ i)) (hu : RU w R u) :
    RAt (wX.setCell ⟨R.g, 1, none⟩ (.slice AU (R.ups.length + 1) cU)) base { R with ups := R.ups ++ [u], AU := AU, cU := cU } ∧ Keep R.foot w (wX.setCell ⟨R.g, 1, none⟩ (.slice AU (R.ups.length + 1) cU)) ∧ Grew w R { R with ups := R.ups ++ [u], AU := AU, cU := cU } := by
  have hlen : (R.ups ++ [u]).length = R.ups.length + 1 := by simp
  have hk0 : Keep R.foot w wX := Keep.of_grown hgr fun i e => .inr (.inr e.symm)
  have hk : Keep R.foot w (wX.setCell ⟨R.g, 1, none⟩ (.slice AU (R.ups.length + 1) cU)) := hk0.setCell (.inl (.inl rfl)) _
  have hgb := h.gb
  have hgr' : Grew w R { R with ups := R.ups ++ [u], AU := AU, cU := cU } := fun i hi => by
    rcases hi with hi | hi | hi
    · exact .inl (.inl hi)
    · exact .inl (.inr (.inl hi))
    · have hi' : (Value.slice AU (R.ups.length + 1) cU).ownBlock = some i := by rw [← hi]; unfold RS.uV; dsimp only; rw [hlen]
      rcases hor with h1 | ⟨j, h1, h2⟩
      · exact .inl (.inr (.inr (by rw [← h1]; exact hi')))
      · rw [h1] at hi'
        injection hi' with hi'
        exact .inr (by omega)
  have hro : wX.ownsRow base 68 4 R.oV R.objs.length (oCells R.objs) := h.ro.kept hgr (by
    rcases e : R.oV.ownBlock with _ | x
    · exact .inl rfl
    · exact .inr fun e' => h.ou x e (by rw [← e']))
  have hgx : R.g ≠ (R.uV.ownBlock.getD R.g + 1) ∨ True := .inr trivial
  have hblk : Blk wX R.g 29 R.cells := h.blk.below hbw hgb
  refine ⟨h.to hk rfl hgr' ?_ (own_setCell (p := ⟨R.g, 1, none⟩) hro hgb _) ?_ (fun x hx hx' => ?_) (fun o ho => .inl ho) (fun x hx => ?_), hk, hgr'⟩
  · have := hblk.set_ 1 (.slice AU (R.ups.length + 1) cU)
    unfold RS.cells at this ⊢
    dsimp only
    rw [hlen]; exact this
  · unfold RS.uV uCells
    dsimp only
    rw [hlen, List.flatMap_append, List.flatMap_singleton]
    exact own_setCell (p := ⟨R.g, 1, none⟩) ho hgb _
  · have hx2 : (Value.slice AU (R.ups.length + 1) cU).ownBlock = some x := by rw [← hx']; unfold RS.uV; dsimp only; rw [hlen]
    rcases hor with h1 | ⟨j, h1, h2⟩
    · exact h.ou x hx (by rw [← h1]; exact hx2)
    · rw [h1] at hx2
      injection hx2 with hx2
      have := (h.ro.lt x hx).2
      omega
  · rcases List.mem_append.1 hx with h1 | h1
    · exact .inl h1
    · rw [List.mem_singleton.1 h1]
      exact .inr (hu.kept hk hgr')
theorem reads_apart {F : Nat → Prop} {size n : Nat} {A : Option Addr} {xs : List Value} (h : Reads w w.heap.size size A n xs) (hk : Keep F w w') (hF : 0 < n → ∀ a, A = some a → ¬ F a.block) : Reads w' w'.heap.size size A n xs := by
  refine ⟨h.1, fun hn => ?_⟩
  obtain ⟨b, off, e, hb, hc⟩ := h.2 hn
  exact ⟨b, off, e, Nat.lt_of_lt_of_le hb hk.size, fun j u hu => hk.cell (hc j u hu) (show ¬ F b from hF hn _ e)⟩
theorem own_apart {F : Nat → Prop} {b : Nat} {e : TypeId} {size n : Nat} {v : Value} {xs : List Value} (h : w.ownsRow b e size v n xs) (hk : Keep F w w') (hF : ∀ i, v.ownBlock = some i → ¬ F i) : w'.ownsRow b e size v n xs := by
  refine ⟨h.1, ?_⟩
  rcases h.2 with h2 | ⟨g, cap, cur, rfl, h3, h4, h5⟩
  · exact .inl h2
  · exact .inr ⟨g, cap, cur, rfl, h3, (hk.block g (Array.getElem?_eq_some_iff.1 h4).1 (hF g rfl)).trans h4, h5⟩
/-- What doesn't touch the store. -/
theorem RAt.apart (h : RAt w base R) {F : Nat → Prop} (hk : Keep F w w') (hF : ∀ i, R.foot i → ¬ F i) (hA : ∀ b, R.addr b → ¬ F b) : RAt w' base R := by
  refine ⟨hk.blk h.blk (hF _ (.inl rfl)), own_apart h.ro hk fun i hi => hF _ (.inr (.inl hi)), own_apart h.ru hk fun i hi => hF _ (.inr (.inr hi)), h.gb, Nat.le_trans h.bw hk.size, h.ou, fun o ho => ?_, fun u hu => ?_, fun u hu p hp => ?_⟩
  · have h1 := h.od o ho
    exact ⟨.of (reads_apart h1.by_.2 hk fun hn a ha => hA _ (.inl ⟨o, ho, hn, a, ha, rfl⟩)), h1.len, h1.cm, h1.out⟩
  · have h1 := h.up u hu
    exact ⟨reads_apart h1.1 hk fun hn a ha => hA _ (.inr ⟨u, hu, .inl ⟨hn, a, ha, rfl⟩⟩), h1.2⟩
  · have h1 := h.ud u hu p hp
    exact ⟨.of (reads_apart h1.by_.2 hk fun hn a ha => hA _ (.inr ⟨u, hu, .inr ⟨p, hp, hn, a, ha, rfl⟩⟩)), h1.len, h1.cm, h1.out⟩
theorem reads_lt {size n B : Nat} {A : Option Addr} {xs : List Value} (h : Reads w B size A n xs) (hn : 0 < n) {a : Addr} (ha : A = some a) : a.block < B := by
  obtain ⟨b, off, e, hb, -⟩ := h.2 hn
  rw [ha] at e
  injection e with e
  rw [e]; exact hb
theorem RAt.addr_lt (h : RAt w base R) {b : Nat} (hb : R.addr b) : b < w.heap.size := by
  rcases hb with ⟨o, ho, hn, a, ha, rfl⟩ | ⟨u, hu, ⟨hn, a, ha, rfl⟩ | ⟨p, hp, hn, a, ha, rfl⟩⟩
  · exact reads_lt (h.od o ho).by_.2 hn ha
  · exact reads_lt (h.up u hu).1 hn ha
  · exact reads_lt (h.ud u hu p hp).by_.2 hn ha
/-- A turn in which a block turned that was made ahead of it. -/
theorem Turn.res {R2 : RS} {w2 w9 w10 : World} {g : Nat} (h0 : Turn w base R w2 R2) (h : Turn w2 base R2 w9 R') (hg : w.heap.size ≤ g) (hg2 : g < w2.heap.size) (hf2 : ∀ i, R2.foot i → i ≠ g) (ha2 : ∀ b, R2.addr b → b ≠ g) (hk : Keep (fun i => i = g) w9 w10) : Turn w base R w10 R' := by
  have hf : ∀ i, R'.foot i → i ≠ g := fun i hi e => by
    rcases h.grew i hi with h1 | h1
    · exact hf2 i h1 e
    · omega
  have ha : ∀ b, R'.addr b → b ≠ g := fun i hi e => by
    rcases h.prov i hi with h1 | h1
    · exact ha2 i h1 e
    · omega
  have ht := h0.trans h
  exact ⟨ht.at_.apart hk hf ha, ht.keep.then hk (fun i hi e => by omega), ht.grew, ht.prov, ht.g⟩
end
end Rf
end Go.Proofs.YtlljpjehalodfaaGreat
