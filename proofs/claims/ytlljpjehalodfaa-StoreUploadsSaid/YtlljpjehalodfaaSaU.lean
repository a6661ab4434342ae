/- One part put (chapter 14): the statement's closure. -/
import Derived.Test.YtlljpjehalodfaaProg
import Derived.Test.YtlljpjehalodfaaSaT
import Derived.Test.YtlljpjehalodfaaTailB
namespace Go.Proofs.Ytlljpjehalodfaa
open Go.RowKit
namespace St

theorem Keep.own1 {w w' : World} {F : Nat → Prop} {base size n c gr : Nat} {e : TypeId} {xs : List Value} (h : Keep F w w') (ho : w.ownsRow base e size (.slice (some ⟨gr, 0, none⟩) n c) n xs) (hF : ¬ F gr) : w'.ownsRow base e size (.slice (some ⟨gr, 0, none⟩) n c) n xs := by
  refine ⟨ho.1, ?_⟩
  rcases ho.2 with ⟨h0, _⟩ | ⟨g, cap, cur, hv, hb, hg, rest⟩
  · injection h0 with h0; cases h0
  · have e : g = gr := by injection hv with hv; injection hv with hv; injection hv with hv; exact hv.symm
    subst e
    exact .inr ⟨g, cap, cur, hv, hb, (h.block g (Array.getElem?_eq_some_iff.1 hg).1 hF).trans hg, rest⟩
theorem own1_lt {w : World} {base size n c gr : Nat} {e : TypeId} {xs : List Value} (ho : w.ownsRow base e size (.slice (some ⟨gr, 0, none⟩) n c) n xs) : gr < w.heap.size ∧ base ≤ gr := by
  rcases ho.2 with ⟨h0, _⟩ | ⟨g, cap, cur, hv, hb, hg, rest⟩
  · injection h0 with h0; cases h0
  · have e : g = gr := by injection hv with hv; injection hv with hv; injection hv with hv; exact hv.symm
    subst e
    exact ⟨(Array.getElem?_eq_some_iff.1 hg).1, hb⟩
/-- What the statement holds beside the store: the variables of the closure, and what was sent. -/
structure Env (w0 wx : World) (g : Nat) (L : LS) (m gq gr gv gi gp base B : Nat) (AD : Option Addr) (cD : Nat) (D : List Dt) (AF : Option Addr) (cF : Nat) (F : Bs) (S : List Bool) : Prop where
  liv : Liv w0 wx g L m
  q : Blk wx gq 46 #[.slice (some ⟨gr, 0, none⟩) D.length D.length]
  r : wx.ownsRow base 4 1 (.slice (some ⟨gr, 0, none⟩) D.length D.length) D.length (S.map Value.bool)
  v : Blk wx gv 24 #[.pointer (some ⟨g, 0, none⟩)]
  i : Blk wx gi 3 #[.int .i64 1]
  p : Blk wx gp 23 #[.slice AD D.length cD]
  d : Dts wx B AD D
  a : Dat wx g AF cF F
  nq : ¬ L.foot gq
  nr : ¬ L.foot gr
  nv : ¬ L.foot gv
  ni : ¬ L.foot gi
  np : ¬ L.foot gp
  eq : gq ≠ gr
  ev : gv ≠ gr
  ei : gi ≠ gr
  ep : gp ≠ gr
  hB : B ≤ w0.heap.size
  hr : B ≤ base
  hw : w0.heap.size ≤ base
  sl : S.length = D.length
section
variable {w0 wx wy : World} {g m gq gr gv gi gp base B cD : Nat} {L L' : LS} {AD : Option Addr} {D : List Dt} {AF : Option Addr} {cF : Nat} {F : Bs} {S : List Bool} {x : Cl}
theorem Env.on (h : Env w0 wx g L m gq gr gv gi gp base B AD cD D AF cF F S) (hb : Below wx.heap.size wx wy) : Env w0 wy g L m gq gr gv gi gp base B AD cD D AF cF F S :=
  { h with liv := h.liv.on hb, q := h.q.below hb h.q.lt, r := own_below h.r hb, v := h.v.below hb h.v.lt, i := h.i.below hb h.i.lt, p := h.p.below hb h.p.lt, d := h.d.below (hb.mono (Nat.le_trans h.hB h.liv.size)), a := h.a.below hb }
theorem Env.step (h : Env w0 wx g L m gq gr gv gi gp base B AD cD D AF cF F S) (hs : StepTo wx L x wy L') (hi : PInv L'.pure (m + 1)) : Env w0 wy g L' (m + 1) gq gr gv gi gp base B AD cD D AF cF F S :=
  { h with
    liv := h.liv.step hs hi
    q := hs.keep.blk h.q h.nq
    r := hs.keep.own1 h.r h.nr
    v := hs.keep.blk h.v h.nv
    i := hs.keep.blk h.i h.ni
    p := hs.keep.blk h.p h.np
    d := h.d.below (hs.below (Nat.le_trans h.hB h.liv.size) (fun i hi => Nat.le_trans h.hB (h.liv.high i hi)))
    a := by have := h.liv.gs; subst this; exact h.liv.at_.dat h.a hs.keep
    nq := fun hf => by rcases hs.foot _ hf with hf | hf; exact h.nq hf; have := h.q.lt; omega
    nr := fun hf => by rcases hs.foot _ hf with hf | hf; exact h.nr hf; have := (own1_lt h.r).1; omega
    nv := fun hf => by rcases hs.foot _ hf with hf | hf; exact h.nv hf; have := h.v.lt; omega
    ni := fun hf => by rcases hs.foot _ hf with hf | hf; exact h.ni hf; have := h.i.lt; omega
    np := fun hf => by rcases hs.foot _ hf with hf | hf; exact h.np hf; have := h.p.lt; omega }
theorem Dat.offOf {w : World} {gs c g : Nat} {A : Option Addr} {d : Bs} {t : TypeId} {cs : Array Value} (h : Dat w gs A c d) (hb : Blk w g t cs) (hall : ∀ (i : Nat) (hi : i < cs.size) (x : UInt8), cs[i] ≠ byteV x) : Off g A d := fun b off e hd hbg => by
  obtain ⟨b', off', e', _, hc⟩ := h.at_ hd
  rw [e] at e'
  injection e' with e'
  injection e' with e1 e2
  have h0 := hc 0 (byteV d[0]) (by simp [List.getElem?_eq_getElem hd])
  rw [← e1, hbg, hb.cell] at h0
  obtain ⟨hlt, h0⟩ := Array.getElem?_eq_some_iff.1 h0
  exact hall _ hlt _ h0
theorem row_blk {w : World} {base n gr : Nat} {e : TypeId} {xs : List Value} (ho : w.ownsRow base e 1 (.slice (some ⟨gr, 0, none⟩) n n) n xs) : ∃ cs, Blk w gr e cs ∧ cs.toList = xs := by
  rcases ho.2 with ⟨h0, _⟩ | ⟨g, cap, cur, hv, hb, hg, h1, h2, h3, h4⟩
  · injection h0 with h0; cases h0
  · have e1 : g = gr := by injection hv with hv; injection hv with hv; injection hv with hv; exact hv.symm
    have e2 : n = cap := by injection hv
    subst e1 e2
    exact ⟨cur, hg, by rw [← h4, List.take_of_length_le (by rw [Array.length_toList, h3]; exact Nat.le_refl _)]⟩
theorem bools_ {cs : Array Value} {S : List Bool} (hl : cs.toList = S.map Value.bool) : ∀ (i : Nat) (hi : i < cs.size) (x : UInt8), cs[i] ≠ byteV x := fun i hi x e => by
  have hm : cs[i] ∈ S.map Value.bool := by rw [← hl]; exact Array.getElem_mem_toList hi
  obtain ⟨b, -, hb⟩ := List.mem_map.1 hm
  rw [e] at hb; cases hb
theorem Env.free (h : Env w0 wx g L m gq gr gv gi gp base B AD cD D AF cF F S) : Free L gr := by
  obtain ⟨cs, hb, hl⟩ := row_blk h.r
  have hall := bools_ hl
  exact ⟨fun p hp => (h.liv.at_.od p hp).offOf hb hall, fun p hp q hq => (h.liv.at_.ud p hp q hq).offOf hb hall⟩
theorem Env.mark (h : Env w0 wx g L m gq gr gv gi gp base B AD cD D AF cF F S) (i : Nat) : Env w0 (wx.setCell ⟨gr, i, none⟩ (.bool true)) g L m gq gr gv gi gp base B AD cD D AF cF F (S.set i true) := by
  obtain ⟨cs, hb, hl⟩ := row_blk h.r
  have hst := World.ownsRow.stored h.r i (.bool true)
  have hlt := own1_lt h.r
  have hbw : Below base wx (wx.setCell ⟨gr, i, none⟩ (.bool true)) := (Below.refl _ _).setCell hlt.2 _
  have hk : Keep (fun j => j = gr) wx (wx.setCell ⟨gr, i, none⟩ (.bool true)) := (Keep.refl (fun j => j = gr) wx).setCell (p := ⟨gr, i, none⟩) (.inl rfl) _
  exact { h with
    liv := { h.liv with at_ := h.liv.at_.cells hk hb (fun e => h.nr (.inl e.symm)) h.free, below := h.liv.below.trans (hbw.mono h.hw) }
    q := h.q.far (p := ⟨gr, i, none⟩) h.eq _
    r := by rw [List.map_set]; exact hst.1
    v := h.v.far (p := ⟨gr, i, none⟩) h.ev _
    i := h.i.far (p := ⟨gr, i, none⟩) h.ei _
    p := h.p.far (p := ⟨gr, i, none⟩) h.ep _
    d := h.d.below (hbw.mono h.hr)
    a := h.a.far (h.a.offOf hb (bools_ hl)) hk
    sl := by rw [List.length_set]; exact h.sl }
set_option maxRecDepth 100000 in
set_option maxHeartbeats 3200000 in
theorem sent_calls (wx : World) (h : Env w0 wx g L m gq gr gv gi gp base B AD cD D AF cF F S) (ho : Opn L.pure (D.map Dt.d) S) (h8 : D.length ≤ 8) (h5 : tot500 (D.map Dt.d)) (hm : m ≤ 1000) {i : Nat} (hi : i < D.length) :
    Calls Try.prog 15 #[.int .i64 (i : Int), .pointer (some ⟨gq, 0, none⟩), .pointer (some ⟨gv, 0, none⟩), .pointer (some ⟨gi, 0, none⟩), .pointer (some ⟨gp, 0, none⟩)] wx fun e w' => ∃ L', e = .returned (.bool true) ∧ Env w0 w' g L' (m + 1) gq gr gv gi gp base B AD cD D AF cF F (S.set i true) ∧ Opn L'.pure (D.map Dt.d) (S.set i true) := by
  have hq0 : wx.cell? ⟨gq, 0, none⟩ = some (.slice (some ⟨gr, 0, none⟩) D.length D.length) := h.q.cell 0
  have hfz : wx.frozen? ⟨gr, i, none⟩ = false := World.ownsRow.frozenAt h.r i
  have hcl : wx.cell? ⟨gr, i, none⟩ = some (.bool (S.getD i false)) := by
    have hiS : i < S.length := by rw [h.sl]; exact hi
    rw [World.ownsRow.cellAt h.r i (by omega), List.getElem?_map, List.getElem?_eq_getElem hiS]
    simp [List.getD, List.getElem?_eq_getElem hiS]
  have HE1 := Lib.hid (h.mark i)
  have HO := Lib.hid ho
  have HSL := Lib.hid h.sl
  have HT := Lib.hid h5
  have hi0 : (0 : Int) ≤ (i : Int) := by omega
  have hi1 : (i : Int) < (D.length : Int) := by omega
  clear h ho h5
  go_enter Try.func15, Try.ntmps15
  go_upto_region 2 with fail
  generalize wx.setCell ⟨gr, i, none⟩ (.bool true) = w1 at *
  clear hq0 hfz hcl
  have z2 : w1.cell? ⟨gv, 0, none⟩ = some (.pointer (some ⟨g, 0, none⟩)) := HE1.out.v.cell 0
  have z3 : w1.cell? ⟨gi, 0, none⟩ = some (.int .i64 1) := HE1.out.i.cell 0
  have z4 : w1.cell? ⟨gp, 0, none⟩ = some (.slice AD D.length cD) := HE1.out.p.cell 0
  obtain ⟨b, off, rfl, hbB, x0⟩ := HE1.out.d.at_ hi
  have HY := Lib.hid (HE1.out.d.ok _ (gd_mem hi))
  have hyd : (D.map Dt.d)[i]'(by rw [List.length_map]; exact hi) = (gd D i).d := by rw [List.getElem_map, gd_eq hi]
  have hst := step_part HO.out HE1.out.liv.inv (by rw [HSL.out, List.length_map]) (by rw [List.length_map]; exact h8) HT.out (i := i) (by rw [List.length_map]; exact hi) (gd D i).A (gd D i).c
  rw [hyd] at hst
  have hy5 : (gd D i).d.length ≤ 500 := by rw [← hyd]; exact HT.out _ (List.getElem_mem _)
  have HST := Lib.hid hst
  clear hst hyd
  generalize gd D i = y at *
  have hsum : IntKind.i64.wrap ((i : Int) + 1) = (i : Int) + 1 := by rw [IntKind.wrap_i64]; omega
  have hBw : B ≤ w1.heap.size := Nat.le_trans HE1.out.hB HE1.out.liv.size
  have hd := do_live (w1.drewN 1) (x := cPart y.A y.c y.d ((i : Int) + 1)) (HE1.out.liv.at_.drewN 1) HE1.out.liv.inv (by omega) (by rw [HE1.out.liv.gs]; exact (HY.out.below (below_drewN_ (Below.refl _ _) 1)).dat (Nat.le_trans HE1.out.hB HE1.out.liv.le)) ⟨by show 0 ≤ maxLen; omega, by show y.d.length ≤ _; omega, wfI (by show _ ≤ (i : Int) + 1; omega) (by show (i : Int) + 1 ≤ _; omega), wfI (by show _ ≤ (1 : Int); omega) (by show (1 : Int) ≤ _; omega)⟩
  rw [HE1.out.liv.gs] at hd
  have HD := Lib.hid hd
  clear hd
  refine wp_region_T 99 (fun w' => w'.cell? ⟨gv, 0, none⟩ = some (.pointer (some ⟨g, 0, none⟩)) ∧ w'.cell? ⟨gi, 0, none⟩ = some (.int .i64 1) ∧ w'.cell? ⟨gp, 0, none⟩ = some (.slice (some ⟨b, off, none⟩) D.length cD) ∧ w'.cell? ⟨b, off + i, none⟩ = some (.slice y.A y.d.length y.c)) (by kernel_rfl) ⟨z2, z3, z4, x0⟩ (fun hHeld => ?_)
  refine wpAnyT_take (i := 0) (oi := _) (v := ?_) rfl (by kernel_rfl) (fun _ _ _ h => h) (Or.inl ⟨by kernel_rfl, ?_⟩) (by assumption) ?_; rotate_left; (focus (intro w hSw; (try dsimp only at hSw); go_simp; (try with_reducible rfl))); (try simp only [Act.put, List.getElem_toArray, List.getElem_cons_zero, List.setIfInBounds_toArray, List.set_cons_zero, List.set_cons_succ])
  refine wpAnyT_take (i := 1) (oi := _) (v := ?_) rfl (by kernel_rfl) (fun _ _ _ h => h) (Or.inl ⟨by kernel_rfl, ?_⟩) (by assumption) ?_; rotate_left; (focus (intro w hSw; (try dsimp only at hSw); go_simp; (try with_reducible rfl))); (try simp only [Act.put, List.getElem_toArray, List.getElem_cons_zero, List.getElem_cons_succ, List.setIfInBounds_toArray, List.set_cons_zero, List.set_cons_succ])
  refine wpAnyT_take (i := 2) (oi := _) (v := ?_) rfl (by kernel_rfl) (fun _ _ _ h => h) (Or.inl ⟨by kernel_rfl, ?_⟩) (by assumption) ?_; rotate_left; (focus (intro w hSw; (try dsimp only at hSw); go_simp; (try with_reducible rfl))); (try simp only [Act.put, List.getElem_toArray, List.getElem_cons_zero, List.getElem_cons_succ, List.setIfInBounds_toArray, List.set_cons_zero, List.set_cons_succ])
  refine wpAnyT_take (i := 3) (oi := _) (v := ?_) rfl (by kernel_rfl) (fun _ _ _ h => h) (Or.inl ⟨by kernel_rfl, ?_⟩) (by assumption) ?_; rotate_left; (focus (intro w hSw; (try dsimp only at hSw); go_simp; (try with_reducible rfl))); (try simp only [Act.put, List.getElem_toArray, List.getElem_cons_zero, List.getElem_cons_succ, List.setIfInBounds_toArray, List.set_cons_zero, List.set_cons_succ])
  refine wpAnyT_take (i := 4) (oi := _) (v := ?_) rfl (by kernel_rfl) (fun _ _ _ h => h) (Or.inl ⟨by kernel_rfl, ?_⟩) (by assumption) ?_; rotate_left; (focus (intro w hSw; (try dsimp only at hSw); go_simp; (try with_reducible rfl))); (try simp only [Act.put, List.getElem_toArray, List.getElem_cons_zero, List.getElem_cons_succ, List.setIfInBounds_toArray, List.set_cons_zero, List.set_cons_succ])
  refine wpAnyT_take (i := 5) (oi := _) (v := ?_) rfl (by kernel_rfl) (fun _ _ _ h => h) (Or.inl ⟨by kernel_rfl, ?_⟩) (by assumption) ?_; rotate_left; (focus (intro w hSw; (try dsimp only at hSw); go_simp; (try with_reducible rfl))); (try simp only [Act.put, List.getElem_toArray, List.getElem_cons_zero, List.getElem_cons_succ, List.setIfInBounds_toArray, List.set_cons_zero, List.set_cons_succ])
  refine wpAnyT_take (i := 6) (oi := _) (v := ?_) rfl (by kernel_rfl) (fun _ _ _ h => h) (Or.inl ⟨by kernel_rfl, ?_⟩) (by assumption) ?_; rotate_left; (focus (intro w hSw; (try dsimp only at hSw); go_simp; (try with_reducible rfl))); (try simp only [Act.put, List.getElem_toArray, List.getElem_cons_zero, List.getElem_cons_succ, List.setIfInBounds_toArray, List.set_cons_zero, List.set_cons_succ])
  refine wpAnyT_take (i := 7) (oi := _) (v := ?_) rfl (by kernel_rfl) (fun _ _ _ h => h) (Or.inl ⟨by kernel_rfl, ?_⟩) (by assumption) ?_; rotate_left; (focus (intro w hSw; (try dsimp only at hSw); go_simp; (try with_reducible rfl))); (try simp only [Act.put, List.getElem_toArray, List.getElem_cons_zero, List.getElem_cons_succ, List.setIfInBounds_toArray, List.set_cons_zero, List.set_cons_succ])
  refine wpAnyT_take (i := 8) (oi := _) (v := ?_) rfl (by kernel_rfl) (fun _ _ _ h => h) (Or.inl ⟨by kernel_rfl, ?_⟩) (by assumption) ?_; rotate_left; (focus (intro w hSw; (try dsimp only at hSw); go_simp; (try with_reducible rfl))); (try simp only [Act.put, List.getElem_toArray, List.getElem_cons_zero, List.getElem_cons_succ, List.setIfInBounds_toArray, List.set_cons_zero, List.set_cons_succ])
  refine wpAnyT_one (i := 9) (by kernel_rfl) rfl (fun K hK => ?_); go_simp
  refine HD.out.mono ?_
  rintro e w5 ⟨L', v, rfl, hr, hs, hi'⟩
  have HE5 := Lib.hid ((HE1.out.on (below_drewN_ (Below.refl w1.heap.size w1) 1)).step hs hi')
  have HO5 : Hid (Opn L'.pure (D.map Dt.d) (S.set i true)) := Lib.hid (by rw [hs.pure]; exact HST.out.2)
  have he := HST.out.1
  generalize (L.pure.step (cPart y.A y.c y.d ((i : Int) + 1)).pure).2 = r at *
  obtain ⟨A5, c5, A6, c6, rfl, -, -⟩ := hr
  rw [he]
  have hH5 : w5.cell? ⟨gv, 0, none⟩ = some (.pointer (some ⟨g, 0, none⟩)) ∧ w5.cell? ⟨gi, 0, none⟩ = some (.int .i64 1) ∧ w5.cell? ⟨gp, 0, none⟩ = some (.slice (some ⟨b, off, none⟩) D.length cD) ∧ w5.cell? ⟨b, off + i, none⟩ = some (.slice y.A y.d.length y.c) := by
    refine ⟨HE5.out.v.cell 0, HE5.out.i.cell 0, HE5.out.p.cell 0, ?_⟩
    have hbel := hs.below (B := B) (Nat.le_trans HE1.out.hB HE1.out.liv.size) (fun i hi => Nat.le_trans HE1.out.hB (HE1.out.liv.high i hi))
    exact (hbel.cell (p := ⟨b, off + i, none⟩) hbB).trans x0
  have hfd : ∀ W : World, (Instr.field 36 (.agg #[.int .i64 0, .slice A5 r.d.length c5, .int .i64 r.ver, .int .i64 r.born, .int .i64 r.id, .slice A6 r.list.length c6, .bool r.more]) 0).run Try.prog W = .ok (.int .i64 0) W := fun _ => by kernel_rfl
  refine hK.out _ _ (fun _ => hH5) ?_
  clear hK K hHeld hs hi' he HST HD z2 z3 z4 x0
  (try simp only [Act.put, List.getElem_toArray, List.getElem_cons_zero, List.getElem_cons_succ, List.setIfInBounds_toArray, List.set_cons_zero, List.set_cons_succ])
  refine wpAnyT_take (i := 10) (oi := _) (v := ?_) rfl (by kernel_rfl) (fun _ _ _ h => h) (Or.inl ⟨by kernel_rfl, ?_⟩) (by assumption) ?_; rotate_left; (focus (intro w hSw; (try dsimp only at hSw); go_simp; (try with_reducible rfl))); (try simp only [Act.put, List.getElem_toArray, List.getElem_cons_zero, List.getElem_cons_succ, List.setIfInBounds_toArray, List.set_cons_zero, List.set_cons_succ])
  refine wpAnyT_take (i := 11) (oi := _) (v := ?_) rfl (by kernel_rfl) (fun _ _ _ h => h) (Or.inl ⟨by kernel_rfl, ?_⟩) (by assumption) ?_; rotate_left; (focus (intro w hSw; (try dsimp only at hSw); go_simp; (try with_reducible rfl))); (try simp only [Act.put, List.getElem_toArray, List.getElem_cons_zero, List.getElem_cons_succ, List.setIfInBounds_toArray, List.set_cons_zero, List.set_cons_succ])
  refine wpAnyT_take (i := 12) (oi := _) (v := ?_) rfl (by kernel_rfl) (fun _ _ _ h => h) (Or.inl ⟨by kernel_rfl, ?_⟩) (by assumption) ?_; rotate_left; (focus (intro w hSw; (try dsimp only at hSw); go_simp; (try with_reducible rfl))); (try simp only [Act.put, List.getElem_toArray, List.getElem_cons_zero, List.getElem_cons_succ, List.setIfInBounds_toArray, List.set_cons_zero, List.set_cons_succ])
  refine wpAnyT_done (by kernel_rfl) ?_ _
  clear hH5 hfd
  go_wp2
  go_ret
  exact ⟨L', rfl, HE5.out, HO5.out⟩
end
end St
end Go.Proofs.Ytlljpjehalodfaa
