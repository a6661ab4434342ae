/- A drawn region that reads an entry by nine calls, an allocation beside them (chapter 13): its state. -/
import Derived.Test.YtjbmlhipjceeeaaGreatMfDa
import Derived.Test.YtjbmlhipjceeeaaGreatGrow
import Derived.Test.YtjbmlhipjceeeaaGreatIns
import Derived.Test.YtjbmlhipjceeeaaGreatOpr
namespace Go.Proofs.YtjbmlhipjceeeaaGreat.Mf
set_option linter.unusedVariables false
set_option linter.unusedSimpArgs false
open Go.RowKit Go.Proofs.YtjbmlhipjceeeaaGreat

theorem n_calls (w : World) {gb gc gB k e : Nat} {l : List UInt8} (hb : Blk w gb 91 #[.pointer (some ⟨gc, 0, none⟩)]) (h : Nu.Cur 125 w gc gB l k e) (hl : l.length ≤ 1000000000000000) :
    Calls Tryz.prog 61 #[.pointer (some ⟨gb, 0, none⟩)] w (Nu.CurRet 125 w gc gB l (.int .i64 ((Nu.curNum l k e 1099511627775).1 : Nat)) (Nu.curNum l k e 1099511627775).2.1 (Nu.curNum l k e 1099511627775).2.2) := by
  have c0 : w.cell? ⟨gb, 0, none⟩ = some (.pointer (some ⟨gc, 0, none⟩)) := hb.cell 0
  have HN := Lib.hid (Nu.curNum_calls w h hl 1099511627775 (by decide))
  clear hb h
  go_enter Tryz.func61, Tryz.ntmps61
  go_wp2_with fail
  refine HN.out.mono ?_
  rintro e1 w1 ⟨rfl, h1, h2⟩
  clear HN
  go_wp2
  go_ret
  exact ⟨rfl, h1, h2⟩
/-- The program's cursor, and the variable that holds it. -/
structure Cv (W : World) (gb gc : Nat) (l : List UInt8) (k e : Nat) : Prop where
  cur : Nu.Cur 125 W gc gc l k e
  box : Blk W gb 91 #[.pointer (some ⟨gc, 0, none⟩)]
  ne : gc < gb
theorem Cv.call {W W' : World} {gb gc k e k' e' : Nat} {l : List UInt8} (h : Cv W gb gc l k e) (hc : Nu.Cur 125 W' gc gc l k' e') (ho : Only gc W W') : Cv W' gb gc l k' e' := ⟨hc, ho.blk h.box (by have := h.ne; omega), h.ne⟩
theorem Cv.below {W W' : World} {gb gc k e B : Nat} {l : List UInt8} (h : Cv W gb gc l k e) (hb : Below B W W') (hB : gb < B) : Cv W' gb gc l k e := ⟨cur_low h.cur hb (by have := h.ne; omega), h.box.below hb hB, h.ne⟩
theorem Cv.belowS {W W' : World} {gb gc k e : Nat} {l : List UInt8} (h : Cv W gb gc l k e) (hb : Below W.heap.size W W') : Cv W' gb gc l k e := h.below hb h.box.lt
theorem Cv.set {W : World} {gb gc k e g : Nat} {l : List UInt8} (h : Cv W gb gc l k e) (hg : gb < g) (i : Nat) (v : Value) : Cv (W.setCell ⟨g, i, none⟩ v) gb gc l k e :=
  ⟨h.cur.far ((Only.refl g W).setCell (.inl rfl) v) (by have := h.ne; omega) (by have := h.ne; omega), h.box.far (p := ⟨g, i, none⟩) (by show gb ≠ g; omega) v, h.ne⟩

def zE9 : Array Value := #[.string ⟨#[]⟩, .int .i64 0, .string ⟨#[]⟩, .int .i64 0, .int .i64 0, .int .i64 0, .int .i64 0, .int .u32 0, .int .i64 0]
/-- The calls of the region, one behind the other. -/
def cN : Nat → Nat := fun r => (#[1, 3, 5, 7, 9, 11, 13, 15, 18] : Array Nat).getD r 99
def isC (i : Nat) : Bool := [1, 3, 5, 7, 9, 11, 13, 15, 18].contains i
/-- How far the region is. -/
structure DeS (val : Nat → Value) (P : Nat → Nat × Nat) (gb gc : Nat) (t : List UInt8) (wr : World) (V : Array Value) (cc : Nat → Bool) (vs : Nat → Value) (W : World) : Prop where
  vals : ∀ i, cc i = true → i < 20 → vs i = val i
  cv : ∃ j, j ≤ 9 ∧ (∀ r, r < 9 → (cc (cN r) = true ↔ r < j)) ∧ Cv W gb gc t (P j).1 (P j).2
  fr : Only gc wr W
  ord : cc 21 = true → cc 20 = true
  box : cc 20 = true → ∃ gx, vs 20 = .pointer (some ⟨gx, 0, none⟩) ∧ wr.heap.size ≤ gx ∧ gb < gx ∧ Blk W gx 42 (if cc 21 then V else zE9)
section
variable {val : Nat → Value} {P : Nat → Nat × Nat} {gb gc : Nat} {t : List UInt8} {wr : World} {V : Array Value} {cc : Nat → Bool} {vs : Nat → Value} {W W' : World}
theorem cN_ne (i r : Nat) (hi : isC i = false) (hr : r < 9) : cN r ≠ i := by
  intro e
  subst e
  have : ∀ r, r < 9 → isC (cN r) = true := by decide
  rw [this r hr] at hi
  cases hi
theorem cN_inj : ∀ r, r < 9 → ∀ q, q < 9 → cN r = cN q → r = q := by decide
theorem cN_lt : ∀ r, r < 9 → cN r < 20 := by decide
theorem DeS.step (h : DeS val P gb gc t wr V cc vs W) (i : Nat) (hi : i < 20) (hc : isC i = false) : DeS val P gb gc t wr V (fun j => if j = i then true else cc j) (fun j => if j = i then val i else vs j) W := by
  refine ⟨fun j hj hj2 => ?_, ?_, h.fr, fun hq => by rw [if_neg (by omega)] at hq ⊢; exact h.ord hq, fun hb => ?_⟩
  · by_cases e : j = i
    · subst e; simp
    · simp only [if_neg e] at hj ⊢; exact h.vals j hj hj2
  · obtain ⟨j, h9, h1, h2⟩ := h.cv
    exact ⟨j, h9, fun r hr => by rw [if_neg (cN_ne i r hc hr)]; exact h1 r hr, h2⟩
  · rw [if_neg (by omega)] at hb
    obtain ⟨gx, h1, h2⟩ := h.box hb
    exact ⟨gx, by simp only [if_neg (show (20 : Nat) ≠ i by omega)]; exact h1, by simp only [if_neg (show (21 : Nat) ≠ i by omega)]; exact h2⟩
theorem DeS.at_ (h : DeS val P gb gc t wr V cc vs W) (r : Nat) (hr : r < 9) (hc : cc (cN r) = false) (hp : 0 < r → cc (cN (r - 1)) = true) : Cv W gb gc t (P r).1 (P r).2 := by
  obtain ⟨j, -, h1, h2⟩ := h.cv
  have e : j = r := by
    have k1 : ¬ r < j := fun hh => by have := (h1 r hr).2 hh; rw [hc] at this; cases this
    rcases Nat.eq_zero_or_pos r with h0 | h0
    · omega
    · have := (h1 (r - 1) (by omega)).1 (hp h0)
      omega
  rw [← e]; exact h2
theorem DeS.call (h : DeS val P gb gc t wr V cc vs W) (r : Nat) (hr : r < 9) (hc : cc (cN r) = false) (hp : 0 < r → cc (cN (r - 1)) = true) (hcu : Nu.Cur 125 W' gc gc t (P (r + 1)).1 (P (r + 1)).2) (ho : Only gc W W') :
    DeS val P gb gc t wr V (fun j => if j = cN r then true else cc j) (fun j => if j = cN r then val (cN r) else vs j) W' := by
  have hcv := h.at_ r hr hc hp
  have hl := cN_lt r hr
  refine ⟨fun j hj hj2 => ?_, ⟨r + 1, by omega, fun q hq => ?_, hcv.call hcu ho⟩, h.fr.trans ho, fun hq => by rw [if_neg (by omega)] at hq ⊢; exact h.ord hq, fun hb => ?_⟩
  · by_cases e : j = cN r
    · subst e; simp
    · simp only [if_neg e] at hj ⊢; exact h.vals j hj hj2
  · obtain ⟨j, -, h1, _⟩ := h.cv
    have k1 : ¬ r < j := fun hh => by have := (h1 r hr).2 hh; rw [hc] at this; cases this
    by_cases e : q = r
    · subst e; simp
    · rw [if_neg (fun e' => e (cN_inj q hq r hr e')), h1 q hq]
      have : r ≤ j := by
        rcases Nat.eq_zero_or_pos r with h0 | h0
        · omega
        · have := (h1 (r - 1) (by omega)).1 (hp h0); omega
      omega
  · rw [if_neg (by omega)] at hb
    obtain ⟨gx, h1, h2, h3, h4⟩ := h.box hb
    refine ⟨gx, by simp only [if_neg (show (20 : Nat) ≠ cN r by omega)]; exact h1, h2, h3, ?_⟩
    simp only [if_neg (show (21 : Nat) ≠ cN r by omega)]
    exact ho.blk h4 (by have := hcv.ne; omega)
theorem DeS.made (h : DeS val P gb gc t wr V cc vs W) (hc : cc 21 = false) : DeS val P gb gc t wr V (fun j => if j = 20 then true else cc j) (fun j => if j = 20 then .pointer (some ⟨W.heap.size, 0, none⟩) else vs j) (W.alloc (.cells zE9 42)) := by
  refine ⟨fun j hj hj2 => ?_, ?_, h.fr.alloc _, fun _ => if_pos rfl, fun _ => ?_⟩
  · have e : j ≠ 20 := by omega
    simp only [if_neg e] at hj ⊢; exact h.vals j hj hj2
  · obtain ⟨j, h9, h1, h2⟩ := h.cv
    exact ⟨j, h9, fun r hr => by rw [if_neg (by have := cN_lt r hr; omega)]; exact h1 r hr, h2.belowS ((Below.refl _ _).alloc (Nat.le_refl _) _)⟩
  · obtain ⟨j, _, _, h2⟩ := h.cv
    exact ⟨W.heap.size, by simp, h.fr.size, h2.box.lt, by simp only [if_neg (show (21 : Nat) ≠ 20 by omega), hc]; exact Blk.new _ _ _⟩
/-- Nine cells written. -/
def put9 (W : World) (g : Nat) (v0 v1 v2 v3 v4 v5 v6 v7 v8 : Value) : World := ((((((((W.setCell ⟨g, 0, none⟩ v0).setCell ⟨g, 1, none⟩ v1).setCell ⟨g, 2, none⟩ v2).setCell ⟨g, 3, none⟩ v3).setCell ⟨g, 4, none⟩ v4).setCell ⟨g, 5, none⟩ v5).setCell ⟨g, 6, none⟩ v6).setCell ⟨g, 7, none⟩ v7).setCell ⟨g, 8, none⟩ v8
theorem put9_blk {W : World} {g : Nat} {T : TypeId} (h : Blk W g T zE9) (v0 v1 v2 v3 v4 v5 v6 v7 v8 : Value) : Blk (put9 W g v0 v1 v2 v3 v4 v5 v6 v7 v8) g T #[v0, v1, v2, v3, v4, v5, v6, v7, v8] := by
  have := ((((((((h.set_ 0 v0).set_ 1 v1).set_ 2 v2).set_ 3 v3).set_ 4 v4).set_ 5 v5).set_ 6 v6).set_ 7 v7).set_ 8 v8
  simpa [put9, zE9] using this
theorem put9_cv {W : World} {gb gc k e g : Nat} {l : List UInt8} (h : Cv W gb gc l k e) (hg : gb < g) (v0 v1 v2 v3 v4 v5 v6 v7 v8 : Value) : Cv (put9 W g v0 v1 v2 v3 v4 v5 v6 v7 v8) gb gc l k e :=
  ((((((((h.set hg 0 v0).set hg 1 v1).set hg 2 v2).set hg 3 v3).set hg 4 v4).set hg 5 v5).set hg 6 v6).set hg 7 v7).set hg 8 v8
theorem put9_only {W w : World} {gc g : Nat} (h : Only gc w W) (hg : w.heap.size ≤ g) (v0 v1 v2 v3 v4 v5 v6 v7 v8 : Value) : Only gc w (put9 W g v0 v1 v2 v3 v4 v5 v6 v7 v8) :=
  ((((((((h.setCell (p := ⟨g, 0, none⟩) (.inr hg) v0).setCell (p := ⟨g, 1, none⟩) (.inr hg) v1).setCell (p := ⟨g, 2, none⟩) (.inr hg) v2).setCell (p := ⟨g, 3, none⟩) (.inr hg) v3).setCell (p := ⟨g, 4, none⟩) (.inr hg) v4).setCell (p := ⟨g, 5, none⟩) (.inr hg) v5).setCell (p := ⟨g, 6, none⟩) (.inr hg) v6).setCell (p := ⟨g, 7, none⟩) (.inr hg) v7).setCell (p := ⟨g, 8, none⟩) (.inr hg) v8
theorem DeS.put {v0 v1 v2 v3 v4 v5 v6 v7 v8 : Value} (h : DeS val P gb gc t wr #[v0, v1, v2, v3, v4, v5, v6, v7, v8] cc vs W) {gx : Nat} (hc : cc 21 = false) (h20 : cc 20 = true) (hv : vs 20 = .pointer (some ⟨gx, 0, none⟩)) (v : Value) :
    DeS val P gb gc t wr #[v0, v1, v2, v3, v4, v5, v6, v7, v8] (fun j => if j = 21 then true else cc j) (fun j => if j = 21 then v else vs j) (put9 W gx v0 v1 v2 v3 v4 v5 v6 v7 v8) := by
  obtain ⟨g, h1, h2, h3, h4⟩ := h.box h20
  rw [hv] at h1
  injection h1 with h1
  injection h1 with h1
  injection h1 with h1
  subst h1
  simp only [hc] at h4
  refine ⟨fun j hj hj2 => ?_, ?_, put9_only h.fr h2 _ _ _ _ _ _ _ _ _, fun _ => by rw [if_neg (by omega)]; exact h20, fun _ => ⟨gx, by simp [hv], h2, h3, ?_⟩⟩
  · have e : j ≠ 21 := by omega
    simp only [if_neg e] at hj ⊢; exact h.vals j hj hj2
  · obtain ⟨j, h9, k1, k2⟩ := h.cv
    exact ⟨j, h9, fun r hr => by rw [if_neg (by have := cN_lt r hr; omega)]; exact k1 r hr, put9_cv k2 h3 _ _ _ _ _ _ _ _ _⟩
  · simp only [if_true]
    exact put9_blk h4 _ _ _ _ _ _ _ _ _
theorem DeS.fin (h : DeS val P gb gc t wr V cc vs W) (hall : ∀ j, j < 22 → cc j = true) : ∃ gx, vs 20 = .pointer (some ⟨gx, 0, none⟩) ∧ wr.heap.size ≤ gx ∧ gb < gx ∧ Blk W gx 42 V ∧ Cv W gb gc t (P 9).1 (P 9).2 ∧ Only gc wr W := by
  obtain ⟨gx, h1, h2, h3, h4⟩ := h.box (hall 20 (by omega))
  rw [hall 21 (by omega), if_pos rfl] at h4
  obtain ⟨j, h9, k1, k2⟩ := h.cv
  have hj : ¬ j < 9 := fun hh => by
    have := (k1 j hh).1 (hall _ (by have := cN_lt j hh; omega))
    omega
  obtain rfl : j = 9 := by omega
  exact ⟨gx, h1, h2, h3, h4, k2, h.fr⟩
end
section
variable {Q : Exit → Act → World → Prop} {P : Program}
/-- A call of a closure without arguments that has caught one variable. -/
theorem wp_call0v {o : Oper} {b : Act} {w : World} {K : Act → World → Prop} {f : FuncId} {tv : Operand} {ts : Array TypeId} {c : Value} (ho : o.op = .call { callee := .value tv, args := #[], argTypes := ts }) (hf : b.eval tv = .func (.func f) #[] #[c])
    (hent : (callFunc f #[c]).run P w = .ok (.enter f #[c]) w)
    (h : Calls P f #[c] w fun e w'' => ∃ r, e = .returned r ∧ K (b.put o.dst r) w'') : o.wp P b w K Q := by
  refine wp_of_call ?_ h
  unfold execOp
  simp only [ho, resolve, invoke, hf, Deferred.ofValue, Array.empty_append, Array.append_empty, hent, List.map_toArray, List.map_cons, List.map_nil, Sem.run_bind, Sem.run_pure, Result.andThen_ok]
end
theorem run_al9 {o : Oper} {b : Act} (W : World) (ho : o.op = .alloc 42) : (execOp b.eval o).run Tryz.prog W = .ok (.value (.pointer (some ⟨W.heap.size, 0, none⟩))) (W.alloc (.cells zE9 42)) := by
  unfold execOp
  simp [go_sem, ho, zE9]
theorem run_cv32 {o : Oper} {b : Act} (W : World) (ho : o.op = .convert 3 40 (.tmp 53)) {n : Int} (hx : b.eval (.tmp 53) = .int .i64 n) (hw : IntKind.u32.wrap n = n) : (execOp b.eval o).run Tryz.prog W = .ok (.value (.int .u32 n)) W := by
  have e0 : b.tmps[53]?.getD undef = .int .i64 n := by simpa [Act.eval] using hx
  unfold execOp
  simp [go_sem, ho, e0, hw]
theorem run_bd9 {o : Oper} {b : Act} (W : World) (ho : o.op = .build 42 #[(0, .tmp 39), (1, .tmp 41), (2, .tmp 43), (3, .tmp 45), (4, .tmp 47), (5, .tmp 49), (6, .tmp 51), (7, .tmp 54), (8, .tmp 56)]) (a : ByteArray) (n1 : Int) (c : ByteArray) (n2 n3 n4 n5 n6 n7 : Int)
    (h0 : b.eval (.tmp 39) = .string a) (h1 : b.eval (.tmp 41) = .int .i64 n1) (h2 : b.eval (.tmp 43) = .string c) (h3 : b.eval (.tmp 45) = .int .i64 n2) (h4 : b.eval (.tmp 47) = .int .i64 n3) (h5 : b.eval (.tmp 49) = .int .i64 n4) (h6 : b.eval (.tmp 51) = .int .i64 n5) (h7 : b.eval (.tmp 54) = .int .u32 n6) (h8 : b.eval (.tmp 56) = .int .i64 n7) :
    (execOp b.eval o).run Tryz.prog W = .ok (.value (.agg #[.string a, .int .i64 n1, .string c, .int .i64 n2, .int .i64 n3, .int .i64 n4, .int .i64 n5, .int .u32 n6, .int .i64 n7])) W := by
  have e0 : b.tmps[39]?.getD undef = .string a := by simpa [Act.eval] using h0
  have e1 : b.tmps[41]?.getD undef = .int .i64 n1 := by simpa [Act.eval] using h1
  have e2 : b.tmps[43]?.getD undef = .string c := by simpa [Act.eval] using h2
  have e3 : b.tmps[45]?.getD undef = .int .i64 n2 := by simpa [Act.eval] using h3
  have e4 : b.tmps[47]?.getD undef = .int .i64 n3 := by simpa [Act.eval] using h4
  have e5 : b.tmps[49]?.getD undef = .int .i64 n4 := by simpa [Act.eval] using h5
  have e6 : b.tmps[51]?.getD undef = .int .i64 n5 := by simpa [Act.eval] using h6
  have e7 : b.tmps[54]?.getD undef = .int .u32 n6 := by simpa [Act.eval] using h7
  have e8 : b.tmps[56]?.getD undef = .int .i64 n7 := by simpa [Act.eval] using h8
  unfold execOp
  simp [go_sem, ho, e0, e1, e2, e3, e4, e5, e6, e7, e8]
theorem run_st9 {o : Oper} {b : Act} (W : World) {gx : Nat} (ho : o.op = .store 42 (.tmp 10) (.tmp 57)) (a : ByteArray) (n1 : Int) (c : ByteArray) (n2 n3 n4 n5 n6 n7 : Int) (h0 : b.eval (.tmp 10) = .pointer (some ⟨gx, 0, none⟩)) (h1 : b.eval (.tmp 57) = .agg #[.string a, .int .i64 n1, .string c, .int .i64 n2, .int .i64 n3, .int .i64 n4, .int .i64 n5, .int .u32 n6, .int .i64 n7]) (hb : Blk W gx 42 zE9) :
    (execOp b.eval o).run Tryz.prog W = .ok .skip (put9 W gx (.string a) (.int .i64 n1) (.string c) (.int .i64 n2) (.int .i64 n3) (.int .i64 n4) (.int .i64 n5) (.int .u32 n6) (.int .i64 n7)) := by
  have e0 : b.tmps[10]?.getD undef = .pointer (some ⟨gx, 0, none⟩) := by simpa [Act.eval] using h0
  have e1 : b.tmps[57]?.getD undef = .agg #[.string a, .int .i64 n1, .string c, .int .i64 n2, .int .i64 n3, .int .i64 n4, .int .i64 n5, .int .u32 n6, .int .i64 n7] := by simpa [Act.eval] using h1
  obtain ⟨z0, z1, z2, z3, z4, z5, z6, z7, z8⟩ : W.cell? ⟨gx, 0, none⟩ = some (.string ⟨#[]⟩) ∧ W.cell? ⟨gx, 1, none⟩ = some (.int .i64 0) ∧ W.cell? ⟨gx, 2, none⟩ = some (.string ⟨#[]⟩) ∧ W.cell? ⟨gx, 3, none⟩ = some (.int .i64 0) ∧ W.cell? ⟨gx, 4, none⟩ = some (.int .i64 0) ∧ W.cell? ⟨gx, 5, none⟩ = some (.int .i64 0) ∧ W.cell? ⟨gx, 6, none⟩ = some (.int .i64 0) ∧ W.cell? ⟨gx, 7, none⟩ = some (.int .u32 0) ∧ W.cell? ⟨gx, 8, none⟩ = some (.int .i64 0) := ⟨hb.cell 0, hb.cell 1, hb.cell 2, hb.cell 3, hb.cell 4, hb.cell 5, hb.cell 6, hb.cell 7, hb.cell 8⟩
  obtain ⟨f0, f1, f2, f3, f4, f5, f6, f7, f8⟩ : W.frozen? ⟨gx, 0, none⟩ = false ∧ W.frozen? ⟨gx, 1, none⟩ = false ∧ W.frozen? ⟨gx, 2, none⟩ = false ∧ W.frozen? ⟨gx, 3, none⟩ = false ∧ W.frozen? ⟨gx, 4, none⟩ = false ∧ W.frozen? ⟨gx, 5, none⟩ = false ∧ W.frozen? ⟨gx, 6, none⟩ = false ∧ W.frozen? ⟨gx, 7, none⟩ = false ∧ W.frozen? ⟨gx, 8, none⟩ = false := ⟨hb.frozen 0, hb.frozen 1, hb.frozen 2, hb.frozen 3, hb.frozen 4, hb.frozen 5, hb.frozen 6, hb.frozen 7, hb.frozen 8⟩
  unfold execOp
  simp [go_sem, ho, e0, e1, put9, z0, z1, z2, z3, z4, z5, z6, z7, z8, f0, f1, f2, f3, f4, f5, f6, f7, f8]
end Go.Proofs.YtjbmlhipjceeeaaGreat.Mf
