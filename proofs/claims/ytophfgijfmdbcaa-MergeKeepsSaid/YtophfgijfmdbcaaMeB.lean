/- The comparison of entries that Choose sorts by. -/
import Derived.Test.YtophfgijfmdbcaaProg
import Derived.Test.YtophfgijfmdbcaaMeA
import Derived.Test.YtophfgijfmdbcaaSoL
import Derived.Shelf.Abstract
namespace Go.Proofs.Ytophfgijfmdbcaa
open Go.RowKit Go.Proofs.Ytophfgijfmdbcaa.So

/-- An entry. -/
structure Ent where
  key : ByteArray
  window : Int
  part : ByteArray
  first : Int
  last : Int
  rows : Int
  size : Int
  sum : Int
  born : Int
deriving Inhabited
namespace Ent
/-- An entry's cells. -/
def c (x : Ent) : Nat → Value
  | 0 => .string x.key
  | 1 => .int .i64 x.window
  | 2 => .string x.part
  | 3 => .int .i64 x.first
  | 4 => .int .i64 x.last
  | 5 => .int .i64 x.rows
  | 6 => .int .i64 x.size
  | 7 => .int .u32 x.sum
  | _ => .int .i64 x.born
theorem one (x : Ent) (j : Nat) : (c x j).oneCell' = true := by
  unfold c
  split <;> rfl
end Ent
def cfE (x y : Ent) : Int := orI [cmpI x.window y.window, cmpS x.part y.part, cmpI x.born y.born, cmpS x.key y.key]

section
variable {P : Program} {Q : Exit → Act → World → Prop}
theorem run_fa {o : Oper} {b : Act} (W : World) (x : Operand) {t : TypeId} {k : Nat} (ho : o.op = .fieldAddr t x k) {u r : Value} (hx : b.eval x = u) (hr : ∀ W, (Instr.fieldAt t u k).run P W = .ok r W) : (execOp b.eval o).run P W = .ok (.value r) W := by
  unfold execOp
  simp only [ho, hx]
  simp [hr]
theorem run_ld {o : Oper} {b : Act} (W : World) (x : Operand) {t : TypeId} (ho : o.op = .load t x) {u r : Value} (hx : b.eval x = u) (hr : (Instr.loadAt t u).run P W = .ok r W) : (execOp b.eval o).run P W = .ok (.value r) W := by
  unfold execOp
  simp only [ho, hx]
  simp [hr]
theorem wp_call1 {o : Oper} {b : Act} {w : World} {K : Act → World → Prop} {f : FuncId} {x : Operand} {ts : Array TypeId} (ho : o.op = .call { callee := .value (.func f), args := #[x], argTypes := ts }) {u : Value} (hx : b.eval x = u)
    (hent : (callFunc f #[u]).run P w = .ok (.enter f #[u]) w)
    (h : Calls P f #[u] w fun e w'' => ∃ r, e = .returned r ∧ K (b.put o.dst r) w'') : o.wp P b w K Q := by
  refine wp_of_call ?_ h
  have hf : b.eval (.func f) = .func (.func f) #[] #[] := rfl
  unfold execOp
  simp only [ho, resolve, invoke, hx, hf, Deferred.ofValue, Array.empty_append, Array.append_empty, hent, List.map_toArray, List.map_cons, List.map_nil, Sem.run_bind, Sem.run_pure, Result.andThen_ok]
end
theorem run_bs {o : Oper} {b : Act} (W : World) (ho : o.op = .buildSlice 37 4 #[(0, .tmp 9), (1, .tmp 14), (2, .tmp 19), (3, .tmp 24)]) {z0 z1 z2 z3 : Int} (h0 : b.eval (.tmp 9) = .int .i64 z0) (h1 : b.eval (.tmp 14) = .int .i64 z1) (h2 : b.eval (.tmp 19) = .int .i64 z2) (h3 : b.eval (.tmp 24) = .int .i64 z3) :
    (execOp b.eval o).run Try.prog W = .ok (.value (.slice (some ⟨W.heap.size, 0, none⟩) 4 4)) (W.alloc (.cells #[.int .i64 z0, .int .i64 z1, .int .i64 z2, .int .i64 z3] 3)) := by
  have e0 : b.tmps[9]?.getD undef = .int .i64 z0 := by simpa [Act.eval] using h0
  have e1 : b.tmps[14]?.getD undef = .int .i64 z1 := by simpa [Act.eval] using h1
  have e2 : b.tmps[19]?.getD undef = .int .i64 z2 := by simpa [Act.eval] using h2
  have e3 : b.tmps[24]?.getD undef = .int .i64 z3 := by simpa [Act.eval] using h3
  unfold execOp
  simp [go_sem, ho, e0, e1, e2, e3]

/-- How far the comparison is. -/
structure CbS (val : Nat → Value) (cs : Array Value) (w2 : World) (cc : Nat → Bool) (vs : Nat → Value) (W : World) : Prop where
  vals : ∀ i, cc i = true → vs i = val i
  below : Below w2.heap.size w2 W
  size : cc 20 = false → W.heap.size = w2.heap.size
  blk : cc 20 = true → Blk W w2.heap.size 3 cs
theorem CbS.step {val : Nat → Value} {cs : Array Value} {w2 W : World} {cc : Nat → Bool} {vs : Nat → Value} (h : CbS val cs w2 cc vs W) (i : Nat) (hi : i ≠ 20) : CbS val cs w2 (fun j => if j = i then true else cc j) (fun j => if j = i then val i else vs j) W :=
  ⟨fun j hj => by
    by_cases e : j = i
    · subst e; simp
    · simp only [if_neg e] at hj ⊢; exact h.vals j hj, h.below, fun hq => by simp only [if_neg (Ne.symm hi)] at hq; exact h.size hq, fun hq => by simp only [if_neg (Ne.symm hi)] at hq; exact h.blk hq⟩
theorem CbS.made {val : Nat → Value} {cs : Array Value} {w2 W : World} {cc : Nat → Bool} {vs : Nat → Value} (h : CbS val cs w2 cc vs W) (q : W.heap.size = w2.heap.size) : CbS val cs w2 (fun j => if j = 20 then true else cc j) (fun j => if j = 20 then val 20 else vs j) (W.alloc (.cells cs 3)) :=
  ⟨fun j hj => by
    by_cases e : j = 20
    · subst e; simp
    · simp only [if_neg e] at hj ⊢; exact h.vals j hj, h.below.alloc (by omega) _, fun hq => by simp at hq, fun _ => by rw [← q]; exact Blk.new _ _ _⟩

set_option maxRecDepth 100000 in
set_option maxHeartbeats 3200000 in
theorem cmpE_calls : CmpE Ent.c 31 cfE := by
  intro w x y
  have hentI : ∀ args W, (callFunc 33 args).run Try.prog W = .ok (.enter 33 args) W := enters_of Try.func33 (by kernel_rfl) rfl
  have hentS : ∀ args W, (callFunc 34 args).run Try.prog W = .ok (.enter 34 args) W := enters_of Try.func34 (by kernel_rfl) rfl
  have hentO : ∀ args W, (callFunc 32 args).run Try.prog W = .ok (.enter 32 args) W := enters_of Try.func32 (by kernel_rfl) rfl
  show Calls Try.prog 31 #[.agg #[.string x.key, .int .i64 x.window, .string x.part, .int .i64 x.first, .int .i64 x.last, .int .i64 x.rows, .int .i64 x.size, .int .u32 x.sum, .int .i64 x.born], .agg #[.string y.key, .int .i64 y.window, .string y.part, .int .i64 y.first, .int .i64 y.last, .int .i64 y.rows, .int .i64 y.size, .int .u32 y.sum, .int .i64 y.born]] w _
  go_enter Try.func31, Try.ntmps31
  go_wp2_with fail
  have hbkx := (Blk.new w 29 #[.string x.key, .int .i64 x.window, .string x.part, .int .i64 x.first, .int .i64 x.last, .int .i64 x.rows, .int .i64 x.size, .int .u32 x.sum, .int .i64 x.born]).alloc (.cells #[.string y.key, .int .i64 y.window, .string y.part, .int .i64 y.first, .int .i64 y.last, .int .i64 y.rows, .int .i64 y.size, .int .u32 y.sum, .int .i64 y.born] 29)
  have hbky := Blk.new (w.alloc (.cells #[.string x.key, .int .i64 x.window, .string x.part, .int .i64 x.first, .int .i64 x.last, .int .i64 x.rows, .int .i64 x.size, .int .u32 x.sum, .int .i64 x.born] 29)) 29 #[.string y.key, .int .i64 y.window, .string y.part, .int .i64 y.first, .int .i64 y.last, .int .i64 y.rows, .int .i64 y.size, .int .u32 y.sum, .int .i64 y.born]
  have hbel := ((Below.refl w.heap.size w).alloc (Nat.le_refl _) (.cells #[.string x.key, .int .i64 x.window, .string x.part, .int .i64 x.first, .int .i64 x.last, .int .i64 x.rows, .int .i64 x.size, .int .u32 x.sum, .int .i64 x.born] 29)).alloc (by simp) (.cells #[.string y.key, .int .i64 y.window, .string y.part, .int .i64 y.first, .int .i64 y.last, .int .i64 y.rows, .int .i64 y.size, .int .u32 y.sum, .int .i64 y.born] 29)
  have es : (w.alloc (.cells #[.string x.key, .int .i64 x.window, .string x.part, .int .i64 x.first, .int .i64 x.last, .int .i64 x.rows, .int .i64 x.size, .int .u32 x.sum, .int .i64 x.born] 29)).heap.size = w.heap.size + 1 := by simp
  rw [es] at hbky
  have HB := Lib.hid hbel
  obtain ⟨g1, hg1⟩ : ∃ g1, g1 = w.heap.size := ⟨_, rfl⟩
  obtain ⟨g2, hg2⟩ : ∃ g2, g2 = w.heap.size + 1 := ⟨_, rfl⟩
  rw [← hg1] at hbkx
  rw [← hg2] at hbky
  have hbs := hbel.size
  try rw [es]
  clear es hbel
  generalize (w.alloc (.cells #[.string x.key, .int .i64 x.window, .string x.part, .int .i64 x.first, .int .i64 x.last, .int .i64 x.rows, .int .i64 x.size, .int .u32 x.sum, .int .i64 x.born] 29)).alloc (.cells #[.string y.key, .int .i64 y.window, .string y.part, .int .i64 y.first, .int .i64 y.last, .int .i64 y.rows, .int .i64 y.size, .int .u32 y.sum, .int .i64 y.born] 29) = w2 at *
  rw [← hg2, ← hg1]
  have HG := Lib.hid hg1
  clear hg1 hg2
  refine wp_region_steps (by kernel_rfl) (by kernel_rfl) (CbS (fun i => (#[.pointer (some ⟨g1, 1, none⟩), .int .i64 x.window, .pointer (some ⟨g2, 1, none⟩), .int .i64 y.window, .int .i64 (cmpI x.window y.window), .pointer (some ⟨g1, 2, none⟩), .string x.part, .pointer (some ⟨g2, 2, none⟩), .string y.part, .int .i64 (cmpS x.part y.part), .pointer (some ⟨g1, 8, none⟩), .int .i64 x.born, .pointer (some ⟨g2, 8, none⟩), .int .i64 y.born, .int .i64 (cmpI x.born y.born), .pointer (some ⟨g1, 0, none⟩), .string x.key, .pointer (some ⟨g2, 0, none⟩), .string y.key, .int .i64 (cmpS x.key y.key), .slice (some ⟨w2.heap.size, 0, none⟩) 4 4, .int .i64 (cfE x y), .int .i64 (cfE x y)] : Array Value).getD i undef) #[.int .i64 (cmpI x.window y.window), .int .i64 (cmpS x.part y.part), .int .i64 (cmpI x.born y.born), .int .i64 (cmpS x.key y.key)] w2) ⟨fun i hi => (by cases hi), below_drewN_ (Below.refl _ _) 1, fun _ => rfl, fun h => (by cases h)⟩ ?_ [some 5, some 6, some 7, some 8, some 9, some 10, some 11, some 12, some 13, some 14, some 15, some 16, some 17, some 18, some 19, some 20, some 21, some 22, some 23, some 24, some 25, some 26, some 4] (by kernel_rfl) ?_
  · intro i o ho cc vs W b hS hci hbd hev hout
    rcases i with _ | _ | _ | _ | _ | _ | _ | _ | _ | _ | _ | _ | _ | _ | _ | _ | _ | _ | _ | _ | _ | _ | _ | i
    · cases ho
      have e := (hout 2 (by kernel_rfl)).trans (rfl : _ = Value.pointer (some ⟨g1, 0, none⟩))
      exact wp_of_run _ (run_fa W (.tmp 2) rfl e (fun W => by simp [go_sem])) ⟨_, rfl, hS.step 0 (by omega)⟩
    · cases ho
      have yc := (hbkx.below hS.below hbkx.lt).cell 1
      exact wp_of_run _ (run_ld W (.tmp 5) rfl ((hev 0 5 (hbd 0 (by kernel_rfl)) rfl).trans (hS.vals 0 (hbd 0 (by kernel_rfl)))) (by simp [go_sem, yc])) ⟨_, rfl, hS.step 1 (by omega)⟩
    · cases ho
      have e := (hout 3 (by kernel_rfl)).trans (rfl : _ = Value.pointer (some ⟨g2, 0, none⟩))
      exact wp_of_run _ (run_fa W (.tmp 3) rfl e (fun W => by simp [go_sem])) ⟨_, rfl, hS.step 2 (by omega)⟩
    · cases ho
      have yc := (hbky.below hS.below hbky.lt).cell 1
      exact wp_of_run _ (run_ld W (.tmp 7) rfl ((hev 2 7 (hbd 2 (by kernel_rfl)) rfl).trans (hS.vals 2 (hbd 2 (by kernel_rfl)))) (by simp [go_sem, yc])) ⟨_, rfl, hS.step 3 (by omega)⟩
    · cases ho
      refine wp_call2 (x := .tmp 6) (y := .tmp 8) rfl ((hev 1 6 (hbd 1 (by kernel_rfl)) rfl).trans (hS.vals 1 (hbd 1 (by kernel_rfl)))) ((hev 3 8 (hbd 3 (by kernel_rfl)) rfl).trans (hS.vals 3 (hbd 3 (by kernel_rfl)))) (hentI _ _) ((cmpI_calls _ _ W).mono ?_)
      rintro e w' ⟨rfl, rfl⟩
      exact ⟨_, rfl, _, rfl, hS.step 4 (by omega)⟩
    · cases ho
      have e := (hout 2 (by kernel_rfl)).trans (rfl : _ = Value.pointer (some ⟨g1, 0, none⟩))
      exact wp_of_run _ (run_fa W (.tmp 2) rfl e (fun W => by simp [go_sem])) ⟨_, rfl, hS.step 5 (by omega)⟩
    · cases ho
      have yc := (hbkx.below hS.below hbkx.lt).cell 2
      exact wp_of_run _ (run_ld W (.tmp 10) rfl ((hev 5 10 (hbd 5 (by kernel_rfl)) rfl).trans (hS.vals 5 (hbd 5 (by kernel_rfl)))) (by simp [go_sem, yc])) ⟨_, rfl, hS.step 6 (by omega)⟩
    · cases ho
      have e := (hout 3 (by kernel_rfl)).trans (rfl : _ = Value.pointer (some ⟨g2, 0, none⟩))
      exact wp_of_run _ (run_fa W (.tmp 3) rfl e (fun W => by simp [go_sem])) ⟨_, rfl, hS.step 7 (by omega)⟩
    · cases ho
      have yc := (hbky.below hS.below hbky.lt).cell 2
      exact wp_of_run _ (run_ld W (.tmp 12) rfl ((hev 7 12 (hbd 7 (by kernel_rfl)) rfl).trans (hS.vals 7 (hbd 7 (by kernel_rfl)))) (by simp [go_sem, yc])) ⟨_, rfl, hS.step 8 (by omega)⟩
    · cases ho
      refine wp_call2 (x := .tmp 11) (y := .tmp 13) rfl ((hev 6 11 (hbd 6 (by kernel_rfl)) rfl).trans (hS.vals 6 (hbd 6 (by kernel_rfl)))) ((hev 8 13 (hbd 8 (by kernel_rfl)) rfl).trans (hS.vals 8 (hbd 8 (by kernel_rfl)))) (hentS _ _) ((cmpS_calls _ _ W).mono ?_)
      rintro e w' ⟨rfl, rfl⟩
      exact ⟨_, rfl, _, rfl, hS.step 9 (by omega)⟩
    · cases ho
      have e := (hout 2 (by kernel_rfl)).trans (rfl : _ = Value.pointer (some ⟨g1, 0, none⟩))
      exact wp_of_run _ (run_fa W (.tmp 2) rfl e (fun W => by simp [go_sem])) ⟨_, rfl, hS.step 10 (by omega)⟩
    · cases ho
      have yc := (hbkx.below hS.below hbkx.lt).cell 8
      exact wp_of_run _ (run_ld W (.tmp 15) rfl ((hev 10 15 (hbd 10 (by kernel_rfl)) rfl).trans (hS.vals 10 (hbd 10 (by kernel_rfl)))) (by simp [go_sem, yc])) ⟨_, rfl, hS.step 11 (by omega)⟩
    · cases ho
      have e := (hout 3 (by kernel_rfl)).trans (rfl : _ = Value.pointer (some ⟨g2, 0, none⟩))
      exact wp_of_run _ (run_fa W (.tmp 3) rfl e (fun W => by simp [go_sem])) ⟨_, rfl, hS.step 12 (by omega)⟩
    · cases ho
      have yc := (hbky.below hS.below hbky.lt).cell 8
      exact wp_of_run _ (run_ld W (.tmp 17) rfl ((hev 12 17 (hbd 12 (by kernel_rfl)) rfl).trans (hS.vals 12 (hbd 12 (by kernel_rfl)))) (by simp [go_sem, yc])) ⟨_, rfl, hS.step 13 (by omega)⟩
    · cases ho
      refine wp_call2 (x := .tmp 16) (y := .tmp 18) rfl ((hev 11 16 (hbd 11 (by kernel_rfl)) rfl).trans (hS.vals 11 (hbd 11 (by kernel_rfl)))) ((hev 13 18 (hbd 13 (by kernel_rfl)) rfl).trans (hS.vals 13 (hbd 13 (by kernel_rfl)))) (hentI _ _) ((cmpI_calls _ _ W).mono ?_)
      rintro e w' ⟨rfl, rfl⟩
      exact ⟨_, rfl, _, rfl, hS.step 14 (by omega)⟩
    · cases ho
      have e := (hout 2 (by kernel_rfl)).trans (rfl : _ = Value.pointer (some ⟨g1, 0, none⟩))
      exact wp_of_run _ (run_fa W (.tmp 2) rfl e (fun W => by simp [go_sem])) ⟨_, rfl, hS.step 15 (by omega)⟩
    · cases ho
      have yc := (hbkx.below hS.below hbkx.lt).cell 0
      exact wp_of_run _ (run_ld W (.tmp 20) rfl ((hev 15 20 (hbd 15 (by kernel_rfl)) rfl).trans (hS.vals 15 (hbd 15 (by kernel_rfl)))) (by simp [go_sem, yc])) ⟨_, rfl, hS.step 16 (by omega)⟩
    · cases ho
      have e := (hout 3 (by kernel_rfl)).trans (rfl : _ = Value.pointer (some ⟨g2, 0, none⟩))
      exact wp_of_run _ (run_fa W (.tmp 3) rfl e (fun W => by simp [go_sem])) ⟨_, rfl, hS.step 17 (by omega)⟩
    · cases ho
      have yc := (hbky.below hS.below hbky.lt).cell 0
      exact wp_of_run _ (run_ld W (.tmp 22) rfl ((hev 17 22 (hbd 17 (by kernel_rfl)) rfl).trans (hS.vals 17 (hbd 17 (by kernel_rfl)))) (by simp [go_sem, yc])) ⟨_, rfl, hS.step 18 (by omega)⟩
    · cases ho
      refine wp_call2 (x := .tmp 21) (y := .tmp 23) rfl ((hev 16 21 (hbd 16 (by kernel_rfl)) rfl).trans (hS.vals 16 (hbd 16 (by kernel_rfl)))) ((hev 18 23 (hbd 18 (by kernel_rfl)) rfl).trans (hS.vals 18 (hbd 18 (by kernel_rfl)))) (hentS _ _) ((cmpS_calls _ _ W).mono ?_)
      rintro e w' ⟨rfl, rfl⟩
      exact ⟨_, rfl, _, rfl, hS.step 19 (by omega)⟩
    · cases ho
      have q := hS.size hci
      refine wp_of_run (.slice (some ⟨W.heap.size, 0, none⟩) 4 4) (w' := W.alloc (.cells #[.int .i64 (cmpI x.window y.window), .int .i64 (cmpS x.part y.part), .int .i64 (cmpI x.born y.born), .int .i64 (cmpS x.key y.key)] 3)) ?_ ?_
      · exact run_bs W rfl ((hev 4 9 (hbd 4 (by kernel_rfl)) rfl).trans (hS.vals 4 (hbd 4 (by kernel_rfl)))) ((hev 9 14 (hbd 9 (by kernel_rfl)) rfl).trans (hS.vals 9 (hbd 9 (by kernel_rfl)))) ((hev 14 19 (hbd 14 (by kernel_rfl)) rfl).trans (hS.vals 14 (hbd 14 (by kernel_rfl)))) ((hev 19 24 (hbd 19 (by kernel_rfl)) rfl).trans (hS.vals 19 (hbd 19 (by kernel_rfl))))
      · rw [q]
        exact ⟨_, rfl, hS.made q⟩
    · cases ho
      have hb := hS.blk (hbd 20 (by kernel_rfl))
      refine wp_call1 (x := .tmp 25) rfl ((hev 20 25 (hbd 20 (by kernel_rfl)) rfl).trans (hS.vals 20 (hbd 20 (by kernel_rfl)))) (hentO _ _) ((orI_calls W (B := W.heap.size) [cmpI x.window y.window, cmpS x.part y.part, cmpI x.born y.born, cmpS x.key y.key] ⟨rfl, fun _ => ⟨w2.heap.size, 0, rfl, hb.lt, fun j u hu => by rw [Nat.zero_add, hb.cell j, ← hu]; simp⟩⟩ (by simp)).mono ?_)
      rintro e w' ⟨rfl, rfl⟩
      exact ⟨_, rfl, _, rfl, hS.step 21 (by omega)⟩
    · cases ho
      exact wp_assign (.tmp 26) rfl ((hev 21 26 (hbd 21 (by kernel_rfl)) rfl).trans (hS.vals 21 (hbd 21 (by kernel_rfl)))) ⟨_, rfl, hS.step 22 (by omega)⟩
    · cases ho
  · intro cc vs W hS hall
    have e22 : vs 22 = .int .i64 (cfE x y) := hS.vals 22 (hall 22 (by decide))
    have hbe := HB.out.trans (hS.below.mono hbs)
    simp only [putL, e22, Exit.then, Act.put, List.setIfInBounds_toArray, List.set_cons_zero, List.set_cons_succ]
    clear e22 hall hS
    go_wp2
    go_ret
    exact ⟨rfl, hbe⟩
end Go.Proofs.Ytophfgijfmdbcaa
