/- The comparison of rows: record.Compare and the reference's. -/
import Derived.Test.YtennddlihcamnaaProg
import Derived.Test.YtennddlihcamnaaRwA
import Derived.Test.YtennddlihcamnaaOpr
import Derived.Test.YtennddlihcamnaaMeA
import Derived.Shelf.Abstract
namespace Go.Proofs.Ytennddlihcamnaa
set_option linter.unusedVariables false
set_option linter.unusedSimpArgs false
open Go.RowKit Go.Proofs.Ytennddlihcamnaa.So Go.Proofs.Ytennddlihcamnaa.Opr

def cfR (x y : Rw) : Int := orI [cmpI x.time y.time, cmpI x.maker y.maker, cmpI x.seq y.seq, cmpI x.place y.place]

theorem run_bsR {o : Oper} {b : Act} (W : World) (ho : o.op = .buildSlice 81 4 #[(0, .tmp 11), (1, .tmp 16), (2, .tmp 21), (3, .tmp 26)]) {z0 z1 z2 z3 : Int} (h0 : b.eval (.tmp 11) = .int .i64 z0) (h1 : b.eval (.tmp 16) = .int .i64 z1) (h2 : b.eval (.tmp 21) = .int .i64 z2) (h3 : b.eval (.tmp 26) = .int .i64 z3) :
    (execOp b.eval o).run Try.prog W = .ok (.value (.slice (some ⟨W.heap.size, 0, none⟩) 4 4)) (W.alloc (.cells #[.int .i64 z0, .int .i64 z1, .int .i64 z2, .int .i64 z3] 3)) := by
  have e0 : b.tmps[11]?.getD undef = .int .i64 z0 := by simpa [Act.eval] using h0
  have e1 : b.tmps[16]?.getD undef = .int .i64 z1 := by simpa [Act.eval] using h1
  have e2 : b.tmps[21]?.getD undef = .int .i64 z2 := by simpa [Act.eval] using h2
  have e3 : b.tmps[26]?.getD undef = .int .i64 z3 := by simpa [Act.eval] using h3
  unfold execOp
  simp [go_sem, ho, e0, e1, e2, e3]

/-- How far the comparison is. -/
structure CrS (val : Nat → Value) (cs : Array Value) (w2 : World) (cc : Nat → Bool) (vs : Nat → Value) (W : World) : Prop where
  vals : ∀ i, cc i = true → vs i = val i
  below : Below w2.heap.size w2 W
  size : cc 22 = false → W.heap.size = w2.heap.size
  blk : cc 22 = true → Blk W w2.heap.size 3 cs
theorem CrS.step {val : Nat → Value} {cs : Array Value} {w2 W : World} {cc : Nat → Bool} {vs : Nat → Value} (h : CrS val cs w2 cc vs W) (i : Nat) (hi : i ≠ 22) : CrS val cs w2 (fun j => if j = i then true else cc j) (fun j => if j = i then val i else vs j) W :=
  ⟨fun j hj => by
    by_cases e : j = i
    · subst e; simp
    · simp only [if_neg e] at hj ⊢; exact h.vals j hj, h.below, fun hq => by simp only [if_neg (Ne.symm hi)] at hq; exact h.size hq, fun hq => by simp only [if_neg (Ne.symm hi)] at hq; exact h.blk hq⟩
theorem CrS.made {val : Nat → Value} {cs : Array Value} {w2 W : World} {cc : Nat → Bool} {vs : Nat → Value} (h : CrS val cs w2 cc vs W) (q : W.heap.size = w2.heap.size) : CrS val cs w2 (fun j => if j = 22 then true else cc j) (fun j => if j = 22 then val 22 else vs j) (W.alloc (.cells cs 3)) :=
  ⟨fun j hj => by
    by_cases e : j = 22
    · subst e; simp
    · simp only [if_neg e] at hj ⊢; exact h.vals j hj, h.below.alloc (by omega) _, fun hq => by simp at hq, fun _ => by rw [← q]; exact Blk.new _ _ _⟩

set_option maxRecDepth 100000 in
set_option maxHeartbeats 3200000 in
theorem cmpRw_calls (w : World) (x y : Rw) : Calls Try.prog 20 #[rwA x, rwA y] w fun e w' => e = .returned (.int .i64 (cfR x y)) ∧ Below w.heap.size w w' := by
  have hentI : ∀ args W, (callFunc 39 args).run Try.prog W = .ok (.enter 39 args) W := enters_of Try.func39 (by kernel_rfl) rfl
  have hentO : ∀ args W, (callFunc 38 args).run Try.prog W = .ok (.enter 38 args) W := enters_of Try.func38 (by kernel_rfl) rfl
  unfold rwA
  go_enter Try.func20, Try.ntmps20
  go_wp2_with fail
  have hbkx := (Blk.new w 37 #[.int .i64 x.kind, .int .i64 x.time, .slice x.A x.labs.length x.cp, .string x.text, .int .i64 x.value, .bool x.null, .int .i64 x.maker, .int .i64 x.seq, .int .i64 x.place]).alloc (.cells #[.int .i64 y.kind, .int .i64 y.time, .slice y.A y.labs.length y.cp, .string y.text, .int .i64 y.value, .bool y.null, .int .i64 y.maker, .int .i64 y.seq, .int .i64 y.place] 37)
  have hbky := Blk.new (w.alloc (.cells #[.int .i64 x.kind, .int .i64 x.time, .slice x.A x.labs.length x.cp, .string x.text, .int .i64 x.value, .bool x.null, .int .i64 x.maker, .int .i64 x.seq, .int .i64 x.place] 37)) 37 #[.int .i64 y.kind, .int .i64 y.time, .slice y.A y.labs.length y.cp, .string y.text, .int .i64 y.value, .bool y.null, .int .i64 y.maker, .int .i64 y.seq, .int .i64 y.place]
  have hbel := ((Below.refl w.heap.size w).alloc (Nat.le_refl _) (.cells #[.int .i64 x.kind, .int .i64 x.time, .slice x.A x.labs.length x.cp, .string x.text, .int .i64 x.value, .bool x.null, .int .i64 x.maker, .int .i64 x.seq, .int .i64 x.place] 37)).alloc (by simp) (.cells #[.int .i64 y.kind, .int .i64 y.time, .slice y.A y.labs.length y.cp, .string y.text, .int .i64 y.value, .bool y.null, .int .i64 y.maker, .int .i64 y.seq, .int .i64 y.place] 37)
  have es : (w.alloc (.cells #[.int .i64 x.kind, .int .i64 x.time, .slice x.A x.labs.length x.cp, .string x.text, .int .i64 x.value, .bool x.null, .int .i64 x.maker, .int .i64 x.seq, .int .i64 x.place] 37)).heap.size = w.heap.size + 1 := by simp
  rw [es] at hbky
  have HB := Lib.hid hbel
  obtain ⟨g1, hg1⟩ : ∃ g1, g1 = w.heap.size := ⟨_, rfl⟩
  obtain ⟨g2, hg2⟩ : ∃ g2, g2 = w.heap.size + 1 := ⟨_, rfl⟩
  rw [← hg1] at hbkx
  rw [← hg2] at hbky
  have hbs := hbel.size
  try rw [es]
  clear es hbel
  generalize (w.alloc (.cells #[.int .i64 x.kind, .int .i64 x.time, .slice x.A x.labs.length x.cp, .string x.text, .int .i64 x.value, .bool x.null, .int .i64 x.maker, .int .i64 x.seq, .int .i64 x.place] 37)).alloc (.cells #[.int .i64 y.kind, .int .i64 y.time, .slice y.A y.labs.length y.cp, .string y.text, .int .i64 y.value, .bool y.null, .int .i64 y.maker, .int .i64 y.seq, .int .i64 y.place] 37) = w2 at *
  rw [← hg2, ← hg1]
  have HG := Lib.hid hg1
  clear hg1 hg2
  refine wp_region_steps (by kernel_rfl) (by kernel_rfl) (CrS (fun i => (#[.pointer (some ⟨g1, 0, none⟩), .pointer (some ⟨g1, 1, none⟩), .int .i64 x.time, .pointer (some ⟨g2, 0, none⟩), .pointer (some ⟨g2, 1, none⟩), .int .i64 y.time, .int .i64 (cmpI x.time y.time), .pointer (some ⟨g1, 6, none⟩), .int .i64 x.maker, .pointer (some ⟨g2, 6, none⟩), .int .i64 y.maker, .int .i64 (cmpI x.maker y.maker), .pointer (some ⟨g1, 7, none⟩), .int .i64 x.seq, .pointer (some ⟨g2, 7, none⟩), .int .i64 y.seq, .int .i64 (cmpI x.seq y.seq), .pointer (some ⟨g1, 8, none⟩), .int .i64 x.place, .pointer (some ⟨g2, 8, none⟩), .int .i64 y.place, .int .i64 (cmpI x.place y.place), .slice (some ⟨w2.heap.size, 0, none⟩) 4 4, .int .i64 (cfR x y), .int .i64 (cfR x y)] : Array Value).getD i undef) #[.int .i64 (cmpI x.time y.time), .int .i64 (cmpI x.maker y.maker), .int .i64 (cmpI x.seq y.seq), .int .i64 (cmpI x.place y.place)] w2) ⟨fun i hi => (by cases hi), below_drewN_ (Below.refl _ _) 1, fun _ => rfl, fun h => (by cases h)⟩ ?_ [some 5, some 6, some 7, some 8, some 9, some 10, some 11, some 12, some 13, some 14, some 15, some 16, some 17, some 18, some 19, some 20, some 21, some 22, some 23, some 24, some 25, some 26, some 27, some 28, some 4] (by kernel_rfl) ?_
  · intro i o ho cc vs W b hS hci hbd hev hout
    rcases i with _ | _ | _ | _ | _ | _ | _ | _ | _ | _ | _ | _ | _ | _ | _ | _ | _ | _ | _ | _ | _ | _ | _ | _ | _ | i
    · cases ho
      have e := (hout 2 (by kernel_rfl)).trans (rfl : _ = Value.pointer (some ⟨g1, 0, none⟩))
      exact wp_of_run _ (run_fa W (.tmp 2) rfl e (fun W => by simp [go_sem])) ⟨_, rfl, hS.step 0 (by omega)⟩
    · cases ho
      exact wp_of_run _ (run_fa W (.tmp 5) rfl ((hev 0 5 (hbd 0 (by kernel_rfl)) rfl).trans (hS.vals 0 (hbd 0 (by kernel_rfl)))) (fun W => by simp [go_sem])) ⟨_, rfl, hS.step 1 (by omega)⟩
    · cases ho
      have yc := (hbkx.below hS.below hbkx.lt).cell 1
      exact wp_of_run _ (run_ld W (.tmp 6) rfl ((hev 1 6 (hbd 1 (by kernel_rfl)) rfl).trans (hS.vals 1 (hbd 1 (by kernel_rfl)))) (by simp [go_sem, yc])) ⟨_, rfl, hS.step 2 (by omega)⟩
    · cases ho
      have e := (hout 3 (by kernel_rfl)).trans (rfl : _ = Value.pointer (some ⟨g2, 0, none⟩))
      exact wp_of_run _ (run_fa W (.tmp 3) rfl e (fun W => by simp [go_sem])) ⟨_, rfl, hS.step 3 (by omega)⟩
    · cases ho
      exact wp_of_run _ (run_fa W (.tmp 8) rfl ((hev 3 8 (hbd 3 (by kernel_rfl)) rfl).trans (hS.vals 3 (hbd 3 (by kernel_rfl)))) (fun W => by simp [go_sem])) ⟨_, rfl, hS.step 4 (by omega)⟩
    · cases ho
      have yc := (hbky.below hS.below hbky.lt).cell 1
      exact wp_of_run _ (run_ld W (.tmp 9) rfl ((hev 4 9 (hbd 4 (by kernel_rfl)) rfl).trans (hS.vals 4 (hbd 4 (by kernel_rfl)))) (by simp [go_sem, yc])) ⟨_, rfl, hS.step 5 (by omega)⟩
    · cases ho
      refine wp_call2 (x := .tmp 7) (y := .tmp 10) rfl ((hev 2 7 (hbd 2 (by kernel_rfl)) rfl).trans (hS.vals 2 (hbd 2 (by kernel_rfl)))) ((hev 5 10 (hbd 5 (by kernel_rfl)) rfl).trans (hS.vals 5 (hbd 5 (by kernel_rfl)))) (hentI _ _) ((cmpI_calls _ _ W).mono ?_)
      rintro e w' ⟨rfl, rfl⟩
      exact ⟨_, rfl, _, rfl, hS.step 6 (by omega)⟩
    · cases ho
      have e := (hout 2 (by kernel_rfl)).trans (rfl : _ = Value.pointer (some ⟨g1, 0, none⟩))
      exact wp_of_run _ (run_fa W (.tmp 2) rfl e (fun W => by simp [go_sem])) ⟨_, rfl, hS.step 7 (by omega)⟩
    · cases ho
      have yc := (hbkx.below hS.below hbkx.lt).cell 6
      exact wp_of_run _ (run_ld W (.tmp 12) rfl ((hev 7 12 (hbd 7 (by kernel_rfl)) rfl).trans (hS.vals 7 (hbd 7 (by kernel_rfl)))) (by simp [go_sem, yc])) ⟨_, rfl, hS.step 8 (by omega)⟩
    · cases ho
      have e := (hout 3 (by kernel_rfl)).trans (rfl : _ = Value.pointer (some ⟨g2, 0, none⟩))
      exact wp_of_run _ (run_fa W (.tmp 3) rfl e (fun W => by simp [go_sem])) ⟨_, rfl, hS.step 9 (by omega)⟩
    · cases ho
      have yc := (hbky.below hS.below hbky.lt).cell 6
      exact wp_of_run _ (run_ld W (.tmp 14) rfl ((hev 9 14 (hbd 9 (by kernel_rfl)) rfl).trans (hS.vals 9 (hbd 9 (by kernel_rfl)))) (by simp [go_sem, yc])) ⟨_, rfl, hS.step 10 (by omega)⟩
    · cases ho
      refine wp_call2 (x := .tmp 13) (y := .tmp 15) rfl ((hev 8 13 (hbd 8 (by kernel_rfl)) rfl).trans (hS.vals 8 (hbd 8 (by kernel_rfl)))) ((hev 10 15 (hbd 10 (by kernel_rfl)) rfl).trans (hS.vals 10 (hbd 10 (by kernel_rfl)))) (hentI _ _) ((cmpI_calls _ _ W).mono ?_)
      rintro e w' ⟨rfl, rfl⟩
      exact ⟨_, rfl, _, rfl, hS.step 11 (by omega)⟩
    · cases ho
      have e := (hout 2 (by kernel_rfl)).trans (rfl : _ = Value.pointer (some ⟨g1, 0, none⟩))
      exact wp_of_run _ (run_fa W (.tmp 2) rfl e (fun W => by simp [go_sem])) ⟨_, rfl, hS.step 12 (by omega)⟩
    · cases ho
      have yc := (hbkx.below hS.below hbkx.lt).cell 7
      exact wp_of_run _ (run_ld W (.tmp 17) rfl ((hev 12 17 (hbd 12 (by kernel_rfl)) rfl).trans (hS.vals 12 (hbd 12 (by kernel_rfl)))) (by simp [go_sem, yc])) ⟨_, rfl, hS.step 13 (by omega)⟩
    · cases ho
      have e := (hout 3 (by kernel_rfl)).trans (rfl : _ = Value.pointer (some ⟨g2, 0, none⟩))
      exact wp_of_run _ (run_fa W (.tmp 3) rfl e (fun W => by simp [go_sem])) ⟨_, rfl, hS.step 14 (by omega)⟩
    · cases ho
      have yc := (hbky.below hS.below hbky.lt).cell 7
      exact wp_of_run _ (run_ld W (.tmp 19) rfl ((hev 14 19 (hbd 14 (by kernel_rfl)) rfl).trans (hS.vals 14 (hbd 14 (by kernel_rfl)))) (by simp [go_sem, yc])) ⟨_, rfl, hS.step 15 (by omega)⟩
    · cases ho
      refine wp_call2 (x := .tmp 18) (y := .tmp 20) rfl ((hev 13 18 (hbd 13 (by kernel_rfl)) rfl).trans (hS.vals 13 (hbd 13 (by kernel_rfl)))) ((hev 15 20 (hbd 15 (by kernel_rfl)) rfl).trans (hS.vals 15 (hbd 15 (by kernel_rfl)))) (hentI _ _) ((cmpI_calls _ _ W).mono ?_)
      rintro e w' ⟨rfl, rfl⟩
      exact ⟨_, rfl, _, rfl, hS.step 16 (by omega)⟩
    · cases ho
      have e := (hout 2 (by kernel_rfl)).trans (rfl : _ = Value.pointer (some ⟨g1, 0, none⟩))
      exact wp_of_run _ (run_fa W (.tmp 2) rfl e (fun W => by simp [go_sem])) ⟨_, rfl, hS.step 17 (by omega)⟩
    · cases ho
      have yc := (hbkx.below hS.below hbkx.lt).cell 8
      exact wp_of_run _ (run_ld W (.tmp 22) rfl ((hev 17 22 (hbd 17 (by kernel_rfl)) rfl).trans (hS.vals 17 (hbd 17 (by kernel_rfl)))) (by simp [go_sem, yc])) ⟨_, rfl, hS.step 18 (by omega)⟩
    · cases ho
      have e := (hout 3 (by kernel_rfl)).trans (rfl : _ = Value.pointer (some ⟨g2, 0, none⟩))
      exact wp_of_run _ (run_fa W (.tmp 3) rfl e (fun W => by simp [go_sem])) ⟨_, rfl, hS.step 19 (by omega)⟩
    · cases ho
      have yc := (hbky.below hS.below hbky.lt).cell 8
      exact wp_of_run _ (run_ld W (.tmp 24) rfl ((hev 19 24 (hbd 19 (by kernel_rfl)) rfl).trans (hS.vals 19 (hbd 19 (by kernel_rfl)))) (by simp [go_sem, yc])) ⟨_, rfl, hS.step 20 (by omega)⟩
    · cases ho
      refine wp_call2 (x := .tmp 23) (y := .tmp 25) rfl ((hev 18 23 (hbd 18 (by kernel_rfl)) rfl).trans (hS.vals 18 (hbd 18 (by kernel_rfl)))) ((hev 20 25 (hbd 20 (by kernel_rfl)) rfl).trans (hS.vals 20 (hbd 20 (by kernel_rfl)))) (hentI _ _) ((cmpI_calls _ _ W).mono ?_)
      rintro e w' ⟨rfl, rfl⟩
      exact ⟨_, rfl, _, rfl, hS.step 21 (by omega)⟩
    · cases ho
      have q := hS.size hci
      refine wp_of_run (.slice (some ⟨W.heap.size, 0, none⟩) 4 4) (w' := W.alloc (.cells #[.int .i64 (cmpI x.time y.time), .int .i64 (cmpI x.maker y.maker), .int .i64 (cmpI x.seq y.seq), .int .i64 (cmpI x.place y.place)] 3)) ?_ ?_
      · exact run_bsR W rfl ((hev 6 11 (hbd 6 (by kernel_rfl)) rfl).trans (hS.vals 6 (hbd 6 (by kernel_rfl)))) ((hev 11 16 (hbd 11 (by kernel_rfl)) rfl).trans (hS.vals 11 (hbd 11 (by kernel_rfl)))) ((hev 16 21 (hbd 16 (by kernel_rfl)) rfl).trans (hS.vals 16 (hbd 16 (by kernel_rfl)))) ((hev 21 26 (hbd 21 (by kernel_rfl)) rfl).trans (hS.vals 21 (hbd 21 (by kernel_rfl))))
      · rw [q]
        exact ⟨_, rfl, hS.made q⟩
    · cases ho
      have hb := hS.blk (hbd 22 (by kernel_rfl))
      refine wp_call1 (x := .tmp 27) rfl ((hev 22 27 (hbd 22 (by kernel_rfl)) rfl).trans (hS.vals 22 (hbd 22 (by kernel_rfl)))) (hentO _ _) ((orI_calls W (B := W.heap.size) [cmpI x.time y.time, cmpI x.maker y.maker, cmpI x.seq y.seq, cmpI x.place y.place] ⟨rfl, fun _ => ⟨w2.heap.size, 0, rfl, hb.lt, fun j u hu => by rw [Nat.zero_add, hb.cell j, ← hu]; simp⟩⟩ (by simp)).mono ?_)
      rintro e w' ⟨rfl, rfl⟩
      exact ⟨_, rfl, _, rfl, hS.step 23 (by omega)⟩
    · cases ho
      exact wp_assign (.tmp 28) rfl ((hev 23 28 (hbd 23 (by kernel_rfl)) rfl).trans (hS.vals 23 (hbd 23 (by kernel_rfl)))) ⟨_, rfl, hS.step 24 (by omega)⟩
    · cases ho
  · intro cc vs W hS hall
    have e24 : vs 24 = .int .i64 (cfR x y) := hS.vals 24 (hall 24 (by decide))
    have hbe := HB.out.trans (hS.below.mono hbs)
    simp only [putL, e24, Exit.then, Act.put, List.setIfInBounds_toArray, List.set_cons_zero, List.set_cons_succ]
    clear e24 hall hS
    go_wp2
    go_ret
    exact ⟨rfl, hbe⟩

theorem cmpI_lt {a b : Int} (h : a < b) : cmpI a b = -1 := by unfold cmpI; rw [if_pos h]
theorem cmpI_gt {a b : Int} (h : b < a) : cmpI a b = 1 := by unfold cmpI; rw [if_neg (by omega), if_pos h]
theorem cmpI_eq {a b : Int} (h : a = b) : cmpI a b = 0 := by subst h; unfold cmpI; rw [if_neg (by omega), if_neg (by omega)]
def rkey (x : Rw) (i : Nat) : Int := [x.time, x.maker, x.seq, x.place].getD i 0
def pre (x y : Rw) (k : Nat) : Prop := ∀ i, i < k → rkey x i = rkey y i
theorem pre_step {x y : Rw} {k : Nat} (h : pre x y k) (he : rkey x k = rkey y k) : pre x y (k + 1) := fun i hi => by
  rcases Nat.lt_or_ge i k with h1 | h1
  · exact h i h1
  · obtain rfl : i = k := by omega
    exact he
theorem cfR_at {x y : Rw} {k : Nat} (hk : k < 4) (h : pre x y k) (z : Int) (hz : z ≠ 0) (hc : cmpI (rkey x k) (rkey y k) = z) : cfR x y = z := by
  have e := fun i (hi : i < k) => cmpI_eq (h i hi)
  have hk4 : k = 0 ∨ k = 1 ∨ k = 2 ∨ k = 3 := by omega
  unfold cfR
  rcases hk4 with rfl | rfl | rfl | rfl
  · have hc : cmpI x.time y.time = z := hc
    rw [orI, hc, if_neg hz]
  · have hc : cmpI x.maker y.maker = z := hc
    have e0 : cmpI x.time y.time = 0 := e 0 (by omega)
    rw [orI, e0, if_pos rfl, orI, hc, if_neg hz]
  · have hc : cmpI x.seq y.seq = z := hc
    have e0 : cmpI x.time y.time = 0 := e 0 (by omega)
    have e1 : cmpI x.maker y.maker = 0 := e 1 (by omega)
    rw [orI, e0, if_pos rfl, orI, e1, if_pos rfl, orI, hc, if_neg hz]
  · have hc : cmpI x.place y.place = z := hc
    have e0 : cmpI x.time y.time = 0 := e 0 (by omega)
    have e1 : cmpI x.maker y.maker = 0 := e 1 (by omega)
    have e2 : cmpI x.seq y.seq = 0 := e 2 (by omega)
    rw [orI, e0, if_pos rfl, orI, e1, if_pos rfl, orI, e2, if_pos rfl, orI, hc, if_neg hz]
theorem cfR_same {x y : Rw} (h : pre x y 4) : cfR x y = 0 := by
  have e0 : cmpI x.time y.time = 0 := cmpI_eq (h 0 (by omega))
  have e1 : cmpI x.maker y.maker = 0 := cmpI_eq (h 1 (by omega))
  have e2 : cmpI x.seq y.seq = 0 := cmpI_eq (h 2 (by omega))
  have e3 : cmpI x.place y.place = 0 := cmpI_eq (h 3 (by omega))
  unfold cfR
  rw [orI, e0, if_pos rfl, orI, e1, if_pos rfl, orI, e2, if_pos rfl, orI, e3, if_pos rfl, orI]

set_option maxRecDepth 100000 in
set_option maxHeartbeats 3200000 in
theorem cmpRwR_calls (w : World) (x y : Rw) : Calls Try.prog 21 #[rwA x, rwA y] w fun e w' => e = .returned (.int .i64 (cfR x y)) ∧ Below w.heap.size w w' := by
  unfold rwA
  go_enter Try.func21, Try.ntmps21
  go_wp2
  obtain ⟨w3, hw3⟩ : ∃ w3, w3 = (((w.alloc (.cells #[.int .i64 x.kind, .int .i64 x.time, .slice x.A x.labs.length x.cp, .string x.text, .int .i64 x.value, .bool x.null, .int .i64 x.maker, .int .i64 x.seq, .int .i64 x.place] 37)).alloc (.cells #[.int .i64 y.kind, .int .i64 y.time, .slice y.A y.labs.length y.cp, .string y.text, .int .i64 y.value, .bool y.null, .int .i64 y.maker, .int .i64 y.seq, .int .i64 y.place] 37)).alloc (.cells #[.int .i64 x.time, .int .i64 x.maker, .int .i64 x.seq, .int .i64 x.place] 65)).alloc (.cells #[.int .i64 y.time, .int .i64 y.maker, .int .i64 y.seq, .int .i64 y.place] 65) := ⟨_, rfl⟩
  have hbel : Below w.heap.size w w3 := by rw [hw3]; exact ((((Below.refl w.heap.size w).alloc (Nat.le_refl _) _).alloc (by simp) _).alloc (by simp; omega) _).alloc (by simp; omega) _
  have hx5 : ∀ k, k < 4 → w3.cell? ⟨w.heap.size + 1 + 1, k, none⟩ = some (.int .i64 (rkey x k)) := fun k hk => by
    have hb : Blk w3 (w.heap.size + 1 + 1) 65 #[.int .i64 x.time, .int .i64 x.maker, .int .i64 x.seq, .int .i64 x.place] := by
      rw [hw3]
      have := (Blk.new ((w.alloc (.cells #[.int .i64 x.kind, .int .i64 x.time, .slice x.A x.labs.length x.cp, .string x.text, .int .i64 x.value, .bool x.null, .int .i64 x.maker, .int .i64 x.seq, .int .i64 x.place] 37)).alloc (.cells #[.int .i64 y.kind, .int .i64 y.time, .slice y.A y.labs.length y.cp, .string y.text, .int .i64 y.value, .bool y.null, .int .i64 y.maker, .int .i64 y.seq, .int .i64 y.place] 37)) 65 #[.int .i64 x.time, .int .i64 x.maker, .int .i64 x.seq, .int .i64 x.place]).alloc (.cells #[.int .i64 y.time, .int .i64 y.maker, .int .i64 y.seq, .int .i64 y.place] 65)
      rw [World.size_alloc, World.size_alloc] at this
      exact this
    rw [hb.cell k]
    have hk4 : k = 0 ∨ k = 1 ∨ k = 2 ∨ k = 3 := by omega
    rcases hk4 with rfl | rfl | rfl | rfl <;> rfl
  have hy6 : ∀ k, k < 4 → w3.cell? ⟨w.heap.size + 1 + 1 + 1, k, none⟩ = some (.int .i64 (rkey y k)) := fun k hk => by
    have hb : Blk w3 (w.heap.size + 1 + 1 + 1) 65 #[.int .i64 y.time, .int .i64 y.maker, .int .i64 y.seq, .int .i64 y.place] := by
      rw [hw3]
      have := Blk.new (((w.alloc (.cells #[.int .i64 x.kind, .int .i64 x.time, .slice x.A x.labs.length x.cp, .string x.text, .int .i64 x.value, .bool x.null, .int .i64 x.maker, .int .i64 x.seq, .int .i64 x.place] 37)).alloc (.cells #[.int .i64 y.kind, .int .i64 y.time, .slice y.A y.labs.length y.cp, .string y.text, .int .i64 y.value, .bool y.null, .int .i64 y.maker, .int .i64 y.seq, .int .i64 y.place] 37)).alloc (.cells #[.int .i64 x.time, .int .i64 x.maker, .int .i64 x.seq, .int .i64 x.place] 65)) 65 #[.int .i64 y.time, .int .i64 y.maker, .int .i64 y.seq, .int .i64 y.place]
      rw [World.size_alloc, World.size_alloc, World.size_alloc] at this
      exact this
    rw [hb.cell k]
    have hk4 : k = 0 ∨ k = 1 ∨ k = 2 ∨ k = 3 := by omega
    rcases hk4 with rfl | rfl | rfl | rfl <;> rfl
  have hs3 : w.heap.size + 1 + 1 + 1 < w3.heap.size := by rw [hw3]; simp
  rw [← hw3]
  clear hw3
  have HX := Lib.hid hx5
  have HY := Lib.hid hy6
  clear hx5 hy6
  have HB3 := Lib.hid hbel
  clear hbel
  go_loopw [28] (fun vi wr => ∃ k n : Nat, k ≤ 4 ∧ vi = .int .i64 (k : Int) ∧ Hid (pre x y k) ∧ wr = w3.drewN n) (fun vi _ => 4 - (intOf vi).toNat)
  case atStart => exact ⟨0, 0, by omega, rfl, Lib.hid fun i hi => absurd hi (by omega), rfl⟩
  case round =>
    obtain ⟨k, n, hk, rfl, HP, rfl⟩ := hrel
    by_cases hlt : k < 4
    · have c5 := HX.out k hlt
      have c6 := HY.out k hlt
      have HA := Lib.hid (cfR_at (x := x) (y := y) hlt HP.out)
      have HS := Lib.hid (pre_step HP.out)
      have i0 : (0 : Int) ≤ (k : Int) := by omega
      have i1 : (k : Int) < 4 := by omega
      generalize rkey x k = a at *
      generalize rkey y k = b at *
      by_cases h1 : a < b
      · have HV := Lib.hid (HA.out (-1) (by omega) (cmpI_lt h1))
        have t1 : decide (a < b) = true := dct h1
        go_wp2_with fail
        go_quiet (fail)
        go_wp2
        go_ret
        exact ⟨by rw [HV.out]; rfl, below_drewN_ (below_drewN_ HB3.out _) _⟩
      · have t1 : decide (a < b) = false := dcf h1
        by_cases h2 : b < a
        · have HV := Lib.hid (HA.out 1 (by omega) (cmpI_gt h2))
          have t2 : decide (b < a) = true := dct h2
          go_wp2_with fail
          go_quiet (fail)
          go_wp2_with fail
          go_quiet (fail)
          go_wp2
          go_ret
          exact ⟨by rw [HV.out]; rfl, below_drewN_ (below_drewN_ (below_drewN_ HB3.out _) _) _⟩
        · have t2 : decide (b < a) = false := dcf h2
          have HP2 := Lib.hid (HS.out (by omega))
          go_wp2_with fail
          go_quiet (fail)
          go_wp2_with fail
          go_quiet (fail)
          go_wp2
          go_roundw
          case rel => exact ⟨k + 1, _, by omega, by go_num, HP2, rfl⟩
          case measure => simp [intOf]; omega
    · obtain rfl : k = 4 := by omega
      have HV := Lib.hid (cfR_same HP.out)
      go_wp2
      go_ret
      exact ⟨by rw [HV.out]; rfl, below_drewN_ HB3.out _⟩
end Go.Proofs.Ytennddlihcamnaa
