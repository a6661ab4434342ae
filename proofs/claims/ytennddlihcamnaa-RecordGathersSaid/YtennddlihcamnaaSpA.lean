/- The comparison of groups (record.Split$1). -/
import Derived.Test.YtennddlihcamnaaProg
import Derived.Test.YtennddlihcamnaaSpPM
import Derived.Test.YtennddlihcamnaaSpQ
import Derived.Test.YtennddlihcamnaaGrow
import Derived.Test.YtennddlihcamnaaOpr
import Derived.Test.YtennddlihcamnaaMeA
import Derived.Sort.Grow
import Derived.Shelf.Abstract
namespace Go.Proofs.Ytennddlihcamnaa.Sp
set_option linter.unusedVariables false
set_option linter.unusedSimpArgs false
open Go.RowKit Go.Proofs.Ytennddlihcamnaa Go.Proofs.Ytennddlihcamnaa.So Go.Proofs.Ytennddlihcamnaa.Opr

variable {ρ : Type}
def cfG (x y : Gp ρ) : Int := orI [cmpI x.win y.win, cmpS x.part y.part]
theorem cfG_eq (x y : Gp ρ) : cfG x y = cmpK (x.win, x.part) (y.win, y.part) := by
  unfold cfG cmpK
  rw [orI, orI, orI]
  dsimp only
  by_cases h : cmpI x.win y.win = 0
  · rw [if_pos h, if_pos h]
    by_cases h2 : cmpS x.part y.part = 0
    · rw [if_pos h2, h2]
    · rw [if_neg h2]
  · rw [if_neg h, if_neg h]
theorem run_bsG {o : Oper} {b : Act} (W : World) (ho : o.op = .buildSlice 81 2 #[(0, .tmp 9), (1, .tmp 14)]) {z0 z1 : Int} (h0 : b.eval (.tmp 9) = .int .i64 z0) (h1 : b.eval (.tmp 14) = .int .i64 z1) :
    (execOp b.eval o).run Try.prog W = .ok (.value (.slice (some ⟨W.heap.size, 0, none⟩) 2 2)) (W.alloc (.cells #[.int .i64 z0, .int .i64 z1] 3)) := by
  have e0 : b.tmps[9]?.getD undef = .int .i64 z0 := by simpa [Act.eval] using h0
  have e1 : b.tmps[14]?.getD undef = .int .i64 z1 := by simpa [Act.eval] using h1
  unfold execOp
  simp [go_sem, ho, e0, e1]

/-- How far the comparison is. -/
structure CgS (val : Nat → Value) (cs : Array Value) (w2 : World) (cc : Nat → Bool) (vs : Nat → Value) (W : World) : Prop where
  vals : ∀ i, cc i = true → vs i = val i
  w0 : cc 10 = false → W = w2.drewN 1
  w1 : cc 10 = true → W = (w2.drewN 1).alloc (.cells cs 3)
section
variable {val : Nat → Value} {cs : Array Value} {w2 W : World} {cc : Nat → Bool} {vs : Nat → Value}
theorem CgS.below (h : CgS val cs w2 cc vs W) : Below w2.heap.size w2 W := by
  have h0 : Below w2.heap.size w2 (w2.drewN 1) := below_drewN_ (Below.refl _ _) 1
  cases hc : cc 10
  · rw [h.w0 hc]; exact h0
  · rw [h.w1 hc]; exact h0.alloc (Nat.le_refl _) _
theorem CgS.size (h : CgS val cs w2 cc vs W) (hc : cc 10 = false) : W.heap.size = w2.heap.size := by rw [h.w0 hc]; rfl
theorem CgS.blk (h : CgS val cs w2 cc vs W) (hc : cc 10 = true) : Blk W w2.heap.size 3 cs := by rw [h.w1 hc]; exact Blk.new (w2.drewN 1) _ _
theorem CgS.step (h : CgS val cs w2 cc vs W) (i : Nat) (hi : i ≠ 10) : CgS val cs w2 (fun j => if j = i then true else cc j) (fun j => if j = i then val i else vs j) W :=
  ⟨fun j hj => by
    by_cases e : j = i
    · subst e; simp
    · simp only [if_neg e] at hj ⊢; exact h.vals j hj, fun hq => by simp only [if_neg (Ne.symm hi)] at hq; exact h.w0 hq, fun hq => by simp only [if_neg (Ne.symm hi)] at hq; exact h.w1 hq⟩
theorem CgS.made (h : CgS val cs w2 cc vs W) (q : cc 10 = false) : CgS val cs w2 (fun j => if j = 10 then true else cc j) (fun j => if j = 10 then val 10 else vs j) (W.alloc (.cells cs 3)) :=
  ⟨fun j hj => by
    by_cases e : j = 10
    · subst e; simp
    · simp only [if_neg e] at hj ⊢; exact h.vals j hj, fun hq => by simp at hq, fun _ => by rw [h.w0 q]⟩
end
theorem grown3 (w : World) (a b c : Obj) : (((w.alloc a).alloc b).drewN 1).alloc c = Go.Sort.grow (w.drewN 1) #[a, b, c] := by
  simp only [Go.Sort.alloc_eq_grow, Go.Sort.grow_grow]
  show Go.Sort.grow (Go.Sort.grow (w.drewN 1) _) _ = _
  rw [Go.Sort.grow_grow]
  rfl

set_option maxRecDepth 100000 in
set_option maxHeartbeats 3200000 in
theorem cmpG_calls (w : World) (x y : Gp ρ) : Calls Try.prog 45 #[.agg x.cells.toArray, .agg y.cells.toArray] w fun e w' => e = .returned (.int .i64 (cfG x y)) ∧ ∃ q os, w' = Go.Sort.grow (w.drewN q) os := by
  have hentI : ∀ args W, (callFunc 39 args).run Try.prog W = .ok (.enter 39 args) W := enters_of Try.func39 (by kernel_rfl) rfl
  have hentS : ∀ args W, (callFunc 46 args).run Try.prog W = .ok (.enter 46 args) W := enters_of Try.func46 (by kernel_rfl) rfl
  have hentO : ∀ args W, (callFunc 38 args).run Try.prog W = .ok (.enter 38 args) W := enters_of Try.func38 (by kernel_rfl) rfl
  show Calls Try.prog 45 #[.agg #[.int .i64 x.win, .string x.part, .slice x.A x.rows.length x.c], .agg #[.int .i64 y.win, .string y.part, .slice y.A y.rows.length y.c]] w _
  go_enter Try.func45, Try.ntmps45
  go_wp2_with fail
  obtain ⟨bx, hbx⟩ : ∃ bx, bx = Obj.cells #[.int .i64 x.win, .string x.part, .slice x.A x.rows.length x.c] 52 := ⟨_, rfl⟩
  obtain ⟨b2, hb2⟩ : ∃ b2, b2 = Obj.cells #[.int .i64 y.win, .string y.part, .slice y.A y.rows.length y.c] 52 := ⟨_, rfl⟩
  have hbkx := (Blk.new w 52 #[.int .i64 x.win, .string x.part, .slice x.A x.rows.length x.c]).alloc b2
  have hbky := Blk.new (w.alloc bx) 52 #[.int .i64 y.win, .string y.part, .slice y.A y.rows.length y.c]
  have es : (w.alloc bx).heap.size = w.heap.size + 1 := by simp
  rw [es] at hbky
  rw [← hbx] at hbkx
  rw [← hb2] at hbky
  try rw [← hbx, ← hb2]
  obtain ⟨g1, hg1⟩ : ∃ g1, g1 = w.heap.size := ⟨_, rfl⟩
  obtain ⟨g2, hg2⟩ : ∃ g2, g2 = w.heap.size + 1 := ⟨_, rfl⟩
  rw [← hg1] at hbkx
  rw [← hg2] at hbky
  try rw [es]
  clear es hbx hb2
  obtain ⟨w2, hw2⟩ : ∃ w2, w2 = (w.alloc bx).alloc b2 := ⟨_, rfl⟩
  rw [← hw2] at hbkx hbky ⊢
  have HW := Lib.hid hw2
  clear hw2
  rw [← hg2, ← hg1]
  clear hg1 hg2
  refine wp_region_steps (by kernel_rfl) (by kernel_rfl) (CgS (fun i => (#[.pointer (some ⟨g1, 0, none⟩), .int .i64 x.win, .pointer (some ⟨g2, 0, none⟩), .int .i64 y.win, .int .i64 (cmpI x.win y.win), .pointer (some ⟨g1, 1, none⟩), .string x.part, .pointer (some ⟨g2, 1, none⟩), .string y.part, .int .i64 (cmpS x.part y.part), .slice (some ⟨w2.heap.size, 0, none⟩) 2 2, .int .i64 (cfG x y), .int .i64 (cfG x y)] : Array Value).getD i undef) #[.int .i64 (cmpI x.win y.win), .int .i64 (cmpS x.part y.part)] w2) ⟨fun i hi => (by cases hi), fun _ => rfl, fun h => (by cases h)⟩ ?_ [some 5, some 6, some 7, some 8, some 9, some 10, some 11, some 12, some 13, some 14, some 15, some 16, some 4] (by kernel_rfl) ?_
  · intro i o ho cc vs W b hS hci hbd hev hout
    rcases i with _ | _ | _ | _ | _ | _ | _ | _ | _ | _ | _ | _ | _ | i
    · cases ho
      have e := (hout 2 (by kernel_rfl)).trans (rfl : _ = Value.pointer (some ⟨g1, 0, none⟩))
      exact wp_of_run _ (run_fa W (.tmp 2) rfl e (fun W => by simp [go_sem])) ⟨_, rfl, hS.step 0 (by omega)⟩
    · cases ho
      have yc := (hbkx.below hS.below hbkx.lt).cell 0
      exact wp_of_run _ (run_ld W (.tmp 5) rfl ((hev 0 5 (hbd 0 (by kernel_rfl)) rfl).trans (hS.vals 0 (hbd 0 (by kernel_rfl)))) (by simp [go_sem, yc])) ⟨_, rfl, hS.step 1 (by omega)⟩
    · cases ho
      have e := (hout 3 (by kernel_rfl)).trans (rfl : _ = Value.pointer (some ⟨g2, 0, none⟩))
      exact wp_of_run _ (run_fa W (.tmp 3) rfl e (fun W => by simp [go_sem])) ⟨_, rfl, hS.step 2 (by omega)⟩
    · cases ho
      have yc := (hbky.below hS.below hbky.lt).cell 0
      exact wp_of_run _ (run_ld W (.tmp 7) rfl ((hev 2 7 (hbd 2 (by kernel_rfl)) rfl).trans (hS.vals 2 (hbd 2 (by kernel_rfl)))) (by simp [go_sem, yc])) ⟨_, rfl, hS.step 3 (by omega)⟩
    · cases ho
      refine wp_call2 (x := .tmp 6) (y := .tmp 8) rfl ((hev 1 6 (hbd 1 (by kernel_rfl)) rfl).trans (hS.vals 1 (hbd 1 (by kernel_rfl)))) ((hev 3 8 (hbd 3 (by kernel_rfl)) rfl).trans (hS.vals 3 (hbd 3 (by kernel_rfl)))) (hentI _ _) ((cmpI_calls _ _ W).mono ?_)
      rintro e w' ⟨rfl, rfl⟩
      exact ⟨_, rfl, _, rfl, hS.step 4 (by omega)⟩
    · cases ho
      have e := (hout 2 (by kernel_rfl)).trans (rfl : _ = Value.pointer (some ⟨g1, 0, none⟩))
      exact wp_of_run _ (run_fa W (.tmp 2) rfl e (fun W => by simp [go_sem])) ⟨_, rfl, hS.step 5 (by omega)⟩
    · cases ho
      have yc := (hbkx.below hS.below hbkx.lt).cell 1
      exact wp_of_run _ (run_ld W (.tmp 10) rfl ((hev 5 10 (hbd 5 (by kernel_rfl)) rfl).trans (hS.vals 5 (hbd 5 (by kernel_rfl)))) (by simp [go_sem, yc])) ⟨_, rfl, hS.step 6 (by omega)⟩
    · cases ho
      have e := (hout 3 (by kernel_rfl)).trans (rfl : _ = Value.pointer (some ⟨g2, 0, none⟩))
      exact wp_of_run _ (run_fa W (.tmp 3) rfl e (fun W => by simp [go_sem])) ⟨_, rfl, hS.step 7 (by omega)⟩
    · cases ho
      have yc := (hbky.below hS.below hbky.lt).cell 1
      exact wp_of_run _ (run_ld W (.tmp 12) rfl ((hev 7 12 (hbd 7 (by kernel_rfl)) rfl).trans (hS.vals 7 (hbd 7 (by kernel_rfl)))) (by simp [go_sem, yc])) ⟨_, rfl, hS.step 8 (by omega)⟩
    · cases ho
      refine wp_call2 (x := .tmp 11) (y := .tmp 13) rfl ((hev 6 11 (hbd 6 (by kernel_rfl)) rfl).trans (hS.vals 6 (hbd 6 (by kernel_rfl)))) ((hev 8 13 (hbd 8 (by kernel_rfl)) rfl).trans (hS.vals 8 (hbd 8 (by kernel_rfl)))) (hentS _ _) ((cmpS_calls _ _ W).mono ?_)
      rintro e w' ⟨rfl, rfl⟩
      exact ⟨_, rfl, _, rfl, hS.step 9 (by omega)⟩
    · cases ho
      have q := hS.size hci
      refine wp_of_run (.slice (some ⟨W.heap.size, 0, none⟩) 2 2) (w' := W.alloc (.cells #[.int .i64 (cmpI x.win y.win), .int .i64 (cmpS x.part y.part)] 3)) ?_ ?_
      · exact run_bsG W rfl ((hev 4 9 (hbd 4 (by kernel_rfl)) rfl).trans (hS.vals 4 (hbd 4 (by kernel_rfl)))) ((hev 9 14 (hbd 9 (by kernel_rfl)) rfl).trans (hS.vals 9 (hbd 9 (by kernel_rfl))))
      · rw [q]
        exact ⟨_, rfl, hS.made hci⟩
    · cases ho
      have hb := hS.blk (hbd 10 (by kernel_rfl))
      refine wp_call1 (x := .tmp 15) rfl ((hev 10 15 (hbd 10 (by kernel_rfl)) rfl).trans (hS.vals 10 (hbd 10 (by kernel_rfl)))) (hentO _ _) ((orI_calls W (B := W.heap.size) [cmpI x.win y.win, cmpS x.part y.part] ⟨rfl, fun _ => ⟨w2.heap.size, 0, rfl, hb.lt, fun j u hu => by rw [Nat.zero_add, hb.cell j, ← hu]; simp⟩⟩ (by simp)).mono ?_)
      rintro e w' ⟨rfl, rfl⟩
      exact ⟨_, rfl, _, rfl, hS.step 11 (by omega)⟩
    · cases ho
      exact wp_assign (.tmp 16) rfl ((hev 11 16 (hbd 11 (by kernel_rfl)) rfl).trans (hS.vals 11 (hbd 11 (by kernel_rfl)))) ⟨_, rfl, hS.step 12 (by omega)⟩
    · cases ho
  · intro cc vs W hS hall
    have e12 : vs 12 = .int .i64 (cfG x y) := hS.vals 12 (hall 12 (by decide))
    have hw : W = Go.Sort.grow (w.drewN 1) #[bx, b2, .cells #[.int .i64 (cmpI x.win y.win), .int .i64 (cmpS x.part y.part)] 3] := by
      rw [hS.w1 (hall 10 (by decide)), HW.out]; exact grown3 _ _ _ _
    have HF := Lib.hid hw
    simp only [putL, e12, Exit.then, Act.put, List.setIfInBounds_toArray, List.set_cons_zero, List.set_cons_succ]
    clear e12 hall hS hw
    go_wp2
    go_ret
    exact ⟨rfl, 1, _, HF.out⟩
end Go.Proofs.Ytennddlihcamnaa.Sp
