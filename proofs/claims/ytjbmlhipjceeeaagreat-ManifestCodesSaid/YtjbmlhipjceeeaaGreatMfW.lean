/- The laws' own words: lives, few, fewEdit; Same and Twin of the document (chapter 13). -/
import Derived.Test.YtjbmlhipjceeeaaGreatProg
import Derived.Test.YtjbmlhipjceeeaaGreatMfS
namespace Go.Proofs.YtjbmlhipjceeeaaGreat.Mf
set_option linter.unusedVariables false
set_option linter.unusedSimpArgs false
open Go.RowKit Go.Proofs.YtjbmlhipjceeeaaGreat

theorem toList_iff (a b : ByteArray) : (a.toList = b.toList) ↔ a = b := by
  have := bytes_beq a b
  rw [Bool.eq_iff_iff, beq_iff_eq, decide_eq_true_iff] at this
  exact this
set_option maxRecDepth 100000 in
theorem neq_en (W : World) (x y : En) : (binOp .neq 42 (.agg #[.string x.key, .int .i64 x.window, .string x.part, .int .i64 x.first, .int .i64 x.last, .int .i64 x.rows, .int .i64 x.size, .int .u32 x.sum, .int .i64 x.born]) (.agg #[.string y.key, .int .i64 y.window, .string y.part, .int .i64 y.first, .int .i64 y.last, .int .i64 y.rows, .int .i64 y.size, .int .u32 y.sum, .int .i64 y.born])).run Tryz.prog W = .ok (.bool (!(decide (x = y)))) W := by
  have u3 := Tryz.underlying9
  have a3 := Tryz.isAgg9
  have z3 := Tryz.sizeOf9
  have u4 := Tryz.underlying3
  have a4 := Tryz.isAgg3
  have z4 := Tryz.sizeOf3
  have u5 := Tryz.underlying40
  have a5 := Tryz.isAgg40
  have z5 := Tryz.sizeOf40
  have hS : Tryz.prog.underlying 42 = some (.struct (Tryz.prog.fieldsOf 42)) := by kernel_rfl
  have hp : Tryz.prog.stoodInHeld 42 = false := by kernel_rfl
  rw [run_neq_struct, show (10000 : Nat) = 9999 + 1 from rfl, run_equalIn_agg W 9999 42 _ _ hS hp]
  simp only [Program.fieldsOf, Tryz.underlying42]
  go_simp
  by_cases e : x = y
  · subst e; simp
  · rw [dcf e]
    repeat' split
    all_goals first
      | rfl
      | (exfalso; apply e; cases x; cases y; simp_all [toList_iff])
theorem neq_mk (W : World) (x y : Mk) : (binOp .neq 44 (.agg #[.int .i64 x.maker, .int .i64 x.seq]) (.agg #[.int .i64 y.maker, .int .i64 y.seq])).run Tryz.prog W = .ok (.bool (!(decide (x = y)))) W := by
  have u4 := Tryz.underlying3
  have a4 := Tryz.isAgg3
  have z4 := Tryz.sizeOf3
  have hS : Tryz.prog.underlying 44 = some (.struct (Tryz.prog.fieldsOf 44)) := by kernel_rfl
  have hp : Tryz.prog.stoodInHeld 44 = false := by kernel_rfl
  rw [run_neq_struct, show (10000 : Nat) = 9999 + 1 from rfl, run_equalIn_agg W 9999 44 _ _ hS hp]
  simp only [Program.fieldsOf, Tryz.underlying44]
  go_simp
  by_cases e : x = y
  · subst e; simp
  · rw [dcf e]
    repeat' split
    all_goals first
      | rfl
      | (exfalso; apply e; cases x; cases y; simp_all [toList_iff])
theorem neq_ow (W : World) (x y : Ow) : (binOp .neq 29 (.agg #[.int .i64 x.agent, .int .i64 x.life, .int .i64 x.count]) (.agg #[.int .i64 y.agent, .int .i64 y.life, .int .i64 y.count])).run Tryz.prog W = .ok (.bool (!(decide (x = y)))) W := by
  have u4 := Tryz.underlying3
  have a4 := Tryz.isAgg3
  have z4 := Tryz.sizeOf3
  have hS : Tryz.prog.underlying 29 = some (.struct (Tryz.prog.fieldsOf 29)) := by kernel_rfl
  have hp : Tryz.prog.stoodInHeld 29 = false := by kernel_rfl
  rw [run_neq_struct, show (10000 : Nat) = 9999 + 1 from rfl, run_equalIn_agg W 9999 29 _ _ hS hp]
  simp only [Program.fieldsOf, Tryz.underlying29]
  go_simp
  by_cases e : x = y
  · subst e; simp
  · rw [dcf e]
    repeat' split
    all_goals first
      | rfl
      | (exfalso; apply e; cases x; cases y; simp_all [toList_iff])

/-! ### Same -/
def sameM (a b : Md) : Bool := decide (a = b)
theorem eq_all {α : Type} [Inhabited α] {l m : List α} (hl : l.length = m.length) (h : ∀ i, i < l.length → gt l i = gt m i) : l = m := by
  refine List.ext_getElem hl fun i h1 h2 => ?_
  rw [gt_eq h1, gt_eq h2]
  exact h i h1
theorem same_self (m : Md) : sameM m m = true := dct rfl
def headB (a b : Md) : Bool := decide (a.gen = b.gen) && decide (a.cut = b.cut) && decide (a.fence = b.fence) && decide (a.E.length = b.E.length) && decide (a.M.length = b.M.length) && decide (a.O.length = b.O.length)
theorem same_no {a b : Md} (h : headB a b = false) : sameM a b = false := dcf fun e => by subst e; unfold headB at h; simp at h
theorem same_iff {a b : Md} (h : headB a b = true) : sameM a b = (decide (a.E = b.E) && decide (a.M = b.M) && decide (a.O = b.O)) := by
  unfold headB at h
  simp only [Bool.and_eq_true, decide_eq_true_eq] at h
  obtain ⟨⟨⟨⟨⟨h1, h2⟩, h3⟩, h4⟩, h5⟩, h6⟩ := h
  unfold sameM
  rw [Bool.eq_iff_iff]
  simp only [Bool.and_eq_true, decide_eq_true_eq]
  constructor
  · rintro rfl; exact ⟨⟨rfl, rfl⟩, rfl⟩
  · rintro ⟨⟨e1, e2⟩, e3⟩
    cases a; cases b
    simp_all
set_option maxRecDepth 100000 in
set_option maxHeartbeats 3200000 in
theorem sameM_calls (w : World) {B1 B2 : Nat} {a b : Md} {p q : Pl} (ha : Man w B1 a p) (hb : Man w B2 b q) (hB1 : B1 ≤ w.heap.size) (hB2 : B2 ≤ w.heap.size) : Calls Tryz.prog 14 #[mdV a p, mdV b q] w fun e w' => e = .returned (.bool (sameM a b)) ∧ Below w.heap.size w w' := by
  have HT : Hid (∀ W, Below (w.heap.size + 2) ((w.alloc (.cells #[.int .i64 a.gen, .int .i64 a.cut, .int .i64 a.fence, .slice p.AE a.E.length p.cE, .slice p.AM a.M.length p.cM, .slice p.AO a.O.length p.cO] 26)).alloc (.cells #[.int .i64 b.gen, .int .i64 b.cut, .int .i64 b.fence, .slice q.AE b.E.length q.cE, .slice q.AM b.M.length q.cM, .slice q.AO b.O.length q.cO] 26)) W → (W.cell? ⟨w.heap.size, 0, none⟩ = some (.int .i64 a.gen) ∧ W.cell? ⟨w.heap.size, 1, none⟩ = some (.int .i64 a.cut) ∧ W.cell? ⟨w.heap.size, 2, none⟩ = some (.int .i64 a.fence) ∧ W.cell? ⟨w.heap.size, 3, none⟩ = some (.slice p.AE a.E.length p.cE) ∧ W.cell? ⟨w.heap.size, 4, none⟩ = some (.slice p.AM a.M.length p.cM) ∧ W.cell? ⟨w.heap.size, 5, none⟩ = some (.slice p.AO a.O.length p.cO)) ∧ W.cell? ⟨(w.heap.size + 1), 0, none⟩ = some (.int .i64 b.gen) ∧ W.cell? ⟨(w.heap.size + 1), 1, none⟩ = some (.int .i64 b.cut) ∧ W.cell? ⟨(w.heap.size + 1), 2, none⟩ = some (.int .i64 b.fence) ∧ W.cell? ⟨(w.heap.size + 1), 3, none⟩ = some (.slice q.AE b.E.length q.cE) ∧ W.cell? ⟨(w.heap.size + 1), 4, none⟩ = some (.slice q.AM b.M.length q.cM) ∧ W.cell? ⟨(w.heap.size + 1), 5, none⟩ = some (.slice q.AO b.O.length q.cO)) := Lib.hid fun W hW => by
    have h1 := (((Blk.new w 26 #[.int .i64 a.gen, .int .i64 a.cut, .int .i64 a.fence, .slice p.AE a.E.length p.cE, .slice p.AM a.M.length p.cM, .slice p.AO a.O.length p.cO]).alloc (.cells #[.int .i64 b.gen, .int .i64 b.cut, .int .i64 b.fence, .slice q.AE b.E.length q.cE, .slice q.AM b.M.length q.cM, .slice q.AO b.O.length q.cO] 26)).below hW (by omega))
    have h2 := Blk.new (w.alloc (.cells #[.int .i64 a.gen, .int .i64 a.cut, .int .i64 a.fence, .slice p.AE a.E.length p.cE, .slice p.AM a.M.length p.cM, .slice p.AO a.O.length p.cO] 26)) 26 #[.int .i64 b.gen, .int .i64 b.cut, .int .i64 b.fence, .slice q.AE b.E.length q.cE, .slice q.AM b.M.length q.cM, .slice q.AO b.O.length q.cO]
    rw [World.size_alloc] at h2
    have h3 := Blk.below h2 hW (by omega)
    exact ⟨⟨h1.cell 0, h1.cell 1, h1.cell 2, h1.cell 3, h1.cell 4, h1.cell 5⟩, ⟨h3.cell 0, h3.cell 1, h3.cell 2, h3.cell 3, h3.cell 4, h3.cell 5⟩⟩
  have HB0 : Hid (∀ W, Below (w.heap.size + 2) ((w.alloc (.cells #[.int .i64 a.gen, .int .i64 a.cut, .int .i64 a.fence, .slice p.AE a.E.length p.cE, .slice p.AM a.M.length p.cM, .slice p.AO a.O.length p.cO] 26)).alloc (.cells #[.int .i64 b.gen, .int .i64 b.cut, .int .i64 b.fence, .slice q.AE b.E.length q.cE, .slice q.AM b.M.length q.cM, .slice q.AO b.O.length q.cO] 26)) W → Below w.heap.size w W ∧ w.heap.size + 2 ≤ W.heap.size) := Lib.hid fun W hW => ⟨(((Below.refl w.heap.size w).alloc (Nat.le_refl _) _).alloc (by simp) _).trans (hW.mono (by omega)), by have := hW.size; simp at this; omega⟩
  have HE1 := Lib.hid fun W (hW : Below w.heap.size w W) => ha.re.below (hW.mono hB1)
  have HE2 := Lib.hid fun W (hW : Below w.heap.size w W) => hb.re.below (hW.mono hB2)
  have HM1 := Lib.hid fun W (hW : Below w.heap.size w W) => ha.rm.below (hW.mono hB1)
  have HM2 := Lib.hid fun W (hW : Below w.heap.size w W) => hb.rm.below (hW.mono hB2)
  have HO1 := Lib.hid fun W (hW : Below w.heap.size w W) => ha.ro.below (hW.mono hB1)
  have HO2 := Lib.hid fun W (hW : Below w.heap.size w W) => hb.ro.below (hW.mono hB2)
  have hle := ha.le
  have hlm := ha.lm
  have hlo := ha.lo
  have hle2 := hb.le
  have hlm2 := hb.lm
  have hlo2 := hb.lo
  clear ha hb
  obtain ⟨AE, cE, AM, cM, AO, cO⟩ := p
  obtain ⟨DE, dE, DM, dM, DO, dO⟩ := q
  dsimp only at *
  have HW := Lib.hid (Below.refl (w.heap.size + 2) ((w.alloc (.cells #[.int .i64 a.gen, .int .i64 a.cut, .int .i64 a.fence, .slice AE a.E.length cE, .slice AM a.M.length cM, .slice AO a.O.length cO] 26)).alloc (.cells #[.int .i64 b.gen, .int .i64 b.cut, .int .i64 b.fence, .slice DE b.E.length dE, .slice DM b.M.length dM, .slice DO b.O.length dO] 26)))
  go_enter Tryz.func14, Tryz.ntmps14
  have HHd : Hid (headB a b = (decide (a.gen = b.gen) && decide (a.cut = b.cut) && decide (a.fence = b.fence) && decide (a.E.length = b.E.length) && decide (a.M.length = b.M.length) && decide (a.O.length = b.O.length))) := Lib.hid rfl
  by_cases e0 : a.gen = b.gen
  · have te0 : (a.gen != b.gen) = false := nef e0
    by_cases e1 : a.cut = b.cut
    · have te1 : (a.cut != b.cut) = false := nef e1
      by_cases e2 : a.fence = b.fence
      · have te2 : (a.fence != b.fence) = false := nef e2
        by_cases e3 : a.E.length = b.E.length
        · have te3 : ((a.E.length : Int) != (b.E.length : Int)) = false := nef (by omega)
          by_cases e4 : a.M.length = b.M.length
          · have te4 : ((a.M.length : Int) != (b.M.length : Int)) = false := nef (by omega)
            by_cases e5 : a.O.length = b.O.length
            · have te5 : ((a.O.length : Int) != (b.O.length : Int)) = false := nef (by omega)
              have HS : Hid (sameM a b = (decide (a.E = b.E) && decide (a.M = b.M) && decide (a.O = b.O))) := Lib.hid (same_iff (by rw [HHd.out, dct e0, dct e1, dct e2, dct e3, dct e4, dct e5]; rfl))
              have HL3 := Lib.hid e3
              have HL4 := Lib.hid e4
              have HL5 := Lib.hid e5
              clear e0 e1 e2 e3 e4 e5 HHd
              generalize sameM a b = out at *
              go_wp2
              generalize (w.alloc (.cells #[.int .i64 a.gen, .int .i64 a.cut, .int .i64 a.fence, .slice AE a.E.length cE, .slice AM a.M.length cM, .slice AO a.O.length cO] 26)).alloc (.cells #[.int .i64 b.gen, .int .i64 b.cut, .int .i64 b.fence, .slice DE b.E.length dE, .slice DM b.M.length dM, .slice DO b.O.length dO] 26) = wm at *
              go_loopw [57] (fun i wr => ∃ j : Nat, j ≤ a.E.length ∧ i = .int .i64 (j : Int) ∧ Hid (∀ i, i < j → gt a.E i = gt b.E i) ∧ Hid (Below (w.heap.size + 2) wm wr)) (fun i _ => a.E.length - (intOf i).toNat)
              case atStart => exact ⟨0, Nat.zero_le _, rfl, Lib.hid (fun i hi => absurd hi (Nat.not_lt_zero i)), HW⟩
              case round =>
                clear HW
                obtain ⟨j, hj, rfl, HF, HW⟩ := hrel
                obtain ⟨hb00, hsz⟩ := HB0.out wr HW.out
                obtain ⟨⟨s0, s1, s2, s3, s4, s5⟩, ⟨t0, t1, t2, t3, t4, t5⟩⟩ := HT.out wr HW.out
                by_cases hlt : j < a.E.length
                · have hr := HE1.out wr hb00
                  have hr2 := HE2.out wr hb00
                  have hlt2 : j < b.E.length := by rw [← HL3.out]; exact hlt
                  obtain ⟨bb, off, rfl, hbB⟩ := row_addr hr (by omega)
                  obtain ⟨bc, off2, rfl, hbB2⟩ := row_addr hr2 (by omega)
                  obtain ⟨p0, p1, p2, p3, p4, p5, p6, p7, p8⟩ : wr.cell? ⟨bb, off + j * 9, none⟩ = some (.string (gt a.E j).key) ∧ wr.cell? ⟨bb, off + j * 9 + 1, none⟩ = some (.int .i64 (gt a.E j).window) ∧ wr.cell? ⟨bb, off + j * 9 + 2, none⟩ = some (.string (gt a.E j).part) ∧ wr.cell? ⟨bb, off + j * 9 + 3, none⟩ = some (.int .i64 (gt a.E j).first) ∧ wr.cell? ⟨bb, off + j * 9 + 4, none⟩ = some (.int .i64 (gt a.E j).last) ∧ wr.cell? ⟨bb, off + j * 9 + 5, none⟩ = some (.int .i64 (gt a.E j).rows) ∧ wr.cell? ⟨bb, off + j * 9 + 6, none⟩ = some (.int .i64 (gt a.E j).size) ∧ wr.cell? ⟨bb, off + j * 9 + 7, none⟩ = some (.int .u32 (gt a.E j).sum) ∧ wr.cell? ⟨bb, off + j * 9 + 8, none⟩ = some (.int .i64 (gt a.E j).born) := ⟨row_cell ecs_len hr hlt (j := 0) rfl, row_cell ecs_len hr hlt (j := 1) rfl, row_cell ecs_len hr hlt (j := 2) rfl, row_cell ecs_len hr hlt (j := 3) rfl, row_cell ecs_len hr hlt (j := 4) rfl, row_cell ecs_len hr hlt (j := 5) rfl, row_cell ecs_len hr hlt (j := 6) rfl, row_cell ecs_len hr hlt (j := 7) rfl, row_cell ecs_len hr hlt (j := 8) rfl⟩
                  obtain ⟨v0, v1, v2, v3, v4, v5, v6, v7, v8⟩ : wr.cell? ⟨bc, off2 + j * 9, none⟩ = some (.string (gt b.E j).key) ∧ wr.cell? ⟨bc, off2 + j * 9 + 1, none⟩ = some (.int .i64 (gt b.E j).window) ∧ wr.cell? ⟨bc, off2 + j * 9 + 2, none⟩ = some (.string (gt b.E j).part) ∧ wr.cell? ⟨bc, off2 + j * 9 + 3, none⟩ = some (.int .i64 (gt b.E j).first) ∧ wr.cell? ⟨bc, off2 + j * 9 + 4, none⟩ = some (.int .i64 (gt b.E j).last) ∧ wr.cell? ⟨bc, off2 + j * 9 + 5, none⟩ = some (.int .i64 (gt b.E j).rows) ∧ wr.cell? ⟨bc, off2 + j * 9 + 6, none⟩ = some (.int .i64 (gt b.E j).size) ∧ wr.cell? ⟨bc, off2 + j * 9 + 7, none⟩ = some (.int .u32 (gt b.E j).sum) ∧ wr.cell? ⟨bc, off2 + j * 9 + 8, none⟩ = some (.int .i64 (gt b.E j).born) := ⟨row_cell ecs_len hr2 hlt2 (j := 0) rfl, row_cell ecs_len hr2 hlt2 (j := 1) rfl, row_cell ecs_len hr2 hlt2 (j := 2) rfl, row_cell ecs_len hr2 hlt2 (j := 3) rfl, row_cell ecs_len hr2 hlt2 (j := 4) rfl, row_cell ecs_len hr2 hlt2 (j := 5) rfl, row_cell ecs_len hr2 hlt2 (j := 6) rfl, row_cell ecs_len hr2 hlt2 (j := 7) rfl, row_cell ecs_len hr2 hlt2 (j := 8) rfl⟩
                  have i0 : (0 : Int) ≤ (j : Int) := by omega
                  have i9 : (j : Int) < (a.E.length : Int) := by omega
                  have i8 : (j : Int) < (b.E.length : Int) := by omega
                  have hq := fun W => neq_en W (gt a.E j) (gt b.E j)
                  have HNo : Hid (gt a.E j ≠ gt b.E j → out = false) := Lib.hid fun hh => by rw [HS.out, dcf (show ¬ a.E = b.E from fun e => hh (by rw [e]))]; (try simp)
                  have HY : Hid (gt a.E j = gt b.E j → ∀ i, i < j + 1 → gt a.E i = gt b.E i) := Lib.hid fun hh i hi => by
                    rcases Nat.lt_or_ge i j with h1 | h1
                    · exact HF.out i h1
                    · obtain rfl : i = j := by omega
                      exact hh
                  clear hr hr2 HF hlt2
                  generalize gt a.E j = x at *
                  generalize gt b.E j = y at *
                  by_cases he : x = y
                  · have hq' : ∀ W, (binOp .neq 42 (.agg #[.string x.key, .int .i64 x.window, .string x.part, .int .i64 x.first, .int .i64 x.last, .int .i64 x.rows, .int .i64 x.size, .int .u32 x.sum, .int .i64 x.born]) (.agg #[.string y.key, .int .i64 y.window, .string y.part, .int .i64 y.first, .int .i64 y.last, .int .i64 y.rows, .int .i64 y.size, .int .u32 y.sum, .int .i64 y.born])).run Tryz.prog W = .ok (.bool false) W := fun W => by rw [hq, dct he]; rfl
                    have HY2 := Lib.hid (HY.out he)
                    clear hq he
                    go_wp2_with fail
                    go_quiet (fail)
                    go_wp2
                    go_roundw
                    case rel => exact ⟨j + 1, by omega, by go_num, HY2, Lib.hid (below_drewN_ HW.out _)⟩
                    case measure => simp [intOf]; omega
                  · have hq' : ∀ W, (binOp .neq 42 (.agg #[.string x.key, .int .i64 x.window, .string x.part, .int .i64 x.first, .int .i64 x.last, .int .i64 x.rows, .int .i64 x.size, .int .u32 x.sum, .int .i64 x.born]) (.agg #[.string y.key, .int .i64 y.window, .string y.part, .int .i64 y.first, .int .i64 y.last, .int .i64 y.rows, .int .i64 y.size, .int .u32 y.sum, .int .i64 y.born])).run Tryz.prog W = .ok (.bool true) W := fun W => by rw [hq, dcf he]; rfl
                    have HV := Lib.hid (HNo.out he)
                    clear hq he
                    go_wp2_with fail
                    go_quiet (fail)
                    go_wp2
                    go_ret
                    exact ⟨by rw [HV.out]; rfl, below_drewN_ (HB0.out _ HW.out).1 _⟩
                obtain rfl : j = a.E.length := by omega
                have HS1 : Hid (out = (decide (a.M = b.M) && decide (a.O = b.O))) := Lib.hid (by rw [HS.out, dct (show a.E = b.E from eq_all HL3.out HF.out)]; rfl)
                clear HS HF HE1 HE2
                go_wp2
                go_loopw [75] (fun i wr => ∃ j : Nat, j ≤ a.M.length ∧ i = .int .i64 (j : Int) ∧ Hid (∀ i, i < j → gt a.M i = gt b.M i) ∧ Hid (Below (w.heap.size + 2) wm wr)) (fun i _ => a.M.length - (intOf i).toNat)
                case atStart => exact ⟨0, Nat.zero_le _, rfl, Lib.hid (fun i hi => absurd hi (Nat.not_lt_zero i)), HW⟩
                case round =>
                  clear HW s0 s1 s2 s3 s4 s5 t0 t1 t2 t3 t4 t5 hb00 hsz
                  obtain ⟨j, hj, rfl, HF, HW⟩ := hrel
                  obtain ⟨hb00, hsz⟩ := HB0.out wr HW.out
                  obtain ⟨⟨s0, s1, s2, s3, s4, s5⟩, ⟨t0, t1, t2, t3, t4, t5⟩⟩ := HT.out wr HW.out
                  by_cases hlt : j < a.M.length
                  · have hr := HM1.out wr hb00
                    have hr2 := HM2.out wr hb00
                    have hlt2 : j < b.M.length := by rw [← HL4.out]; exact hlt
                    obtain ⟨bb, off, rfl, hbB⟩ := row_addr hr (by omega)
                    obtain ⟨bc, off2, rfl, hbB2⟩ := row_addr hr2 (by omega)
                    obtain ⟨p0, p1⟩ : wr.cell? ⟨bb, off + j * 2, none⟩ = some (.int .i64 (gt a.M j).maker) ∧ wr.cell? ⟨bb, off + j * 2 + 1, none⟩ = some (.int .i64 (gt a.M j).seq) := ⟨row_cell mcs_len hr hlt (j := 0) rfl, row_cell mcs_len hr hlt (j := 1) rfl⟩
                    obtain ⟨v0, v1⟩ : wr.cell? ⟨bc, off2 + j * 2, none⟩ = some (.int .i64 (gt b.M j).maker) ∧ wr.cell? ⟨bc, off2 + j * 2 + 1, none⟩ = some (.int .i64 (gt b.M j).seq) := ⟨row_cell mcs_len hr2 hlt2 (j := 0) rfl, row_cell mcs_len hr2 hlt2 (j := 1) rfl⟩
                    have i0 : (0 : Int) ≤ (j : Int) := by omega
                    have i9 : (j : Int) < (a.M.length : Int) := by omega
                    have i8 : (j : Int) < (b.M.length : Int) := by omega
                    have hq := fun W => neq_mk W (gt a.M j) (gt b.M j)
                    have HNo : Hid (gt a.M j ≠ gt b.M j → out = false) := Lib.hid fun hh => by rw [HS1.out, dcf (show ¬ a.M = b.M from fun e => hh (by rw [e]))]; (try simp)
                    have HY : Hid (gt a.M j = gt b.M j → ∀ i, i < j + 1 → gt a.M i = gt b.M i) := Lib.hid fun hh i hi => by
                      rcases Nat.lt_or_ge i j with h1 | h1
                      · exact HF.out i h1
                      · obtain rfl : i = j := by omega
                        exact hh
                    clear hr hr2 HF hlt2
                    generalize gt a.M j = x at *
                    generalize gt b.M j = y at *
                    by_cases he : x = y
                    · have hq' : ∀ W, (binOp .neq 44 (.agg #[.int .i64 x.maker, .int .i64 x.seq]) (.agg #[.int .i64 y.maker, .int .i64 y.seq])).run Tryz.prog W = .ok (.bool false) W := fun W => by rw [hq, dct he]; rfl
                      have HY2 := Lib.hid (HY.out he)
                      clear hq he
                      go_wp2_with fail
                      go_quiet (fail)
                      go_wp2
                      go_roundw
                      case rel => exact ⟨j + 1, by omega, by go_num, HY2, Lib.hid (below_drewN_ HW.out _)⟩
                      case measure => simp [intOf]; omega
                    · have hq' : ∀ W, (binOp .neq 44 (.agg #[.int .i64 x.maker, .int .i64 x.seq]) (.agg #[.int .i64 y.maker, .int .i64 y.seq])).run Tryz.prog W = .ok (.bool true) W := fun W => by rw [hq, dcf he]; rfl
                      have HV := Lib.hid (HNo.out he)
                      clear hq he
                      go_wp2_with fail
                      go_quiet (fail)
                      go_wp2
                      go_ret
                      exact ⟨by rw [HV.out]; rfl, below_drewN_ (HB0.out _ HW.out).1 _⟩
                  obtain rfl : j = a.M.length := by omega
                  have HS2 : Hid (out = decide (a.O = b.O)) := Lib.hid (by rw [HS1.out, dct (show a.M = b.M from eq_all HL4.out HF.out)]; rfl)
                  clear HS1 HF HM1 HM2
                  go_wp2
                  go_loopw [93] (fun i wr => ∃ j : Nat, j ≤ a.O.length ∧ i = .int .i64 (j : Int) ∧ Hid (∀ i, i < j → gt a.O i = gt b.O i) ∧ Hid (Below (w.heap.size + 2) wm wr)) (fun i _ => a.O.length - (intOf i).toNat)
                  case atStart => exact ⟨0, Nat.zero_le _, rfl, Lib.hid (fun i hi => absurd hi (Nat.not_lt_zero i)), HW⟩
                  case round =>
                    clear HW s0 s1 s2 s3 s4 s5 t0 t1 t2 t3 t4 t5 hb00 hsz
                    obtain ⟨j, hj, rfl, HF, HW⟩ := hrel
                    obtain ⟨hb00, hsz⟩ := HB0.out wr HW.out
                    obtain ⟨⟨s0, s1, s2, s3, s4, s5⟩, ⟨t0, t1, t2, t3, t4, t5⟩⟩ := HT.out wr HW.out
                    by_cases hlt : j < a.O.length
                    · have hr := HO1.out wr hb00
                      have hr2 := HO2.out wr hb00
                      have hlt2 : j < b.O.length := by rw [← HL5.out]; exact hlt
                      obtain ⟨bb, off, rfl, hbB⟩ := row_addr hr (by omega)
                      obtain ⟨bc, off2, rfl, hbB2⟩ := row_addr hr2 (by omega)
                      obtain ⟨p0, p1, p2⟩ : wr.cell? ⟨bb, off + j * 3, none⟩ = some (.int .i64 (gt a.O j).agent) ∧ wr.cell? ⟨bb, off + j * 3 + 1, none⟩ = some (.int .i64 (gt a.O j).life) ∧ wr.cell? ⟨bb, off + j * 3 + 2, none⟩ = some (.int .i64 (gt a.O j).count) := ⟨row_cell ocs_len hr hlt (j := 0) rfl, row_cell ocs_len hr hlt (j := 1) rfl, row_cell ocs_len hr hlt (j := 2) rfl⟩
                      obtain ⟨v0, v1, v2⟩ : wr.cell? ⟨bc, off2 + j * 3, none⟩ = some (.int .i64 (gt b.O j).agent) ∧ wr.cell? ⟨bc, off2 + j * 3 + 1, none⟩ = some (.int .i64 (gt b.O j).life) ∧ wr.cell? ⟨bc, off2 + j * 3 + 2, none⟩ = some (.int .i64 (gt b.O j).count) := ⟨row_cell ocs_len hr2 hlt2 (j := 0) rfl, row_cell ocs_len hr2 hlt2 (j := 1) rfl, row_cell ocs_len hr2 hlt2 (j := 2) rfl⟩
                      have i0 : (0 : Int) ≤ (j : Int) := by omega
                      have i9 : (j : Int) < (a.O.length : Int) := by omega
                      have i8 : (j : Int) < (b.O.length : Int) := by omega
                      have hq := fun W => neq_ow W (gt a.O j) (gt b.O j)
                      have HNo : Hid (gt a.O j ≠ gt b.O j → out = false) := Lib.hid fun hh => by rw [HS2.out, dcf (show ¬ a.O = b.O from fun e => hh (by rw [e]))]; (try simp)
                      have HY : Hid (gt a.O j = gt b.O j → ∀ i, i < j + 1 → gt a.O i = gt b.O i) := Lib.hid fun hh i hi => by
                        rcases Nat.lt_or_ge i j with h1 | h1
                        · exact HF.out i h1
                        · obtain rfl : i = j := by omega
                          exact hh
                      clear hr hr2 HF hlt2
                      generalize gt a.O j = x at *
                      generalize gt b.O j = y at *
                      by_cases he : x = y
                      · have hq' : ∀ W, (binOp .neq 29 (.agg #[.int .i64 x.agent, .int .i64 x.life, .int .i64 x.count]) (.agg #[.int .i64 y.agent, .int .i64 y.life, .int .i64 y.count])).run Tryz.prog W = .ok (.bool false) W := fun W => by rw [hq, dct he]; rfl
                        have HY2 := Lib.hid (HY.out he)
                        clear hq he
                        go_wp2_with fail
                        go_quiet (fail)
                        go_wp2
                        go_roundw
                        case rel => exact ⟨j + 1, by omega, by go_num, HY2, Lib.hid (below_drewN_ HW.out _)⟩
                        case measure => simp [intOf]; omega
                      · have hq' : ∀ W, (binOp .neq 29 (.agg #[.int .i64 x.agent, .int .i64 x.life, .int .i64 x.count]) (.agg #[.int .i64 y.agent, .int .i64 y.life, .int .i64 y.count])).run Tryz.prog W = .ok (.bool true) W := fun W => by rw [hq, dcf he]; rfl
                        have HV := Lib.hid (HNo.out he)
                        clear hq he
                        go_wp2_with fail
                        go_quiet (fail)
                        go_wp2
                        go_ret
                        exact ⟨by rw [HV.out]; rfl, below_drewN_ (HB0.out _ HW.out).1 _⟩
                    obtain rfl : j = a.O.length := by omega
                    have HS3 : Hid (out = true) := Lib.hid (by rw [HS2.out, dct (show a.O = b.O from eq_all HL5.out HF.out)])
                    clear HS2 HF HO1 HO2
                    go_wp2
                    go_ret
                    exact ⟨by rw [HS3.out]; rfl, hb00⟩
            · have te5 : ((a.O.length : Int) != (b.O.length : Int)) = true := net (by omega)
              have HV := Lib.hid (same_no (show headB a b = false by rw [HHd.out]; simp [e5]))
              clear HHd
              (try clear e0); (try clear e1); (try clear e2); (try clear e3); (try clear e4); (try clear e5)
              generalize sameM a b = out at *
              go_wp2
              go_ret
              exact ⟨by rw [HV.out]; rfl, (HB0.out _ HW.out).1⟩
          · have te4 : ((a.M.length : Int) != (b.M.length : Int)) = true := net (by omega)
            have HV := Lib.hid (same_no (show headB a b = false by rw [HHd.out]; simp [e4]))
            clear HHd
            (try clear e0); (try clear e1); (try clear e2); (try clear e3); (try clear e4); (try clear e5)
            generalize sameM a b = out at *
            go_wp2
            go_ret
            exact ⟨by rw [HV.out]; rfl, (HB0.out _ HW.out).1⟩
        · have te3 : ((a.E.length : Int) != (b.E.length : Int)) = true := net (by omega)
          have HV := Lib.hid (same_no (show headB a b = false by rw [HHd.out]; simp [e3]))
          clear HHd
          (try clear e0); (try clear e1); (try clear e2); (try clear e3); (try clear e4); (try clear e5)
          generalize sameM a b = out at *
          go_wp2
          go_ret
          exact ⟨by rw [HV.out]; rfl, (HB0.out _ HW.out).1⟩
      · have te2 : (a.fence != b.fence) = true := net e2
        have HV := Lib.hid (same_no (show headB a b = false by rw [HHd.out]; simp [e2]))
        clear HHd
        (try clear e0); (try clear e1); (try clear e2); (try clear e3); (try clear e4); (try clear e5)
        generalize sameM a b = out at *
        go_wp2
        go_ret
        exact ⟨by rw [HV.out]; rfl, (HB0.out _ HW.out).1⟩
    · have te1 : (a.cut != b.cut) = true := net e1
      have HV := Lib.hid (same_no (show headB a b = false by rw [HHd.out]; simp [e1]))
      clear HHd
      (try clear e0); (try clear e1); (try clear e2); (try clear e3); (try clear e4); (try clear e5)
      generalize sameM a b = out at *
      go_wp2
      go_ret
      exact ⟨by rw [HV.out]; rfl, (HB0.out _ HW.out).1⟩
  · have te0 : (a.gen != b.gen) = true := net e0
    have HV := Lib.hid (same_no (show headB a b = false by rw [HHd.out]; simp [e0]))
    clear HHd
    (try clear e0); (try clear e1); (try clear e2); (try clear e3); (try clear e4); (try clear e5)
    generalize sameM a b = out at *
    go_wp2
    go_ret
    exact ⟨by rw [HV.out]; rfl, (HB0.out _ HW.out).1⟩
end Go.Proofs.YtjbmlhipjceeeaaGreat.Mf
