/- few, fewEdit, lives of the laws; Find of the program (chapter 13). -/
import Derived.Test.YtjbmlhipjceeeaaGreatProg
import Derived.Test.YtjbmlhipjceeeaaGreatMfT
import Derived.Test.YtjbmlhipjceeeaaGreatMfW
namespace Go.Proofs.YtjbmlhipjceeeaaGreat.Mf
set_option linter.unusedVariables false
set_option linter.unusedSimpArgs false
open Go.RowKit Go.Proofs.YtjbmlhipjceeeaaGreat

/-! ### a manifest and an edit in boxes -/
def wm2 (w : World) (m : Md) (p : Pl) (d : Ed) (q : Pd) : World := (w.alloc (.cells #[.int .i64 m.gen, .int .i64 m.cut, .int .i64 m.fence, .slice p.AE m.E.length p.cE, .slice p.AM m.M.length p.cM, .slice p.AO m.O.length p.cO] 26)).alloc (.cells #[.slice q.AA d.add.length q.cA, .slice q.AD d.drop.length q.cD, .slice q.AM d.marks.length q.cM, .int .i64 d.cut, .int .i64 d.fence, .int .i64 d.by_.agent, .int .i64 d.by_.life, .int .i64 d.by_.count] 31)
theorem wm2_below (w : World) (m : Md) (p : Pl) (d : Ed) (q : Pd) {W : World} (hW : Below (w.heap.size + 2) (wm2 w m p d q) W) : Below w.heap.size w W ∧ w.heap.size + 2 ≤ W.heap.size := by
  refine ⟨(((Below.refl w.heap.size w).alloc (Nat.le_refl _) (.cells #[.int .i64 m.gen, .int .i64 m.cut, .int .i64 m.fence, .slice p.AE m.E.length p.cE, .slice p.AM m.M.length p.cM, .slice p.AO m.O.length p.cO] 26)).alloc (by simp) (.cells #[.slice q.AA d.add.length q.cA, .slice q.AD d.drop.length q.cD, .slice q.AM d.marks.length q.cM, .int .i64 d.cut, .int .i64 d.fence, .int .i64 d.by_.agent, .int .i64 d.by_.life, .int .i64 d.by_.count] 31)).trans (hW.mono (by omega)), ?_⟩
  have := hW.size
  unfold wm2 at this
  rw [World.size_alloc, World.size_alloc] at this
  exact this
theorem wm2_at (w : World) (m : Md) (p : Pl) (d : Ed) (q : Pd) {W : World} (hW : Below (w.heap.size + 2) (wm2 w m p d q) W) : (W.cell? ⟨w.heap.size, 0, none⟩ = some (.int .i64 m.gen) ∧ W.cell? ⟨w.heap.size, 1, none⟩ = some (.int .i64 m.cut) ∧ W.cell? ⟨w.heap.size, 2, none⟩ = some (.int .i64 m.fence) ∧ W.cell? ⟨w.heap.size, 3, none⟩ = some (.slice p.AE m.E.length p.cE) ∧ W.cell? ⟨w.heap.size, 4, none⟩ = some (.slice p.AM m.M.length p.cM) ∧ W.cell? ⟨w.heap.size, 5, none⟩ = some (.slice p.AO m.O.length p.cO)) ∧ W.cell? ⟨(w.heap.size + 1), 0, none⟩ = some (.slice q.AA d.add.length q.cA) ∧ W.cell? ⟨(w.heap.size + 1), 1, none⟩ = some (.slice q.AD d.drop.length q.cD) ∧ W.cell? ⟨(w.heap.size + 1), 2, none⟩ = some (.slice q.AM d.marks.length q.cM) ∧ W.cell? ⟨(w.heap.size + 1), 3, none⟩ = some (.int .i64 d.cut) ∧ W.cell? ⟨(w.heap.size + 1), 4, none⟩ = some (.int .i64 d.fence) ∧ W.cell? ⟨(w.heap.size + 1), 5, none⟩ = some (.int .i64 d.by_.agent) ∧ W.cell? ⟨(w.heap.size + 1), 6, none⟩ = some (.int .i64 d.by_.life) ∧ W.cell? ⟨(w.heap.size + 1), 7, none⟩ = some (.int .i64 d.by_.count) := by
  have h1 := (((Blk.new w 26 #[.int .i64 m.gen, .int .i64 m.cut, .int .i64 m.fence, .slice p.AE m.E.length p.cE, .slice p.AM m.M.length p.cM, .slice p.AO m.O.length p.cO]).alloc (.cells #[.slice q.AA d.add.length q.cA, .slice q.AD d.drop.length q.cD, .slice q.AM d.marks.length q.cM, .int .i64 d.cut, .int .i64 d.fence, .int .i64 d.by_.agent, .int .i64 d.by_.life, .int .i64 d.by_.count] 31)).below hW (by omega))
  have h2 := Blk.new (w.alloc (.cells #[.int .i64 m.gen, .int .i64 m.cut, .int .i64 m.fence, .slice p.AE m.E.length p.cE, .slice p.AM m.M.length p.cM, .slice p.AO m.O.length p.cO] 26)) 31 #[.slice q.AA d.add.length q.cA, .slice q.AD d.drop.length q.cD, .slice q.AM d.marks.length q.cM, .int .i64 d.cut, .int .i64 d.fence, .int .i64 d.by_.agent, .int .i64 d.by_.life, .int .i64 d.by_.count]
  rw [World.size_alloc] at h2
  have h3 := Blk.below h2 hW (by omega)
  exact ⟨⟨h1.cell 0, h1.cell 1, h1.cell 2, h1.cell 3, h1.cell 4, h1.cell 5⟩, ⟨h3.cell 0, h3.cell 1, h3.cell 2, h3.cell 3, h3.cell 4, h3.cell 5, h3.cell 6, h3.cell 7⟩⟩

/-! ### few -/
def few1 (x : En) : Bool := decide (x.key.size ≤ 100) && decide (x.part.size ≤ 1200)
def fewB (m : Md) : Bool := decide (m.E.length ≤ 300) && decide (m.M.length ≤ 100) && decide (m.O.length ≤ 20) && m.E.all few1
theorem few_f {m : Md} (h : fewB m = true) : m.E.length ≤ 300 ∧ m.M.length ≤ 100 ∧ m.O.length ≤ 20 ∧ ∀ x ∈ m.E, x.key.size ≤ 100 ∧ x.part.size ≤ 1200 := by
  unfold fewB few1 at h
  simp only [Bool.and_eq_true, List.all_eq_true, decide_eq_true_eq] at h
  exact ⟨h.1.1.1, h.1.1.2, h.1.2, h.2⟩
set_option maxRecDepth 100000 in
set_option maxHeartbeats 3200000 in
theorem few_calls (w : World) {B : Nat} {m : Md} {p : Pl} (h : Man w B m p) (hB : B ≤ w.heap.size) : Calls Tryz.prog 9 #[mdV m p] w fun e w' => e = .returned (.bool (fewB m)) ∧ Below w.heap.size w w' := by
  have HT : Hid (∀ W, Below (w.heap.size + 1) (w.alloc (.cells #[.int .i64 m.gen, .int .i64 m.cut, .int .i64 m.fence, .slice p.AE m.E.length p.cE, .slice p.AM m.M.length p.cM, .slice p.AO m.O.length p.cO] 26)) W → W.cell? ⟨w.heap.size, 0, none⟩ = some (.int .i64 m.gen) ∧ W.cell? ⟨w.heap.size, 1, none⟩ = some (.int .i64 m.cut) ∧ W.cell? ⟨w.heap.size, 2, none⟩ = some (.int .i64 m.fence) ∧ W.cell? ⟨w.heap.size, 3, none⟩ = some (.slice p.AE m.E.length p.cE) ∧ W.cell? ⟨w.heap.size, 4, none⟩ = some (.slice p.AM m.M.length p.cM) ∧ W.cell? ⟨w.heap.size, 5, none⟩ = some (.slice p.AO m.O.length p.cO)) := Lib.hid fun W hW => by
    have h1 := (Blk.new w 26 #[.int .i64 m.gen, .int .i64 m.cut, .int .i64 m.fence, .slice p.AE m.E.length p.cE, .slice p.AM m.M.length p.cM, .slice p.AO m.O.length p.cO]).below hW (by omega)
    exact ⟨h1.cell 0, h1.cell 1, h1.cell 2, h1.cell 3, h1.cell 4, h1.cell 5⟩
  have HB0 : Hid (∀ W, Below (w.heap.size + 1) (w.alloc (.cells #[.int .i64 m.gen, .int .i64 m.cut, .int .i64 m.fence, .slice p.AE m.E.length p.cE, .slice p.AM m.M.length p.cM, .slice p.AO m.O.length p.cO] 26)) W → Below w.heap.size w W ∧ w.heap.size + 1 ≤ W.heap.size) := Lib.hid fun W hW => ⟨((Below.refl w.heap.size w).alloc (Nat.le_refl _) _).trans (hW.mono (by omega)), by have := hW.size; simp at this; omega⟩
  have HR := Lib.hid fun W (hW : Below w.heap.size w W) => h.re.below (hW.mono hB)
  have HD : Hid (fewB m = (decide (m.E.length ≤ 300) && decide (m.M.length ≤ 100) && decide (m.O.length ≤ 20) && m.E.all few1)) := Lib.hid rfl
  have hle := h.le
  have hlm := h.lm
  have hlo := h.lo
  clear h
  generalize fewB m = out at *
  obtain ⟨AE, cE, AM, cM, AO, cO⟩ := p
  dsimp only at *
  have HW := Lib.hid (Below.refl (w.heap.size + 1) (w.alloc (.cells #[.int .i64 m.gen, .int .i64 m.cut, .int .i64 m.fence, .slice AE m.E.length cE, .slice AM m.M.length cM, .slice AO m.O.length cO] 26)))
  go_enter Tryz.func9, Tryz.ntmps9
  by_cases e0 : m.E.length ≤ 300
  · have te0 : decide ((300 : Int) < (m.E.length : Int)) = false := dcf (by omega)
    by_cases e1 : m.M.length ≤ 100
    · have te1 : decide ((100 : Int) < (m.M.length : Int)) = false := dcf (by omega)
      by_cases e2 : m.O.length ≤ 20
      · have te2 : decide ((20 : Int) < (m.O.length : Int)) = false := dcf (by omega)
        have HD2 : Hid (out = m.E.all few1) := Lib.hid (by rw [HD.out, dct e0, dct e1, dct e2]; rfl)
        clear e0 e1 e2 HD
        go_wp2
        generalize w.alloc (.cells #[.int .i64 m.gen, .int .i64 m.cut, .int .i64 m.fence, .slice AE m.E.length cE, .slice AM m.M.length cM, .slice AO m.O.length cO] 26) = wm at *
        go_loopw [24] (fun i wr => ∃ j : Nat, j ≤ m.E.length ∧ i = .int .i64 (j : Int) ∧ Hid (∀ i, i < j → few1 (gt m.E i) = true) ∧ Hid (Below (w.heap.size + 1) wm wr)) (fun i _ => m.E.length - (intOf i).toNat)
        case atStart => exact ⟨0, Nat.zero_le _, rfl, Lib.hid (fun i hi => absurd hi (Nat.not_lt_zero i)), HW⟩
        case round =>
          clear HW
          obtain ⟨j, hj, rfl, HF, HW⟩ := hrel
          obtain ⟨hb00, hsz⟩ := HB0.out wr HW.out
          by_cases hlt : j < m.E.length
          · have hr := HR.out wr hb00
            obtain ⟨b, off, rfl, hbB⟩ := row_addr hr (by omega)
            obtain ⟨p0, p1, p2, p3, p4, p5, p6, p7, p8⟩ : wr.cell? ⟨b, off + j * 9, none⟩ = some (.string (gt m.E j).key) ∧ wr.cell? ⟨b, off + j * 9 + 1, none⟩ = some (.int .i64 (gt m.E j).window) ∧ wr.cell? ⟨b, off + j * 9 + 2, none⟩ = some (.string (gt m.E j).part) ∧ wr.cell? ⟨b, off + j * 9 + 3, none⟩ = some (.int .i64 (gt m.E j).first) ∧ wr.cell? ⟨b, off + j * 9 + 4, none⟩ = some (.int .i64 (gt m.E j).last) ∧ wr.cell? ⟨b, off + j * 9 + 5, none⟩ = some (.int .i64 (gt m.E j).rows) ∧ wr.cell? ⟨b, off + j * 9 + 6, none⟩ = some (.int .i64 (gt m.E j).size) ∧ wr.cell? ⟨b, off + j * 9 + 7, none⟩ = some (.int .u32 (gt m.E j).sum) ∧ wr.cell? ⟨b, off + j * 9 + 8, none⟩ = some (.int .i64 (gt m.E j).born) := ⟨row_cell ecs_len hr hlt (j := 0) rfl, row_cell ecs_len hr hlt (j := 1) rfl, row_cell ecs_len hr hlt (j := 2) rfl, row_cell ecs_len hr hlt (j := 3) rfl, row_cell ecs_len hr hlt (j := 4) rfl, row_cell ecs_len hr hlt (j := 5) rfl, row_cell ecs_len hr hlt (j := 6) rfl, row_cell ecs_len hr hlt (j := 7) rfl, row_cell ecs_len hr hlt (j := 8) rfl⟩
            have HE : Hid (Below (w.heap.size + 1) wm (wr.alloc (.cells #[.string (gt m.E j).key, .int .i64 (gt m.E j).window, .string (gt m.E j).part, .int .i64 (gt m.E j).first, .int .i64 (gt m.E j).last, .int .i64 (gt m.E j).rows, .int .i64 (gt m.E j).size, .int .u32 (gt m.E j).sum, .int .i64 (gt m.E j).born] 42))) := Lib.hid (HW.out.alloc hsz _)
            have HNo : Hid (few1 (gt m.E j) = false → out = false) := Lib.hid fun hh => by rw [HD2.out, all_no hlt hh]
            have HY := Lib.hid (fun hh => all_step (p := few1) HF.out hh)
            have HX : Hid (few1 (gt m.E j) = (decide ((gt m.E j).key.size ≤ 100) && decide ((gt m.E j).part.size ≤ 1200))) := Lib.hid rfl
            clear hr HF
            generalize gt m.E j = x at *
            by_cases e3 : x.key.size ≤ 100
            · have t3 : decide ((100 : Int) < (x.key.size : Int)) = false := dcf (by omega)
              by_cases e4 : x.part.size ≤ 1200
              · have t4 : decide ((1200 : Int) < (x.part.size : Int)) = false := dcf (by omega)
                have HY2 := Lib.hid (HY.out (by rw [HX.out, dct e3, dct e4]; rfl))
                clear e3 e4 HX HNo HY
                go_wp2
                go_roundw
                case rel => exact ⟨j + 1, by omega, by go_num, HY2, HE⟩
                case measure => simp [intOf]; omega
              · have t4 : decide ((1200 : Int) < (x.part.size : Int)) = true := dct (by omega)
                have HV := Lib.hid (HNo.out (by rw [HX.out, dcf e4]; simp))
                clear e3 e4 HX HNo HY
                go_wp2
                go_ret
                exact ⟨by rw [HV.out]; rfl, (HB0.out _ HE.out).1⟩
            have t3 : decide ((100 : Int) < (x.key.size : Int)) = true := dct (by omega)
            have HV := Lib.hid (HNo.out (by rw [HX.out, dcf e3]; simp))
            clear e3 HX HNo HY
            go_wp2
            go_ret
            exact ⟨by rw [HV.out]; rfl, (HB0.out _ HE.out).1⟩
          obtain rfl : j = m.E.length := by omega
          have HV : Hid (out = true) := Lib.hid (by rw [HD2.out, all_yes HF.out])
          go_wp2
          go_ret
          exact ⟨by rw [HV.out]; rfl, hb00⟩
      · have te2 : decide ((20 : Int) < (m.O.length : Int)) = true := dct (by omega)
        have HV : Hid (out = false) := Lib.hid (by rw [HD.out, dcf e2]; simp)
        (try clear e0); (try clear e1); (try clear e2)
        clear HD
        go_wp2
        go_ret
        exact ⟨by rw [HV.out]; rfl, (HB0.out _ HW.out).1⟩
    · have te1 : decide ((100 : Int) < (m.M.length : Int)) = true := dct (by omega)
      have HV : Hid (out = false) := Lib.hid (by rw [HD.out, dcf e1]; simp)
      (try clear e0); (try clear e1); (try clear e2)
      clear HD
      go_wp2
      go_ret
      exact ⟨by rw [HV.out]; rfl, (HB0.out _ HW.out).1⟩
  · have te0 : decide ((300 : Int) < (m.E.length : Int)) = true := dct (by omega)
    have HV : Hid (out = false) := Lib.hid (by rw [HD.out, dcf e0]; simp)
    (try clear e0); (try clear e1); (try clear e2)
    clear HD
    go_wp2
    go_ret
    exact ⟨by rw [HV.out]; rfl, (HB0.out _ HW.out).1⟩
def fewD (d : Ed) : Bool := decide (d.drop.length ≤ 60) && decide (d.add.length ≤ 60) && decide (d.marks.length ≤ 100) && fewB ⟨0, 0, 0, d.add, [], []⟩
theorem fewD_f {d : Ed} (h : fewD d = true) : d.drop.length ≤ 60 ∧ d.add.length ≤ 60 ∧ d.marks.length ≤ 100 ∧ ∀ x ∈ d.add, x.key.size ≤ 100 ∧ x.part.size ≤ 1200 := by
  unfold fewD at h
  simp only [Bool.and_eq_true, decide_eq_true_eq] at h
  exact ⟨h.1.1.1, h.1.1.2, h.1.2, (few_f h.2).2.2.2⟩
set_option maxRecDepth 100000 in
set_option maxHeartbeats 3200000 in
theorem fewD_calls (w : World) {B : Nat} {d : Ed} {q : Pd} (h : Edi w B d q) (hB : B ≤ w.heap.size) : Calls Tryz.prog 10 #[edV d q] w fun e w' => e = .returned (.bool (fewD d)) ∧ Below w.heap.size w w' := by
  have hb0 : Below w.heap.size w (w.alloc (.cells #[.slice q.AA d.add.length q.cA, .slice q.AD d.drop.length q.cD, .slice q.AM d.marks.length q.cM, .int .i64 d.cut, .int .i64 d.fence, .int .i64 d.by_.agent, .int .i64 d.by_.life, .int .i64 d.by_.count] 31)) := (Below.refl w.heap.size w).alloc (Nat.le_refl _) _
  have HC : Hid (Calls Tryz.prog 9 #[.agg #[.int .i64 0, .int .i64 0, .int .i64 0, .slice q.AA d.add.length q.cA, .slice none 0 0, .slice none 0 0]] (w.alloc (.cells #[.slice q.AA d.add.length q.cA, .slice q.AD d.drop.length q.cD, .slice q.AM d.marks.length q.cM, .int .i64 d.cut, .int .i64 d.fence, .int .i64 d.by_.agent, .int .i64 d.by_.life, .int .i64 d.by_.count] 31)) fun e w' => e = .returned (.bool (fewB ⟨0, 0, 0, d.add, [], []⟩)) ∧ Below w.heap.size w w') := Lib.hid (by
    refine (few_calls (w.alloc (.cells #[.slice q.AA d.add.length q.cA, .slice q.AD d.drop.length q.cD, .slice q.AM d.marks.length q.cM, .int .i64 d.cut, .int .i64 d.fence, .int .i64 d.by_.agent, .int .i64 d.by_.life, .int .i64 d.by_.count] 31)) (B := B) (m := ⟨0, 0, 0, d.add, [], []⟩) (p := ⟨q.AA, q.cA, none, 0, none, 0⟩) ⟨h.ra.below (hb0.mono hB), Reads.none_, Reads.none_, h.la, Nat.zero_le _, Nat.zero_le _, h.ca, Nat.le_refl _, Nat.le_refl _, h.ok⟩ (by simp; omega)).mono ?_
    rintro e w' ⟨rfl, hb⟩
    exact ⟨rfl, hb0.trans (hb.mono (by simp))⟩)
  have HB := Lib.hid hb0
  have HD : Hid (fewD d = (decide (d.drop.length ≤ 60) && decide (d.add.length ≤ 60) && decide (d.marks.length ≤ 100) && fewB ⟨0, 0, 0, d.add, [], []⟩)) := Lib.hid rfl
  clear h hb0
  generalize fewD d = out at *
  generalize fewB ⟨0, 0, 0, d.add, [], []⟩ = fb at *
  go_enter Tryz.func10, Tryz.ntmps10
  by_cases e0 : d.drop.length ≤ 60
  · have te0 : decide ((60 : Int) < (d.drop.length : Int)) = false := dcf (by omega)
    by_cases e1 : d.add.length ≤ 60
    · have te1 : decide ((60 : Int) < (d.add.length : Int)) = false := dcf (by omega)
      by_cases e2 : d.marks.length ≤ 100
      · have te2 : decide ((100 : Int) < (d.marks.length : Int)) = false := dcf (by omega)
        have HV : Hid (out = fb) := Lib.hid (by rw [HD.out, dct e0, dct e1, dct e2]; rfl)
        clear e0 e1 e2 HD
        go_wp2_with (go_at_call 9; refine HC.out.mono ?_; rintro e w1 ⟨rfl, hb1⟩)
        go_ret
        exact ⟨by rw [HV.out]; rfl, hb1⟩
      · have te2 : decide ((100 : Int) < (d.marks.length : Int)) = true := dct (by omega)
        have HV : Hid (out = false) := Lib.hid (by rw [HD.out, dcf e2]; simp)
        (try clear e0); (try clear e1); (try clear e2)
        clear HD
        go_wp2
        go_ret
        exact ⟨by rw [HV.out]; rfl, HB.out⟩
    · have te1 : decide ((60 : Int) < (d.add.length : Int)) = true := dct (by omega)
      have HV : Hid (out = false) := Lib.hid (by rw [HD.out, dcf e1]; simp)
      (try clear e0); (try clear e1); (try clear e2)
      clear HD
      go_wp2
      go_ret
      exact ⟨by rw [HV.out]; rfl, HB.out⟩
  · have te0 : decide ((60 : Int) < (d.drop.length : Int)) = true := dct (by omega)
    have HV : Hid (out = false) := Lib.hid (by rw [HD.out, dcf e0]; simp)
    (try clear e0); (try clear e1); (try clear e2)
    clear HD
    go_wp2
    go_ret
    exact ⟨by rw [HV.out]; rfl, HB.out⟩

/-! ### lives -/
def d0 : Ed := ⟨[], [], [⟨1, 5⟩], 0, 0, ⟨1, 1, 1⟩⟩
def M0 : Md := ⟨1, 0, 0, [], [⟨1, 5⟩], [⟨1, 1, 1⟩]⟩
theorem fine0 : Fine zeroM d0 where
  right := right_iff.2 ⟨by decide, by decide, by decide, by decide, fun x hx => (by cases hx), fun x hx => (by cases hx), List.Pairwise.nil, fun x hx => (by cases hx), List.Pairwise.nil, fun x hx => (by cases hx), List.Pairwise.nil⟩
  edit := edit_iff.2 ⟨fun x hx => (by cases hx), fun x hx => (by cases hx), List.nodup_nil, List.nodup_nil, fun x hx => (by rw [show x = ⟨1, 5⟩ by simpa [d0] using hx]; decide), (by simp [d0]), by decide, by decide, by decide⟩
  ver := rfl
  dup := by decide
  lost := rfl
  fen := rfl
  exi := rfl
  gen := by decide
theorem app0 : appE zeroM d0 = 0 ∧ appM zeroM d0 = M0 := by
  have h : appE zeroM d0 = 0 := by unfold appE; rw [if_neg (by rw [refE_fine.2 fine0]; decide), if_neg (by decide)]
  refine ⟨h, ?_⟩
  unfold appM
  rw [if_pos h]
  rfl
set_option maxRecDepth 100000 in
set_option maxHeartbeats 1600000 in
theorem lives_calls (w : World) (hm : Sh w) : Calls Tryz.prog 8 #[] w fun e w' => e = .returned (.bool true) ∧ Below w.heap.size w w' := by
  have hb0 := (Below.refl w.heap.size w).alloc (Nat.le_refl _) (.cells #[.int .i64 1, .int .i64 5] 44)
  have HA : Hid (Calls Tryz.prog 12 #[.agg #[.int .i64 0, .int .i64 0, .int .i64 0, .slice none 0 0, .slice none 0 0, .slice none 0 0], .agg #[.slice none 0 0, .slice none 0 0, .slice (some ⟨w.heap.size, 0, none⟩) 1 1, .int .i64 0, .int .i64 0, .int .i64 1, .int .i64 1, .int .i64 1]] (w.alloc (.cells #[.int .i64 1, .int .i64 5] 44)) fun e w' => ∃ pz, e = .returned (.tuple #[mdV M0 pz, .int .i64 0]) ∧ Man w' w'.heap.size M0 pz ∧ Below w.heap.size w w') := Lib.hid (by
    have hman : Man (w.alloc (.cells #[.int .i64 1, .int .i64 5] 44)) 0 zeroM nilP := ⟨Reads.none_, Reads.none_, Reads.none_, Nat.zero_le _, Nat.zero_le _, Nat.zero_le _, Nat.le_refl _, Nat.le_refl _, Nat.le_refl _, fun x hx => by cases hx⟩
    have hedi : Edi (w.alloc (.cells #[.int .i64 1, .int .i64 5] 44)) (w.heap.size + 1) d0 ⟨none, 0, none, 0, some ⟨w.heap.size, 0, none⟩, 1⟩ := ⟨Reads.none_, Reads.none_, Reads.made (n := 1) (size := 2) w #[.int .i64 1, .int .i64 5] 44 rfl, Nat.zero_le _, Nat.zero_le _, by decide, Nat.le_refl _, Nat.le_refl _, Nat.le_refl _, fun x hx => by (cases hx), fun x hx => by (cases hx)⟩
    refine (apply_calls _ (hman.more (Nat.zero_le _)) hedi (by simp) (fun x hx => by cases hx) (fun x hx => by cases hx) (hm.below hb0 hm.lt)).mono ?_
    rintro e w' ⟨pz, rfl, hmo, hb⟩
    rw [app0.1, app0.2] at *
    exact ⟨pz, rfl, hmo.man (by decide) (by decide) (by decide) (fun x hx => by cases hx), hb0.trans (hb.mono (by simp))⟩)
  clear hm hb0
  go_enter Tryz.func8, Tryz.ntmps8
  go_wp2_with fail
  refine HA.out.mono ?_
  rintro e w1 ⟨pz, rfl, hman, hb1⟩
  have hb2 := (Below.refl w1.heap.size w1).alloc (Nat.le_refl _) (.cells #[.int .i64 M0.gen, .int .i64 M0.cut, .int .i64 M0.fence, .slice pz.AE M0.E.length pz.cE, .slice pz.AM M0.M.length pz.cM, .slice pz.AO M0.O.length pz.cO] 26)
  have HMk := Lib.hid (mark_of _ (hman.below hb2) (by simp) 1)
  have HDd := Lib.hid fun W (hW : Below w1.heap.size w1 W) => did_of W (hman.below hW) hW.size ⟨1, 1, 1⟩
  have HB2 := Lib.hid hb2
  have HB1 := Lib.hid hb1
  have hs1 := hb1.size
  have HK : Hid (∀ W, Below (w1.heap.size + 1) (w1.alloc (.cells #[.int .i64 M0.gen, .int .i64 M0.cut, .int .i64 M0.fence, .slice pz.AE M0.E.length pz.cE, .slice pz.AM M0.M.length pz.cM, .slice pz.AO M0.O.length pz.cO] 26)) W → W.cell? ⟨w1.heap.size, 0, none⟩ = some (.int .i64 M0.gen) ∧ W.cell? ⟨w1.heap.size, 1, none⟩ = some (.int .i64 M0.cut) ∧ W.cell? ⟨w1.heap.size, 2, none⟩ = some (.int .i64 M0.fence) ∧ W.cell? ⟨w1.heap.size, 3, none⟩ = some (.slice pz.AE M0.E.length pz.cE) ∧ W.cell? ⟨w1.heap.size, 4, none⟩ = some (.slice pz.AM M0.M.length pz.cM) ∧ W.cell? ⟨w1.heap.size, 5, none⟩ = some (.slice pz.AO M0.O.length pz.cO)) := Lib.hid fun W hW => by
    have h1 := (Blk.new w1 26 #[.int .i64 M0.gen, .int .i64 M0.cut, .int .i64 M0.fence, .slice pz.AE M0.E.length pz.cE, .slice pz.AM M0.M.length pz.cM, .slice pz.AO M0.O.length pz.cO]).below hW (by omega)
    exact ⟨h1.cell 0, h1.cell 1, h1.cell 2, h1.cell 3, h1.cell 4, h1.cell 5⟩
  clear hman hb2 hb1 HA
  go_wp2_with first | (go_at_call 24; refine HMk.out.mono ?_; rintro e w2 ⟨rfl, hb3⟩; have hb4 : Below w1.heap.size w1 w2 := HB2.out.trans (hb3.mono (by simp)); obtain ⟨q0, q1, q2, q3, q4, q5⟩ := HK.out w2 (hb3.mono (by simp)); have HD2 := Lib.hid (HDd.out w2 hb4)) | (go_at_call 23; refine HD2.out.mono ?_; rintro e w3 ⟨rfl, hb5⟩)
  go_ret
  exact ⟨rfl, HB1.out.trans ((hb4.trans (hb5.mono hb4.size)).mono hs1)⟩

/-! ### Find -/
/-- Nine cells written one behind the other. -/
def set9 (w : World) (g : Nat) (v0 v1 v2 v3 v4 v5 v6 v7 v8 : Value) : World := (((((((((w).setCell ⟨g, 0, none⟩ v0).setCell ⟨g, 1, none⟩ v1).setCell ⟨g, 2, none⟩ v2).setCell ⟨g, 3, none⟩ v3).setCell ⟨g, 4, none⟩ v4).setCell ⟨g, 5, none⟩ v5).setCell ⟨g, 6, none⟩ v6).setCell ⟨g, 7, none⟩ v7).setCell ⟨g, 8, none⟩ v8
theorem set9_blk {w : World} {g : Nat} {t : TypeId} {a0 a1 a2 a3 a4 a5 a6 a7 a8 : Value} (h : Blk w g t #[a0, a1, a2, a3, a4, a5, a6, a7, a8]) (v0 v1 v2 v3 v4 v5 v6 v7 v8 : Value) : Blk (set9 w g v0 v1 v2 v3 v4 v5 v6 v7 v8) g t #[v0, v1, v2, v3, v4, v5, v6, v7, v8] := by
  have := (((((((((h).set_ 0 v0).set_ 1 v1).set_ 2 v2).set_ 3 v3).set_ 4 v4).set_ 5 v5).set_ 6 v6).set_ 7 v7).set_ 8 v8
  simpa [set9] using this
theorem set9_below {a w : World} {B g : Nat} (h : Below B a w) (hB : B ≤ g) (v0 v1 v2 v3 v4 v5 v6 v7 v8 : Value) : Below B a (set9 w g v0 v1 v2 v3 v4 v5 v6 v7 v8) :=
  (((((((((h).setCell (p := ⟨g, 0, none⟩) hB v0).setCell (p := ⟨g, 1, none⟩) hB v1).setCell (p := ⟨g, 2, none⟩) hB v2).setCell (p := ⟨g, 3, none⟩) hB v3).setCell (p := ⟨g, 4, none⟩) hB v4).setCell (p := ⟨g, 5, none⟩) hB v5).setCell (p := ⟨g, 6, none⟩) hB v6).setCell (p := ⟨g, 7, none⟩) hB v7).setCell (p := ⟨g, 8, none⟩) hB v8
theorem set9_size (w : World) (g : Nat) (v0 v1 v2 v3 v4 v5 v6 v7 v8 : Value) : (set9 w g v0 v1 v2 v3 v4 v5 v6 v7 v8).heap.size = w.heap.size := by simp [set9]
theorem find_at {k : ByteArray} : ∀ {l : List En} {j : Nat}, j < l.length → (∀ i, i < j → keyIs k (gt l i) = false) → keyIs k (gt l j) = true → l.find? (keyIs k) = some (gt l j)
  | [], j, hj, _, _ => absurd hj (by simp)
  | x :: r, 0, _, _, h => by rw [List.find?_cons, show keyIs k x = true from h]; rfl
  | x :: r, j + 1, hj, h1, h2 => by
    rw [List.find?_cons, show keyIs k x = false from h1 0 (by omega)]
    exact find_at (l := r) (j := j) (by simpa using hj) (fun i hi => h1 (i + 1) (by omega)) h2
theorem find_no {k : ByteArray} {l : List En} (h : ∀ i, i < l.length → keyIs k (gt l i) = false) : l.find? (keyIs k) = none := by
  rw [List.find?_eq_none]
  intro x hx
  obtain ⟨i, hi, rfl⟩ := mem_gt hx
  rw [h i hi]
  decide
end Go.Proofs.YtjbmlhipjceeeaaGreat.Mf
