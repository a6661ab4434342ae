/- right: is an edit right? Of the program (chapter 13). -/
import Derived.Test.YtjbmlhipjceeeaaGreatProg
import Derived.Test.YtjbmlhipjceeeaaGreatMfK
namespace Go.Proofs.YtjbmlhipjceeeaaGreat.Mf
set_option linter.unusedVariables false
set_option linter.unusedSimpArgs false
open Go.RowKit Go.Proofs.YtjbmlhipjceeeaaGreat

noncomputable abbrev kS : KeyT Tryz.prog 9 ByteArray := strT Tryz.underlying9
abbrev evT : Unit → Value := fun _ => .bool true
theorem all_step {α : Type} [Inhabited α] {p : α → Bool} {l : List α} {k : Nat} (h : ∀ i, i < k → p (gt l i) = true) (h1 : p (gt l k) = true) : ∀ i, i < k + 1 → p (gt l i) = true := by
  intro i hi
  rcases Nat.lt_or_ge i k with h3 | h3
  · exact h i h3
  · obtain rfl : i = k := by omega
    exact h1
theorem all_yes {α : Type} [Inhabited α] {p : α → Bool} {l : List α} (h : ∀ i, i < l.length → p (gt l i) = true) : l.all p = true := by
  rw [List.all_eq_true]
  intro x hx
  obtain ⟨i, hi, rfl⟩ := mem_gt hx
  exact h i hi
theorem all_no {α : Type} [Inhabited α] {p : α → Bool} {l : List α} {k : Nat} (hk : k < l.length) (h : p (gt l k) = false) : l.all p = false := by
  rw [List.all_eq_false]
  exact ⟨_, gt_mem hk, by rw [h]; decide⟩
theorem strs_cell {w : World} {B b off : Nat} {l : List ByteArray} (h : Reads w B 1 (some ⟨b, off, none⟩) l.length (l.map Value.string)) {i : Nat} (hi : i < l.length) : w.cell? ⟨b, off + i, none⟩ = some (.string (gt l i)) := by
  obtain ⟨b', off', e, _, hc⟩ := h.2 (by omega)
  injection e with e
  injection e with e1 e2
  subst e1 e2
  exact hc i _ (by rw [List.getElem?_map, gt_at hi]; rfl)

set_option maxRecDepth 100000 in
set_option maxHeartbeats 3200000 in
theorem edit_calls (w : World) {B : Nat} {d : Ed} {p : Pd} (h : Edi w B d p) (hB : B ≤ w.heap.size) (hs : Short d.add) (hm : Sh w) : Calls Tryz.prog 25 #[edV d p] w fun e w' => e = .returned (.bool (editB d)) ∧ Below w.heap.size w w' := by
  have HK : Hid (∀ W, Below (w.heap.size + 1) (w.alloc (.cells #[.slice p.AA d.add.length p.cA, .slice p.AD d.drop.length p.cD, .slice p.AM d.marks.length p.cM, .int .i64 d.cut, .int .i64 d.fence, .int .i64 d.by_.agent, .int .i64 d.by_.life, .int .i64 d.by_.count] 31)) W → W.cell? ⟨w.heap.size, 0, none⟩ = some (.slice p.AA d.add.length p.cA) ∧ W.cell? ⟨w.heap.size, 1, none⟩ = some (.slice p.AD d.drop.length p.cD) ∧ W.cell? ⟨w.heap.size, 2, none⟩ = some (.slice p.AM d.marks.length p.cM) ∧ W.cell? ⟨w.heap.size, 3, none⟩ = some (.int .i64 d.cut) ∧ W.cell? ⟨w.heap.size, 4, none⟩ = some (.int .i64 d.fence) ∧ W.cell? ⟨w.heap.size, 5, none⟩ = some (.int .i64 d.by_.agent) ∧ W.cell? ⟨w.heap.size, 6, none⟩ = some (.int .i64 d.by_.life) ∧ W.cell? ⟨w.heap.size, 7, none⟩ = some (.int .i64 d.by_.count)) := Lib.hid fun W hW => by
    have hb := (Blk.new w 31 #[.slice p.AA d.add.length p.cA, .slice p.AD d.drop.length p.cD, .slice p.AM d.marks.length p.cM, .int .i64 d.cut, .int .i64 d.fence, .int .i64 d.by_.agent, .int .i64 d.by_.life, .int .i64 d.by_.count]).below hW (Nat.lt_succ_self _)
    exact ⟨hb.cell 0, hb.cell 1, hb.cell 2, hb.cell 3, hb.cell 4, hb.cell 5, hb.cell 6, hb.cell 7⟩
  have HB0 : Hid (∀ W, Below (w.heap.size + 1) (w.alloc (.cells #[.slice p.AA d.add.length p.cA, .slice p.AD d.drop.length p.cD, .slice p.AM d.marks.length p.cM, .int .i64 d.cut, .int .i64 d.fence, .int .i64 d.by_.agent, .int .i64 d.by_.life, .int .i64 d.by_.count] 31)) W → Below w.heap.size w W ∧ w.heap.size + 1 ≤ W.heap.size) := Lib.hid fun W hW => ⟨((Below.refl w.heap.size w).alloc (Nat.le_refl _) _).trans (hW.mono (by omega)), by have := hW.size; rw [World.size_alloc] at this; exact this⟩
  have HRA := Lib.hid fun W (hW : Below w.heap.size w W) => h.ra.below (hW.mono hB)
  have HRD := Lib.hid fun W (hW : Below w.heap.size w W) => h.rd.below (hW.mono hB)
  have HM := Lib.hid fun W (hW : Below w.heap.size w W) => risingP_calls W (c := p.cM) (h.rm.below (hW.mono hB)) (by have := hW.size; omega) h.lm
  have HX := Lib.hid fun x (hx : x ∈ d.add) W (hW : Below w.heap.size w W) => entry_calls x W (h.ok x hx) (hs x hx) (hm.below hW hm.lt)
  have HKs : Hid (∀ x ∈ d.add, x.key.size ≤ maxLen) := Lib.hid fun x hx => Nat.le_trans (h.ok x hx).key (by unfold maxLen; omega)
  have HDs : Hid (∀ x ∈ d.drop, x.size ≤ 140737488351232) := Lib.hid fun x hx => h.okd x hx
  have HN := Lib.hid num_calls
  have HW := Lib.hid (owner_calls d.by_)
  have HD : Hid (editB d = (d.add.all enB && d.drop.all keyB && decide (keys d.add).Nodup && decide d.drop.Nodup && risB mkB ltP d.marks && numB d.cut 0 && numB d.fence 0 && owB d.by_)) := Lib.hid rfl
  have HU : Hid (Tryz.prog.underlying 102 = some (.map 9 4)) := Lib.hid Tryz.underlying102
  have hla := h.la
  have hld := h.ld
  clear h hs hm
  generalize editB d = out at *
  have hmm := @run_makeMap Tryz.prog
  obtain ⟨AA, cA, AD, cD, AM, cM⟩ := p
  dsimp only at *
  go_enter Tryz.func25, Tryz.ntmps25
  go_wp2
  have hW0 : Hid (Below (w.heap.size + 1) (w.alloc (.cells #[.slice AA d.add.length cA, .slice AD d.drop.length cD, .slice AM d.marks.length cM, .int .i64 d.cut, .int .i64 d.fence, .int .i64 d.by_.agent, .int .i64 d.by_.life, .int .i64 d.by_.count] 31)) (w.alloc (.cells #[.slice AA d.add.length cA, .slice AD d.drop.length cD, .slice AM d.marks.length cM, .int .i64 d.cut, .int .i64 d.fence, .int .i64 d.by_.agent, .int .i64 d.by_.life, .int .i64 d.by_.count] 31))) := Lib.hid (Below.refl _ _)
  have HM1 : Hid (MapAt kS evT ((w.alloc (.cells #[.slice AA d.add.length cA, .slice AD d.drop.length cD, .slice AM d.marks.length cM, .int .i64 d.cut, .int .i64 d.fence, .int .i64 d.by_.agent, .int .i64 d.by_.life, .int .i64 d.by_.count] 31)).alloc (.map #[] 0)) (w.heap.size + 1) []) := Lib.hid (by
    have := MapAt.new kS evT (w.alloc (.cells #[.slice AA d.add.length cA, .slice AD d.drop.length cD, .slice AM d.marks.length cM, .int .i64 d.cut, .int .i64 d.fence, .int .i64 d.by_.agent, .int .i64 d.by_.life, .int .i64 d.by_.count] 31))
    rw [World.size_alloc] at this
    exact this)
  have HW1 : Hid (Below (w.heap.size + 1) (w.alloc (.cells #[.slice AA d.add.length cA, .slice AD d.drop.length cD, .slice AM d.marks.length cM, .int .i64 d.cut, .int .i64 d.fence, .int .i64 d.by_.agent, .int .i64 d.by_.life, .int .i64 d.by_.count] 31)) ((w.alloc (.cells #[.slice AA d.add.length cA, .slice AD d.drop.length cD, .slice AM d.marks.length cM, .int .i64 d.cut, .int .i64 d.fence, .int .i64 d.by_.agent, .int .i64 d.by_.life, .int .i64 d.by_.count] 31)).alloc (.map #[] 0))) := Lib.hid (hW0.out.alloc (by simp) _)
  have hz1 : w.heap.size + 2 ≤ ((w.alloc (.cells #[.slice AA d.add.length cA, .slice AD d.drop.length cD, .slice AM d.marks.length cM, .int .i64 d.cut, .int .i64 d.fence, .int .i64 d.by_.agent, .int .i64 d.by_.life, .int .i64 d.by_.count] 31)).alloc (.map #[] 0)).heap.size := by simp
  clear hW0
  generalize (w.alloc (.cells #[.slice AA d.add.length cA, .slice AD d.drop.length cD, .slice AM d.marks.length cM, .int .i64 d.cut, .int .i64 d.fence, .int .i64 d.by_.agent, .int .i64 d.by_.life, .int .i64 d.by_.count] 31)).alloc (.map #[] 0) = w1 at *
  generalize w.alloc (.cells #[.slice AA d.add.length cA, .slice AD d.drop.length cD, .slice AM d.marks.length cM, .int .i64 d.cut, .int .i64 d.fence, .int .i64 d.by_.agent, .int .i64 d.by_.life, .int .i64 d.by_.count] 31) = wm at *
  go_loopw [13] (fun i wr => ∃ (j : Nat) (M : List (ByteArray × Unit)), j ≤ d.add.length ∧ i = .int .i64 (j : Int) ∧ Hid (MapAt kS evT wr (w.heap.size + 1) M) ∧ Hid (Ks M ((keys d.add).take j)) ∧ Hid (∀ i, i < j → enB (gt d.add i) = true) ∧ Hid (Below (w.heap.size + 1) wm wr) ∧ w.heap.size + 2 ≤ wr.heap.size) (fun i _ => d.add.length - (intOf i).toNat)
  case atStart => exact ⟨0, [], Nat.zero_le _, rfl, HM1, Lib.hid Ks.nil, Lib.hid (fun i hi => absurd hi (by omega)), HW1, hz1⟩
  case round =>
    clear HM1 HW1 hz1
    obtain ⟨j, M, hj, rfl, HMM, HKM, HA, HW1, hz⟩ := hrel
    obtain ⟨wo, rfl⟩ : ∃ wo : World, wo = wr := ⟨_, rfl⟩
    by_cases hlt : j < d.add.length
    · have hr := HRA.out wo (HB0.out _ HW1.out).1
      obtain ⟨b, off, rfl, hbB⟩ := row_addr hr (by omega)
      obtain ⟨p0, p1, p2, p3, p4, p5, p6, p7, p8⟩ : wo.cell? ⟨b, off + j * 9, none⟩ = some (.string (gt d.add j).key) ∧ wo.cell? ⟨b, off + j * 9 + 1, none⟩ = some (.int .i64 (gt d.add j).window) ∧ wo.cell? ⟨b, off + j * 9 + 2, none⟩ = some (.string (gt d.add j).part) ∧ wo.cell? ⟨b, off + j * 9 + 3, none⟩ = some (.int .i64 (gt d.add j).first) ∧ wo.cell? ⟨b, off + j * 9 + 4, none⟩ = some (.int .i64 (gt d.add j).last) ∧ wo.cell? ⟨b, off + j * 9 + 5, none⟩ = some (.int .i64 (gt d.add j).rows) ∧ wo.cell? ⟨b, off + j * 9 + 6, none⟩ = some (.int .i64 (gt d.add j).size) ∧ wo.cell? ⟨b, off + j * 9 + 7, none⟩ = some (.int .u32 (gt d.add j).sum) ∧ wo.cell? ⟨b, off + j * 9 + 8, none⟩ = some (.int .i64 (gt d.add j).born) := ⟨row_cell ecs_len hr hlt (j := 0) rfl, row_cell ecs_len hr hlt (j := 1) rfl, row_cell ecs_len hr hlt (j := 2) rfl, row_cell ecs_len hr hlt (j := 3) rfl, row_cell ecs_len hr hlt (j := 4) rfl, row_cell ecs_len hr hlt (j := 5) rfl, row_cell ecs_len hr hlt (j := 6) rfl, row_cell ecs_len hr hlt (j := 7) rfl, row_cell ecs_len hr hlt (j := 8) rfl⟩
      have HOK : Hid (kS.ok (gt d.add j).key) := Lib.hid (HKs.out _ (gt_mem hlt))
      have HS : Hid (Ks (mput kS.lt M (gt d.add j).key ()) ((keys d.add).take (j + 1))) := Lib.hid (by
        have := HKM.out.step (lt := kS.lt) (gt d.add j).key ()
        rw [take_gt (show j < (keys d.add).length by rw [keys_len]; exact hlt), keys_gt hlt]
        exact this)
      have hlen : M.length ≤ 17592186044416 := by
        have := HKM.out.le
        rw [List.length_take] at this
        omega
      have HX2 := Lib.hid (fun W hW => HX.out (gt d.add j) (gt_mem hlt) W hW)
      have HY := Lib.hid (fun hh => all_step (p := enB) HA.out hh)
      have HNo : Hid (enB (gt d.add j) = false → out = false) := Lib.hid fun hh => by rw [HD.out, all_no hlt hh]; rfl
      clear hr HKM HA
      generalize gt d.add j = x at *
      go_wp2_with (at_mapUpdate; go_must (refine wpList_put _ rfl _ _ _ rfl (HMM.out.alloc _) HU.out x.key () rfl rfl rfl HOK.out (by unfold maxLen; omega) ?_))
      intro w2 hm2 hg2 hs2
      have hsz := (HB0.out _ HW1.out).2
      have hal := HW1.out.alloc (by have := HW1.out.size; omega) (.cells #[.string x.key, .int .i64 x.window, .string x.part, .int .i64 x.first, .int .i64 x.last, .int .i64 x.rows, .int .i64 x.size, .int .u32 x.sum, .int .i64 x.born] 42)
      have hb2 : Below (w.heap.size + 1) wm w2 := hal.grown hg2 (by simp; omega) (by intro g hg; injection hg with hg; omega)
      have hbk : Blk w2 wo.heap.size 42 #[.string x.key, .int .i64 x.window, .string x.part, .int .i64 x.first, .int .i64 x.last, .int .i64 x.rows, .int .i64 x.size, .int .u32 x.sum, .int .i64 x.born] := (Blk.new wo 42 #[.string x.key, .int .i64 x.window, .string x.part, .int .i64 x.first, .int .i64 x.last, .int .i64 x.rows, .int .i64 x.size, .int .u32 x.sum, .int .i64 x.born]).grown hg2 (by intro hg; injection hg with hg; omega)
      obtain ⟨q0, q1, q2, q3, q4, q5, q6, q7, q8⟩ : w2.cell? ⟨wo.heap.size, 0, none⟩ = some (.string x.key) ∧ w2.cell? ⟨wo.heap.size, 1, none⟩ = some (.int .i64 x.window) ∧ w2.cell? ⟨wo.heap.size, 2, none⟩ = some (.string x.part) ∧ w2.cell? ⟨wo.heap.size, 3, none⟩ = some (.int .i64 x.first) ∧ w2.cell? ⟨wo.heap.size, 4, none⟩ = some (.int .i64 x.last) ∧ w2.cell? ⟨wo.heap.size, 5, none⟩ = some (.int .i64 x.rows) ∧ w2.cell? ⟨wo.heap.size, 6, none⟩ = some (.int .i64 x.size) ∧ w2.cell? ⟨wo.heap.size, 7, none⟩ = some (.int .u32 x.sum) ∧ w2.cell? ⟨wo.heap.size, 8, none⟩ = some (.int .i64 x.born) := ⟨hbk.cell 0, hbk.cell 1, hbk.cell 2, hbk.cell 3, hbk.cell 4, hbk.cell 5, hbk.cell 6, hbk.cell 7, hbk.cell 8⟩
      have HMM2 := Lib.hid hm2
      have HW2 := Lib.hid hb2
      have hX := HX2.out w2 (HB0.out _ hb2).1
      have hz2 : w.heap.size + 2 ≤ w2.heap.size := by omega
      clear hm2 hg2 hbk hal hb2 HX2
      cases hx : enB x
      · rw [hx] at hX
        have HX3 := Lib.hid hX
        have HV := Lib.hid (HNo.out hx)
        clear hX hx
        go_wp2_with (go_at_call 51; refine HX3.out.mono ?_; rintro e w3 ⟨rfl, hb3⟩)
        go_ret
        exact ⟨by rw [HV.out]; rfl, (HB0.out _ (HW2.out.trans (hb3.mono (by omega)))).1⟩
      · rw [hx] at hX
        have HX3 := Lib.hid hX
        have HA2 := Lib.hid (HY.out hx)
        clear hX hx
        go_wp2_with (go_at_call 51; refine HX3.out.mono ?_; rintro e w3 ⟨rfl, hb3⟩)
        have HMM3 := Lib.hid (HMM2.out.below hb3 HMM2.out.lt_)
        have HW3 := Lib.hid (HW2.out.trans (hb3.mono (by omega)))
        have hz3 : w.heap.size + 2 ≤ w3.heap.size := Nat.le_trans hz2 hb3.size
        go_roundw
        case rel => exact ⟨j + 1, _, by omega, by go_num, HMM3, HS, HA2, HW3, hz3⟩
        case measure => simp [intOf]; omega
    · obtain rfl : j = d.add.length := by omega
      have HK1 : Hid (((M.length : Int) == (d.add.length : Int)) = decide (keys d.add).Nodup) := Lib.hid (by
        have h := HKM.out
        rw [List.take_of_length_le (by rw [keys_len]; exact Nat.le_refl _)] at h
        have h2 := h.eq
        rw [keys_len] at h2
        by_cases hn : (keys d.add).Nodup
        · rw [dct hn, eqt (by have := h2.2 hn; omega)]
        · rw [dcf hn, eqf (fun e => hn (h2.1 (by omega)))])
      have HD2 : Hid (out = (d.drop.all keyB && decide (keys d.add).Nodup && decide d.drop.Nodup && risB mkB ltP d.marks && numB d.cut 0 && numB d.fence 0 && owB d.by_)) := Lib.hid (by rw [HD.out, all_yes HA.out]; rfl)
      obtain ⟨s0, s1, s2, s3, s4, s5, s6, s7⟩ := HK.out _ HW1.out
      clear HD HKM HA HX HRA HKs
      have hgw : w.heap.size < wo.heap.size := by omega
      go_wp2
      have HM2 := Lib.hid (MapAt.new kS evT wo)
      have HW2 : Hid (Below (w.heap.size + 1) wm (wo.alloc (.map #[] 0))) := Lib.hid (HW1.out.alloc (by have := HW1.out.size; omega) _)
      have HMM2 := Lib.hid (HMM.out.alloc (.map #[] 0))
      have hz2 : wo.heap.size < (wo.alloc (.map #[] 0)).heap.size := by simp
      have hz3 : w.heap.size + 1 < wo.heap.size := by omega
      clear HMM HW1
      generalize wo.alloc (.map #[] 0) = w1 at *
      generalize wo.heap.size = g2 at *
      go_loopw [28] (fun i wr => ∃ (j : Nat) (N : List (ByteArray × Unit)), j ≤ d.drop.length ∧ i = .int .i64 (j : Int) ∧ Hid (MapAt kS evT wr (w.heap.size + 1) M) ∧ Hid (MapAt kS evT wr g2 N) ∧ Hid (Ks N (d.drop.take j)) ∧ Hid (∀ i, i < j → keyB (gt d.drop i) = true) ∧ Hid (Below (w.heap.size + 1) wm wr) ∧ g2 < wr.heap.size) (fun i _ => d.drop.length - (intOf i).toNat)
      case atStart => exact ⟨0, [], Nat.zero_le _, rfl, HMM2, HM2, Lib.hid Ks.nil, Lib.hid (fun i hi => absurd hi (by omega)), HW2, hz2⟩
      case round =>
        clear HM2 HW2 HMM2 hz2
        obtain ⟨j, N, hj, rfl, HMM, HMN, HKN, HA, HW1, hz2⟩ := hrel
        obtain ⟨wi, rfl⟩ : ∃ wi : World, wi = wr := ⟨_, rfl⟩
        by_cases hlt : j < d.drop.length
        · have hr := HRD.out wi (HB0.out _ HW1.out).1
          obtain ⟨b, off, rfl, hbB⟩ := row_addr hr (by omega)
          have p0 := strs_cell hr hlt
          have HOK : Hid (kS.ok (gt d.drop j)) := Lib.hid (Nat.le_trans (HDs.out _ (gt_mem hlt)) (by unfold maxLen; omega))
          have HS : Hid (Ks (mput kS.lt N (gt d.drop j) ()) (d.drop.take (j + 1))) := Lib.hid (by
            have := HKN.out.step (lt := kS.lt) (gt d.drop j) ()
            rw [take_gt hlt]
            exact this)
          have hlen : N.length ≤ 17592186044416 := by
            have := HKN.out.le
            rw [List.length_take] at this
            omega
          have HX2 := Lib.hid (fun W => key_calls (gt d.drop j) W (HDs.out _ (gt_mem hlt)))
          have HY := Lib.hid (fun hh => all_step (p := keyB) HA.out hh)
          have HNo : Hid (keyB (gt d.drop j) = false → out = false) := Lib.hid fun hh => by rw [HD2.out, all_no hlt hh]; rfl
          clear hr HKN HA
          generalize gt d.drop j = x at *
          go_wp2_with (at_mapUpdate; go_must (refine wpList_put _ rfl _ _ _ rfl HMN.out HU.out x () rfl rfl rfl HOK.out (by unfold maxLen; omega) ?_))
          intro w2 hm2 hg2 hs2
          have hsz := (HB0.out _ HW1.out).2
          have HW2 : Hid (Below (w.heap.size + 1) wm w2) := Lib.hid (HW1.out.grown hg2 hsz (by intro g hg; injection hg with hg; omega))
          have HMN2 := Lib.hid hm2
          have HMM2 := Lib.hid (HMM.out.kept hg2 (by intro hg; injection hg with hg; omega))
          have hz4 : g2 < w2.heap.size := by omega
          have hX := HX2.out
          clear hm2 hg2 HX2 HMM HMN HW1
          cases hx : keyB x
          · rw [hx] at hX
            have HX3 := Lib.hid hX
            have HV := Lib.hid (HNo.out hx)
            clear hX hx
            go_wp2_with (go_at_call 73; refine (HX3.out _).mono ?_; rintro e w3 ⟨rfl, rfl⟩)
            go_ret
            exact ⟨by rw [HV.out]; rfl, (HB0.out _ HW2.out).1⟩
          · rw [hx] at hX
            have HX3 := Lib.hid hX
            have HA2 := Lib.hid (HY.out hx)
            clear hX hx
            go_wp2_with (go_at_call 73; refine (HX3.out _).mono ?_; rintro e w3 ⟨rfl, rfl⟩)
            go_roundw
            case rel => exact ⟨j + 1, _, by omega, by go_num, HMM2, HMN2, HS, HA2, HW2, hz4⟩
            case measure => simp [intOf]; omega
        · obtain rfl : j = d.drop.length := by omega
          have HK2 : Hid (((N.length : Int) == (d.drop.length : Int)) = decide d.drop.Nodup) := Lib.hid (by
            have h := HKN.out
            rw [List.take_length] at h
            have h2 := h.eq
            by_cases hn : d.drop.Nodup
            · rw [dct hn, eqt (by have := h2.2 hn; omega)]
            · rw [dcf hn, eqf (fun e => hn (h2.1 (by omega)))])
          have HD3 : Hid (out = (decide (keys d.add).Nodup && decide d.drop.Nodup && risB mkB ltP d.marks && numB d.cut 0 && numB d.fence 0 && owB d.by_)) := Lib.hid (by rw [HD2.out, all_yes HA.out]; rfl)
          obtain ⟨t0, t1, t2, t3, t4, t5, t6, t7⟩ := HK.out _ HW1.out
          obtain ⟨hb00, hsz⟩ := HB0.out _ HW1.out
          have hl1 := HMM.out.len_run HU.out 3
          have hl2 := HMN.out.len_run HU.out 3
          clear HD2 HKN HA HRD HDs HMM HMN s0 s1 s2 s3 s4 s5 s6 s7
          generalize risB mkB ltP d.marks = rp at *
          by_cases e0 : (keys d.add).Nodup
          · have te0 : ((M.length : Int) == (d.add.length : Int)) = true := by rw [HK1.out, dct e0]
            by_cases e1 : d.drop.Nodup
            · have te1 : ((N.length : Int) == (d.drop.length : Int)) = true := by rw [HK2.out, dct e1]
              by_cases e2 : rp = true
              · have te2 : rp = true := e2
                by_cases e3 : numB d.cut 0 = true
                · have te3 : numB d.cut 0 = true := e3
                  by_cases e4 : numB d.fence 0 = true
                  · have te4 : numB d.fence 0 = true := e4
                    have HV : Hid (out = owB d.by_) := Lib.hid (by rw [HD3.out, dct e0, dct e1, te2, te3, te4]; rfl)
                    clear HD3 HK1 HK2 e0 e1
                    subst e2
                    go_wp2_with first | (go_at_call 49; refine (HN.out _ _ _).mono ?_; rintro e w9 ⟨rfl, rfl⟩) | (go_at_call 53; refine (HM.out _ hb00).mono ?_; rintro e w3 ⟨rfl, hb3'⟩; have hb3 : Below w.heap.size w w3 := hb00.trans (hb3'.mono (by omega)); have hs3 := hb3.size; obtain ⟨r0, r1, r2, r3, r4, r5, r6, r7⟩ := HK.out w3 (HW1.out.trans (hb3'.mono hsz)); clear hb3') | (go_at_call 56; refine (HW.out _).mono ?_; rintro e w4 ⟨rfl, hb4'⟩; have hb4 : Below w.heap.size w w4 := hb3.trans (hb4'.mono hs3))
                    go_ret
                    exact ⟨by rw [HV.out]; rfl, hb4⟩
                  · have te4 : numB d.fence 0 = false := by simpa using e4
                    have HV : Hid (out = false) := Lib.hid (by rw [HD3.out]; first | (rw [te4]; simp) | (rw [dcf e4]; simp))
                    clear HD3 HK1 HK2
                    go_wp2_with first | (go_at_call 49; refine (HN.out _ _ _).mono ?_; rintro e w9 ⟨rfl, rfl⟩) | (go_at_call 53; refine (HM.out _ hb00).mono ?_; rintro e w3 ⟨rfl, hb3'⟩; have hb3 : Below w.heap.size w w3 := hb00.trans (hb3'.mono (by omega)); have hs3 := hb3.size; obtain ⟨r0, r1, r2, r3, r4, r5, r6, r7⟩ := HK.out w3 (HW1.out.trans (hb3'.mono hsz)); clear hb3') | (go_at_call 56; refine (HW.out _).mono ?_; rintro e w4 ⟨rfl, hb4'⟩; have hb4 : Below w.heap.size w w4 := hb3.trans (hb4'.mono hs3))
                    go_ret
                    exact ⟨by rw [HV.out]; rfl, by first | exact hb3 | exact hb00⟩
                · have te3 : numB d.cut 0 = false := by simpa using e3
                  have HV : Hid (out = false) := Lib.hid (by rw [HD3.out]; first | (rw [te3]; simp) | (rw [dcf e3]; simp))
                  clear HD3 HK1 HK2
                  go_wp2_with first | (go_at_call 49; refine (HN.out _ _ _).mono ?_; rintro e w9 ⟨rfl, rfl⟩) | (go_at_call 53; refine (HM.out _ hb00).mono ?_; rintro e w3 ⟨rfl, hb3'⟩; have hb3 : Below w.heap.size w w3 := hb00.trans (hb3'.mono (by omega)); have hs3 := hb3.size; obtain ⟨r0, r1, r2, r3, r4, r5, r6, r7⟩ := HK.out w3 (HW1.out.trans (hb3'.mono hsz)); clear hb3') | (go_at_call 56; refine (HW.out _).mono ?_; rintro e w4 ⟨rfl, hb4'⟩; have hb4 : Below w.heap.size w w4 := hb3.trans (hb4'.mono hs3))
                  go_ret
                  exact ⟨by rw [HV.out]; rfl, by first | exact hb3 | exact hb00⟩
              · have te2 : rp = false := by simpa using e2
                have HV : Hid (out = false) := Lib.hid (by rw [HD3.out]; first | (rw [te2]; simp) | (rw [dcf e2]; simp))
                clear HD3 HK1 HK2
                go_wp2_with first | (go_at_call 49; refine (HN.out _ _ _).mono ?_; rintro e w9 ⟨rfl, rfl⟩) | (go_at_call 53; refine (HM.out _ hb00).mono ?_; rintro e w3 ⟨rfl, hb3'⟩; have hb3 : Below w.heap.size w w3 := hb00.trans (hb3'.mono (by omega)); have hs3 := hb3.size; obtain ⟨r0, r1, r2, r3, r4, r5, r6, r7⟩ := HK.out w3 (HW1.out.trans (hb3'.mono hsz)); clear hb3') | (go_at_call 56; refine (HW.out _).mono ?_; rintro e w4 ⟨rfl, hb4'⟩; have hb4 : Below w.heap.size w w4 := hb3.trans (hb4'.mono hs3))
                go_ret
                exact ⟨by rw [HV.out]; rfl, by first | exact hb3 | exact hb00⟩
            · have te1 : ((N.length : Int) == (d.drop.length : Int)) = false := by rw [HK2.out, dcf e1]
              have HV : Hid (out = false) := Lib.hid (by rw [HD3.out]; first | (rw [te1]; simp) | (rw [dcf e1]; simp))
              clear HD3 HK1 HK2
              go_wp2_with first | (go_at_call 49; refine (HN.out _ _ _).mono ?_; rintro e w9 ⟨rfl, rfl⟩) | (go_at_call 53; refine (HM.out _ hb00).mono ?_; rintro e w3 ⟨rfl, hb3'⟩; have hb3 : Below w.heap.size w w3 := hb00.trans (hb3'.mono (by omega)); have hs3 := hb3.size; obtain ⟨r0, r1, r2, r3, r4, r5, r6, r7⟩ := HK.out w3 (HW1.out.trans (hb3'.mono hsz)); clear hb3') | (go_at_call 56; refine (HW.out _).mono ?_; rintro e w4 ⟨rfl, hb4'⟩; have hb4 : Below w.heap.size w w4 := hb3.trans (hb4'.mono hs3))
              go_ret
              exact ⟨by rw [HV.out]; rfl, by first | exact hb3 | exact hb00⟩
          · have te0 : ((M.length : Int) == (d.add.length : Int)) = false := by rw [HK1.out, dcf e0]
            have HV : Hid (out = false) := Lib.hid (by rw [HD3.out]; first | (rw [te0]; simp) | (rw [dcf e0]; simp))
            clear HD3 HK1 HK2
            go_wp2_with first | (go_at_call 49; refine (HN.out _ _ _).mono ?_; rintro e w9 ⟨rfl, rfl⟩) | (go_at_call 53; refine (HM.out _ hb00).mono ?_; rintro e w3 ⟨rfl, hb3'⟩; have hb3 : Below w.heap.size w w3 := hb00.trans (hb3'.mono (by omega)); have hs3 := hb3.size; obtain ⟨r0, r1, r2, r3, r4, r5, r6, r7⟩ := HK.out w3 (HW1.out.trans (hb3'.mono hsz)); clear hb3') | (go_at_call 56; refine (HW.out _).mono ?_; rintro e w4 ⟨rfl, hb4'⟩; have hb4 : Below w.heap.size w w4 := hb3.trans (hb4'.mono hs3))
            go_ret
            exact ⟨by rw [HV.out]; rfl, by first | exact hb3 | exact hb00⟩
end Go.Proofs.YtjbmlhipjceeeaaGreat.Mf
