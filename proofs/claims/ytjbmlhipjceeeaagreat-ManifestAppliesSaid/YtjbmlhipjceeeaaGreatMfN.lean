/- RightEdit: is an edit right? Of the document (chapter 13). -/
import Derived.Test.YtjbmlhipjceeeaaGreatProg
import Derived.Test.YtjbmlhipjceeeaaGreatMfM
import Derived.BigQuiet
namespace Go.Proofs.YtjbmlhipjceeeaaGreat.Mf
open Go.RowKit Go.Proofs.YtjbmlhipjceeeaaGreat

/-- Each thing is right, and is not among those before it. -/
def NdP {α κ : Type} [Inhabited α] (r : α → Bool) (key : α → κ) (l : List α) (k : Nat) : Prop := ∀ i, i < k → r (gt l i) = true ∧ ∀ j, j < i → key (gt l j) ≠ key (gt l i)
theorem nd_step {α κ : Type} [Inhabited α] {r : α → Bool} {key : α → κ} {l : List α} {k : Nat} (h : NdP r key l k) (h1 : r (gt l k) = true) (h2 : ∀ j, j < k → key (gt l j) ≠ key (gt l k)) : NdP r key l (k + 1) := by
  intro i hi
  rcases Nat.lt_or_ge i k with h3 | h3
  · exact h i h3
  · obtain rfl : i = k := by omega
    exact ⟨h1, h2⟩
theorem nd_all {α κ : Type} [Inhabited α] [DecidableEq κ] {r : α → Bool} {key : α → κ} {l : List α} (h : NdP r key l l.length) : l.all r = true ∧ (l.map key).Nodup := by
  refine ⟨all_yes fun i hi => (h i hi).1, ?_⟩
  rw [List.nodup_iff_pairwise_ne, List.pairwise_iff_getElem]
  intro i j hi hj hij
  rw [List.length_map] at hi hj
  rw [List.getElem_map, List.getElem_map, gt_eq hi, gt_eq hj]
  exact (h j hj).2 i hij
theorem nd_no {α κ : Type} [Inhabited α] [DecidableEq κ] {key : α → κ} {l : List α} {i j : Nat} (hi : i < l.length) (hj : j < i) (h : key (gt l j) = key (gt l i)) : ¬ (l.map key).Nodup := by
  intro hn
  rw [List.nodup_iff_pairwise_ne, List.pairwise_iff_getElem] at hn
  have := hn j i (by rw [List.length_map]; omega) (by rw [List.length_map]; omega) hj
  rw [List.getElem_map, List.getElem_map, gt_eq hi, gt_eq (show j < l.length by omega)] at this
  exact this h
theorem ltP_mk {y x : Mk} (hy : mkB y = true) (hx : mkB x = true) : ltP y x = (decide (y.maker < x.maker) || decide (y.maker = x.maker) && decide (y.seq < x.seq)) := by
  unfold mkB at hy hx
  simp only [Bool.and_eq_true, decide_eq_true_eq, numB_iff] at hy hx
  unfold ltP
  rw [Bool.eq_iff_iff]
  simp only [Bool.and_eq_true, Bool.or_eq_true, decide_eq_true_eq]
  omega
set_option maxRecDepth 100000 in
set_option maxHeartbeats 12800000 in
theorem editR_calls (w : World) {B : Nat} {d : Ed} {p : Pd} (h : Edi w B d p) (hB : B ≤ w.heap.size) (hs : Short d.add) : Calls Tryz.prog 85 #[edV d p] w fun e w' => e = .returned (.bool (editB d)) ∧ Below w.heap.size w w' := by
  have HK : Hid (∀ W, Below (w.heap.size + 1) (w.alloc (.cells #[.slice p.AA d.add.length p.cA, .slice p.AD d.drop.length p.cD, .slice p.AM d.marks.length p.cM, .int .i64 d.cut, .int .i64 d.fence, .int .i64 d.by_.agent, .int .i64 d.by_.life, .int .i64 d.by_.count] 31)) W → W.cell? ⟨w.heap.size, 0, none⟩ = some (.slice p.AA d.add.length p.cA) ∧ W.cell? ⟨w.heap.size, 1, none⟩ = some (.slice p.AD d.drop.length p.cD) ∧ W.cell? ⟨w.heap.size, 2, none⟩ = some (.slice p.AM d.marks.length p.cM) ∧ W.cell? ⟨w.heap.size, 3, none⟩ = some (.int .i64 d.cut) ∧ W.cell? ⟨w.heap.size, 4, none⟩ = some (.int .i64 d.fence) ∧ W.cell? ⟨w.heap.size, 5, none⟩ = some (.int .i64 d.by_.agent) ∧ W.cell? ⟨w.heap.size, 6, none⟩ = some (.int .i64 d.by_.life) ∧ W.cell? ⟨w.heap.size, 7, none⟩ = some (.int .i64 d.by_.count)) := Lib.hid fun W hW => by
    have hb := (Blk.new w 31 #[.slice p.AA d.add.length p.cA, .slice p.AD d.drop.length p.cD, .slice p.AM d.marks.length p.cM, .int .i64 d.cut, .int .i64 d.fence, .int .i64 d.by_.agent, .int .i64 d.by_.life, .int .i64 d.by_.count]).below hW (Nat.lt_succ_self _)
    exact ⟨hb.cell 0, hb.cell 1, hb.cell 2, hb.cell 3, hb.cell 4, hb.cell 5, hb.cell 6, hb.cell 7⟩
  have HB0 : Hid (∀ W, Below (w.heap.size + 1) (w.alloc (.cells #[.slice p.AA d.add.length p.cA, .slice p.AD d.drop.length p.cD, .slice p.AM d.marks.length p.cM, .int .i64 d.cut, .int .i64 d.fence, .int .i64 d.by_.agent, .int .i64 d.by_.life, .int .i64 d.by_.count] 31)) W → Below w.heap.size w W ∧ w.heap.size + 1 ≤ W.heap.size) := Lib.hid fun W hW => ⟨((Below.refl w.heap.size w).alloc (Nat.le_refl _) _).trans (hW.mono (by omega)), by have := hW.size; rw [World.size_alloc] at this; exact this⟩
  have HRA := Lib.hid fun W (hW : Below w.heap.size w W) => h.ra.below (hW.mono hB)
  have HRD := Lib.hid fun W (hW : Below w.heap.size w W) => h.rd.below (hW.mono hB)
  have HRM := Lib.hid fun W (hW : Below w.heap.size w W) => h.rm.below (hW.mono hB)
  have HX := Lib.hid fun x (hx : x ∈ d.add) W => entryR_calls x W (h.ok x hx) (hs x hx)
  have HDs : Hid (∀ x ∈ d.drop, x.size ≤ 140737488351232) := Lib.hid fun x hx => h.okd x hx
  have HN := Lib.hid numR_calls
  have HW := Lib.hid (ownerR_calls d.by_)
  have HD : Hid (editB d = (d.add.all enB && d.drop.all keyB && decide (keys d.add).Nodup && decide d.drop.Nodup && risB mkB ltP d.marks && numB d.cut 0 && numB d.fence 0 && owB d.by_)) := Lib.hid rfl
  have hla := h.la
  have hld := h.ld
  have hlm := h.lm
  have hcd := h.cd
  clear h hs
  generalize editB d = out at *
  obtain ⟨AA, cA, AD, cD, AM, cM⟩ := p
  dsimp only at *
  go_enter Tryz.func85, Tryz.ntmps85
  go_wp2
  have HW1 := Lib.hid (Below.refl (w.heap.size + 1) (w.alloc (.cells #[.slice AA d.add.length cA, .slice AD d.drop.length cD, .slice AM d.marks.length cM, .int .i64 d.cut, .int .i64 d.fence, .int .i64 d.by_.agent, .int .i64 d.by_.life, .int .i64 d.by_.count] 31)))
  generalize w.alloc (.cells #[.slice AA d.add.length cA, .slice AD d.drop.length cD, .slice AM d.marks.length cM, .int .i64 d.cut, .int .i64 d.fence, .int .i64 d.by_.agent, .int .i64 d.by_.life, .int .i64 d.by_.count] 31) = wm at *
  go_loopw [13] (fun i wr => ∃ j : Nat, j ≤ d.add.length ∧ i = .int .i64 (j : Int) ∧ Hid (NdP enB En.key d.add j) ∧ Hid (Below (w.heap.size + 1) wm wr)) (fun i _ => d.add.length - (intOf i).toNat)
  case atStart => exact ⟨0, Nat.zero_le _, rfl, Lib.hid (fun i hi => absurd hi (Nat.not_lt_zero i)), HW1⟩
  case round =>
    clear HW1
    obtain ⟨j, hj, rfl, HA, HW1⟩ := hrel
    obtain ⟨wo, rfl⟩ : ∃ wo : World, wo = wr := ⟨_, rfl⟩
    by_cases hlt : j < d.add.length
    · obtain ⟨hb00, hsz⟩ := HB0.out wo HW1.out
      have hr := HRA.out wo hb00
      obtain ⟨b, off, rfl, hbB⟩ := row_addr hr (by omega)
      have HG : Hid (∀ W, Below wo.heap.size wo W → ∀ i, i < d.add.length → W.cell? ⟨b, off + i * 9, none⟩ = some (.string (gt d.add i).key) ∧ W.cell? ⟨b, off + i * 9 + 1, none⟩ = some (.int .i64 (gt d.add i).window) ∧ W.cell? ⟨b, off + i * 9 + 2, none⟩ = some (.string (gt d.add i).part) ∧ W.cell? ⟨b, off + i * 9 + 3, none⟩ = some (.int .i64 (gt d.add i).first) ∧ W.cell? ⟨b, off + i * 9 + 4, none⟩ = some (.int .i64 (gt d.add i).last) ∧ W.cell? ⟨b, off + i * 9 + 5, none⟩ = some (.int .i64 (gt d.add i).rows) ∧ W.cell? ⟨b, off + i * 9 + 6, none⟩ = some (.int .i64 (gt d.add i).size) ∧ W.cell? ⟨b, off + i * 9 + 7, none⟩ = some (.int .u32 (gt d.add i).sum) ∧ W.cell? ⟨b, off + i * 9 + 8, none⟩ = some (.int .i64 (gt d.add i).born)) := Lib.hid fun W hW i hi => ⟨row_cell ecs_len (hr.below (hW.mono (by omega))) hi (j := 0) rfl, row_cell ecs_len (hr.below (hW.mono (by omega))) hi (j := 1) rfl, row_cell ecs_len (hr.below (hW.mono (by omega))) hi (j := 2) rfl, row_cell ecs_len (hr.below (hW.mono (by omega))) hi (j := 3) rfl, row_cell ecs_len (hr.below (hW.mono (by omega))) hi (j := 4) rfl, row_cell ecs_len (hr.below (hW.mono (by omega))) hi (j := 5) rfl, row_cell ecs_len (hr.below (hW.mono (by omega))) hi (j := 6) rfl, row_cell ecs_len (hr.below (hW.mono (by omega))) hi (j := 7) rfl, row_cell ecs_len (hr.below (hW.mono (by omega))) hi (j := 8) rfl⟩
      obtain ⟨p0, p1, p2, p3, p4, p5, p6, p7, p8⟩ := HG.out wo (Below.refl _ _) j hlt
      have HB1 := Lib.hid ((Below.refl wo.heap.size wo).alloc (Nat.le_refl _) (.cells #[.string (gt d.add j).key, .int .i64 (gt d.add j).window, .string (gt d.add j).part, .int .i64 (gt d.add j).first, .int .i64 (gt d.add j).last, .int .i64 (gt d.add j).rows, .int .i64 (gt d.add j).size, .int .u32 (gt d.add j).sum, .int .i64 (gt d.add j).born] 42))
      have HBL : Hid (∀ W, Below (wo.heap.size + 1) (wo.alloc (.cells #[.string (gt d.add j).key, .int .i64 (gt d.add j).window, .string (gt d.add j).part, .int .i64 (gt d.add j).first, .int .i64 (gt d.add j).last, .int .i64 (gt d.add j).rows, .int .i64 (gt d.add j).size, .int .u32 (gt d.add j).sum, .int .i64 (gt d.add j).born] 42)) W → W.cell? ⟨wo.heap.size, 0, none⟩ = some (.string (gt d.add j).key) ∧ W.cell? ⟨wo.heap.size, 1, none⟩ = some (.int .i64 (gt d.add j).window) ∧ W.cell? ⟨wo.heap.size, 2, none⟩ = some (.string (gt d.add j).part) ∧ W.cell? ⟨wo.heap.size, 3, none⟩ = some (.int .i64 (gt d.add j).first) ∧ W.cell? ⟨wo.heap.size, 4, none⟩ = some (.int .i64 (gt d.add j).last) ∧ W.cell? ⟨wo.heap.size, 5, none⟩ = some (.int .i64 (gt d.add j).rows) ∧ W.cell? ⟨wo.heap.size, 6, none⟩ = some (.int .i64 (gt d.add j).size) ∧ W.cell? ⟨wo.heap.size, 7, none⟩ = some (.int .u32 (gt d.add j).sum) ∧ W.cell? ⟨wo.heap.size, 8, none⟩ = some (.int .i64 (gt d.add j).born)) := Lib.hid fun W hW => by
        have hb := (Blk.new wo 42 #[.string (gt d.add j).key, .int .i64 (gt d.add j).window, .string (gt d.add j).part, .int .i64 (gt d.add j).first, .int .i64 (gt d.add j).last, .int .i64 (gt d.add j).rows, .int .i64 (gt d.add j).size, .int .u32 (gt d.add j).sum, .int .i64 (gt d.add j).born]).below hW (Nat.lt_succ_self _)
        exact ⟨hb.cell 0, hb.cell 1, hb.cell 2, hb.cell 3, hb.cell 4, hb.cell 5, hb.cell 6, hb.cell 7, hb.cell 8⟩
      have hX := HX.out (gt d.add j) (gt_mem hlt)
      have HNo1 : Hid (enB (gt d.add j) = false → out = false) := Lib.hid fun hh => by rw [HD.out, all_no hlt hh]; rfl
      have HNo2 : Hid (∀ k, k < j → (gt d.add k).key = (gt d.add j).key → out = false) := Lib.hid fun k hk hh => by
        rw [HD.out]
        have := nd_no (key := En.key) hlt hk hh
        rw [dcf (show ¬ (keys d.add).Nodup from this)]
        simp
      have HSt := Lib.hid (fun h1 h2 => nd_step HA.out h1 h2)
      clear hr HA
      generalize hxx : gt d.add j = x at *
      cases hx : enB x
      · rw [hx] at hX
        have HX3 := Lib.hid hX
        have HV := Lib.hid (HNo1.out hx)
        clear hX hx
        go_wp2_with (go_at_call 45; refine (HX3.out _).mono ?_; rintro e w3 ⟨rfl, hb3⟩)
        go_ret
        exact ⟨by rw [HV.out]; rfl, hb00.trans ((HB1.out.trans (hb3.mono (by simp))).mono hb00.size)⟩
      · rw [hx] at hX
        have HX3 := Lib.hid hX
        clear hX
        go_wp2_with (go_at_call 45; refine (HX3.out _).mono ?_; rintro e w3 ⟨rfl, hb3⟩)
        have HW3 : Hid (Below (wo.heap.size + 1) (wo.alloc (.cells #[.string x.key, .int .i64 x.window, .string x.part, .int .i64 x.first, .int .i64 x.last, .int .i64 x.rows, .int .i64 x.size, .int .u32 x.sum, .int .i64 x.born] 42)) w3) := Lib.hid (hb3.mono (by simp))
        clear hb3
        go_loopw [5] (fun i wr => ∃ k : Nat, k ≤ j ∧ i = .int .i64 (k : Int) ∧ Hid (∀ i, i < k → (gt d.add i).key ≠ x.key) ∧ Hid (Below (wo.heap.size + 1) (wo.alloc (.cells #[.string x.key, .int .i64 x.window, .string x.part, .int .i64 x.first, .int .i64 x.last, .int .i64 x.rows, .int .i64 x.size, .int .u32 x.sum, .int .i64 x.born] 42)) wr)) (fun i _ => j - (intOf i).toNat)
        case atStart => exact ⟨0, Nat.zero_le _, rfl, Lib.hid (fun i hi => absurd hi (Nat.not_lt_zero i)), HW3⟩
        case round =>
          clear HW3
          obtain ⟨k, hk, rfl, HF, HW3⟩ := hrel
          by_cases hlk : k < j
          · have hbw := HB1.out.trans (HW3.out.mono (by omega))
            obtain ⟨-, q1, -, -, -, -, -, -⟩ := HK.out _ (HW1.out.trans (hbw.mono hsz))
            obtain ⟨q0, -⟩ := HK.out _ (HW1.out.trans (hbw.mono hsz))
            obtain ⟨r0, -⟩ := HG.out wr hbw k (by omega)
            obtain ⟨s0, -⟩ := HBL.out wr HW3.out
            have k0 : (0 : Int) ≤ (k : Int) := by omega
            have k9 : (k : Int) < (d.add.length : Int) := by omega
            have HNo3 := Lib.hid (HNo2.out k hlk)
            have HN3 : Hid ((gt d.add k).key ≠ x.key → ∀ i, i < k + 1 → (gt d.add i).key ≠ x.key) := Lib.hid fun hh i hi => by
              rcases Nat.lt_or_ge i k with h1 | h1
              · exact HF.out i h1
              · obtain rfl : i = k := by omega
                exact hh
            clear HF
            generalize (gt d.add k).key = y at *
            by_cases hy : y = x.key
            · have t0 : (y.toList == x.key.toList) = true := by rw [bytes_beq]; exact dct hy
              have HV := Lib.hid (HNo3.out hy)
              have HE : Hid (Below w.heap.size w wr) := Lib.hid (HB0.out _ (HW1.out.trans (hbw.mono hsz))).1
              clear hy
              go_wp2_with fail
              go_quiet (fail)
              go_wp2
              go_ret
              exact ⟨by rw [HV.out]; rfl, below_drewN_ HE.out _⟩
            · have t0 : (y.toList == x.key.toList) = false := by rw [bytes_beq]; exact dcf hy
              have HN4 := Lib.hid (HN3.out hy)
              clear hy
              go_wp2_with fail
              go_quiet (fail)
              go_wp2
              go_roundw
              case rel => exact ⟨k + 1, by omega, by go_num, HN4, Lib.hid (below_drewN_ HW3.out _)⟩
              case measure => simp [intOf]; omega
          · obtain rfl : k = j := by omega
            have HS := Lib.hid (HSt.out hx HF.out)
            have HW4 : Hid (Below (w.heap.size + 1) wm wr) := Lib.hid (HW1.out.trans ((HB1.out.trans (HW3.out.mono (by omega))).mono hsz))
            go_wp2
            go_roundw
            case rel => exact ⟨k + 1, by omega, by go_num, HS, HW4⟩
            case measure => simp [intOf]; omega
    · obtain rfl : j = d.add.length := by omega
      have HD2 : Hid (out = (d.drop.all keyB && decide d.drop.Nodup && risB mkB ltP d.marks && numB d.cut 0 && numB d.fence 0 && owB d.by_)) := Lib.hid (by
        have h := nd_all (key := En.key) HA.out
        rw [HD.out, h.1, dct (show (keys d.add).Nodup from h.2)]
        cases d.drop.all keyB <;> rfl)
      obtain ⟨s0, s1, s2, s3, s4, s5, s6, s7⟩ := HK.out _ HW1.out
      clear HD HA HX HRA
      go_wp2
      go_loopw [39] (fun i wr => ∃ j : Nat, j ≤ d.drop.length ∧ i = .int .i64 (j : Int) ∧ Hid (NdP keyB id d.drop j) ∧ Hid (Below (w.heap.size + 1) wm wr)) (fun i _ => d.drop.length - (intOf i).toNat)
      case atStart => exact ⟨0, Nat.zero_le _, rfl, Lib.hid (fun i hi => absurd hi (Nat.not_lt_zero i)), HW1⟩
      case round =>
        clear HW1 s0 s1 s2 s3 s4 s5 s6 s7
        obtain ⟨j, hj, rfl, HA, HW1⟩ := hrel
        obtain ⟨wi, rfl⟩ : ∃ wi : World, wi = wr := ⟨_, rfl⟩
        by_cases hlt : j < d.drop.length
        · obtain ⟨hb00, hsz⟩ := HB0.out wi HW1.out
          have hr := HRD.out wi hb00
          obtain ⟨b, off, rfl, hbB⟩ := row_addr hr (by omega)
          have p0 := strs_cell hr hlt
          obtain ⟨t0, t1, t2, t3, t4, t5, t6, t7⟩ := HK.out _ HW1.out
          have i0 : (0 : Int) ≤ (j : Int) := by omega
          have i9 : (j : Int) ≤ (cD : Int) := by omega
          have HX2 := Lib.hid (fun W => keyR_calls (gt d.drop j) W (HDs.out _ (gt_mem hlt)))
          have HHas : Hid (Calls Tryz.prog 37 #[.slice (some ⟨b, off, none⟩) j cD, .string (gt d.drop j)] wi fun e w' => e = .returned (.bool (hasB (d.drop.take j) (gt d.drop j))) ∧ w' = wi) := Lib.hid (by
            have h2 := hr.take (k := j) (by omega)
            rw [Nat.mul_one, ← List.map_take] at h2
            have hl : (d.drop.take j).length = j := by rw [List.length_take]; omega
            have := has_calls wi (c := cD) (l := d.drop.take j) (gt d.drop j) (by rw [hl]; exact h2) (by rw [hl]; omega)
            rw [hl] at this
            exact this)
          have HNo1 : Hid (keyB (gt d.drop j) = false → out = false) := Lib.hid fun hh => by rw [HD2.out, all_no hlt hh]; rfl
          have HNo2 : Hid (hasB (d.drop.take j) (gt d.drop j) = true → out = false) := Lib.hid fun hh => by
            obtain ⟨k, hk, he⟩ := mem_gt (has_mem.1 hh)
            have hkj : k < j := by rw [List.length_take] at hk; omega
            rw [gt_take hkj (by omega)] at he
            have := nd_no (key := id) hlt hkj he
            rw [List.map_id] at this
            rw [HD2.out, dcf this]
            simp
          have HSt : Hid (keyB (gt d.drop j) = true → hasB (d.drop.take j) (gt d.drop j) = false → NdP keyB id d.drop (j + 1)) := Lib.hid fun h1 h2 => nd_step HA.out h1 fun k hk he => by
            have hm : gt d.drop j ∈ d.drop.take j := by
              have he' : gt d.drop k = gt d.drop j := he
              rw [← he', ← gt_take hk (by omega)]
              exact gt_mem (by rw [List.length_take]; omega)
            rw [has_mem.2 hm] at h2
            cases h2
          clear hr HA
          generalize hasB (d.drop.take j) (gt d.drop j) = hb at *
          generalize gt d.drop j = x at *
          cases hx : keyB x
          · have HV := Lib.hid (HNo1.out hx)
            rw [hx] at HX2
            clear hx
            go_wp2_with (go_at_call 90; refine (HX2.out _).mono ?_; rintro e w3 ⟨rfl, rfl⟩)
            go_ret
            exact ⟨by rw [HV.out]; rfl, hb00⟩
          · rw [hx] at HX2
            cases hh : hb
            · have HS := Lib.hid (HSt.out hx hh)
              rw [hh] at HHas
              clear hx hh
              go_wp2_with first | (go_at_call 90; refine (HX2.out _).mono ?_; rintro e w3 ⟨rfl, rfl⟩) | (go_at_call 37; refine HHas.out.mono ?_; rintro e w4 ⟨rfl, rfl⟩)
              go_roundw
              case rel => exact ⟨j + 1, by omega, by go_num, HS, HW1⟩
              case measure => simp [intOf]; omega
            · have HV := Lib.hid (HNo2.out hh)
              rw [hh] at HHas
              clear hx hh
              go_wp2_with first | (go_at_call 90; refine (HX2.out _).mono ?_; rintro e w3 ⟨rfl, rfl⟩) | (go_at_call 37; refine HHas.out.mono ?_; rintro e w4 ⟨rfl, rfl⟩)
              go_ret
              exact ⟨by rw [HV.out]; rfl, hb00⟩
        · obtain rfl : j = d.drop.length := by omega
          have HD3 : Hid (out = (risB mkB ltP d.marks && numB d.cut 0 && numB d.fence 0 && owB d.by_)) := Lib.hid (by
            have h := nd_all (key := id) HA.out
            rw [List.map_id] at h
            rw [HD2.out, h.1, dct h.2]
            rfl)
          obtain ⟨s0, s1, s2, s3, s4, s5, s6, s7⟩ := HK.out _ HW1.out
          clear HD2 HA HRD HDs
          go_wp2
          go_loopw [59] (fun i wr => ∃ j : Nat, j ≤ d.marks.length ∧ i = .int .i64 (j : Int) ∧ Hid (∀ i, i < j → mkB (gt d.marks i) = true ∧ (0 < i → ltP (gt d.marks (i - 1)) (gt d.marks i) = true)) ∧ Hid (Below (w.heap.size + 1) wm wr)) (fun i _ => d.marks.length - (intOf i).toNat)
          case atStart => exact ⟨0, Nat.zero_le _, rfl, Lib.hid (fun i hi => absurd hi (Nat.not_lt_zero i)), HW1⟩
          case round =>
            clear HW1 s0 s1 s2 s3 s4 s5 s6 s7
            obtain ⟨k, hk, rfl, hall, HW1⟩ := hrel
            by_cases hlt : k < d.marks.length
            · obtain ⟨hb00, hsz⟩ := HB0.out wr HW1.out
              have hr := HRM.out wr hb00
              obtain ⟨b, off, rfl, hbB⟩ := row_addr hr (by omega)
              have HKW := Lib.hid fun W (hW : Below wr.heap.size wr W) => HK.out W (HW1.out.trans (hW.mono hsz))
              have HG : Hid (∀ W, Below wr.heap.size wr W → ∀ i, i < d.marks.length → W.cell? ⟨b, off + i * 2, none⟩ = some (.int .i64 (gt d.marks i).maker) ∧ W.cell? ⟨b, off + i * 2 + 1, none⟩ = some (.int .i64 (gt d.marks i).seq)) := Lib.hid fun W hW i hi => ⟨row_cell mcs_len (hr.below (hW.mono (by omega))) hi (j := 0) rfl, row_cell mcs_len (hr.below (hW.mono (by omega))) hi (j := 1) rfl⟩
              obtain ⟨p0, p1⟩ := HG.out wr (Below.refl _ _) k hlt
              have HB1 := Lib.hid ((Below.refl wr.heap.size wr).alloc (Nat.le_refl _) (.cells #[.int .i64 (gt d.marks k).maker, .int .i64 (gt d.marks k).seq] 44))
              have HR2 := Lib.hid fun W => markR_calls (gt d.marks k) W
              have HBL : Hid (∀ W, Below (wr.heap.size + 1) (wr.alloc (.cells #[.int .i64 (gt d.marks k).maker, .int .i64 (gt d.marks k).seq] 44)) W → (W.cell? ⟨wr.heap.size, 0, none⟩ = some (.int .i64 (gt d.marks k).maker) ∧ W.cell? ⟨wr.heap.size, 1, none⟩ = some (.int .i64 (gt d.marks k).seq)) ∧ W.cell? ⟨w.heap.size, 2, none⟩ = some (.slice (some ⟨b, off, none⟩) d.marks.length cM)) := Lib.hid fun W hW => by
                have hb := (Blk.new wr 44 #[.int .i64 (gt d.marks k).maker, .int .i64 (gt d.marks k).seq]).below hW (Nat.lt_succ_self _)
                have hq := HKW.out W (HB1.out.trans (hW.mono (by omega)))
                exact ⟨⟨hb.cell 0, hb.cell 1⟩, hq.2.2.1⟩
              have Hno1 := Lib.hid (fun hh => ris_no1 (r := mkB) (lt := ltP) hlt hh)
              have Hno2 := Lib.hid (fun hp hh => ris_no2 (r := mkB) (lt := ltP) hlt hp hh)
              have Hst := Lib.hid (fun h1 h2 => ris_step (r := mkB) (lt := ltP) hall.out h1 h2)
              have Hpr := Lib.hid (fun (hp : 0 < k) => (hall.out (k - 1) (by omega)).1)
              have HP := Lib.hid fun W hW (hp : 0 < k) => HG.out W hW (k - 1) (by omega)
              have HHD := Lib.hid (fun (h : risB mkB ltP d.marks = false) => show out = false by rw [HD3.out, h]; rfl)
              clear hr HG hall HD3 HRM HK HKW hb00
              generalize gt d.marks k = x at *
              generalize gt d.marks (k - 1) = y at *
              have n1 : IntKind.i64.wrap ((k : Int) - 1) = (k : Int) - 1 := IntWalk.i64_in _ (by omega)
              cases hx : mkB x
              · have HV := Lib.hid (HHD.out (Hno1.out hx))
                rw [hx] at HR2
                clear hx Hno1 Hno2 Hst HP HHD Hpr
                go_wp2_with fail
                refine wp_region_T 99 (fun w' => (w'.cell? ⟨wr.heap.size, 0, none⟩ = some (.int .i64 x.maker) ∧ w'.cell? ⟨wr.heap.size, 1, none⟩ = some (.int .i64 x.seq)) ∧ w'.cell? ⟨w.heap.size, 2, none⟩ = some (.slice (some ⟨b, off, none⟩) d.marks.length cM)) (by kernel_rfl) (HBL.out _ (below_drewN_ (Below.refl _ _) 1)) (fun hHeld => ?_)
                refine wpAnyT_take (i := 0) (oi := _) (v := ?_) rfl (by kernel_rfl) (fun _ _ _ h => h) (Or.inl ⟨by kernel_rfl, ?_⟩) (by assumption) ?_; rotate_left; (focus (intro w hSw; (try dsimp only at hSw); go_simp; (try with_reducible rfl))); (try simp only [Act.put, List.getElem_toArray, List.getElem_cons_zero, List.setIfInBounds_toArray, List.set_cons_zero, List.set_cons_succ])
                refine wpAnyT_one (i := 1) (by kernel_rfl) rfl (fun K hK => ?_); go_simp
                refine (HR2.out _).mono ?_
                rintro e wa ⟨rfl, hba⟩
                have hea0 : Below (wr.heap.size + 1) (wr.alloc (.cells #[.int .i64 x.maker, .int .i64 x.seq] 44)) wa := (below_drewN_ (Below.refl _ _) 1).trans (hba.mono (by simp [World.drew]))
                have hew : Below (w.heap.size + 1) wm wa := HW1.out.trans ((HB1.out.trans (hea0.mono (by omega))).mono hsz)
                have hHa := HBL.out _ hea0
                refine hK.out _ _ (fun _ => hHa) ?_
                clear hK K hHeld hba
                refine wpAnyT_take (i := 2) (oi := _) (v := ?_) rfl (by kernel_rfl) (fun _ _ _ h => h) (Or.inl ⟨by kernel_rfl, ?_⟩) (by assumption) ?_; rotate_left; (focus (intro w hSw; (try dsimp only at hSw); go_simp; (try with_reducible rfl))); (try simp only [Act.put, List.getElem_toArray, List.getElem_cons_zero, List.getElem_cons_succ, List.setIfInBounds_toArray, List.set_cons_zero, List.set_cons_succ])
                refine wpAnyT_take (i := 3) (oi := _) (v := ?_) rfl (by kernel_rfl) (fun _ _ _ h => h) (Or.inl ⟨by kernel_rfl, ?_⟩) (by assumption) ?_; rotate_left; (focus (intro w hSw; (try dsimp only at hSw); go_simp; (try with_reducible rfl))); (try simp only [Act.put, List.getElem_toArray, List.getElem_cons_zero, List.getElem_cons_succ, List.setIfInBounds_toArray, List.set_cons_zero, List.set_cons_succ])
                refine wpAnyT_take (i := 4) (oi := _) (v := undef) rfl (by kernel_rfl) (fun _ _ _ h => h) (Or.inr ⟨by kernel_rfl, rfl⟩) (by assumption) ?_; (try simp only [Act.put, List.getElem_toArray, List.getElem_cons_zero, List.getElem_cons_succ, List.setIfInBounds_toArray, List.set_cons_zero, List.set_cons_succ])
                refine wpAnyT_take (i := 5) (oi := _) (v := undef) rfl (by kernel_rfl) (fun _ _ _ h => h) (Or.inr ⟨by kernel_rfl, rfl⟩) (by assumption) ?_; (try simp only [Act.put, List.getElem_toArray, List.getElem_cons_zero, List.getElem_cons_succ, List.setIfInBounds_toArray, List.set_cons_zero, List.set_cons_succ])
                refine wpAnyT_take (i := 6) (oi := _) (v := undef) rfl (by kernel_rfl) (fun _ _ _ h => h) (Or.inr ⟨by kernel_rfl, rfl⟩) (by assumption) ?_; (try simp only [Act.put, List.getElem_toArray, List.getElem_cons_zero, List.getElem_cons_succ, List.setIfInBounds_toArray, List.set_cons_zero, List.set_cons_succ])
                refine wpAnyT_take (i := 7) (oi := _) (v := undef) rfl (by kernel_rfl) (fun _ _ _ h => h) (Or.inr ⟨by kernel_rfl, rfl⟩) (by assumption) ?_; (try simp only [Act.put, List.getElem_toArray, List.getElem_cons_zero, List.getElem_cons_succ, List.setIfInBounds_toArray, List.set_cons_zero, List.set_cons_succ])
                refine wpAnyT_take (i := 8) (oi := _) (v := undef) rfl (by kernel_rfl) (fun _ _ _ h => h) (Or.inr ⟨by kernel_rfl, rfl⟩) (by assumption) ?_; (try simp only [Act.put, List.getElem_toArray, List.getElem_cons_zero, List.getElem_cons_succ, List.setIfInBounds_toArray, List.set_cons_zero, List.set_cons_succ])
                refine wpAnyT_take (i := 9) (oi := _) (v := undef) rfl (by kernel_rfl) (fun _ _ _ h => h) (Or.inr ⟨by kernel_rfl, rfl⟩) (by assumption) ?_; (try simp only [Act.put, List.getElem_toArray, List.getElem_cons_zero, List.getElem_cons_succ, List.setIfInBounds_toArray, List.set_cons_zero, List.set_cons_succ])
                refine wpAnyT_take (i := 10) (oi := _) (v := undef) rfl (by kernel_rfl) (fun _ _ _ h => h) (Or.inr ⟨by kernel_rfl, rfl⟩) (by assumption) ?_; (try simp only [Act.put, List.getElem_toArray, List.getElem_cons_zero, List.getElem_cons_succ, List.setIfInBounds_toArray, List.set_cons_zero, List.set_cons_succ])
                refine wpAnyT_take (i := 11) (oi := _) (v := undef) rfl (by kernel_rfl) (fun _ _ _ h => h) (Or.inr ⟨by kernel_rfl, rfl⟩) (by assumption) ?_; (try simp only [Act.put, List.getElem_toArray, List.getElem_cons_zero, List.getElem_cons_succ, List.setIfInBounds_toArray, List.set_cons_zero, List.set_cons_succ])
                refine wpAnyT_take (i := 12) (oi := _) (v := undef) rfl (by kernel_rfl) (fun _ _ _ h => h) (Or.inr ⟨by kernel_rfl, rfl⟩) (by assumption) ?_; (try simp only [Act.put, List.getElem_toArray, List.getElem_cons_zero, List.getElem_cons_succ, List.setIfInBounds_toArray, List.set_cons_zero, List.set_cons_succ])
                refine wpAnyT_take (i := 13) (oi := _) (v := undef) rfl (by kernel_rfl) (fun _ _ _ h => h) (Or.inr ⟨by kernel_rfl, rfl⟩) (by assumption) ?_; (try simp only [Act.put, List.getElem_toArray, List.getElem_cons_zero, List.getElem_cons_succ, List.setIfInBounds_toArray, List.set_cons_zero, List.set_cons_succ])
                refine wpAnyT_take (i := 14) (oi := _) (v := undef) rfl (by kernel_rfl) (fun _ _ _ h => h) (Or.inr ⟨by kernel_rfl, rfl⟩) (by assumption) ?_; (try simp only [Act.put, List.getElem_toArray, List.getElem_cons_zero, List.getElem_cons_succ, List.setIfInBounds_toArray, List.set_cons_zero, List.set_cons_succ])
                refine wpAnyT_take (i := 15) (oi := _) (v := undef) rfl (by kernel_rfl) (fun _ _ _ h => h) (Or.inr ⟨by kernel_rfl, rfl⟩) (by assumption) ?_; (try simp only [Act.put, List.getElem_toArray, List.getElem_cons_zero, List.getElem_cons_succ, List.setIfInBounds_toArray, List.set_cons_zero, List.set_cons_succ])
                refine wpAnyT_take (i := 16) (oi := _) (v := undef) rfl (by kernel_rfl) (fun _ _ _ h => h) (Or.inr ⟨by kernel_rfl, rfl⟩) (by assumption) ?_; (try simp only [Act.put, List.getElem_toArray, List.getElem_cons_zero, List.getElem_cons_succ, List.setIfInBounds_toArray, List.set_cons_zero, List.set_cons_succ])
                refine wpAnyT_take (i := 17) (oi := _) (v := undef) rfl (by kernel_rfl) (fun _ _ _ h => h) (Or.inr ⟨by kernel_rfl, rfl⟩) (by assumption) ?_; (try simp only [Act.put, List.getElem_toArray, List.getElem_cons_zero, List.getElem_cons_succ, List.setIfInBounds_toArray, List.set_cons_zero, List.set_cons_succ])
                refine wpAnyT_take (i := 18) (oi := _) (v := undef) rfl (by kernel_rfl) (fun _ _ _ h => h) (Or.inr ⟨by kernel_rfl, rfl⟩) (by assumption) ?_; (try simp only [Act.put, List.getElem_toArray, List.getElem_cons_zero, List.getElem_cons_succ, List.setIfInBounds_toArray, List.set_cons_zero, List.set_cons_succ])
                refine wpAnyT_take (i := 19) (oi := _) (v := undef) rfl (by kernel_rfl) (fun _ _ _ h => h) (Or.inr ⟨by kernel_rfl, rfl⟩) (by assumption) ?_; (try simp only [Act.put, List.getElem_toArray, List.getElem_cons_zero, List.getElem_cons_succ, List.setIfInBounds_toArray, List.set_cons_zero, List.set_cons_succ])
                refine wpAnyT_take (i := 20) (oi := _) (v := undef) rfl (by kernel_rfl) (fun _ _ _ h => h) (Or.inr ⟨by kernel_rfl, rfl⟩) (by assumption) ?_; (try simp only [Act.put, List.getElem_toArray, List.getElem_cons_zero, List.getElem_cons_succ, List.setIfInBounds_toArray, List.set_cons_zero, List.set_cons_succ])
                refine wpAnyT_take (i := 21) (oi := _) (v := undef) rfl (by kernel_rfl) (fun _ _ _ h => h) (Or.inr ⟨by kernel_rfl, rfl⟩) (by assumption) ?_; (try simp only [Act.put, List.getElem_toArray, List.getElem_cons_zero, List.getElem_cons_succ, List.setIfInBounds_toArray, List.set_cons_zero, List.set_cons_succ])
                refine wpAnyT_take (i := 22) (oi := _) (v := undef) rfl (by kernel_rfl) (fun _ _ _ h => h) (Or.inr ⟨by kernel_rfl, rfl⟩) (by assumption) ?_; (try simp only [Act.put, List.getElem_toArray, List.getElem_cons_zero, List.getElem_cons_succ, List.setIfInBounds_toArray, List.set_cons_zero, List.set_cons_succ])
                refine wpAnyT_take (i := 23) (oi := _) (v := undef) rfl (by kernel_rfl) (fun _ _ _ h => h) (Or.inr ⟨by kernel_rfl, rfl⟩) (by assumption) ?_; (try simp only [Act.put, List.getElem_toArray, List.getElem_cons_zero, List.getElem_cons_succ, List.setIfInBounds_toArray, List.set_cons_zero, List.set_cons_succ])
                refine wpAnyT_take (i := 24) (oi := _) (v := undef) rfl (by kernel_rfl) (fun _ _ _ h => h) (Or.inr ⟨by kernel_rfl, rfl⟩) (by assumption) ?_; (try simp only [Act.put, List.getElem_toArray, List.getElem_cons_zero, List.getElem_cons_succ, List.setIfInBounds_toArray, List.set_cons_zero, List.set_cons_succ])
                refine wpAnyT_take (i := 25) (oi := _) (v := undef) rfl (by kernel_rfl) (fun _ _ _ h => h) (Or.inr ⟨by kernel_rfl, rfl⟩) (by assumption) ?_; (try simp only [Act.put, List.getElem_toArray, List.getElem_cons_zero, List.getElem_cons_succ, List.setIfInBounds_toArray, List.set_cons_zero, List.set_cons_succ])
                refine wpAnyT_take (i := 26) (oi := _) (v := undef) rfl (by kernel_rfl) (fun _ _ _ h => h) (Or.inr ⟨by kernel_rfl, rfl⟩) (by assumption) ?_; (try simp only [Act.put, List.getElem_toArray, List.getElem_cons_zero, List.getElem_cons_succ, List.setIfInBounds_toArray, List.set_cons_zero, List.set_cons_succ])
                refine wpAnyT_take (i := 27) (oi := _) (v := undef) rfl (by kernel_rfl) (fun _ _ _ h => h) (Or.inr ⟨by kernel_rfl, rfl⟩) (by assumption) ?_; (try simp only [Act.put, List.getElem_toArray, List.getElem_cons_zero, List.getElem_cons_succ, List.setIfInBounds_toArray, List.set_cons_zero, List.set_cons_succ])
                refine wpAnyT_take (i := 28) (oi := _) (v := undef) rfl (by kernel_rfl) (fun _ _ _ h => h) (Or.inr ⟨by kernel_rfl, rfl⟩) (by assumption) ?_; (try simp only [Act.put, List.getElem_toArray, List.getElem_cons_zero, List.getElem_cons_succ, List.setIfInBounds_toArray, List.set_cons_zero, List.set_cons_succ])
                refine wpAnyT_take (i := 29) (oi := _) (v := undef) rfl (by kernel_rfl) (fun _ _ _ h => h) (Or.inr ⟨by kernel_rfl, rfl⟩) (by assumption) ?_; (try simp only [Act.put, List.getElem_toArray, List.getElem_cons_zero, List.getElem_cons_succ, List.setIfInBounds_toArray, List.set_cons_zero, List.set_cons_succ])
                refine wpAnyT_take (i := 30) (oi := _) (v := undef) rfl (by kernel_rfl) (fun _ _ _ h => h) (Or.inr ⟨by kernel_rfl, rfl⟩) (by assumption) ?_; (try simp only [Act.put, List.getElem_toArray, List.getElem_cons_zero, List.getElem_cons_succ, List.setIfInBounds_toArray, List.set_cons_zero, List.set_cons_succ])
                refine wpAnyT_take (i := 31) (oi := _) (v := undef) rfl (by kernel_rfl) (fun _ _ _ h => h) (Or.inr ⟨by kernel_rfl, rfl⟩) (by assumption) ?_; (try simp only [Act.put, List.getElem_toArray, List.getElem_cons_zero, List.getElem_cons_succ, List.setIfInBounds_toArray, List.set_cons_zero, List.set_cons_succ])
                refine wpAnyT_take (i := 32) (oi := _) (v := undef) rfl (by kernel_rfl) (fun _ _ _ h => h) (Or.inr ⟨by kernel_rfl, rfl⟩) (by assumption) ?_; (try simp only [Act.put, List.getElem_toArray, List.getElem_cons_zero, List.getElem_cons_succ, List.setIfInBounds_toArray, List.set_cons_zero, List.set_cons_succ])
                refine wpAnyT_take (i := 33) (oi := _) (v := undef) rfl (by kernel_rfl) (fun _ _ _ h => h) (Or.inr ⟨by kernel_rfl, rfl⟩) (by assumption) ?_; (try simp only [Act.put, List.getElem_toArray, List.getElem_cons_zero, List.getElem_cons_succ, List.setIfInBounds_toArray, List.set_cons_zero, List.set_cons_succ])
                refine wpAnyT_take (i := 34) (oi := _) (v := undef) rfl (by kernel_rfl) (fun _ _ _ h => h) (Or.inr ⟨by kernel_rfl, rfl⟩) (by assumption) ?_; (try simp only [Act.put, List.getElem_toArray, List.getElem_cons_zero, List.getElem_cons_succ, List.setIfInBounds_toArray, List.set_cons_zero, List.set_cons_succ])
                refine wpAnyT_take (i := 35) (oi := _) (v := undef) rfl (by kernel_rfl) (fun _ _ _ h => h) (Or.inr ⟨by kernel_rfl, rfl⟩) (by assumption) ?_; (try simp only [Act.put, List.getElem_toArray, List.getElem_cons_zero, List.getElem_cons_succ, List.setIfInBounds_toArray, List.set_cons_zero, List.set_cons_succ])
                refine wpAnyT_take (i := 36) (oi := _) (v := undef) rfl (by kernel_rfl) (fun _ _ _ h => h) (Or.inr ⟨by kernel_rfl, rfl⟩) (by assumption) ?_; (try simp only [Act.put, List.getElem_toArray, List.getElem_cons_zero, List.getElem_cons_succ, List.setIfInBounds_toArray, List.set_cons_zero, List.set_cons_succ])
                refine wpAnyT_take (i := 37) (oi := _) (v := undef) rfl (by kernel_rfl) (fun _ _ _ h => h) (Or.inr ⟨by kernel_rfl, rfl⟩) (by assumption) ?_; (try simp only [Act.put, List.getElem_toArray, List.getElem_cons_zero, List.getElem_cons_succ, List.setIfInBounds_toArray, List.set_cons_zero, List.set_cons_succ])
                refine wpAnyT_take (i := 38) (oi := _) (v := undef) rfl (by kernel_rfl) (fun _ _ _ h => h) (Or.inr ⟨by kernel_rfl, rfl⟩) (by assumption) ?_; (try simp only [Act.put, List.getElem_toArray, List.getElem_cons_zero, List.getElem_cons_succ, List.setIfInBounds_toArray, List.set_cons_zero, List.set_cons_succ])
                refine wpAnyT_take (i := 39) (oi := _) (v := undef) rfl (by kernel_rfl) (fun _ _ _ h => h) (Or.inr ⟨by kernel_rfl, rfl⟩) (by assumption) ?_; (try simp only [Act.put, List.getElem_toArray, List.getElem_cons_zero, List.getElem_cons_succ, List.setIfInBounds_toArray, List.set_cons_zero, List.set_cons_succ])
                refine wpAnyT_take (i := 40) (oi := _) (v := undef) rfl (by kernel_rfl) (fun _ _ _ h => h) (Or.inr ⟨by kernel_rfl, rfl⟩) (by assumption) ?_; (try simp only [Act.put, List.getElem_toArray, List.getElem_cons_zero, List.getElem_cons_succ, List.setIfInBounds_toArray, List.set_cons_zero, List.set_cons_succ])
                refine wpAnyT_take (i := 41) (oi := _) (v := undef) rfl (by kernel_rfl) (fun _ _ _ h => h) (Or.inr ⟨by kernel_rfl, rfl⟩) (by assumption) ?_; (try simp only [Act.put, List.getElem_toArray, List.getElem_cons_zero, List.getElem_cons_succ, List.setIfInBounds_toArray, List.set_cons_zero, List.set_cons_succ])
                refine wpAnyT_take (i := 42) (oi := _) (v := ?_) rfl (by kernel_rfl) (fun _ _ _ h => h) (Or.inl ⟨by kernel_rfl, ?_⟩) (by assumption) ?_; rotate_left; (focus (intro w hSw; (try dsimp only at hSw); go_simp; (try with_reducible rfl))); (try simp only [Act.put, List.getElem_toArray, List.getElem_cons_zero, List.getElem_cons_succ, List.setIfInBounds_toArray, List.set_cons_zero, List.set_cons_succ])
                refine wpAnyT_done (by kernel_rfl) ?_ _
                go_wp2
                go_ret
                exact ⟨by rw [HV.out]; rfl, (HB0.out _ hew).1⟩
              rw [hx] at HR2
              by_cases hp : 0 < k
              · have dk : decide ((0 : Int) < (k : Int)) = true := dct (by omega)
                have k0 : (0 : Int) ≤ (k : Int) - 1 := by omega
                have k9 : (k : Int) - 1 < (d.marks.length : Int) := by omega
                have k1 : (1 : Int) ≤ (k : Int) := by omega
                have k2 : ¬ (k : Int) < 1 := by omega
                have e1 : ((k : Int) - 1).toNat = k - 1 := by omega
                have HP2 : Hid (∀ W, Below (wr.heap.size + 1) (wr.alloc (.cells #[.int .i64 x.maker, .int .i64 x.seq] 44)) W → ((W.cell? ⟨wr.heap.size, 0, none⟩ = some (.int .i64 x.maker) ∧ W.cell? ⟨wr.heap.size, 1, none⟩ = some (.int .i64 x.seq)) ∧ W.cell? ⟨w.heap.size, 2, none⟩ = some (.slice (some ⟨b, off, none⟩) d.marks.length cM)) ∧ W.cell? ⟨b, off + (k - 1) * 2, none⟩ = some (.int .i64 y.maker) ∧ W.cell? ⟨b, off + (k - 1) * 2 + 1, none⟩ = some (.int .i64 y.seq)) := Lib.hid fun W hW => ⟨HBL.out W hW, HP.out W (HB1.out.trans (hW.mono (by omega))) hp⟩
                have HL := Lib.hid (ltP_mk (Hpr.out hp) hx)
                by_cases c1 : x.maker < y.maker
                · have t1 : decide (x.maker < y.maker) = true := dct c1
                  have HV := Lib.hid (HHD.out (Hno2.out hp (by rw [HL.out, dcf (show ¬ y.maker < x.maker by omega), dcf (show ¬ y.maker = x.maker by omega)]; rfl)))
                  clear hx Hno1 Hno2 Hst HP HBL HHD Hpr HL c1
                  go_wp2_with fail
                  refine wp_region_T 99 (fun w' => ((w'.cell? ⟨wr.heap.size, 0, none⟩ = some (.int .i64 x.maker) ∧ w'.cell? ⟨wr.heap.size, 1, none⟩ = some (.int .i64 x.seq)) ∧ w'.cell? ⟨w.heap.size, 2, none⟩ = some (.slice (some ⟨b, off, none⟩) d.marks.length cM)) ∧ w'.cell? ⟨b, off + (k - 1) * 2, none⟩ = some (.int .i64 y.maker) ∧ w'.cell? ⟨b, off + (k - 1) * 2 + 1, none⟩ = some (.int .i64 y.seq)) (by kernel_rfl) (HP2.out _ (below_drewN_ (Below.refl _ _) 1)) (fun hHeld => ?_)
                  refine wpAnyT_take (i := 0) (oi := _) (v := ?_) rfl (by kernel_rfl) (fun _ _ _ h => h) (Or.inl ⟨by kernel_rfl, ?_⟩) (by assumption) ?_; rotate_left; (focus (intro w hSw; (try dsimp only at hSw); go_simp; (try with_reducible rfl))); (try simp only [Act.put, List.getElem_toArray, List.getElem_cons_zero, List.setIfInBounds_toArray, List.set_cons_zero, List.set_cons_succ])
                  refine wpAnyT_one (i := 1) (by kernel_rfl) rfl (fun K hK => ?_); go_simp
                  refine (HR2.out _).mono ?_
                  rintro e wa ⟨rfl, hba⟩
                  have hea0 : Below (wr.heap.size + 1) (wr.alloc (.cells #[.int .i64 x.maker, .int .i64 x.seq] 44)) wa := (below_drewN_ (Below.refl _ _) 1).trans (hba.mono (by simp [World.drew]))
                  have hew : Below (w.heap.size + 1) wm wa := HW1.out.trans ((HB1.out.trans (hea0.mono (by omega))).mono hsz)
                  have hHa := HP2.out _ hea0
                  refine hK.out _ _ (fun _ => hHa) ?_
                  clear hK K hHeld hba
                  refine wpAnyT_take (i := 2) (oi := _) (v := ?_) rfl (by kernel_rfl) (fun _ _ _ h => h) (Or.inl ⟨by kernel_rfl, ?_⟩) (by assumption) ?_; rotate_left; (focus (intro w hSw; (try dsimp only at hSw); go_simp; (try with_reducible rfl))); (try simp only [Act.put, List.getElem_toArray, List.getElem_cons_zero, List.getElem_cons_succ, List.setIfInBounds_toArray, List.set_cons_zero, List.set_cons_succ])
                  refine wpAnyT_take (i := 3) (oi := _) (v := ?_) rfl (by kernel_rfl) (fun _ _ _ h => h) (Or.inl ⟨by kernel_rfl, ?_⟩) (by assumption) ?_; rotate_left; (focus (intro w hSw; (try dsimp only at hSw); go_simp; (try with_reducible rfl))); (try simp only [Act.put, List.getElem_toArray, List.getElem_cons_zero, List.getElem_cons_succ, List.setIfInBounds_toArray, List.set_cons_zero, List.set_cons_succ])
                  refine wpAnyT_take (i := 4) (oi := _) (v := ?_) rfl (by kernel_rfl) (fun _ _ _ h => h) (Or.inl ⟨by kernel_rfl, ?_⟩) (by assumption) ?_; rotate_left; (focus (intro w hSw; (try dsimp only at hSw); go_simp; (try with_reducible rfl))); (try simp only [Act.put, List.getElem_toArray, List.getElem_cons_zero, List.getElem_cons_succ, List.setIfInBounds_toArray, List.set_cons_zero, List.set_cons_succ])
                  refine wpAnyT_take (i := 5) (oi := _) (v := ?_) rfl (by kernel_rfl) (fun _ _ _ h => h) (Or.inl ⟨by kernel_rfl, ?_⟩) (by assumption) ?_; rotate_left; (focus (intro w hSw; (try dsimp only at hSw); go_simp; (try with_reducible rfl))); (try simp only [Act.put, List.getElem_toArray, List.getElem_cons_zero, List.getElem_cons_succ, List.setIfInBounds_toArray, List.set_cons_zero, List.set_cons_succ])
                  refine wpAnyT_take (i := 6) (oi := _) (v := ?_) rfl (by kernel_rfl) (fun _ _ _ h => h) (Or.inl ⟨by kernel_rfl, ?_⟩) (by assumption) ?_; rotate_left; (focus (intro w hSw; (try dsimp only at hSw); go_simp; (try with_reducible rfl))); (try simp only [Act.put, List.getElem_toArray, List.getElem_cons_zero, List.getElem_cons_succ, List.setIfInBounds_toArray, List.set_cons_zero, List.set_cons_succ])
                  refine wpAnyT_take (i := 7) (oi := _) (v := ?_) rfl (by kernel_rfl) (fun _ _ _ h => h) (Or.inl ⟨by kernel_rfl, ?_⟩) (by assumption) ?_; rotate_left; (focus (intro w hSw; (try dsimp only at hSw); go_simp; (try with_reducible rfl))); (try simp only [Act.put, List.getElem_toArray, List.getElem_cons_zero, List.getElem_cons_succ, List.setIfInBounds_toArray, List.set_cons_zero, List.set_cons_succ])
                  refine wpAnyT_take (i := 8) (oi := _) (v := ?_) rfl (by kernel_rfl) (fun _ _ _ h => h) (Or.inl ⟨by kernel_rfl, ?_⟩) (by assumption) ?_; rotate_left; (focus (intro w hSw; (try dsimp only at hSw); go_simp; (try with_reducible rfl))); (try simp only [Act.put, List.getElem_toArray, List.getElem_cons_zero, List.getElem_cons_succ, List.setIfInBounds_toArray, List.set_cons_zero, List.set_cons_succ])
                  refine wpAnyT_take (i := 9) (oi := _) (v := ?_) rfl (by kernel_rfl) (fun _ _ _ h => h) (Or.inl ⟨by kernel_rfl, ?_⟩) (by assumption) ?_; rotate_left; (focus (intro w hSw; (try dsimp only at hSw); go_simp; (try with_reducible rfl))); (try simp only [Act.put, List.getElem_toArray, List.getElem_cons_zero, List.getElem_cons_succ, List.setIfInBounds_toArray, List.set_cons_zero, List.set_cons_succ])
                  refine wpAnyT_take (i := 10) (oi := _) (v := ?_) rfl (by kernel_rfl) (fun _ _ _ h => h) (Or.inl ⟨by kernel_rfl, ?_⟩) (by assumption) ?_; rotate_left; (focus (intro w hSw; (try dsimp only at hSw); go_simp; (try with_reducible rfl))); (try simp only [Act.put, List.getElem_toArray, List.getElem_cons_zero, List.getElem_cons_succ, List.setIfInBounds_toArray, List.set_cons_zero, List.set_cons_succ])
                  refine wpAnyT_take (i := 11) (oi := _) (v := .pointer (some ⟨b, off + (k - 1) * 2, none⟩)) rfl (by kernel_rfl) (fun _ _ _ h => h) (Or.inl ⟨by kernel_rfl, by (intro w hSw; (try dsimp only at hSw); go_simp)⟩) (by assumption) ?_; (try simp only [Act.put, List.getElem_toArray, List.getElem_cons_zero, List.getElem_cons_succ, List.setIfInBounds_toArray, List.set_cons_zero, List.set_cons_succ])
                  refine wpAnyT_take (i := 12) (oi := _) (v := ?_) rfl (by kernel_rfl) (fun _ _ _ h => h) (Or.inl ⟨by kernel_rfl, ?_⟩) (by assumption) ?_; rotate_left; (focus (intro w hSw; (try dsimp only at hSw); go_simp; (try with_reducible rfl))); (try simp only [Act.put, List.getElem_toArray, List.getElem_cons_zero, List.getElem_cons_succ, List.setIfInBounds_toArray, List.set_cons_zero, List.set_cons_succ])
                  refine wpAnyT_take (i := 13) (oi := _) (v := ?_) rfl (by kernel_rfl) (fun _ _ _ h => h) (Or.inl ⟨by kernel_rfl, ?_⟩) (by assumption) ?_; rotate_left; (focus (intro w hSw; (try dsimp only at hSw); go_simp; (try with_reducible rfl))); (try simp only [Act.put, List.getElem_toArray, List.getElem_cons_zero, List.getElem_cons_succ, List.setIfInBounds_toArray, List.set_cons_zero, List.set_cons_succ])
                  refine wpAnyT_take (i := 14) (oi := _) (v := ?_) rfl (by kernel_rfl) (fun _ _ _ h => h) (Or.inl ⟨by kernel_rfl, ?_⟩) (by assumption) ?_; rotate_left; (focus (intro w hSw; (try dsimp only at hSw); go_simp; (try with_reducible rfl))); (try simp only [Act.put, List.getElem_toArray, List.getElem_cons_zero, List.getElem_cons_succ, List.setIfInBounds_toArray, List.set_cons_zero, List.set_cons_succ])
                  refine wpAnyT_take (i := 15) (oi := _) (v := ?_) rfl (by kernel_rfl) (fun _ _ _ h => h) (Or.inl ⟨by kernel_rfl, ?_⟩) (by assumption) ?_; rotate_left; (focus (intro w hSw; (try dsimp only at hSw); go_simp; (try with_reducible rfl))); (try simp only [Act.put, List.getElem_toArray, List.getElem_cons_zero, List.getElem_cons_succ, List.setIfInBounds_toArray, List.set_cons_zero, List.set_cons_succ])
                  refine wpAnyT_take (i := 16) (oi := _) (v := ?_) rfl (by kernel_rfl) (fun _ _ _ h => h) (Or.inl ⟨by kernel_rfl, ?_⟩) (by assumption) ?_; rotate_left; (focus (intro w hSw; (try dsimp only at hSw); go_simp; (try with_reducible rfl))); (try simp only [Act.put, List.getElem_toArray, List.getElem_cons_zero, List.getElem_cons_succ, List.setIfInBounds_toArray, List.set_cons_zero, List.set_cons_succ])
                  refine wpAnyT_take (i := 17) (oi := _) (v := ?_) rfl (by kernel_rfl) (fun _ _ _ h => h) (Or.inl ⟨by kernel_rfl, ?_⟩) (by assumption) ?_; rotate_left; (focus (intro w hSw; (try dsimp only at hSw); go_simp; (try with_reducible rfl))); (try simp only [Act.put, List.getElem_toArray, List.getElem_cons_zero, List.getElem_cons_succ, List.setIfInBounds_toArray, List.set_cons_zero, List.set_cons_succ])
                  refine wpAnyT_take (i := 18) (oi := _) (v := undef) rfl (by kernel_rfl) (fun _ _ _ h => h) (Or.inr ⟨by kernel_rfl, rfl⟩) (by assumption) ?_; (try simp only [Act.put, List.getElem_toArray, List.getElem_cons_zero, List.getElem_cons_succ, List.setIfInBounds_toArray, List.set_cons_zero, List.set_cons_succ])
                  refine wpAnyT_take (i := 19) (oi := _) (v := undef) rfl (by kernel_rfl) (fun _ _ _ h => h) (Or.inr ⟨by kernel_rfl, rfl⟩) (by assumption) ?_; (try simp only [Act.put, List.getElem_toArray, List.getElem_cons_zero, List.getElem_cons_succ, List.setIfInBounds_toArray, List.set_cons_zero, List.set_cons_succ])
                  refine wpAnyT_take (i := 20) (oi := _) (v := undef) rfl (by kernel_rfl) (fun _ _ _ h => h) (Or.inr ⟨by kernel_rfl, rfl⟩) (by assumption) ?_; (try simp only [Act.put, List.getElem_toArray, List.getElem_cons_zero, List.getElem_cons_succ, List.setIfInBounds_toArray, List.set_cons_zero, List.set_cons_succ])
                  refine wpAnyT_take (i := 21) (oi := _) (v := undef) rfl (by kernel_rfl) (fun _ _ _ h => h) (Or.inr ⟨by kernel_rfl, rfl⟩) (by assumption) ?_; (try simp only [Act.put, List.getElem_toArray, List.getElem_cons_zero, List.getElem_cons_succ, List.setIfInBounds_toArray, List.set_cons_zero, List.set_cons_succ])
                  refine wpAnyT_take (i := 22) (oi := _) (v := undef) rfl (by kernel_rfl) (fun _ _ _ h => h) (Or.inr ⟨by kernel_rfl, rfl⟩) (by assumption) ?_; (try simp only [Act.put, List.getElem_toArray, List.getElem_cons_zero, List.getElem_cons_succ, List.setIfInBounds_toArray, List.set_cons_zero, List.set_cons_succ])
                  refine wpAnyT_take (i := 23) (oi := _) (v := undef) rfl (by kernel_rfl) (fun _ _ _ h => h) (Or.inr ⟨by kernel_rfl, rfl⟩) (by assumption) ?_; (try simp only [Act.put, List.getElem_toArray, List.getElem_cons_zero, List.getElem_cons_succ, List.setIfInBounds_toArray, List.set_cons_zero, List.set_cons_succ])
                  refine wpAnyT_take (i := 24) (oi := _) (v := undef) rfl (by kernel_rfl) (fun _ _ _ h => h) (Or.inr ⟨by kernel_rfl, rfl⟩) (by assumption) ?_; (try simp only [Act.put, List.getElem_toArray, List.getElem_cons_zero, List.getElem_cons_succ, List.setIfInBounds_toArray, List.set_cons_zero, List.set_cons_succ])
                  refine wpAnyT_take (i := 25) (oi := _) (v := undef) rfl (by kernel_rfl) (fun _ _ _ h => h) (Or.inr ⟨by kernel_rfl, rfl⟩) (by assumption) ?_; (try simp only [Act.put, List.getElem_toArray, List.getElem_cons_zero, List.getElem_cons_succ, List.setIfInBounds_toArray, List.set_cons_zero, List.set_cons_succ])
                  refine wpAnyT_take (i := 26) (oi := _) (v := undef) rfl (by kernel_rfl) (fun _ _ _ h => h) (Or.inr ⟨by kernel_rfl, rfl⟩) (by assumption) ?_; (try simp only [Act.put, List.getElem_toArray, List.getElem_cons_zero, List.getElem_cons_succ, List.setIfInBounds_toArray, List.set_cons_zero, List.set_cons_succ])
                  refine wpAnyT_take (i := 27) (oi := _) (v := undef) rfl (by kernel_rfl) (fun _ _ _ h => h) (Or.inr ⟨by kernel_rfl, rfl⟩) (by assumption) ?_; (try simp only [Act.put, List.getElem_toArray, List.getElem_cons_zero, List.getElem_cons_succ, List.setIfInBounds_toArray, List.set_cons_zero, List.set_cons_succ])
                  refine wpAnyT_take (i := 28) (oi := _) (v := undef) rfl (by kernel_rfl) (fun _ _ _ h => h) (Or.inr ⟨by kernel_rfl, rfl⟩) (by assumption) ?_; (try simp only [Act.put, List.getElem_toArray, List.getElem_cons_zero, List.getElem_cons_succ, List.setIfInBounds_toArray, List.set_cons_zero, List.set_cons_succ])
                  refine wpAnyT_take (i := 29) (oi := _) (v := undef) rfl (by kernel_rfl) (fun _ _ _ h => h) (Or.inr ⟨by kernel_rfl, rfl⟩) (by assumption) ?_; (try simp only [Act.put, List.getElem_toArray, List.getElem_cons_zero, List.getElem_cons_succ, List.setIfInBounds_toArray, List.set_cons_zero, List.set_cons_succ])
                  refine wpAnyT_take (i := 30) (oi := _) (v := undef) rfl (by kernel_rfl) (fun _ _ _ h => h) (Or.inr ⟨by kernel_rfl, rfl⟩) (by assumption) ?_; (try simp only [Act.put, List.getElem_toArray, List.getElem_cons_zero, List.getElem_cons_succ, List.setIfInBounds_toArray, List.set_cons_zero, List.set_cons_succ])
                  refine wpAnyT_take (i := 31) (oi := _) (v := undef) rfl (by kernel_rfl) (fun _ _ _ h => h) (Or.inr ⟨by kernel_rfl, rfl⟩) (by assumption) ?_; (try simp only [Act.put, List.getElem_toArray, List.getElem_cons_zero, List.getElem_cons_succ, List.setIfInBounds_toArray, List.set_cons_zero, List.set_cons_succ])
                  refine wpAnyT_take (i := 32) (oi := _) (v := undef) rfl (by kernel_rfl) (fun _ _ _ h => h) (Or.inr ⟨by kernel_rfl, rfl⟩) (by assumption) ?_; (try simp only [Act.put, List.getElem_toArray, List.getElem_cons_zero, List.getElem_cons_succ, List.setIfInBounds_toArray, List.set_cons_zero, List.set_cons_succ])
                  refine wpAnyT_take (i := 33) (oi := _) (v := undef) rfl (by kernel_rfl) (fun _ _ _ h => h) (Or.inr ⟨by kernel_rfl, rfl⟩) (by assumption) ?_; (try simp only [Act.put, List.getElem_toArray, List.getElem_cons_zero, List.getElem_cons_succ, List.setIfInBounds_toArray, List.set_cons_zero, List.set_cons_succ])
                  refine wpAnyT_take (i := 34) (oi := _) (v := undef) rfl (by kernel_rfl) (fun _ _ _ h => h) (Or.inr ⟨by kernel_rfl, rfl⟩) (by assumption) ?_; (try simp only [Act.put, List.getElem_toArray, List.getElem_cons_zero, List.getElem_cons_succ, List.setIfInBounds_toArray, List.set_cons_zero, List.set_cons_succ])
                  refine wpAnyT_take (i := 35) (oi := _) (v := undef) rfl (by kernel_rfl) (fun _ _ _ h => h) (Or.inr ⟨by kernel_rfl, rfl⟩) (by assumption) ?_; (try simp only [Act.put, List.getElem_toArray, List.getElem_cons_zero, List.getElem_cons_succ, List.setIfInBounds_toArray, List.set_cons_zero, List.set_cons_succ])
                  refine wpAnyT_take (i := 36) (oi := _) (v := undef) rfl (by kernel_rfl) (fun _ _ _ h => h) (Or.inr ⟨by kernel_rfl, rfl⟩) (by assumption) ?_; (try simp only [Act.put, List.getElem_toArray, List.getElem_cons_zero, List.getElem_cons_succ, List.setIfInBounds_toArray, List.set_cons_zero, List.set_cons_succ])
                  refine wpAnyT_take (i := 37) (oi := _) (v := undef) rfl (by kernel_rfl) (fun _ _ _ h => h) (Or.inr ⟨by kernel_rfl, rfl⟩) (by assumption) ?_; (try simp only [Act.put, List.getElem_toArray, List.getElem_cons_zero, List.getElem_cons_succ, List.setIfInBounds_toArray, List.set_cons_zero, List.set_cons_succ])
                  refine wpAnyT_take (i := 38) (oi := _) (v := undef) rfl (by kernel_rfl) (fun _ _ _ h => h) (Or.inr ⟨by kernel_rfl, rfl⟩) (by assumption) ?_; (try simp only [Act.put, List.getElem_toArray, List.getElem_cons_zero, List.getElem_cons_succ, List.setIfInBounds_toArray, List.set_cons_zero, List.set_cons_succ])
                  refine wpAnyT_take (i := 39) (oi := _) (v := undef) rfl (by kernel_rfl) (fun _ _ _ h => h) (Or.inr ⟨by kernel_rfl, rfl⟩) (by assumption) ?_; (try simp only [Act.put, List.getElem_toArray, List.getElem_cons_zero, List.getElem_cons_succ, List.setIfInBounds_toArray, List.set_cons_zero, List.set_cons_succ])
                  refine wpAnyT_take (i := 40) (oi := _) (v := ?_) rfl (by kernel_rfl) (fun _ _ _ h => h) (Or.inl ⟨by kernel_rfl, ?_⟩) (by assumption) ?_; rotate_left; (focus (intro w hSw; (try dsimp only at hSw); go_simp; (try with_reducible rfl))); (try simp only [Act.put, List.getElem_toArray, List.getElem_cons_zero, List.getElem_cons_succ, List.setIfInBounds_toArray, List.set_cons_zero, List.set_cons_succ])
                  refine wpAnyT_take (i := 41) (oi := _) (v := ?_) rfl (by kernel_rfl) (fun _ _ _ h => h) (Or.inl ⟨by kernel_rfl, ?_⟩) (by assumption) ?_; rotate_left; (focus (intro w hSw; (try dsimp only at hSw); go_simp; (try with_reducible rfl))); (try simp only [Act.put, List.getElem_toArray, List.getElem_cons_zero, List.getElem_cons_succ, List.setIfInBounds_toArray, List.set_cons_zero, List.set_cons_succ])
                  refine wpAnyT_take (i := 42) (oi := _) (v := ?_) rfl (by kernel_rfl) (fun _ _ _ h => h) (Or.inl ⟨by kernel_rfl, ?_⟩) (by assumption) ?_; rotate_left; (focus (intro w hSw; (try dsimp only at hSw); go_simp; (try with_reducible rfl))); (try simp only [Act.put, List.getElem_toArray, List.getElem_cons_zero, List.getElem_cons_succ, List.setIfInBounds_toArray, List.set_cons_zero, List.set_cons_succ])
                  refine wpAnyT_done (by kernel_rfl) ?_ _
                  go_wp2
                  go_ret
                  exact ⟨by rw [HV.out]; rfl, (HB0.out _ hew).1⟩
                have t1 : decide (x.maker < y.maker) = false := dcf c1
                by_cases c2 : y.maker = x.maker
                · have t2 : (y.maker == x.maker) = true := eqt c2
                  by_cases c3 : x.seq ≤ y.seq
                  · have t3 : decide (x.seq ≤ y.seq) = true := dct c3
                    have HV := Lib.hid (HHD.out (Hno2.out hp (by rw [HL.out, dcf (show ¬ y.maker < x.maker by omega), dcf (show ¬ y.seq < x.seq by omega), Bool.and_false]; rfl)))
                    clear hx Hno1 Hno2 Hst HP HBL HHD Hpr HL c1 c2 c3
                    go_wp2_with fail
                    refine wp_region_T 99 (fun w' => ((w'.cell? ⟨wr.heap.size, 0, none⟩ = some (.int .i64 x.maker) ∧ w'.cell? ⟨wr.heap.size, 1, none⟩ = some (.int .i64 x.seq)) ∧ w'.cell? ⟨w.heap.size, 2, none⟩ = some (.slice (some ⟨b, off, none⟩) d.marks.length cM)) ∧ w'.cell? ⟨b, off + (k - 1) * 2, none⟩ = some (.int .i64 y.maker) ∧ w'.cell? ⟨b, off + (k - 1) * 2 + 1, none⟩ = some (.int .i64 y.seq)) (by kernel_rfl) (HP2.out _ (below_drewN_ (Below.refl _ _) 1)) (fun hHeld => ?_)
                    refine wpAnyT_take (i := 0) (oi := _) (v := ?_) rfl (by kernel_rfl) (fun _ _ _ h => h) (Or.inl ⟨by kernel_rfl, ?_⟩) (by assumption) ?_; rotate_left; (focus (intro w hSw; (try dsimp only at hSw); go_simp; (try with_reducible rfl))); (try simp only [Act.put, List.getElem_toArray, List.getElem_cons_zero, List.setIfInBounds_toArray, List.set_cons_zero, List.set_cons_succ])
                    refine wpAnyT_one (i := 1) (by kernel_rfl) rfl (fun K hK => ?_); go_simp
                    refine (HR2.out _).mono ?_
                    rintro e wa ⟨rfl, hba⟩
                    have hea0 : Below (wr.heap.size + 1) (wr.alloc (.cells #[.int .i64 x.maker, .int .i64 x.seq] 44)) wa := (below_drewN_ (Below.refl _ _) 1).trans (hba.mono (by simp [World.drew]))
                    have hew : Below (w.heap.size + 1) wm wa := HW1.out.trans ((HB1.out.trans (hea0.mono (by omega))).mono hsz)
                    have hHa := HP2.out _ hea0
                    refine hK.out _ _ (fun _ => hHa) ?_
                    clear hK K hHeld hba
                    refine wpAnyT_take (i := 2) (oi := _) (v := ?_) rfl (by kernel_rfl) (fun _ _ _ h => h) (Or.inl ⟨by kernel_rfl, ?_⟩) (by assumption) ?_; rotate_left; (focus (intro w hSw; (try dsimp only at hSw); go_simp; (try with_reducible rfl))); (try simp only [Act.put, List.getElem_toArray, List.getElem_cons_zero, List.getElem_cons_succ, List.setIfInBounds_toArray, List.set_cons_zero, List.set_cons_succ])
                    refine wpAnyT_take (i := 3) (oi := _) (v := ?_) rfl (by kernel_rfl) (fun _ _ _ h => h) (Or.inl ⟨by kernel_rfl, ?_⟩) (by assumption) ?_; rotate_left; (focus (intro w hSw; (try dsimp only at hSw); go_simp; (try with_reducible rfl))); (try simp only [Act.put, List.getElem_toArray, List.getElem_cons_zero, List.getElem_cons_succ, List.setIfInBounds_toArray, List.set_cons_zero, List.set_cons_succ])
                    refine wpAnyT_take (i := 4) (oi := _) (v := ?_) rfl (by kernel_rfl) (fun _ _ _ h => h) (Or.inl ⟨by kernel_rfl, ?_⟩) (by assumption) ?_; rotate_left; (focus (intro w hSw; (try dsimp only at hSw); go_simp; (try with_reducible rfl))); (try simp only [Act.put, List.getElem_toArray, List.getElem_cons_zero, List.getElem_cons_succ, List.setIfInBounds_toArray, List.set_cons_zero, List.set_cons_succ])
                    refine wpAnyT_take (i := 5) (oi := _) (v := ?_) rfl (by kernel_rfl) (fun _ _ _ h => h) (Or.inl ⟨by kernel_rfl, ?_⟩) (by assumption) ?_; rotate_left; (focus (intro w hSw; (try dsimp only at hSw); go_simp; (try with_reducible rfl))); (try simp only [Act.put, List.getElem_toArray, List.getElem_cons_zero, List.getElem_cons_succ, List.setIfInBounds_toArray, List.set_cons_zero, List.set_cons_succ])
                    refine wpAnyT_take (i := 6) (oi := _) (v := ?_) rfl (by kernel_rfl) (fun _ _ _ h => h) (Or.inl ⟨by kernel_rfl, ?_⟩) (by assumption) ?_; rotate_left; (focus (intro w hSw; (try dsimp only at hSw); go_simp; (try with_reducible rfl))); (try simp only [Act.put, List.getElem_toArray, List.getElem_cons_zero, List.getElem_cons_succ, List.setIfInBounds_toArray, List.set_cons_zero, List.set_cons_succ])
                    refine wpAnyT_take (i := 7) (oi := _) (v := ?_) rfl (by kernel_rfl) (fun _ _ _ h => h) (Or.inl ⟨by kernel_rfl, ?_⟩) (by assumption) ?_; rotate_left; (focus (intro w hSw; (try dsimp only at hSw); go_simp; (try with_reducible rfl))); (try simp only [Act.put, List.getElem_toArray, List.getElem_cons_zero, List.getElem_cons_succ, List.setIfInBounds_toArray, List.set_cons_zero, List.set_cons_succ])
                    refine wpAnyT_take (i := 8) (oi := _) (v := ?_) rfl (by kernel_rfl) (fun _ _ _ h => h) (Or.inl ⟨by kernel_rfl, ?_⟩) (by assumption) ?_; rotate_left; (focus (intro w hSw; (try dsimp only at hSw); go_simp; (try with_reducible rfl))); (try simp only [Act.put, List.getElem_toArray, List.getElem_cons_zero, List.getElem_cons_succ, List.setIfInBounds_toArray, List.set_cons_zero, List.set_cons_succ])
                    refine wpAnyT_take (i := 9) (oi := _) (v := ?_) rfl (by kernel_rfl) (fun _ _ _ h => h) (Or.inl ⟨by kernel_rfl, ?_⟩) (by assumption) ?_; rotate_left; (focus (intro w hSw; (try dsimp only at hSw); go_simp; (try with_reducible rfl))); (try simp only [Act.put, List.getElem_toArray, List.getElem_cons_zero, List.getElem_cons_succ, List.setIfInBounds_toArray, List.set_cons_zero, List.set_cons_succ])
                    refine wpAnyT_take (i := 10) (oi := _) (v := ?_) rfl (by kernel_rfl) (fun _ _ _ h => h) (Or.inl ⟨by kernel_rfl, ?_⟩) (by assumption) ?_; rotate_left; (focus (intro w hSw; (try dsimp only at hSw); go_simp; (try with_reducible rfl))); (try simp only [Act.put, List.getElem_toArray, List.getElem_cons_zero, List.getElem_cons_succ, List.setIfInBounds_toArray, List.set_cons_zero, List.set_cons_succ])
                    refine wpAnyT_take (i := 11) (oi := _) (v := .pointer (some ⟨b, off + (k - 1) * 2, none⟩)) rfl (by kernel_rfl) (fun _ _ _ h => h) (Or.inl ⟨by kernel_rfl, by (intro w hSw; (try dsimp only at hSw); go_simp)⟩) (by assumption) ?_; (try simp only [Act.put, List.getElem_toArray, List.getElem_cons_zero, List.getElem_cons_succ, List.setIfInBounds_toArray, List.set_cons_zero, List.set_cons_succ])
                    refine wpAnyT_take (i := 12) (oi := _) (v := ?_) rfl (by kernel_rfl) (fun _ _ _ h => h) (Or.inl ⟨by kernel_rfl, ?_⟩) (by assumption) ?_; rotate_left; (focus (intro w hSw; (try dsimp only at hSw); go_simp; (try with_reducible rfl))); (try simp only [Act.put, List.getElem_toArray, List.getElem_cons_zero, List.getElem_cons_succ, List.setIfInBounds_toArray, List.set_cons_zero, List.set_cons_succ])
                    refine wpAnyT_take (i := 13) (oi := _) (v := ?_) rfl (by kernel_rfl) (fun _ _ _ h => h) (Or.inl ⟨by kernel_rfl, ?_⟩) (by assumption) ?_; rotate_left; (focus (intro w hSw; (try dsimp only at hSw); go_simp; (try with_reducible rfl))); (try simp only [Act.put, List.getElem_toArray, List.getElem_cons_zero, List.getElem_cons_succ, List.setIfInBounds_toArray, List.set_cons_zero, List.set_cons_succ])
                    refine wpAnyT_take (i := 14) (oi := _) (v := ?_) rfl (by kernel_rfl) (fun _ _ _ h => h) (Or.inl ⟨by kernel_rfl, ?_⟩) (by assumption) ?_; rotate_left; (focus (intro w hSw; (try dsimp only at hSw); go_simp; (try with_reducible rfl))); (try simp only [Act.put, List.getElem_toArray, List.getElem_cons_zero, List.getElem_cons_succ, List.setIfInBounds_toArray, List.set_cons_zero, List.set_cons_succ])
                    refine wpAnyT_take (i := 15) (oi := _) (v := ?_) rfl (by kernel_rfl) (fun _ _ _ h => h) (Or.inl ⟨by kernel_rfl, ?_⟩) (by assumption) ?_; rotate_left; (focus (intro w hSw; (try dsimp only at hSw); go_simp; (try with_reducible rfl))); (try simp only [Act.put, List.getElem_toArray, List.getElem_cons_zero, List.getElem_cons_succ, List.setIfInBounds_toArray, List.set_cons_zero, List.set_cons_succ])
                    refine wpAnyT_take (i := 16) (oi := _) (v := ?_) rfl (by kernel_rfl) (fun _ _ _ h => h) (Or.inl ⟨by kernel_rfl, ?_⟩) (by assumption) ?_; rotate_left; (focus (intro w hSw; (try dsimp only at hSw); go_simp; (try with_reducible rfl))); (try simp only [Act.put, List.getElem_toArray, List.getElem_cons_zero, List.getElem_cons_succ, List.setIfInBounds_toArray, List.set_cons_zero, List.set_cons_succ])
                    refine wpAnyT_take (i := 17) (oi := _) (v := ?_) rfl (by kernel_rfl) (fun _ _ _ h => h) (Or.inl ⟨by kernel_rfl, ?_⟩) (by assumption) ?_; rotate_left; (focus (intro w hSw; (try dsimp only at hSw); go_simp; (try with_reducible rfl))); (try simp only [Act.put, List.getElem_toArray, List.getElem_cons_zero, List.getElem_cons_succ, List.setIfInBounds_toArray, List.set_cons_zero, List.set_cons_succ])
                    refine wpAnyT_take (i := 18) (oi := _) (v := ?_) rfl (by kernel_rfl) (fun _ _ _ h => h) (Or.inl ⟨by kernel_rfl, ?_⟩) (by assumption) ?_; rotate_left; (focus (intro w hSw; (try dsimp only at hSw); go_simp; (try with_reducible rfl))); (try simp only [Act.put, List.getElem_toArray, List.getElem_cons_zero, List.getElem_cons_succ, List.setIfInBounds_toArray, List.set_cons_zero, List.set_cons_succ])
                    refine wpAnyT_take (i := 19) (oi := _) (v := ?_) rfl (by kernel_rfl) (fun _ _ _ h => h) (Or.inl ⟨by kernel_rfl, ?_⟩) (by assumption) ?_; rotate_left; (focus (intro w hSw; (try dsimp only at hSw); go_simp; (try with_reducible rfl))); (try simp only [Act.put, List.getElem_toArray, List.getElem_cons_zero, List.getElem_cons_succ, List.setIfInBounds_toArray, List.set_cons_zero, List.set_cons_succ])
                    refine wpAnyT_take (i := 20) (oi := _) (v := ?_) rfl (by kernel_rfl) (fun _ _ _ h => h) (Or.inl ⟨by kernel_rfl, ?_⟩) (by assumption) ?_; rotate_left; (focus (intro w hSw; (try dsimp only at hSw); go_simp; (try with_reducible rfl))); (try simp only [Act.put, List.getElem_toArray, List.getElem_cons_zero, List.getElem_cons_succ, List.setIfInBounds_toArray, List.set_cons_zero, List.set_cons_succ])
                    refine wpAnyT_take (i := 21) (oi := _) (v := ?_) rfl (by kernel_rfl) (fun _ _ _ h => h) (Or.inl ⟨by kernel_rfl, ?_⟩) (by assumption) ?_; rotate_left; (focus (intro w hSw; (try dsimp only at hSw); go_simp; (try with_reducible rfl))); (try simp only [Act.put, List.getElem_toArray, List.getElem_cons_zero, List.getElem_cons_succ, List.setIfInBounds_toArray, List.set_cons_zero, List.set_cons_succ])
                    refine wpAnyT_take (i := 22) (oi := _) (v := .pointer (some ⟨b, off + (k - 1) * 2, none⟩)) rfl (by kernel_rfl) (fun _ _ _ h => h) (Or.inl ⟨by kernel_rfl, by (intro w hSw; (try dsimp only at hSw); go_simp)⟩) (by assumption) ?_; (try simp only [Act.put, List.getElem_toArray, List.getElem_cons_zero, List.getElem_cons_succ, List.setIfInBounds_toArray, List.set_cons_zero, List.set_cons_succ])
                    refine wpAnyT_take (i := 23) (oi := _) (v := ?_) rfl (by kernel_rfl) (fun _ _ _ h => h) (Or.inl ⟨by kernel_rfl, ?_⟩) (by assumption) ?_; rotate_left; (focus (intro w hSw; (try dsimp only at hSw); go_simp; (try with_reducible rfl))); (try simp only [Act.put, List.getElem_toArray, List.getElem_cons_zero, List.getElem_cons_succ, List.setIfInBounds_toArray, List.set_cons_zero, List.set_cons_succ])
                    refine wpAnyT_take (i := 24) (oi := _) (v := ?_) rfl (by kernel_rfl) (fun _ _ _ h => h) (Or.inl ⟨by kernel_rfl, ?_⟩) (by assumption) ?_; rotate_left; (focus (intro w hSw; (try dsimp only at hSw); go_simp; (try with_reducible rfl))); (try simp only [Act.put, List.getElem_toArray, List.getElem_cons_zero, List.getElem_cons_succ, List.setIfInBounds_toArray, List.set_cons_zero, List.set_cons_succ])
                    refine wpAnyT_take (i := 25) (oi := _) (v := ?_) rfl (by kernel_rfl) (fun _ _ _ h => h) (Or.inl ⟨by kernel_rfl, ?_⟩) (by assumption) ?_; rotate_left; (focus (intro w hSw; (try dsimp only at hSw); go_simp; (try with_reducible rfl))); (try simp only [Act.put, List.getElem_toArray, List.getElem_cons_zero, List.getElem_cons_succ, List.setIfInBounds_toArray, List.set_cons_zero, List.set_cons_succ])
                    refine wpAnyT_take (i := 26) (oi := _) (v := ?_) rfl (by kernel_rfl) (fun _ _ _ h => h) (Or.inl ⟨by kernel_rfl, ?_⟩) (by assumption) ?_; rotate_left; (focus (intro w hSw; (try dsimp only at hSw); go_simp; (try with_reducible rfl))); (try simp only [Act.put, List.getElem_toArray, List.getElem_cons_zero, List.getElem_cons_succ, List.setIfInBounds_toArray, List.set_cons_zero, List.set_cons_succ])
                    refine wpAnyT_take (i := 27) (oi := _) (v := ?_) rfl (by kernel_rfl) (fun _ _ _ h => h) (Or.inl ⟨by kernel_rfl, ?_⟩) (by assumption) ?_; rotate_left; (focus (intro w hSw; (try dsimp only at hSw); go_simp; (try with_reducible rfl))); (try simp only [Act.put, List.getElem_toArray, List.getElem_cons_zero, List.getElem_cons_succ, List.setIfInBounds_toArray, List.set_cons_zero, List.set_cons_succ])
                    refine wpAnyT_take (i := 28) (oi := _) (v := ?_) rfl (by kernel_rfl) (fun _ _ _ h => h) (Or.inl ⟨by kernel_rfl, ?_⟩) (by assumption) ?_; rotate_left; (focus (intro w hSw; (try dsimp only at hSw); go_simp; (try with_reducible rfl))); (try simp only [Act.put, List.getElem_toArray, List.getElem_cons_zero, List.getElem_cons_succ, List.setIfInBounds_toArray, List.set_cons_zero, List.set_cons_succ])
                    refine wpAnyT_take (i := 29) (oi := _) (v := ?_) rfl (by kernel_rfl) (fun _ _ _ h => h) (Or.inl ⟨by kernel_rfl, ?_⟩) (by assumption) ?_; rotate_left; (focus (intro w hSw; (try dsimp only at hSw); go_simp; (try with_reducible rfl))); (try simp only [Act.put, List.getElem_toArray, List.getElem_cons_zero, List.getElem_cons_succ, List.setIfInBounds_toArray, List.set_cons_zero, List.set_cons_succ])
                    refine wpAnyT_take (i := 30) (oi := _) (v := ?_) rfl (by kernel_rfl) (fun _ _ _ h => h) (Or.inl ⟨by kernel_rfl, ?_⟩) (by assumption) ?_; rotate_left; (focus (intro w hSw; (try dsimp only at hSw); go_simp; (try with_reducible rfl))); (try simp only [Act.put, List.getElem_toArray, List.getElem_cons_zero, List.getElem_cons_succ, List.setIfInBounds_toArray, List.set_cons_zero, List.set_cons_succ])
                    refine wpAnyT_take (i := 31) (oi := _) (v := ?_) rfl (by kernel_rfl) (fun _ _ _ h => h) (Or.inl ⟨by kernel_rfl, ?_⟩) (by assumption) ?_; rotate_left; (focus (intro w hSw; (try dsimp only at hSw); go_simp; (try with_reducible rfl))); (try simp only [Act.put, List.getElem_toArray, List.getElem_cons_zero, List.getElem_cons_succ, List.setIfInBounds_toArray, List.set_cons_zero, List.set_cons_succ])
                    refine wpAnyT_take (i := 32) (oi := _) (v := ?_) rfl (by kernel_rfl) (fun _ _ _ h => h) (Or.inl ⟨by kernel_rfl, ?_⟩) (by assumption) ?_; rotate_left; (focus (intro w hSw; (try dsimp only at hSw); go_simp; (try with_reducible rfl))); (try simp only [Act.put, List.getElem_toArray, List.getElem_cons_zero, List.getElem_cons_succ, List.setIfInBounds_toArray, List.set_cons_zero, List.set_cons_succ])
                    refine wpAnyT_take (i := 33) (oi := _) (v := .pointer (some ⟨b, off + (k - 1) * 2, none⟩)) rfl (by kernel_rfl) (fun _ _ _ h => h) (Or.inl ⟨by kernel_rfl, by (intro w hSw; (try dsimp only at hSw); go_simp)⟩) (by assumption) ?_; (try simp only [Act.put, List.getElem_toArray, List.getElem_cons_zero, List.getElem_cons_succ, List.setIfInBounds_toArray, List.set_cons_zero, List.set_cons_succ])
                    refine wpAnyT_take (i := 34) (oi := _) (v := ?_) rfl (by kernel_rfl) (fun _ _ _ h => h) (Or.inl ⟨by kernel_rfl, ?_⟩) (by assumption) ?_; rotate_left; (focus (intro w hSw; (try dsimp only at hSw); go_simp; (try with_reducible rfl))); (try simp only [Act.put, List.getElem_toArray, List.getElem_cons_zero, List.getElem_cons_succ, List.setIfInBounds_toArray, List.set_cons_zero, List.set_cons_succ])
                    refine wpAnyT_take (i := 35) (oi := _) (v := ?_) rfl (by kernel_rfl) (fun _ _ _ h => h) (Or.inl ⟨by kernel_rfl, ?_⟩) (by assumption) ?_; rotate_left; (focus (intro w hSw; (try dsimp only at hSw); go_simp; (try with_reducible rfl))); (try simp only [Act.put, List.getElem_toArray, List.getElem_cons_zero, List.getElem_cons_succ, List.setIfInBounds_toArray, List.set_cons_zero, List.set_cons_succ])
                    refine wpAnyT_take (i := 36) (oi := _) (v := ?_) rfl (by kernel_rfl) (fun _ _ _ h => h) (Or.inl ⟨by kernel_rfl, ?_⟩) (by assumption) ?_; rotate_left; (focus (intro w hSw; (try dsimp only at hSw); go_simp; (try with_reducible rfl))); (try simp only [Act.put, List.getElem_toArray, List.getElem_cons_zero, List.getElem_cons_succ, List.setIfInBounds_toArray, List.set_cons_zero, List.set_cons_succ])
                    refine wpAnyT_take (i := 37) (oi := _) (v := ?_) rfl (by kernel_rfl) (fun _ _ _ h => h) (Or.inl ⟨by kernel_rfl, ?_⟩) (by assumption) ?_; rotate_left; (focus (intro w hSw; (try dsimp only at hSw); go_simp; (try with_reducible rfl))); (try simp only [Act.put, List.getElem_toArray, List.getElem_cons_zero, List.getElem_cons_succ, List.setIfInBounds_toArray, List.set_cons_zero, List.set_cons_succ])
                    refine wpAnyT_take (i := 38) (oi := _) (v := ?_) rfl (by kernel_rfl) (fun _ _ _ h => h) (Or.inl ⟨by kernel_rfl, ?_⟩) (by assumption) ?_; rotate_left; (focus (intro w hSw; (try dsimp only at hSw); go_simp; (try with_reducible rfl))); (try simp only [Act.put, List.getElem_toArray, List.getElem_cons_zero, List.getElem_cons_succ, List.setIfInBounds_toArray, List.set_cons_zero, List.set_cons_succ])
                    refine wpAnyT_take (i := 39) (oi := _) (v := ?_) rfl (by kernel_rfl) (fun _ _ _ h => h) (Or.inl ⟨by kernel_rfl, ?_⟩) (by assumption) ?_; rotate_left; (focus (intro w hSw; (try dsimp only at hSw); go_simp; (try with_reducible rfl))); (try simp only [Act.put, List.getElem_toArray, List.getElem_cons_zero, List.getElem_cons_succ, List.setIfInBounds_toArray, List.set_cons_zero, List.set_cons_succ])
                    refine wpAnyT_take (i := 40) (oi := _) (v := ?_) rfl (by kernel_rfl) (fun _ _ _ h => h) (Or.inl ⟨by kernel_rfl, ?_⟩) (by assumption) ?_; rotate_left; (focus (intro w hSw; (try dsimp only at hSw); go_simp; (try with_reducible rfl))); (try simp only [Act.put, List.getElem_toArray, List.getElem_cons_zero, List.getElem_cons_succ, List.setIfInBounds_toArray, List.set_cons_zero, List.set_cons_succ])
                    refine wpAnyT_take (i := 41) (oi := _) (v := ?_) rfl (by kernel_rfl) (fun _ _ _ h => h) (Or.inl ⟨by kernel_rfl, ?_⟩) (by assumption) ?_; rotate_left; (focus (intro w hSw; (try dsimp only at hSw); go_simp; (try with_reducible rfl))); (try simp only [Act.put, List.getElem_toArray, List.getElem_cons_zero, List.getElem_cons_succ, List.setIfInBounds_toArray, List.set_cons_zero, List.set_cons_succ])
                    refine wpAnyT_take (i := 42) (oi := _) (v := ?_) rfl (by kernel_rfl) (fun _ _ _ h => h) (Or.inl ⟨by kernel_rfl, ?_⟩) (by assumption) ?_; rotate_left; (focus (intro w hSw; (try dsimp only at hSw); go_simp; (try with_reducible rfl))); (try simp only [Act.put, List.getElem_toArray, List.getElem_cons_zero, List.getElem_cons_succ, List.setIfInBounds_toArray, List.set_cons_zero, List.set_cons_succ])
                    refine wpAnyT_done (by kernel_rfl) ?_ _
                    go_wp2
                    go_ret
                    exact ⟨by rw [HV.out]; rfl, (HB0.out _ hew).1⟩
                  have t3 : decide (x.seq ≤ y.seq) = false := dcf c3
                  have HS := Lib.hid (Hst.out hx (fun _ => by rw [HL.out, dct c2, dct (show y.seq < x.seq by omega), Bool.true_and, Bool.or_true]))
                  clear hx Hno1 Hno2 Hst HP HBL HHD Hpr HL c1 c2 c3
                  go_wp2_with fail
                  refine wp_region_T 99 (fun w' => ((w'.cell? ⟨wr.heap.size, 0, none⟩ = some (.int .i64 x.maker) ∧ w'.cell? ⟨wr.heap.size, 1, none⟩ = some (.int .i64 x.seq)) ∧ w'.cell? ⟨w.heap.size, 2, none⟩ = some (.slice (some ⟨b, off, none⟩) d.marks.length cM)) ∧ w'.cell? ⟨b, off + (k - 1) * 2, none⟩ = some (.int .i64 y.maker) ∧ w'.cell? ⟨b, off + (k - 1) * 2 + 1, none⟩ = some (.int .i64 y.seq)) (by kernel_rfl) (HP2.out _ (below_drewN_ (Below.refl _ _) 1)) (fun hHeld => ?_)
                  refine wpAnyT_take (i := 0) (oi := _) (v := ?_) rfl (by kernel_rfl) (fun _ _ _ h => h) (Or.inl ⟨by kernel_rfl, ?_⟩) (by assumption) ?_; rotate_left; (focus (intro w hSw; (try dsimp only at hSw); go_simp; (try with_reducible rfl))); (try simp only [Act.put, List.getElem_toArray, List.getElem_cons_zero, List.setIfInBounds_toArray, List.set_cons_zero, List.set_cons_succ])
                  refine wpAnyT_one (i := 1) (by kernel_rfl) rfl (fun K hK => ?_); go_simp
                  refine (HR2.out _).mono ?_
                  rintro e wa ⟨rfl, hba⟩
                  have hea0 : Below (wr.heap.size + 1) (wr.alloc (.cells #[.int .i64 x.maker, .int .i64 x.seq] 44)) wa := (below_drewN_ (Below.refl _ _) 1).trans (hba.mono (by simp [World.drew]))
                  have hew : Below (w.heap.size + 1) wm wa := HW1.out.trans ((HB1.out.trans (hea0.mono (by omega))).mono hsz)
                  have hHa := HP2.out _ hea0
                  refine hK.out _ _ (fun _ => hHa) ?_
                  clear hK K hHeld hba
                  refine wpAnyT_take (i := 2) (oi := _) (v := ?_) rfl (by kernel_rfl) (fun _ _ _ h => h) (Or.inl ⟨by kernel_rfl, ?_⟩) (by assumption) ?_; rotate_left; (focus (intro w hSw; (try dsimp only at hSw); go_simp; (try with_reducible rfl))); (try simp only [Act.put, List.getElem_toArray, List.getElem_cons_zero, List.getElem_cons_succ, List.setIfInBounds_toArray, List.set_cons_zero, List.set_cons_succ])
                  refine wpAnyT_take (i := 3) (oi := _) (v := ?_) rfl (by kernel_rfl) (fun _ _ _ h => h) (Or.inl ⟨by kernel_rfl, ?_⟩) (by assumption) ?_; rotate_left; (focus (intro w hSw; (try dsimp only at hSw); go_simp; (try with_reducible rfl))); (try simp only [Act.put, List.getElem_toArray, List.getElem_cons_zero, List.getElem_cons_succ, List.setIfInBounds_toArray, List.set_cons_zero, List.set_cons_succ])
                  refine wpAnyT_take (i := 4) (oi := _) (v := ?_) rfl (by kernel_rfl) (fun _ _ _ h => h) (Or.inl ⟨by kernel_rfl, ?_⟩) (by assumption) ?_; rotate_left; (focus (intro w hSw; (try dsimp only at hSw); go_simp; (try with_reducible rfl))); (try simp only [Act.put, List.getElem_toArray, List.getElem_cons_zero, List.getElem_cons_succ, List.setIfInBounds_toArray, List.set_cons_zero, List.set_cons_succ])
                  refine wpAnyT_take (i := 5) (oi := _) (v := ?_) rfl (by kernel_rfl) (fun _ _ _ h => h) (Or.inl ⟨by kernel_rfl, ?_⟩) (by assumption) ?_; rotate_left; (focus (intro w hSw; (try dsimp only at hSw); go_simp; (try with_reducible rfl))); (try simp only [Act.put, List.getElem_toArray, List.getElem_cons_zero, List.getElem_cons_succ, List.setIfInBounds_toArray, List.set_cons_zero, List.set_cons_succ])
                  refine wpAnyT_take (i := 6) (oi := _) (v := ?_) rfl (by kernel_rfl) (fun _ _ _ h => h) (Or.inl ⟨by kernel_rfl, ?_⟩) (by assumption) ?_; rotate_left; (focus (intro w hSw; (try dsimp only at hSw); go_simp; (try with_reducible rfl))); (try simp only [Act.put, List.getElem_toArray, List.getElem_cons_zero, List.getElem_cons_succ, List.setIfInBounds_toArray, List.set_cons_zero, List.set_cons_succ])
                  refine wpAnyT_take (i := 7) (oi := _) (v := ?_) rfl (by kernel_rfl) (fun _ _ _ h => h) (Or.inl ⟨by kernel_rfl, ?_⟩) (by assumption) ?_; rotate_left; (focus (intro w hSw; (try dsimp only at hSw); go_simp; (try with_reducible rfl))); (try simp only [Act.put, List.getElem_toArray, List.getElem_cons_zero, List.getElem_cons_succ, List.setIfInBounds_toArray, List.set_cons_zero, List.set_cons_succ])
                  refine wpAnyT_take (i := 8) (oi := _) (v := ?_) rfl (by kernel_rfl) (fun _ _ _ h => h) (Or.inl ⟨by kernel_rfl, ?_⟩) (by assumption) ?_; rotate_left; (focus (intro w hSw; (try dsimp only at hSw); go_simp; (try with_reducible rfl))); (try simp only [Act.put, List.getElem_toArray, List.getElem_cons_zero, List.getElem_cons_succ, List.setIfInBounds_toArray, List.set_cons_zero, List.set_cons_succ])
                  refine wpAnyT_take (i := 9) (oi := _) (v := ?_) rfl (by kernel_rfl) (fun _ _ _ h => h) (Or.inl ⟨by kernel_rfl, ?_⟩) (by assumption) ?_; rotate_left; (focus (intro w hSw; (try dsimp only at hSw); go_simp; (try with_reducible rfl))); (try simp only [Act.put, List.getElem_toArray, List.getElem_cons_zero, List.getElem_cons_succ, List.setIfInBounds_toArray, List.set_cons_zero, List.set_cons_succ])
                  refine wpAnyT_take (i := 10) (oi := _) (v := ?_) rfl (by kernel_rfl) (fun _ _ _ h => h) (Or.inl ⟨by kernel_rfl, ?_⟩) (by assumption) ?_; rotate_left; (focus (intro w hSw; (try dsimp only at hSw); go_simp; (try with_reducible rfl))); (try simp only [Act.put, List.getElem_toArray, List.getElem_cons_zero, List.getElem_cons_succ, List.setIfInBounds_toArray, List.set_cons_zero, List.set_cons_succ])
                  refine wpAnyT_take (i := 11) (oi := _) (v := .pointer (some ⟨b, off + (k - 1) * 2, none⟩)) rfl (by kernel_rfl) (fun _ _ _ h => h) (Or.inl ⟨by kernel_rfl, by (intro w hSw; (try dsimp only at hSw); go_simp)⟩) (by assumption) ?_; (try simp only [Act.put, List.getElem_toArray, List.getElem_cons_zero, List.getElem_cons_succ, List.setIfInBounds_toArray, List.set_cons_zero, List.set_cons_succ])
                  refine wpAnyT_take (i := 12) (oi := _) (v := ?_) rfl (by kernel_rfl) (fun _ _ _ h => h) (Or.inl ⟨by kernel_rfl, ?_⟩) (by assumption) ?_; rotate_left; (focus (intro w hSw; (try dsimp only at hSw); go_simp; (try with_reducible rfl))); (try simp only [Act.put, List.getElem_toArray, List.getElem_cons_zero, List.getElem_cons_succ, List.setIfInBounds_toArray, List.set_cons_zero, List.set_cons_succ])
                  refine wpAnyT_take (i := 13) (oi := _) (v := ?_) rfl (by kernel_rfl) (fun _ _ _ h => h) (Or.inl ⟨by kernel_rfl, ?_⟩) (by assumption) ?_; rotate_left; (focus (intro w hSw; (try dsimp only at hSw); go_simp; (try with_reducible rfl))); (try simp only [Act.put, List.getElem_toArray, List.getElem_cons_zero, List.getElem_cons_succ, List.setIfInBounds_toArray, List.set_cons_zero, List.set_cons_succ])
                  refine wpAnyT_take (i := 14) (oi := _) (v := ?_) rfl (by kernel_rfl) (fun _ _ _ h => h) (Or.inl ⟨by kernel_rfl, ?_⟩) (by assumption) ?_; rotate_left; (focus (intro w hSw; (try dsimp only at hSw); go_simp; (try with_reducible rfl))); (try simp only [Act.put, List.getElem_toArray, List.getElem_cons_zero, List.getElem_cons_succ, List.setIfInBounds_toArray, List.set_cons_zero, List.set_cons_succ])
                  refine wpAnyT_take (i := 15) (oi := _) (v := ?_) rfl (by kernel_rfl) (fun _ _ _ h => h) (Or.inl ⟨by kernel_rfl, ?_⟩) (by assumption) ?_; rotate_left; (focus (intro w hSw; (try dsimp only at hSw); go_simp; (try with_reducible rfl))); (try simp only [Act.put, List.getElem_toArray, List.getElem_cons_zero, List.getElem_cons_succ, List.setIfInBounds_toArray, List.set_cons_zero, List.set_cons_succ])
                  refine wpAnyT_take (i := 16) (oi := _) (v := ?_) rfl (by kernel_rfl) (fun _ _ _ h => h) (Or.inl ⟨by kernel_rfl, ?_⟩) (by assumption) ?_; rotate_left; (focus (intro w hSw; (try dsimp only at hSw); go_simp; (try with_reducible rfl))); (try simp only [Act.put, List.getElem_toArray, List.getElem_cons_zero, List.getElem_cons_succ, List.setIfInBounds_toArray, List.set_cons_zero, List.set_cons_succ])
                  refine wpAnyT_take (i := 17) (oi := _) (v := ?_) rfl (by kernel_rfl) (fun _ _ _ h => h) (Or.inl ⟨by kernel_rfl, ?_⟩) (by assumption) ?_; rotate_left; (focus (intro w hSw; (try dsimp only at hSw); go_simp; (try with_reducible rfl))); (try simp only [Act.put, List.getElem_toArray, List.getElem_cons_zero, List.getElem_cons_succ, List.setIfInBounds_toArray, List.set_cons_zero, List.set_cons_succ])
                  refine wpAnyT_take (i := 18) (oi := _) (v := ?_) rfl (by kernel_rfl) (fun _ _ _ h => h) (Or.inl ⟨by kernel_rfl, ?_⟩) (by assumption) ?_; rotate_left; (focus (intro w hSw; (try dsimp only at hSw); go_simp; (try with_reducible rfl))); (try simp only [Act.put, List.getElem_toArray, List.getElem_cons_zero, List.getElem_cons_succ, List.setIfInBounds_toArray, List.set_cons_zero, List.set_cons_succ])
                  refine wpAnyT_take (i := 19) (oi := _) (v := ?_) rfl (by kernel_rfl) (fun _ _ _ h => h) (Or.inl ⟨by kernel_rfl, ?_⟩) (by assumption) ?_; rotate_left; (focus (intro w hSw; (try dsimp only at hSw); go_simp; (try with_reducible rfl))); (try simp only [Act.put, List.getElem_toArray, List.getElem_cons_zero, List.getElem_cons_succ, List.setIfInBounds_toArray, List.set_cons_zero, List.set_cons_succ])
                  refine wpAnyT_take (i := 20) (oi := _) (v := ?_) rfl (by kernel_rfl) (fun _ _ _ h => h) (Or.inl ⟨by kernel_rfl, ?_⟩) (by assumption) ?_; rotate_left; (focus (intro w hSw; (try dsimp only at hSw); go_simp; (try with_reducible rfl))); (try simp only [Act.put, List.getElem_toArray, List.getElem_cons_zero, List.getElem_cons_succ, List.setIfInBounds_toArray, List.set_cons_zero, List.set_cons_succ])
                  refine wpAnyT_take (i := 21) (oi := _) (v := ?_) rfl (by kernel_rfl) (fun _ _ _ h => h) (Or.inl ⟨by kernel_rfl, ?_⟩) (by assumption) ?_; rotate_left; (focus (intro w hSw; (try dsimp only at hSw); go_simp; (try with_reducible rfl))); (try simp only [Act.put, List.getElem_toArray, List.getElem_cons_zero, List.getElem_cons_succ, List.setIfInBounds_toArray, List.set_cons_zero, List.set_cons_succ])
                  refine wpAnyT_take (i := 22) (oi := _) (v := .pointer (some ⟨b, off + (k - 1) * 2, none⟩)) rfl (by kernel_rfl) (fun _ _ _ h => h) (Or.inl ⟨by kernel_rfl, by (intro w hSw; (try dsimp only at hSw); go_simp)⟩) (by assumption) ?_; (try simp only [Act.put, List.getElem_toArray, List.getElem_cons_zero, List.getElem_cons_succ, List.setIfInBounds_toArray, List.set_cons_zero, List.set_cons_succ])
                  refine wpAnyT_take (i := 23) (oi := _) (v := ?_) rfl (by kernel_rfl) (fun _ _ _ h => h) (Or.inl ⟨by kernel_rfl, ?_⟩) (by assumption) ?_; rotate_left; (focus (intro w hSw; (try dsimp only at hSw); go_simp; (try with_reducible rfl))); (try simp only [Act.put, List.getElem_toArray, List.getElem_cons_zero, List.getElem_cons_succ, List.setIfInBounds_toArray, List.set_cons_zero, List.set_cons_succ])
                  refine wpAnyT_take (i := 24) (oi := _) (v := ?_) rfl (by kernel_rfl) (fun _ _ _ h => h) (Or.inl ⟨by kernel_rfl, ?_⟩) (by assumption) ?_; rotate_left; (focus (intro w hSw; (try dsimp only at hSw); go_simp; (try with_reducible rfl))); (try simp only [Act.put, List.getElem_toArray, List.getElem_cons_zero, List.getElem_cons_succ, List.setIfInBounds_toArray, List.set_cons_zero, List.set_cons_succ])
                  refine wpAnyT_take (i := 25) (oi := _) (v := ?_) rfl (by kernel_rfl) (fun _ _ _ h => h) (Or.inl ⟨by kernel_rfl, ?_⟩) (by assumption) ?_; rotate_left; (focus (intro w hSw; (try dsimp only at hSw); go_simp; (try with_reducible rfl))); (try simp only [Act.put, List.getElem_toArray, List.getElem_cons_zero, List.getElem_cons_succ, List.setIfInBounds_toArray, List.set_cons_zero, List.set_cons_succ])
                  refine wpAnyT_take (i := 26) (oi := _) (v := ?_) rfl (by kernel_rfl) (fun _ _ _ h => h) (Or.inl ⟨by kernel_rfl, ?_⟩) (by assumption) ?_; rotate_left; (focus (intro w hSw; (try dsimp only at hSw); go_simp; (try with_reducible rfl))); (try simp only [Act.put, List.getElem_toArray, List.getElem_cons_zero, List.getElem_cons_succ, List.setIfInBounds_toArray, List.set_cons_zero, List.set_cons_succ])
                  refine wpAnyT_take (i := 27) (oi := _) (v := ?_) rfl (by kernel_rfl) (fun _ _ _ h => h) (Or.inl ⟨by kernel_rfl, ?_⟩) (by assumption) ?_; rotate_left; (focus (intro w hSw; (try dsimp only at hSw); go_simp; (try with_reducible rfl))); (try simp only [Act.put, List.getElem_toArray, List.getElem_cons_zero, List.getElem_cons_succ, List.setIfInBounds_toArray, List.set_cons_zero, List.set_cons_succ])
                  refine wpAnyT_take (i := 28) (oi := _) (v := ?_) rfl (by kernel_rfl) (fun _ _ _ h => h) (Or.inl ⟨by kernel_rfl, ?_⟩) (by assumption) ?_; rotate_left; (focus (intro w hSw; (try dsimp only at hSw); go_simp; (try with_reducible rfl))); (try simp only [Act.put, List.getElem_toArray, List.getElem_cons_zero, List.getElem_cons_succ, List.setIfInBounds_toArray, List.set_cons_zero, List.set_cons_succ])
                  refine wpAnyT_take (i := 29) (oi := _) (v := ?_) rfl (by kernel_rfl) (fun _ _ _ h => h) (Or.inl ⟨by kernel_rfl, ?_⟩) (by assumption) ?_; rotate_left; (focus (intro w hSw; (try dsimp only at hSw); go_simp; (try with_reducible rfl))); (try simp only [Act.put, List.getElem_toArray, List.getElem_cons_zero, List.getElem_cons_succ, List.setIfInBounds_toArray, List.set_cons_zero, List.set_cons_succ])
                  refine wpAnyT_take (i := 30) (oi := _) (v := ?_) rfl (by kernel_rfl) (fun _ _ _ h => h) (Or.inl ⟨by kernel_rfl, ?_⟩) (by assumption) ?_; rotate_left; (focus (intro w hSw; (try dsimp only at hSw); go_simp; (try with_reducible rfl))); (try simp only [Act.put, List.getElem_toArray, List.getElem_cons_zero, List.getElem_cons_succ, List.setIfInBounds_toArray, List.set_cons_zero, List.set_cons_succ])
                  refine wpAnyT_take (i := 31) (oi := _) (v := ?_) rfl (by kernel_rfl) (fun _ _ _ h => h) (Or.inl ⟨by kernel_rfl, ?_⟩) (by assumption) ?_; rotate_left; (focus (intro w hSw; (try dsimp only at hSw); go_simp; (try with_reducible rfl))); (try simp only [Act.put, List.getElem_toArray, List.getElem_cons_zero, List.getElem_cons_succ, List.setIfInBounds_toArray, List.set_cons_zero, List.set_cons_succ])
                  refine wpAnyT_take (i := 32) (oi := _) (v := ?_) rfl (by kernel_rfl) (fun _ _ _ h => h) (Or.inl ⟨by kernel_rfl, ?_⟩) (by assumption) ?_; rotate_left; (focus (intro w hSw; (try dsimp only at hSw); go_simp; (try with_reducible rfl))); (try simp only [Act.put, List.getElem_toArray, List.getElem_cons_zero, List.getElem_cons_succ, List.setIfInBounds_toArray, List.set_cons_zero, List.set_cons_succ])
                  refine wpAnyT_take (i := 33) (oi := _) (v := .pointer (some ⟨b, off + (k - 1) * 2, none⟩)) rfl (by kernel_rfl) (fun _ _ _ h => h) (Or.inl ⟨by kernel_rfl, by (intro w hSw; (try dsimp only at hSw); go_simp)⟩) (by assumption) ?_; (try simp only [Act.put, List.getElem_toArray, List.getElem_cons_zero, List.getElem_cons_succ, List.setIfInBounds_toArray, List.set_cons_zero, List.set_cons_succ])
                  refine wpAnyT_take (i := 34) (oi := _) (v := ?_) rfl (by kernel_rfl) (fun _ _ _ h => h) (Or.inl ⟨by kernel_rfl, ?_⟩) (by assumption) ?_; rotate_left; (focus (intro w hSw; (try dsimp only at hSw); go_simp; (try with_reducible rfl))); (try simp only [Act.put, List.getElem_toArray, List.getElem_cons_zero, List.getElem_cons_succ, List.setIfInBounds_toArray, List.set_cons_zero, List.set_cons_succ])
                  refine wpAnyT_take (i := 35) (oi := _) (v := ?_) rfl (by kernel_rfl) (fun _ _ _ h => h) (Or.inl ⟨by kernel_rfl, ?_⟩) (by assumption) ?_; rotate_left; (focus (intro w hSw; (try dsimp only at hSw); go_simp; (try with_reducible rfl))); (try simp only [Act.put, List.getElem_toArray, List.getElem_cons_zero, List.getElem_cons_succ, List.setIfInBounds_toArray, List.set_cons_zero, List.set_cons_succ])
                  refine wpAnyT_take (i := 36) (oi := _) (v := ?_) rfl (by kernel_rfl) (fun _ _ _ h => h) (Or.inl ⟨by kernel_rfl, ?_⟩) (by assumption) ?_; rotate_left; (focus (intro w hSw; (try dsimp only at hSw); go_simp; (try with_reducible rfl))); (try simp only [Act.put, List.getElem_toArray, List.getElem_cons_zero, List.getElem_cons_succ, List.setIfInBounds_toArray, List.set_cons_zero, List.set_cons_succ])
                  refine wpAnyT_take (i := 37) (oi := _) (v := ?_) rfl (by kernel_rfl) (fun _ _ _ h => h) (Or.inl ⟨by kernel_rfl, ?_⟩) (by assumption) ?_; rotate_left; (focus (intro w hSw; (try dsimp only at hSw); go_simp; (try with_reducible rfl))); (try simp only [Act.put, List.getElem_toArray, List.getElem_cons_zero, List.getElem_cons_succ, List.setIfInBounds_toArray, List.set_cons_zero, List.set_cons_succ])
                  refine wpAnyT_take (i := 38) (oi := _) (v := ?_) rfl (by kernel_rfl) (fun _ _ _ h => h) (Or.inl ⟨by kernel_rfl, ?_⟩) (by assumption) ?_; rotate_left; (focus (intro w hSw; (try dsimp only at hSw); go_simp; (try with_reducible rfl))); (try simp only [Act.put, List.getElem_toArray, List.getElem_cons_zero, List.getElem_cons_succ, List.setIfInBounds_toArray, List.set_cons_zero, List.set_cons_succ])
                  refine wpAnyT_take (i := 39) (oi := _) (v := ?_) rfl (by kernel_rfl) (fun _ _ _ h => h) (Or.inl ⟨by kernel_rfl, ?_⟩) (by assumption) ?_; rotate_left; (focus (intro w hSw; (try dsimp only at hSw); go_simp; (try with_reducible rfl))); (try simp only [Act.put, List.getElem_toArray, List.getElem_cons_zero, List.getElem_cons_succ, List.setIfInBounds_toArray, List.set_cons_zero, List.set_cons_succ])
                  refine wpAnyT_take (i := 40) (oi := _) (v := ?_) rfl (by kernel_rfl) (fun _ _ _ h => h) (Or.inl ⟨by kernel_rfl, ?_⟩) (by assumption) ?_; rotate_left; (focus (intro w hSw; (try dsimp only at hSw); go_simp; (try with_reducible rfl))); (try simp only [Act.put, List.getElem_toArray, List.getElem_cons_zero, List.getElem_cons_succ, List.setIfInBounds_toArray, List.set_cons_zero, List.set_cons_succ])
                  refine wpAnyT_take (i := 41) (oi := _) (v := ?_) rfl (by kernel_rfl) (fun _ _ _ h => h) (Or.inl ⟨by kernel_rfl, ?_⟩) (by assumption) ?_; rotate_left; (focus (intro w hSw; (try dsimp only at hSw); go_simp; (try with_reducible rfl))); (try simp only [Act.put, List.getElem_toArray, List.getElem_cons_zero, List.getElem_cons_succ, List.setIfInBounds_toArray, List.set_cons_zero, List.set_cons_succ])
                  refine wpAnyT_take (i := 42) (oi := _) (v := ?_) rfl (by kernel_rfl) (fun _ _ _ h => h) (Or.inl ⟨by kernel_rfl, ?_⟩) (by assumption) ?_; rotate_left; (focus (intro w hSw; (try dsimp only at hSw); go_simp; (try with_reducible rfl))); (try simp only [Act.put, List.getElem_toArray, List.getElem_cons_zero, List.getElem_cons_succ, List.setIfInBounds_toArray, List.set_cons_zero, List.set_cons_succ])
                  refine wpAnyT_done (by kernel_rfl) ?_ _
                  go_wp2
                  go_roundw
                  case rel => exact ⟨k + 1, by omega, by go_num, HS, Lib.hid hew⟩
                  case measure => simp [intOf]; omega
                have t2 : (y.maker == x.maker) = false := eqf c2
                have HS := Lib.hid (Hst.out hx (fun _ => by rw [HL.out, dct (show y.maker < x.maker by omega), Bool.true_or]))
                clear hx Hno1 Hno2 Hst HP HBL HHD Hpr HL c1 c2
                go_wp2_with fail
                refine wp_region_T 99 (fun w' => ((w'.cell? ⟨wr.heap.size, 0, none⟩ = some (.int .i64 x.maker) ∧ w'.cell? ⟨wr.heap.size, 1, none⟩ = some (.int .i64 x.seq)) ∧ w'.cell? ⟨w.heap.size, 2, none⟩ = some (.slice (some ⟨b, off, none⟩) d.marks.length cM)) ∧ w'.cell? ⟨b, off + (k - 1) * 2, none⟩ = some (.int .i64 y.maker) ∧ w'.cell? ⟨b, off + (k - 1) * 2 + 1, none⟩ = some (.int .i64 y.seq)) (by kernel_rfl) (HP2.out _ (below_drewN_ (Below.refl _ _) 1)) (fun hHeld => ?_)
                refine wpAnyT_take (i := 0) (oi := _) (v := ?_) rfl (by kernel_rfl) (fun _ _ _ h => h) (Or.inl ⟨by kernel_rfl, ?_⟩) (by assumption) ?_; rotate_left; (focus (intro w hSw; (try dsimp only at hSw); go_simp; (try with_reducible rfl))); (try simp only [Act.put, List.getElem_toArray, List.getElem_cons_zero, List.setIfInBounds_toArray, List.set_cons_zero, List.set_cons_succ])
                refine wpAnyT_one (i := 1) (by kernel_rfl) rfl (fun K hK => ?_); go_simp
                refine (HR2.out _).mono ?_
                rintro e wa ⟨rfl, hba⟩
                have hea0 : Below (wr.heap.size + 1) (wr.alloc (.cells #[.int .i64 x.maker, .int .i64 x.seq] 44)) wa := (below_drewN_ (Below.refl _ _) 1).trans (hba.mono (by simp [World.drew]))
                have hew : Below (w.heap.size + 1) wm wa := HW1.out.trans ((HB1.out.trans (hea0.mono (by omega))).mono hsz)
                have hHa := HP2.out _ hea0
                refine hK.out _ _ (fun _ => hHa) ?_
                clear hK K hHeld hba
                refine wpAnyT_take (i := 2) (oi := _) (v := ?_) rfl (by kernel_rfl) (fun _ _ _ h => h) (Or.inl ⟨by kernel_rfl, ?_⟩) (by assumption) ?_; rotate_left; (focus (intro w hSw; (try dsimp only at hSw); go_simp; (try with_reducible rfl))); (try simp only [Act.put, List.getElem_toArray, List.getElem_cons_zero, List.getElem_cons_succ, List.setIfInBounds_toArray, List.set_cons_zero, List.set_cons_succ])
                refine wpAnyT_take (i := 3) (oi := _) (v := ?_) rfl (by kernel_rfl) (fun _ _ _ h => h) (Or.inl ⟨by kernel_rfl, ?_⟩) (by assumption) ?_; rotate_left; (focus (intro w hSw; (try dsimp only at hSw); go_simp; (try with_reducible rfl))); (try simp only [Act.put, List.getElem_toArray, List.getElem_cons_zero, List.getElem_cons_succ, List.setIfInBounds_toArray, List.set_cons_zero, List.set_cons_succ])
                refine wpAnyT_take (i := 4) (oi := _) (v := ?_) rfl (by kernel_rfl) (fun _ _ _ h => h) (Or.inl ⟨by kernel_rfl, ?_⟩) (by assumption) ?_; rotate_left; (focus (intro w hSw; (try dsimp only at hSw); go_simp; (try with_reducible rfl))); (try simp only [Act.put, List.getElem_toArray, List.getElem_cons_zero, List.getElem_cons_succ, List.setIfInBounds_toArray, List.set_cons_zero, List.set_cons_succ])
                refine wpAnyT_take (i := 5) (oi := _) (v := ?_) rfl (by kernel_rfl) (fun _ _ _ h => h) (Or.inl ⟨by kernel_rfl, ?_⟩) (by assumption) ?_; rotate_left; (focus (intro w hSw; (try dsimp only at hSw); go_simp; (try with_reducible rfl))); (try simp only [Act.put, List.getElem_toArray, List.getElem_cons_zero, List.getElem_cons_succ, List.setIfInBounds_toArray, List.set_cons_zero, List.set_cons_succ])
                refine wpAnyT_take (i := 6) (oi := _) (v := ?_) rfl (by kernel_rfl) (fun _ _ _ h => h) (Or.inl ⟨by kernel_rfl, ?_⟩) (by assumption) ?_; rotate_left; (focus (intro w hSw; (try dsimp only at hSw); go_simp; (try with_reducible rfl))); (try simp only [Act.put, List.getElem_toArray, List.getElem_cons_zero, List.getElem_cons_succ, List.setIfInBounds_toArray, List.set_cons_zero, List.set_cons_succ])
                refine wpAnyT_take (i := 7) (oi := _) (v := ?_) rfl (by kernel_rfl) (fun _ _ _ h => h) (Or.inl ⟨by kernel_rfl, ?_⟩) (by assumption) ?_; rotate_left; (focus (intro w hSw; (try dsimp only at hSw); go_simp; (try with_reducible rfl))); (try simp only [Act.put, List.getElem_toArray, List.getElem_cons_zero, List.getElem_cons_succ, List.setIfInBounds_toArray, List.set_cons_zero, List.set_cons_succ])
                refine wpAnyT_take (i := 8) (oi := _) (v := ?_) rfl (by kernel_rfl) (fun _ _ _ h => h) (Or.inl ⟨by kernel_rfl, ?_⟩) (by assumption) ?_; rotate_left; (focus (intro w hSw; (try dsimp only at hSw); go_simp; (try with_reducible rfl))); (try simp only [Act.put, List.getElem_toArray, List.getElem_cons_zero, List.getElem_cons_succ, List.setIfInBounds_toArray, List.set_cons_zero, List.set_cons_succ])
                refine wpAnyT_take (i := 9) (oi := _) (v := ?_) rfl (by kernel_rfl) (fun _ _ _ h => h) (Or.inl ⟨by kernel_rfl, ?_⟩) (by assumption) ?_; rotate_left; (focus (intro w hSw; (try dsimp only at hSw); go_simp; (try with_reducible rfl))); (try simp only [Act.put, List.getElem_toArray, List.getElem_cons_zero, List.getElem_cons_succ, List.setIfInBounds_toArray, List.set_cons_zero, List.set_cons_succ])
                refine wpAnyT_take (i := 10) (oi := _) (v := ?_) rfl (by kernel_rfl) (fun _ _ _ h => h) (Or.inl ⟨by kernel_rfl, ?_⟩) (by assumption) ?_; rotate_left; (focus (intro w hSw; (try dsimp only at hSw); go_simp; (try with_reducible rfl))); (try simp only [Act.put, List.getElem_toArray, List.getElem_cons_zero, List.getElem_cons_succ, List.setIfInBounds_toArray, List.set_cons_zero, List.set_cons_succ])
                refine wpAnyT_take (i := 11) (oi := _) (v := .pointer (some ⟨b, off + (k - 1) * 2, none⟩)) rfl (by kernel_rfl) (fun _ _ _ h => h) (Or.inl ⟨by kernel_rfl, by (intro w hSw; (try dsimp only at hSw); go_simp)⟩) (by assumption) ?_; (try simp only [Act.put, List.getElem_toArray, List.getElem_cons_zero, List.getElem_cons_succ, List.setIfInBounds_toArray, List.set_cons_zero, List.set_cons_succ])
                refine wpAnyT_take (i := 12) (oi := _) (v := ?_) rfl (by kernel_rfl) (fun _ _ _ h => h) (Or.inl ⟨by kernel_rfl, ?_⟩) (by assumption) ?_; rotate_left; (focus (intro w hSw; (try dsimp only at hSw); go_simp; (try with_reducible rfl))); (try simp only [Act.put, List.getElem_toArray, List.getElem_cons_zero, List.getElem_cons_succ, List.setIfInBounds_toArray, List.set_cons_zero, List.set_cons_succ])
                refine wpAnyT_take (i := 13) (oi := _) (v := ?_) rfl (by kernel_rfl) (fun _ _ _ h => h) (Or.inl ⟨by kernel_rfl, ?_⟩) (by assumption) ?_; rotate_left; (focus (intro w hSw; (try dsimp only at hSw); go_simp; (try with_reducible rfl))); (try simp only [Act.put, List.getElem_toArray, List.getElem_cons_zero, List.getElem_cons_succ, List.setIfInBounds_toArray, List.set_cons_zero, List.set_cons_succ])
                refine wpAnyT_take (i := 14) (oi := _) (v := ?_) rfl (by kernel_rfl) (fun _ _ _ h => h) (Or.inl ⟨by kernel_rfl, ?_⟩) (by assumption) ?_; rotate_left; (focus (intro w hSw; (try dsimp only at hSw); go_simp; (try with_reducible rfl))); (try simp only [Act.put, List.getElem_toArray, List.getElem_cons_zero, List.getElem_cons_succ, List.setIfInBounds_toArray, List.set_cons_zero, List.set_cons_succ])
                refine wpAnyT_take (i := 15) (oi := _) (v := ?_) rfl (by kernel_rfl) (fun _ _ _ h => h) (Or.inl ⟨by kernel_rfl, ?_⟩) (by assumption) ?_; rotate_left; (focus (intro w hSw; (try dsimp only at hSw); go_simp; (try with_reducible rfl))); (try simp only [Act.put, List.getElem_toArray, List.getElem_cons_zero, List.getElem_cons_succ, List.setIfInBounds_toArray, List.set_cons_zero, List.set_cons_succ])
                refine wpAnyT_take (i := 16) (oi := _) (v := ?_) rfl (by kernel_rfl) (fun _ _ _ h => h) (Or.inl ⟨by kernel_rfl, ?_⟩) (by assumption) ?_; rotate_left; (focus (intro w hSw; (try dsimp only at hSw); go_simp; (try with_reducible rfl))); (try simp only [Act.put, List.getElem_toArray, List.getElem_cons_zero, List.getElem_cons_succ, List.setIfInBounds_toArray, List.set_cons_zero, List.set_cons_succ])
                refine wpAnyT_take (i := 17) (oi := _) (v := ?_) rfl (by kernel_rfl) (fun _ _ _ h => h) (Or.inl ⟨by kernel_rfl, ?_⟩) (by assumption) ?_; rotate_left; (focus (intro w hSw; (try dsimp only at hSw); go_simp; (try with_reducible rfl))); (try simp only [Act.put, List.getElem_toArray, List.getElem_cons_zero, List.getElem_cons_succ, List.setIfInBounds_toArray, List.set_cons_zero, List.set_cons_succ])
                refine wpAnyT_take (i := 18) (oi := _) (v := ?_) rfl (by kernel_rfl) (fun _ _ _ h => h) (Or.inl ⟨by kernel_rfl, ?_⟩) (by assumption) ?_; rotate_left; (focus (intro w hSw; (try dsimp only at hSw); go_simp; (try with_reducible rfl))); (try simp only [Act.put, List.getElem_toArray, List.getElem_cons_zero, List.getElem_cons_succ, List.setIfInBounds_toArray, List.set_cons_zero, List.set_cons_succ])
                refine wpAnyT_take (i := 19) (oi := _) (v := ?_) rfl (by kernel_rfl) (fun _ _ _ h => h) (Or.inl ⟨by kernel_rfl, ?_⟩) (by assumption) ?_; rotate_left; (focus (intro w hSw; (try dsimp only at hSw); go_simp; (try with_reducible rfl))); (try simp only [Act.put, List.getElem_toArray, List.getElem_cons_zero, List.getElem_cons_succ, List.setIfInBounds_toArray, List.set_cons_zero, List.set_cons_succ])
                refine wpAnyT_take (i := 20) (oi := _) (v := ?_) rfl (by kernel_rfl) (fun _ _ _ h => h) (Or.inl ⟨by kernel_rfl, ?_⟩) (by assumption) ?_; rotate_left; (focus (intro w hSw; (try dsimp only at hSw); go_simp; (try with_reducible rfl))); (try simp only [Act.put, List.getElem_toArray, List.getElem_cons_zero, List.getElem_cons_succ, List.setIfInBounds_toArray, List.set_cons_zero, List.set_cons_succ])
                refine wpAnyT_take (i := 21) (oi := _) (v := ?_) rfl (by kernel_rfl) (fun _ _ _ h => h) (Or.inl ⟨by kernel_rfl, ?_⟩) (by assumption) ?_; rotate_left; (focus (intro w hSw; (try dsimp only at hSw); go_simp; (try with_reducible rfl))); (try simp only [Act.put, List.getElem_toArray, List.getElem_cons_zero, List.getElem_cons_succ, List.setIfInBounds_toArray, List.set_cons_zero, List.set_cons_succ])
                refine wpAnyT_take (i := 22) (oi := _) (v := .pointer (some ⟨b, off + (k - 1) * 2, none⟩)) rfl (by kernel_rfl) (fun _ _ _ h => h) (Or.inl ⟨by kernel_rfl, by (intro w hSw; (try dsimp only at hSw); go_simp)⟩) (by assumption) ?_; (try simp only [Act.put, List.getElem_toArray, List.getElem_cons_zero, List.getElem_cons_succ, List.setIfInBounds_toArray, List.set_cons_zero, List.set_cons_succ])
                refine wpAnyT_take (i := 23) (oi := _) (v := ?_) rfl (by kernel_rfl) (fun _ _ _ h => h) (Or.inl ⟨by kernel_rfl, ?_⟩) (by assumption) ?_; rotate_left; (focus (intro w hSw; (try dsimp only at hSw); go_simp; (try with_reducible rfl))); (try simp only [Act.put, List.getElem_toArray, List.getElem_cons_zero, List.getElem_cons_succ, List.setIfInBounds_toArray, List.set_cons_zero, List.set_cons_succ])
                refine wpAnyT_take (i := 24) (oi := _) (v := ?_) rfl (by kernel_rfl) (fun _ _ _ h => h) (Or.inl ⟨by kernel_rfl, ?_⟩) (by assumption) ?_; rotate_left; (focus (intro w hSw; (try dsimp only at hSw); go_simp; (try with_reducible rfl))); (try simp only [Act.put, List.getElem_toArray, List.getElem_cons_zero, List.getElem_cons_succ, List.setIfInBounds_toArray, List.set_cons_zero, List.set_cons_succ])
                refine wpAnyT_take (i := 25) (oi := _) (v := ?_) rfl (by kernel_rfl) (fun _ _ _ h => h) (Or.inl ⟨by kernel_rfl, ?_⟩) (by assumption) ?_; rotate_left; (focus (intro w hSw; (try dsimp only at hSw); go_simp; (try with_reducible rfl))); (try simp only [Act.put, List.getElem_toArray, List.getElem_cons_zero, List.getElem_cons_succ, List.setIfInBounds_toArray, List.set_cons_zero, List.set_cons_succ])
                refine wpAnyT_take (i := 26) (oi := _) (v := ?_) rfl (by kernel_rfl) (fun _ _ _ h => h) (Or.inl ⟨by kernel_rfl, ?_⟩) (by assumption) ?_; rotate_left; (focus (intro w hSw; (try dsimp only at hSw); go_simp; (try with_reducible rfl))); (try simp only [Act.put, List.getElem_toArray, List.getElem_cons_zero, List.getElem_cons_succ, List.setIfInBounds_toArray, List.set_cons_zero, List.set_cons_succ])
                refine wpAnyT_take (i := 27) (oi := _) (v := ?_) rfl (by kernel_rfl) (fun _ _ _ h => h) (Or.inl ⟨by kernel_rfl, ?_⟩) (by assumption) ?_; rotate_left; (focus (intro w hSw; (try dsimp only at hSw); go_simp; (try with_reducible rfl))); (try simp only [Act.put, List.getElem_toArray, List.getElem_cons_zero, List.getElem_cons_succ, List.setIfInBounds_toArray, List.set_cons_zero, List.set_cons_succ])
                refine wpAnyT_take (i := 28) (oi := _) (v := ?_) rfl (by kernel_rfl) (fun _ _ _ h => h) (Or.inl ⟨by kernel_rfl, ?_⟩) (by assumption) ?_; rotate_left; (focus (intro w hSw; (try dsimp only at hSw); go_simp; (try with_reducible rfl))); (try simp only [Act.put, List.getElem_toArray, List.getElem_cons_zero, List.getElem_cons_succ, List.setIfInBounds_toArray, List.set_cons_zero, List.set_cons_succ])
                refine wpAnyT_take (i := 29) (oi := _) (v := undef) rfl (by kernel_rfl) (fun _ _ _ h => h) (Or.inr ⟨by kernel_rfl, rfl⟩) (by assumption) ?_; (try simp only [Act.put, List.getElem_toArray, List.getElem_cons_zero, List.getElem_cons_succ, List.setIfInBounds_toArray, List.set_cons_zero, List.set_cons_succ])
                refine wpAnyT_take (i := 30) (oi := _) (v := undef) rfl (by kernel_rfl) (fun _ _ _ h => h) (Or.inr ⟨by kernel_rfl, rfl⟩) (by assumption) ?_; (try simp only [Act.put, List.getElem_toArray, List.getElem_cons_zero, List.getElem_cons_succ, List.setIfInBounds_toArray, List.set_cons_zero, List.set_cons_succ])
                refine wpAnyT_take (i := 31) (oi := _) (v := undef) rfl (by kernel_rfl) (fun _ _ _ h => h) (Or.inr ⟨by kernel_rfl, rfl⟩) (by assumption) ?_; (try simp only [Act.put, List.getElem_toArray, List.getElem_cons_zero, List.getElem_cons_succ, List.setIfInBounds_toArray, List.set_cons_zero, List.set_cons_succ])
                refine wpAnyT_take (i := 32) (oi := _) (v := undef) rfl (by kernel_rfl) (fun _ _ _ h => h) (Or.inr ⟨by kernel_rfl, rfl⟩) (by assumption) ?_; (try simp only [Act.put, List.getElem_toArray, List.getElem_cons_zero, List.getElem_cons_succ, List.setIfInBounds_toArray, List.set_cons_zero, List.set_cons_succ])
                refine wpAnyT_take (i := 33) (oi := _) (v := undef) rfl (by kernel_rfl) (fun _ _ _ h => h) (Or.inr ⟨by kernel_rfl, rfl⟩) (by assumption) ?_; (try simp only [Act.put, List.getElem_toArray, List.getElem_cons_zero, List.getElem_cons_succ, List.setIfInBounds_toArray, List.set_cons_zero, List.set_cons_succ])
                refine wpAnyT_take (i := 34) (oi := _) (v := undef) rfl (by kernel_rfl) (fun _ _ _ h => h) (Or.inr ⟨by kernel_rfl, rfl⟩) (by assumption) ?_; (try simp only [Act.put, List.getElem_toArray, List.getElem_cons_zero, List.getElem_cons_succ, List.setIfInBounds_toArray, List.set_cons_zero, List.set_cons_succ])
                refine wpAnyT_take (i := 35) (oi := _) (v := undef) rfl (by kernel_rfl) (fun _ _ _ h => h) (Or.inr ⟨by kernel_rfl, rfl⟩) (by assumption) ?_; (try simp only [Act.put, List.getElem_toArray, List.getElem_cons_zero, List.getElem_cons_succ, List.setIfInBounds_toArray, List.set_cons_zero, List.set_cons_succ])
                refine wpAnyT_take (i := 36) (oi := _) (v := undef) rfl (by kernel_rfl) (fun _ _ _ h => h) (Or.inr ⟨by kernel_rfl, rfl⟩) (by assumption) ?_; (try simp only [Act.put, List.getElem_toArray, List.getElem_cons_zero, List.getElem_cons_succ, List.setIfInBounds_toArray, List.set_cons_zero, List.set_cons_succ])
                refine wpAnyT_take (i := 37) (oi := _) (v := undef) rfl (by kernel_rfl) (fun _ _ _ h => h) (Or.inr ⟨by kernel_rfl, rfl⟩) (by assumption) ?_; (try simp only [Act.put, List.getElem_toArray, List.getElem_cons_zero, List.getElem_cons_succ, List.setIfInBounds_toArray, List.set_cons_zero, List.set_cons_succ])
                refine wpAnyT_take (i := 38) (oi := _) (v := undef) rfl (by kernel_rfl) (fun _ _ _ h => h) (Or.inr ⟨by kernel_rfl, rfl⟩) (by assumption) ?_; (try simp only [Act.put, List.getElem_toArray, List.getElem_cons_zero, List.getElem_cons_succ, List.setIfInBounds_toArray, List.set_cons_zero, List.set_cons_succ])
                refine wpAnyT_take (i := 39) (oi := _) (v := ?_) rfl (by kernel_rfl) (fun _ _ _ h => h) (Or.inl ⟨by kernel_rfl, ?_⟩) (by assumption) ?_; rotate_left; (focus (intro w hSw; (try dsimp only at hSw); go_simp; (try with_reducible rfl))); (try simp only [Act.put, List.getElem_toArray, List.getElem_cons_zero, List.getElem_cons_succ, List.setIfInBounds_toArray, List.set_cons_zero, List.set_cons_succ])
                refine wpAnyT_take (i := 40) (oi := _) (v := ?_) rfl (by kernel_rfl) (fun _ _ _ h => h) (Or.inl ⟨by kernel_rfl, ?_⟩) (by assumption) ?_; rotate_left; (focus (intro w hSw; (try dsimp only at hSw); go_simp; (try with_reducible rfl))); (try simp only [Act.put, List.getElem_toArray, List.getElem_cons_zero, List.getElem_cons_succ, List.setIfInBounds_toArray, List.set_cons_zero, List.set_cons_succ])
                refine wpAnyT_take (i := 41) (oi := _) (v := ?_) rfl (by kernel_rfl) (fun _ _ _ h => h) (Or.inl ⟨by kernel_rfl, ?_⟩) (by assumption) ?_; rotate_left; (focus (intro w hSw; (try dsimp only at hSw); go_simp; (try with_reducible rfl))); (try simp only [Act.put, List.getElem_toArray, List.getElem_cons_zero, List.getElem_cons_succ, List.setIfInBounds_toArray, List.set_cons_zero, List.set_cons_succ])
                refine wpAnyT_take (i := 42) (oi := _) (v := ?_) rfl (by kernel_rfl) (fun _ _ _ h => h) (Or.inl ⟨by kernel_rfl, ?_⟩) (by assumption) ?_; rotate_left; (focus (intro w hSw; (try dsimp only at hSw); go_simp; (try with_reducible rfl))); (try simp only [Act.put, List.getElem_toArray, List.getElem_cons_zero, List.getElem_cons_succ, List.setIfInBounds_toArray, List.set_cons_zero, List.set_cons_succ])
                refine wpAnyT_done (by kernel_rfl) ?_ _
                go_wp2
                go_roundw
                case rel => exact ⟨k + 1, by omega, by go_num, HS, Lib.hid hew⟩
                case measure => simp [intOf]; omega
              have dk : decide ((0 : Int) < (k : Int)) = false := dcf (by omega)
              have HS := Lib.hid (Hst.out hx (fun h => absurd h hp))
              clear hx Hno1 Hno2 Hst HP HHD Hpr
              go_wp2_with fail
              refine wp_region_T 99 (fun w' => (w'.cell? ⟨wr.heap.size, 0, none⟩ = some (.int .i64 x.maker) ∧ w'.cell? ⟨wr.heap.size, 1, none⟩ = some (.int .i64 x.seq)) ∧ w'.cell? ⟨w.heap.size, 2, none⟩ = some (.slice (some ⟨b, off, none⟩) d.marks.length cM)) (by kernel_rfl) (HBL.out _ (below_drewN_ (Below.refl _ _) 1)) (fun hHeld => ?_)
              refine wpAnyT_take (i := 0) (oi := _) (v := ?_) rfl (by kernel_rfl) (fun _ _ _ h => h) (Or.inl ⟨by kernel_rfl, ?_⟩) (by assumption) ?_; rotate_left; (focus (intro w hSw; (try dsimp only at hSw); go_simp; (try with_reducible rfl))); (try simp only [Act.put, List.getElem_toArray, List.getElem_cons_zero, List.setIfInBounds_toArray, List.set_cons_zero, List.set_cons_succ])
              refine wpAnyT_one (i := 1) (by kernel_rfl) rfl (fun K hK => ?_); go_simp
              refine (HR2.out _).mono ?_
              rintro e wa ⟨rfl, hba⟩
              have hea0 : Below (wr.heap.size + 1) (wr.alloc (.cells #[.int .i64 x.maker, .int .i64 x.seq] 44)) wa := (below_drewN_ (Below.refl _ _) 1).trans (hba.mono (by simp [World.drew]))
              have hew : Below (w.heap.size + 1) wm wa := HW1.out.trans ((HB1.out.trans (hea0.mono (by omega))).mono hsz)
              have hHa := HBL.out _ hea0
              refine hK.out _ _ (fun _ => hHa) ?_
              clear hK K hHeld hba
              refine wpAnyT_take (i := 2) (oi := _) (v := ?_) rfl (by kernel_rfl) (fun _ _ _ h => h) (Or.inl ⟨by kernel_rfl, ?_⟩) (by assumption) ?_; rotate_left; (focus (intro w hSw; (try dsimp only at hSw); go_simp; (try with_reducible rfl))); (try simp only [Act.put, List.getElem_toArray, List.getElem_cons_zero, List.getElem_cons_succ, List.setIfInBounds_toArray, List.set_cons_zero, List.set_cons_succ])
              refine wpAnyT_take (i := 3) (oi := _) (v := ?_) rfl (by kernel_rfl) (fun _ _ _ h => h) (Or.inl ⟨by kernel_rfl, ?_⟩) (by assumption) ?_; rotate_left; (focus (intro w hSw; (try dsimp only at hSw); go_simp; (try with_reducible rfl))); (try simp only [Act.put, List.getElem_toArray, List.getElem_cons_zero, List.getElem_cons_succ, List.setIfInBounds_toArray, List.set_cons_zero, List.set_cons_succ])
              refine wpAnyT_take (i := 4) (oi := _) (v := ?_) rfl (by kernel_rfl) (fun _ _ _ h => h) (Or.inl ⟨by kernel_rfl, ?_⟩) (by assumption) ?_; rotate_left; (focus (intro w hSw; (try dsimp only at hSw); go_simp; (try with_reducible rfl))); (try simp only [Act.put, List.getElem_toArray, List.getElem_cons_zero, List.getElem_cons_succ, List.setIfInBounds_toArray, List.set_cons_zero, List.set_cons_succ])
              refine wpAnyT_take (i := 5) (oi := _) (v := ?_) rfl (by kernel_rfl) (fun _ _ _ h => h) (Or.inl ⟨by kernel_rfl, ?_⟩) (by assumption) ?_; rotate_left; (focus (intro w hSw; (try dsimp only at hSw); go_simp; (try with_reducible rfl))); (try simp only [Act.put, List.getElem_toArray, List.getElem_cons_zero, List.getElem_cons_succ, List.setIfInBounds_toArray, List.set_cons_zero, List.set_cons_succ])
              refine wpAnyT_take (i := 6) (oi := _) (v := ?_) rfl (by kernel_rfl) (fun _ _ _ h => h) (Or.inl ⟨by kernel_rfl, ?_⟩) (by assumption) ?_; rotate_left; (focus (intro w hSw; (try dsimp only at hSw); go_simp; (try with_reducible rfl))); (try simp only [Act.put, List.getElem_toArray, List.getElem_cons_zero, List.getElem_cons_succ, List.setIfInBounds_toArray, List.set_cons_zero, List.set_cons_succ])
              refine wpAnyT_take (i := 7) (oi := _) (v := undef) rfl (by kernel_rfl) (fun _ _ _ h => h) (Or.inr ⟨by kernel_rfl, rfl⟩) (by assumption) ?_; (try simp only [Act.put, List.getElem_toArray, List.getElem_cons_zero, List.getElem_cons_succ, List.setIfInBounds_toArray, List.set_cons_zero, List.set_cons_succ])
              refine wpAnyT_take (i := 8) (oi := _) (v := undef) rfl (by kernel_rfl) (fun _ _ _ h => h) (Or.inr ⟨by kernel_rfl, rfl⟩) (by assumption) ?_; (try simp only [Act.put, List.getElem_toArray, List.getElem_cons_zero, List.getElem_cons_succ, List.setIfInBounds_toArray, List.set_cons_zero, List.set_cons_succ])
              refine wpAnyT_take (i := 9) (oi := _) (v := undef) rfl (by kernel_rfl) (fun _ _ _ h => h) (Or.inr ⟨by kernel_rfl, rfl⟩) (by assumption) ?_; (try simp only [Act.put, List.getElem_toArray, List.getElem_cons_zero, List.getElem_cons_succ, List.setIfInBounds_toArray, List.set_cons_zero, List.set_cons_succ])
              refine wpAnyT_take (i := 10) (oi := _) (v := undef) rfl (by kernel_rfl) (fun _ _ _ h => h) (Or.inr ⟨by kernel_rfl, rfl⟩) (by assumption) ?_; (try simp only [Act.put, List.getElem_toArray, List.getElem_cons_zero, List.getElem_cons_succ, List.setIfInBounds_toArray, List.set_cons_zero, List.set_cons_succ])
              refine wpAnyT_take (i := 11) (oi := _) (v := undef) rfl (by kernel_rfl) (fun _ _ _ h => h) (Or.inr ⟨by kernel_rfl, rfl⟩) (by assumption) ?_; (try simp only [Act.put, List.getElem_toArray, List.getElem_cons_zero, List.getElem_cons_succ, List.setIfInBounds_toArray, List.set_cons_zero, List.set_cons_succ])
              refine wpAnyT_take (i := 12) (oi := _) (v := undef) rfl (by kernel_rfl) (fun _ _ _ h => h) (Or.inr ⟨by kernel_rfl, rfl⟩) (by assumption) ?_; (try simp only [Act.put, List.getElem_toArray, List.getElem_cons_zero, List.getElem_cons_succ, List.setIfInBounds_toArray, List.set_cons_zero, List.set_cons_succ])
              refine wpAnyT_take (i := 13) (oi := _) (v := undef) rfl (by kernel_rfl) (fun _ _ _ h => h) (Or.inr ⟨by kernel_rfl, rfl⟩) (by assumption) ?_; (try simp only [Act.put, List.getElem_toArray, List.getElem_cons_zero, List.getElem_cons_succ, List.setIfInBounds_toArray, List.set_cons_zero, List.set_cons_succ])
              refine wpAnyT_take (i := 14) (oi := _) (v := undef) rfl (by kernel_rfl) (fun _ _ _ h => h) (Or.inr ⟨by kernel_rfl, rfl⟩) (by assumption) ?_; (try simp only [Act.put, List.getElem_toArray, List.getElem_cons_zero, List.getElem_cons_succ, List.setIfInBounds_toArray, List.set_cons_zero, List.set_cons_succ])
              refine wpAnyT_take (i := 15) (oi := _) (v := undef) rfl (by kernel_rfl) (fun _ _ _ h => h) (Or.inr ⟨by kernel_rfl, rfl⟩) (by assumption) ?_; (try simp only [Act.put, List.getElem_toArray, List.getElem_cons_zero, List.getElem_cons_succ, List.setIfInBounds_toArray, List.set_cons_zero, List.set_cons_succ])
              refine wpAnyT_take (i := 16) (oi := _) (v := undef) rfl (by kernel_rfl) (fun _ _ _ h => h) (Or.inr ⟨by kernel_rfl, rfl⟩) (by assumption) ?_; (try simp only [Act.put, List.getElem_toArray, List.getElem_cons_zero, List.getElem_cons_succ, List.setIfInBounds_toArray, List.set_cons_zero, List.set_cons_succ])
              refine wpAnyT_take (i := 17) (oi := _) (v := undef) rfl (by kernel_rfl) (fun _ _ _ h => h) (Or.inr ⟨by kernel_rfl, rfl⟩) (by assumption) ?_; (try simp only [Act.put, List.getElem_toArray, List.getElem_cons_zero, List.getElem_cons_succ, List.setIfInBounds_toArray, List.set_cons_zero, List.set_cons_succ])
              refine wpAnyT_take (i := 18) (oi := _) (v := undef) rfl (by kernel_rfl) (fun _ _ _ h => h) (Or.inr ⟨by kernel_rfl, rfl⟩) (by assumption) ?_; (try simp only [Act.put, List.getElem_toArray, List.getElem_cons_zero, List.getElem_cons_succ, List.setIfInBounds_toArray, List.set_cons_zero, List.set_cons_succ])
              refine wpAnyT_take (i := 19) (oi := _) (v := undef) rfl (by kernel_rfl) (fun _ _ _ h => h) (Or.inr ⟨by kernel_rfl, rfl⟩) (by assumption) ?_; (try simp only [Act.put, List.getElem_toArray, List.getElem_cons_zero, List.getElem_cons_succ, List.setIfInBounds_toArray, List.set_cons_zero, List.set_cons_succ])
              refine wpAnyT_take (i := 20) (oi := _) (v := undef) rfl (by kernel_rfl) (fun _ _ _ h => h) (Or.inr ⟨by kernel_rfl, rfl⟩) (by assumption) ?_; (try simp only [Act.put, List.getElem_toArray, List.getElem_cons_zero, List.getElem_cons_succ, List.setIfInBounds_toArray, List.set_cons_zero, List.set_cons_succ])
              refine wpAnyT_take (i := 21) (oi := _) (v := undef) rfl (by kernel_rfl) (fun _ _ _ h => h) (Or.inr ⟨by kernel_rfl, rfl⟩) (by assumption) ?_; (try simp only [Act.put, List.getElem_toArray, List.getElem_cons_zero, List.getElem_cons_succ, List.setIfInBounds_toArray, List.set_cons_zero, List.set_cons_succ])
              refine wpAnyT_take (i := 22) (oi := _) (v := undef) rfl (by kernel_rfl) (fun _ _ _ h => h) (Or.inr ⟨by kernel_rfl, rfl⟩) (by assumption) ?_; (try simp only [Act.put, List.getElem_toArray, List.getElem_cons_zero, List.getElem_cons_succ, List.setIfInBounds_toArray, List.set_cons_zero, List.set_cons_succ])
              refine wpAnyT_take (i := 23) (oi := _) (v := undef) rfl (by kernel_rfl) (fun _ _ _ h => h) (Or.inr ⟨by kernel_rfl, rfl⟩) (by assumption) ?_; (try simp only [Act.put, List.getElem_toArray, List.getElem_cons_zero, List.getElem_cons_succ, List.setIfInBounds_toArray, List.set_cons_zero, List.set_cons_succ])
              refine wpAnyT_take (i := 24) (oi := _) (v := undef) rfl (by kernel_rfl) (fun _ _ _ h => h) (Or.inr ⟨by kernel_rfl, rfl⟩) (by assumption) ?_; (try simp only [Act.put, List.getElem_toArray, List.getElem_cons_zero, List.getElem_cons_succ, List.setIfInBounds_toArray, List.set_cons_zero, List.set_cons_succ])
              refine wpAnyT_take (i := 25) (oi := _) (v := undef) rfl (by kernel_rfl) (fun _ _ _ h => h) (Or.inr ⟨by kernel_rfl, rfl⟩) (by assumption) ?_; (try simp only [Act.put, List.getElem_toArray, List.getElem_cons_zero, List.getElem_cons_succ, List.setIfInBounds_toArray, List.set_cons_zero, List.set_cons_succ])
              refine wpAnyT_take (i := 26) (oi := _) (v := undef) rfl (by kernel_rfl) (fun _ _ _ h => h) (Or.inr ⟨by kernel_rfl, rfl⟩) (by assumption) ?_; (try simp only [Act.put, List.getElem_toArray, List.getElem_cons_zero, List.getElem_cons_succ, List.setIfInBounds_toArray, List.set_cons_zero, List.set_cons_succ])
              refine wpAnyT_take (i := 27) (oi := _) (v := undef) rfl (by kernel_rfl) (fun _ _ _ h => h) (Or.inr ⟨by kernel_rfl, rfl⟩) (by assumption) ?_; (try simp only [Act.put, List.getElem_toArray, List.getElem_cons_zero, List.getElem_cons_succ, List.setIfInBounds_toArray, List.set_cons_zero, List.set_cons_succ])
              refine wpAnyT_take (i := 28) (oi := _) (v := undef) rfl (by kernel_rfl) (fun _ _ _ h => h) (Or.inr ⟨by kernel_rfl, rfl⟩) (by assumption) ?_; (try simp only [Act.put, List.getElem_toArray, List.getElem_cons_zero, List.getElem_cons_succ, List.setIfInBounds_toArray, List.set_cons_zero, List.set_cons_succ])
              refine wpAnyT_take (i := 29) (oi := _) (v := undef) rfl (by kernel_rfl) (fun _ _ _ h => h) (Or.inr ⟨by kernel_rfl, rfl⟩) (by assumption) ?_; (try simp only [Act.put, List.getElem_toArray, List.getElem_cons_zero, List.getElem_cons_succ, List.setIfInBounds_toArray, List.set_cons_zero, List.set_cons_succ])
              refine wpAnyT_take (i := 30) (oi := _) (v := undef) rfl (by kernel_rfl) (fun _ _ _ h => h) (Or.inr ⟨by kernel_rfl, rfl⟩) (by assumption) ?_; (try simp only [Act.put, List.getElem_toArray, List.getElem_cons_zero, List.getElem_cons_succ, List.setIfInBounds_toArray, List.set_cons_zero, List.set_cons_succ])
              refine wpAnyT_take (i := 31) (oi := _) (v := undef) rfl (by kernel_rfl) (fun _ _ _ h => h) (Or.inr ⟨by kernel_rfl, rfl⟩) (by assumption) ?_; (try simp only [Act.put, List.getElem_toArray, List.getElem_cons_zero, List.getElem_cons_succ, List.setIfInBounds_toArray, List.set_cons_zero, List.set_cons_succ])
              refine wpAnyT_take (i := 32) (oi := _) (v := undef) rfl (by kernel_rfl) (fun _ _ _ h => h) (Or.inr ⟨by kernel_rfl, rfl⟩) (by assumption) ?_; (try simp only [Act.put, List.getElem_toArray, List.getElem_cons_zero, List.getElem_cons_succ, List.setIfInBounds_toArray, List.set_cons_zero, List.set_cons_succ])
              refine wpAnyT_take (i := 33) (oi := _) (v := undef) rfl (by kernel_rfl) (fun _ _ _ h => h) (Or.inr ⟨by kernel_rfl, rfl⟩) (by assumption) ?_; (try simp only [Act.put, List.getElem_toArray, List.getElem_cons_zero, List.getElem_cons_succ, List.setIfInBounds_toArray, List.set_cons_zero, List.set_cons_succ])
              refine wpAnyT_take (i := 34) (oi := _) (v := undef) rfl (by kernel_rfl) (fun _ _ _ h => h) (Or.inr ⟨by kernel_rfl, rfl⟩) (by assumption) ?_; (try simp only [Act.put, List.getElem_toArray, List.getElem_cons_zero, List.getElem_cons_succ, List.setIfInBounds_toArray, List.set_cons_zero, List.set_cons_succ])
              refine wpAnyT_take (i := 35) (oi := _) (v := undef) rfl (by kernel_rfl) (fun _ _ _ h => h) (Or.inr ⟨by kernel_rfl, rfl⟩) (by assumption) ?_; (try simp only [Act.put, List.getElem_toArray, List.getElem_cons_zero, List.getElem_cons_succ, List.setIfInBounds_toArray, List.set_cons_zero, List.set_cons_succ])
              refine wpAnyT_take (i := 36) (oi := _) (v := undef) rfl (by kernel_rfl) (fun _ _ _ h => h) (Or.inr ⟨by kernel_rfl, rfl⟩) (by assumption) ?_; (try simp only [Act.put, List.getElem_toArray, List.getElem_cons_zero, List.getElem_cons_succ, List.setIfInBounds_toArray, List.set_cons_zero, List.set_cons_succ])
              refine wpAnyT_take (i := 37) (oi := _) (v := undef) rfl (by kernel_rfl) (fun _ _ _ h => h) (Or.inr ⟨by kernel_rfl, rfl⟩) (by assumption) ?_; (try simp only [Act.put, List.getElem_toArray, List.getElem_cons_zero, List.getElem_cons_succ, List.setIfInBounds_toArray, List.set_cons_zero, List.set_cons_succ])
              refine wpAnyT_take (i := 38) (oi := _) (v := undef) rfl (by kernel_rfl) (fun _ _ _ h => h) (Or.inr ⟨by kernel_rfl, rfl⟩) (by assumption) ?_; (try simp only [Act.put, List.getElem_toArray, List.getElem_cons_zero, List.getElem_cons_succ, List.setIfInBounds_toArray, List.set_cons_zero, List.set_cons_succ])
              refine wpAnyT_take (i := 39) (oi := _) (v := undef) rfl (by kernel_rfl) (fun _ _ _ h => h) (Or.inr ⟨by kernel_rfl, rfl⟩) (by assumption) ?_; (try simp only [Act.put, List.getElem_toArray, List.getElem_cons_zero, List.getElem_cons_succ, List.setIfInBounds_toArray, List.set_cons_zero, List.set_cons_succ])
              refine wpAnyT_take (i := 40) (oi := _) (v := undef) rfl (by kernel_rfl) (fun _ _ _ h => h) (Or.inr ⟨by kernel_rfl, rfl⟩) (by assumption) ?_; (try simp only [Act.put, List.getElem_toArray, List.getElem_cons_zero, List.getElem_cons_succ, List.setIfInBounds_toArray, List.set_cons_zero, List.set_cons_succ])
              refine wpAnyT_take (i := 41) (oi := _) (v := ?_) rfl (by kernel_rfl) (fun _ _ _ h => h) (Or.inl ⟨by kernel_rfl, ?_⟩) (by assumption) ?_; rotate_left; (focus (intro w hSw; (try dsimp only at hSw); go_simp; (try with_reducible rfl))); (try simp only [Act.put, List.getElem_toArray, List.getElem_cons_zero, List.getElem_cons_succ, List.setIfInBounds_toArray, List.set_cons_zero, List.set_cons_succ])
              refine wpAnyT_take (i := 42) (oi := _) (v := ?_) rfl (by kernel_rfl) (fun _ _ _ h => h) (Or.inl ⟨by kernel_rfl, ?_⟩) (by assumption) ?_; rotate_left; (focus (intro w hSw; (try dsimp only at hSw); go_simp; (try with_reducible rfl))); (try simp only [Act.put, List.getElem_toArray, List.getElem_cons_zero, List.getElem_cons_succ, List.setIfInBounds_toArray, List.set_cons_zero, List.set_cons_succ])
              refine wpAnyT_done (by kernel_rfl) ?_ _
              go_wp2
              go_roundw
              case rel => exact ⟨k + 1, by omega, by go_num, HS, Lib.hid hew⟩
              case measure => simp [intOf]; omega
            · obtain rfl : k = d.marks.length := by omega
              have HD4 : Hid (out = (numB d.cut 0 && numB d.fence 0 && owB d.by_)) := Lib.hid (by rw [HD3.out, ris_yes hall.out]; rfl)
              obtain ⟨s0, s1, s2, s3, s4, s5, s6, s7⟩ := HK.out _ HW1.out
              have hb00 := (HB0.out _ HW1.out).1
              clear HD3 hall HRM
              by_cases e0 : numB d.cut 0 = true
              · have te0 : numB d.cut 0 = true := e0
                by_cases e1 : numB d.fence 0 = true
                · have te1 : numB d.fence 0 = true := e1
                  have HV : Hid (out = owB d.by_) := Lib.hid (by rw [HD4.out, te0, te1]; rfl)
                  clear HD4
                  go_wp2_with first | (go_at_call 43; refine (HN.out _ _ _).mono ?_; rintro e w9 ⟨rfl, rfl⟩) | (go_at_call 46; refine (HW.out _).mono ?_; rintro e w4 ⟨rfl, hb4⟩)
                  go_ret
                  exact ⟨by rw [HV.out]; rfl, hb00.trans (hb4.mono hb00.size)⟩
                · have te1 : numB d.fence 0 = false := by simpa using e1
                  have HV : Hid (out = false) := Lib.hid (by rw [HD4.out, te1]; simp)
                  clear HD4
                  go_wp2_with first | (go_at_call 43; refine (HN.out _ _ _).mono ?_; rintro e w9 ⟨rfl, rfl⟩) | (go_at_call 46; refine (HW.out _).mono ?_; rintro e w4 ⟨rfl, hb4⟩)
                  go_ret
                  exact ⟨by rw [HV.out]; rfl, hb00⟩
              · have te0 : numB d.cut 0 = false := by simpa using e0
                have HV : Hid (out = false) := Lib.hid (by rw [HD4.out, te0]; simp)
                clear HD4
                go_wp2_with first | (go_at_call 43; refine (HN.out _ _ _).mono ?_; rintro e w9 ⟨rfl, rfl⟩) | (go_at_call 46; refine (HW.out _).mono ?_; rintro e w4 ⟨rfl, hb4⟩)
                go_ret
                exact ⟨by rw [HV.out]; rfl, hb00⟩
end Go.Proofs.YtjbmlhipjceeeaaGreat.Mf
