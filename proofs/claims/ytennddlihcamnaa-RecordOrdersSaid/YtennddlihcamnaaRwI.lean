/- RecordOrders: two rows held against each other (a part of the walk). -/
import Derived.Test.YtennddlihcamnaaProg
import Derived.Test.YtennddlihcamnaaRwH
import Derived.Test.YtennddlihcamnaaRecH
namespace Go.Proofs.Ytennddlihcamnaa.lawRecordOrders
open Go.RowKit Go.Proofs.Ytennddlihcamnaa Go.Proofs.Ytennddlihcamnaa.So

set_option maxRecDepth 100000 in
set_option maxHeartbeats 6400000 in
theorem body (w : World) {B c : Nat} {A : Option Addr} {l : List Rw} (h : Rows w B A l) (hB : B ≤ w.heap.size) (hn : l.length ≤ 60) :
    Calls Try.prog 6 #[.slice A l.length c] w fun e w' => e = .returned (.bool true) ∧ Below w.heap.size w w' := by
  have d60 : decide ((60 : Int) < (l.length : Int)) = false := dcf (by omega)
  have HR := Lib.hid h
  have HF := Lib.hid h.fits
  clear h
  go_enter Try.func6, Try.ntmps6
  go_wp2_with fail
  refine (lives_calls w).mono ?_
  rintro e w1 ⟨rfl, hb1⟩
  have HT := Lib.hid (twinsR_calls w1 (c := c) (HR.out.below (hb1.mono hB)) (by have := hb1.size; omega) (by omega))
  go_wp2_with fail
  refine HT.out.mono ?_
  rintro e w2 ⟨A2, c2, d2, rfl, hl2, hs2, ho2, hb2⟩
  have hb02 := hb1.trans (hb2.mono hb1.size)
  have hf2 : ∀ x ∈ d2, FitW x := SameL.fits hs2.symm HF.out
  have HO2 : Hid (Rows w2 w2.heap.size A2 d2) := Lib.hid (by
    have := ho2
    rw [← hl2] at this
    exact this.rows hf2)
  have HS := sort_calls w2 (c := c2) HO2.out (Nat.le_refl _) (by omega)
  rw [hl2] at HS
  have HSS := Lib.hid HS
  have HL2 := Lib.hid hl2
  have HSM2 := Lib.hid hs2
  clear HT hb1 hb2 ho2 hf2 HS hl2 hs2
  go_wp2_with fail
  refine HSS.out.mono ?_
  rintro e w3 ⟨A3, c3, d3, rfl, hl3, hs3, ho3, hb3⟩
  have hb03 := hb02.trans (hb3.mono hb02.size)
  have hsm3 : SameL d3 (isort (Sr.ltc cfR) l) := Eq.trans hs3 (SameL.sorted HSM2.out)
  have hfs : ∀ x ∈ isort (Sr.ltc cfR) l, FitW x := fun x hx => HF.out x ((isort_perm l).mem_iff.1 hx)
  have HO3 : Hid (Rows w3 w3.heap.size A3 d3) := Lib.hid (by
    have := ho3
    rw [← hl3] at this
    exact this.rows (SameL.fits (Eq.symm hsm3) hfs))
  have HRS := Lib.hid (refSort_calls w3 (c := c) ((HR.out.below (hb03.mono hB)).reads) (by have := hb03.size; omega) (by omega))
  have HL3 := Lib.hid hl3
  have HSM3 := Lib.hid hsm3
  clear HSS hs3 ho3 hsm3 hfs hl3
  go_wp2_with fail
  refine HRS.out.mono ?_
  rintro e w4 ⟨A4, c4, rfl, ho4, hb4⟩
  have hb04 := hb03.trans (hb4.mono hb03.size)
  have HO4 : Hid (Rows w4 w4.heap.size A4 (isort (Sr.ltc cfR) l)) := Lib.hid ⟨by
    have := Reads.of_own ho4
    rw [isort_len]
    exact this, fun x hx => ((HR.out.each x ((isort_perm l).mem_iff.1 hx)).below (hb04.mono hB)).more (by have := hb04.size; omega)⟩
  have HS1 : Hid (Calls Try.prog 16 #[.slice A3 l.length c3, .slice A4 l.length c4] w4 fun e w' => e = .returned (.bool true) ∧ Below w4.heap.size w4 w') := Lib.hid (by
    have := sameRowsL_calls w4 (c1 := c3) (c2 := c4) (HO3.out.below hb4) HO4.out hb4.size (Nat.le_refl _) HSM3.out (by rw [HL3.out]; omega)
    rw [HL3.out, isort_len] at this
    exact this)
  clear HRS ho4
  go_wp2_with fail
  refine HS1.out.mono ?_
  rintro e w5 ⟨rfl, hb5⟩
  have hb05 := hb04.trans (hb5.mono hb04.size)
  have HS2 : Hid (Calls Try.prog 16 #[.slice A2 l.length c2, .slice A l.length c] w5 fun e w' => e = .returned (.bool true) ∧ Below w5.heap.size w5 w') := Lib.hid (by
    have h25 := (hb3.trans (hb4.mono hb3.size)).trans (hb5.mono (hb3.trans (hb4.mono hb3.size)).size)
    have := sameRowsL_calls w5 (c1 := c2) (c2 := c) (HO2.out.below h25) (HR.out.below (hb05.mono hB)) h25.size (by have := hb05.size; omega) HSM2.out (by rw [HL2.out]; omega)
    rw [HL2.out] at this
    exact this)
  clear HS1 hb3 hb4 hb5
  go_wp2_with fail
  refine HS2.out.mono ?_
  rintro e w6 ⟨rfl, hb6⟩
  have hb06 := hb05.trans (hb6.mono hb05.size)
  clear hb6 hb05 hb04 hb03 hb02 HS2 HO2 HO3 HO4 HL2 HL3 HSM2 HSM3
  go_wp2
  go_loopw [32] (fun vi wr => ∃ i : Nat, i ≤ l.length ∧ vi = .int .i64 (i : Int) ∧ Below w.heap.size w wr) (fun vi _ => l.length - (intOf vi).toNat)
  case atStart => exact ⟨0, Nat.zero_le _, rfl, hb06⟩
  case round =>
    obtain ⟨i, hi, rfl, hbi⟩ := hrel
    obtain ⟨wo, rfl⟩ : ∃ wo : World, wo = wr := ⟨_, rfl⟩
    by_cases hlt : i < l.length
    · go_wp2
      go_loopw [37] (fun vk wr => ∃ k : Nat, k ≤ l.length ∧ vk = .int .i64 (k : Int) ∧ Below w.heap.size w wr) (fun vk _ => l.length - (intOf vk).toNat)
      case atStart => exact ⟨0, Nat.zero_le _, rfl, hbi⟩
      case round =>
        obtain ⟨k, hk, rfl, hbk⟩ := hrel
        by_cases hltk : k < l.length
        · have hsz := hbk.size
          have r1 := HR.out.below (hbk.mono hB)
          obtain ⟨g, o, e1, hg, -⟩ := reads_nine r1.reads (by omega)
          have Hkeep : Hid (∀ W, Below wr.heap.size wr W → (W.cell? ⟨g, o + i * 9, none⟩ = some (.int .i64 (Sr.gt l i).kind) ∧ W.cell? ⟨g, o + i * 9 + 1, none⟩ = some (.int .i64 (Sr.gt l i).time) ∧ W.cell? ⟨g, o + i * 9 + 2, none⟩ = some (.slice (Sr.gt l i).A (Sr.gt l i).labs.length (Sr.gt l i).cp) ∧ W.cell? ⟨g, o + i * 9 + 3, none⟩ = some (.string (Sr.gt l i).text) ∧ W.cell? ⟨g, o + i * 9 + 4, none⟩ = some (.int .i64 (Sr.gt l i).value) ∧ W.cell? ⟨g, o + i * 9 + 5, none⟩ = some (.bool (Sr.gt l i).null) ∧ W.cell? ⟨g, o + i * 9 + 6, none⟩ = some (.int .i64 (Sr.gt l i).maker) ∧ W.cell? ⟨g, o + i * 9 + 7, none⟩ = some (.int .i64 (Sr.gt l i).seq) ∧ W.cell? ⟨g, o + i * 9 + 8, none⟩ = some (.int .i64 (Sr.gt l i).place)) ∧ W.cell? ⟨g, o + k * 9, none⟩ = some (.int .i64 (Sr.gt l k).kind) ∧ W.cell? ⟨g, o + k * 9 + 1, none⟩ = some (.int .i64 (Sr.gt l k).time) ∧ W.cell? ⟨g, o + k * 9 + 2, none⟩ = some (.slice (Sr.gt l k).A (Sr.gt l k).labs.length (Sr.gt l k).cp) ∧ W.cell? ⟨g, o + k * 9 + 3, none⟩ = some (.string (Sr.gt l k).text) ∧ W.cell? ⟨g, o + k * 9 + 4, none⟩ = some (.int .i64 (Sr.gt l k).value) ∧ W.cell? ⟨g, o + k * 9 + 5, none⟩ = some (.bool (Sr.gt l k).null) ∧ W.cell? ⟨g, o + k * 9 + 6, none⟩ = some (.int .i64 (Sr.gt l k).maker) ∧ W.cell? ⟨g, o + k * 9 + 7, none⟩ = some (.int .i64 (Sr.gt l k).seq) ∧ W.cell? ⟨g, o + k * 9 + 8, none⟩ = some (.int .i64 (Sr.gt l k).place)) := Lib.hid fun W hW => ⟨reads_nine_at (r1.reads.below (hW.mono (by omega))) e1 hlt, reads_nine_at (r1.reads.below (hW.mono (by omega))) e1 hltk⟩
          have k1 := r1.each _ (show Sr.gt l i ∈ l by rw [← Sr.gt_eq hlt]; exact List.getElem_mem _)
          have k2 := r1.each _ (show Sr.gt l k ∈ l by rw [← Sr.gt_eq hltk]; exact List.getElem_mem _)
          have HC1 := Lib.hid fun W => cmpRw_calls W (Sr.gt l i) (Sr.gt l k)
          have HC2 := Lib.hid fun W => cmpRwR_calls W (Sr.gt l i) (Sr.gt l k)
          have HC3 := Lib.hid fun W (hW : Below wr.heap.size wr W) => sameRw_calls W (Sr.gt l i) (Sr.gt l k) (k1.labs.below (hW.mono (by omega))) (k2.labs.below (hW.mono (by omega))) (by have := hW.size; omega) (by have := hW.size; omega) k1.len k2.len
          have HC4 := Lib.hid fun W (hW : Below wr.heap.size wr W) => sameRwR_calls W (Sr.gt l i) (Sr.gt l k) (k1.labs.below (hW.mono (by omega))) (k2.labs.below (hW.mono (by omega))) (by have := hW.size; omega) (by have := hW.size; omega) k1.len k2.len
          clear r1 k1 k2
          generalize hz : cfR (Sr.gt l i) (Sr.gt l k) = z at *
          generalize hs : sameRwB (Sr.gt l i) (Sr.gt l k) = s at *
          clear hz hs
          generalize Sr.gt l i = x at *
          generalize Sr.gt l k = y at *
          unfold rwA at HC1 HC2 HC3 HC4
          have i0 : (0 : Int) ≤ (i : Int) := by omega
          have i9 : (i : Int) < (l.length : Int) := by omega
          have j0 : (0 : Int) ≤ (k : Int) := by omega
          have j9 : (k : Int) < (l.length : Int) := by omega
          have nz : (z != z) = false := nef rfl
          have ns : (s != s) = false := by cases s <;> rfl
          obtain ⟨⟨p0, p1, p2, p3, p4, p5, p6, p7, p8⟩, q0, q1, q2, q3, q4, q5, q6, q7, q8⟩ := Hkeep.out wr (Below.refl _ _)
          subst e1
          go_wp2_with fail
          go_region_held3 (fun w' => (w'.cell? ⟨g, o + i * 9, none⟩ = some (.int .i64 x.kind) ∧ w'.cell? ⟨g, o + i * 9 + 1, none⟩ = some (.int .i64 x.time) ∧ w'.cell? ⟨g, o + i * 9 + 2, none⟩ = some (.slice x.A x.labs.length x.cp) ∧ w'.cell? ⟨g, o + i * 9 + 3, none⟩ = some (.string x.text) ∧ w'.cell? ⟨g, o + i * 9 + 4, none⟩ = some (.int .i64 x.value) ∧ w'.cell? ⟨g, o + i * 9 + 5, none⟩ = some (.bool x.null) ∧ w'.cell? ⟨g, o + i * 9 + 6, none⟩ = some (.int .i64 x.maker) ∧ w'.cell? ⟨g, o + i * 9 + 7, none⟩ = some (.int .i64 x.seq) ∧ w'.cell? ⟨g, o + i * 9 + 8, none⟩ = some (.int .i64 x.place)) ∧ w'.cell? ⟨g, o + k * 9, none⟩ = some (.int .i64 y.kind) ∧ w'.cell? ⟨g, o + k * 9 + 1, none⟩ = some (.int .i64 y.time) ∧ w'.cell? ⟨g, o + k * 9 + 2, none⟩ = some (.slice y.A y.labs.length y.cp) ∧ w'.cell? ⟨g, o + k * 9 + 3, none⟩ = some (.string y.text) ∧ w'.cell? ⟨g, o + k * 9 + 4, none⟩ = some (.int .i64 y.value) ∧ w'.cell? ⟨g, o + k * 9 + 5, none⟩ = some (.bool y.null) ∧ w'.cell? ⟨g, o + k * 9 + 6, none⟩ = some (.int .i64 y.maker) ∧ w'.cell? ⟨g, o + k * 9 + 7, none⟩ = some (.int .i64 y.seq) ∧ w'.cell? ⟨g, o + k * 9 + 8, none⟩ = some (.int .i64 y.place)) (exact Hkeep.out _ (by first | assumption | exact below_drewN_ (Below.refl _ _) 1)) (first | (go_at_call 20; refine (HC1.out _).mono ?_; rintro e wa ⟨rfl, hba⟩; have hea : Below wr.heap.size wr wa := (below_drewN_ (Below.refl _ _) 1).trans hba) | (go_at_call 21; refine (HC2.out _).mono ?_; rintro e wb ⟨rfl, hbb⟩; have heb : Below wr.heap.size wr wb := hea.trans (hbb.mono hea.size)) | (go_at_call 22; refine (HC3.out _ heb).mono ?_; rintro e wc ⟨rfl, hbc⟩; have hec : Below wr.heap.size wr wc := heb.trans (hbc.mono heb.size)) | (go_at_call 23; refine (HC4.out _ hec).mono ?_; rintro e wd ⟨rfl, hbd⟩; have hed : Below wr.heap.size wr wd := hec.trans (hbd.mono hec.size)))
          go_wp2
          go_roundw
          case rel => exact ⟨k + 1, by omega, by go_num, hbk.trans (hed.mono hsz)⟩
          case measure => simp [intOf]; omega
        · obtain rfl : k = l.length := by omega
          go_wp2
          go_roundw
          case rel => exact ⟨i + 1, by omega, by go_num, hbk⟩
          case measure => simp [intOf]; omega
    · obtain rfl : i = l.length := by omega
      go_wp2
      go_ret
      exact ⟨rfl, hbi⟩
end Go.Proofs.Ytennddlihcamnaa.lawRecordOrders
