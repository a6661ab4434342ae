/- CommitPaces: few, lives. -/
import Derived.Test.YtibnehaibgbliaaGreatProg
import Derived.Test.YtibnehaibgbliaaGreatCpC
namespace Go.Proofs.YtibnehaibgbliaaGreat.Cp
set_option linter.unusedVariables false
set_option linter.unusedSimpArgs false
open Go.RowKit Go.Proofs.YtibnehaibgbliaaGreat

set_option maxRecDepth 100000 in
set_option maxHeartbeats 3200000 in
theorem few_calls (w : World) {B : Nat} {x : Ed} {q : Pd} (h : Edi w B x q) (hB : B ≤ w.heap.size) :
    Calls Tryz.prog 8 #[edV x q] w fun e w' => ∃ b, e = .returned (.bool b) ∧ (b = true → x.add.length ≤ 30 ∧ x.drop.length ≤ 30 ∧ x.marks.length ≤ 70) ∧ Below w.heap.size w w' := by
  have hbk := Blk.new w 28 #[.slice q.AA x.add.length q.cA, .slice q.AD x.drop.length q.cD, .slice q.AM x.marks.length q.cM, .int .i64 x.cut, .int .i64 x.fence, .int .i64 x.by_.agent, .int .i64 x.by_.life, .int .i64 x.by_.count]
  have z0 := hbk.cell 0
  have z1 := hbk.cell 1
  have z2 := hbk.cell 2
  simp only [List.getElem?_toArray, List.getElem?_cons_zero, List.getElem?_cons_succ] at z0 z1 z2
  have HB1 : Hid (Below w.heap.size w (w.alloc (.cells #[.slice q.AA x.add.length q.cA, .slice q.AD x.drop.length q.cD, .slice q.AM x.marks.length q.cM, .int .i64 x.cut, .int .i64 x.fence, .int .i64 x.by_.agent, .int .i64 x.by_.life, .int .i64 x.by_.count] 28))) := Lib.hid ((Below.refl _ _).alloc (Nat.le_refl _) _)
  have HE := Lib.hid h
  have la := h.la
  clear h hbk
  by_cases h1 : 30 < x.add.length
  · have d1 : decide ((30 : Int) < (x.add.length : Int)) = true := dct (by omega)
    go_enter Tryz.func8, Tryz.ntmps8
    go_wp2
    go_ret
    exact ⟨false, rfl, fun h => (by cases h), HB1.out⟩
  have d1 : decide ((30 : Int) < (x.add.length : Int)) = false := dcf (by omega)
  by_cases h2 : 30 < x.drop.length
  · have d2 : decide ((30 : Int) < (x.drop.length : Int)) = true := dct (by omega)
    go_enter Tryz.func8, Tryz.ntmps8
    go_wp2
    go_ret
    exact ⟨false, rfl, fun h => (by cases h), HB1.out⟩
  have d2 : decide ((30 : Int) < (x.drop.length : Int)) = false := dcf (by omega)
  by_cases h3 : 70 < x.marks.length
  · have d3 : decide ((70 : Int) < (x.marks.length : Int)) = true := dct (by omega)
    go_enter Tryz.func8, Tryz.ntmps8
    go_wp2
    go_ret
    exact ⟨false, rfl, fun h => (by cases h), HB1.out⟩
  have d3 : decide ((70 : Int) < (x.marks.length : Int)) = false := dcf (by omega)
  have HT : Hid (x.add.length ≤ 30 ∧ x.drop.length ≤ 30 ∧ x.marks.length ≤ 70) := Lib.hid ⟨by omega, by omega, by omega⟩
  have l1 : x.add.length ≤ 30 := by omega
  clear h1 h2 h3
  go_enter Tryz.func8, Tryz.ntmps8
  go_wp2
  go_loopw [24] (fun vi wr => ∃ i : Nat, i ≤ x.add.length ∧ vi = .int .i64 (i : Int) ∧ Hid (Below w.heap.size w wr)) (fun vi _ => x.add.length - (intOf vi).toNat)
  case atStart => exact ⟨0, Nat.zero_le _, rfl, HB1⟩
  case round =>
    obtain ⟨i, hi, rfl, HBr⟩ := hrel
    clear z0 z1 z2
    by_cases hlt : i < x.add.length
    · obtain ⟨b, off, hA, hbB, hc⟩ := row_at ecs_len ((HE.out.below (HBr.out.mono hB)).ra) (by omega)
      have hci := hc i hlt
      have HEi : Hid (gt x.add i ∈ x.add) := Lib.hid (gt_mem hlt)
      generalize gt x.add i = y at *
      have p0 := hci 0 _ rfl
      have p1 := hci 1 _ rfl
      have p2 := hci 2 _ rfl
      have p3 := hci 3 _ rfl
      have p4 := hci 4 _ rfl
      have p5 := hci 5 _ rfl
      have p6 := hci 6 _ rfl
      have p7 := hci 7 _ rfl
      have p8 := hci 8 _ rfl
      rw [Nat.add_zero] at p0
      clear hc hci
      have i0 : (0 : Int) ≤ (i : Int) := by omega
      have i9 : (i : Int) < (x.add.length : Int) := by omega
      have hsz := HBr.out.size
      have HB2 : Hid (Below w.heap.size w (wr.alloc (.cells #[.string y.key, .int .i64 y.window, .string y.part, .int .i64 y.first, .int .i64 y.last, .int .i64 y.rows, .int .i64 y.size, .int .u32 y.sum, .int .i64 y.born] 85))) := Lib.hid (HBr.out.alloc hsz _)
      rw [hA]
      by_cases k1 : 100 < y.key.size
      · have e1 : decide ((100 : Int) < (y.key.size : Int)) = true := dct (by omega)
        go_wp2
        go_ret
        exact ⟨false, rfl, fun h => (by cases h), HB2.out⟩
      have e1 : decide ((100 : Int) < (y.key.size : Int)) = false := dcf (by omega)
      by_cases k2 : 600 < y.part.size
      · have e2 : decide ((600 : Int) < (y.part.size : Int)) = true := dct (by omega)
        go_wp2
        go_ret
        exact ⟨false, rfl, fun h => (by cases h), HB2.out⟩
      have e2 : decide ((600 : Int) < (y.part.size : Int)) = false := dcf (by omega)
      go_wp2
      go_roundw
      case rel => exact ⟨i + 1, by omega, by go_num, HB2⟩
      case measure => simp [intOf]; omega
    · obtain rfl : i = x.add.length := by omega
      go_wp2
      go_ret
      exact ⟨true, rfl, fun _ => HT.out, HBr.out⟩
def liveE : Ed := ⟨[], [], [], 0, 0, ⟨1, 1, 1⟩⟩
def liveP : Pd := ⟨none, 0, none, 0, none, 0⟩
theorem liveEdi (w : World) : Edi w 0 liveE liveP := ⟨Reads.none_, Reads.none_, Reads.none_, Nat.zero_le _, Nat.zero_le _, Nat.zero_le _, Nat.zero_le _, Nat.zero_le _, Nat.zero_le _, fun x hx => (by cases hx), fun x hx => (by cases hx)⟩
set_option maxRecDepth 100000 in
set_option maxHeartbeats 3200000 in
theorem lives_calls (w : World) : Calls Tryz.prog 7 #[] w fun e w' => e = .returned (.bool true) ∧ Below w.heap.size w w' := by
  have HN := Lib.hid (new_calls w (liveEdi w) (Nat.zero_le _) (Nat.zero_le _) (Nat.zero_le _) (Nat.zero_le _) 2 1 (by omega) (by omega) (by omega) (by omega))
  go_enter Tryz.func7, Tryz.ntmps7
  go_wp2_with fail
  refine HN.out.mono ?_
  rintro e w1 ⟨g, V, rfl, hg, hbk, hb1⟩
  have HX := Lib.hid (next_yes w1 hbk 0 (by omega))
  clear HN hbk
  go_wp2_with fail
  refine HX.out.mono ?_
  rintro e w2 ⟨rfl, hbk2, ho2⟩
  have hb2 : Below w.heap.size w w2 := hb1.trans (ho2.below hg hb1.size)
  have hbk3 := hbk2.alloc (.cells getCall 35)
  have HS := Lib.hid (state_calls _ hbk3)
  clear hbk2 hbk3 HX ho2
  go_wp2_with fail
  refine HS.out.mono ?_
  rintro e w3 ⟨rfl, hb3⟩
  have hc := (Blk.new w2 35 getCall).below hb3 (by simp)
  have c0 := hc.cell 0
  have c1 := hc.cell 1
  simp only [List.getElem?_toArray, List.getElem?_cons_zero, List.getElem?_cons_succ] at c0 c1
  have HB3 : Hid (Below w.heap.size w w3) := Lib.hid ((hb2.alloc hb2.size _).trans (hb3.mono (by have := hb2.size; simp; omega)))
  clear hc hb3 hb2 HS
  go_wp2
  go_ret
  exact ⟨rfl, HB3.out⟩
end Go.Proofs.YtibnehaibgbliaaGreat.Cp
