/- The walk of RecordChecks. -/
import Derived.Test.YtennddlihcamnaaRecH
namespace Go.Proofs.Ytennddlihcamnaa.lawRecordChecks
open Go.RowKit

set_option maxRecDepth 100000 in
set_option maxHeartbeats 1600000 in
theorem body (w : World) {B c : Nat} {A : Option Addr} {l : List Rec} (maker seq : Int) (h : Recs w B A l) (hB : B ≤ w.heap.size) (hn : l.length ≤ 1954687338211) :
    Calls Try.prog 3 #[.agg #[.int .i64 maker, .int .i64 seq, .slice A l.length c]] w fun e w' => e = .returned (.bool true) ∧ Below w.heap.size w w' := by
  have hba := (Below.refl w.heap.size w).alloc (Nat.le_refl _) (.cells #[.int .i64 maker, .int .i64 seq, .slice A l.length c] 24)
  have hbx := Blk.new w 24 #[.int .i64 maker, .int .i64 seq, .slice A l.length c]
  have hl := h.below (hba.mono hB)
  have E1 : Hid ((w.alloc (.cells #[.int .i64 maker, .int .i64 seq, .slice A l.length c] 24)).heap.size = w.heap.size + 1) := Lib.hid (by simp)
  have hliv := lives_calls (w.alloc (.cells #[.int .i64 maker, .int .i64 seq, .slice A l.length c] 24))
  clear h
  by_cases h70 : 70 < l.length
  · have d70 : decide ((70 : Int) < (l.length : Int)) = true := dct (by omega)
    go_enter Try.func3, Try.ntmps3
    go_wp2_with fail
    refine hliv.mono ?_
    rintro e w1 ⟨rfl, hb1⟩
    have hb1x := hbx.below hb1 (by simp)
    have y2 := hb1x.cell 2
    simp only [List.getElem?_toArray, List.getElem?_cons_zero, List.getElem?_cons_succ] at y2
    have hbel := hba.trans (hb1.mono (by simp))
    go_wp2_with fail
    refine (lives_calls _).mono ?_
    rintro e w2 ⟨rfl, hb2⟩
    go_wp2
    go_ret
    exact ⟨rfl, hbel.trans (hb2.mono hbel.size)⟩
  · have d70 : decide ((70 : Int) < (l.length : Int)) = false := dcf (by omega)
    go_enter Try.func3, Try.ntmps3
    go_wp2_with fail
    refine hliv.mono ?_
    rintro e w1 ⟨rfl, hb1⟩
    have hb1x := hbx.below hb1 (by simp)
    have y2 := hb1x.cell 2
    simp only [List.getElem?_toArray, List.getElem?_cons_zero, List.getElem?_cons_succ] at y2
    have hl1 := hl.below (hb1.mono (by simp; omega))
    have hw0 := hba.trans (hb1.mono (by simp))
    have hw1 := hb1x.lt
    have hBw : B ≤ w1.heap.size := by omega
    clear hliv hb1 hbx hl hba E1
    generalize hgm : w.heap.size = gm at *
    go_wp2
    generalize hw0' : w1 = w0 at *
    clear hw0'
    go_loopw [17] (fun i wr => ∃ k : Nat, k ≤ l.length ∧ i = .int .i64 (k : Int) ∧ Below w0.heap.size w0 wr) (fun i _ => l.length - (intOf i).toNat)
    case atStart => exact ⟨0, Nat.zero_le _, rfl, Below.refl _ _⟩
    case round =>
      obtain ⟨k, hk, rfl, hbel⟩ := hrel
      have hsz := hbel.size
      have hl2 := hl1.below (hbel.mono (by omega))
      by_cases hlt : k < l.length
      · obtain ⟨b, off, rfl, hbB, hcell⟩ := hl2.cellAt (show 0 < l.length by omega)
        obtain ⟨c0, c1, c2, c3, c4, c5⟩ := hcell k hlt
        have hok := hl1.each k hlt
        have hbelx := hbel.alloc hsz (.cells #[.int .i64 (recAt l k).kind, .int .i64 (recAt l k).time, .slice (recAt l k).A (recAt l k).labs.length (recAt l k).c, .string (recAt l k).text, .int .i64 (recAt l k).value, .bool (recAt l k).null] 28)
        have hA := fun W (hW : Below w0.heap.size w0 W) => recRight_calls W (recAt l k) (hok.below (hW.mono hBw)) (by have := hW.size; omega)
        have hR := fun W (hW : Below w0.heap.size w0 W) => recRightR_calls W (recAt l k) (hok.below (hW.mono hBw)) (by have := hW.size; omega)
        unfold Rec.agg at hA hR
        clear hcell hok
        generalize recB (recAt l k) = rb at *
        generalize recAt l k = r at *
        have HA := Lib.hid hA
        have HR := Lib.hid hR
        clear hA hR
        have hrr : (rb == rb) = true := beq_self_eq_true _
        go_wp2_with fail
        go_region_held3 (fun w' => w'.cell? ⟨wr.heap.size, 0, none⟩ = some (.int .i64 r.kind) ∧ w'.cell? ⟨wr.heap.size, 1, none⟩ = some (.int .i64 r.time) ∧ w'.cell? ⟨wr.heap.size, 2, none⟩ = some (.slice r.A r.labs.length r.c) ∧ w'.cell? ⟨wr.heap.size, 3, none⟩ = some (.string r.text) ∧ w'.cell? ⟨wr.heap.size, 4, none⟩ = some (.int .i64 r.value) ∧ w'.cell? ⟨wr.heap.size, 5, none⟩ = some (.bool r.null) ∧ Blk w' wr.heap.size 28 #[.int .i64 r.kind, .int .i64 r.time, .slice r.A r.labs.length r.c, .string r.text, .int .i64 r.value, .bool r.null] ∧ Below w0.heap.size w0 w') ((refine ⟨?_, ?_, ?_, ?_, ?_, ?_, ?_, ?_⟩ <;> first | assumption | exact (Blk.new wr _ _).drewN 1 | exact below_drewN_ hbelx 1 | go_keep)) (first | (go_at_call 10; have hHH := ‹_ ∧ _ ∧ _ ∧ _ ∧ _ ∧ _ ∧  Blk _ _ _ _ ∧ Below _ _ _›; refine (HA.out _ hHH.2.2.2.2.2.2.2).mono ?_; rintro en w3 ⟨rfl, hb3⟩; have hx3 : Blk w3 wr.heap.size 28 #[.int .i64 r.kind, .int .i64 r.time, .slice r.A r.labs.length r.c, .string r.text, .int .i64 r.value, .bool r.null] := Blk.below hHH.2.2.2.2.2.2.1 hb3 hHH.2.2.2.2.2.2.1.lt; have he3 : Below w0.heap.size w0 w3 := Below.trans hHH.2.2.2.2.2.2.2 (hb3.mono hHH.2.2.2.2.2.2.2.size); clear hHH; have y0 : w3.cell? ⟨wr.heap.size, 0, none⟩ = some (.int .i64 r.kind) := hx3.cell 0; have y1 : w3.cell? ⟨wr.heap.size, 1, none⟩ = some (.int .i64 r.time) := hx3.cell 1; have y2 : w3.cell? ⟨wr.heap.size, 2, none⟩ = some (.slice r.A r.labs.length r.c) := hx3.cell 2; have y3 : w3.cell? ⟨wr.heap.size, 3, none⟩ = some (.string r.text) := hx3.cell 3; have y4 : w3.cell? ⟨wr.heap.size, 4, none⟩ = some (.int .i64 r.value) := hx3.cell 4; have y5 : w3.cell? ⟨wr.heap.size, 5, none⟩ = some (.bool r.null) := hx3.cell 5) | (go_at_call 11; have hHH := ‹_ ∧ _ ∧ _ ∧ _ ∧ _ ∧ _ ∧  Blk _ _ _ _ ∧ Below _ _ _›; refine (HR.out _ hHH.2.2.2.2.2.2.2).mono ?_; rintro en w3 ⟨rfl, hb3⟩; have hx3 : Blk w3 wr.heap.size 28 #[.int .i64 r.kind, .int .i64 r.time, .slice r.A r.labs.length r.c, .string r.text, .int .i64 r.value, .bool r.null] := Blk.below hHH.2.2.2.2.2.2.1 hb3 hHH.2.2.2.2.2.2.1.lt; have he3 : Below w0.heap.size w0 w3 := Below.trans hHH.2.2.2.2.2.2.2 (hb3.mono hHH.2.2.2.2.2.2.2.size); clear hHH; have y0 : w3.cell? ⟨wr.heap.size, 0, none⟩ = some (.int .i64 r.kind) := hx3.cell 0; have y1 : w3.cell? ⟨wr.heap.size, 1, none⟩ = some (.int .i64 r.time) := hx3.cell 1; have y2 : w3.cell? ⟨wr.heap.size, 2, none⟩ = some (.slice r.A r.labs.length r.c) := hx3.cell 2; have y3 : w3.cell? ⟨wr.heap.size, 3, none⟩ = some (.string r.text) := hx3.cell 3; have y4 : w3.cell? ⟨wr.heap.size, 4, none⟩ = some (.int .i64 r.value) := hx3.cell 4; have y5 : w3.cell? ⟨wr.heap.size, 5, none⟩ = some (.bool r.null) := hx3.cell 5))
        all_goals
          go_wp2
          go_roundw
          case rel => exact ⟨k + 1, by omega, by go_num, he3⟩
          case measure => simp [intOf]; omega
      · obtain rfl : k = l.length := by omega
        have hbw := hb1x.below hbel hw1
        have HA := Lib.hid fun W (hW : Below w0.heap.size w0 W) => check_calls W (c := c) maker seq (hl1.below (hW.mono hBw)) (by have := hW.size; omega) hn
        have HR := Lib.hid fun W (hW : Below w0.heap.size w0 W) => checkR_calls W (c := c) maker seq (hl1.below (hW.mono hBw)) (by have := hW.size; omega) hn
        have y0' := hbw.cell 0
        have y1' := hbw.cell 1
        have y2' := hbw.cell 2
        simp only [List.getElem?_toArray, List.getElem?_cons_zero, List.getElem?_cons_succ] at y0' y1' y2'
        clear hl1 hl2
        generalize chkB maker seq l = ck at *
        go_wp2_with fail
        go_region_held3 (fun w' => w'.cell? ⟨gm, 0, none⟩ = some (.int .i64 maker) ∧ w'.cell? ⟨gm, 1, none⟩ = some (.int .i64 seq) ∧ w'.cell? ⟨gm, 2, none⟩ = some (.slice A l.length c) ∧ Blk w' gm 24 #[.int .i64 maker, .int .i64 seq, .slice A l.length c] ∧ Below w0.heap.size w0 w') ((refine ⟨?_, ?_, ?_, ?_, ?_⟩ <;> first | assumption | exact hbw.drewN 1 | exact below_drewN_ hbel 1 | go_keep)) (first | (go_at_call 12; have hHH := ‹_ ∧ _ ∧ _ ∧  Blk _ _ _ _ ∧ Below _ _ _›; refine (HA.out _ hHH.2.2.2.2).mono ?_; rintro en w3 ⟨rfl, hb3⟩; have hx3 : Blk w3 gm 24 #[.int .i64 maker, .int .i64 seq, .slice A l.length c] := Blk.below hHH.2.2.2.1 hb3 hHH.2.2.2.1.lt; have he3 : Below w0.heap.size w0 w3 := Below.trans hHH.2.2.2.2 (hb3.mono hHH.2.2.2.2.size); clear hHH; have y0 : w3.cell? ⟨gm, 0, none⟩ = some (.int .i64 maker) := hx3.cell 0; have y1 : w3.cell? ⟨gm, 1, none⟩ = some (.int .i64 seq) := hx3.cell 1; have y2 : w3.cell? ⟨gm, 2, none⟩ = some (.slice A l.length c) := hx3.cell 2) | (go_at_call 13; have hHH := ‹_ ∧ _ ∧ _ ∧  Blk _ _ _ _ ∧ Below _ _ _›; refine (HR.out _ hHH.2.2.2.2).mono ?_; rintro en w3 ⟨rfl, hb3⟩; have hx3 : Blk w3 gm 24 #[.int .i64 maker, .int .i64 seq, .slice A l.length c] := Blk.below hHH.2.2.2.1 hb3 hHH.2.2.2.1.lt; have he3 : Below w0.heap.size w0 w3 := Below.trans hHH.2.2.2.2 (hb3.mono hHH.2.2.2.2.size); clear hHH; have y0 : w3.cell? ⟨gm, 0, none⟩ = some (.int .i64 maker) := hx3.cell 0; have y1 : w3.cell? ⟨gm, 1, none⟩ = some (.int .i64 seq) := hx3.cell 1; have y2 : w3.cell? ⟨gm, 2, none⟩ = some (.slice A l.length c) := hx3.cell 2))
        all_goals
          go_wp2
          go_ret
          exact ⟨by simp, by rw [hgm]; exact hw0.trans (he3.mono (by omega))⟩

theorem walk {H : Type} {enc : TypeId × Value → H} {W : World} {base : Nat} {v0 : Value} {d0 : DataW H} {p0 : List MemPlace} (g0 : Arg enc Try.prog W base 24 v0 d0 p0) :
    Calls Try.prog 3 #[v0] W fun e w' => e = .returned (.bool true) ∧ Below W.heap.size W w' := by
  obtain ⟨maker, seq, A, c, l, rfl, _, hl, hL⟩ := arg_batch g0
  exact body W maker seq hL (Nat.le_refl _) hl
end Go.Proofs.Ytennddlihcamnaa.lawRecordChecks
