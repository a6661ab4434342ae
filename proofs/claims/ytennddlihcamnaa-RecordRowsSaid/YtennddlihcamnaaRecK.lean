/- Equal rows of the reference: Compare, Same, SameRows (chapter 9). -/
import Derived.Test.YtennddlihcamnaaProg
import Derived.Test.YtennddlihcamnaaRecJ
import Derived.BigQuiet
namespace Go.Proofs.Ytennddlihcamnaa
open Go.RowKit

set_option maxRecDepth 100000 in
set_option maxHeartbeats 1600000 in
theorem cmp_same (w : World) (r1 r2 : Rec) (A1 A2 : Option Addr) (c1 c2 : Nat) (maker seq place : Int) (ht : r1.time = r2.time) :
    Calls Try.prog 21 #[.agg (r1.row A1 c1 maker seq place), .agg (r2.row A2 c2 maker seq place)] w fun e w' => e = .returned (.int .i64 0) ∧ Below w.heap.size w w' := by
  unfold Rec.row
  obtain ⟨k1, t1, _, _, l1, x1, v1, n1⟩ := r1
  obtain ⟨k2, t2, _, _, l2, x2, v2, n2⟩ := r2
  simp only at ht ⊢
  subst ht
  go_enter Try.func21, Try.ntmps21
  go_wp2
  go_loopw [28] (fun i wr => ∃ k : Nat, k ≤ 4 ∧ i = .int .i64 (k : Int) ∧ Blk wr (w.heap.size + 2) 65 #[.int .i64 t1, .int .i64 maker, .int .i64 seq, .int .i64 place] ∧ Blk wr (w.heap.size + 3) 65 #[.int .i64 t1, .int .i64 maker, .int .i64 seq, .int .i64 place] ∧ Below w.heap.size w wr) (fun i _ => 4 - (intOf i).toNat)
  case atStart =>
    refine ⟨0, Nat.zero_le _, rfl, ?_, ?_, ?_⟩
    · have h := (Blk.new ((w.alloc (.cells #[.int .i64 k1, .int .i64 t1, .slice A1 l1.length c1, .string x1, .int .i64 v1, .bool n1, .int .i64 maker, .int .i64 seq, .int .i64 place] 37)).alloc (.cells #[.int .i64 k2, .int .i64 t1, .slice A2 l2.length c2, .string x2, .int .i64 v2, .bool n2, .int .i64 maker, .int .i64 seq, .int .i64 place] 37)) 65 #[.int .i64 t1, .int .i64 maker, .int .i64 seq, .int .i64 place]).alloc (.cells #[.int .i64 t1, .int .i64 maker, .int .i64 seq, .int .i64 place] 65)
      simpa using h
    · have h := Blk.new (((w.alloc (.cells #[.int .i64 k1, .int .i64 t1, .slice A1 l1.length c1, .string x1, .int .i64 v1, .bool n1, .int .i64 maker, .int .i64 seq, .int .i64 place] 37)).alloc (.cells #[.int .i64 k2, .int .i64 t1, .slice A2 l2.length c2, .string x2, .int .i64 v2, .bool n2, .int .i64 maker, .int .i64 seq, .int .i64 place] 37)).alloc (.cells #[.int .i64 t1, .int .i64 maker, .int .i64 seq, .int .i64 place] 65)) 65 #[.int .i64 t1, .int .i64 maker, .int .i64 seq, .int .i64 place]
      simpa using h
    · exact ((((Below.refl w.heap.size w).alloc (Nat.le_refl _) _).alloc (by simp) _).alloc (by simp; omega) _).alloc (by simp; omega) _
  case round =>
    obtain ⟨k, hk, rfl, hb1, hb2, hbel⟩ := hrel
    by_cases hlt : k < 4
    · obtain ⟨v, hv⟩ : ∃ v : Int, (#[Value.int .i64 t1, Value.int .i64 maker, Value.int .i64 seq, Value.int .i64 place] : Array Value)[k]? = some (.int .i64 v) := by
        have : k = 0 ∨ k = 1 ∨ k = 2 ∨ k = 3 := by omega
        rcases this with rfl | rfl | rfl | rfl <;> exact ⟨_, rfl⟩
      have y1 := (hb1.cell k).trans hv
      have y2 := (hb2.cell k).trans hv
      have i0 : (0 : Int) ≤ (k : Int) := by omega
      have i9 : (k : Int) < 4 := by omega
      have i8 : k < 4 := hlt
      have vv : decide (v < v) = false := dcf (by omega)
      clear hv
      go_wp2_with fail
      go_quiet (fail)
      go_wp2_with fail
      go_quiet (fail)
      go_wp2
      go_roundw
      case rel => exact ⟨k + 1, by omega, by go_num, hb1.drewN _, hb2.drewN _, below_drewN_ hbel _⟩
      case measure => simp [intOf]; omega
    · obtain rfl : k = 4 := by omega
      go_wp2
      go_ret
      exact ⟨rfl, hbel⟩

set_option maxRecDepth 100000 in
set_option maxHeartbeats 1600000 in
theorem same_same (w : World) {B1 B2 : Nat} (r : Rec) (A1 A2 : Option Addr) (c1 c2 : Nat) (maker seq place : Int) (h1 : Labs w B1 A1 r.labs) (h2 : Labs w B2 A2 r.labs) (hB1 : B1 ≤ w.heap.size) (hB2 : B2 ≤ w.heap.size) (hn : r.labs.length ≤ 4398046511104) :
    Calls Try.prog 23 #[.agg (r.row A1 c1 maker seq place), .agg (r.row A2 c2 maker seq place)] w fun e w' => e = .returned (.bool true) ∧ Below w.heap.size w w' := by
  have HC := Lib.hid fun W => cmp_same W r r A1 A2 c1 c2 maker seq place rfl
  unfold Rec.row at *
  obtain ⟨k1, t1, _, _, l1, x1, v1, n1⟩ := r
  simp only at HC h1 h2 hn ⊢
  have hb1 := (Blk.new w 37 #[.int .i64 k1, .int .i64 t1, .slice A1 l1.length c1, .string x1, .int .i64 v1, .bool n1, .int .i64 maker, .int .i64 seq, .int .i64 place]).alloc (.cells #[.int .i64 k1, .int .i64 t1, .slice A2 l1.length c2, .string x1, .int .i64 v1, .bool n1, .int .i64 maker, .int .i64 seq, .int .i64 place] 37)
  have hb2 := Blk.new (w.alloc (.cells #[.int .i64 k1, .int .i64 t1, .slice A1 l1.length c1, .string x1, .int .i64 v1, .bool n1, .int .i64 maker, .int .i64 seq, .int .i64 place] 37)) 37 #[.int .i64 k1, .int .i64 t1, .slice A2 l1.length c2, .string x1, .int .i64 v1, .bool n1, .int .i64 maker, .int .i64 seq, .int .i64 place]
  rw [World.size_alloc] at hb2
  have hba := ((Below.refl w.heap.size w).alloc (Nat.le_refl _) (.cells #[.int .i64 k1, .int .i64 t1, .slice A1 l1.length c1, .string x1, .int .i64 v1, .bool n1, .int .i64 maker, .int .i64 seq, .int .i64 place] 37)).alloc (by simp) (.cells #[.int .i64 k1, .int .i64 t1, .slice A2 l1.length c2, .string x1, .int .i64 v1, .bool n1, .int .i64 maker, .int .i64 seq, .int .i64 place] 37)
  go_enter Try.func23, Try.ntmps23
  go_wp2_with fail
  refine (HC.out _).mono ?_
  rintro e w1 ⟨rfl, hb⟩
  have hbel := hba.trans (hb.mono (by simp; omega))
  have hx1 := hb1.below hb (by simp; omega)
  have hx2 := hb2.below hb (by simp)
  have g1 := (h1.below (hba.mono hB1)).below (hb.mono (by simp; omega))
  have g2 := (h2.below (hba.mono hB2)).below (hb.mono (by simp; omega))
  have y0 := hx1.cell 0
  have y2 := hx1.cell 2
  have y3 := hx1.cell 3
  have y4 := hx1.cell 4
  have y5 := hx1.cell 5
  have z0 := hx2.cell 0
  have z2 := hx2.cell 2
  have z3 := hx2.cell 3
  have z4 := hx2.cell 4
  have z5 := hx2.cell 5
  simp only [List.getElem?_toArray, List.getElem?_cons_zero, List.getElem?_cons_succ] at y0 y2 y3 y4 y5 z0 z2 z3 z4 z5
  have hs := sameR_calls w1 (c1 := c1) (c2 := c2) g1 g2 (by omega) (by omega)
  rw [show sameB l1 l1 = true from dct rfl] at hs
  have HS := Lib.hid hs
  have e1 : (k1 == k1) = true := beq_self_eq_true _
  have e2 : (v1 == v1) = true := beq_self_eq_true _
  have e3 : (n1 == n1) = true := beq_self_eq_true _
  clear hs g1 g2 h1 h2 hb hba hb1 hb2
  go_wp2_with fail
  refine HS.out.mono ?_
  rintro e w2 ⟨rfl, hb3⟩
  go_wp2
  go_ret
  exact ⟨rfl, hbel.trans (hb3.mono hbel.size)⟩
end Go.Proofs.Ytennddlihcamnaa
