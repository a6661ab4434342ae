/- Same of both at rows. -/
import Derived.Test.YtennddlihcamnaaProg
import Derived.Test.YtennddlihcamnaaRwB
namespace Go.Proofs.Ytennddlihcamnaa
set_option linter.unusedVariables false
set_option linter.unusedSimpArgs false
open Go.RowKit Go.Proofs.Ytennddlihcamnaa.So

def sameRw (x y : Rw) : Prop := cfR x y = 0 ∧ x.kind = y.kind ∧ x.text = y.text ∧ x.value = y.value ∧ x.null = y.null ∧ x.labs = y.labs
instance (x y : Rw) : Decidable (sameRw x y) := by unfold sameRw; infer_instance
def sameRwB (x y : Rw) : Bool := decide (sameRw x y)

set_option maxRecDepth 100000 in
set_option maxHeartbeats 3200000 in
theorem sameRwR_calls (w : World) {B1 B2 : Nat} (x y : Rw) (h1 : Labs w B1 x.A x.labs) (h2 : Labs w B2 y.A y.labs) (hB1 : B1 ≤ w.heap.size) (hB2 : B2 ≤ w.heap.size) (hn1 : x.labs.length ≤ 4398046511104) (hn2 : y.labs.length ≤ 4398046511104) :
    Calls Try.prog 23 #[rwA x, rwA y] w fun e w' => e = .returned (.bool (sameRwB x y)) ∧ Below w.heap.size w w' := by
  have hno : ¬ sameRw x y → sameRwB x y = false := fun h => dcf h
  have HC := Lib.hid fun W => cmpRwR_calls W x y
  have HS := Lib.hid fun W (hW : Below w.heap.size w W) => sameR_calls W (c1 := x.cp) (c2 := y.cp) (h1.below (hW.mono hB1)) (h2.below (hW.mono hB2)) (by omega) (by omega)
  clear h1 h2
  unfold rwA at *
  have HNO := Lib.hid hno
  clear hno
  go_enter Try.func23, Try.ntmps23
  go_wp2_with fail
  refine (HC.out _).mono ?_
  rintro e w1 ⟨rfl, hb1⟩
  have hb01 : Below w.heap.size w w1 := (((Below.refl w.heap.size w).alloc (Nat.le_refl _) _).alloc (by simp) _).trans (hb1.mono (by simp; omega))
  have hbkx : Blk w1 w.heap.size 37 #[.int .i64 x.kind, .int .i64 x.time, .slice x.A x.labs.length x.cp, .string x.text, .int .i64 x.value, .bool x.null, .int .i64 x.maker, .int .i64 x.seq, .int .i64 x.place] := ((Blk.new w 37 #[.int .i64 x.kind, .int .i64 x.time, .slice x.A x.labs.length x.cp, .string x.text, .int .i64 x.value, .bool x.null, .int .i64 x.maker, .int .i64 x.seq, .int .i64 x.place]).alloc (.cells #[.int .i64 y.kind, .int .i64 y.time, .slice y.A y.labs.length y.cp, .string y.text, .int .i64 y.value, .bool y.null, .int .i64 y.maker, .int .i64 y.seq, .int .i64 y.place] 37)).below hb1 (by simp; omega)
  have hbky : Blk w1 (w.heap.size + 1) 37 #[.int .i64 y.kind, .int .i64 y.time, .slice y.A y.labs.length y.cp, .string y.text, .int .i64 y.value, .bool y.null, .int .i64 y.maker, .int .i64 y.seq, .int .i64 y.place] := by
    have := (Blk.new (w.alloc (.cells #[.int .i64 x.kind, .int .i64 x.time, .slice x.A x.labs.length x.cp, .string x.text, .int .i64 x.value, .bool x.null, .int .i64 x.maker, .int .i64 x.seq, .int .i64 x.place] 37)) 37 #[.int .i64 y.kind, .int .i64 y.time, .slice y.A y.labs.length y.cp, .string y.text, .int .i64 y.value, .bool y.null, .int .i64 y.maker, .int .i64 y.seq, .int .i64 y.place]).below hb1 (by simp)
    rw [World.size_alloc] at this
    exact this
  obtain ⟨p0, p1, p2, p3, p4, p5, p6, p7, p8⟩ := blk_nineR hbkx
  obtain ⟨q0, q1, q2, q3, q4, q5, q6, q7, q8⟩ := blk_nineR hbky
  have hs1 := hb01.size
  have HB1 := Lib.hid hb01
  clear hb1 hb01 hbkx hbky
  by_cases e0 : cfR x y = 0
  · by_cases e1 : x.kind = y.kind
    · by_cases e2 : x.text = y.text
      · by_cases e3 : x.value = y.value
        · by_cases e4 : x.null = y.null
          · have HV : Hid (sameRwB x y = sameB x.labs y.labs) := Lib.hid (by
              unfold sameRwB sameB
              rw [Bool.eq_iff_iff, decide_eq_true_iff, decide_eq_true_iff]
              exact ⟨fun h => h.2.2.2.2.2, fun h => ⟨e0, e1, e2, e3, e4, h⟩⟩)
            have t0 : (cfR x y == 0) = true := eqt e0
            have t1 : (x.kind == y.kind) = true := eqt e1
            have t2 : (x.text.toList == y.text.toList) = true := by rw [bytes_eqd]; exact dct e2
            have t3 : (x.value == y.value) = true := eqt e3
            have t4 : (x.null == y.null) = true := by rw [e4]; exact beq_self_eq_true _
            clear e0 e1 e2 e3 e4
            go_wp2_with fail
            refine (HS.out _ HB1.out).mono ?_
            rintro e w2 ⟨rfl, hb2⟩
            go_wp2
            go_ret
            exact ⟨by rw [HV.out]; rfl, HB1.out.trans (hb2.mono hs1)⟩
          · have HV := Lib.hid (HNO.out fun h => e4 h.2.2.2.2.1)
            have t0 : (cfR x y == 0) = true := eqt e0
            have t1 : (x.kind == y.kind) = true := eqt e1
            have t2 : (x.text.toList == y.text.toList) = true := by rw [bytes_eqd]; exact dct e2
            have t3 : (x.value == y.value) = true := eqt e3
            have t4 : (x.null == y.null) = false := by rw [beq_eq_false_iff_ne]; exact e4
            clear e0 e1 e2 e3 e4
            go_wp2
            go_ret
            exact ⟨by rw [HV.out]; rfl, HB1.out⟩
        · have HV := Lib.hid (HNO.out fun h => e3 h.2.2.2.1)
          have t0 : (cfR x y == 0) = true := eqt e0
          have t1 : (x.kind == y.kind) = true := eqt e1
          have t2 : (x.text.toList == y.text.toList) = true := by rw [bytes_eqd]; exact dct e2
          have t3 : (x.value == y.value) = false := eqf e3
          clear e0 e1 e2 e3
          go_wp2
          go_ret
          exact ⟨by rw [HV.out]; rfl, HB1.out⟩
      · have HV := Lib.hid (HNO.out fun h => e2 h.2.2.1)
        have t0 : (cfR x y == 0) = true := eqt e0
        have t1 : (x.kind == y.kind) = true := eqt e1
        have t2 : (x.text.toList == y.text.toList) = false := by rw [bytes_eqd]; exact dcf e2
        clear e0 e1 e2
        go_wp2
        go_ret
        exact ⟨by rw [HV.out]; rfl, HB1.out⟩
    · have HV := Lib.hid (HNO.out fun h => e1 h.2.1)
      have t0 : (cfR x y == 0) = true := eqt e0
      have t1 : (x.kind == y.kind) = false := eqf e1
      clear e0 e1
      go_wp2
      go_ret
      exact ⟨by rw [HV.out]; rfl, HB1.out⟩
  · have HV := Lib.hid (HNO.out fun h => e0 h.1)
    have t0 : (cfR x y == 0) = false := eqf e0
    clear e0
    go_wp2
    go_ret
    exact ⟨by rw [HV.out]; rfl, HB1.out⟩
end Go.Proofs.Ytennddlihcamnaa
