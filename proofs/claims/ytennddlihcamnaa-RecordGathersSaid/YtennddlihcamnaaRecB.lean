/- Records: Right of both (chapter 9). -/
import Derived.Test.YtennddlihcamnaaProg
import Derived.Test.YtennddlihcamnaaRecN
import Derived.Test.YtennddlihcamnaaLabB
namespace Go.Proofs.Ytennddlihcamnaa
set_option linter.unusedVariables false
set_option linter.unusedSimpArgs false
open Go.RowKit

def recP (r : Rec) : Prop := 0 ≤ r.time ∧ r.time < 1099511627776 ∧ rightB r.labs = true ∧
  ((r.kind = 1 ∧ r.text.size ≤ 200 ∧ r.value = 0 ∧ r.null = false) ∨ (r.kind = 2 ∧ r.text.size = 0 ∧ -1152921504606846976 ≤ r.value ∧ r.value ≤ 1152921504606846976 ∧ (r.null = false ∨ r.value = 0)))
instance (r : Rec) : Decidable (recP r) := by unfold recP; infer_instance
def recB (r : Rec) : Bool := decide (recP r)
theorem emptyS (v : ByteArray) : v.toList.isEmpty = decide (v.size = 0) := by
  have h : (v.toList == (⟨#[]⟩ : ByteArray).toList) = decide (v.size = 0) := by
    rw [bytes_eqd]
    by_cases h : v.size = 0
    · rw [dct h]
      refine dct (ByteArray.ext (Array.toList_inj.1 ?_))
      have : v.data.toList.length = 0 := by rw [Array.length_toList]; exact h
      exact List.eq_nil_of_length_eq_zero this
    · rw [dcf h]
      exact dcf fun e => h (by rw [e]; rfl)
  simpa using h

/-- The ways in which a record is none or is one. -/
theorem rec_cases (r : Rec) :
    (recB r = false ∧ (r.time < 0 ∨ (0 ≤ r.time ∧ 1099511627776 ≤ r.time))) ∨
    (0 ≤ r.time ∧ r.time < 1099511627776 ∧
      ((recB r = false ∧ rightB r.labs = false) ∨ (rightB r.labs = true ∧
        ((recB r = false ∧ r.kind ≠ 1 ∧ r.kind ≠ 2) ∨
         (r.kind = 1 ∧ ((recB r = false ∧ 200 < r.text.size) ∨ (recB r = false ∧ r.text.size ≤ 200 ∧ r.value ≠ 0) ∨ (recB r = false ∧ r.text.size ≤ 200 ∧ r.value = 0 ∧ r.null = true) ∨ (recB r = true ∧ r.text.size ≤ 200 ∧ r.value = 0 ∧ r.null = false))) ∨
         (r.kind = 2 ∧ ((recB r = false ∧ r.text.size ≠ 0) ∨ (recB r = false ∧ r.text.size = 0 ∧ r.value < -1152921504606846976) ∨ (recB r = false ∧ r.text.size = 0 ∧ 1152921504606846976 < r.value) ∨
            (recB r = false ∧ r.text.size = 0 ∧ -1152921504606846976 ≤ r.value ∧ r.value ≤ 1152921504606846976 ∧ r.value ≠ 0 ∧ r.null = true) ∨ (recB r = true ∧ r.text.size = 0 ∧ -1152921504606846976 ≤ r.value ∧ r.value ≤ 1152921504606846976 ∧ r.null = false) ∨
            (recB r = true ∧ r.text.size = 0 ∧ r.value = 0 ∧ r.null = true))))))) := by
  have ht : recB r = true ↔ recP r := decide_eq_true_iff
  have hf : recB r = false ↔ ¬ recP r := decide_eq_false_iff_not
  rw [ht, hf]
  unfold recP
  cases rightB r.labs <;> cases r.null <;> simp only [Bool.true_eq_false, Bool.false_eq_true, false_and, and_false, and_true, true_and, false_or, or_false, not_false_iff, true_or, or_true] <;> omega
set_option maxRecDepth 100000 in
set_option maxHeartbeats 3200000 in
theorem recRight_calls (w : World) {B : Nat} (r : Rec) (h : r.ok w B) (hB : B ≤ w.heap.size) :
    Calls Try.prog 10 #[r.agg] w fun e w' => e = .returned (.bool (recB r)) ∧ Below w.heap.size w w' := by
  have hc := rec_cases r
  have hlb := h.labs.below ((Below.refl B w).alloc hB (.cells #[.int .i64 r.kind, .int .i64 r.time, .slice r.A r.labs.length r.c, .string r.text, .int .i64 r.value, .bool r.null] 28))
  have hcall := right_calls (c := r.c) _ hlb (by simp; omega) h.fit (by have := h.len; omega)
  have htx := h.text
  have hq := emptyS r.text
  unfold Rec.agg
  clear hlb h
  obtain ⟨kind, time, A, c, labs, text, value, null⟩ := r
  simp only at hc hcall htx hq ⊢
  generalize hrb : recB ⟨kind, time, A, c, labs, text, value, null⟩ = rb at *
  generalize rightB labs = lb at *
  clear hrb
  rcases hc with ⟨rfl, h | ⟨h0, h⟩⟩ | ⟨h0, h1, ⟨rfl, rfl⟩ | ⟨rfl, ⟨rfl, k1, k2⟩ | ⟨rfl, ⟨rfl, h⟩ | ⟨rfl, h, h2⟩ | ⟨rfl, h, rfl, rfl⟩ | ⟨rfl, h, rfl, rfl⟩⟩ | ⟨rfl, ⟨rfl, h⟩ | ⟨rfl, h, h2⟩ | ⟨rfl, h, h2⟩ | ⟨rfl, h, h2, h3, h4, rfl⟩ | ⟨rfl, h, h2, h3, rfl⟩ | ⟨rfl, h, rfl, rfl⟩⟩⟩⟩
  all_goals
    have HC := Lib.hid hcall
    clear hcall
    try (rw [dct h] at hq)
    try (rw [dcf h] at hq)
    try (have t0 : decide (time < 0) = false := dcf (by omega))
    try (have t0 : decide (time < 0) = true := dct (by omega))
    try (have t1 : decide ((1099511627776 : Int) ≤ time) = false := dcf (by omega))
    try (have t1 : decide ((1099511627776 : Int) ≤ time) = true := dct (by omega))
    try (have t2 : decide ((1099511627775 : Int) < time) = false := dcf (by omega))
    try (have t2 : decide ((1099511627775 : Int) < time) = true := dct (by omega))
    try (have e1 := eqf k1)
    try (have e2 := eqf k2)
    try (have e3 := net k2)
    try (have d1 : decide ((text.size : Int) ≤ 200) = true := dct (by omega))
    try (have d1 : decide ((text.size : Int) ≤ 200) = false := dcf (by omega))
    try (have d2 : decide ((-1152921504606846976 : Int) ≤ value) = true := dct (by omega))
    try (have d2 : decide ((-1152921504606846976 : Int) ≤ value) = false := dcf (by omega))
    try (have d3 : decide (value ≤ (1152921504606846976 : Int)) = true := dct (by omega))
    try (have d3 : decide (value ≤ (1152921504606846976 : Int)) = false := dcf (by omega))
    try (have d4 : (value == 0) = false := eqf (by omega))
    try (have d5 : (value != 0) = true := net (by omega))
    go_enter Try.func10, Try.ntmps10
    go_wp2_with fail
    first
      | (go_ret
         exact ⟨rfl, (Below.refl _ _).alloc (Nat.le_refl _) _⟩)
      | skip
  all_goals
    refine HC.out.mono ?_
    rintro e w1 ⟨rfl, hb1⟩
    have hbx := (Blk.new w 28 _).below hb1 (by simp)
    have y0 := hbx.cell 0
    have y3 := hbx.cell 3
    have y4 := hbx.cell 4
    have y5 := hbx.cell 5
    simp only [List.getElem?_toArray, List.getElem?_cons_zero, List.getElem?_cons_succ] at y0 y3 y4 y5
    go_wp2
    all_goals
      go_ret
      exact ⟨rfl, ((Below.refl _ _).alloc (Nat.le_refl _) _).trans (hb1.mono (by simp))⟩

set_option maxRecDepth 100000 in
set_option maxHeartbeats 3200000 in
theorem recRightR_calls (w : World) {B : Nat} (r : Rec) (h : r.ok w B) (hB : B ≤ w.heap.size) :
    Calls Try.prog 11 #[r.agg] w fun e w' => e = .returned (.bool (recB r)) ∧ Below w.heap.size w w' := by
  have hc := rec_cases r
  have hlb := h.labs.below ((Below.refl B w).alloc hB (.cells #[.int .i64 r.kind, .int .i64 r.time, .slice r.A r.labs.length r.c, .string r.text, .int .i64 r.value, .bool r.null] 28))
  have hcall := rightR_calls (c := r.c) _ hlb h.fit (by have := h.len; omega)
  have htx := h.text
  have hq := emptyS r.text
  unfold Rec.agg
  clear hlb h
  obtain ⟨kind, time, A, c, labs, text, value, null⟩ := r
  simp only at hc hcall htx hq ⊢
  generalize hrb : recB ⟨kind, time, A, c, labs, text, value, null⟩ = rb at *
  generalize rightB labs = lb at *
  clear hrb
  rcases hc with ⟨rfl, h | ⟨h0, h⟩⟩ | ⟨h0, h1, ⟨rfl, rfl⟩ | ⟨rfl, ⟨rfl, k1, k2⟩ | ⟨rfl, ⟨rfl, h⟩ | ⟨rfl, h, h2⟩ | ⟨rfl, h, rfl, rfl⟩ | ⟨rfl, h, rfl, rfl⟩⟩ | ⟨rfl, ⟨rfl, h⟩ | ⟨rfl, h, h2⟩ | ⟨rfl, h, h2⟩ | ⟨rfl, h, h2, h3, h4, rfl⟩ | ⟨rfl, h, h2, h3, rfl⟩ | ⟨rfl, h, rfl, rfl⟩⟩⟩⟩
  all_goals
    have HC := Lib.hid hcall
    clear hcall
    try (rw [dct h] at hq)
    try (rw [dcf h] at hq)
    try (have t0 : decide (time < 0) = false := dcf (by omega))
    try (have t0 : decide (time < 0) = true := dct (by omega))
    try (have t1 : decide ((1099511627776 : Int) ≤ time) = false := dcf (by omega))
    try (have t1 : decide ((1099511627776 : Int) ≤ time) = true := dct (by omega))
    try (have t2 : decide ((1099511627775 : Int) < time) = false := dcf (by omega))
    try (have t2 : decide ((1099511627775 : Int) < time) = true := dct (by omega))
    try (have e1 := eqf k1)
    try (have e2 := eqf k2)
    try (have e3 := net k2)
    try (have d1 : decide ((text.size : Int) ≤ 200) = true := dct (by omega))
    try (have d1 : decide ((text.size : Int) ≤ 200) = false := dcf (by omega))
    try (have d2 : decide ((-1152921504606846976 : Int) ≤ value) = true := dct (by omega))
    try (have d2 : decide ((-1152921504606846976 : Int) ≤ value) = false := dcf (by omega))
    try (have d3 : decide (value ≤ (1152921504606846976 : Int)) = true := dct (by omega))
    try (have d3 : decide (value ≤ (1152921504606846976 : Int)) = false := dcf (by omega))
    try (have d4 : (value == 0) = false := eqf (by omega))
    try (have d5 : (value != 0) = true := net (by omega))
    go_enter Try.func11, Try.ntmps11
    go_wp2_with fail
    first
      | (go_ret
         exact ⟨rfl, (Below.refl _ _).alloc (Nat.le_refl _) _⟩)
      | skip
  all_goals
    refine HC.out.mono ?_
    rintro e w1 ⟨rfl, hb1⟩
    have hbx := (Blk.new w 28 _).below hb1 (by simp)
    have y0 := hbx.cell 0
    have y3 := hbx.cell 3
    have y4 := hbx.cell 4
    have y5 := hbx.cell 5
    simp only [List.getElem?_toArray, List.getElem?_cons_zero, List.getElem?_cons_succ] at y0 y3 y4 y5
    go_wp2
    all_goals
      go_ret
      exact ⟨rfl, ((Below.refl _ _).alloc (Nat.le_refl _) _).trans (hb1.mono (by simp))⟩
end Go.Proofs.Ytennddlihcamnaa
