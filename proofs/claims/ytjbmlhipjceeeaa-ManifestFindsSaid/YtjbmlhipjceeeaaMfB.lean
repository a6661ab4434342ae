/- Numbers, keys, marks and owners: are they right? Of the program and of the document (chapter 13). -/
import Derived.Test.YtjbmlhipjceeeaaProg
import Derived.Test.YtjbmlhipjceeeaaMfA
namespace Go.Proofs.Ytjbmlhipjceeeaa.Mf
open Go.RowKit Go.Proofs.Ytjbmlhipjceeeaa

theorem numB_t {n l : Int} (h : l ≤ n) (h' : n < 1099511627776) : numB n l = true := by unfold numB; rw [dct h, dct h']; rfl
theorem numB_f {n l : Int} (h : ¬ l ≤ n) : numB n l = false := by unfold numB; rw [dcf h]; rfl
theorem numB_f2 {n l : Int} (h' : ¬ n < 1099511627776) : numB n l = false := by unfold numB; rw [dcf h', Bool.and_false]
theorem numB_iff {n l : Int} : numB n l = true ↔ l ≤ n ∧ n < 1099511627776 := by unfold numB; simp
theorem num_calls (n l : Int) (w : World) : Calls Try.prog 33 #[.int .i64 n, .int .i64 l] w fun e w' => e = .returned (.bool (numB n l)) ∧ w' = w := by
  by_cases e0 : l ≤ n
  · have te0 : decide (l ≤ n) = true := dct e0
    by_cases e1 : n < 1099511627776
    · have te1 : decide (n < 1099511627776) = true := dct e1
      have HV := Lib.hid (numB_t e0 e1)
      clear e0 e1
      go_enter Try.func33, Try.ntmps33
      go_wp2
      go_ret
      exact ⟨by rw [HV.out]; rfl, rfl⟩
    · have te1 : decide (n < 1099511627776) = false := dcf e1
      have HV : Hid (numB n l = false) := Lib.hid (by first | exact numB_f e1 | exact numB_f2 e1)
      (try clear e0); (try clear e1)
      go_enter Try.func33, Try.ntmps33
      go_wp2
      go_ret
      exact ⟨by rw [HV.out]; rfl, rfl⟩
  · have te0 : decide (l ≤ n) = false := dcf e0
    have HV : Hid (numB n l = false) := Lib.hid (by first | exact numB_f e0 | exact numB_f2 e0)
    (try clear e0); (try clear e1)
    go_enter Try.func33, Try.ntmps33
    go_wp2
    go_ret
    exact ⟨by rw [HV.out]; rfl, rfl⟩

/-! ### marks and owners -/
theorem mark_calls (x : Mk) (w : World) : Calls Try.prog 38 #[.agg #[.int .i64 x.maker, .int .i64 x.seq]] w fun e w' => e = .returned (.bool (mkB x)) ∧ Below w.heap.size w w' := by
  have HN := Lib.hid fun W => num_calls x.seq 1 W
  have HD : Hid (mkB x = (decide (1 ≤ x.maker) && decide (x.maker ≤ 64) && numB x.seq 1)) := Lib.hid rfl
  have HB : Hid (Below w.heap.size w (w.alloc (.cells #[.int .i64 x.maker, .int .i64 x.seq] 50))) := Lib.hid ((Below.refl _ _).alloc (Nat.le_refl _) _)
  generalize mkB x = out at *
  generalize numB x.seq 1 = b at *
  by_cases e0 : 1 ≤ x.maker
  · have te0 : decide (1 ≤ x.maker) = true := dct e0
    by_cases e1 : x.maker ≤ 64
    · have te1 : decide (x.maker ≤ 64) = true := dct e1
      have HV : Hid (out = b) := Lib.hid (by rw [HD.out, te0, te1]; rfl)
      go_enter Try.func38, Try.ntmps38
      go_wp2_with (go_at_call 33; refine (HN.out _).mono ?_; rintro e w1 ⟨rfl, rfl⟩)
      go_ret
      exact ⟨by rw [HV.out]; rfl, HB.out⟩
    · have te1 : decide (x.maker ≤ 64) = false := dcf e1
      have HV : Hid (out = false) := Lib.hid (by rw [HD.out, te1]; simp)
      go_enter Try.func38, Try.ntmps38
      go_wp2
      go_ret
      exact ⟨by rw [HV.out]; rfl, HB.out⟩
  · have te0 : decide (1 ≤ x.maker) = false := dcf e0
    have HV : Hid (out = false) := Lib.hid (by rw [HD.out, te0]; simp)
    go_enter Try.func38, Try.ntmps38
    go_wp2
    go_ret
    exact ⟨by rw [HV.out]; rfl, HB.out⟩
theorem owner_calls (x : Ow) (w : World) : Calls Try.prog 40 #[.agg #[.int .i64 x.agent, .int .i64 x.life, .int .i64 x.count]] w fun e w' => e = .returned (.bool (owB x)) ∧ Below w.heap.size w w' := by
  have HN := Lib.hid fun n l W => num_calls n l W
  have HD : Hid (owB x = (decide (1 ≤ x.agent) && decide (x.agent ≤ 8) && numB x.life 1 && numB x.count 1)) := Lib.hid rfl
  have HB : Hid (Below w.heap.size w (w.alloc (.cells #[.int .i64 x.agent, .int .i64 x.life, .int .i64 x.count] 29))) := Lib.hid ((Below.refl _ _).alloc (Nat.le_refl _) _)
  generalize owB x = out at *
  by_cases e0 : 1 ≤ x.agent
  · have te0 : decide (1 ≤ x.agent) = true := dct e0
    by_cases e1 : x.agent ≤ 8
    · have te1 : decide (x.agent ≤ 8) = true := dct e1
      by_cases e2 : numB x.life 1 = true
      · have te2 : numB x.life 1 = true := e2
        have HV : Hid (out = numB x.count 1) := Lib.hid (by rw [HD.out, te0, te1, te2]; rfl)
        clear e2
        go_enter Try.func40, Try.ntmps40
        go_wp2_with (go_at_call 33; refine (HN.out _ _ _).mono ?_; rintro e w1 ⟨rfl, rfl⟩)
        go_ret
        exact ⟨by rw [HV.out]; rfl, HB.out⟩
      · have te2 : numB x.life 1 = false := by simpa using e2
        have HV : Hid (out = false) := Lib.hid (by rw [HD.out, te2]; simp)
        (try clear e2)
        go_enter Try.func40, Try.ntmps40
        go_wp2_with (go_at_call 33; refine (HN.out _ _ _).mono ?_; rintro e w1 ⟨rfl, rfl⟩)
        go_ret
        exact ⟨by rw [HV.out]; rfl, HB.out⟩
    · have te1 : decide (x.agent ≤ 8) = false := dcf e1
      have HV : Hid (out = false) := Lib.hid (by rw [HD.out, te1]; simp)
      (try clear e2)
      go_enter Try.func40, Try.ntmps40
      go_wp2_with (go_at_call 33; refine (HN.out _ _ _).mono ?_; rintro e w1 ⟨rfl, rfl⟩)
      go_ret
      exact ⟨by rw [HV.out]; rfl, HB.out⟩
  · have te0 : decide (1 ≤ x.agent) = false := dcf e0
    have HV : Hid (out = false) := Lib.hid (by rw [HD.out, te0]; simp)
    (try clear e2)
    go_enter Try.func40, Try.ntmps40
    go_wp2_with (go_at_call 33; refine (HN.out _ _ _).mono ?_; rintro e w1 ⟨rfl, rfl⟩)
    go_ret
    exact ⟨by rw [HV.out]; rfl, HB.out⟩
end Go.Proofs.Ytjbmlhipjceeeaa.Mf
