/- Labels (chapter 8): Right of both; Same; Twin; few. -/
import Derived.Test.YtennddlihcamnaaLabA
namespace Go.Proofs.Ytennddlihcamnaa
set_option linter.unusedVariables false
set_option linter.unusedSimpArgs false
open Go.RowKit

def lessB (a b : ByteArray) : Bool := Op.bytesLess a.toList b.toList
theorem lessB_trans {a b c : ByteArray} (h1 : lessB a b = true) (h2 : lessB b c = true) : lessB a c = true := by
  unfold lessB at *
  rw [bytesLess_eq, decide_eq_true_iff] at *
  exact List.lt_trans h1 h2
def okL (l : List Lab) (i : Nat) : Prop := nameB (labAt l i).1 = true ∧ (labAt l i).2.size ≤ 16 ∧ (0 < i → lessB (labAt l (i - 1)).1 (labAt l i).1 = true)
instance (l : List Lab) (i : Nat) : Decidable (okL l i) := by unfold okL; infer_instance
def rightP (l : List Lab) : Prop := l.length ≤ 4 ∧ ∀ i, i < l.length → okL l i
instance (l : List Lab) : Decidable (rightP l) := by unfold rightP; infer_instance
def rightB (l : List Lab) : Bool := decide (rightP l)
theorem rightB_yes {l : List Lab} (h : rightP l) : rightB l = true := decide_eq_true h
theorem rightB_no {l : List Lab} (h : ¬ rightP l) : rightB l = false := decide_eq_false h
theorem right_bad {l : List Lab} {k : Nat} (hk : k < l.length) (h : ¬ okL l k) : rightB l = false := rightB_no fun h' => h (h'.2 k hk)
theorem okL_step {l : List Lab} {k : Nat} (h : ∀ i, i < k → okL l i) (ho : okL l k) : ∀ i, i < k + 1 → okL l i := fun i hi => by
  rcases Nat.lt_or_ge i k with h1 | h1
  · exact h i h1
  · obtain rfl : i = k := by omega
    exact ho
theorem chain {l : List Lab} : ∀ i, (∀ j, j ≤ i → okL l j) → ∀ k, k < i → lessB (labAt l k).1 (labAt l i).1 = true
  | 0, _, k, hk => absurd hk (by omega)
  | i + 1, h, k, hk => by
    have h1 := (h (i + 1) (Nat.le_refl _)).2.2 (by omega)
    rw [Nat.add_sub_cancel] at h1
    rcases Nat.lt_or_ge k i with h2 | h2
    · exact lessB_trans (chain i (fun j hj => h j (by omega)) k h2) h1
    · obtain rfl : k = i := by omega
      exact h1
theorem chain_bad {l : List Lab} {i k : Nat} (hi : i < l.length) (hk : k < i) (h : lessB (labAt l k).1 (labAt l i).1 = false) : rightB l = false := rightB_no fun h' => by
  have := chain i (fun j hj => h'.2 j (by omega)) k hk
  rw [h] at this; cases this
set_option maxRecDepth 100000 in
set_option maxHeartbeats 1600000 in
theorem right_calls (w : World) {B c : Nat} {A : Option Addr} {l : List Lab} (h : Labs w B A l) (hB : B ≤ w.heap.size) (hf : Fit l) (hn : l.length ≤ 140737488355328) :
    Calls Try.prog 30 #[.slice A l.length c] w fun e w' => e = .returned (.bool (rightB l)) ∧ Below w.heap.size w w' := by
  have HF := Lib.hid (fit_at hf)
  clear hf
  go_enter Try.func30, Try.ntmps30
  go_wp2
  go_loopw [7] (fun i wr => ∃ k : Nat, k ≤ l.length ∧ i = .int .i64 (k : Int) ∧ Hid (∀ i, i < k → okL l i) ∧ Below w.heap.size w wr) (fun i _ => l.length - (intOf i).toNat)
  case atStart => exact ⟨0, Nat.zero_le _, rfl, Lib.hid fun i hi => absurd hi (by omega), Below.refl _ _⟩
  case round =>
    obtain ⟨k, hk, rfl, hall, hbel⟩ := hrel
    by_cases hlt : k < l.length
    · obtain ⟨b, off, rfl, hbB, hcell⟩ := (h.below (hbel.mono hB)).cellAt (show 0 < l.length by omega)
      obtain ⟨c0, c1⟩ := hcell k hlt
      have hsz := hbel.size
      obtain ⟨f0, f1⟩ := HF.out k
      have hN := fun W => name_calls (labAt l k).1 W f0
      have i0 : (0 : Int) ≤ (k : Int) := by omega
      have i9 : (k : Int) < (l.length : Int) := by omega
      by_cases hnm : nameB (labAt l k).1 = true
      · rw [hnm] at hN
        have HN := Lib.hid hN
        clear hN
        by_cases hv : (labAt l k).2.size ≤ 16
        · have v1 : ¬ (16 : Int) < ((labAt l k).2.size : Int) := by omega
          have v2 : decide ((16 : Int) < ((labAt l k).2.size : Int)) = false := dcf v1
          rcases Nat.eq_zero_or_pos k with hk0 | hk0
          · have Hok := Lib.hid (okL_step hall.out ⟨hnm, hv, fun h => by omega⟩)
            have k1 : ¬ (0 : Int) < (k : Int) := by omega
            have k2 : decide (0 < k) = false := dcf (by omega)
            clear hcell hnm hk0
            generalize labAt l k = x at *
            go_wp2_with fail
            go_quiet ((go_at_call 48; exact quiet_left (HN.out _)))
            go_wp2
            go_roundw
            case rel => exact ⟨k + 1, by omega, by go_num, Hok, below_drewN_ (hbel.alloc hsz _) _⟩
            case measure => simp [intOf]; omega
          · obtain ⟨d0, _⟩ := hcell (k - 1) (by omega)
            have k1 : (0 : Int) < (k : Int) := by omega
            have k2 : decide (0 < k) = true := dct hk0
            have j1 : (1 : Int) ≤ (k : Int) := by omega
            have j2 : (0 : Int) ≤ (k : Int) - 1 := by omega
            have j3 : (k : Int) - 1 < (l.length : Int) := by omega
            have j4 : ((k : Int) - 1).toNat = k - 1 := by omega
            have j5 : IntKind.i64.wrap ((k : Int) - 1) = (k : Int) - 1 := IntWalk.i64_in _ (by omega)
            have hbw : b < wr.heap.size := by omega
            have d1 : (wr.alloc (.cells #[.string (labAt l k).1, .string (labAt l k).2] 39)).cell? ⟨b, off + (k - 1) * 2, none⟩ = some (.string (labAt l (k - 1)).1) := (World.cell?_alloc_lt _ _ _ hbw).trans d0
            by_cases hls : lessB (labAt l (k - 1)).1 (labAt l k).1 = true
            · have Hok := Lib.hid (okL_step hall.out ⟨hnm, hv, fun _ => hls⟩)
              have q : Op.bytesLess (labAt l (k - 1)).1.toList (labAt l k).1.toList = true := hls
              clear hcell hnm hk0 hls d0
              generalize labAt l (k - 1) = y at *
              generalize labAt l k = x at *
              go_wp2_with fail
              go_quiet ((go_at_call 48; exact quiet_left (HN.out _)))
              clear j5
              go_wp2
              go_roundw
              case rel => exact ⟨k + 1, by omega, by go_num, Hok, below_drewN_ (hbel.alloc hsz _) _⟩
              case measure => simp [intOf]; omega
            · have hls' : lessB (labAt l (k - 1)).1 (labAt l k).1 = false := by simpa using hls
              have Hno := Lib.hid (right_bad hlt (fun ho => hls (ho.2.2 hk0)))
              have q : Op.bytesLess (labAt l (k - 1)).1.toList (labAt l k).1.toList = false := hls'
              clear hcell hnm hk0 hls hls' d0
              generalize labAt l (k - 1) = y at *
              generalize labAt l k = x at *
              go_wp2_with fail
              go_quiet ((go_at_call 48; exact quiet_left (HN.out _)))
              clear j5
              go_wp2
              go_ret
              exact ⟨by rw [Hno.out]; rfl, below_drewN_ (hbel.alloc hsz _) _⟩
        · have Hno := Lib.hid (right_bad hlt (fun ho => hv ho.2.1))
          have v1 : (16 : Int) < ((labAt l k).2.size : Int) := by omega
          have v2 : decide ((16 : Int) < ((labAt l k).2.size : Int)) = true := dct v1
          clear hcell hnm hv
          generalize labAt l k = x at *
          go_wp2_with fail
          go_quiet ((go_at_call 48; exact quiet_left (HN.out _)))
          go_wp2
          go_ret
          exact ⟨by rw [Hno.out]; rfl, below_drewN_ (hbel.alloc hsz _) _⟩
      · have Hno := Lib.hid (right_bad hlt (fun ho => hnm ho.1))
        rw [show nameB (labAt l k).1 = false by simpa using hnm] at hN
        have HN := Lib.hid hN
        clear hN hcell hnm
        generalize labAt l k = x at *
        go_wp2_with fail
        go_quiet ((go_at_call 48; exact quiet_left (HN.out _)))
        go_wp2
        go_ret
        exact ⟨by rw [Hno.out]; rfl, below_drewN_ (hbel.alloc hsz _) _⟩
    · obtain rfl : k = l.length := by omega
      have hH : (l.length ≤ 4 ∧ rightB l = true) ∨ (¬ l.length ≤ 4 ∧ rightB l = false) := by
        by_cases h1 : l.length ≤ 4
        · exact .inl ⟨h1, rightB_yes ⟨h1, hall.out⟩⟩
        · exact .inr ⟨h1, rightB_no fun h => h1 h.1⟩
      rcases hH with ⟨h1, h3⟩ | ⟨h1, h3⟩
      all_goals
        have H3 := Lib.hid h3
        clear h3
        try (have d4 : decide ((l.length : Int) ≤ 4) = true := dct (by omega))
        try (have e4 : decide ((l.length : Int) ≤ 4) = false := dcf (by omega))
        go_wp2
        go_ret
        exact ⟨by rw [H3.out]; rfl, hbel⟩

set_option maxRecDepth 100000 in
set_option maxHeartbeats 1600000 in
theorem rightR_calls (w : World) {B c : Nat} {A : Option Addr} {l : List Lab} (h : Labs w B A l) (hf : Fit l) (hn : l.length ≤ 140737488355328) :
    Calls Try.prog 31 #[.slice A l.length c] w fun e w' => e = .returned (.bool (rightB l)) ∧ Below w.heap.size w w' := by
  have HF := Lib.hid (fit_at hf)
  clear hf
  by_cases h4 : 4 < l.length
  · have Hno := Lib.hid (rightB_no (l := l) fun h => by have := h.1; omega)
    go_enter Try.func31, Try.ntmps31
    go_wp2
    go_ret
    exact ⟨by rw [Hno.out]; rfl, Below.refl _ _⟩
  · go_enter Try.func31, Try.ntmps31
    go_wp2
    go_loopw [10] (fun i wr => ∃ k n : Nat, k ≤ l.length ∧ i = .int .i64 (k : Int) ∧ Hid (∀ i, i < k → okL l i) ∧ wr = w.drewN n) (fun i _ => l.length - (intOf i).toNat)
    case atStart => exact ⟨0, 0, Nat.zero_le _, rfl, Lib.hid fun i hi => absurd hi (by omega), rfl⟩
    case round =>
      obtain ⟨k, n, hk, rfl, hall, rfl⟩ := hrel
      by_cases hlt : k < l.length
      · obtain ⟨b, off, rfl, hbB, hcell⟩ := h.cellAt (show 0 < l.length by omega)
        obtain ⟨c0, c1⟩ := hcell k hlt
        obtain ⟨f0, f1⟩ := HF.out k
        have hN := fun W => nameR_calls (labAt l k).1 W f0
        have i0 : (0 : Int) ≤ (k : Int) := by omega
        have i9 : (k : Int) < (l.length : Int) := by omega
        by_cases hnm : nameB (labAt l k).1 = true
        · rw [hnm] at hN
          have HN := Lib.hid hN
          clear hN
          by_cases hv : (labAt l k).2.size ≤ 16
          · have v1 : ¬ (16 : Int) < ((labAt l k).2.size : Int) := by omega
            go_wp2_with fail
            refine (HN.out _).mono ?_
            rintro e w' ⟨rfl, rfl⟩
            go_wp2
            go_loopw [4] (fun i wr => ∃ j m : Nat, j ≤ k ∧ i = .int .i64 (j : Int) ∧ Hid (∀ i, i < j → lessB (labAt l i).1 (labAt l k).1 = true) ∧ wr = w.drewN m) (fun i _ => k - (intOf i).toNat)
            case atStart => exact ⟨0, n, Nat.zero_le _, rfl, Lib.hid fun i hi => absurd hi (by omega), rfl⟩
            case round =>
              obtain ⟨j, m, hj, rfl, hless, rfl⟩ := hrel
              by_cases hjk : j < k
              · obtain ⟨d0, _⟩ := hcell j (by omega)
                have j0 : (0 : Int) ≤ (j : Int) := by omega
                have j9 : (j : Int) < (l.length : Int) := by omega
                by_cases hls : lessB (labAt l j).1 (labAt l k).1 = true
                · have Hstep : Hid (∀ i, i < j + 1 → lessB (labAt l i).1 (labAt l k).1 = true) := Lib.hid fun i hi => by
                    rcases Nat.lt_or_ge i j with h1 | h1
                    · exact hless.out i h1
                    · obtain rfl : i = j := by omega
                      exact hls
                  have q : Op.bytesLess (labAt l j).1.toList (labAt l k).1.toList = true := hls
                  clear hls
                  go_wp2_with fail
                  go_quiet (fail)
                  go_wp2
                  go_roundw
                  case rel => exact ⟨j + 1, m + nq, by omega, by go_num, Hstep, by simp⟩
                  case measure => simp [intOf]; omega
                · have hls' : lessB (labAt l j).1 (labAt l k).1 = false := by simpa using hls
                  have Hno := Lib.hid (chain_bad hlt hjk hls')
                  have q : Op.bytesLess (labAt l j).1.toList (labAt l k).1.toList = false := hls'
                  clear hls hls'
                  go_wp2_with fail
                  go_quiet (fail)
                  go_wp2
                  go_ret
                  exact ⟨by rw [Hno.out]; rfl, below_drewN_ (below_drewN_ (Below.refl _ _) _) _⟩
              · obtain rfl : j = k := by omega
                have Hok := Lib.hid (okL_step hall.out ⟨hnm, hv, fun h => hless.out (j - 1) (by omega)⟩)
                go_wp2
                go_roundw
                case rel => exact ⟨j + 1, m, by omega, by go_num, Hok, rfl⟩
                case measure => simp [intOf]; omega
          · have Hno := Lib.hid (right_bad hlt (fun ho => hv ho.2.1))
            have v1 : (16 : Int) < ((labAt l k).2.size : Int) := by omega
            clear hcell hnm hv
            generalize labAt l k = x at *
            go_wp2_with fail
            refine (HN.out _).mono ?_
            rintro e w' ⟨rfl, rfl⟩
            go_wp2
            go_ret
            exact ⟨by rw [Hno.out]; rfl, below_drewN_ (Below.refl _ _) _⟩
        · have Hno := Lib.hid (right_bad hlt (fun ho => hnm ho.1))
          rw [show nameB (labAt l k).1 = false by simpa using hnm] at hN
          have HN := Lib.hid hN
          clear hN hcell hnm
          generalize labAt l k = x at *
          go_wp2_with fail
          refine (HN.out _).mono ?_
          rintro e w' ⟨rfl, rfl⟩
          go_wp2
          go_ret
          exact ⟨by rw [Hno.out]; rfl, below_drewN_ (Below.refl _ _) _⟩
      · obtain rfl : k = l.length := by omega
        have H3 := Lib.hid (rightB_yes ⟨by omega, hall.out⟩)
        go_wp2
        go_ret
        exact ⟨by rw [H3.out]; rfl, below_drewN_ (Below.refl _ _) _⟩
end Go.Proofs.Ytennddlihcamnaa
