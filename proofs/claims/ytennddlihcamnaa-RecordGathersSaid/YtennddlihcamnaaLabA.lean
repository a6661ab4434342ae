/- Labels (chapter 8): how they lie in memory; names; Right of both. -/
import Derived.Test.YtennddlihcamnaaProg
import Derived.Test.YtennddlihcamnaaLabM
import Derived.IntWalk
import Derived.Sort.Walk0
namespace Go.Proofs.Ytennddlihcamnaa
set_option linter.unusedVariables false
set_option linter.unusedSimpArgs false
open Go.RowKit

/-! ### names -/
def at8 (s : ByteArray) (i : Nat) : UInt8 := s.data.toList.getD i 0
theorem at8_eq {s : ByteArray} {k : Nat} (h : k < s.size) : s[k] = at8 s k := by
  have h2 : k < s.data.toList.length := by rw [Array.length_toList]; exact h
  unfold at8
  rw [List.getD, List.getElem?_eq_getElem h2]
  rfl
def letterB (c : UInt8) : Bool := decide ((97 ≤ c.toNat ∧ c.toNat ≤ 122) ∨ (48 ≤ c.toNat ∧ c.toNat ≤ 57) ∨ c.toNat = 95)
def okC (i : Nat) (c : UInt8) : Prop := (97 ≤ c.toNat ∧ c.toNat ≤ 122) ∨ (0 < i ∧ ((48 ≤ c.toNat ∧ c.toNat ≤ 57) ∨ c.toNat = 95))
instance (i : Nat) (c : UInt8) : Decidable (okC i c) := by unfold okC; infer_instance
def nameP (s : ByteArray) : Prop := 1 ≤ s.size ∧ s.size ≤ 8 ∧ ∀ i, i < s.size → okC i (at8 s i)
instance (s : ByteArray) : Decidable (nameP s) := by unfold nameP; infer_instance
def nameB (s : ByteArray) : Bool := decide (nameP s)
theorem nameB_yes {s : ByteArray} (h : nameP s) : nameB s = true := decide_eq_true h
theorem nameB_no {s : ByteArray} (h : ¬ nameP s) : nameB s = false := decide_eq_false h
theorem name_step {s : ByteArray} {k : Nat} {c : UInt8} (h : ∀ i, i < k → okC i (at8 s i)) (hc : c = at8 s k) (ho : okC k c) : ∀ i, i < k + 1 → okC i (at8 s i) := by
  intro i hi
  rcases Nat.lt_or_ge i k with h1 | h1
  · exact h i h1
  · obtain rfl : i = k := by omega
    rw [← hc]; exact ho
theorem name_bad {s : ByteArray} {k : Nat} {c : UInt8} (hk : k < s.size) (hc : c = at8 s k) (ho : ¬ okC k c) : nameB s = false := nameB_no fun h => ho (by rw [hc]; exact h.2.2 k hk)

set_option maxRecDepth 100000 in
set_option maxHeartbeats 800000 in
theorem name_calls (s : ByteArray) (w : World) (hs : s.size ≤ 140737488351232) :
    Calls Try.prog 48 #[.string s] w fun e w' => e = .returned (.bool (nameB s)) ∧ w = w' := by
  go_enter Try.func48, Try.ntmps48
  go_wp2
  go_loop [7] (fun i => ∃ k : Nat, k ≤ s.size ∧ i = .int .i64 (k : Int) ∧ Hid (∀ i, i < k → okC i (at8 s i))) (fun i => s.size - (intOf i).toNat)
  case atStart => exact ⟨0, Nat.zero_le _, rfl, Lib.hid fun i hi => absurd hi (by omega)⟩
  case round =>
    obtain ⟨k, hk, rfl, hall⟩ := hrel
    by_cases hlt : k < s.size
    · have hc := Lib.hid (at8_eq hlt)
      obtain ⟨c, hcd⟩ : ∃ c, c = s[k] := ⟨_, rfl⟩
      rw [← hcd] at hc
      have hcase : (okC k c ∧ ((97 ≤ (c.toNat : Int) ∧ (c.toNat : Int) ≤ 122) ∨ ((c.toNat : Int) < 97 ∧ 0 < k ∧ 48 ≤ (c.toNat : Int) ∧ (c.toNat : Int) ≤ 57) ∨ ((c.toNat : Int) < 97 ∧ 0 < k ∧ 48 ≤ (c.toNat : Int) ∧ 57 < (c.toNat : Int) ∧ ((c.toNat : Int) == 95) = true))) ∨
          (¬ okC k c ∧ (((c.toNat : Int) < 97 ∧ ¬ 0 < k) ∨ (97 ≤ (c.toNat : Int) ∧ 122 < (c.toNat : Int) ∧ ¬ 0 < k) ∨ ((c.toNat : Int) < 97 ∧ 0 < k ∧ (c.toNat : Int) < 48 ∧ ((c.toNat : Int) == 95) = false) ∨ ((c.toNat : Int) < 97 ∧ 0 < k ∧ 48 ≤ (c.toNat : Int) ∧ 57 < (c.toNat : Int) ∧ ((c.toNat : Int) == 95) = false) ∨ (97 ≤ (c.toNat : Int) ∧ 122 < (c.toNat : Int) ∧ 0 < k ∧ 48 ≤ (c.toNat : Int) ∧ 57 < (c.toNat : Int) ∧ ((c.toNat : Int) == 95) = false))) := by
        have e1 : ((c.toNat : Int) == 95) = true ↔ c.toNat = 95 := by rw [beq_iff_eq]; omega
        have e2 : ((c.toNat : Int) == 95) = false ↔ c.toNat ≠ 95 := by rw [beq_eq_false_iff_ne]; omega
        unfold okC
        rw [e1, e2]
        omega
      subst hcd
      rcases hcase with ⟨ho, h⟩ | ⟨ho, h⟩
      · have Hn := Lib.hid (name_step hall.out hc.out ho)
        clear ho
        rcases h with ⟨h1, h2⟩ | ⟨h1, h2, h3, h4⟩ | ⟨h1, h2, h3, h4, h5⟩
        all_goals
          try (have d122 : decide ((s[k].toNat : Int) ≤ 122) = true := dct (by omega))
          try (have e122 : decide ((s[k].toNat : Int) ≤ 122) = false := dcf (by omega))
          try (have d57 : decide ((s[k].toNat : Int) ≤ 57) = true := dct (by omega))
          try (have e57 : decide ((s[k].toNat : Int) ≤ 57) = false := dcf (by omega))
          go_wp2
          go_round
          case rel => exact ⟨k + 1, by omega, by go_num, Hn⟩
          case measure => simp [intOf]; omega
      · have Hn := Lib.hid (name_bad hlt hc.out ho)
        clear ho
        rcases h with ⟨h1, h2⟩ | ⟨h0, h1, h2⟩ | ⟨h1, h2, h3, h5⟩ | ⟨h1, h2, h3, h4, h5⟩ | ⟨h0, h1, h2, h3, h4, h5⟩
        all_goals
          try (have d122 : decide ((s[k].toNat : Int) ≤ 122) = true := dct (by omega))
          try (have e122 : decide ((s[k].toNat : Int) ≤ 122) = false := dcf (by omega))
          try (have d57 : decide ((s[k].toNat : Int) ≤ 57) = true := dct (by omega))
          try (have e57 : decide ((s[k].toNat : Int) ≤ 57) = false := dcf (by omega))
          go_wp2
          go_ret
          exact ⟨by rw [Hn.out]; rfl, rfl⟩
    · obtain rfl : k = s.size := by omega
      have hH : (1 ≤ s.size ∧ s.size ≤ 8 ∧ nameB s = true) ∨ (¬ 1 ≤ s.size ∧ nameB s = false) ∨ (1 ≤ s.size ∧ ¬ s.size ≤ 8 ∧ nameB s = false) := by
        by_cases h1 : 1 ≤ s.size
        · by_cases h2 : s.size ≤ 8
          · exact .inl ⟨h1, h2, nameB_yes ⟨h1, h2, hall.out⟩⟩
          · exact .inr (.inr ⟨h1, h2, nameB_no fun h => h2 h.2.1⟩)
        · exact .inr (.inl ⟨h1, nameB_no fun h => h1 h.1⟩)
      rcases hH with ⟨h1, h2, h3⟩ | ⟨h1, h3⟩ | ⟨h1, h2, h3⟩
      all_goals
        have H3 := Lib.hid h3
        clear h3
        try (have d8 : decide ((s.size : Int) ≤ 8) = true := dct (by omega))
        try (have e8 : decide ((s.size : Int) ≤ 8) = false := dcf (by omega))
        go_wp2
        go_ret
        exact ⟨by rw [H3.out]; rfl, rfl⟩

theorem letter_calls (c : UInt8) (w : World) : Calls Try.prog 66 #[.int .u8 (c.toNat : Int)] w fun e w' => e = .returned (.bool (letterB c)) ∧ w = w' := by
  have hcase : (letterB c = true ∧ ((97 ≤ (c.toNat : Int) ∧ (c.toNat : Int) ≤ 122) ∨ ((c.toNat : Int) < 97 ∧ 48 ≤ (c.toNat : Int) ∧ (c.toNat : Int) ≤ 57) ∨ ((c.toNat : Int) < 97 ∧ 48 ≤ (c.toNat : Int) ∧ 57 < (c.toNat : Int) ∧ ((c.toNat : Int) == 95) = true))) ∨
      (letterB c = false ∧ (((c.toNat : Int) < 97 ∧ (c.toNat : Int) < 48 ∧ ((c.toNat : Int) == 95) = false) ∨ ((c.toNat : Int) < 97 ∧ 48 ≤ (c.toNat : Int) ∧ 57 < (c.toNat : Int) ∧ ((c.toNat : Int) == 95) = false) ∨ (97 ≤ (c.toNat : Int) ∧ 122 < (c.toNat : Int) ∧ 48 ≤ (c.toNat : Int) ∧ 57 < (c.toNat : Int) ∧ ((c.toNat : Int) == 95) = false))) := by
    have e1 : ((c.toNat : Int) == 95) = true ↔ c.toNat = 95 := by rw [beq_iff_eq]; omega
    have e2 : ((c.toNat : Int) == 95) = false ↔ c.toNat ≠ 95 := by rw [beq_eq_false_iff_ne]; omega
    unfold letterB
    rw [decide_eq_true_iff, decide_eq_false_iff_not, e1, e2]
    omega
  rcases hcase with ⟨hl, h⟩ | ⟨hl, h⟩
  · have HL := Lib.hid hl
    clear hl
    rcases h with ⟨h1, h2⟩ | ⟨h1, h2, h3⟩ | ⟨h1, h2, h3, h4⟩
    all_goals
      try (have d122 : decide ((c.toNat : Int) ≤ 122) = true := dct (by omega))
      try (have e122 : decide ((c.toNat : Int) ≤ 122) = false := dcf (by omega))
      try (have d57 : decide ((c.toNat : Int) ≤ 57) = true := dct (by omega))
      try (have e57 : decide ((c.toNat : Int) ≤ 57) = false := dcf (by omega))
      go_enter Try.func66, Try.ntmps66
      go_wp2
      go_ret
      exact ⟨by rw [HL.out]; rfl, rfl⟩
  · have HL := Lib.hid hl
    clear hl
    rcases h with ⟨h1, h2, h3⟩ | ⟨h1, h2, h3, h4⟩ | ⟨h0, h1, h2, h3, h4⟩
    all_goals
      try (have d122 : decide ((c.toNat : Int) ≤ 122) = true := dct (by omega))
      try (have e122 : decide ((c.toNat : Int) ≤ 122) = false := dcf (by omega))
      try (have d57 : decide ((c.toNat : Int) ≤ 57) = true := dct (by omega))
      try (have e57 : decide ((c.toNat : Int) ≤ 57) = false := dcf (by omega))
      go_enter Try.func66, Try.ntmps66
      go_wp2
      go_ret
      exact ⟨by rw [HL.out]; rfl, rfl⟩

theorem okC_letter {i : Nat} {c : UInt8} (h : okC i c) : letterB c = true := by unfold okC at h; unfold letterB; rw [decide_eq_true_iff]; omega
theorem letter_okC {i : Nat} {c : UInt8} (hi : 0 < i) (h : letterB c = true) : okC i c := by unfold letterB at h; rw [decide_eq_true_iff] at h; unfold okC; omega

set_option maxRecDepth 100000 in
set_option maxHeartbeats 800000 in
theorem nameR_calls (s : ByteArray) (w : World) (hs : s.size ≤ 140737488351232) :
    Calls Try.prog 49 #[.string s] w fun e w' => e = .returned (.bool (nameB s)) ∧ w = w' := by
  by_cases h1 : 1 ≤ s.size
  · by_cases h2 : s.size ≤ 8
    · have hc := Lib.hid (at8_eq (show 0 < s.size by omega))
      by_cases haz : 97 ≤ (s[0].toNat : Int) ∧ (s[0].toNat : Int) ≤ 122
      · obtain ⟨a1, a2⟩ := haz
        have hok0 : okC 0 (at8 s 0) := by rw [← hc.out]; exact .inl (by omega)
        have hp : 0 < s.size := by omega
        go_enter Try.func49, Try.ntmps49
        have Hok0 := Lib.hid hok0
        clear hok0
        go_wp2
        go_loop [3] (fun i => ∃ k : Nat, k ≤ s.size ∧ i = .int .i64 (k : Int) ∧ Hid (∀ i, i < k → okC i (at8 s i))) (fun i => s.size - (intOf i).toNat)
        case atStart => exact ⟨0, Nat.zero_le _, rfl, Lib.hid fun i hi => absurd hi (by omega)⟩
        case round =>
          obtain ⟨k, hk, rfl, hall⟩ := hrel
          by_cases hlt : k < s.size
          · have hck := Lib.hid (at8_eq hlt)
            have hLT := letter_calls s[k] w
            by_cases hl : letterB s[k] = true
            · have ho : okC k s[k] := by
                rcases Nat.eq_zero_or_pos k with h0 | h0
                · subst h0; rw [hck.out]; exact Hok0.out
                · exact letter_okC h0 hl
              have Hn := Lib.hid (name_step hall.out hck.out ho)
              rw [hl] at hLT
              have HLT := Lib.hid hLT
              clear ho hl hLT
              go_wp2_with fail
              refine HLT.out.mono ?_
              rintro e w' ⟨rfl, rfl⟩
              go_wp2
              go_round
              case rel => exact ⟨k + 1, by omega, by go_num, Hn⟩
              case measure => simp [intOf]; omega
            · have Hn := Lib.hid (name_bad hlt hck.out (fun h => hl (okC_letter h)))
              rw [show letterB s[k] = false by simpa using hl] at hLT
              have HLT := Lib.hid hLT
              clear hl hLT
              go_wp2_with fail
              refine HLT.out.mono ?_
              rintro e w' ⟨rfl, rfl⟩
              go_wp2
              go_ret
              exact ⟨by rw [Hn.out]; rfl, rfl⟩
          · obtain rfl : k = s.size := by omega
            have Hn := Lib.hid (nameB_yes ⟨h1, h2, hall.out⟩)
            go_wp2
            go_ret
            exact ⟨by rw [Hn.out]; rfl, rfl⟩
      · have Hn := Lib.hid (name_bad (k := 0) (by omega) hc.out (fun h => haz (by unfold okC at h; omega)))
        have hz : (s[0].toNat : Int) < 97 ∨ (97 ≤ (s[0].toNat : Int) ∧ 122 < (s[0].toNat : Int)) := by omega
        have hp : 0 < s.size := by omega
        clear haz
        rcases hz with hz | ⟨hz, hz2⟩
        all_goals
          go_enter Try.func49, Try.ntmps49
          go_wp2
          go_ret
          exact ⟨by rw [Hn.out]; rfl, rfl⟩
    · have Hn := Lib.hid (nameB_no fun h => h2 h.2.1)
      go_enter Try.func49, Try.ntmps49
      go_wp2
      go_ret
      exact ⟨by rw [Hn.out]; rfl, rfl⟩
  · have Hn := Lib.hid (nameB_no fun h => h1 h.1)
    go_enter Try.func49, Try.ntmps49
    go_wp2
    go_ret
    exact ⟨by rw [Hn.out]; rfl, rfl⟩
end Go.Proofs.Ytennddlihcamnaa
