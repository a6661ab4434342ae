/- Keys and entries: are they right? Of the program and of the document (chapter 13). -/
import Derived.Test.YtjbmlhipjceeeaaProg
import Derived.Test.YtjbmlhipjceeeaaMfB
import Derived.Test.YtjbmlhipjceeeaaMParE
import Derived.Test.YtjbmlhipjceeeaaMParH
import Derived.IntWalk
namespace Go.Proofs.Ytjbmlhipjceeeaa.Mf
open Go.RowKit Go.Proofs.Ytjbmlhipjceeeaa

theorem keyB_yes {s : ByteArray} (h : KeyP s) : keyB s = true := decide_eq_true h
theorem keyB_no {s : ByteArray} (h : ¬ KeyP s) : keyB s = false := decide_eq_false h
theorem key_step {s : ByteArray} {k : Nat} {c : UInt8} (h : ∀ i, i < k → okK (Lb.at8 s i)) (hc : c = Lb.at8 s k) (ho : okK c) : ∀ i, i < k + 1 → okK (Lb.at8 s i) := by
  intro i hi
  rcases Nat.lt_or_ge i k with h1 | h1
  · exact h i h1
  · obtain rfl : i = k := by omega
    rw [← hc]; exact ho
theorem key_bad {s : ByteArray} {k : Nat} {c : UInt8} (hk : k < s.size) (hc : c = Lb.at8 s k) (ho : ¬ okK c) : keyB s = false := keyB_no fun h => ho (by rw [hc]; exact h.2.2 k hk)

set_option maxRecDepth 100000 in
set_option maxHeartbeats 800000 in
theorem key_calls (s : ByteArray) (w : World) (hs : s.size ≤ 140737488351232) :
    Calls Try.prog 41 #[.string s] w fun e w' => e = .returned (.bool (keyB s)) ∧ w' = w := by
  go_enter Try.func41, Try.ntmps41
  go_wp2
  go_loop [6] (fun i => ∃ k : Nat, k ≤ s.size ∧ i = .int .i64 (k : Int) ∧ Hid (∀ i, i < k → okK (Lb.at8 s i))) (fun i => s.size - (intOf i).toNat)
  case atStart => exact ⟨0, Nat.zero_le _, rfl, Lib.hid fun i hi => absurd hi (by omega)⟩
  case round =>
    obtain ⟨k, hk, rfl, hall⟩ := hrel
    by_cases hlt : k < s.size
    · have hc := Lib.hid (Lb.at8_eq hlt)
      obtain ⟨c, hcd⟩ : ∃ c, c = s[k] := ⟨_, rfl⟩
      rw [← hcd] at hc
      have hcase : (okK c ∧ decide ((c.toNat : Int) < 33) = false ∧ decide ((126 : Int) < (c.toNat : Int)) = false) ∨ (¬ okK c ∧ decide ((c.toNat : Int) < 33) = true) ∨ (¬ okK c ∧ decide ((c.toNat : Int) < 33) = false ∧ decide ((126 : Int) < (c.toNat : Int)) = true) := by
        unfold okK
        simp only [decide_eq_true_eq, decide_eq_false_iff_not]
        omega
      subst hcd
      rcases hcase with ⟨ho, d1, d2⟩ | ⟨ho, d1⟩ | ⟨ho, d1, d2⟩
      · have Hn := Lib.hid (key_step hall.out hc.out ho)
        clear ho
        go_wp2
        go_round
        case rel => exact ⟨k + 1, by omega, by go_num, Hn⟩
        case measure => simp [intOf]; omega
      all_goals
        have Hn := Lib.hid (key_bad hlt hc.out ho)
        clear ho
        go_wp2
        go_ret
        exact ⟨by rw [Hn.out]; rfl, rfl⟩
    · obtain rfl : k = s.size := by omega
      have hH : (1 ≤ s.size ∧ s.size ≤ 40 ∧ keyB s = true) ∨ (¬ 1 ≤ s.size ∧ keyB s = false) ∨ (1 ≤ s.size ∧ ¬ s.size ≤ 40 ∧ keyB s = false) := by
        by_cases h1 : 1 ≤ s.size
        · by_cases h2 : s.size ≤ 40
          · exact .inl ⟨h1, h2, keyB_yes ⟨h1, h2, hall.out⟩⟩
          · exact .inr (.inr ⟨h1, h2, keyB_no fun h => h2 h.2.1⟩)
        · exact .inr (.inl ⟨h1, keyB_no fun h => h1 h.1⟩)
      rcases hH with ⟨h1, h2, h3⟩ | ⟨h1, h3⟩ | ⟨h1, h2, h3⟩
      all_goals
        have H3 := Lib.hid h3
        clear h3
        try (have d8 : decide ((s.size : Int) ≤ 40) = true := dct (by omega))
        try (have e8 : decide ((s.size : Int) ≤ 40) = false := dcf (by omega))
        go_wp2
        go_ret
        exact ⟨by rw [H3.out]; rfl, rfl⟩


/-! ### what a word says -/
theorem parB_iff {s : ByteArray} : parB s = true ↔ ∃ l, Lb.ParP s.data.toList l := by unfold parB; simp
theorem par_yes (s : ByteArray) (w : World) (hs : s.size ≤ 100000) (hm : Sh w) (h : parB s = true) :
    Calls Try.prog 55 #[.string s] w fun e w' => (∃ v, e = .returned (.tuple #[v, .int .i64 0])) ∧ Below w.heap.size w w' := by
  refine (Lb.parse_calls s w hs hm).mono ?_
  rintro e w' (⟨l, A, c, rfl, -, -, hb⟩ | ⟨-, hn, -⟩)
  · exact ⟨⟨_, rfl⟩, hb⟩
  · obtain ⟨l, hl⟩ := parB_iff.1 h
    exact absurd hl (hn l)
theorem par_no (s : ByteArray) (w : World) (hs : s.size ≤ 100000) (hm : Sh w) (h : parB s = false) :
    Calls Try.prog 55 #[.string s] w fun e w' => (∃ v, e = .returned (.tuple #[v, .int .i64 4])) ∧ Below w.heap.size w w' := by
  refine (Lb.parse_calls s w hs hm).mono ?_
  rintro e w' (⟨l, A, c, rfl, hp, -, hb⟩ | ⟨rfl, -, hb⟩)
  · rw [parB_iff.2 ⟨l, hp⟩] at h; cases h
  · exact ⟨⟨_, rfl⟩, hb⟩
end Go.Proofs.Ytjbmlhipjceeeaa.Mf
