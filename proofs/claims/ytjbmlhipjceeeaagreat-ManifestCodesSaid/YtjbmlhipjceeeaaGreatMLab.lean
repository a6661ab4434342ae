/- Labels (chapter 8): how they lie in memory. Labels (chapter 8): how they lie in memory; names; Right of both. Labels (chapter 8): Right of both; Same; Twin; few. strings.Builder, made by the call itself: what it holds; copyCheck, WriteString, WriteByte, Write. Labels (chapter 8): a set's text, in plain Lean; plain; Byte of the reference. Labels (chapter 8): Text of the package. Labels (chapter 8): the reference's Byte, Value, Text; Same, Twin; the law's few and lives. Labels: Text of what is no set; Same, Twin, few, lives (chapter 8). Labels: Part of both, Get (chapter 8). -/
import Derived.Test.YtjbmlhipjceeeaaGreatProg
import Derived.Test.YtjbmlhipjceeeaaGreatMem
import Derived.Test.YtjbmlhipjceeeaaGreatShelf
import Derived.IntWalk
import Derived.Sort.Walk0
import Derived.Lib.Builder
import Derived.Lib.AppendStr
import Derived.Lib.UnsafeStr
import Derived.Laws.Externs
import Derived.Laws.BitsLemmas

namespace Go.Proofs.YtjbmlhipjceeeaaGreat.Lb
set_option linter.unusedVariables false
set_option linter.unusedSimpArgs false
open Go.RowKit

theorem quiet_left {P : Program} {f : FuncId} {args : Array Value} {w : World} {n : Nat} {v : Value}
    (h : Calls P f args (w.drewN n) fun e w' => e = .returned v ∧ w.drewN n = w') : Calls P f args (w.drewN n) fun e w'' => e = .returned v ∧ ∃ m, w'' = w.drewN m :=
  h.mono fun _ _ ⟨he, hm⟩ => ⟨he, n, hm.symm⟩
theorem quiet_add_left {P : Program} {f : FuncId} {args : Array Value} {w : World} {a n : Nat} {v : Value}
    (h : Calls P f args (w.drewN (a + n)) fun e w' => e = .returned v ∧ w.drewN (a + n) = w') :
    Calls P f args (w.drewN (a + n)) fun e w'' => e = .returned v ∧ ∃ m, w'' = w.drewN (a + m) :=
  h.mono fun _ _ ⟨he, hm⟩ => ⟨he, n, hm.symm⟩

/-! ### how labels lie in memory -/
/-- A label: its name, its value. -/
abbrev Lab := ByteArray × ByteArray
def labCells (l : List Lab) : List Value := l.flatMap fun x => [.string x.1, .string x.2]
theorem labCells_len (l : List Lab) : (labCells l).length = l.length * 2 := by
  induction l with
  | nil => rfl
  | cons x r ih => simp only [labCells, List.flatMap_cons, List.length_append, List.length_cons, List.length_nil] at ih ⊢; omega
theorem labCells_get : ∀ (l : List Lab) (i : Nat) (hi : i < l.length), (labCells l)[i * 2]? = some (.string l[i].1) ∧ (labCells l)[i * 2 + 1]? = some (.string l[i].2)
  | [], i, hi => absurd hi (by simp)
  | x :: r, 0, _ => ⟨rfl, rfl⟩
  | x :: r, i + 1, hi => by
    have h := labCells_get r i (by simpa using hi)
    have e1 : (i + 1) * 2 = i * 2 + 1 + 1 := by omega
    rw [e1]
    exact h
theorem labCells_app (l m : List Lab) : labCells (l ++ m) = labCells l ++ labCells m := by simp [labCells]
theorem labCells_one (l : List Lab) : ∀ u ∈ labCells l, u.oneCell' = true := by
  intro u hu
  obtain ⟨x, _, hu⟩ := List.mem_flatMap.1 hu
  simp at hu
  rcases hu with rfl | rfl <;> rfl
/-- A slice of labels reads. -/
def Labs (w : World) (B : Nat) (A : Option Addr) (l : List Lab) : Prop := Reads w B 2 A l.length (labCells l)
section
variable {w w' : World} {B B' : Nat} {A : Option Addr} {l : List Lab}
theorem Labs.below (h : Labs w B A l) (hb : Below B w w') : Labs w' B A l := Reads.below h hb
theorem Labs.more (h : Labs w B A l) (hb : B ≤ B') : Labs w B' A l := Reads.more h hb
theorem Labs.to (h : Labs w B A l) (hb : Below B w w') (hB : B ≤ B') : Labs w' B' A l := (h.below hb).more hB
theorem Labs.nil_ : Labs w B A [] := ⟨rfl, fun h => absurd h (by simp)⟩
theorem Labs.cell (h : Labs w B A l) (hp : 0 < l.length) : ∃ b off, A = some ⟨b, off, none⟩ ∧ b < B ∧ ∀ j (hj : j < l.length), w.cell? ⟨b, off + j * 2, none⟩ = some (.string l[j].1) ∧ w.cell? ⟨b, off + j * 2 + 1, none⟩ = some (.string l[j].2) := by
  obtain ⟨b, off, e, hb, hc⟩ := h.2 hp
  exact ⟨b, off, e, hb, fun j hj => ⟨hc _ _ (labCells_get l j hj).1, by rw [Nat.add_assoc]; exact hc _ _ (labCells_get l j hj).2⟩⟩
end
/-- All names and values are short enough to be counted. -/
def Fit (l : List Lab) : Prop := ∀ x ∈ l, x.1.size ≤ 140737488351232 ∧ x.2.size ≤ 140737488351232

def labAt (l : List Lab) (i : Nat) : Lab := l.getD i (ByteArray.empty, ByteArray.empty)
theorem labAt_eq {l : List Lab} {i : Nat} (h : i < l.length) : l[i] = labAt l i := by simp [labAt, List.getD, List.getElem?_eq_getElem h]
theorem fit_at {l : List Lab} (h : Fit l) (i : Nat) : (labAt l i).1.size ≤ 140737488351232 ∧ (labAt l i).2.size ≤ 140737488351232 := by
  rcases Nat.lt_or_ge i l.length with h1 | h1
  · rw [← labAt_eq h1]; exact h _ (List.getElem_mem h1)
  · have e : labAt l i = (ByteArray.empty, ByteArray.empty) := by simp [labAt, List.getD, List.getElem?_eq_none h1]
    rw [e]
    exact ⟨by simp, by simp⟩
theorem Labs.cellAt {w : World} {B : Nat} {A : Option Addr} {l : List Lab} (h : Labs w B A l) (hp : 0 < l.length) : ∃ b off, A = some ⟨b, off, none⟩ ∧ b < B ∧ ∀ j, j < l.length → w.cell? ⟨b, off + j * 2, none⟩ = some (.string (labAt l j).1) ∧ w.cell? ⟨b, off + j * 2 + 1, none⟩ = some (.string (labAt l j).2) := by
  obtain ⟨b, off, e, hb, hc⟩ := h.cell hp
  exact ⟨b, off, e, hb, fun j hj => by rw [← labAt_eq hj]; exact hc j hj⟩

end Go.Proofs.YtjbmlhipjceeeaaGreat.Lb

namespace Go.Proofs.YtjbmlhipjceeeaaGreat.Lb
set_option linter.unusedVariables false
set_option linter.unusedSimpArgs false
open Go.RowKit

/-! ### names -/
def at8 (s : ByteArray) (i : Nat) : UInt8 := s.data.toList.getD i 0
theorem at8_eq {s : ByteArray} {k : Nat} (h : k < s.size) : s[k] = at8 s k := by
  have h2 : k < s.data.toList.length := by rw [Array.length_toList]; exact h
  unfold at8
  rw [List.getD, List.getElem?_eq_getElem h2]
  rfl
def letterB (c : UInt8) : Bool := decide ((97 ≤ c.toNat ∧ c.toNat ≤ 122) ∨ (48 ≤ c.toNat ∧ c.toNat ≤ 57) ∨ c.toNat = 95)
def okC (i : Nat) (c : UInt8) : Prop := (97 ≤ c.toNat ∧ c.toNat ≤ 122) ∨ (0 < i ∧ ((48 ≤ c.toNat ∧ c.toNat ≤ 57) ∨ c.toNat = 95))
instance (i : Nat) (c : UInt8) : Decidable (okC i c) := by unfold okC; infer_instance
def nameP (s : ByteArray) : Prop := 1 ≤ s.size ∧ s.size ≤ 8 ∧ ∀ i, i < s.size → okC i (at8 s i)
instance (s : ByteArray) : Decidable (nameP s) := by unfold nameP; infer_instance
def nameB (s : ByteArray) : Bool := decide (nameP s)
theorem nameB_yes {s : ByteArray} (h : nameP s) : nameB s = true := decide_eq_true h
theorem nameB_no {s : ByteArray} (h : ¬ nameP s) : nameB s = false := decide_eq_false h
theorem name_step {s : ByteArray} {k : Nat} {c : UInt8} (h : ∀ i, i < k → okC i (at8 s i)) (hc : c = at8 s k) (ho : okC k c) : ∀ i, i < k + 1 → okC i (at8 s i) := by
  intro i hi
  rcases Nat.lt_or_ge i k with h1 | h1
  · exact h i h1
  · obtain rfl : i = k := by omega
    rw [← hc]; exact ho
theorem name_bad {s : ByteArray} {k : Nat} {c : UInt8} (hk : k < s.size) (hc : c = at8 s k) (ho : ¬ okC k c) : nameB s = false := nameB_no fun h => ho (by rw [hc]; exact h.2.2 k hk)

set_option maxRecDepth 100000 in
set_option maxHeartbeats 800000 in
theorem name_calls (s : ByteArray) (w : World) (hs : s.size ≤ 140737488351232) :
    Calls Tryz.prog 139 #[.string s] w fun e w' => e = .returned (.bool (nameB s)) ∧ w = w' := by
  go_enter Tryz.func139, Tryz.ntmps139
  go_wp2
  go_loop [7] (fun i => ∃ k : Nat, k ≤ s.size ∧ i = .int .i64 (k : Int) ∧ Hid (∀ i, i < k → okC i (at8 s i))) (fun i => s.size - (intOf i).toNat)
  case atStart => exact ⟨0, Nat.zero_le _, rfl, Lib.hid fun i hi => absurd hi (by omega)⟩
  case round =>
    obtain ⟨k, hk, rfl, hall⟩ := hrel
    by_cases hlt : k < s.size
    · have hc := Lib.hid (at8_eq hlt)
      obtain ⟨c, hcd⟩ : ∃ c, c = s[k] := ⟨_, rfl⟩
      rw [← hcd] at hc
      have hcase : (okC k c ∧ ((97 ≤ (c.toNat : Int) ∧ (c.toNat : Int) ≤ 122) ∨ ((c.toNat : Int) < 97 ∧ 0 < k ∧ 48 ≤ (c.toNat : Int) ∧ (c.toNat : Int) ≤ 57) ∨ ((c.toNat : Int) < 97 ∧ 0 < k ∧ 48 ≤ (c.toNat : Int) ∧ 57 < (c.toNat : Int) ∧ ((c.toNat : Int) == 95) = true))) ∨
          (¬ okC k c ∧ (((c.toNat : Int) < 97 ∧ ¬ 0 < k) ∨ (97 ≤ (c.toNat : Int) ∧ 122 < (c.toNat : Int) ∧ ¬ 0 < k) ∨ ((c.toNat : Int) < 97 ∧ 0 < k ∧ (c.toNat : Int) < 48 ∧ ((c.toNat : Int) == 95) = false) ∨ ((c.toNat : Int) < 97 ∧ 0 < k ∧ 48 ≤ (c.toNat : Int) ∧ 57 < (c.toNat : Int) ∧ ((c.toNat : Int) == 95) = false) ∨ (97 ≤ (c.toNat : Int) ∧ 122 < (c.toNat : Int) ∧ 0 < k ∧ 48 ≤ (c.toNat : Int) ∧ 57 < (c.toNat : Int) ∧ ((c.toNat : Int) == 95) = false))) := by
        have e1 : ((c.toNat : Int) == 95) = true ↔ c.toNat = 95 := by rw [beq_iff_eq]; omega
        have e2 : ((c.toNat : Int) == 95) = false ↔ c.toNat ≠ 95 := by rw [beq_eq_false_iff_ne]; omega
        unfold okC
        rw [e1, e2]
        omega
      subst hcd
      rcases hcase with ⟨ho, h⟩ | ⟨ho, h⟩
      · have Hn := Lib.hid (name_step hall.out hc.out ho)
        clear ho
        rcases h with ⟨h1, h2⟩ | ⟨h1, h2, h3, h4⟩ | ⟨h1, h2, h3, h4, h5⟩
        all_goals
          try (have d122 : decide ((s[k].toNat : Int) ≤ 122) = true := dct (by omega))
          try (have e122 : decide ((s[k].toNat : Int) ≤ 122) = false := dcf (by omega))
          try (have d57 : decide ((s[k].toNat : Int) ≤ 57) = true := dct (by omega))
          try (have e57 : decide ((s[k].toNat : Int) ≤ 57) = false := dcf (by omega))
          go_wp2
          go_round
          case rel => exact ⟨k + 1, by omega, by go_num, Hn⟩
          case measure => simp [intOf]; omega
      · have Hn := Lib.hid (name_bad hlt hc.out ho)
        clear ho
        rcases h with ⟨h1, h2⟩ | ⟨h0, h1, h2⟩ | ⟨h1, h2, h3, h5⟩ | ⟨h1, h2, h3, h4, h5⟩ | ⟨h0, h1, h2, h3, h4, h5⟩
        all_goals
          try (have d122 : decide ((s[k].toNat : Int) ≤ 122) = true := dct (by omega))
          try (have e122 : decide ((s[k].toNat : Int) ≤ 122) = false := dcf (by omega))
          try (have d57 : decide ((s[k].toNat : Int) ≤ 57) = true := dct (by omega))
          try (have e57 : decide ((s[k].toNat : Int) ≤ 57) = false := dcf (by omega))
          go_wp2
          go_ret
          exact ⟨by rw [Hn.out]; rfl, rfl⟩
    · obtain rfl : k = s.size := by omega
      have hH : (1 ≤ s.size ∧ s.size ≤ 8 ∧ nameB s = true) ∨ (¬ 1 ≤ s.size ∧ nameB s = false) ∨ (1 ≤ s.size ∧ ¬ s.size ≤ 8 ∧ nameB s = false) := by
        by_cases h1 : 1 ≤ s.size
        · by_cases h2 : s.size ≤ 8
          · exact .inl ⟨h1, h2, nameB_yes ⟨h1, h2, hall.out⟩⟩
          · exact .inr (.inr ⟨h1, h2, nameB_no fun h => h2 h.2.1⟩)
        · exact .inr (.inl ⟨h1, nameB_no fun h => h1 h.1⟩)
      rcases hH with ⟨h1, h2, h3⟩ | ⟨h1, h3⟩ | ⟨h1, h2, h3⟩
      all_goals
        have H3 := Lib.hid h3
        clear h3
        try (have d8 : decide ((s.size : Int) ≤ 8) = true := dct (by omega))
        try (have e8 : decide ((s.size : Int) ≤ 8) = false := dcf (by omega))
        go_wp2
        go_ret
        exact ⟨by rw [H3.out]; rfl, rfl⟩

theorem letter_calls (c : UInt8) (w : World) : Calls Tryz.prog 111 #[.int .u8 (c.toNat : Int)] w fun e w' => e = .returned (.bool (letterB c)) ∧ w = w' := by
  have hcase : (letterB c = true ∧ ((97 ≤ (c.toNat : Int) ∧ (c.toNat : Int) ≤ 122) ∨ ((c.toNat : Int) < 97 ∧ 48 ≤ (c.toNat : Int) ∧ (c.toNat : Int) ≤ 57) ∨ ((c.toNat : Int) < 97 ∧ 48 ≤ (c.toNat : Int) ∧ 57 < (c.toNat : Int) ∧ ((c.toNat : Int) == 95) = true))) ∨
      (letterB c = false ∧ (((c.toNat : Int) < 97 ∧ (c.toNat : Int) < 48 ∧ ((c.toNat : Int) == 95) = false) ∨ ((c.toNat : Int) < 97 ∧ 48 ≤ (c.toNat : Int) ∧ 57 < (c.toNat : Int) ∧ ((c.toNat : Int) == 95) = false) ∨ (97 ≤ (c.toNat : Int) ∧ 122 < (c.toNat : Int) ∧ 48 ≤ (c.toNat : Int) ∧ 57 < (c.toNat : Int) ∧ ((c.toNat : Int) == 95) = false))) := by
    have e1 : ((c.toNat : Int) == 95) = true ↔ c.toNat = 95 := by rw [beq_iff_eq]; omega
    have e2 : ((c.toNat : Int) == 95) = false ↔ c.toNat ≠ 95 := by rw [beq_eq_false_iff_ne]; omega
    unfold letterB
    rw [decide_eq_true_iff, decide_eq_false_iff_not, e1, e2]
    omega
  rcases hcase with ⟨hl, h⟩ | ⟨hl, h⟩
  · have HL := Lib.hid hl
    clear hl
    rcases h with ⟨h1, h2⟩ | ⟨h1, h2, h3⟩ | ⟨h1, h2, h3, h4⟩
    all_goals
      try (have d122 : decide ((c.toNat : Int) ≤ 122) = true := dct (by omega))
      try (have e122 : decide ((c.toNat : Int) ≤ 122) = false := dcf (by omega))
      try (have d57 : decide ((c.toNat : Int) ≤ 57) = true := dct (by omega))
      try (have e57 : decide ((c.toNat : Int) ≤ 57) = false := dcf (by omega))
      go_enter Tryz.func111, Tryz.ntmps111
      go_wp2
      go_ret
      exact ⟨by rw [HL.out]; rfl, rfl⟩
  · have HL := Lib.hid hl
    clear hl
    rcases h with ⟨h1, h2, h3⟩ | ⟨h1, h2, h3, h4⟩ | ⟨h0, h1, h2, h3, h4⟩
    all_goals
      try (have d122 : decide ((c.toNat : Int) ≤ 122) = true := dct (by omega))
      try (have e122 : decide ((c.toNat : Int) ≤ 122) = false := dcf (by omega))
      try (have d57 : decide ((c.toNat : Int) ≤ 57) = true := dct (by omega))
      try (have e57 : decide ((c.toNat : Int) ≤ 57) = false := dcf (by omega))
      go_enter Tryz.func111, Tryz.ntmps111
      go_wp2
      go_ret
      exact ⟨by rw [HL.out]; rfl, rfl⟩

theorem okC_letter {i : Nat} {c : UInt8} (h : okC i c) : letterB c = true := by unfold okC at h; unfold letterB; rw [decide_eq_true_iff]; omega
theorem letter_okC {i : Nat} {c : UInt8} (hi : 0 < i) (h : letterB c = true) : okC i c := by unfold letterB at h; rw [decide_eq_true_iff] at h; unfold okC; omega

set_option maxRecDepth 100000 in
set_option maxHeartbeats 800000 in
theorem nameR_calls (s : ByteArray) (w : World) (hs : s.size ≤ 140737488351232) :
    Calls Tryz.prog 135 #[.string s] w fun e w' => e = .returned (.bool (nameB s)) ∧ w = w' := by
  by_cases h1 : 1 ≤ s.size
  · by_cases h2 : s.size ≤ 8
    · have hc := Lib.hid (at8_eq (show 0 < s.size by omega))
      by_cases haz : 97 ≤ (s[0].toNat : Int) ∧ (s[0].toNat : Int) ≤ 122
      · obtain ⟨a1, a2⟩ := haz
        have hok0 : okC 0 (at8 s 0) := by rw [← hc.out]; exact .inl (by omega)
        have hp : 0 < s.size := by omega
        go_enter Tryz.func135, Tryz.ntmps135
        have Hok0 := Lib.hid hok0
        clear hok0
        go_wp2
        go_loop [3] (fun i => ∃ k : Nat, k ≤ s.size ∧ i = .int .i64 (k : Int) ∧ Hid (∀ i, i < k → okC i (at8 s i))) (fun i => s.size - (intOf i).toNat)
        case atStart => exact ⟨0, Nat.zero_le _, rfl, Lib.hid fun i hi => absurd hi (by omega)⟩
        case round =>
          obtain ⟨k, hk, rfl, hall⟩ := hrel
          by_cases hlt : k < s.size
          · have hck := Lib.hid (at8_eq hlt)
            have hLT := letter_calls s[k] w
            by_cases hl : letterB s[k] = true
            · have ho : okC k s[k] := by
                rcases Nat.eq_zero_or_pos k with h0 | h0
                · subst h0; rw [hck.out]; exact Hok0.out
                · exact letter_okC h0 hl
              have Hn := Lib.hid (name_step hall.out hck.out ho)
              rw [hl] at hLT
              have HLT := Lib.hid hLT
              clear ho hl hLT
              go_wp2_with fail
              refine HLT.out.mono ?_
              rintro e w' ⟨rfl, rfl⟩
              go_wp2
              go_round
              case rel => exact ⟨k + 1, by omega, by go_num, Hn⟩
              case measure => simp [intOf]; omega
            · have Hn := Lib.hid (name_bad hlt hck.out (fun h => hl (okC_letter h)))
              rw [show letterB s[k] = false by simpa using hl] at hLT
              have HLT := Lib.hid hLT
              clear hl hLT
              go_wp2_with fail
              refine HLT.out.mono ?_
              rintro e w' ⟨rfl, rfl⟩
              go_wp2
              go_ret
              exact ⟨by rw [Hn.out]; rfl, rfl⟩
          · obtain rfl : k = s.size := by omega
            have Hn := Lib.hid (nameB_yes ⟨h1, h2, hall.out⟩)
            go_wp2
            go_ret
            exact ⟨by rw [Hn.out]; rfl, rfl⟩
      · have Hn := Lib.hid (name_bad (k := 0) (by omega) hc.out (fun h => haz (by unfold okC at h; omega)))
        have hz : (s[0].toNat : Int) < 97 ∨ (97 ≤ (s[0].toNat : Int) ∧ 122 < (s[0].toNat : Int)) := by omega
        have hp : 0 < s.size := by omega
        clear haz
        rcases hz with hz | ⟨hz, hz2⟩
        all_goals
          go_enter Tryz.func135, Tryz.ntmps135
          go_wp2
          go_ret
          exact ⟨by rw [Hn.out]; rfl, rfl⟩
    · have Hn := Lib.hid (nameB_no fun h => h2 h.2.1)
      go_enter Tryz.func135, Tryz.ntmps135
      go_wp2
      go_ret
      exact ⟨by rw [Hn.out]; rfl, rfl⟩
  · have Hn := Lib.hid (nameB_no fun h => h1 h.1)
    go_enter Tryz.func135, Tryz.ntmps135
    go_wp2
    go_ret
    exact ⟨by rw [Hn.out]; rfl, rfl⟩
end Go.Proofs.YtjbmlhipjceeeaaGreat.Lb

namespace Go.Proofs.YtjbmlhipjceeeaaGreat.Lb
set_option linter.unusedVariables false
set_option linter.unusedSimpArgs false
open Go.RowKit

def lessB (a b : ByteArray) : Bool := Op.bytesLess a.toList b.toList
theorem lessB_trans {a b c : ByteArray} (h1 : lessB a b = true) (h2 : lessB b c = true) : lessB a c = true := by
  unfold lessB at *
  rw [bytesLess_eq, decide_eq_true_iff] at *
  exact List.lt_trans h1 h2
def okL (l : List Lab) (i : Nat) : Prop := nameB (labAt l i).1 = true ∧ (labAt l i).2.size ≤ 16 ∧ (0 < i → lessB (labAt l (i - 1)).1 (labAt l i).1 = true)
instance (l : List Lab) (i : Nat) : Decidable (okL l i) := by unfold okL; infer_instance
def rightP (l : List Lab) : Prop := l.length ≤ 4 ∧ ∀ i, i < l.length → okL l i
instance (l : List Lab) : Decidable (rightP l) := by unfold rightP; infer_instance
def rightB (l : List Lab) : Bool := decide (rightP l)
theorem rightB_yes {l : List Lab} (h : rightP l) : rightB l = true := decide_eq_true h
theorem rightB_no {l : List Lab} (h : ¬ rightP l) : rightB l = false := decide_eq_false h
theorem right_bad {l : List Lab} {k : Nat} (hk : k < l.length) (h : ¬ okL l k) : rightB l = false := rightB_no fun h' => h (h'.2 k hk)
theorem okL_step {l : List Lab} {k : Nat} (h : ∀ i, i < k → okL l i) (ho : okL l k) : ∀ i, i < k + 1 → okL l i := fun i hi => by
  rcases Nat.lt_or_ge i k with h1 | h1
  · exact h i h1
  · obtain rfl : i = k := by omega
    exact ho
theorem chain {l : List Lab} : ∀ i, (∀ j, j ≤ i → okL l j) → ∀ k, k < i → lessB (labAt l k).1 (labAt l i).1 = true
  | 0, _, k, hk => absurd hk (by omega)
  | i + 1, h, k, hk => by
    have h1 := (h (i + 1) (Nat.le_refl _)).2.2 (by omega)
    rw [Nat.add_sub_cancel] at h1
    rcases Nat.lt_or_ge k i with h2 | h2
    · exact lessB_trans (chain i (fun j hj => h j (by omega)) k h2) h1
    · obtain rfl : k = i := by omega
      exact h1
theorem chain_bad {l : List Lab} {i k : Nat} (hi : i < l.length) (hk : k < i) (h : lessB (labAt l k).1 (labAt l i).1 = false) : rightB l = false := rightB_no fun h' => by
  have := chain i (fun j hj => h'.2 j (by omega)) k hk
  rw [h] at this; cases this
set_option maxRecDepth 100000 in
set_option maxHeartbeats 1600000 in
theorem right_calls (w : World) {B c : Nat} {A : Option Addr} {l : List Lab} (h : Labs w B A l) (hB : B ≤ w.heap.size) (hf : Fit l) (hn : l.length ≤ 140737488355328) :
    Calls Tryz.prog 116 #[.slice A l.length c] w fun e w' => e = .returned (.bool (rightB l)) ∧ Below w.heap.size w w' := by
  have HF := Lib.hid (fit_at hf)
  clear hf
  go_enter Tryz.func116, Tryz.ntmps116
  go_wp2
  go_loopw [7] (fun i wr => ∃ k : Nat, k ≤ l.length ∧ i = .int .i64 (k : Int) ∧ Hid (∀ i, i < k → okL l i) ∧ Below w.heap.size w wr) (fun i _ => l.length - (intOf i).toNat)
  case atStart => exact ⟨0, Nat.zero_le _, rfl, Lib.hid fun i hi => absurd hi (by omega), Below.refl _ _⟩
  case round =>
    obtain ⟨k, hk, rfl, hall, hbel⟩ := hrel
    by_cases hlt : k < l.length
    · obtain ⟨b, off, rfl, hbB, hcell⟩ := (h.below (hbel.mono hB)).cellAt (show 0 < l.length by omega)
      obtain ⟨c0, c1⟩ := hcell k hlt
      have hsz := hbel.size
      obtain ⟨f0, f1⟩ := HF.out k
      have hN := fun W => name_calls (labAt l k).1 W f0
      have i0 : (0 : Int) ≤ (k : Int) := by omega
      have i9 : (k : Int) < (l.length : Int) := by omega
      by_cases hnm : nameB (labAt l k).1 = true
      · rw [hnm] at hN
        have HN := Lib.hid hN
        clear hN
        by_cases hv : (labAt l k).2.size ≤ 16
        · have v1 : ¬ (16 : Int) < ((labAt l k).2.size : Int) := by omega
          have v2 : decide ((16 : Int) < ((labAt l k).2.size : Int)) = false := dcf v1
          rcases Nat.eq_zero_or_pos k with hk0 | hk0
          · have Hok := Lib.hid (okL_step hall.out ⟨hnm, hv, fun h => by omega⟩)
            have k1 : ¬ (0 : Int) < (k : Int) := by omega
            have k2 : decide (0 < k) = false := dcf (by omega)
            clear hcell hnm hk0
            generalize labAt l k = x at *
            go_wp2_with fail
            go_quiet ((go_at_call 139; exact quiet_left (HN.out _)))
            go_wp2
            go_roundw
            case rel => exact ⟨k + 1, by omega, by go_num, Hok, below_drewN_ (hbel.alloc hsz _) _⟩
            case measure => simp [intOf]; omega
          · obtain ⟨d0, _⟩ := hcell (k - 1) (by omega)
            have k1 : (0 : Int) < (k : Int) := by omega
            have k2 : decide (0 < k) = true := dct hk0
            have j1 : (1 : Int) ≤ (k : Int) := by omega
            have j2 : (0 : Int) ≤ (k : Int) - 1 := by omega
            have j3 : (k : Int) - 1 < (l.length : Int) := by omega
            have j4 : ((k : Int) - 1).toNat = k - 1 := by omega
            have j5 : IntKind.i64.wrap ((k : Int) - 1) = (k : Int) - 1 := IntWalk.i64_in _ (by omega)
            have hbw : b < wr.heap.size := by omega
            have d1 : (wr.alloc (.cells #[.string (labAt l k).1, .string (labAt l k).2] 143)).cell? ⟨b, off + (k - 1) * 2, none⟩ = some (.string (labAt l (k - 1)).1) := (World.cell?_alloc_lt _ _ _ hbw).trans d0
            by_cases hls : lessB (labAt l (k - 1)).1 (labAt l k).1 = true
            · have Hok := Lib.hid (okL_step hall.out ⟨hnm, hv, fun _ => hls⟩)
              have q : Op.bytesLess (labAt l (k - 1)).1.toList (labAt l k).1.toList = true := hls
              clear hcell hnm hk0 hls d0
              generalize labAt l (k - 1) = y at *
              generalize labAt l k = x at *
              go_wp2_with fail
              go_quiet ((go_at_call 139; exact quiet_left (HN.out _)))
              clear j5
              go_wp2
              go_roundw
              case rel => exact ⟨k + 1, by omega, by go_num, Hok, below_drewN_ (hbel.alloc hsz _) _⟩
              case measure => simp [intOf]; omega
            · have hls' : lessB (labAt l (k - 1)).1 (labAt l k).1 = false := by simpa using hls
              have Hno := Lib.hid (right_bad hlt (fun ho => hls (ho.2.2 hk0)))
              have q : Op.bytesLess (labAt l (k - 1)).1.toList (labAt l k).1.toList = false := hls'
              clear hcell hnm hk0 hls hls' d0
              generalize labAt l (k - 1) = y at *
              generalize labAt l k = x at *
              go_wp2_with fail
              go_quiet ((go_at_call 139; exact quiet_left (HN.out _)))
              clear j5
              go_wp2
              go_ret
              exact ⟨by rw [Hno.out]; rfl, below_drewN_ (hbel.alloc hsz _) _⟩
        · have Hno := Lib.hid (right_bad hlt (fun ho => hv ho.2.1))
          have v1 : (16 : Int) < ((labAt l k).2.size : Int) := by omega
          have v2 : decide ((16 : Int) < ((labAt l k).2.size : Int)) = true := dct v1
          clear hcell hnm hv
          generalize labAt l k = x at *
          go_wp2_with fail
          go_quiet ((go_at_call 139; exact quiet_left (HN.out _)))
          go_wp2
          go_ret
          exact ⟨by rw [Hno.out]; rfl, below_drewN_ (hbel.alloc hsz _) _⟩
      · have Hno := Lib.hid (right_bad hlt (fun ho => hnm ho.1))
        rw [show nameB (labAt l k).1 = false by simpa using hnm] at hN
        have HN := Lib.hid hN
        clear hN hcell hnm
        generalize labAt l k = x at *
        go_wp2_with fail
        go_quiet ((go_at_call 139; exact quiet_left (HN.out _)))
        go_wp2
        go_ret
        exact ⟨by rw [Hno.out]; rfl, below_drewN_ (hbel.alloc hsz _) _⟩
    · obtain rfl : k = l.length := by omega
      have hH : (l.length ≤ 4 ∧ rightB l = true) ∨ (¬ l.length ≤ 4 ∧ rightB l = false) := by
        by_cases h1 : l.length ≤ 4
        · exact .inl ⟨h1, rightB_yes ⟨h1, hall.out⟩⟩
        · exact .inr ⟨h1, rightB_no fun h => h1 h.1⟩
      rcases hH with ⟨h1, h3⟩ | ⟨h1, h3⟩
      all_goals
        have H3 := Lib.hid h3
        clear h3
        try (have d4 : decide ((l.length : Int) ≤ 4) = true := dct (by omega))
        try (have e4 : decide ((l.length : Int) ≤ 4) = false := dcf (by omega))
        go_wp2
        go_ret
        exact ⟨by rw [H3.out]; rfl, hbel⟩

set_option maxRecDepth 100000 in
set_option maxHeartbeats 1600000 in
theorem rightR_calls (w : World) {B c : Nat} {A : Option Addr} {l : List Lab} (h : Labs w B A l) (hf : Fit l) (hn : l.length ≤ 140737488355328) :
    Calls Tryz.prog 113 #[.slice A l.length c] w fun e w' => e = .returned (.bool (rightB l)) ∧ Below w.heap.size w w' := by
  have HF := Lib.hid (fit_at hf)
  clear hf
  by_cases h4 : 4 < l.length
  · have Hno := Lib.hid (rightB_no (l := l) fun h => by have := h.1; omega)
    go_enter Tryz.func113, Tryz.ntmps113
    go_wp2
    go_ret
    exact ⟨by rw [Hno.out]; rfl, Below.refl _ _⟩
  · go_enter Tryz.func113, Tryz.ntmps113
    go_wp2
    go_loopw [10] (fun i wr => ∃ k n : Nat, k ≤ l.length ∧ i = .int .i64 (k : Int) ∧ Hid (∀ i, i < k → okL l i) ∧ wr = w.drewN n) (fun i _ => l.length - (intOf i).toNat)
    case atStart => exact ⟨0, 0, Nat.zero_le _, rfl, Lib.hid fun i hi => absurd hi (by omega), rfl⟩
    case round =>
      obtain ⟨k, n, hk, rfl, hall, rfl⟩ := hrel
      by_cases hlt : k < l.length
      · obtain ⟨b, off, rfl, hbB, hcell⟩ := h.cellAt (show 0 < l.length by omega)
        obtain ⟨c0, c1⟩ := hcell k hlt
        obtain ⟨f0, f1⟩ := HF.out k
        have hN := fun W => nameR_calls (labAt l k).1 W f0
        have i0 : (0 : Int) ≤ (k : Int) := by omega
        have i9 : (k : Int) < (l.length : Int) := by omega
        by_cases hnm : nameB (labAt l k).1 = true
        · rw [hnm] at hN
          have HN := Lib.hid hN
          clear hN
          by_cases hv : (labAt l k).2.size ≤ 16
          · have v1 : ¬ (16 : Int) < ((labAt l k).2.size : Int) := by omega
            go_wp2_with fail
            refine (HN.out _).mono ?_
            rintro e w' ⟨rfl, rfl⟩
            go_wp2
            go_loopw [4] (fun i wr => ∃ j m : Nat, j ≤ k ∧ i = .int .i64 (j : Int) ∧ Hid (∀ i, i < j → lessB (labAt l i).1 (labAt l k).1 = true) ∧ wr = w.drewN m) (fun i _ => k - (intOf i).toNat)
            case atStart => exact ⟨0, n, Nat.zero_le _, rfl, Lib.hid fun i hi => absurd hi (by omega), rfl⟩
            case round =>
              obtain ⟨j, m, hj, rfl, hless, rfl⟩ := hrel
              by_cases hjk : j < k
              · obtain ⟨d0, _⟩ := hcell j (by omega)
                have j0 : (0 : Int) ≤ (j : Int) := by omega
                have j9 : (j : Int) < (l.length : Int) := by omega
                by_cases hls : lessB (labAt l j).1 (labAt l k).1 = true
                · have Hstep : Hid (∀ i, i < j + 1 → lessB (labAt l i).1 (labAt l k).1 = true) := Lib.hid fun i hi => by
                    rcases Nat.lt_or_ge i j with h1 | h1
                    · exact hless.out i h1
                    · obtain rfl : i = j := by omega
                      exact hls
                  have q : Op.bytesLess (labAt l j).1.toList (labAt l k).1.toList = true := hls
                  clear hls
                  go_wp2_with fail
                  go_quiet (fail)
                  go_wp2
                  go_roundw
                  case rel => exact ⟨j + 1, m + nq, by omega, by go_num, Hstep, by simp⟩
                  case measure => simp [intOf]; omega
                · have hls' : lessB (labAt l j).1 (labAt l k).1 = false := by simpa using hls
                  have Hno := Lib.hid (chain_bad hlt hjk hls')
                  have q : Op.bytesLess (labAt l j).1.toList (labAt l k).1.toList = false := hls'
                  clear hls hls'
                  go_wp2_with fail
                  go_quiet (fail)
                  go_wp2
                  go_ret
                  exact ⟨by rw [Hno.out]; rfl, below_drewN_ (below_drewN_ (Below.refl _ _) _) _⟩
              · obtain rfl : j = k := by omega
                have Hok := Lib.hid (okL_step hall.out ⟨hnm, hv, fun h => hless.out (j - 1) (by omega)⟩)
                go_wp2
                go_roundw
                case rel => exact ⟨j + 1, m, by omega, by go_num, Hok, rfl⟩
                case measure => simp [intOf]; omega
          · have Hno := Lib.hid (right_bad hlt (fun ho => hv ho.2.1))
            have v1 : (16 : Int) < ((labAt l k).2.size : Int) := by omega
            clear hcell hnm hv
            generalize labAt l k = x at *
            go_wp2_with fail
            refine (HN.out _).mono ?_
            rintro e w' ⟨rfl, rfl⟩
            go_wp2
            go_ret
            exact ⟨by rw [Hno.out]; rfl, below_drewN_ (Below.refl _ _) _⟩
        · have Hno := Lib.hid (right_bad hlt (fun ho => hnm ho.1))
          rw [show nameB (labAt l k).1 = false by simpa using hnm] at hN
          have HN := Lib.hid hN
          clear hN hcell hnm
          generalize labAt l k = x at *
          go_wp2_with fail
          refine (HN.out _).mono ?_
          rintro e w' ⟨rfl, rfl⟩
          go_wp2
          go_ret
          exact ⟨by rw [Hno.out]; rfl, below_drewN_ (Below.refl _ _) _⟩
      · obtain rfl : k = l.length := by omega
        have H3 := Lib.hid (rightB_yes ⟨by omega, hall.out⟩)
        go_wp2
        go_ret
        exact ⟨by rw [H3.out]; rfl, below_drewN_ (Below.refl _ _) _⟩
end Go.Proofs.YtjbmlhipjceeeaaGreat.Lb

namespace Go.Proofs.YtjbmlhipjceeeaaGreat.Lb
set_option linter.unusedVariables false
set_option linter.unusedSimpArgs false
open Go.RowKit

theorem Tryz.infoU8b : (Tryz.prog.info? 5).map (fun i => (i.zero, i.size, i.bytes)) = some (some (.int .u8 0), 1, 1) := by kernel_rfl

/-- Every block that is neither b nor a row of bytes stands. -/
def Kept (b : Nat) (w w' : World) : Prop := ∀ k t cs fr, w.heap[k]? = some (.cells cs t fr) → t ≠ 5 → k ≠ b → w'.heap[k]? = w.heap[k]?
theorem Kept.refl (b : Nat) (w : World) : Kept b w w := fun _ _ _ _ _ _ _ => rfl
theorem Kept.trans {b : Nat} {u v w : World} (h : Kept b u v) (k : Kept b v w) : Kept b u w := fun i t cs fr h1 h2 h3 => by
  have e := h i t cs fr h1 h2 h3
  rw [← e, k i t cs fr (e.trans h1) h2 h3]
theorem Kept.blk {b g : Nat} {w w' : World} {t : TypeId} {cs : Array Value} (h : Kept b w w') (hb : Blk w g t cs) (ht : t ≠ 5) (hg : g ≠ b) : Blk w' g t cs := (h g t cs _ hb ht hg).trans hb
theorem Kept.setCell {b : Nat} {u w : World} (h : Kept b u w) (i : Nat) (x : Value) : Kept b u (w.setCell ⟨b, i, none⟩ x) := fun k t cs fr h1 h2 h3 => by
  rw [Below.heap_setCell w ⟨b, i, none⟩ x k h3]; exact h k t cs fr h1 h2 h3
theorem Kept.alloc {b : Nat} {u w : World} (h : Kept b u w) (hs : u.heap.size ≤ w.heap.size) (o : Obj) : Kept b u (w.alloc o) := fun k t cs fr h1 h2 h3 => by
  have hk : k < u.heap.size := by
    rcases Nat.lt_or_ge k u.heap.size with hlt | hge
    · exact hlt
    · rw [Array.getElem?_eq_none hge] at h1; cases h1
  rw [Below.heap_alloc w o k (by omega)]; exact h k t cs fr h1 h2 h3
theorem Kept.grown {b base n : Nat} {w w' : World} {v : Value} {xs : List Value} (h : w.grownBy w' v.ownBlock) (ho : w.ownsRow base 5 1 v n xs) : Kept b w w' := fun k t cs fr h1 h2 _ => by
  have hk : k < w.heap.size := by
    rcases Nat.lt_or_ge k w.heap.size with hlt | hge
    · exact hlt
    · rw [Array.getElem?_eq_none hge] at h1; cases h1
  refine h.block k hk fun e => ?_
  rcases ho.2 with ⟨rfl, _⟩ | ⟨g, cap, cur, rfl, _, hg, _⟩
  · cases e
  · injection e with e
    subst e
    have h1' := hg.symm.trans h1
    injection h1' with h1'
    injection h1' with _ ht
    exact h2 ht.symm


theorem own_byteslen {w : World} {base n m : Nat} {t : TypeId} {v : Value} {l r : List UInt8} (h : w.ownsRow base t 1 v (n + m) (l.map byteV ++ r.map byteV)) (hn : n = l.length) (hm : m = r.length) :
    w.ownsRow base t 1 v (l ++ r).length ((l ++ r).map byteV) := by subst hn; subst hm; simpa using h
theorem strlen (s : ByteArray) : s.data.toList.length = s.size := by rw [Array.length_toList]; rfl
theorem own_slice' {w : World} {base n : Nat} {e : TypeId} {v : Value} {xs : List Value} (h : w.ownsRow base e 1 v n xs) : ∃ A c, v = .slice A n c := by
  obtain ⟨A, c, rfl, _⟩ := own_slice h
  exact ⟨A, c, rfl⟩



theorem blk_reads {w : World} {g n : Nat} {t : TypeId} {cs : Array Value} {m : List UInt8} (h : Blk w g t cs) (hcs : cs.toList = m.map byteV) (hn : m.length = n) : Reads w w.heap.size 1 (some ⟨g, 0, none⟩) n (m.map byteV) :=
  ⟨by simp [hn], fun _ => ⟨g, 0, rfl, h.lt, fun j u hu => by rw [Nat.zero_add, h.cell j, ← hu, ← hcs]; simp⟩⟩

end Go.Proofs.YtjbmlhipjceeeaaGreat.Lb

namespace Go.Proofs.YtjbmlhipjceeeaaGreat.Lb
set_option linter.unusedVariables false
set_option linter.unusedSimpArgs false
open Go.RowKit

def plainB (c : UInt8) : Bool := decide (32 ≤ c.toNat ∧ c.toNat ≤ 126 ∧ c.toNat ≠ 34 ∧ c.toNat ≠ 92)
def digS : ByteArray := ⟨#[48, 49, 50, 51, 52, 53, 54, 55, 56, 57, 97, 98, 99, 100, 101, 102]⟩
def dig16 (k : Nat) : UInt8 := at8 digS k
def escB (c : UInt8) : List UInt8 := if plainB c = true then [c] else [92, dig16 (c.toNat / 16), dig16 (c.toNat % 16)]
def valT (v : List UInt8) : List UInt8 := v.flatMap escB
def labT (x : Lab) : List UInt8 := x.1.data.toList ++ ([61, 34] ++ (valT x.2.data.toList ++ [34]))
def textK (l : List Lab) (k : Nat) : List UInt8 := (List.range k).flatMap fun i => (if 0 < i then [44] else []) ++ labT (labAt l i)
def textB (l : List Lab) : List UInt8 := 123 :: (textK l l.length ++ [125])
theorem escB_plain {c : UInt8} (h : plainB c = true) : escB c = [c] := by unfold escB; rw [if_pos h]
theorem escB_hex {c : UInt8} (h : plainB c = false) : escB c = [92, dig16 (c.toNat / 16), dig16 (c.toNat % 16)] := by unfold escB; rw [if_neg (by simp [h])]
theorem valT_snoc (v : List UInt8) (c : UInt8) : valT (v ++ [c]) = valT v ++ escB c := by simp [valT]
theorem escB_len (c : UInt8) : (escB c).length ≤ 3 := by unfold escB; split <;> simp
theorem valT_len : ∀ v : List UInt8, (valT v).length ≤ 3 * v.length
  | [] => by simp [valT]
  | c :: r => by
    have h1 := escB_len c
    have h2 := valT_len r
    have e : valT (c :: r) = escB c ++ valT r := by simp [valT]
    rw [e, List.length_append, List.length_cons]; omega
theorem textK_succ (l : List Lab) (k : Nat) : textK l (k + 1) = textK l k ++ ((if 0 < k then [44] else []) ++ labT (labAt l k)) := by
  unfold textK
  rw [List.range_succ, List.flatMap_append]
  simp
theorem textK_0 (l : List Lab) : textK l 0 = [] := rfl
theorem labT_len {x : Lab} (h1 : x.1.size ≤ 8) (h2 : x.2.size ≤ 16) : (labT x).length ≤ 59 := by
  have h3 := valT_len x.2.data.toList
  have e1 := strlen x.1
  have e2 := strlen x.2
  unfold labT
  simp only [List.length_append, List.length_cons, List.length_nil]
  omega
theorem right_at {l : List Lab} (h : rightB l = true) {k : Nat} (hk : k < l.length) : (labAt l k).1.size ≤ 8 ∧ (labAt l k).2.size ≤ 16 ∧ l.length ≤ 4 := by
  have h' := of_decide_eq_true h
  have ho := h'.2 k hk
  have hn := of_decide_eq_true ho.1
  exact ⟨hn.2.1, ho.2.1, h'.1⟩
theorem textK_len {l : List Lab} (h : rightB l = true) : ∀ k, k ≤ l.length → (textK l k).length ≤ 60 * k
  | 0, _ => by simp [textK]
  | k + 1, hk => by
    have h1 := textK_len h k (by omega)
    obtain ⟨h2, h3, _⟩ := right_at h (show k < l.length by omega)
    have h4 := labT_len h2 h3
    rw [textK_succ, List.length_append, List.length_append]
    have h5 : (if 0 < k then ([44] : List UInt8) else []).length ≤ 1 := by split <;> simp
    omega

theorem plain_calls (c : UInt8) (w : World) : Calls Tryz.prog 138 #[.int .u8 (c.toNat : Int)] w fun e w' => e = .returned (.bool (plainB c)) ∧ w = w' := by
  have hcase : (plainB c = true ∧ 32 ≤ (c.toNat : Int) ∧ (c.toNat : Int) ≤ 126 ∧ ((c.toNat : Int) != 34) = true ∧ ((c.toNat : Int) != 92) = true) ∨
      (plainB c = false ∧ ((c.toNat : Int) < 32 ∨ (32 ≤ (c.toNat : Int) ∧ 126 < (c.toNat : Int)) ∨ (32 ≤ (c.toNat : Int) ∧ (c.toNat : Int) ≤ 126 ∧ ((c.toNat : Int) != 34) = false) ∨ (32 ≤ (c.toNat : Int) ∧ (c.toNat : Int) ≤ 126 ∧ ((c.toNat : Int) != 34) = true ∧ ((c.toNat : Int) != 92) = false))) := by
    have e1 : ((c.toNat : Int) != 34) = true ↔ c.toNat ≠ 34 := by rw [bne_iff_ne]; omega
    have e2 : ((c.toNat : Int) != 34) = false ↔ c.toNat = 34 := by rw [bne_eq_false_iff_eq]; omega
    have e3 : ((c.toNat : Int) != 92) = true ↔ c.toNat ≠ 92 := by rw [bne_iff_ne]; omega
    have e4 : ((c.toNat : Int) != 92) = false ↔ c.toNat = 92 := by rw [bne_eq_false_iff_eq]; omega
    unfold plainB
    rw [decide_eq_true_iff, decide_eq_false_iff_not, e1, e2, e3, e4]
    omega
  rcases hcase with ⟨hl, h1, h2, h3, h4⟩ | ⟨hl, h⟩
  · have HL := Lib.hid hl
    clear hl
    have d1 : decide ((c.toNat : Int) ≤ 126) = true := dct h2
    go_enter Tryz.func138, Tryz.ntmps138
    go_wp2
    go_ret
    exact ⟨by rw [HL.out]; rfl, rfl⟩
  · have HL := Lib.hid hl
    clear hl
    rcases h with h1 | ⟨h1, h2⟩ | ⟨h1, h2, h3⟩ | ⟨h1, h2, h3, h4⟩
    all_goals
      try (have d1 : decide ((c.toNat : Int) ≤ 126) = true := dct (by omega))
      try (have d1 : decide ((c.toNat : Int) ≤ 126) = false := dcf (by omega))
      go_enter Tryz.func138, Tryz.ntmps138
      go_wp2
      go_ret
      exact ⟨by rw [HL.out]; rfl, rfl⟩

theorem idx_dig (k : Nat) (h : k < 16) (w : World) : (Instr.index 9 (.string ⟨#[48, 49, 50, 51, 52, 53, 54, 55, 56, 57, 97, 98, 99, 100, 101, 102]⟩) (.int .u8 (k : Int))).run Tryz.prog w = .ok (.int .u8 ((dig16 k).toNat : Int)) w := by
  have : k = 0 ∨ k = 1 ∨ k = 2 ∨ k = 3 ∨ k = 4 ∨ k = 5 ∨ k = 6 ∨ k = 7 ∨ k = 8 ∨ k = 9 ∨ k = 10 ∨ k = 11 ∨ k = 12 ∨ k = 13 ∨ k = 14 ∨ k = 15 := by omega
  clear h
  rcases this with rfl | rfl | rfl | rfl | rfl | rfl | rfl | rfl | rfl | rfl | rfl | rfl | rfl | rfl | rfl | rfl <;> (show _ = _; first | kernel_rfl | rfl)
theorem idx_hi (c : UInt8) (w : World) : (Instr.index 9 (.string ⟨#[48, 49, 50, 51, 52, 53, 54, 55, 56, 57, 97, 98, 99, 100, 101, 102]⟩) (.int .u8 ((c.toNat : Int) / 16))).run Tryz.prog w = .ok (.int .u8 ((dig16 (c.toNat / 16)).toNat : Int)) w := by
  have := UInt8.toNat_lt c
  exact idx_dig (c.toNat / 16) (by omega) w
theorem idx_lo (c : UInt8) (w : World) : (Instr.index 9 (.string ⟨#[48, 49, 50, 51, 52, 53, 54, 55, 56, 57, 97, 98, 99, 100, 101, 102]⟩) (.int .u8 ((c.toNat : Int) % 16))).run Tryz.prog w = .ok (.int .u8 ((dig16 (c.toNat % 16)).toNat : Int)) w := idx_dig (c.toNat % 16) (by omega) w
theorem u8_and15n (x : UInt8) : bits .and .u8 (x.toNat : Int) 15 = (x.toNat : Int) % 16 := by
  have h0 := UInt8.toNat_lt x
  show IntKind.u8.wrap ((BitVec.ofInt 8 (x.toNat : Int) &&& BitVec.ofInt 8 ((15 : Nat) : Int)).toNat : Int) = _
  rw [BitVec.toNat_and, BitVec.ofInt_natCast, BitVec.ofInt_natCast, BitVec.toNat_ofNat, BitVec.toNat_ofNat, IntKind.wrap_u8, show (15 % 2 ^ 8 : Nat) = 2 ^ 4 - 1 from rfl, Nat.and_two_pow_sub_one_eq_mod]
  omega
theorem idx_and (c : UInt8) (w : World) : (Instr.index 9 (.string ⟨#[48, 49, 50, 51, 52, 53, 54, 55, 56, 57, 97, 98, 99, 100, 101, 102]⟩) (.int .u8 (bits .and .u8 (c.toNat : Int) 15))).run Tryz.prog w = .ok (.int .u8 ((dig16 (c.toNat % 16)).toNat : Int)) w := by
  rw [u8_and15n]; exact idx_lo c w
theorem hex_cells (c : UInt8) : (#[.int .u8 92, .int .u8 ((dig16 (c.toNat / 16)).toNat : Int), .int .u8 ((dig16 (c.toNat % 16)).toNat : Int)] : Array Value).toList = ([92, dig16 (c.toNat / 16), dig16 (c.toNat % 16)] : List UInt8).map byteV := rfl
end Go.Proofs.YtjbmlhipjceeeaaGreat.Lb

namespace Go.Proofs.YtjbmlhipjceeeaaGreat.Lb
set_option linter.unusedVariables false
set_option linter.unusedSimpArgs false
open Go.RowKit

theorem app_lit (s : ByteArray) (t : ByteArray) : (s ++ t).data.toList = s.data.toList ++ t.data.toList := by simp
theorem size_app2 (s : ByteArray) : (s ++ (⟨#[61, 34]⟩ : ByteArray)).size = s.size + 2 := by rw [ByteArray.size_append]; rfl
theorem valT_take {v : List UInt8} {j : Nat} {c : UInt8} (hj : j < v.length) (hc : c = v.getD j 0) : valT (v.take (j + 1)) = valT (v.take j) ++ escB c := by
  rw [List.take_succ_eq_append_getElem hj, valT_snoc, hc]
  congr 2
  simp [List.getD, List.getElem?_eq_getElem hj]
theorem pre_len {l : List Lab} (h : rightB l = true) {k : Nat} (hk : k ≤ l.length) (hl4 : l.length ≤ 4) : (123 :: textK l k).length ≤ 241 := by
  have := textK_len h k hk
  rw [List.length_cons]; omega

end Go.Proofs.YtjbmlhipjceeeaaGreat.Lb

namespace Go.Proofs.YtjbmlhipjceeeaaGreat.Lb
set_option linter.unusedVariables false
set_option linter.unusedSimpArgs false
open Go.RowKit

theorem conv_new (w : World) (m : List UInt8) (cs : Array Value) (n c : Nat) (hcs : cs.toList = m.map byteV) (hn : m.length = n) :
    (convert 46 9 (.slice (some ⟨w.heap.size, 0, none⟩) n c)).run Tryz.prog (w.alloc (.cells cs 5)) = .ok (.string ⟨m.toArray⟩) (w.alloc (.cells cs 5)) := by
  have hb : Bytes (w.alloc (.cells cs 5)) (w.alloc (.cells cs 5)).heap.size (some ⟨w.heap.size, 0, none⟩) n m := ⟨hn, blk_reads (Blk.new w _ cs) hcs hn⟩
  exact hb.conv Tryz.prog c 46 5 9 Tryz.underlying46 Tryz.underlying5 Tryz.underlying9

theorem conv_drew (w : World) (m : List UInt8) (cs : Array Value) (n c : Nat) (hcs : cs.toList = m.map byteV) (hn : m.length = n) :
    (convert 46 9 (.slice (some ⟨w.heap.size, 0, none⟩) n c)).run Tryz.prog (w.alloc (.cells cs 5)).drew = .ok (.string ⟨m.toArray⟩) (w.alloc (.cells cs 5)).drew := by
  have hb : Bytes (w.alloc (.cells cs 5)).drew (w.alloc (.cells cs 5)).heap.size (some ⟨w.heap.size, 0, none⟩) n m := Bytes.drew ⟨hn, blk_reads (Blk.new w _ cs) hcs hn⟩
  exact hb.conv Tryz.prog c 46 5 9 Tryz.underlying46 Tryz.underlying5 Tryz.underlying9

set_option maxRecDepth 100000 in
set_option maxHeartbeats 1600000 in
theorem byteR_calls (c : UInt8) (w : World) : Calls Tryz.prog 134 #[.int .u8 (c.toNat : Int)] w fun e w' => e = .returned (.string ⟨(escB c).toArray⟩) ∧ Below w.heap.size w w' := by
  have hcase : (plainB c = true ∧ 32 ≤ (c.toNat : Int) ∧ (c.toNat : Int) ≤ 126 ∧ ((c.toNat : Int) != 34) = true ∧ ((c.toNat : Int) != 92) = true) ∨
      (plainB c = false ∧ ((c.toNat : Int) < 32 ∨ (32 ≤ (c.toNat : Int) ∧ 126 < (c.toNat : Int)) ∨ (32 ≤ (c.toNat : Int) ∧ (c.toNat : Int) ≤ 126 ∧ ((c.toNat : Int) != 34) = false) ∨ (32 ≤ (c.toNat : Int) ∧ (c.toNat : Int) ≤ 126 ∧ ((c.toNat : Int) != 34) = true ∧ ((c.toNat : Int) != 92) = false))) := by
    have e1 : ((c.toNat : Int) != 34) = true ↔ c.toNat ≠ 34 := by rw [bne_iff_ne]; omega
    have e2 : ((c.toNat : Int) != 34) = false ↔ c.toNat = 34 := by rw [bne_eq_false_iff_eq]; omega
    have e3 : ((c.toNat : Int) != 92) = true ↔ c.toNat ≠ 92 := by rw [bne_iff_ne]; omega
    have e4 : ((c.toNat : Int) != 92) = false ↔ c.toNat = 92 := by rw [bne_eq_false_iff_eq]; omega
    unfold plainB
    rw [decide_eq_true_iff, decide_eq_false_iff_not, e1, e2, e3, e4]
    omega
  have hc8 := UInt8.toNat_lt c
  rcases hcase with ⟨hl, h1, h2, h3, h4⟩ | ⟨hl, h⟩
  · have HL := Lib.hid (escB_plain hl)
    clear hl
    have hcv := conv_new w [c] #[.int .u8 (c.toNat : Int)] 1 1 rfl rfl
    go_enter Tryz.func134, Tryz.ntmps134
    go_wp2
    go_ret
    exact ⟨by rw [HL.out]; rfl, (Below.refl _ _).alloc (Nat.le_refl _) _⟩
  · have HL := Lib.hid (escB_hex hl)
    clear hl
    have hcv := conv_drew w [92, dig16 (c.toNat / 16), dig16 (c.toNat % 16)] #[.int .u8 92, .int .u8 ((dig16 (c.toNat / 16)).toNat : Int), .int .u8 ((dig16 (c.toNat % 16)).toNat : Int)] 3 3 rfl rfl
    have Hcv := Lib.hid hcv
    have ih := idx_hi c
    have il := idx_lo c
    have e1 : IntKind.u8.wrap ((c.toNat : Int).tdiv 16) = (c.toNat : Int) / 16 := IntWalk.u8_quo _ _ (by omega)
    have e2 : (c.toNat : Int).tmod 16 = (c.toNat : Int) % 16 := IntWalk.rem_in _ _ (by omega)
    have e4 : IntKind.u8.wrap ((c.toNat : Int) / 16) = (c.toNat : Int) / 16 := IntWalk.u8_in _ (by omega)
    have e3 : IntKind.u8.wrap ((c.toNat : Int) % 16) = (c.toNat : Int) % 16 := IntWalk.u8_in _ (by omega)
    clear hcv
    rcases h with h1 | ⟨h1, h2⟩ | ⟨h1, h2, h3⟩ | ⟨h1, h2, h3, h4⟩
    all_goals
      go_enter Tryz.func134, Tryz.ntmps134
      go_wp2_with fail
      go_still_tail 8, (by kernel_rfl)
      clear ih il e1 e2 e3 e4
      have hcv := Hcv.out
      go_wp2
      go_ret
      exact ⟨by rw [HL.out]; rfl, (below_drewN_ (Below.refl _ _) 1).alloc (Nat.le_refl _) _⟩

theorem app_str (a b : List UInt8) : (⟨a.toArray⟩ : ByteArray) ++ ⟨b.toArray⟩ = ⟨(a ++ b).toArray⟩ := by
  apply ByteArray.ext
  apply Array.toList_inj.1
  simp
theorem mk_size (a : List UInt8) : (⟨a.toArray⟩ : ByteArray).size = a.length := by simp [ByteArray.size]


set_option maxRecDepth 100000 in
set_option maxHeartbeats 1600000 in
theorem run_add2 {P : Program} {a b : ByteArray} (W : World) {n : Nat} (h : a.size ≤ n) (hb : b.size ≤ 1000 ∧ n ≤ 1000) : (Op.stringOp .add a b).run P W = .ok (.string (a ++ b)) W :=
  run_string_add_sum W a b (by omega)

theorem run_add1 {P : Program} {a : ByteArray} {c : UInt8} (W : World) {n : Nat} (h : a.size ≤ n) (hn : n ≤ 1000 := by decide) : (Op.stringOp .add a (⟨#[c]⟩ : ByteArray)).run P W = .ok (.string (a ++ (⟨#[c]⟩ : ByteArray))) W :=
  run_add2 W h ⟨by show 1 ≤ 1000; decide, hn⟩


end Go.Proofs.YtjbmlhipjceeeaaGreat.Lb

namespace Go.Proofs.YtjbmlhipjceeeaaGreat.Lb
set_option linter.unusedVariables false
set_option linter.unusedSimpArgs false
open Go.RowKit

theorem Tryz.infoLab : (Tryz.prog.info? 143).map (fun i => (i.zero, i.size, i.bytes)) = some (some (.agg #[.string ⟨#[]⟩, .string ⟨#[]⟩]), 2, 32) := by kernel_rfl



def sameB (l m : List Lab) : Bool := decide (l = m)
theorem same_all {l m : List Lab} (hl : l.length = m.length) (h : ∀ i, i < l.length → labAt l i = labAt m i) : l = m := by
  refine List.ext_getElem hl fun i h1 h2 => ?_
  rw [labAt_eq h1, labAt_eq h2]
  exact h i h1

theorem bytes_eqd (a b : ByteArray) : (a.toList == b.toList) = decide (a = b) := by
  rw [ByteArray.toList_eq, ByteArray.toList_eq]
  by_cases h : a = b
  · simp [h]
  · have h2 : a.data.toList ≠ b.data.toList := fun e => h (ByteArray.ext (Array.toList_inj.1 e))
    rw [dcf h]
    simpa using h2

theorem neq_lab (W : World) (x y : Lab) : (binOp .neq 143 (.agg #[.string x.1, .string x.2]) (.agg #[.string y.1, .string y.2])).run Tryz.prog W = .ok (.bool (!(decide (x = y)))) W := by
  have u3 := Tryz.underlying9
  have a3 := Tryz.isAgg9
  have z3 := Tryz.sizeOf9
  have hS : Tryz.prog.underlying 143 = some (.struct (Tryz.prog.fieldsOf 143)) := by kernel_rfl
  have hp : Tryz.prog.stoodInHeld 143 = false := by kernel_rfl
  rw [run_neq_struct, show (10000 : Nat) = 9999 + 1 from rfl, run_equalIn_agg W 9999 143 _ _ hS hp]
  simp only [Program.fieldsOf, Tryz.underlying143]
  go_simp
  have e1 : (x.1.toList == y.1.toList) = decide (x.1 = y.1) := bytes_eqd _ _
  have e2 : (x.2.toList == y.2.toList) = decide (x.2 = y.2) := bytes_eqd _ _
  obtain ⟨x1, x2⟩ := x
  obtain ⟨y1, y2⟩ := y
  simp only at e1 e2 ⊢
  by_cases h1 : x1 = y1 <;> by_cases h2 : x2 = y2 <;> simp [h1, h2] at e1 e2 ⊢ <;> simp [*]


def fewP (l : List Lab) : Prop := l.length ≤ 30 ∧ ∀ i, i < l.length → (labAt l i).1.size + (labAt l i).2.size ≤ 200
instance (l : List Lab) : Decidable (fewP l) := by unfold fewP; infer_instance
def fewB (l : List Lab) : Bool := decide (fewP l)

def liveL : List Lab := [(⟨#[97]⟩, ⟨#[120]⟩), (⟨#[98]⟩, ⟨#[]⟩)]
theorem live_right : rightB liveL = true := by decide +kernel
theorem live_text : textB liveL = [123, 97, 61, 34, 120, 34, 44, 98, 61, 34, 34, 125] := by decide +kernel
end Go.Proofs.YtjbmlhipjceeeaaGreat.Lb

namespace Go.Proofs.YtjbmlhipjceeeaaGreat.Lb
set_option linter.unusedVariables false
set_option linter.unusedSimpArgs false
open Go.RowKit

/-! ### strings in a row -/
/-- A slice of strings reads. -/
def Strs (w : World) (B : Nat) (A : Option Addr) (l : List ByteArray) : Prop := Reads w B 1 A l.length (l.map .string)
section
variable {w w' : World} {B B' : Nat} {A : Option Addr} {l : List ByteArray}
theorem Strs.below (h : Strs w B A l) (hb : Below B w w') : Strs w' B A l := Reads.below h hb
theorem Strs.more (h : Strs w B A l) (hb : B ≤ B') : Strs w B' A l := Reads.more h hb
theorem Strs.nil_ : Strs w B A [] := ⟨rfl, fun h => absurd h (by simp)⟩
def strAt (l : List ByteArray) (i : Nat) : ByteArray := l.getD i ByteArray.empty
theorem Strs.cellAt (h : Strs w B A l) (hp : 0 < l.length) : ∃ b off, A = some ⟨b, off, none⟩ ∧ b < B ∧ ∀ j, j < l.length → w.cell? ⟨b, off + j, none⟩ = some (.string (strAt l j)) := by
  obtain ⟨b, off, e, hb, hc⟩ := h.2 hp
  exact ⟨b, off, e, hb, fun j hj => hc j _ (by simp [strAt, List.getD, List.getElem?_eq_getElem hj])⟩
end
theorem strs_one (l : List ByteArray) : ∀ u ∈ l.map Value.string, u.oneCell' = true := by
  intro u hu
  obtain ⟨x, _, rfl⟩ := List.mem_map.1 hu
  rfl

def hasB (by_ : List ByteArray) (x : ByteArray) : Bool := by_.any fun y => decide (y = x)
def partB (l : List Lab) (by_ : List ByteArray) : List Lab := l.filter fun x => hasB by_ x.1


theorem part_take {l : List Lab} {by_ : List ByteArray} {k : Nat} (hk : k < l.length) : partB (l.take (k + 1)) by_ = partB (l.take k) by_ ++ (if hasB by_ (labAt l k).1 = true then [labAt l k] else []) := by
  have e : l.take (k + 1) = l.take k ++ [labAt l k] := by rw [List.take_add_one, List.getElem?_eq_getElem hk, ← labAt_eq hk]; rfl
  rw [e, partB, List.filter_append]
  congr 1
  by_cases h : hasB by_ (labAt l k).1 = true <;> simp [h]
theorem part_yes {l : List Lab} {by_ : List ByteArray} {k : Nat} (hk : k < l.length) (h : hasB by_ (labAt l k).1 = true) : partB (l.take (k + 1)) by_ = partB (l.take k) by_ ++ [labAt l k] := by rw [part_take hk, if_pos h]
theorem part_none {l : List Lab} {by_ : List ByteArray} {k : Nat} (hk : k < l.length) (h : hasB by_ (labAt l k).1 = false) : partB (l.take (k + 1)) by_ = partB (l.take k) by_ := by rw [part_take hk, if_neg (by simp [h]), List.append_nil]
theorem part_len (l : List Lab) (by_ : List ByteArray) (k : Nat) : (partB (l.take k) by_).length ≤ k := by
  have := List.length_filter_le (fun x : Lab => hasB by_ x.1) (l.take k)
  have h2 : (l.take k).length ≤ k := List.length_take_le _ _
  unfold partB
  omega
theorem labCells_snoc (l : List Lab) (x : Lab) : labCells l ++ [.string x.1, .string x.2] = labCells (l ++ [x]) := by simp [labCells]

/-- A result: a row of labels of the call's own (or none). -/
def RetLabs (w : World) (l : List Lab) (e : Ending) (w' : World) : Prop := ∃ A c, e = .returned (.slice A l.length c) ∧ Labs w' w'.heap.size A l ∧ w'.ownsRow w.heap.size 143 2 (.slice A l.length c) l.length (labCells l) ∧ Below w.heap.size w w'


theorem has_yes {by_ : List ByteArray} {x : ByteArray} {j : Nat} (hj : j < by_.length) (h : strAt by_ j = x) : hasB by_ x = true := by
  unfold hasB
  rw [List.any_eq_true]
  exact ⟨by_[j], List.getElem_mem hj, by rw [decide_eq_true_iff, ← h]; simp [strAt, List.getD, List.getElem?_eq_getElem hj]⟩
theorem has_no {by_ : List ByteArray} {x : ByteArray} (h : ∀ j, j < by_.length → strAt by_ j ≠ x) : hasB by_ x = false := by
  unfold hasB
  rw [List.any_eq_false]
  intro y hy
  obtain ⟨j, hj, rfl⟩ := List.getElem_of_mem hy
  have := h j hj
  simpa [strAt, List.getD, List.getElem?_eq_getElem hj] using this


/-- The first label of a name. -/
def getB (l : List Lab) (x : ByteArray) : Option ByteArray := (l.find? fun y => decide (y.1 = x)).map (·.2)
theorem get_hit {l : List Lab} {x : ByteArray} {k : Nat} (hk : k < l.length) (hno : ∀ i, i < k → (labAt l i).1 ≠ x) (h : (labAt l k).1 = x) : getB l x = some (labAt l k).2 := by
  have : l.find? (fun y => decide (y.1 = x)) = some l[k] := by
    rw [List.find?_eq_some_iff_getElem]
    refine ⟨by rw [labAt_eq hk]; exact dct h, k, hk, rfl, fun j hj => ?_⟩
    rw [labAt_eq (by omega : j < l.length), dcf (hno j hj)]; rfl
  unfold getB
  rw [this, labAt_eq hk]
  rfl
theorem get_none {l : List Lab} {x : ByteArray} (hno : ∀ i, i < l.length → (labAt l i).1 ≠ x) : getB l x = none := by
  have : l.find? (fun y => decide (y.1 = x)) = none := by
    rw [List.find?_eq_none]
    intro y hy
    obtain ⟨j, hj, rfl⟩ := List.getElem_of_mem hy
    rw [labAt_eq hj]
    simpa using hno j hj
  unfold getB
  rw [this]
  rfl
def getV (o : Option ByteArray) : ByteArray := o.getD ⟨#[]⟩

end Go.Proofs.YtjbmlhipjceeeaaGreat.Lb
