/- Manifests (chapter 13): how entries, marks and owners lie; plain words for what is right. Numbers, keys, marks and owners: are they right? Of the program and of the document (chapter 13). Keys and entries: are they right? Of the program and of the document (chapter 13). Entries: are they right? Of the program and of the document (chapter 13). -/
import Derived.Test.YtjbmlhipjceeeaaGreatProg
import Derived.Test.YtjbmlhipjceeeaaGreatPartC
import Derived.Test.YtjbmlhipjceeeaaGreatMPar
import Derived.Test.YtjbmlhipjceeeaaGreatKeys
import Derived.IntWalk

namespace Go.Proofs.YtjbmlhipjceeeaaGreat.Mf
set_option linter.unusedVariables false
set_option linter.unusedSimpArgs false
open Go.RowKit Go.Proofs.YtjbmlhipjceeeaaGreat

def gt {α : Type} [Inhabited α] (l : List α) (i : Nat) : α := l.getD i default
theorem gt_eq {α : Type} [Inhabited α] {l : List α} {i : Nat} (h : i < l.length) : l[i] = gt l i := by simp [gt, List.getD, List.getElem?_eq_getElem h]
theorem gt_mem {α : Type} [Inhabited α] {l : List α} {i : Nat} (h : i < l.length) : gt l i ∈ l := by rw [← gt_eq h]; exact List.getElem_mem _
theorem gt_at {α : Type} [Inhabited α] {l : List α} {i : Nat} (h : i < l.length) : l[i]? = some (gt l i) := by rw [List.getElem?_eq_getElem h, gt_eq h]
theorem mem_gt {α : Type} [Inhabited α] {l : List α} {x : α} (h : x ∈ l) : ∃ i, i < l.length ∧ gt l i = x := by
  obtain ⟨i, hi, rfl⟩ := List.getElem_of_mem h
  exact ⟨i, hi, (gt_eq hi).symm⟩
theorem take_gt {α : Type} [Inhabited α] {l : List α} {k : Nat} (hk : k < l.length) : l.take (k + 1) = l.take k ++ [gt l k] := by rw [List.take_succ_eq_append_getElem hk, gt_eq hk]
theorem gt_take {α : Type} [Inhabited α] {l : List α} {i k : Nat} (hi : i < k) (hk : k ≤ l.length) : gt (l.take k) i = gt l i := by
  rw [← gt_eq (show i < (l.take k).length by rw [List.length_take]; omega), ← gt_eq (show i < l.length by omega), List.getElem_take]

/-- An entry, a mark, an owner. -/
structure En where
  key : ByteArray
  window : Int
  part : ByteArray
  first : Int
  last : Int
  rows : Int
  size : Int
  sum : Int
  born : Int
deriving Inhabited, DecidableEq
structure Mk where
  maker : Int
  seq : Int
deriving Inhabited, DecidableEq
structure Ow where
  agent : Int
  life : Int
  count : Int
deriving Inhabited, DecidableEq
def En.cs (x : En) : List Value := [.string x.key, .int .i64 x.window, .string x.part, .int .i64 x.first, .int .i64 x.last, .int .i64 x.rows, .int .i64 x.size, .int .u32 x.sum, .int .i64 x.born]
def Mk.cs (x : Mk) : List Value := [.int .i64 x.maker, .int .i64 x.seq]
def Ow.cs (x : Ow) : List Value := [.int .i64 x.agent, .int .i64 x.life, .int .i64 x.count]
/-- What can lie in memory. -/
structure En.Ok (x : En) : Prop where
  key : x.key.size ≤ 140737488351232
  part : x.part.size ≤ 140737488351232
  sum : 0 ≤ x.sum ∧ x.sum ≤ 4294967295
theorem ecs_len (x : En) : x.cs.length = 9 := rfl
theorem mcs_len (x : Mk) : x.cs.length = 2 := rfl
theorem ocs_len (x : Ow) : x.cs.length = 3 := rfl
theorem ecs_one (l : List En) : ∀ u ∈ l.flatMap En.cs, u.oneCell' = true := by
  intro u hu
  obtain ⟨x, _, hx⟩ := List.mem_flatMap.1 hu
  simp [En.cs] at hx
  rcases hx with rfl | rfl | rfl | rfl | rfl | rfl | rfl | rfl | rfl <;> rfl
theorem mcs_one (l : List Mk) : ∀ u ∈ l.flatMap Mk.cs, u.oneCell' = true := by
  intro u hu
  obtain ⟨x, _, hx⟩ := List.mem_flatMap.1 hu
  simp [Mk.cs] at hx
  rcases hx with rfl | rfl <;> rfl
theorem ocs_one (l : List Ow) : ∀ u ∈ l.flatMap Ow.cs, u.oneCell' = true := by
  intro u hu
  obtain ⟨x, _, hx⟩ := List.mem_flatMap.1 hu
  simp [Ow.cs] at hx
  rcases hx with rfl | rfl | rfl <;> rfl

/-- Things that lie in a row, read cell by cell. -/
theorem row_at {α : Type} [Inhabited α] {cs : α → List Value} {k : Nat} (hcs : ∀ x, (cs x).length = k) {w : World} {B : Nat} {A : Option Addr} {l : List α} (h : Reads w B k A l.length (l.flatMap cs)) (hp : 0 < l.length) :
    ∃ b off, A = some ⟨b, off, none⟩ ∧ b < B ∧ ∀ i, i < l.length → ∀ j v, (cs (gt l i))[j]? = some v → w.cell? ⟨b, off + i * k + j, none⟩ = some v := by
  obtain ⟨b, off, e, hb, hc⟩ := h.2 hp
  refine ⟨b, off, e, hb, fun i hi j v hv => ?_⟩
  have hj : j < k := by rw [← hcs (gt l i)]; exact (List.getElem?_eq_some_iff.1 hv).1
  rw [Nat.add_assoc]
  refine hc _ _ ?_
  rw [flatMap_get hcs l i hi j hj, gt_eq hi, hv]
theorem row_cell {α : Type} [Inhabited α] {cs : α → List Value} {k : Nat} (hcs : ∀ x, (cs x).length = k) {w : World} {B b off : Nat} {l : List α} (h : Reads w B k (some ⟨b, off, none⟩) l.length (l.flatMap cs)) {i : Nat} (hi : i < l.length) {j : Nat} {v : Value} (hv : (cs (gt l i))[j]? = some v) : w.cell? ⟨b, off + i * k + j, none⟩ = some v := by
  obtain ⟨b', off', e, _, hc⟩ := row_at hcs h (by omega)
  injection e with e
  injection e with e1 e2
  subst e1 e2
  exact hc i hi j v hv
theorem row_addr {k : Nat} {w : World} {B n : Nat} {A : Option Addr} {xs : List Value} (h : Reads w B k A n xs) (hp : 0 < n) : ∃ b off, A = some ⟨b, off, none⟩ ∧ b < B := by
  obtain ⟨b, off, e, hb, _⟩ := h.2 hp
  exact ⟨b, off, e, hb⟩

/-- The library's variable that strings.Index reads. -/
def Sh (w : World) : Prop := ∃ m, w.cell? ⟨0, 0, none⟩ = some (.int .i64 m)
theorem Sh.lt {w : World} (h : Sh w) : 0 < w.heap.size := by
  obtain ⟨m, h⟩ := h
  exact World.block_lt_of_cell? w _ h
theorem Sh.below {w w' : World} {B : Nat} (h : Sh w) (hb : Below B w w') (hB : 0 < B) : Sh w' := by
  obtain ⟨m, h⟩ := h
  exact ⟨m, (hb.cell (p := ⟨0, 0, none⟩) hB).trans h⟩

/-! ### what is right -/
def numB (n least : Int) : Bool := decide (least ≤ n) && decide (n < 1099511627776)
def okK (c : UInt8) : Prop := 33 ≤ c.toNat ∧ c.toNat ≤ 126
instance (c : UInt8) : Decidable (okK c) := by unfold okK; infer_instance
def KeyP (s : ByteArray) : Prop := 1 ≤ s.size ∧ s.size ≤ 40 ∧ ∀ i, i < s.size → okK (Lb.at8 s i)
instance (s : ByteArray) : Decidable (KeyP s) := by unfold KeyP; infer_instance
def keyB (s : ByteArray) : Bool := decide (KeyP s)
open Classical in
noncomputable def parB (s : ByteArray) : Bool := decide (∃ l, Lb.ParP s.data.toList l)
noncomputable def enB (x : En) : Bool := parB x.part && keyB x.key && numB x.window 0 && decide (0 ≤ x.first) && decide (x.first ≤ x.last) && decide (x.last < 1099511627776) && decide (1 ≤ x.rows) && decide (x.rows ≤ 2048) && decide (1 ≤ x.size) && decide (x.size ≤ 262144) && numB x.born 0
def mkB (x : Mk) : Bool := decide (1 ≤ x.maker) && decide (x.maker ≤ 64) && numB x.seq 1
def owB (x : Ow) : Bool := decide (1 ≤ x.agent) && decide (x.agent ≤ 8) && numB x.life 1 && numB x.count 1
/-- Each is right, and each stands behind the one before it. -/
def RisP {α : Type} [Inhabited α] (r : α → Bool) (lt : α → α → Bool) (l : List α) : Prop := ∀ i, i < l.length → r (gt l i) = true ∧ (0 < i → lt (gt l (i - 1)) (gt l i) = true)
instance {α : Type} [Inhabited α] (r : α → Bool) (lt : α → α → Bool) (l : List α) : Decidable (RisP r lt l) := by unfold RisP; infer_instance
def risB {α : Type} [Inhabited α] (r : α → Bool) (lt : α → α → Bool) (l : List α) : Bool := decide (RisP r lt l)
def ltE (x y : En) : Bool := ltS x.key y.key
def ltM (x y : Mk) : Bool := decide (x.maker < y.maker)
def ltO (x y : Ow) : Bool := decide (x.agent < y.agent)
def ltP (x y : Mk) : Bool := decide (x.maker * 1099511627776 + x.seq < y.maker * 1099511627776 + y.seq)
end Go.Proofs.YtjbmlhipjceeeaaGreat.Mf

namespace Go.Proofs.YtjbmlhipjceeeaaGreat.Mf
set_option linter.unusedVariables false
set_option linter.unusedSimpArgs false
open Go.RowKit Go.Proofs.YtjbmlhipjceeeaaGreat

theorem numB_t {n l : Int} (h : l ≤ n) (h' : n < 1099511627776) : numB n l = true := by unfold numB; rw [dct h, dct h']; rfl
theorem numB_f {n l : Int} (h : ¬ l ≤ n) : numB n l = false := by unfold numB; rw [dcf h]; rfl
theorem numB_f2 {n l : Int} (h' : ¬ n < 1099511627776) : numB n l = false := by unfold numB; rw [dcf h', Bool.and_false]
theorem numB_iff {n l : Int} : numB n l = true ↔ l ≤ n ∧ n < 1099511627776 := by unfold numB; simp
theorem num_calls (n l : Int) (w : World) : Calls Tryz.prog 49 #[.int .i64 n, .int .i64 l] w fun e w' => e = .returned (.bool (numB n l)) ∧ w' = w := by
  by_cases e0 : l ≤ n
  · have te0 : decide (l ≤ n) = true := dct e0
    by_cases e1 : n < 1099511627776
    · have te1 : decide (n < 1099511627776) = true := dct e1
      have HV := Lib.hid (numB_t e0 e1)
      clear e0 e1
      go_enter Tryz.func49, Tryz.ntmps49
      go_wp2
      go_ret
      exact ⟨by rw [HV.out]; rfl, rfl⟩
    · have te1 : decide (n < 1099511627776) = false := dcf e1
      have HV : Hid (numB n l = false) := Lib.hid (by first | exact numB_f e1 | exact numB_f2 e1)
      (try clear e0); (try clear e1)
      go_enter Tryz.func49, Tryz.ntmps49
      go_wp2
      go_ret
      exact ⟨by rw [HV.out]; rfl, rfl⟩
  · have te0 : decide (l ≤ n) = false := dcf e0
    have HV : Hid (numB n l = false) := Lib.hid (by first | exact numB_f e0 | exact numB_f2 e0)
    (try clear e0); (try clear e1)
    go_enter Tryz.func49, Tryz.ntmps49
    go_wp2
    go_ret
    exact ⟨by rw [HV.out]; rfl, rfl⟩
theorem numR_calls (n l : Int) (w : World) : Calls Tryz.prog 43 #[.int .i64 n, .int .i64 l] w fun e w' => e = .returned (.bool (numB n l)) ∧ w' = w := by
  by_cases e0 : l ≤ n
  · have te0 : decide (l ≤ n) = true := dct e0
    by_cases e1 : n ≤ 1099511627775
    · have te1 : decide (n ≤ 1099511627775) = true := dct e1
      have HV := Lib.hid (numB_t e0 (by omega : n < 1099511627776))
      clear e0 e1
      go_enter Tryz.func43, Tryz.ntmps43
      go_wp2
      go_ret
      exact ⟨by rw [HV.out]; rfl, rfl⟩
    · have te1 : decide (n ≤ 1099511627775) = false := dcf e1
      have HV : Hid (numB n l = false) := Lib.hid (by first | exact numB_f e1 | exact numB_f2 (by omega))
      (try clear e0); (try clear e1)
      go_enter Tryz.func43, Tryz.ntmps43
      go_wp2
      go_ret
      exact ⟨by rw [HV.out]; rfl, rfl⟩
  · have te0 : decide (l ≤ n) = false := dcf e0
    have HV : Hid (numB n l = false) := Lib.hid (by first | exact numB_f e0 | exact numB_f2 (by omega))
    (try clear e0); (try clear e1)
    go_enter Tryz.func43, Tryz.ntmps43
    go_wp2
    go_ret
    exact ⟨by rw [HV.out]; rfl, rfl⟩

/-! ### marks and owners -/
theorem mark_calls (x : Mk) (w : World) : Calls Tryz.prog 54 #[.agg #[.int .i64 x.maker, .int .i64 x.seq]] w fun e w' => e = .returned (.bool (mkB x)) ∧ Below w.heap.size w w' := by
  have HN := Lib.hid fun W => num_calls x.seq 1 W
  have HD : Hid (mkB x = (decide (1 ≤ x.maker) && decide (x.maker ≤ 64) && numB x.seq 1)) := Lib.hid rfl
  have HB : Hid (Below w.heap.size w (w.alloc (.cells #[.int .i64 x.maker, .int .i64 x.seq] 44))) := Lib.hid ((Below.refl _ _).alloc (Nat.le_refl _) _)
  generalize mkB x = out at *
  generalize numB x.seq 1 = b at *
  by_cases e0 : 1 ≤ x.maker
  · have te0 : decide (1 ≤ x.maker) = true := dct e0
    by_cases e1 : x.maker ≤ 64
    · have te1 : decide (x.maker ≤ 64) = true := dct e1
      have HV : Hid (out = b) := Lib.hid (by rw [HD.out, te0, te1]; rfl)
      go_enter Tryz.func54, Tryz.ntmps54
      go_wp2_with (go_at_call 49; refine (HN.out _).mono ?_; rintro e w1 ⟨rfl, rfl⟩)
      go_ret
      exact ⟨by rw [HV.out]; rfl, HB.out⟩
    · have te1 : decide (x.maker ≤ 64) = false := dcf e1
      have HV : Hid (out = false) := Lib.hid (by rw [HD.out, te1]; simp)
      go_enter Tryz.func54, Tryz.ntmps54
      go_wp2
      go_ret
      exact ⟨by rw [HV.out]; rfl, HB.out⟩
  · have te0 : decide (1 ≤ x.maker) = false := dcf e0
    have HV : Hid (out = false) := Lib.hid (by rw [HD.out, te0]; simp)
    go_enter Tryz.func54, Tryz.ntmps54
    go_wp2
    go_ret
    exact ⟨by rw [HV.out]; rfl, HB.out⟩
theorem markR_calls (x : Mk) (w : World) : Calls Tryz.prog 88 #[.agg #[.int .i64 x.maker, .int .i64 x.seq]] w fun e w' => e = .returned (.bool (mkB x)) ∧ Below w.heap.size w w' := by
  have HN := Lib.hid fun W => numR_calls x.seq 1 W
  have HD : Hid (mkB x = (decide (1 ≤ x.maker) && decide (x.maker ≤ 64) && numB x.seq 1)) := Lib.hid rfl
  have HB : Hid (Below w.heap.size w (w.alloc (.cells #[.int .i64 x.maker, .int .i64 x.seq] 44))) := Lib.hid ((Below.refl _ _).alloc (Nat.le_refl _) _)
  generalize mkB x = out at *
  generalize numB x.seq 1 = b at *
  by_cases e0 : 1 ≤ x.maker
  · have te0 : decide (1 ≤ x.maker) = true := dct e0
    by_cases e1 : x.maker ≤ 64
    · have te1 : decide (x.maker ≤ 64) = true := dct e1
      have HV : Hid (out = b) := Lib.hid (by rw [HD.out, te0, te1]; rfl)
      go_enter Tryz.func88, Tryz.ntmps88
      go_wp2_with (go_at_call 43; refine (HN.out _).mono ?_; rintro e w1 ⟨rfl, rfl⟩)
      go_ret
      exact ⟨by rw [HV.out]; rfl, HB.out⟩
    · have te1 : decide (x.maker ≤ 64) = false := dcf e1
      have HV : Hid (out = false) := Lib.hid (by rw [HD.out, te1]; simp)
      go_enter Tryz.func88, Tryz.ntmps88
      go_wp2
      go_ret
      exact ⟨by rw [HV.out]; rfl, HB.out⟩
  · have te0 : decide (1 ≤ x.maker) = false := dcf e0
    have HV : Hid (out = false) := Lib.hid (by rw [HD.out, te0]; simp)
    go_enter Tryz.func88, Tryz.ntmps88
    go_wp2
    go_ret
    exact ⟨by rw [HV.out]; rfl, HB.out⟩
theorem owner_calls (x : Ow) (w : World) : Calls Tryz.prog 56 #[.agg #[.int .i64 x.agent, .int .i64 x.life, .int .i64 x.count]] w fun e w' => e = .returned (.bool (owB x)) ∧ Below w.heap.size w w' := by
  have HN := Lib.hid fun n l W => num_calls n l W
  have HD : Hid (owB x = (decide (1 ≤ x.agent) && decide (x.agent ≤ 8) && numB x.life 1 && numB x.count 1)) := Lib.hid rfl
  have HB : Hid (Below w.heap.size w (w.alloc (.cells #[.int .i64 x.agent, .int .i64 x.life, .int .i64 x.count] 29))) := Lib.hid ((Below.refl _ _).alloc (Nat.le_refl _) _)
  generalize owB x = out at *
  by_cases e0 : 1 ≤ x.agent
  · have te0 : decide (1 ≤ x.agent) = true := dct e0
    by_cases e1 : x.agent ≤ 8
    · have te1 : decide (x.agent ≤ 8) = true := dct e1
      by_cases e2 : numB x.life 1 = true
      · have te2 : numB x.life 1 = true := e2
        have HV : Hid (out = numB x.count 1) := Lib.hid (by rw [HD.out, te0, te1, te2]; rfl)
        clear e2
        go_enter Tryz.func56, Tryz.ntmps56
        go_wp2_with (go_at_call 49; refine (HN.out _ _ _).mono ?_; rintro e w1 ⟨rfl, rfl⟩)
        go_ret
        exact ⟨by rw [HV.out]; rfl, HB.out⟩
      · have te2 : numB x.life 1 = false := by simpa using e2
        have HV : Hid (out = false) := Lib.hid (by rw [HD.out, te2]; simp)
        (try clear e2)
        go_enter Tryz.func56, Tryz.ntmps56
        go_wp2_with (go_at_call 49; refine (HN.out _ _ _).mono ?_; rintro e w1 ⟨rfl, rfl⟩)
        go_ret
        exact ⟨by rw [HV.out]; rfl, HB.out⟩
    · have te1 : decide (x.agent ≤ 8) = false := dcf e1
      have HV : Hid (out = false) := Lib.hid (by rw [HD.out, te1]; simp)
      (try clear e2)
      go_enter Tryz.func56, Tryz.ntmps56
      go_wp2_with (go_at_call 49; refine (HN.out _ _ _).mono ?_; rintro e w1 ⟨rfl, rfl⟩)
      go_ret
      exact ⟨by rw [HV.out]; rfl, HB.out⟩
  · have te0 : decide (1 ≤ x.agent) = false := dcf e0
    have HV : Hid (out = false) := Lib.hid (by rw [HD.out, te0]; simp)
    (try clear e2)
    go_enter Tryz.func56, Tryz.ntmps56
    go_wp2_with (go_at_call 49; refine (HN.out _ _ _).mono ?_; rintro e w1 ⟨rfl, rfl⟩)
    go_ret
    exact ⟨by rw [HV.out]; rfl, HB.out⟩
theorem ownerR_calls (x : Ow) (w : World) : Calls Tryz.prog 46 #[.agg #[.int .i64 x.agent, .int .i64 x.life, .int .i64 x.count]] w fun e w' => e = .returned (.bool (owB x)) ∧ Below w.heap.size w w' := by
  have HN := Lib.hid fun n l W => numR_calls n l W
  have HD : Hid (owB x = (decide (1 ≤ x.agent) && decide (x.agent ≤ 8) && numB x.life 1 && numB x.count 1)) := Lib.hid rfl
  have HB : Hid (Below w.heap.size w (w.alloc (.cells #[.int .i64 x.agent, .int .i64 x.life, .int .i64 x.count] 29))) := Lib.hid ((Below.refl _ _).alloc (Nat.le_refl _) _)
  generalize owB x = out at *
  by_cases e0 : 1 ≤ x.agent
  · have te0 : decide (1 ≤ x.agent) = true := dct e0
    by_cases e1 : x.agent ≤ 8
    · have te1 : decide (x.agent ≤ 8) = true := dct e1
      by_cases e2 : numB x.life 1 = true
      · have te2 : numB x.life 1 = true := e2
        have HV : Hid (out = numB x.count 1) := Lib.hid (by rw [HD.out, te0, te1, te2]; rfl)
        clear e2
        go_enter Tryz.func46, Tryz.ntmps46
        go_wp2_with (go_at_call 43; refine (HN.out _ _ _).mono ?_; rintro e w1 ⟨rfl, rfl⟩)
        go_ret
        exact ⟨by rw [HV.out]; rfl, HB.out⟩
      · have te2 : numB x.life 1 = false := by simpa using e2
        have HV : Hid (out = false) := Lib.hid (by rw [HD.out, te2]; simp)
        (try clear e2)
        go_enter Tryz.func46, Tryz.ntmps46
        go_wp2_with (go_at_call 43; refine (HN.out _ _ _).mono ?_; rintro e w1 ⟨rfl, rfl⟩)
        go_ret
        exact ⟨by rw [HV.out]; rfl, HB.out⟩
    · have te1 : decide (x.agent ≤ 8) = false := dcf e1
      have HV : Hid (out = false) := Lib.hid (by rw [HD.out, te1]; simp)
      (try clear e2)
      go_enter Tryz.func46, Tryz.ntmps46
      go_wp2_with (go_at_call 43; refine (HN.out _ _ _).mono ?_; rintro e w1 ⟨rfl, rfl⟩)
      go_ret
      exact ⟨by rw [HV.out]; rfl, HB.out⟩
  · have te0 : decide (1 ≤ x.agent) = false := dcf e0
    have HV : Hid (out = false) := Lib.hid (by rw [HD.out, te0]; simp)
    (try clear e2)
    go_enter Tryz.func46, Tryz.ntmps46
    go_wp2_with (go_at_call 43; refine (HN.out _ _ _).mono ?_; rintro e w1 ⟨rfl, rfl⟩)
    go_ret
    exact ⟨by rw [HV.out]; rfl, HB.out⟩
end Go.Proofs.YtjbmlhipjceeeaaGreat.Mf

namespace Go.Proofs.YtjbmlhipjceeeaaGreat.Mf
set_option linter.unusedVariables false
set_option linter.unusedSimpArgs false
open Go.RowKit Go.Proofs.YtjbmlhipjceeeaaGreat

theorem keyB_yes {s : ByteArray} (h : KeyP s) : keyB s = true := decide_eq_true h
theorem keyB_no {s : ByteArray} (h : ¬ KeyP s) : keyB s = false := decide_eq_false h
theorem key_step {s : ByteArray} {k : Nat} {c : UInt8} (h : ∀ i, i < k → okK (Lb.at8 s i)) (hc : c = Lb.at8 s k) (ho : okK c) : ∀ i, i < k + 1 → okK (Lb.at8 s i) := by
  intro i hi
  rcases Nat.lt_or_ge i k with h1 | h1
  · exact h i h1
  · obtain rfl : i = k := by omega
    rw [← hc]; exact ho
theorem key_bad {s : ByteArray} {k : Nat} {c : UInt8} (hk : k < s.size) (hc : c = Lb.at8 s k) (ho : ¬ okK c) : keyB s = false := keyB_no fun h => ho (by rw [hc]; exact h.2.2 k hk)

set_option maxRecDepth 100000 in
set_option maxHeartbeats 800000 in
theorem key_calls (s : ByteArray) (w : World) (hs : s.size ≤ 140737488351232) :
    Calls Tryz.prog 73 #[.string s] w fun e w' => e = .returned (.bool (keyB s)) ∧ w' = w := by
  go_enter Tryz.func73, Tryz.ntmps73
  go_wp2
  go_loop [6] (fun i => ∃ k : Nat, k ≤ s.size ∧ i = .int .i64 (k : Int) ∧ Hid (∀ i, i < k → okK (Lb.at8 s i))) (fun i => s.size - (intOf i).toNat)
  case atStart => exact ⟨0, Nat.zero_le _, rfl, Lib.hid fun i hi => absurd hi (by omega)⟩
  case round =>
    obtain ⟨k, hk, rfl, hall⟩ := hrel
    by_cases hlt : k < s.size
    · have hc := Lib.hid (Lb.at8_eq hlt)
      obtain ⟨c, hcd⟩ : ∃ c, c = s[k] := ⟨_, rfl⟩
      rw [← hcd] at hc
      have hcase : (okK c ∧ decide ((c.toNat : Int) < 33) = false ∧ decide ((126 : Int) < (c.toNat : Int)) = false) ∨ (¬ okK c ∧ decide ((c.toNat : Int) < 33) = true) ∨ (¬ okK c ∧ decide ((c.toNat : Int) < 33) = false ∧ decide ((126 : Int) < (c.toNat : Int)) = true) := by
        unfold okK
        simp only [decide_eq_true_eq, decide_eq_false_iff_not]
        omega
      subst hcd
      rcases hcase with ⟨ho, d1, d2⟩ | ⟨ho, d1⟩ | ⟨ho, d1, d2⟩
      · have Hn := Lib.hid (key_step hall.out hc.out ho)
        clear ho
        go_wp2
        go_round
        case rel => exact ⟨k + 1, by omega, by go_num, Hn⟩
        case measure => simp [intOf]; omega
      all_goals
        have Hn := Lib.hid (key_bad hlt hc.out ho)
        clear ho
        go_wp2
        go_ret
        exact ⟨by rw [Hn.out]; rfl, rfl⟩
    · obtain rfl : k = s.size := by omega
      have hH : (1 ≤ s.size ∧ s.size ≤ 40 ∧ keyB s = true) ∨ (¬ 1 ≤ s.size ∧ keyB s = false) ∨ (1 ≤ s.size ∧ ¬ s.size ≤ 40 ∧ keyB s = false) := by
        by_cases h1 : 1 ≤ s.size
        · by_cases h2 : s.size ≤ 40
          · exact .inl ⟨h1, h2, keyB_yes ⟨h1, h2, hall.out⟩⟩
          · exact .inr (.inr ⟨h1, h2, keyB_no fun h => h2 h.2.1⟩)
        · exact .inr (.inl ⟨h1, keyB_no fun h => h1 h.1⟩)
      rcases hH with ⟨h1, h2, h3⟩ | ⟨h1, h3⟩ | ⟨h1, h2, h3⟩
      all_goals
        have H3 := Lib.hid h3
        clear h3
        try (have d8 : decide ((s.size : Int) ≤ 40) = true := dct (by omega))
        try (have e8 : decide ((s.size : Int) ≤ 40) = false := dcf (by omega))
        go_wp2
        go_ret
        exact ⟨by rw [H3.out]; rfl, rfl⟩

set_option maxRecDepth 100000 in
set_option maxHeartbeats 800000 in
theorem keyR_calls (s : ByteArray) (w : World) (hs : s.size ≤ 140737488351232) :
    Calls Tryz.prog 90 #[.string s] w fun e w' => e = .returned (.bool (keyB s)) ∧ w' = w := by
  by_cases h1 : s.size < 1
  · have H3 := Lib.hid (keyB_no (s := s) fun h => by have := h.1; omega)
    go_enter Tryz.func90, Tryz.ntmps90
    go_wp2
    go_ret
    exact ⟨by rw [H3.out]; rfl, rfl⟩
  by_cases h2 : 40 < s.size
  · have H3 := Lib.hid (keyB_no (s := s) fun h => by have := h.2.1; omega)
    have d1 : decide ((s.size : Int) < 1) = false := dcf (by omega)
    have d2 : decide ((40 : Int) < (s.size : Int)) = true := dct (by omega)
    go_enter Tryz.func90, Tryz.ntmps90
    go_wp2
    go_ret
    exact ⟨by rw [H3.out]; rfl, rfl⟩
  have d1 : decide ((s.size : Int) < 1) = false := dcf (by omega)
  have d2 : decide ((40 : Int) < (s.size : Int)) = false := dcf (by omega)
  go_enter Tryz.func90, Tryz.ntmps90
  go_wp2
  go_loop [3] (fun i => ∃ k : Nat, k ≤ s.size ∧ i = .int .i64 (k : Int) ∧ Hid (∀ i, i < k → okK (Lb.at8 s i))) (fun i => s.size - (intOf i).toNat)
  case atStart => exact ⟨0, Nat.zero_le _, rfl, Lib.hid fun i hi => absurd hi (by omega)⟩
  case round =>
    obtain ⟨k, hk, rfl, hall⟩ := hrel
    by_cases hlt : k < s.size
    · have hc := Lib.hid (Lb.at8_eq hlt)
      obtain ⟨c, hcd⟩ : ∃ c, c = s[k] := ⟨_, rfl⟩
      rw [← hcd] at hc
      have hcase : (okK c ∧ decide ((c.toNat : Int) ≤ 32) = false ∧ decide ((127 : Int) ≤ (c.toNat : Int)) = false) ∨ (¬ okK c ∧ decide ((c.toNat : Int) ≤ 32) = true) ∨ (¬ okK c ∧ decide ((c.toNat : Int) ≤ 32) = false ∧ decide ((127 : Int) ≤ (c.toNat : Int)) = true) := by
        unfold okK
        simp only [decide_eq_true_eq, decide_eq_false_iff_not]
        omega
      subst hcd
      rcases hcase with ⟨ho, d1, d2⟩ | ⟨ho, d1⟩ | ⟨ho, d1, d2⟩
      · have Hn := Lib.hid (key_step hall.out hc.out ho)
        clear ho
        go_wp2
        go_round
        case rel => exact ⟨k + 1, by omega, by go_num, Hn⟩
        case measure => simp [intOf]; omega
      all_goals
        have Hn := Lib.hid (key_bad hlt hc.out ho)
        clear ho
        go_wp2
        go_ret
        exact ⟨by rw [Hn.out]; rfl, rfl⟩
    · obtain rfl : k = s.size := by omega
      have H3 := Lib.hid (keyB_yes ⟨by omega, by omega, hall.out⟩)
      go_wp2
      go_ret
      exact ⟨by rw [H3.out]; rfl, rfl⟩

/-! ### what a word says -/
theorem parB_iff {s : ByteArray} : parB s = true ↔ ∃ l, Lb.ParP s.data.toList l := by unfold parB; simp
theorem par_yes (s : ByteArray) (w : World) (hs : s.size ≤ 100000) (hm : Sh w) (h : parB s = true) :
    Calls Tryz.prog 92 #[.string s] w fun e w' => (∃ v, e = .returned (.tuple #[v, .int .i64 0])) ∧ Below w.heap.size w w' := by
  refine (Lb.parse_calls s w hs hm).mono ?_
  rintro e w' (⟨l, A, c, rfl, -, -, hb⟩ | ⟨-, hn, -⟩)
  · exact ⟨⟨_, rfl⟩, hb⟩
  · obtain ⟨l, hl⟩ := parB_iff.1 h
    exact absurd hl (hn l)
theorem par_no (s : ByteArray) (w : World) (hs : s.size ≤ 100000) (hm : Sh w) (h : parB s = false) :
    Calls Tryz.prog 92 #[.string s] w fun e w' => (∃ v, e = .returned (.tuple #[v, .int .i64 4])) ∧ Below w.heap.size w w' := by
  refine (Lb.parse_calls s w hs hm).mono ?_
  rintro e w' (⟨l, A, c, rfl, hp, -, hb⟩ | ⟨rfl, -, hb⟩)
  · rw [parB_iff.2 ⟨l, hp⟩] at h; cases h
  · exact ⟨⟨_, rfl⟩, hb⟩
theorem parR_calls (s : ByteArray) (w : World) (hs : s.size ≤ 100000) :
    Calls Tryz.prog 89 #[.string s] w fun e w' => (∃ v, e = .returned (.tuple #[v, .bool (parB s)])) ∧ Below w.heap.size w w' := by
  refine (Lb.parseR_calls s w hs).mono ?_
  rintro e w' (⟨l, A, c, rfl, hp, -, hb⟩ | ⟨rfl, hn, hb⟩)
  · exact ⟨⟨_, by rw [parB_iff.2 ⟨l, hp⟩]⟩, hb⟩
  · have h : parB s = false := by
      cases h : parB s
      · rfl
      · obtain ⟨l, hl⟩ := parB_iff.1 h
        exact absurd hl (hn l)
    exact ⟨⟨_, by rw [h]⟩, hb⟩
end Go.Proofs.YtjbmlhipjceeeaaGreat.Mf

namespace Go.Proofs.YtjbmlhipjceeeaaGreat.Mf
set_option linter.unusedVariables false
set_option linter.unusedSimpArgs false
open Go.RowKit Go.Proofs.YtjbmlhipjceeeaaGreat

abbrev enV (x : En) : Value := .agg #[.string x.key, .int .i64 x.window, .string x.part, .int .i64 x.first, .int .i64 x.last, .int .i64 x.rows, .int .i64 x.size, .int .u32 x.sum, .int .i64 x.born]
set_option maxRecDepth 100000 in
set_option maxHeartbeats 3200000 in
theorem entry_calls (x : En) (w : World) (hx : x.Ok) (hp : x.part.size ≤ 100000) (hm : Sh w) : Calls Tryz.prog 51 #[enV x] w fun e w' => e = .returned (.bool (enB x)) ∧ Below w.heap.size w w' := by
  have HN := Lib.hid num_calls
  have HK := Lib.hid (fun W => key_calls x.key W hx.key)
  have HB := Lib.hid ((Below.refl w.heap.size w).alloc (Nat.le_refl _) (.cells #[.string x.key, .int .i64 x.window, .string x.part, .int .i64 x.first, .int .i64 x.last, .int .i64 x.rows, .int .i64 x.size, .int .u32 x.sum, .int .i64 x.born] 42))
  have HM := Lib.hid (hm.below HB.out hm.lt)
  have HD : Hid (enB x = (parB x.part && keyB x.key && numB x.window 0 && decide (0 ≤ x.first) && decide (x.first ≤ x.last) && decide (x.last < 1099511627776) && decide (1 ≤ x.rows) && decide (x.rows ≤ 2048) && decide (1 ≤ x.size) && decide (x.size ≤ 262144) && numB x.born 0)) := Lib.hid rfl
  generalize enB x = out at *
  clear hm hx
  cases hpar : parB x.part
  · have HP := Lib.hid (fun W (hW : Sh W) => par_no x.part W hp hW hpar)
    have HV : Hid (out = false) := Lib.hid (by rw [HD.out, hpar]; simp)
    clear hpar HD
    go_enter Tryz.func51, Tryz.ntmps51
    go_wp2_with fail
    refine (HP.out _ HM.out).mono ?_
    rintro e w1 ⟨⟨v, rfl⟩, hb1⟩
    have hbk : Blk w1 w.heap.size 42 #[.string x.key, .int .i64 x.window, .string x.part, .int .i64 x.first, .int .i64 x.last, .int .i64 x.rows, .int .i64 x.size, .int .u32 x.sum, .int .i64 x.born] := (Blk.new w 42 #[.string x.key, .int .i64 x.window, .string x.part, .int .i64 x.first, .int .i64 x.last, .int .i64 x.rows, .int .i64 x.size, .int .u32 x.sum, .int .i64 x.born]).below hb1 (by simp)
    obtain ⟨p0, p1, p2, p3, p4, p5, p6, p7, p8⟩ : w1.cell? ⟨w.heap.size, 0, none⟩ = some (.string x.key) ∧ w1.cell? ⟨w.heap.size, 1, none⟩ = some (.int .i64 x.window) ∧ w1.cell? ⟨w.heap.size, 2, none⟩ = some (.string x.part) ∧ w1.cell? ⟨w.heap.size, 3, none⟩ = some (.int .i64 x.first) ∧ w1.cell? ⟨w.heap.size, 4, none⟩ = some (.int .i64 x.last) ∧ w1.cell? ⟨w.heap.size, 5, none⟩ = some (.int .i64 x.rows) ∧ w1.cell? ⟨w.heap.size, 6, none⟩ = some (.int .i64 x.size) ∧ w1.cell? ⟨w.heap.size, 7, none⟩ = some (.int .u32 x.sum) ∧ w1.cell? ⟨w.heap.size, 8, none⟩ = some (.int .i64 x.born) := ⟨hbk.cell 0, hbk.cell 1, hbk.cell 2, hbk.cell 3, hbk.cell 4, hbk.cell 5, hbk.cell 6, hbk.cell 7, hbk.cell 8⟩
    have HB1 := Lib.hid (HB.out.trans (hb1.mono (by simp)))
    clear hbk hb1
    by_cases e0 : keyB x.key = true
    · have te0 : keyB x.key = true := e0
      by_cases e1 : numB x.window 0 = true
      · have te1 : numB x.window 0 = true := e1
        go_wp2_with first | (go_at_call 49; refine (HN.out _ _ _).mono ?_; rintro e w2 ⟨rfl, rfl⟩) | (go_at_call 73; refine (HK.out _).mono ?_; rintro e w2 ⟨rfl, rfl⟩)
        go_ret
        exact ⟨by rw [HV.out]; rfl, HB1.out⟩
      · have te1 : numB x.window 0 = false := by simpa using e1
        go_wp2_with first | (go_at_call 49; refine (HN.out _ _ _).mono ?_; rintro e w2 ⟨rfl, rfl⟩) | (go_at_call 73; refine (HK.out _).mono ?_; rintro e w2 ⟨rfl, rfl⟩)
        go_ret
        exact ⟨by rw [HV.out]; rfl, HB1.out⟩
    · have te0 : keyB x.key = false := by simpa using e0
      go_wp2_with first | (go_at_call 49; refine (HN.out _ _ _).mono ?_; rintro e w2 ⟨rfl, rfl⟩) | (go_at_call 73; refine (HK.out _).mono ?_; rintro e w2 ⟨rfl, rfl⟩)
      go_ret
      exact ⟨by rw [HV.out]; rfl, HB1.out⟩
  · have HP := Lib.hid (fun W (hW : Sh W) => par_yes x.part W hp hW hpar)
    have HD2 : Hid (out = (keyB x.key && numB x.window 0 && decide (0 ≤ x.first) && decide (x.first ≤ x.last) && decide (x.last < 1099511627776) && decide (1 ≤ x.rows) && decide (x.rows ≤ 2048) && decide (1 ≤ x.size) && decide (x.size ≤ 262144) && numB x.born 0)) := Lib.hid (by rw [HD.out, hpar]; rfl)
    clear hpar HD
    go_enter Tryz.func51, Tryz.ntmps51
    go_wp2_with fail
    refine (HP.out _ HM.out).mono ?_
    rintro e w1 ⟨⟨v, rfl⟩, hb1⟩
    have hbk : Blk w1 w.heap.size 42 #[.string x.key, .int .i64 x.window, .string x.part, .int .i64 x.first, .int .i64 x.last, .int .i64 x.rows, .int .i64 x.size, .int .u32 x.sum, .int .i64 x.born] := (Blk.new w 42 #[.string x.key, .int .i64 x.window, .string x.part, .int .i64 x.first, .int .i64 x.last, .int .i64 x.rows, .int .i64 x.size, .int .u32 x.sum, .int .i64 x.born]).below hb1 (by simp)
    obtain ⟨p0, p1, p2, p3, p4, p5, p6, p7, p8⟩ : w1.cell? ⟨w.heap.size, 0, none⟩ = some (.string x.key) ∧ w1.cell? ⟨w.heap.size, 1, none⟩ = some (.int .i64 x.window) ∧ w1.cell? ⟨w.heap.size, 2, none⟩ = some (.string x.part) ∧ w1.cell? ⟨w.heap.size, 3, none⟩ = some (.int .i64 x.first) ∧ w1.cell? ⟨w.heap.size, 4, none⟩ = some (.int .i64 x.last) ∧ w1.cell? ⟨w.heap.size, 5, none⟩ = some (.int .i64 x.rows) ∧ w1.cell? ⟨w.heap.size, 6, none⟩ = some (.int .i64 x.size) ∧ w1.cell? ⟨w.heap.size, 7, none⟩ = some (.int .u32 x.sum) ∧ w1.cell? ⟨w.heap.size, 8, none⟩ = some (.int .i64 x.born) := ⟨hbk.cell 0, hbk.cell 1, hbk.cell 2, hbk.cell 3, hbk.cell 4, hbk.cell 5, hbk.cell 6, hbk.cell 7, hbk.cell 8⟩
    have HB1 := Lib.hid (HB.out.trans (hb1.mono (by simp)))
    clear hbk hb1
    by_cases e0 : keyB x.key = true
    · have te0 : keyB x.key = true := e0
      by_cases e1 : numB x.window 0 = true
      · have te1 : numB x.window 0 = true := e1
        by_cases e2 : 0 ≤ x.first
        · have te2 : decide (0 ≤ x.first) = true := dct e2
          by_cases e3 : x.first ≤ x.last
          · have te3 : decide (x.first ≤ x.last) = true := dct e3
            by_cases e4 : x.last < 1099511627776
            · have te4 : decide (x.last < 1099511627776) = true := dct e4
              by_cases e5 : 1 ≤ x.rows
              · have te5 : decide (1 ≤ x.rows) = true := dct e5
                by_cases e6 : x.rows ≤ 2048
                · have te6 : decide (x.rows ≤ 2048) = true := dct e6
                  by_cases e7 : 1 ≤ x.size
                  · have te7 : decide (1 ≤ x.size) = true := dct e7
                    by_cases e8 : x.size ≤ 262144
                    · have te8 : decide (x.size ≤ 262144) = true := dct e8
                      have HV : Hid (out = numB x.born 0) := Lib.hid (by rw [HD2.out, te0, te1, te2, te3, te4, te5, te6, te7, te8]; rfl)
                      clear HD2
                      go_wp2_with first | (go_at_call 49; refine (HN.out _ _ _).mono ?_; rintro e w2 ⟨rfl, rfl⟩) | (go_at_call 73; refine (HK.out _).mono ?_; rintro e w2 ⟨rfl, rfl⟩)
                      go_ret
                      exact ⟨by rw [HV.out]; rfl, HB1.out⟩
                    · have te8 : decide (x.size ≤ 262144) = false := dcf e8
                      have HV : Hid (out = false) := Lib.hid (by rw [HD2.out, te8]; simp)
                      clear HD2
                      go_wp2_with first | (go_at_call 49; refine (HN.out _ _ _).mono ?_; rintro e w2 ⟨rfl, rfl⟩) | (go_at_call 73; refine (HK.out _).mono ?_; rintro e w2 ⟨rfl, rfl⟩)
                      go_ret
                      exact ⟨by rw [HV.out]; rfl, HB1.out⟩
                  · have te7 : decide (1 ≤ x.size) = false := dcf e7
                    have HV : Hid (out = false) := Lib.hid (by rw [HD2.out, te7]; simp)
                    clear HD2
                    go_wp2_with first | (go_at_call 49; refine (HN.out _ _ _).mono ?_; rintro e w2 ⟨rfl, rfl⟩) | (go_at_call 73; refine (HK.out _).mono ?_; rintro e w2 ⟨rfl, rfl⟩)
                    go_ret
                    exact ⟨by rw [HV.out]; rfl, HB1.out⟩
                · have te6 : decide (x.rows ≤ 2048) = false := dcf e6
                  have HV : Hid (out = false) := Lib.hid (by rw [HD2.out, te6]; simp)
                  clear HD2
                  go_wp2_with first | (go_at_call 49; refine (HN.out _ _ _).mono ?_; rintro e w2 ⟨rfl, rfl⟩) | (go_at_call 73; refine (HK.out _).mono ?_; rintro e w2 ⟨rfl, rfl⟩)
                  go_ret
                  exact ⟨by rw [HV.out]; rfl, HB1.out⟩
              · have te5 : decide (1 ≤ x.rows) = false := dcf e5
                have HV : Hid (out = false) := Lib.hid (by rw [HD2.out, te5]; simp)
                clear HD2
                go_wp2_with first | (go_at_call 49; refine (HN.out _ _ _).mono ?_; rintro e w2 ⟨rfl, rfl⟩) | (go_at_call 73; refine (HK.out _).mono ?_; rintro e w2 ⟨rfl, rfl⟩)
                go_ret
                exact ⟨by rw [HV.out]; rfl, HB1.out⟩
            · have te4 : decide (x.last < 1099511627776) = false := dcf e4
              have HV : Hid (out = false) := Lib.hid (by rw [HD2.out, te4]; simp)
              clear HD2
              go_wp2_with first | (go_at_call 49; refine (HN.out _ _ _).mono ?_; rintro e w2 ⟨rfl, rfl⟩) | (go_at_call 73; refine (HK.out _).mono ?_; rintro e w2 ⟨rfl, rfl⟩)
              go_ret
              exact ⟨by rw [HV.out]; rfl, HB1.out⟩
          · have te3 : decide (x.first ≤ x.last) = false := dcf e3
            have HV : Hid (out = false) := Lib.hid (by rw [HD2.out, te3]; simp)
            clear HD2
            go_wp2_with first | (go_at_call 49; refine (HN.out _ _ _).mono ?_; rintro e w2 ⟨rfl, rfl⟩) | (go_at_call 73; refine (HK.out _).mono ?_; rintro e w2 ⟨rfl, rfl⟩)
            go_ret
            exact ⟨by rw [HV.out]; rfl, HB1.out⟩
        · have te2 : decide (0 ≤ x.first) = false := dcf e2
          have HV : Hid (out = false) := Lib.hid (by rw [HD2.out, te2]; simp)
          clear HD2
          go_wp2_with first | (go_at_call 49; refine (HN.out _ _ _).mono ?_; rintro e w2 ⟨rfl, rfl⟩) | (go_at_call 73; refine (HK.out _).mono ?_; rintro e w2 ⟨rfl, rfl⟩)
          go_ret
          exact ⟨by rw [HV.out]; rfl, HB1.out⟩
      · have te1 : numB x.window 0 = false := by simpa using e1
        have HV : Hid (out = false) := Lib.hid (by rw [HD2.out, te1]; simp)
        clear HD2
        go_wp2_with first | (go_at_call 49; refine (HN.out _ _ _).mono ?_; rintro e w2 ⟨rfl, rfl⟩) | (go_at_call 73; refine (HK.out _).mono ?_; rintro e w2 ⟨rfl, rfl⟩)
        go_ret
        exact ⟨by rw [HV.out]; rfl, HB1.out⟩
    · have te0 : keyB x.key = false := by simpa using e0
      have HV : Hid (out = false) := Lib.hid (by rw [HD2.out, te0]; simp)
      clear HD2
      go_wp2_with first | (go_at_call 49; refine (HN.out _ _ _).mono ?_; rintro e w2 ⟨rfl, rfl⟩) | (go_at_call 73; refine (HK.out _).mono ?_; rintro e w2 ⟨rfl, rfl⟩)
      go_ret
      exact ⟨by rw [HV.out]; rfl, HB1.out⟩
set_option maxRecDepth 100000 in
set_option maxHeartbeats 3200000 in
theorem entryR_calls (x : En) (w : World) (hx : x.Ok) (hp : x.part.size ≤ 100000) : Calls Tryz.prog 45 #[enV x] w fun e w' => e = .returned (.bool (enB x)) ∧ Below w.heap.size w w' := by
  have HN := Lib.hid numR_calls
  have HK := Lib.hid (fun W => keyR_calls x.key W hx.key)
  have HB := Lib.hid ((Below.refl w.heap.size w).alloc (Nat.le_refl _) (.cells #[.string x.key, .int .i64 x.window, .string x.part, .int .i64 x.first, .int .i64 x.last, .int .i64 x.rows, .int .i64 x.size, .int .u32 x.sum, .int .i64 x.born] 42))
  have HD : Hid (enB x = (parB x.part && keyB x.key && numB x.window 0 && decide (0 ≤ x.first) && decide (x.first ≤ x.last) && decide (x.last < 1099511627776) && decide (1 ≤ x.rows) && decide (x.rows ≤ 2048) && decide (1 ≤ x.size) && decide (x.size ≤ 262144) && numB x.born 0)) := Lib.hid rfl
  generalize enB x = out at *
  have HP := Lib.hid (fun W => parR_calls x.part W hp)
  generalize parB x.part = pb at *
  clear hx
  go_enter Tryz.func45, Tryz.ntmps45
  go_wp2_with fail
  refine (HP.out _).mono ?_
  rintro e w1 ⟨⟨v, rfl⟩, hb1⟩
  have hbk : Blk w1 w.heap.size 42 #[.string x.key, .int .i64 x.window, .string x.part, .int .i64 x.first, .int .i64 x.last, .int .i64 x.rows, .int .i64 x.size, .int .u32 x.sum, .int .i64 x.born] := (Blk.new w 42 #[.string x.key, .int .i64 x.window, .string x.part, .int .i64 x.first, .int .i64 x.last, .int .i64 x.rows, .int .i64 x.size, .int .u32 x.sum, .int .i64 x.born]).below hb1 (by simp)
  obtain ⟨p0, p1, p2, p3, p4, p5, p6, p7, p8⟩ : w1.cell? ⟨w.heap.size, 0, none⟩ = some (.string x.key) ∧ w1.cell? ⟨w.heap.size, 1, none⟩ = some (.int .i64 x.window) ∧ w1.cell? ⟨w.heap.size, 2, none⟩ = some (.string x.part) ∧ w1.cell? ⟨w.heap.size, 3, none⟩ = some (.int .i64 x.first) ∧ w1.cell? ⟨w.heap.size, 4, none⟩ = some (.int .i64 x.last) ∧ w1.cell? ⟨w.heap.size, 5, none⟩ = some (.int .i64 x.rows) ∧ w1.cell? ⟨w.heap.size, 6, none⟩ = some (.int .i64 x.size) ∧ w1.cell? ⟨w.heap.size, 7, none⟩ = some (.int .u32 x.sum) ∧ w1.cell? ⟨w.heap.size, 8, none⟩ = some (.int .i64 x.born) := ⟨hbk.cell 0, hbk.cell 1, hbk.cell 2, hbk.cell 3, hbk.cell 4, hbk.cell 5, hbk.cell 6, hbk.cell 7, hbk.cell 8⟩
  have HB1 := Lib.hid (HB.out.trans (hb1.mono (by simp)))
  clear hbk hb1
  -- num(First), num(Last) ask more than the program does: the chain takes it apart
  by_cases e0 : pb = true
  · have te0 : pb = true := e0
    by_cases e1 : keyB x.key = true
    · have te1 : keyB x.key = true := e1
      by_cases e2 : numB x.window 0 = true
      · have te2 : numB x.window 0 = true := e2
        by_cases e3 : numB x.first 0 = true
        · have te3 : numB x.first 0 = true := e3
          by_cases e4 : numB x.last 0 = true
          · have te4 : numB x.last 0 = true := e4
            by_cases e5 : x.first ≤ x.last
            · have te5 : decide (x.last < x.first) = false := dcf (by omega)
              by_cases e6 : 1 ≤ x.rows
              · have te6 : decide (1 ≤ x.rows) = true := dct e6
                by_cases e7 : x.rows ≤ 2048
                · have te7 : decide (x.rows ≤ 2048) = true := dct e7
                  by_cases e8 : 1 ≤ x.size
                  · have te8 : decide (1 ≤ x.size) = true := dct e8
                    by_cases e9 : x.size ≤ 262144
                    · have te9 : decide (x.size ≤ 262144) = true := dct e9
                      have HV : Hid (out = numB x.born 0) := Lib.hid (by
                        have h3 := numB_iff.1 te3
                        have h4 := numB_iff.1 te4
                        rw [HD.out, te0, te1, te2, dct h3.1, dct e5, dct h4.2, te6, te7, te8, te9]; rfl)
                      clear HD
                      go_wp2_with first | (go_at_call 43; refine (HN.out _ _ _).mono ?_; rintro e w2 ⟨rfl, rfl⟩) | (go_at_call 90; refine (HK.out _).mono ?_; rintro e w2 ⟨rfl, rfl⟩)
                      go_ret
                      exact ⟨by rw [HV.out]; rfl, HB1.out⟩
                    · have te9 : decide (x.size ≤ 262144) = false := dcf e9
                      have HV : Hid (out = false) := Lib.hid (by
                        have hd := HD.out
                        clear HD HN HK HP HB HB1
                        cases out
                        · rfl
                        · exfalso
                          have hd := hd.symm
                          simp only [Bool.and_eq_true, decide_eq_true_eq] at hd
                          obtain ⟨⟨⟨⟨⟨⟨⟨⟨⟨⟨y0, y1⟩, y2⟩, y3⟩, y4⟩, y5⟩, y6⟩, y7⟩, y8⟩, y9⟩, -⟩ := hd
                          have z3 : numB x.first 0 = true := numB_iff.2 ⟨y3, by omega⟩
                          have z4 : numB x.last 0 = true := numB_iff.2 ⟨by omega, y5⟩
                          first | (rw [y0] at te9; cases te9) | (rw [y1] at te9; cases te9) | (rw [y2] at te9; cases te9) | (rw [z3] at te9; cases te9) | (rw [z4] at te9; cases te9) | (have tt := of_decide_eq_true te9; omega) | (have tt := of_decide_eq_false te9; omega))
                      clear HD
                      go_wp2_with first | (go_at_call 43; refine (HN.out _ _ _).mono ?_; rintro e w2 ⟨rfl, rfl⟩) | (go_at_call 90; refine (HK.out _).mono ?_; rintro e w2 ⟨rfl, rfl⟩)
                      go_ret
                      exact ⟨by rw [HV.out]; rfl, HB1.out⟩
                  · have te8 : decide (1 ≤ x.size) = false := dcf e8
                    have HV : Hid (out = false) := Lib.hid (by
                      have hd := HD.out
                      clear HD HN HK HP HB HB1
                      cases out
                      · rfl
                      · exfalso
                        have hd := hd.symm
                        simp only [Bool.and_eq_true, decide_eq_true_eq] at hd
                        obtain ⟨⟨⟨⟨⟨⟨⟨⟨⟨⟨y0, y1⟩, y2⟩, y3⟩, y4⟩, y5⟩, y6⟩, y7⟩, y8⟩, y9⟩, -⟩ := hd
                        have z3 : numB x.first 0 = true := numB_iff.2 ⟨y3, by omega⟩
                        have z4 : numB x.last 0 = true := numB_iff.2 ⟨by omega, y5⟩
                        first | (rw [y0] at te8; cases te8) | (rw [y1] at te8; cases te8) | (rw [y2] at te8; cases te8) | (rw [z3] at te8; cases te8) | (rw [z4] at te8; cases te8) | (have tt := of_decide_eq_true te8; omega) | (have tt := of_decide_eq_false te8; omega))
                    clear HD
                    go_wp2_with first | (go_at_call 43; refine (HN.out _ _ _).mono ?_; rintro e w2 ⟨rfl, rfl⟩) | (go_at_call 90; refine (HK.out _).mono ?_; rintro e w2 ⟨rfl, rfl⟩)
                    go_ret
                    exact ⟨by rw [HV.out]; rfl, HB1.out⟩
                · have te7 : decide (x.rows ≤ 2048) = false := dcf e7
                  have HV : Hid (out = false) := Lib.hid (by
                    have hd := HD.out
                    clear HD HN HK HP HB HB1
                    cases out
                    · rfl
                    · exfalso
                      have hd := hd.symm
                      simp only [Bool.and_eq_true, decide_eq_true_eq] at hd
                      obtain ⟨⟨⟨⟨⟨⟨⟨⟨⟨⟨y0, y1⟩, y2⟩, y3⟩, y4⟩, y5⟩, y6⟩, y7⟩, y8⟩, y9⟩, -⟩ := hd
                      have z3 : numB x.first 0 = true := numB_iff.2 ⟨y3, by omega⟩
                      have z4 : numB x.last 0 = true := numB_iff.2 ⟨by omega, y5⟩
                      first | (rw [y0] at te7; cases te7) | (rw [y1] at te7; cases te7) | (rw [y2] at te7; cases te7) | (rw [z3] at te7; cases te7) | (rw [z4] at te7; cases te7) | (have tt := of_decide_eq_true te7; omega) | (have tt := of_decide_eq_false te7; omega))
                  clear HD
                  go_wp2_with first | (go_at_call 43; refine (HN.out _ _ _).mono ?_; rintro e w2 ⟨rfl, rfl⟩) | (go_at_call 90; refine (HK.out _).mono ?_; rintro e w2 ⟨rfl, rfl⟩)
                  go_ret
                  exact ⟨by rw [HV.out]; rfl, HB1.out⟩
              · have te6 : decide (1 ≤ x.rows) = false := dcf e6
                have HV : Hid (out = false) := Lib.hid (by
                  have hd := HD.out
                  clear HD HN HK HP HB HB1
                  cases out
                  · rfl
                  · exfalso
                    have hd := hd.symm
                    simp only [Bool.and_eq_true, decide_eq_true_eq] at hd
                    obtain ⟨⟨⟨⟨⟨⟨⟨⟨⟨⟨y0, y1⟩, y2⟩, y3⟩, y4⟩, y5⟩, y6⟩, y7⟩, y8⟩, y9⟩, -⟩ := hd
                    have z3 : numB x.first 0 = true := numB_iff.2 ⟨y3, by omega⟩
                    have z4 : numB x.last 0 = true := numB_iff.2 ⟨by omega, y5⟩
                    first | (rw [y0] at te6; cases te6) | (rw [y1] at te6; cases te6) | (rw [y2] at te6; cases te6) | (rw [z3] at te6; cases te6) | (rw [z4] at te6; cases te6) | (have tt := of_decide_eq_true te6; omega) | (have tt := of_decide_eq_false te6; omega))
                clear HD
                go_wp2_with first | (go_at_call 43; refine (HN.out _ _ _).mono ?_; rintro e w2 ⟨rfl, rfl⟩) | (go_at_call 90; refine (HK.out _).mono ?_; rintro e w2 ⟨rfl, rfl⟩)
                go_ret
                exact ⟨by rw [HV.out]; rfl, HB1.out⟩
            · have te5 : decide (x.last < x.first) = true := dct (by omega)
              have HV : Hid (out = false) := Lib.hid (by
                have hd := HD.out
                clear HD HN HK HP HB HB1
                cases out
                · rfl
                · exfalso
                  have hd := hd.symm
                  simp only [Bool.and_eq_true, decide_eq_true_eq] at hd
                  obtain ⟨⟨⟨⟨⟨⟨⟨⟨⟨⟨y0, y1⟩, y2⟩, y3⟩, y4⟩, y5⟩, y6⟩, y7⟩, y8⟩, y9⟩, -⟩ := hd
                  have z3 : numB x.first 0 = true := numB_iff.2 ⟨y3, by omega⟩
                  have z4 : numB x.last 0 = true := numB_iff.2 ⟨by omega, y5⟩
                  first | (rw [y0] at te5; cases te5) | (rw [y1] at te5; cases te5) | (rw [y2] at te5; cases te5) | (rw [z3] at te5; cases te5) | (rw [z4] at te5; cases te5) | (have tt := of_decide_eq_true te5; omega) | (have tt := of_decide_eq_false te5; omega))
              clear HD
              go_wp2_with first | (go_at_call 43; refine (HN.out _ _ _).mono ?_; rintro e w2 ⟨rfl, rfl⟩) | (go_at_call 90; refine (HK.out _).mono ?_; rintro e w2 ⟨rfl, rfl⟩)
              go_ret
              exact ⟨by rw [HV.out]; rfl, HB1.out⟩
          · have te4 : numB x.last 0 = false := by simpa using e4
            have HV : Hid (out = false) := Lib.hid (by
              have hd := HD.out
              clear HD HN HK HP HB HB1
              cases out
              · rfl
              · exfalso
                have hd := hd.symm
                simp only [Bool.and_eq_true, decide_eq_true_eq] at hd
                obtain ⟨⟨⟨⟨⟨⟨⟨⟨⟨⟨y0, y1⟩, y2⟩, y3⟩, y4⟩, y5⟩, y6⟩, y7⟩, y8⟩, y9⟩, -⟩ := hd
                have z3 : numB x.first 0 = true := numB_iff.2 ⟨y3, by omega⟩
                have z4 : numB x.last 0 = true := numB_iff.2 ⟨by omega, y5⟩
                first | (rw [y0] at te4; cases te4) | (rw [y1] at te4; cases te4) | (rw [y2] at te4; cases te4) | (rw [z3] at te4; cases te4) | (rw [z4] at te4; cases te4) | (have tt := of_decide_eq_true te4; omega) | (have tt := of_decide_eq_false te4; omega))
            clear HD
            go_wp2_with first | (go_at_call 43; refine (HN.out _ _ _).mono ?_; rintro e w2 ⟨rfl, rfl⟩) | (go_at_call 90; refine (HK.out _).mono ?_; rintro e w2 ⟨rfl, rfl⟩)
            go_ret
            exact ⟨by rw [HV.out]; rfl, HB1.out⟩
        · have te3 : numB x.first 0 = false := by simpa using e3
          have HV : Hid (out = false) := Lib.hid (by
            have hd := HD.out
            clear HD HN HK HP HB HB1
            cases out
            · rfl
            · exfalso
              have hd := hd.symm
              simp only [Bool.and_eq_true, decide_eq_true_eq] at hd
              obtain ⟨⟨⟨⟨⟨⟨⟨⟨⟨⟨y0, y1⟩, y2⟩, y3⟩, y4⟩, y5⟩, y6⟩, y7⟩, y8⟩, y9⟩, -⟩ := hd
              have z3 : numB x.first 0 = true := numB_iff.2 ⟨y3, by omega⟩
              have z4 : numB x.last 0 = true := numB_iff.2 ⟨by omega, y5⟩
              first | (rw [y0] at te3; cases te3) | (rw [y1] at te3; cases te3) | (rw [y2] at te3; cases te3) | (rw [z3] at te3; cases te3) | (rw [z4] at te3; cases te3) | (have tt := of_decide_eq_true te3; omega) | (have tt := of_decide_eq_false te3; omega))
          clear HD
          go_wp2_with first | (go_at_call 43; refine (HN.out _ _ _).mono ?_; rintro e w2 ⟨rfl, rfl⟩) | (go_at_call 90; refine (HK.out _).mono ?_; rintro e w2 ⟨rfl, rfl⟩)
          go_ret
          exact ⟨by rw [HV.out]; rfl, HB1.out⟩
      · have te2 : numB x.window 0 = false := by simpa using e2
        have HV : Hid (out = false) := Lib.hid (by
          have hd := HD.out
          clear HD HN HK HP HB HB1
          cases out
          · rfl
          · exfalso
            have hd := hd.symm
            simp only [Bool.and_eq_true, decide_eq_true_eq] at hd
            obtain ⟨⟨⟨⟨⟨⟨⟨⟨⟨⟨y0, y1⟩, y2⟩, y3⟩, y4⟩, y5⟩, y6⟩, y7⟩, y8⟩, y9⟩, -⟩ := hd
            have z3 : numB x.first 0 = true := numB_iff.2 ⟨y3, by omega⟩
            have z4 : numB x.last 0 = true := numB_iff.2 ⟨by omega, y5⟩
            first | (rw [y0] at te2; cases te2) | (rw [y1] at te2; cases te2) | (rw [y2] at te2; cases te2) | (rw [z3] at te2; cases te2) | (rw [z4] at te2; cases te2) | (have tt := of_decide_eq_true te2; omega) | (have tt := of_decide_eq_false te2; omega))
        clear HD
        go_wp2_with first | (go_at_call 43; refine (HN.out _ _ _).mono ?_; rintro e w2 ⟨rfl, rfl⟩) | (go_at_call 90; refine (HK.out _).mono ?_; rintro e w2 ⟨rfl, rfl⟩)
        go_ret
        exact ⟨by rw [HV.out]; rfl, HB1.out⟩
    · have te1 : keyB x.key = false := by simpa using e1
      have HV : Hid (out = false) := Lib.hid (by
        have hd := HD.out
        clear HD HN HK HP HB HB1
        cases out
        · rfl
        · exfalso
          have hd := hd.symm
          simp only [Bool.and_eq_true, decide_eq_true_eq] at hd
          obtain ⟨⟨⟨⟨⟨⟨⟨⟨⟨⟨y0, y1⟩, y2⟩, y3⟩, y4⟩, y5⟩, y6⟩, y7⟩, y8⟩, y9⟩, -⟩ := hd
          have z3 : numB x.first 0 = true := numB_iff.2 ⟨y3, by omega⟩
          have z4 : numB x.last 0 = true := numB_iff.2 ⟨by omega, y5⟩
          first | (rw [y0] at te1; cases te1) | (rw [y1] at te1; cases te1) | (rw [y2] at te1; cases te1) | (rw [z3] at te1; cases te1) | (rw [z4] at te1; cases te1) | (have tt := of_decide_eq_true te1; omega) | (have tt := of_decide_eq_false te1; omega))
      clear HD
      go_wp2_with first | (go_at_call 43; refine (HN.out _ _ _).mono ?_; rintro e w2 ⟨rfl, rfl⟩) | (go_at_call 90; refine (HK.out _).mono ?_; rintro e w2 ⟨rfl, rfl⟩)
      go_ret
      exact ⟨by rw [HV.out]; rfl, HB1.out⟩
  · have te0 : pb = false := by simpa using e0
    have HV : Hid (out = false) := Lib.hid (by
      have hd := HD.out
      clear HD HN HK HP HB HB1
      cases out
      · rfl
      · exfalso
        have hd := hd.symm
        simp only [Bool.and_eq_true, decide_eq_true_eq] at hd
        obtain ⟨⟨⟨⟨⟨⟨⟨⟨⟨⟨y0, y1⟩, y2⟩, y3⟩, y4⟩, y5⟩, y6⟩, y7⟩, y8⟩, y9⟩, -⟩ := hd
        have z3 : numB x.first 0 = true := numB_iff.2 ⟨y3, by omega⟩
        have z4 : numB x.last 0 = true := numB_iff.2 ⟨by omega, y5⟩
        first | (rw [y0] at te0; cases te0) | (rw [y1] at te0; cases te0) | (rw [y2] at te0; cases te0) | (rw [z3] at te0; cases te0) | (rw [z4] at te0; cases te0) | (have tt := of_decide_eq_true te0; omega) | (have tt := of_decide_eq_false te0; omega))
    clear HD
    go_wp2_with first | (go_at_call 43; refine (HN.out _ _ _).mono ?_; rintro e w2 ⟨rfl, rfl⟩) | (go_at_call 90; refine (HK.out _).mono ?_; rintro e w2 ⟨rfl, rfl⟩)
    go_ret
    exact ⟨by rw [HV.out]; rfl, HB1.out⟩
end Go.Proofs.YtjbmlhipjceeeaaGreat.Mf
