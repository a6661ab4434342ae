/- Labels: Part of both, Get (chapter 8), for later layers. -/
import Derived.Test.YtennddlihcamnaaProg
import Derived.Test.YtennddlihcamnaaLabTV
import Derived.Test.YtennddlihcamnaaLabTw
import Derived.Test.YtennddlihcamnaaShelf
namespace Go.Proofs.Ytennddlihcamnaa
set_option linter.unusedVariables false
set_option linter.unusedSimpArgs false
open Go.RowKit

/-! ### strings in a row -/
/-- A slice of strings reads. -/
def Strs (w : World) (B : Nat) (A : Option Addr) (l : List ByteArray) : Prop := Reads w B 1 A l.length (l.map .string)
section
variable {w w' : World} {B B' : Nat} {A : Option Addr} {l : List ByteArray}
theorem Strs.below (h : Strs w B A l) (hb : Below B w w') : Strs w' B A l := Reads.below h hb
theorem Strs.more (h : Strs w B A l) (hb : B ≤ B') : Strs w B' A l := Reads.more h hb
theorem Strs.nil_ : Strs w B A [] := ⟨rfl, fun h => absurd h (by simp)⟩
def strAt (l : List ByteArray) (i : Nat) : ByteArray := l.getD i ByteArray.empty
theorem Strs.cellAt (h : Strs w B A l) (hp : 0 < l.length) : ∃ b off, A = some ⟨b, off, none⟩ ∧ b < B ∧ ∀ j, j < l.length → w.cell? ⟨b, off + j, none⟩ = some (.string (strAt l j)) := by
  obtain ⟨b, off, e, hb, hc⟩ := h.2 hp
  exact ⟨b, off, e, hb, fun j hj => hc j _ (by simp [strAt, List.getD, List.getElem?_eq_getElem hj])⟩
end
theorem strs_one (l : List ByteArray) : ∀ u ∈ l.map Value.string, u.oneCell' = true := by
  intro u hu
  obtain ⟨x, _, rfl⟩ := List.mem_map.1 hu
  rfl

def hasB (by_ : List ByteArray) (x : ByteArray) : Bool := by_.any fun y => decide (y = x)
def partB (l : List Lab) (by_ : List ByteArray) : List Lab := l.filter fun x => hasB by_ x.1

theorem contains_calls (w : World) {B c : Nat} {A : Option Addr} {by_ : List ByteArray} (h : Strs w B A by_) (hn : by_.length ≤ 140737488355328) (x : ByteArray) :
    Calls Try.prog 61 #[.slice A by_.length c, .string x] w fun e w' => e = .returned (.bool (hasB by_ x)) ∧ w = w' := by
  rcases Nat.eq_zero_or_pos by_.length with h0 | h0
  · have : by_ = [] := List.eq_nil_of_length_eq_zero h0
    subst this
    refine (Try.slices_Contains_string_empty A c x w).mono ?_
    rintro e w' ⟨rfl, rfl⟩
    exact ⟨by simp [hasB], rfl⟩
  · obtain ⟨b, off, rfl, _, hc⟩ := h.cellAt h0
    refine (Try.slices_Contains_string b off by_.length c by_ x w (Nat.le_refl _) (by omega) hc).mono ?_
    rintro e w' ⟨rfl, rfl⟩
    refine ⟨?_, rfl⟩
    rw [List.take_length]
    congr 2
    rw [Bool.eq_iff_iff, Lib.containsS_iff]
    simp [hasB]

theorem part_take {l : List Lab} {by_ : List ByteArray} {k : Nat} (hk : k < l.length) : partB (l.take (k + 1)) by_ = partB (l.take k) by_ ++ (if hasB by_ (labAt l k).1 = true then [labAt l k] else []) := by
  have e : l.take (k + 1) = l.take k ++ [labAt l k] := by rw [List.take_add_one, List.getElem?_eq_getElem hk, ← labAt_eq hk]; rfl
  rw [e, partB, List.filter_append]
  congr 1
  by_cases h : hasB by_ (labAt l k).1 = true <;> simp [h]
theorem part_yes {l : List Lab} {by_ : List ByteArray} {k : Nat} (hk : k < l.length) (h : hasB by_ (labAt l k).1 = true) : partB (l.take (k + 1)) by_ = partB (l.take k) by_ ++ [labAt l k] := by rw [part_take hk, if_pos h]
theorem part_none {l : List Lab} {by_ : List ByteArray} {k : Nat} (hk : k < l.length) (h : hasB by_ (labAt l k).1 = false) : partB (l.take (k + 1)) by_ = partB (l.take k) by_ := by rw [part_take hk, if_neg (by simp [h]), List.append_nil]
theorem part_len (l : List Lab) (by_ : List ByteArray) (k : Nat) : (partB (l.take k) by_).length ≤ k := by
  have := List.length_filter_le (fun x : Lab => hasB by_ x.1) (l.take k)
  have h2 : (l.take k).length ≤ k := List.length_take_le _ _
  unfold partB
  omega
theorem labCells_snoc (l : List Lab) (x : Lab) : labCells l ++ [.string x.1, .string x.2] = labCells (l ++ [x]) := by simp [labCells]

/-- A result: a row of labels of the call's own (or none). -/
def RetLabs (w : World) (l : List Lab) (e : Ending) (w' : World) : Prop := ∃ A c, e = .returned (.slice A l.length c) ∧ Labs w' w'.heap.size A l ∧ w'.ownsRow w.heap.size 39 2 (.slice A l.length c) l.length (labCells l) ∧ Below w.heap.size w w'

set_option maxRecDepth 100000 in
set_option maxHeartbeats 800000 in
theorem part_calls (w : World) {B B2 c c2 : Nat} {A A2 : Option Addr} {l : List Lab} {by_ : List ByteArray} (h : Labs w B A l) (hB : B ≤ w.heap.size) (h2 : Strs w B2 A2 by_) (hB2 : B2 ≤ w.heap.size) (hn : l.length ≤ 4398046511104) (hn2 : by_.length ≤ 140737488355328) :
    Calls Try.prog 43 #[.slice A l.length c, .slice A2 by_.length c2] w (RetLabs w (partB l by_)) := by
  go_enter Try.func43, Try.ntmps43
  go_wp2
  go_loopw [5, 10] (fun v i wr => ∃ k n : Nat, k ≤ l.length ∧ i = .int .i64 (k : Int) ∧ n ≤ k ∧ (∃ A' c', v = .slice A' n c' ∧ wr.ownsRow w.heap.size 39 2 v n (labCells (partB (l.take k) by_))) ∧ Hid ((partB (l.take k) by_).length = n) ∧ Below w.heap.size w wr) (fun _ i _ => l.length - (intOf i).toNat)
  case atStart => exact ⟨0, 0, Nat.zero_le _, rfl, Nat.le_refl _, ⟨none, 0, rfl, World.ownsRow_nil _ _ _ _⟩, Lib.hid rfl, Below.refl _ _⟩
  case round =>
    obtain ⟨k, n, hk, rfl, hnk, ⟨A', c', rfl, hown⟩, Hlen, hbel⟩ := hrel
    by_cases hlt : k < l.length
    · obtain ⟨b, off, rfl, hbB, hcell⟩ := (h.below (hbel.mono hB)).cellAt (show 0 < l.length by omega)
      obtain ⟨q0, q1⟩ := hcell k hlt
      have hsz := hbel.size
      clear hcell
      have h2r := h2.below (hbel.mono hB2)
      by_cases hm : hasB by_ (labAt l k).1 = true
      · have Hst := Lib.hid (part_yes hlt hm)
        have Hm := Lib.hid hm
        clear hm
        generalize hx : labAt l k = x at *
        clear hx
        go_wp2_with fail
        refine (contains_calls _ (h2r.below ((Below.refl _ _).alloc (by omega) _)) hn2 _).mono ?_
        rw [Hm.out]
        rintro e w1 ⟨rfl, rfl⟩
        have e1 : (wr.alloc (.cells #[.string x.1, .string x.2] 39)).heap.size = wr.heap.size + 1 := by simp
        have hrd : Reads ((wr.alloc (.cells #[.string x.1, .string x.2] 39)).alloc (.cells #[.string x.1, .string x.2] 39)) (wr.heap.size + 2) 2 (some ⟨wr.heap.size + 1, 0, none⟩) 1 (labCells [x]) := by
          have := Reads.made (n := 1) (size := 2) (wr.alloc (.cells #[.string x.1, .string x.2] 39)) #[.string x.1, .string x.2] 39 rfl
          rw [e1] at this
          exact this
        have hln := Hlen.out
        go_wp2_with (at_builtin; go_must (refine wpList_append_sl _ rfl (.tmp 18) (.tmp 20) _ rfl w.heap.size 39 _ 2 32 Try.underlying26 Try.infoLab rfl (by omega) _ _ _ rfl ((hown.alloc _).alloc _) (wr.heap.size + 2) _ 1 1 (labCells [x]) rfl hrd (labCells_one _) (by unfold maxLen; omega) (by omega) (by simp; omega) ?_))
        intro A2' c2' w2 hc1 hc2 hrd2 hbel2 hown2 _ _
        have hown3 : w2.ownsRow w.heap.size 39 2 (.slice A2' (n + 1) c2') (n + 1) (labCells (partB (l.take (k + 1)) by_)) := by rw [Hst.out, labCells_app]; exact hown2
        have Hl2 : Hid ((partB (l.take (k + 1)) by_).length = n + 1) := Lib.hid (by rw [Hst.out, List.length_append, hln]; rfl)
        go_wp2
        go_roundw
        case rel => exact ⟨k + 1, n + 1, by omega, by go_num, by omega, ⟨A2', c2', rfl, hown3⟩, Hl2, ((hbel.alloc hsz _).alloc (by simp; omega) _).trans hbel2⟩
        case measure => simp [intOf]; omega
      · have hm : hasB by_ (labAt l k).1 = false := by simpa using hm
        have Hst := Lib.hid (part_none hlt hm)
        have Hm := Lib.hid hm
        clear hm
        generalize hx : labAt l k = x at *
        clear hx
        go_wp2_with fail
        refine (contains_calls _ (h2r.below ((Below.refl _ _).alloc (by omega) _)) hn2 _).mono ?_
        rw [Hm.out]
        rintro e w1 ⟨rfl, rfl⟩
        go_wp2
        go_roundw
        case rel => exact ⟨k + 1, n, by omega, by go_num, by omega, ⟨A', c', rfl, by rw [Hst.out]; exact hown.alloc _⟩, Lib.hid (by rw [Hst.out]; exact Hlen.out), hbel.alloc hsz _⟩
        case measure => simp [intOf]; omega
    · obtain rfl : k = l.length := by omega
      go_wp2
      go_ret
      have e1 : l.take l.length = l := List.take_length
      have hl := Hlen.out
      rw [e1] at hown hl
      subst hl
      exact ⟨_, _, rfl, Reads.of_own hown, hown, hbel⟩

theorem has_yes {by_ : List ByteArray} {x : ByteArray} {j : Nat} (hj : j < by_.length) (h : strAt by_ j = x) : hasB by_ x = true := by
  unfold hasB
  rw [List.any_eq_true]
  exact ⟨by_[j], List.getElem_mem hj, by rw [decide_eq_true_iff, ← h]; simp [strAt, List.getD, List.getElem?_eq_getElem hj]⟩
theorem has_no {by_ : List ByteArray} {x : ByteArray} (h : ∀ j, j < by_.length → strAt by_ j ≠ x) : hasB by_ x = false := by
  unfold hasB
  rw [List.any_eq_false]
  intro y hy
  obtain ⟨j, hj, rfl⟩ := List.getElem_of_mem hy
  have := h j hj
  simpa [strAt, List.getD, List.getElem?_eq_getElem hj] using this

set_option maxRecDepth 100000 in
set_option maxHeartbeats 1600000 in
theorem partR_calls (w : World) {B B2 c c2 : Nat} {A A2 : Option Addr} {l : List Lab} {by_ : List ByteArray} (h : Labs w B A l) (hB : B ≤ w.heap.size) (h2 : Strs w B2 A2 by_) (hB2 : B2 ≤ w.heap.size) (hn : l.length ≤ 4398046511104) (hn2 : by_.length ≤ 140737488355328) :
    Calls Try.prog 28 #[.slice A l.length c, .slice A2 by_.length c2] w (RetLabs w (partB l by_)) := by
  go_enter Try.func28, Try.ntmps28
  go_wp2
  go_loopw [5, 13] (fun v i wr => ∃ k n : Nat, k ≤ l.length ∧ i = .int .i64 (k : Int) ∧ n ≤ k ∧ (∃ A' c', v = .slice A' n c' ∧ wr.ownsRow w.heap.size 39 2 v n (labCells (partB (l.take k) by_))) ∧ Hid ((partB (l.take k) by_).length = n) ∧ Below w.heap.size w wr) (fun _ i _ => l.length - (intOf i).toNat)
  case atStart => exact ⟨0, 0, Nat.zero_le _, rfl, Nat.le_refl _, ⟨_, 0, rfl, World.ownsRow_made w #[] 0 (Nat.le_refl _) (Nat.zero_le _) rfl⟩, Lib.hid rfl, (Below.refl _ _).alloc (Nat.le_refl _) _⟩
  case round =>
    obtain ⟨k, n, hk, rfl, hnk, ⟨A', c', rfl, hown⟩, Hlen, hbel⟩ := hrel
    by_cases hlt : k < l.length
    · obtain ⟨b, off, rfl, hbB, hcell⟩ := (h.below (hbel.mono hB)).cellAt (show 0 < l.length by omega)
      obtain ⟨q0, q1⟩ := hcell k hlt
      have hsz := hbel.size
      clear hcell
      have h2r := (h2.below (hbel.mono hB2)).below ((Below.refl B2 wr).alloc (by omega) (.cells #[.string (labAt l k).1, .string (labAt l k).2] 39))
      have Hpy := Lib.hid fun hm => part_yes (by_ := by_) hlt hm
      have Hpn := Lib.hid fun hm => part_none (by_ := by_) hlt hm
      generalize hx : labAt l k = x at *
      clear hx
      have e1 : (wr.alloc (.cells #[.string x.1, .string x.2] 39)).heap.size = wr.heap.size + 1 := by simp
      have hrd : Reads ((wr.alloc (.cells #[.string x.1, .string x.2] 39)).alloc (.cells #[.string x.1, .string x.2] 39)) (wr.heap.size + 2) 2 (some ⟨wr.heap.size + 1, 0, none⟩) 1 (labCells [x]) := by
        have := Reads.made (n := 1) (size := 2) (wr.alloc (.cells #[.string x.1, .string x.2] 39)) #[.string x.1, .string x.2] 39 rfl
        rw [e1] at this
        exact this
      go_wp2
      go_loopw [5, 19] (fun v i wj => ∃ j : Nat, j ≤ by_.length ∧ i = .int .i64 (j : Int) ∧ Hid (∀ i, i < j → strAt by_ i ≠ x.1) ∧ v = .slice A' n c' ∧ wj = wr.alloc (.cells #[.string x.1, .string x.2] 39)) (fun _ i _ => by_.length - (intOf i).toNat)
      case atStart => exact ⟨0, Nat.zero_le _, rfl, Lib.hid fun i hi => absurd hi (by omega), rfl, rfl⟩
      case round =>
        obtain ⟨j, hj, rfl, hall, rfl, rfl⟩ := hrel
        by_cases hjl : j < by_.length
        · obtain ⟨b2, off2, rfl, _, hc2⟩ := h2r.cellAt (show 0 < by_.length by omega)
          have y0 := hc2 j hjl
          clear hc2
          by_cases he : strAt by_ j = x.1
          · have Hst := Lib.hid (Hpy.out (has_yes hjl he))
            have q : ((strAt by_ j).toList == x.1.toList) = true := by rw [he]; exact beq_self_eq_true _
            clear he
            have hln := Hlen.out
            go_wp2_with (at_builtin; go_must (refine wpList_append_sl _ rfl (.tmp 27) (.tmp 29) _ rfl w.heap.size 39 _ 2 32 Try.underlying26 Try.infoLab rfl (by omega) _ _ _ rfl ((hown.alloc _).alloc _) (wr.heap.size + 2) _ 1 1 (labCells [x]) rfl hrd (labCells_one _) (by unfold maxLen; omega) (by omega) (by simp; omega) ?_))
            intro A2' c2' w2 hc1 hc2 hrd2 hbel2 hown2 _ _
            have hown3 : w2.ownsRow w.heap.size 39 2 (.slice A2' (n + 1) c2') (n + 1) (labCells (partB (l.take (k + 1)) by_)) := by rw [Hst.out, labCells_app]; exact hown2
            have Hl2 : Hid ((partB (l.take (k + 1)) by_).length = n + 1) := Lib.hid (by rw [Hst.out, List.length_append, hln]; rfl)
            go_wp2
            go_roundw
            case rel => exact ⟨k + 1, n + 1, by omega, by go_num, by omega, ⟨A2', c2', rfl, hown3⟩, Hl2, ((hbel.alloc hsz _).alloc (by simp; omega) _).trans hbel2⟩
            case measure => simp [intOf]; omega
          · have q : ((strAt by_ j).toList == x.1.toList) = false := by rw [bytes_eqd]; exact dcf he
            have Hstep : Hid (∀ i, i < j + 1 → strAt by_ i ≠ x.1) := Lib.hid fun i hi => by
              rcases Nat.lt_or_ge i j with h1 | h1
              · exact hall.out i h1
              · obtain rfl : i = j := by omega
                exact he
            clear he
            go_wp2
            go_roundw
            case rel => exact ⟨j + 1, by omega, by go_num, Hstep, by first | trivial | rfl, by first | trivial | rfl⟩
            case measure => simp [intOf]; omega
        · obtain rfl : j = by_.length := by omega
          have Hst := Lib.hid (Hpn.out (has_no hall.out))
          go_wp2
          go_roundw
          case rel => exact ⟨k + 1, n, by omega, by go_num, by omega, ⟨A', c', rfl, by rw [Hst.out]; exact hown.alloc _⟩, Lib.hid (by rw [Hst.out]; exact Hlen.out), hbel.alloc hsz _⟩
          case measure => simp [intOf]; omega
    · obtain rfl : k = l.length := by omega
      go_wp2
      go_ret
      have e1 : l.take l.length = l := List.take_length
      have hl := Hlen.out
      rw [e1] at hown hl
      subst hl
      exact ⟨_, _, rfl, Reads.of_own hown, hown, hbel⟩

/-- The first label of a name. -/
def getB (l : List Lab) (x : ByteArray) : Option ByteArray := (l.find? fun y => decide (y.1 = x)).map (·.2)
theorem get_hit {l : List Lab} {x : ByteArray} {k : Nat} (hk : k < l.length) (hno : ∀ i, i < k → (labAt l i).1 ≠ x) (h : (labAt l k).1 = x) : getB l x = some (labAt l k).2 := by
  have : l.find? (fun y => decide (y.1 = x)) = some l[k] := by
    rw [List.find?_eq_some_iff_getElem]
    refine ⟨by rw [labAt_eq hk]; exact dct h, k, hk, rfl, fun j hj => ?_⟩
    rw [labAt_eq (by omega : j < l.length), dcf (hno j hj)]; rfl
  unfold getB
  rw [this, labAt_eq hk]
  rfl
theorem get_none {l : List Lab} {x : ByteArray} (hno : ∀ i, i < l.length → (labAt l i).1 ≠ x) : getB l x = none := by
  have : l.find? (fun y => decide (y.1 = x)) = none := by
    rw [List.find?_eq_none]
    intro y hy
    obtain ⟨j, hj, rfl⟩ := List.getElem_of_mem hy
    rw [labAt_eq hj]
    simpa using hno j hj
  unfold getB
  rw [this]
  rfl
def getV (o : Option ByteArray) : ByteArray := o.getD ⟨#[]⟩

end Go.Proofs.Ytennddlihcamnaa
