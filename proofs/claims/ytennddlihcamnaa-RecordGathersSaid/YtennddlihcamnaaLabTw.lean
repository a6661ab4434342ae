/- Labels: Same and Twin of the reference (chapter 8), for later layers. -/
import Derived.Test.YtennddlihcamnaaProg
import Derived.Test.YtennddlihcamnaaLabM
import Derived.BigQuiet
import Derived.Laws.StructEq
namespace Go.Proofs.Ytennddlihcamnaa
set_option linter.unusedVariables false
set_option linter.unusedSimpArgs false
open Go.RowKit

theorem Try.infoLab : (Try.prog.info? 39).map (fun i => (i.zero, i.size, i.bytes)) = some (some (.agg #[.string ⟨#[]⟩, .string ⟨#[]⟩]), 2, 32) := by kernel_rfl

theorem twin_calls (w : World) {B c : Nat} {A : Option Addr} {l : List Lab} (h : Labs w B A l) (hB : B ≤ w.heap.size) (hn : l.length ≤ 4398046511104) :
    Calls Try.prog 53 #[.slice A l.length c] w fun e w' => ∃ A' c', e = .returned (.slice A' l.length c') ∧ Labs w' w'.heap.size A' l ∧ w'.ownsRow w.heap.size 39 2 (.slice A' l.length c') l.length (labCells l) ∧ Below w.heap.size w w' := by
  go_enter Try.func53, Try.ntmps53
  go_wp2_with (at_builtin; go_must (refine wpList_append_sl _ rfl (.tmp 3) (.tmp 4) _ rfl w.heap.size 39 _ 2 32 Try.underlying26 Try.infoLab rfl (by omega) _ _ _ rfl (World.ownsRow_made w #[] 0 (Nat.le_refl _) (Nat.zero_le _) rfl) B A l.length c (labCells l) rfl (Reads.to h ((Below.refl B w).alloc hB _) (Nat.le_refl _)) (labCells_one l) (by unfold maxLen; omega) (by omega) (by simp) ?_))
  intro A' c' w1 hc1 hc2 hrd hbel hown _ _
  have hrd2 : Labs w1 w1.heap.size A' l := by simpa [Labs] using hrd
  have hown2 : w1.ownsRow w.heap.size 39 2 (.slice A' l.length c') l.length (labCells l) := by simpa using hown
  have h0 : (0 : Nat) + l.length = l.length := by omega
  go_wp2
  go_ret
  exact ⟨A', c', by simp, hrd2, hown2, ((Below.refl _ _).alloc (Nat.le_refl _) _).trans hbel⟩

def sameB (l m : List Lab) : Bool := decide (l = m)
theorem same_all {l m : List Lab} (hl : l.length = m.length) (h : ∀ i, i < l.length → labAt l i = labAt m i) : l = m := by
  refine List.ext_getElem hl fun i h1 h2 => ?_
  rw [labAt_eq h1, labAt_eq h2]
  exact h i h1

theorem bytes_eqd (a b : ByteArray) : (a.toList == b.toList) = decide (a = b) := by
  rw [ByteArray.toList_eq, ByteArray.toList_eq]
  by_cases h : a = b
  · simp [h]
  · have h2 : a.data.toList ≠ b.data.toList := fun e => h (ByteArray.ext (Array.toList_inj.1 e))
    rw [dcf h]
    simpa using h2

theorem neq_lab (W : World) (x y : Lab) : (binOp .neq 39 (.agg #[.string x.1, .string x.2]) (.agg #[.string y.1, .string y.2])).run Try.prog W = .ok (.bool (!(decide (x = y)))) W := by
  have u3 := Try.underlying9
  have a3 := Try.isAgg9
  have z3 := Try.sizeOf9
  have hS : Try.prog.underlying 39 = some (.struct (Try.prog.fieldsOf 39)) := by kernel_rfl
  have hp : Try.prog.stoodInHeld 39 = false := by kernel_rfl
  rw [run_neq_struct, show (10000 : Nat) = 9999 + 1 from rfl, run_equalIn_agg W 9999 39 _ _ hS hp]
  simp only [Program.fieldsOf, Try.underlying39]
  go_simp
  have e1 : (x.1.toList == y.1.toList) = decide (x.1 = y.1) := bytes_eqd _ _
  have e2 : (x.2.toList == y.2.toList) = decide (x.2 = y.2) := bytes_eqd _ _
  obtain ⟨x1, x2⟩ := x
  obtain ⟨y1, y2⟩ := y
  simp only at e1 e2 ⊢
  by_cases h1 : x1 = y1 <;> by_cases h2 : x2 = y2 <;> simp [h1, h2] at e1 e2 ⊢ <;> simp [*]

set_option maxRecDepth 100000 in
set_option maxHeartbeats 800000 in
theorem sameR_calls (w : World) {B1 B2 c1 c2 : Nat} {A1 A2 : Option Addr} {l m : List Lab} (h1 : Labs w B1 A1 l) (h2 : Labs w B2 A2 m) (hn1 : l.length ≤ 140737488355328) (hn2 : m.length ≤ 140737488355328) :
    Calls Try.prog 41 #[.slice A1 l.length c1, .slice A2 m.length c2] w fun e w' => e = .returned (.bool (sameB l m)) ∧ Below w.heap.size w w' := by
  by_cases hlen : l.length = m.length
  · have hne : (((l.length : Int)) != (m.length : Int)) = false := nef (by omega)
    have HL := Lib.hid hlen
    clear hlen
    go_enter Try.func41, Try.ntmps41
    go_wp2
    go_loopw [13] (fun i wr => ∃ k n : Nat, k ≤ l.length ∧ i = .int .i64 (k : Int) ∧ Hid (∀ i, i < k → labAt l i = labAt m i) ∧ wr = w.drewN n) (fun i _ => l.length - (intOf i).toNat)
    case atStart => exact ⟨0, 0, Nat.zero_le _, rfl, Lib.hid fun i hi => absurd hi (by omega), rfl⟩
    case round =>
      obtain ⟨k, n, hk, rfl, hall, rfl⟩ := hrel
      by_cases hlt : k < l.length
      · have hlm := HL.out
        obtain ⟨b1, off1, rfl, _, hc1⟩ := h1.cellAt (show 0 < l.length by omega)
        obtain ⟨b2, off2, rfl, _, hc2⟩ := h2.cellAt (show 0 < m.length by omega)
        obtain ⟨p0, p1⟩ := hc1 k hlt
        obtain ⟨q0, q1⟩ := hc2 k (by omega)
        have i0 : (0 : Int) ≤ (k : Int) := by omega
        have i9 : (k : Int) < (l.length : Int) := by omega
        have i8 : (k : Int) < (m.length : Int) := by omega
        clear hc1 hc2 hlm
        have hq := fun W => neq_lab W (labAt l k) (labAt m k)
        by_cases he : labAt l k = labAt m k
        · have hq' : ∀ W, (binOp .neq 39 (.agg #[.string (labAt l k).1, .string (labAt l k).2]) (.agg #[.string (labAt m k).1, .string (labAt m k).2])).run Try.prog W = .ok (.bool false) W := fun W => by rw [hq, dct he]; rfl
          have Hstep : Hid (∀ i, i < k + 1 → labAt l i = labAt m i) := Lib.hid fun i hi => by
            rcases Nat.lt_or_ge i k with h1 | h1
            · exact hall.out i h1
            · obtain rfl : i = k := by omega
              exact he
          clear hq he
          go_wp2_with fail
          go_quiet (fail)
          go_wp2
          go_roundw
          case rel => exact ⟨k + 1, n + nq, by omega, by go_num, Hstep, by simp⟩
          case measure => simp [intOf]; omega
        · have hq' : ∀ W, (binOp .neq 39 (.agg #[.string (labAt l k).1, .string (labAt l k).2]) (.agg #[.string (labAt m k).1, .string (labAt m k).2])).run Try.prog W = .ok (.bool true) W := fun W => by rw [hq, dcf he]; rfl
          have Hno : Hid (sameB l m = false) := Lib.hid (dcf fun h => he (by rw [h]))
          clear hq he
          go_wp2_with fail
          go_quiet (fail)
          go_wp2
          go_ret
          exact ⟨by rw [Hno.out]; rfl, below_drewN_ (below_drewN_ (Below.refl _ _) _) _⟩
      · obtain rfl : k = l.length := by omega
        have Hy : Hid (sameB l m = true) := Lib.hid (dct (same_all HL.out hall.out))
        go_wp2
        go_ret
        exact ⟨by rw [Hy.out]; rfl, below_drewN_ (Below.refl _ _) _⟩
  · have hne : (((l.length : Int)) != (m.length : Int)) = true := net (by omega)
    have Hno : Hid (sameB l m = false) := Lib.hid (dcf fun h => hlen (by rw [h]))
    clear hlen
    go_enter Try.func41, Try.ntmps41
    go_wp2
    go_ret
    exact ⟨by rw [Hno.out]; rfl, Below.refl _ _⟩

end Go.Proofs.Ytennddlihcamnaa
