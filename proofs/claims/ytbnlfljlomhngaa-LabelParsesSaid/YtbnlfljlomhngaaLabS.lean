/- Labels: Text of what is no set; Same, Twin, few, lives (chapter 8). -/
import Derived.Test.YtbnlfljlomhngaaProg
import Derived.Test.YtbnlfljlomhngaaLabV
namespace Go.Proofs.Ytbnlfljlomhngaa
open Go.RowKit

theorem Try.infoLab : (Try.prog.info? 37).map (fun i => (i.zero, i.size, i.bytes)) = some (some (.agg #[.string ⟨#[]⟩, .string ⟨#[]⟩]), 2, 32) := by kernel_rfl

theorem text_no (w : World) {B c : Nat} {A : Option Addr} {l : List Lab} (h : Labs w B A l) (hB : B ≤ w.heap.size) (hf : Fit l) (hn : l.length ≤ 140737488355328) (hr : rightB l = false) :
    Calls Try.prog 13 #[.slice A l.length c] w fun e w' => e = .returned (.tuple #[.string ⟨#[]⟩, .int .i64 4]) ∧ Below w.heap.size w w' := by
  have hcall := right_calls w (c := c) h hB hf hn
  rw [hr] at hcall
  have HC := Lib.hid hcall
  clear hr hcall
  go_enter Try.func13, Try.ntmps13
  go_wp2_with fail
  refine HC.out.mono ?_
  rintro e w1 ⟨rfl, hb1⟩
  go_wp2
  go_ret2
  exact ⟨rfl, hb1⟩

theorem twin_calls (w : World) {B c : Nat} {A : Option Addr} {l : List Lab} (h : Labs w B A l) (hB : B ≤ w.heap.size) (hn : l.length ≤ 4398046511104) :
    Calls Try.prog 12 #[.slice A l.length c] w fun e w' => ∃ A' c', e = .returned (.slice A' l.length c') ∧ Labs w' w'.heap.size A' l ∧ w'.ownsRow w.heap.size 37 2 (.slice A' l.length c') l.length (labCells l) ∧ Below w.heap.size w w' := by
  go_enter Try.func12, Try.ntmps12
  go_wp2_with (at_builtin; go_must (refine wpList_append_sl _ rfl (.tmp 3) (.tmp 4) _ rfl w.heap.size 37 _ 2 32 Try.underlying22 Try.infoLab rfl (by omega) _ _ _ rfl (World.ownsRow_made w #[] 0 (Nat.le_refl _) (Nat.zero_le _) rfl) B A l.length c (labCells l) rfl (Reads.to h ((Below.refl B w).alloc hB _) (Nat.le_refl _)) (labCells_one l) (by unfold maxLen; omega) (by omega) (by simp) ?_))
  intro A' c' w1 hc1 hc2 hrd hbel hown _ _
  have hrd2 : Labs w1 w1.heap.size A' l := by simpa [Labs] using hrd
  have hown2 : w1.ownsRow w.heap.size 37 2 (.slice A' l.length c') l.length (labCells l) := by simpa using hown
  have h0 : (0 : Nat) + l.length = l.length := by omega
  go_wp2
  go_ret
  exact ⟨A', c', by simp, hrd2, hown2, ((Below.refl _ _).alloc (Nat.le_refl _) _).trans hbel⟩

def sameB (l m : List Lab) : Bool := decide (l = m)
theorem same_all {l m : List Lab} (hl : l.length = m.length) (h : ∀ i, i < l.length → labAt l i = labAt m i) : l = m := by
  refine List.ext_getElem hl fun i h1 h2 => ?_
  rw [labAt_eq h1, labAt_eq h2]
  exact h i h1

theorem bytes_eqd (a b : ByteArray) : (a.toList == b.toList) = decide (a = b) := by
  rw [ByteArray.toList_eq, ByteArray.toList_eq]
  by_cases h : a = b
  · simp [h]
  · have h2 : a.data.toList ≠ b.data.toList := fun e => h (ByteArray.ext (Array.toList_inj.1 e))
    rw [dcf h]
    simpa using h2

theorem neq_lab (W : World) (x y : Lab) : (binOp .neq 37 (.agg #[.string x.1, .string x.2]) (.agg #[.string y.1, .string y.2])).run Try.prog W = .ok (.bool (!(decide (x = y)))) W := by
  have u3 := Try.underlying9
  have a3 := Try.isAgg9
  have z3 := Try.sizeOf9
  have hS : Try.prog.underlying 37 = some (.struct (Try.prog.fieldsOf 37)) := by kernel_rfl
  have hp : Try.prog.stoodInHeld 37 = false := by kernel_rfl
  rw [run_neq_struct, show (10000 : Nat) = 9999 + 1 from rfl, run_equalIn_agg W 9999 37 _ _ hS hp]
  simp only [Program.fieldsOf, Try.underlying37]
  go_simp
  have e1 : (x.1.toList == y.1.toList) = decide (x.1 = y.1) := bytes_eqd _ _
  have e2 : (x.2.toList == y.2.toList) = decide (x.2 = y.2) := bytes_eqd _ _
  obtain ⟨x1, x2⟩ := x
  obtain ⟨y1, y2⟩ := y
  simp only at e1 e2 ⊢
  by_cases h1 : x1 = y1 <;> by_cases h2 : x2 = y2 <;> simp [h1, h2] at e1 e2 ⊢ <;> simp [*]

set_option maxRecDepth 100000 in
set_option maxHeartbeats 800000 in
theorem sameR_calls (w : World) {B1 B2 c1 c2 : Nat} {A1 A2 : Option Addr} {l m : List Lab} (h1 : Labs w B1 A1 l) (h2 : Labs w B2 A2 m) (hn1 : l.length ≤ 140737488355328) (hn2 : m.length ≤ 140737488355328) :
    Calls Try.prog 16 #[.slice A1 l.length c1, .slice A2 m.length c2] w fun e w' => e = .returned (.bool (sameB l m)) ∧ Below w.heap.size w w' := by
  by_cases hlen : l.length = m.length
  · have hne : (((l.length : Int)) != (m.length : Int)) = false := nef (by omega)
    have HL := Lib.hid hlen
    clear hlen
    go_enter Try.func16, Try.ntmps16
    go_wp2
    go_loopw [13] (fun i wr => ∃ k n : Nat, k ≤ l.length ∧ i = .int .i64 (k : Int) ∧ Hid (∀ i, i < k → labAt l i = labAt m i) ∧ wr = w.drewN n) (fun i _ => l.length - (intOf i).toNat)
    case atStart => exact ⟨0, 0, Nat.zero_le _, rfl, Lib.hid fun i hi => absurd hi (by omega), rfl⟩
    case round =>
      obtain ⟨k, n, hk, rfl, hall, rfl⟩ := hrel
      by_cases hlt : k < l.length
      · have hlm := HL.out
        obtain ⟨b1, off1, rfl, _, hc1⟩ := h1.cellAt (show 0 < l.length by omega)
        obtain ⟨b2, off2, rfl, _, hc2⟩ := h2.cellAt (show 0 < m.length by omega)
        obtain ⟨p0, p1⟩ := hc1 k hlt
        obtain ⟨q0, q1⟩ := hc2 k (by omega)
        have i0 : (0 : Int) ≤ (k : Int) := by omega
        have i9 : (k : Int) < (l.length : Int) := by omega
        have i8 : (k : Int) < (m.length : Int) := by omega
        clear hc1 hc2 hlm
        have hq := fun W => neq_lab W (labAt l k) (labAt m k)
        by_cases he : labAt l k = labAt m k
        · have hq' : ∀ W, (binOp .neq 37 (.agg #[.string (labAt l k).1, .string (labAt l k).2]) (.agg #[.string (labAt m k).1, .string (labAt m k).2])).run Try.prog W = .ok (.bool false) W := fun W => by rw [hq, dct he]; rfl
          have Hstep : Hid (∀ i, i < k + 1 → labAt l i = labAt m i) := Lib.hid fun i hi => by
            rcases Nat.lt_or_ge i k with h1 | h1
            · exact hall.out i h1
            · obtain rfl : i = k := by omega
              exact he
          clear hq he
          go_wp2_with fail
          go_quiet (fail)
          go_wp2
          go_roundw
          case rel => exact ⟨k + 1, n + nq, by omega, by go_num, Hstep, by simp⟩
          case measure => simp [intOf]; omega
        · have hq' : ∀ W, (binOp .neq 37 (.agg #[.string (labAt l k).1, .string (labAt l k).2]) (.agg #[.string (labAt m k).1, .string (labAt m k).2])).run Try.prog W = .ok (.bool true) W := fun W => by rw [hq, dcf he]; rfl
          have Hno : Hid (sameB l m = false) := Lib.hid (dcf fun h => he (by rw [h]))
          clear hq he
          go_wp2_with fail
          go_quiet (fail)
          go_wp2
          go_ret
          exact ⟨by rw [Hno.out]; rfl, below_drewN_ (below_drewN_ (Below.refl _ _) _) _⟩
      · obtain rfl : k = l.length := by omega
        have Hy : Hid (sameB l m = true) := Lib.hid (dct (same_all HL.out hall.out))
        go_wp2
        go_ret
        exact ⟨by rw [Hy.out]; rfl, below_drewN_ (Below.refl _ _) _⟩
  · have hne : (((l.length : Int)) != (m.length : Int)) = true := net (by omega)
    have Hno : Hid (sameB l m = false) := Lib.hid (dcf fun h => hlen (by rw [h]))
    clear hlen
    go_enter Try.func16, Try.ntmps16
    go_wp2
    go_ret
    exact ⟨by rw [Hno.out]; rfl, Below.refl _ _⟩

def fewP (l : List Lab) : Prop := l.length ≤ 30 ∧ ∀ i, i < l.length → (labAt l i).1.size + (labAt l i).2.size ≤ 200
instance (l : List Lab) : Decidable (fewP l) := by unfold fewP; infer_instance
def fewB (l : List Lab) : Bool := decide (fewP l)
theorem few_calls (w : World) {B c : Nat} {A : Option Addr} {l : List Lab} (h : Labs w B A l) (hB : B ≤ w.heap.size) (hf : Fit l) (hn : l.length ≤ 140737488355328) :
    Calls Try.prog 11 #[.slice A l.length c] w fun e w' => e = .returned (.bool (fewB l)) ∧ Below w.heap.size w w' := by
  have HF := Lib.hid (fit_at hf)
  clear hf
  by_cases h30 : l.length ≤ 30
  · have h30' : ¬ (30 : Int) < (l.length : Int) := by omega
    go_enter Try.func11, Try.ntmps11
    go_wp2
    go_loopw [10] (fun i wr => ∃ k : Nat, k ≤ l.length ∧ i = .int .i64 (k : Int) ∧ Hid (∀ i, i < k → (labAt l i).1.size + (labAt l i).2.size ≤ 200) ∧ Below w.heap.size w wr) (fun i _ => l.length - (intOf i).toNat)
    case atStart => exact ⟨0, Nat.zero_le _, rfl, Lib.hid fun i hi => absurd hi (by omega), Below.refl _ _⟩
    case round =>
      obtain ⟨k, hk, rfl, hall, hbel⟩ := hrel
      by_cases hlt : k < l.length
      · obtain ⟨b, off, rfl, hbB, hcell⟩ := (h.below (hbel.mono hB)).cellAt (show 0 < l.length by omega)
        obtain ⟨c0, c1⟩ := hcell k hlt
        obtain ⟨f0, f1⟩ := HF.out k
        have hsz := hbel.size
        clear hcell
        by_cases hs : (labAt l k).1.size + (labAt l k).2.size ≤ 200
        · have Hstep : Hid (∀ i, i < k + 1 → (labAt l i).1.size + (labAt l i).2.size ≤ 200) := Lib.hid fun i hi => by
            rcases Nat.lt_or_ge i k with h1 | h1
            · exact hall.out i h1
            · obtain rfl : i = k := by omega
              exact hs
          generalize hx : labAt l k = x at *
          clear hx
          go_wp2
          go_roundw
          case rel => exact ⟨k + 1, by omega, by go_num, Hstep, hbel.alloc hsz _⟩
          case measure => simp [intOf]; omega
        · have Hno : Hid (fewB l = false) := Lib.hid (dcf fun h => hs (h.2 k hlt))
          generalize hx : labAt l k = x at *
          clear hx
          go_wp2
          go_ret
          exact ⟨by rw [Hno.out]; rfl, hbel.alloc hsz _⟩
      · obtain rfl : k = l.length := by omega
        have Hy : Hid (fewB l = true) := Lib.hid (dct ⟨h30, hall.out⟩)
        go_wp2
        go_ret
        exact ⟨by rw [Hy.out]; rfl, hbel⟩
  · have h30' : (30 : Int) < (l.length : Int) := by omega
    have Hno : Hid (fewB l = false) := Lib.hid (dcf fun h => h30 h.1)
    go_enter Try.func11, Try.ntmps11
    go_wp2
    go_ret
    exact ⟨by rw [Hno.out]; rfl, Below.refl _ _⟩

def liveL : List Lab := [(⟨#[97]⟩, ⟨#[120]⟩), (⟨#[98]⟩, ⟨#[]⟩)]
theorem live_right : rightB liveL = true := by decide +kernel
theorem live_text : textB liveL = [123, 97, 61, 34, 120, 34, 44, 98, 61, 34, 34, 125] := by decide +kernel
theorem lives_calls (w : World) : Calls Try.prog 10 #[] w fun e w' => e = .returned (.bool true) ∧ Below w.heap.size w w' := by
  have hL : Labs (w.alloc (.cells #[.string ⟨#[97]⟩, .string ⟨#[120]⟩, .string ⟨#[98]⟩, .string ⟨#[]⟩] 37)) (w.heap.size + 1) (some ⟨w.heap.size, 0, none⟩) liveL := Reads.made w _ _ rfl
  have HL := Lib.hid hL
  clear hL
  go_enter Try.func10, Try.ntmps10
  go_wp2_with fail
  have hc := text_yes _ (c := 2) HL.out (by simp) (by intro x hx; simp [liveL] at hx; rcases hx with rfl | rfl <;> decide) (by decide) live_right
  rw [live_text] at hc
  refine hc.mono ?_
  rintro e w1 ⟨rfl, hb1⟩
  go_wp2
  go_ret
  exact ⟨rfl, ((Below.refl _ _).alloc (Nat.le_refl _) _).trans (hb1.mono (by simp))⟩
end Go.Proofs.Ytbnlfljlomhngaa
