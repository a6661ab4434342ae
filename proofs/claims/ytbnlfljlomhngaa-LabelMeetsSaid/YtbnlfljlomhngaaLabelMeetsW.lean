/- The walk of LabelMeets. -/
import Derived.Test.YtbnlfljlomhngaaMatC
namespace Go.Proofs.Ytbnlfljlomhngaa.lawLabelMeets
open Go.RowKit

set_option maxRecDepth 100000 in
set_option maxHeartbeats 800000 in
theorem early (w : World) {B c c1 : Nat} {A A1 : Option Addr} {l : List Lab} {a : List Mat} (h : Labs w B A l) (hB : B ≤ w.heap.size) (hf : Fit l) (hn : l.length ≤ 4398046511104)
    (hna : a.length ≤ 8796093022208) (hc : fewB l = false ∨ 30 < a.length) :
    Calls Try.prog 6 #[.slice A l.length c, .slice A1 a.length c1] w fun e w' => e = .returned (.bool true) ∧ Below w.heap.size w w' := by
  have Hf := Lib.hid hf
  clear hf
  have hn2 : l.length ≤ 140737488355328 := by omega
  have hcase : fewB l = false ∨ (fewB l = true ∧ (30 : Int) < (a.length : Int)) := by
    cases hq : fewB l
    · exact .inl rfl
    · rw [hq] at hc
      rcases hc with hc | hc
      · cases hc
      · exact .inr ⟨rfl, by omega⟩
  clear hc
  rcases hcase with hq | ⟨hq, h1⟩
  all_goals
    have HQ := Lib.hid hq
    clear hq
    try (have d1 := dct h1)
    go_enter Try.func6, Try.ntmps6
    go_wp2_with fail
    refine (lives_calls w).mono ?_
    rintro e w1 ⟨rfl, hb1⟩
    have h1' := h.below (hb1.mono hB)
    have s1 := hb1.size
    go_wp2_with fail
    refine (few_calls w1 h1' (by omega) Hf.out hn2).mono ?_
    rw [HQ.out]
    rintro e w2 ⟨rfl, hb2⟩
    have hb12 := hb1.trans (hb2.mono s1)
    have s2 := hb2.size
    go_wp2_with fail
    refine (lives_calls w2).mono ?_
    rintro e w3 ⟨rfl, hb3⟩
    go_wp2
    go_ret
    exact ⟨rfl, hb12.trans (hb3.mono (by omega))⟩

set_option maxRecDepth 100000 in
set_option maxHeartbeats 1600000 in
theorem body (w : World) {B B1 c c1 : Nat} {A A1 : Option Addr} {l : List Lab} {a : List Mat} (h : Labs w B A l) (hB : B ≤ w.heap.size) (ha : Mats w B1 A1 a) (hB1 : B1 ≤ w.heap.size) (hf : Fit l) (hfm : ∀ m ∈ a, FitM m) (hn : l.length ≤ 4398046511104)
    (hq : fewB l = true) (hna : a.length ≤ 30) :
    Calls Try.prog 6 #[.slice A l.length c, .slice A1 a.length c1] w fun e w' => e = .returned (.bool true) ∧ Below w.heap.size w w' := by
  have Hf := Lib.hid hf
  have HfmA := Lib.hid hfm
  have HFM : Hid (∀ k, k < a.length → FitM (matAt a k)) := Lib.hid fun k hk => by rw [← matAt_eq hk]; exact hfm _ (List.getElem_mem hk)
  have hn2 : l.length ≤ 140737488355328 := by omega
  have a20 : ¬ (30 : Int) < (a.length : Int) := by omega
  have HQ := Lib.hid hq
  clear hf hq hfm
  go_enter Try.func6, Try.ntmps6
  go_wp2_with fail
  refine (lives_calls w).mono ?_
  rintro e w1 ⟨rfl, hb1⟩
  have h1 := h.below (hb1.mono hB)
  have s1 := hb1.size
  go_wp2_with fail
  refine (few_calls w1 h1 (by omega) Hf.out hn2).mono ?_
  rw [HQ.out]
  rintro e w2 ⟨rfl, hb2⟩
  have hb02 := hb1.trans (hb2.mono s1)
  have h2 := h.below (hb02.mono hB)
  have a2 := ha.below (hb02.mono hB1)
  have s2 := hb02.size
  clear h1 hb1 hb2 s1 h ha
  go_wp2
  go_loopw [22] (fun i wr => ∃ k : Nat, k ≤ a.length ∧ i = .int .i64 (k : Int) ∧ Below w2.heap.size w2 wr) (fun i _ => a.length - (intOf i).toNat)
  case atStart => exact ⟨0, Nat.zero_le _, rfl, Below.refl _ _⟩
  case round =>
    obtain ⟨k, hk, rfl, hbel⟩ := hrel
    by_cases hlt : k < a.length
    · obtain ⟨bm, off, rfl, hbB, hcell⟩ := (a2.below (hbel.mono (by omega))).cellAt (show 0 < a.length by omega)
      obtain ⟨q0, q1, q2⟩ := hcell k hlt
      have hsz := hbel.size
      clear hcell
      have hfit := HFM.out k hlt
      generalize matAt a k = m at *
      obtain ⟨n, way, v⟩ := m
      have hA := fun W => asks_calls W n way v hfit
      have hR := fun W => asksR_calls W n way v hfit
      generalize asksB (n, way, v) = b at *
      simp only at q0 q1 q2
      have hbelx := hbel.alloc hsz (.cells #[.string n, .int .i64 way, .string v] 42)
      cases b
      all_goals
        have HA := Lib.hid hA
        have HR := Lib.hid hR
        clear hA hR
        go_wp2_with fail
        go_region_held3 (fun w' => w'.cell? ⟨wr.heap.size, 0, none⟩ = some (.string n) ∧ w'.cell? ⟨wr.heap.size, 1, none⟩ = some (.int .i64 way) ∧ w'.cell? ⟨wr.heap.size, 2, none⟩ = some (.string v) ∧ Blk w' wr.heap.size 42 #[.string n, .int .i64 way, .string v] ∧ Below w2.heap.size w2 w') ((refine ⟨?_, ?_, ?_, ?_, ?_⟩ <;> first | assumption | exact (Blk.new wr _ _).drewN 1 | exact below_drewN_ hbelx 1 | go_keep)) (first | (go_at_call 21; refine (HA.out _).mono ?_; rintro en w3 ⟨rfl, hb3⟩; have hHH := ‹_ ∧ _ ∧ _ ∧ Blk _ _ _ _ ∧ Below _ _ _›; have hx3 : Blk w3 wr.heap.size 42 #[.string n, .int .i64 way, .string v] := Blk.below hHH.2.2.2.1 hb3 hHH.2.2.2.1.lt; have he3 : Below w2.heap.size w2 w3 := Below.trans hHH.2.2.2.2 (hb3.mono hHH.2.2.2.2.size); clear hHH; have y0 : w3.cell? ⟨wr.heap.size, 0, none⟩ = some (.string n) := hx3.cell 0; have y1 : w3.cell? ⟨wr.heap.size, 1, none⟩ = some (.int .i64 way) := hx3.cell 1; have y2 : w3.cell? ⟨wr.heap.size, 2, none⟩ = some (.string v) := hx3.cell 2) | (go_at_call 22; refine (HR.out _).mono ?_; rintro en w3 ⟨rfl, hb3⟩; have hHH := ‹_ ∧ _ ∧ _ ∧ Blk _ _ _ _ ∧ Below _ _ _›; have hx3 : Blk w3 wr.heap.size 42 #[.string n, .int .i64 way, .string v] := Blk.below hHH.2.2.2.1 hb3 hHH.2.2.2.1.lt; have he3 : Below w2.heap.size w2 w3 := Below.trans hHH.2.2.2.2 (hb3.mono hHH.2.2.2.2.size); clear hHH; have y0 : w3.cell? ⟨wr.heap.size, 0, none⟩ = some (.string n) := hx3.cell 0; have y1 : w3.cell? ⟨wr.heap.size, 1, none⟩ = some (.int .i64 way) := hx3.cell 1; have y2 : w3.cell? ⟨wr.heap.size, 2, none⟩ = some (.string v) := hx3.cell 2))
        all_goals
          go_wp2
          go_roundw
          case rel => exact ⟨k + 1, by omega, by go_num, he3⟩
          case measure => simp [intOf]; omega
    · obtain rfl : k = a.length := by omega
      have h3 := h2.below (hbel.mono (by omega))
      have a3 := a2.below (hbel.mono (by omega))
      have hb03 := hb02.trans (hbel.mono s2)
      have s3 := hbel.size
      go_wp2_with fail
      refine (meets_calls _ h3 (by omega) a3 (by omega) Hf.out HfmA.out hn (by omega)).mono ?_
      rintro e w4 ⟨rfl, hb4⟩
      have h4 := h3.below (hb4.mono (by omega))
      have a4 := a3.below (hb4.mono (by omega))
      have hb04 := hb03.trans (hb4.mono (by omega))
      have s4 := hb4.size
      go_wp2_with fail
      refine (meetsR_calls _ h4 (by omega) a4 (by omega) Hf.out HfmA.out hn (by omega)).mono ?_
      rintro e w5 ⟨rfl, hb5⟩
      have hbb : (meetsB l a == meetsB l a) = true := beq_self_eq_true _
      go_wp2
      go_ret
      exact ⟨rfl, hb04.trans (hb5.mono (by omega))⟩

theorem walk {H : Type} {enc : TypeId × Value → H} {W : World} {base : Nat} {v0 v1 : Value} {d0 d1 : DataW H} {p0 p1 : List MemPlace} (g0 : Arg enc Try.prog W base 22 v0 d0 p0) (g1 : Arg enc Try.prog W base 40 v1 d1 p1) :
    Calls Try.prog 6 #[v0, v1] W fun e w' => e = .returned (.bool true) ∧ Below W.heap.size W w' := by
  obtain ⟨A, c, l, rfl, _, hl, hL, hF⟩ := arg_labs g0
  obtain ⟨A1, c1, a, rfl, _, ha, hA, hM⟩ := arg_mats g1
  by_cases hc : fewB l = false ∨ 30 < a.length
  · exact early W hL (Nat.le_refl _) hF hl (by omega) hc
  · have : fewB l = true := by cases hq : fewB l; exact absurd (.inl hq) hc; rfl
    exact body W hL (Nat.le_refl _) hA (Nat.le_refl _) hF hM hl this (by omega)
end Go.Proofs.Ytbnlfljlomhngaa.lawLabelMeets
