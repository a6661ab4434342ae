/- The example of chapter 9. -/
import Derived.Test.YtennddlihcamnaaProg
import Derived.Test.YtennddlihcamnaaRecG
namespace Go.Proofs.Ytennddlihcamnaa
set_option linter.unusedVariables false
set_option linter.unusedSimpArgs false
open Go.RowKit

def liveR : Rec := ⟨1, 5, none, 0, [], ⟨#[120]⟩, 0, false⟩
theorem live_chk : chkB 1 2 [liveR] = 0 := by decide +kernel
theorem row_at {w : World} {base k c : Nat} {l : List Rec} {maker seq : Int} {A : Option Addr} {ps : List Pos} (h : RowsOwn w base l maker seq k (.slice A k c) ps) (hk : 0 < k) :
    ∃ g, A = some ⟨g, 0, none⟩ ∧ base ≤ g ∧ g < w.heap.size ∧ ∀ i, i < k → ∀ j u, ((recAt l i).row (posAt ps i).1 (posAt ps i).2 maker seq (i : Int)).toList[j]? = some u → w.cell? ⟨g, i * 9 + j, none⟩ = some u := by
  have hlt := h.own.lt
  rcases h.own.2 with ⟨_, h0⟩ | ⟨g, cap, cur, hv, hg, hrest⟩
  · omega
  · injection hv with h1 h2 h3
    subst h1 h3
    refine ⟨g, rfl, hg, (hlt g rfl).2, fun i hi j u hu => ?_⟩
    have hjl : j < 9 := (List.getElem?_eq_some_iff.1 hu).1
    rw [h.own.cellAt (i * 9 + j) (by omega)]
    have key : ∀ n, i < n → (rowsCells l maker seq ps n)[i * 9 + j]? = some u := by
      intro n
      induction n with
      | zero => intro h; omega
      | succ n ih =>
        intro hin
        have hl : ∀ n, (rowsCells l maker seq ps n).length = n * 9 := by
          intro n
          induction n with
          | zero => rfl
          | succ n ih => 
            unfold rowsCells at ih ⊢
            rw [List.range_succ, List.flatMap_append, List.length_append, ih, List.flatMap_singleton]
            simp only [Rec.row, List.length_cons, List.length_nil]
            omega
        have e : rowsCells l maker seq ps (n + 1) = rowsCells l maker seq ps n ++ ((recAt l n).row (posAt ps n).1 (posAt ps n).2 maker seq (n : Int)).toList := by
          unfold rowsCells
          rw [List.range_succ, List.flatMap_append, List.flatMap_singleton]
        rw [e]
        rcases Nat.lt_or_ge i n with h1 | h1
        · rw [List.getElem?_append_left (by rw [hl]; omega)]
          exact ih h1
        · obtain rfl : i = n := by omega
          rw [List.getElem?_append_right (by rw [hl]; omega), hl, Nat.add_sub_cancel_left]
          exact hu
    exact key k hi

set_option maxRecDepth 100000 in
set_option maxHeartbeats 800000 in
theorem lives_calls (w : World) : Calls Try.prog 9 #[] w fun e w' => e = .returned (.bool true) ∧ Below w.heap.size w w' := by
  have hR : ∀ W, Below (w.heap.size + 1) (w.alloc (.cells #[.int .i64 1, .int .i64 5, .slice none 0 0, .string ⟨#[120]⟩, .int .i64 0, .bool false] 28)) W → Recs W (w.heap.size + 1) (some ⟨w.heap.size, 0, none⟩) [liveR] := fun W hW => by
    have hb := (Blk.new w 28 #[.int .i64 1, .int .i64 5, .slice none 0 0, .string ⟨#[120]⟩, .int .i64 0, .bool false]).below hW (by omega)
    refine ⟨fun _ => ⟨w.heap.size, 0, rfl, by omega, fun i hi j u hu => ?_⟩, fun i hi => ?_⟩
    · obtain rfl : i = 0 := by simp at hi; exact hi
      have e : (0 + (0 * 6 + j)) = j := by omega
      rw [e, hb.cell j, List.getElem?_toArray]
      exact hu
    · obtain rfl : i = 0 := by simp at hi; exact hi
      exact ⟨Labs.nil_, (by intro x hx; cases hx), by decide, by decide, by decide, by decide⟩
  have HR := Lib.hid hR
  clear hR
  go_enter Try.func9, Try.ntmps9
  go_wp2_with fail
  have hbt := Blk.new (w.alloc (.cells #[.int .i64 1, .int .i64 5, .slice none 0 0, .string ⟨#[120]⟩, .int .i64 0, .bool false] 28)) 24 #[.int .i64 1, .int .i64 2, .slice (some ⟨w.heap.size, 0, none⟩) 1 1]
  have e1 : (w.alloc (.cells #[.int .i64 1, .int .i64 5, .slice none 0 0, .string ⟨#[120]⟩, .int .i64 0, .bool false] 28)).heap.size = w.heap.size + 1 := by simp
  rw [e1] at hbt
  have h1 := HR.out _ ((Below.refl _ _).alloc (by simp) (.cells #[.int .i64 1, .int .i64 2, .slice (some ⟨w.heap.size, 0, none⟩) 1 1] 24))
  refine (rows_calls (c := 1) _ 1 2 h1 (by simp) (by decide)).mono ?_
  rintro e w1 ⟨A1, c1, ps, rfl, hown, hb1⟩
  have hbt1 := hbt.below hb1 (by simp)
  have y0 := hbt1.cell 0
  have y1 := hbt1.cell 1
  have y2 := hbt1.cell 2
  simp only [List.getElem?_toArray, List.getElem?_cons_zero, List.getElem?_cons_succ] at y0 y1 y2
  have h2 := h1.below (hb1.mono (by simp))
  have hsz := hb1.size
  simp only [World.size_alloc] at hsz
  have hbel := (((Below.refl w.heap.size w).alloc (Nat.le_refl _) _).alloc (by simp) _).trans (hb1.mono (by simp; omega))
  obtain ⟨g, rfl, hg, hg2, hcell⟩ := row_at hown (by decide)
  have hcc := check_calls (c := 1) w1 1 2 h2 (by omega) (by decide)
  rw [live_chk] at hcc
  have HC := Lib.hid hcc
  have HX := Lib.hid hcell
  clear hcc hcell hown h1 h2 e1
  go_wp2_with fail
  refine HC.out.mono ?_
  rintro e w2 ⟨rfl, hb2⟩
  have z7 : w2.cell? ⟨g, 7, none⟩ = some (.int .i64 2) := (hb2.cell (p := ⟨g, 7, none⟩) hg2).trans (HX.out 0 (by decide) 7 _ rfl)
  have z3 : w2.cell? ⟨g, 3, none⟩ = some (.string ⟨#[120]⟩) := (hb2.cell (p := ⟨g, 3, none⟩) hg2).trans (HX.out 0 (by decide) 3 _ rfl)
  go_wp2
  go_ret
  exact ⟨rfl, hbel.trans (hb2.mono (by omega))⟩
end Go.Proofs.Ytennddlihcamnaa
