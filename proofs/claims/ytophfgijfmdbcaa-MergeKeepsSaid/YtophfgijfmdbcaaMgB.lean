/- Is each row above the one ahead? (chapter 16: the program's answer and the document's) -/
import Derived.Test.YtophfgijfmdbcaaProg
import Derived.Test.YtophfgijfmdbcaaMgA
namespace Go.Proofs.Ytophfgijfmdbcaa
open Go.RowKit Go.Proofs.Ytophfgijfmdbcaa.So

theorem ris_stop {l : List Rw} {j k : Nat} (hj : k = j + 1) (hk : k < l.length) (h : ¬ cfR (Sr.gt l j) (Sr.gt l k) < 0) : Mg.risB l = false := by
  refine decide_eq_false fun hr => h ?_
  have := hr j (by omega)
  rw [← hj] at this
  exact of_decide_eq_true this
theorem ris_all {l : List Rw} {k : Nat} (h : ∀ q, q + 1 < k → cfR (Sr.gt l q) (Sr.gt l (q + 1)) < 0) (hk : l.length ≤ k) : Mg.risB l = true :=
  decide_eq_true fun i hi => decide_eq_true (h i (by omega))
set_option maxRecDepth 100000 in
set_option maxHeartbeats 3200000 in
theorem rising_calls (w : World) {B c : Nat} {A : Option Addr} {l : List Rw} (h : Reads w B 9 A l.length (Sr.flat Rw.c l)) (hB : B ≤ w.heap.size) (hn : l.length ≤ 4398046511104) :
    Calls Try.prog 37 #[.slice A l.length c] w fun e w' => e = .returned (.bool (Mg.risB l)) ∧ Below w.heap.size w w' := by
  have H1 := Lib.hid h
  clear h
  go_enter Try.func37, Try.ntmps37
  go_wp2
  go_loopw [3] (fun i wr => ∃ k : Nat, 1 ≤ k ∧ k ≤ l.length + 1 ∧ i = .int .i64 (k : Int) ∧ Hid (∀ q, q + 1 < k → cfR (Sr.gt l q) (Sr.gt l (q + 1)) < 0) ∧ Below w.heap.size w wr) (fun i _ => l.length + 1 - (intOf i).toNat)
  case atStart => exact ⟨1, Nat.le_refl _, by omega, rfl, Lib.hid fun q hq => absurd hq (by omega), Below.refl _ _⟩
  case round =>
    obtain ⟨k, hk1, hk, rfl, HQ, hbel⟩ := hrel
    by_cases hlt : k < l.length
    · have hsz := hbel.size
      have r1 := H1.out.below (hbel.mono hB)
      obtain ⟨j, hj⟩ : ∃ j, k = j + 1 := ⟨k - 1, by omega⟩
      obtain ⟨g1, o1, e1, hg1, -⟩ := reads_nine r1 (by omega)
      have Hkeep : Hid (∀ W, Below wr.heap.size wr W → (W.cell? ⟨g1, o1 + j * 9, none⟩ = some (.int .i64 (Sr.gt l j).kind) ∧ W.cell? ⟨g1, o1 + j * 9 + 1, none⟩ = some (.int .i64 (Sr.gt l j).time) ∧ W.cell? ⟨g1, o1 + j * 9 + 2, none⟩ = some (.slice (Sr.gt l j).A (Sr.gt l j).labs.length (Sr.gt l j).cp) ∧ W.cell? ⟨g1, o1 + j * 9 + 3, none⟩ = some (.string (Sr.gt l j).text) ∧ W.cell? ⟨g1, o1 + j * 9 + 4, none⟩ = some (.int .i64 (Sr.gt l j).value) ∧ W.cell? ⟨g1, o1 + j * 9 + 5, none⟩ = some (.bool (Sr.gt l j).null) ∧ W.cell? ⟨g1, o1 + j * 9 + 6, none⟩ = some (.int .i64 (Sr.gt l j).maker) ∧ W.cell? ⟨g1, o1 + j * 9 + 7, none⟩ = some (.int .i64 (Sr.gt l j).seq) ∧ W.cell? ⟨g1, o1 + j * 9 + 8, none⟩ = some (.int .i64 (Sr.gt l j).place)) ∧ W.cell? ⟨g1, o1 + k * 9, none⟩ = some (.int .i64 (Sr.gt l k).kind) ∧ W.cell? ⟨g1, o1 + k * 9 + 1, none⟩ = some (.int .i64 (Sr.gt l k).time) ∧ W.cell? ⟨g1, o1 + k * 9 + 2, none⟩ = some (.slice (Sr.gt l k).A (Sr.gt l k).labs.length (Sr.gt l k).cp) ∧ W.cell? ⟨g1, o1 + k * 9 + 3, none⟩ = some (.string (Sr.gt l k).text) ∧ W.cell? ⟨g1, o1 + k * 9 + 4, none⟩ = some (.int .i64 (Sr.gt l k).value) ∧ W.cell? ⟨g1, o1 + k * 9 + 5, none⟩ = some (.bool (Sr.gt l k).null) ∧ W.cell? ⟨g1, o1 + k * 9 + 6, none⟩ = some (.int .i64 (Sr.gt l k).maker) ∧ W.cell? ⟨g1, o1 + k * 9 + 7, none⟩ = some (.int .i64 (Sr.gt l k).seq) ∧ W.cell? ⟨g1, o1 + k * 9 + 8, none⟩ = some (.int .i64 (Sr.gt l k).place)) := Lib.hid fun W hW => ⟨reads_nine_at (r1.below (hW.mono (by omega))) e1 (by omega), reads_nine_at (r1.below (hW.mono (by omega))) e1 hlt⟩
      have HC := Lib.hid fun W => cmpRw_calls W (Sr.gt l j) (Sr.gt l k)
      have HST : Hid (¬ cfR (Sr.gt l j) (Sr.gt l k) < 0 → Mg.risB l = false) := Lib.hid fun h => ris_stop hj hlt h
      have HNX : Hid (cfR (Sr.gt l j) (Sr.gt l k) < 0 → ∀ q, q + 1 < k + 1 → cfR (Sr.gt l q) (Sr.gt l (q + 1)) < 0) := Lib.hid fun h q hq => by
        rcases Nat.lt_or_ge (q + 1) k with h1 | h1
        · exact HQ.out q h1
        · obtain rfl : q = j := by omega
          rw [← hj]; exact h
      clear r1
      subst e1
      generalize Sr.gt l j = x at *
      generalize Sr.gt l k = y at *
      unfold rwA at HC
      have i0 : (0 : Int) ≤ (k : Int) := by omega
      have i9 : (k : Int) < (l.length : Int) := by omega
      have j0 : (0 : Int) ≤ (j : Int) := by omega
      have j9 : (j : Int) < (l.length : Int) := by omega
      have hwr : IntKind.i64.wrap ((k : Int) - 1) = (j : Int) := by rw [show (k : Int) - 1 = (j : Int) by omega]; exact IntWalk.i64_in _ (by omega)
      clear hj
      obtain ⟨⟨p0, p1, p2, p3, p4, p5, p6, p7, p8⟩, q0, q1, q2, q3, q4, q5, q6, q7, q8⟩ := Hkeep.out wr (Below.refl _ _)
      generalize cfR x y = z at *
      go_wp2_with fail
      go_region_held3 (fun w' => (w'.cell? ⟨g1, o1 + j * 9, none⟩ = some (.int .i64 x.kind) ∧ w'.cell? ⟨g1, o1 + j * 9 + 1, none⟩ = some (.int .i64 x.time) ∧ w'.cell? ⟨g1, o1 + j * 9 + 2, none⟩ = some (.slice x.A x.labs.length x.cp) ∧ w'.cell? ⟨g1, o1 + j * 9 + 3, none⟩ = some (.string x.text) ∧ w'.cell? ⟨g1, o1 + j * 9 + 4, none⟩ = some (.int .i64 x.value) ∧ w'.cell? ⟨g1, o1 + j * 9 + 5, none⟩ = some (.bool x.null) ∧ w'.cell? ⟨g1, o1 + j * 9 + 6, none⟩ = some (.int .i64 x.maker) ∧ w'.cell? ⟨g1, o1 + j * 9 + 7, none⟩ = some (.int .i64 x.seq) ∧ w'.cell? ⟨g1, o1 + j * 9 + 8, none⟩ = some (.int .i64 x.place)) ∧ w'.cell? ⟨g1, o1 + k * 9, none⟩ = some (.int .i64 y.kind) ∧ w'.cell? ⟨g1, o1 + k * 9 + 1, none⟩ = some (.int .i64 y.time) ∧ w'.cell? ⟨g1, o1 + k * 9 + 2, none⟩ = some (.slice y.A y.labs.length y.cp) ∧ w'.cell? ⟨g1, o1 + k * 9 + 3, none⟩ = some (.string y.text) ∧ w'.cell? ⟨g1, o1 + k * 9 + 4, none⟩ = some (.int .i64 y.value) ∧ w'.cell? ⟨g1, o1 + k * 9 + 5, none⟩ = some (.bool y.null) ∧ w'.cell? ⟨g1, o1 + k * 9 + 6, none⟩ = some (.int .i64 y.maker) ∧ w'.cell? ⟨g1, o1 + k * 9 + 7, none⟩ = some (.int .i64 y.seq) ∧ w'.cell? ⟨g1, o1 + k * 9 + 8, none⟩ = some (.int .i64 y.place)) (exact Hkeep.out _ (by first | assumption | exact below_drewN_ (Below.refl _ _) 1)) ((go_at_call 39; refine (HC.out _).mono ?_; rintro e w2 ⟨rfl, hb2⟩; have he2 : Below wr.heap.size wr w2 := (below_drewN_ (Below.refl _ _) 1).trans (hb2.mono (by simp))))
      clear hwr
      by_cases hz : z < 0
      · have HX := Lib.hid (HNX.out hz)
        have t0 : decide (0 ≤ z) = false := dcf (by omega)
        go_wp2
        go_roundw
        case rel => exact ⟨k + 1, by omega, by omega, by go_num, HX, hbel.trans (he2.mono hsz)⟩
        case measure => simp [intOf]; omega
      · have HX := Lib.hid (HST.out (by omega))
        have t0 : decide (0 ≤ z) = true := dct (by omega)
        go_wp2
        go_ret
        rw [HX.out]
        exact ⟨rfl, hbel.trans (he2.mono hsz)⟩
    · have HX := Lib.hid (ris_all HQ.out (by omega))
      go_wp2
      go_ret
      rw [HX.out]
      exact ⟨rfl, hbel⟩
set_option maxRecDepth 100000 in
set_option maxHeartbeats 3200000 in
theorem risingR_calls (w : World) {B c : Nat} {A : Option Addr} {l : List Rw} (h : Reads w B 9 A l.length (Sr.flat Rw.c l)) (hB : B ≤ w.heap.size) (hn : l.length ≤ 4398046511104) :
    Calls Try.prog 26 #[.slice A l.length c] w fun e w' => e = .returned (.bool (Mg.risB l)) ∧ Below w.heap.size w w' := by
  have H1 := Lib.hid h
  clear h
  go_enter Try.func26, Try.ntmps26
  go_wp2
  go_loopw [3] (fun i wr => ∃ k : Nat, 1 ≤ k ∧ k ≤ l.length + 1 ∧ i = .int .i64 (k : Int) ∧ Hid (∀ q, q + 1 < k → cfR (Sr.gt l q) (Sr.gt l (q + 1)) < 0) ∧ Below w.heap.size w wr) (fun i _ => l.length + 1 - (intOf i).toNat)
  case atStart => exact ⟨1, Nat.le_refl _, by omega, rfl, Lib.hid fun q hq => absurd hq (by omega), Below.refl _ _⟩
  case round =>
    obtain ⟨k, hk1, hk, rfl, HQ, hbel⟩ := hrel
    by_cases hlt : k < l.length
    · have hsz := hbel.size
      have r1 := H1.out.below (hbel.mono hB)
      obtain ⟨j, hj⟩ : ∃ j, k = j + 1 := ⟨k - 1, by omega⟩
      obtain ⟨g1, o1, e1, hg1, -⟩ := reads_nine r1 (by omega)
      have Hkeep : Hid (∀ W, Below wr.heap.size wr W → (W.cell? ⟨g1, o1 + j * 9, none⟩ = some (.int .i64 (Sr.gt l j).kind) ∧ W.cell? ⟨g1, o1 + j * 9 + 1, none⟩ = some (.int .i64 (Sr.gt l j).time) ∧ W.cell? ⟨g1, o1 + j * 9 + 2, none⟩ = some (.slice (Sr.gt l j).A (Sr.gt l j).labs.length (Sr.gt l j).cp) ∧ W.cell? ⟨g1, o1 + j * 9 + 3, none⟩ = some (.string (Sr.gt l j).text) ∧ W.cell? ⟨g1, o1 + j * 9 + 4, none⟩ = some (.int .i64 (Sr.gt l j).value) ∧ W.cell? ⟨g1, o1 + j * 9 + 5, none⟩ = some (.bool (Sr.gt l j).null) ∧ W.cell? ⟨g1, o1 + j * 9 + 6, none⟩ = some (.int .i64 (Sr.gt l j).maker) ∧ W.cell? ⟨g1, o1 + j * 9 + 7, none⟩ = some (.int .i64 (Sr.gt l j).seq) ∧ W.cell? ⟨g1, o1 + j * 9 + 8, none⟩ = some (.int .i64 (Sr.gt l j).place)) ∧ W.cell? ⟨g1, o1 + k * 9, none⟩ = some (.int .i64 (Sr.gt l k).kind) ∧ W.cell? ⟨g1, o1 + k * 9 + 1, none⟩ = some (.int .i64 (Sr.gt l k).time) ∧ W.cell? ⟨g1, o1 + k * 9 + 2, none⟩ = some (.slice (Sr.gt l k).A (Sr.gt l k).labs.length (Sr.gt l k).cp) ∧ W.cell? ⟨g1, o1 + k * 9 + 3, none⟩ = some (.string (Sr.gt l k).text) ∧ W.cell? ⟨g1, o1 + k * 9 + 4, none⟩ = some (.int .i64 (Sr.gt l k).value) ∧ W.cell? ⟨g1, o1 + k * 9 + 5, none⟩ = some (.bool (Sr.gt l k).null) ∧ W.cell? ⟨g1, o1 + k * 9 + 6, none⟩ = some (.int .i64 (Sr.gt l k).maker) ∧ W.cell? ⟨g1, o1 + k * 9 + 7, none⟩ = some (.int .i64 (Sr.gt l k).seq) ∧ W.cell? ⟨g1, o1 + k * 9 + 8, none⟩ = some (.int .i64 (Sr.gt l k).place)) := Lib.hid fun W hW => ⟨reads_nine_at (r1.below (hW.mono (by omega))) e1 (by omega), reads_nine_at (r1.below (hW.mono (by omega))) e1 hlt⟩
      have HC := Lib.hid fun W => cmpRwR_calls W (Sr.gt l j) (Sr.gt l k)
      have HST : Hid (¬ cfR (Sr.gt l j) (Sr.gt l k) < 0 → Mg.risB l = false) := Lib.hid fun h => ris_stop hj hlt h
      have HNX : Hid (cfR (Sr.gt l j) (Sr.gt l k) < 0 → ∀ q, q + 1 < k + 1 → cfR (Sr.gt l q) (Sr.gt l (q + 1)) < 0) := Lib.hid fun h q hq => by
        rcases Nat.lt_or_ge (q + 1) k with h1 | h1
        · exact HQ.out q h1
        · obtain rfl : q = j := by omega
          rw [← hj]; exact h
      clear r1
      subst e1
      generalize Sr.gt l j = x at *
      generalize Sr.gt l k = y at *
      unfold rwA at HC
      have i0 : (0 : Int) ≤ (k : Int) := by omega
      have i9 : (k : Int) < (l.length : Int) := by omega
      have j0 : (0 : Int) ≤ (j : Int) := by omega
      have j9 : (j : Int) < (l.length : Int) := by omega
      have hwr : IntKind.i64.wrap ((k : Int) - 1) = (j : Int) := by rw [show (k : Int) - 1 = (j : Int) by omega]; exact IntWalk.i64_in _ (by omega)
      clear hj
      obtain ⟨⟨p0, p1, p2, p3, p4, p5, p6, p7, p8⟩, q0, q1, q2, q3, q4, q5, q6, q7, q8⟩ := Hkeep.out wr (Below.refl _ _)
      generalize cfR x y = z at *
      go_wp2_with fail
      go_region_held3 (fun w' => (w'.cell? ⟨g1, o1 + j * 9, none⟩ = some (.int .i64 x.kind) ∧ w'.cell? ⟨g1, o1 + j * 9 + 1, none⟩ = some (.int .i64 x.time) ∧ w'.cell? ⟨g1, o1 + j * 9 + 2, none⟩ = some (.slice x.A x.labs.length x.cp) ∧ w'.cell? ⟨g1, o1 + j * 9 + 3, none⟩ = some (.string x.text) ∧ w'.cell? ⟨g1, o1 + j * 9 + 4, none⟩ = some (.int .i64 x.value) ∧ w'.cell? ⟨g1, o1 + j * 9 + 5, none⟩ = some (.bool x.null) ∧ w'.cell? ⟨g1, o1 + j * 9 + 6, none⟩ = some (.int .i64 x.maker) ∧ w'.cell? ⟨g1, o1 + j * 9 + 7, none⟩ = some (.int .i64 x.seq) ∧ w'.cell? ⟨g1, o1 + j * 9 + 8, none⟩ = some (.int .i64 x.place)) ∧ w'.cell? ⟨g1, o1 + k * 9, none⟩ = some (.int .i64 y.kind) ∧ w'.cell? ⟨g1, o1 + k * 9 + 1, none⟩ = some (.int .i64 y.time) ∧ w'.cell? ⟨g1, o1 + k * 9 + 2, none⟩ = some (.slice y.A y.labs.length y.cp) ∧ w'.cell? ⟨g1, o1 + k * 9 + 3, none⟩ = some (.string y.text) ∧ w'.cell? ⟨g1, o1 + k * 9 + 4, none⟩ = some (.int .i64 y.value) ∧ w'.cell? ⟨g1, o1 + k * 9 + 5, none⟩ = some (.bool y.null) ∧ w'.cell? ⟨g1, o1 + k * 9 + 6, none⟩ = some (.int .i64 y.maker) ∧ w'.cell? ⟨g1, o1 + k * 9 + 7, none⟩ = some (.int .i64 y.seq) ∧ w'.cell? ⟨g1, o1 + k * 9 + 8, none⟩ = some (.int .i64 y.place)) (exact Hkeep.out _ (by first | assumption | exact below_drewN_ (Below.refl _ _) 1)) ((go_at_call 42; refine (HC.out _).mono ?_; rintro e w2 ⟨rfl, hb2⟩; have he2 : Below wr.heap.size wr w2 := (below_drewN_ (Below.refl _ _) 1).trans (hb2.mono (by simp))))
      clear hwr
      by_cases hz : z < 0
      · have HX := Lib.hid (HNX.out hz)
        have t0 : decide (0 ≤ z) = false := dcf (by omega)
        go_wp2
        go_roundw
        case rel => exact ⟨k + 1, by omega, by omega, by go_num, HX, hbel.trans (he2.mono hsz)⟩
        case measure => simp [intOf]; omega
      · have HX := Lib.hid (HST.out (by omega))
        have t0 : decide (0 ≤ z) = true := dct (by omega)
        go_wp2
        go_ret
        rw [HX.out]
        exact ⟨rfl, hbel.trans (he2.mono hsz)⟩
    · have HX := Lib.hid (ris_all HQ.out (by omega))
      go_wp2
      go_ret
      rw [HX.out]
      exact ⟨rfl, hbel⟩
end Go.Proofs.Ytophfgijfmdbcaa
