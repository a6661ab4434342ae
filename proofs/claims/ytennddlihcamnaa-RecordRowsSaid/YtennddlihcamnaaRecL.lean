/- SameRows of the reference on equal rows (chapter 9). -/
import Derived.Test.YtennddlihcamnaaProg
import Derived.Test.YtennddlihcamnaaRecK
namespace Go.Proofs.Ytennddlihcamnaa
open Go.RowKit

set_option maxRecDepth 100000 in
set_option maxHeartbeats 1600000 in
theorem sameRows_calls (w : World) {b1 b2 n c1 c2 : Nat} {A1 A2 : Option Addr} {l : List Rec} {ps1 ps2 : List Pos} (maker seq : Int) (h1 : RowsOwn w b1 l maker seq n (.slice A1 n c1) ps1) (h2 : RowsOwn w b2 l maker seq n (.slice A2 n c2) ps2) (hn : n ≤ l.length) (h70 : n ≤ 70) (hl : ∀ i, i < l.length → (recAt l i).labs.length ≤ 4398046511104) :
    Calls Try.prog 16 #[.slice A1 n c1, .slice A2 n c2] w fun e w' => e = .returned (.bool true) ∧ Below w.heap.size w w' := by
  have hne : ((n : Int) != (n : Int)) = false := nef rfl
  have H1 := Lib.hid fun (hp : 0 < n) => row_at h1 hp
  have H2 := Lib.hid fun (hp : 0 < n) => row_at h2 hp
  have HL1 : Hid (∀ i, i < n → Labs w w.heap.size (posAt ps1 i).1 (recAt l i).labs) := Lib.hid fun i hi => Reads.of_own (h1.each i hi)
  have HL2 : Hid (∀ i, i < n → Labs w w.heap.size (posAt ps2 i).1 (recAt l i).labs) := Lib.hid fun i hi => Reads.of_own (h2.each i hi)
  have HLn := Lib.hid hl
  clear h1 h2 hl
  go_enter Try.func16, Try.ntmps16
  go_wp2
  go_loopw [13] (fun i wr => ∃ k : Nat, k ≤ n ∧ i = .int .i64 (k : Int) ∧ Below w.heap.size w wr) (fun i _ => n - (intOf i).toNat)
  case atStart => exact ⟨0, Nat.zero_le _, rfl, Below.refl _ _⟩
  case round =>
    obtain ⟨k, hk, rfl, hbel⟩ := hrel
    by_cases hlt : k < n
    · obtain ⟨g1, rfl, _, hg1, hX1⟩ := H1.out (by omega)
      obtain ⟨g2, rfl, _, hg2, hX2⟩ := H2.out (by omega)
      have hsz := hbel.size
      have hlab1 := (HL1.out k hlt).below hbel
      have hlab2 := (HL2.out k hlt).below hbel
      have hln := HLn.out k (by omega)
      have hS := fun W (hW : Below wr.heap.size wr W) => same_same W (recAt l k) (posAt ps1 k).1 (posAt ps2 k).1 (posAt ps1 k).2 (posAt ps2 k).2 maker seq (k : Int) (hlab1.below (hW.mono hsz)) (hlab2.below (hW.mono hsz)) (by have := hW.size; omega) (by have := hW.size; omega) hln
      have hX1 := hX1 k hlt
      have hX2 := hX2 k hlt
      unfold Rec.row at hS hX1 hX2
      clear hlab1 hlab2 hln
      generalize posAt ps1 k = p1 at *
      generalize posAt ps2 k = p2 at *
      generalize recAt l k = r at *
      have Hkeep : Hid (∀ W, Below w.heap.size wr W → W.cell? ⟨g1, k * 9, none⟩ = some (.int .i64 r.kind) ∧ W.cell? ⟨g1, k * 9 + 1, none⟩ = some (.int .i64 r.time) ∧ W.cell? ⟨g1, k * 9 + 2, none⟩ = some (.slice p1.1 r.labs.length p1.2) ∧ W.cell? ⟨g1, k * 9 + 3, none⟩ = some (.string r.text) ∧ W.cell? ⟨g1, k * 9 + 4, none⟩ = some (.int .i64 r.value) ∧ W.cell? ⟨g1, k * 9 + 5, none⟩ = some (.bool r.null) ∧ W.cell? ⟨g1, k * 9 + 6, none⟩ = some (.int .i64 maker) ∧ W.cell? ⟨g1, k * 9 + 7, none⟩ = some (.int .i64 seq) ∧ W.cell? ⟨g1, k * 9 + 8, none⟩ = some (.int .i64 (k : Int)) ∧ W.cell? ⟨g2, k * 9, none⟩ = some (.int .i64 r.kind) ∧ W.cell? ⟨g2, k * 9 + 1, none⟩ = some (.int .i64 r.time) ∧ W.cell? ⟨g2, k * 9 + 2, none⟩ = some (.slice p2.1 r.labs.length p2.2) ∧ W.cell? ⟨g2, k * 9 + 3, none⟩ = some (.string r.text) ∧ W.cell? ⟨g2, k * 9 + 4, none⟩ = some (.int .i64 r.value) ∧ W.cell? ⟨g2, k * 9 + 5, none⟩ = some (.bool r.null) ∧ W.cell? ⟨g2, k * 9 + 6, none⟩ = some (.int .i64 maker) ∧ W.cell? ⟨g2, k * 9 + 7, none⟩ = some (.int .i64 seq) ∧ W.cell? ⟨g2, k * 9 + 8, none⟩ = some (.int .i64 (k : Int))) := Lib.hid fun W hW => ⟨(hW.cell (p := ⟨g1, _, none⟩) hg1).trans ((hbel.cell (p := ⟨g1, _, none⟩) hg1).trans (hX1 0 _ rfl)), (hW.cell (p := ⟨g1, _, none⟩) hg1).trans ((hbel.cell (p := ⟨g1, _, none⟩) hg1).trans (hX1 1 _ rfl)), (hW.cell (p := ⟨g1, _, none⟩) hg1).trans ((hbel.cell (p := ⟨g1, _, none⟩) hg1).trans (hX1 2 _ rfl)), (hW.cell (p := ⟨g1, _, none⟩) hg1).trans ((hbel.cell (p := ⟨g1, _, none⟩) hg1).trans (hX1 3 _ rfl)), (hW.cell (p := ⟨g1, _, none⟩) hg1).trans ((hbel.cell (p := ⟨g1, _, none⟩) hg1).trans (hX1 4 _ rfl)), (hW.cell (p := ⟨g1, _, none⟩) hg1).trans ((hbel.cell (p := ⟨g1, _, none⟩) hg1).trans (hX1 5 _ rfl)), (hW.cell (p := ⟨g1, _, none⟩) hg1).trans ((hbel.cell (p := ⟨g1, _, none⟩) hg1).trans (hX1 6 _ rfl)), (hW.cell (p := ⟨g1, _, none⟩) hg1).trans ((hbel.cell (p := ⟨g1, _, none⟩) hg1).trans (hX1 7 _ rfl)), (hW.cell (p := ⟨g1, _, none⟩) hg1).trans ((hbel.cell (p := ⟨g1, _, none⟩) hg1).trans (hX1 8 _ rfl)), (hW.cell (p := ⟨g2, _, none⟩) hg2).trans ((hbel.cell (p := ⟨g2, _, none⟩) hg2).trans (hX2 0 _ rfl)), (hW.cell (p := ⟨g2, _, none⟩) hg2).trans ((hbel.cell (p := ⟨g2, _, none⟩) hg2).trans (hX2 1 _ rfl)), (hW.cell (p := ⟨g2, _, none⟩) hg2).trans ((hbel.cell (p := ⟨g2, _, none⟩) hg2).trans (hX2 2 _ rfl)), (hW.cell (p := ⟨g2, _, none⟩) hg2).trans ((hbel.cell (p := ⟨g2, _, none⟩) hg2).trans (hX2 3 _ rfl)), (hW.cell (p := ⟨g2, _, none⟩) hg2).trans ((hbel.cell (p := ⟨g2, _, none⟩) hg2).trans (hX2 4 _ rfl)), (hW.cell (p := ⟨g2, _, none⟩) hg2).trans ((hbel.cell (p := ⟨g2, _, none⟩) hg2).trans (hX2 5 _ rfl)), (hW.cell (p := ⟨g2, _, none⟩) hg2).trans ((hbel.cell (p := ⟨g2, _, none⟩) hg2).trans (hX2 6 _ rfl)), (hW.cell (p := ⟨g2, _, none⟩) hg2).trans ((hbel.cell (p := ⟨g2, _, none⟩) hg2).trans (hX2 7 _ rfl)), (hW.cell (p := ⟨g2, _, none⟩) hg2).trans ((hbel.cell (p := ⟨g2, _, none⟩) hg2).trans (hX2 8 _ rfl))⟩
      have HS := Lib.hid hS
      have i0 : (0 : Int) ≤ (k : Int) := by omega
      have i9 : (k : Int) < (n : Int) := by omega
      obtain ⟨q0, q1, q2, q3, q4, q5, q6, q7, q8, q9, q10, q11, q12, q13, q14, q15, q16, q17⟩ := Hkeep.out wr (Below.refl _ _)
      clear hS hX1 hX2
      go_wp2_with fail
      go_region_held3 (fun w' => w'.cell? ⟨g1, k * 9, none⟩ = some (.int .i64 r.kind) ∧ w'.cell? ⟨g1, k * 9 + 1, none⟩ = some (.int .i64 r.time) ∧ w'.cell? ⟨g1, k * 9 + 2, none⟩ = some (.slice p1.1 r.labs.length p1.2) ∧ w'.cell? ⟨g1, k * 9 + 3, none⟩ = some (.string r.text) ∧ w'.cell? ⟨g1, k * 9 + 4, none⟩ = some (.int .i64 r.value) ∧ w'.cell? ⟨g1, k * 9 + 5, none⟩ = some (.bool r.null) ∧ w'.cell? ⟨g1, k * 9 + 6, none⟩ = some (.int .i64 maker) ∧ w'.cell? ⟨g1, k * 9 + 7, none⟩ = some (.int .i64 seq) ∧ w'.cell? ⟨g1, k * 9 + 8, none⟩ = some (.int .i64 (k : Int)) ∧ w'.cell? ⟨g2, k * 9, none⟩ = some (.int .i64 r.kind) ∧ w'.cell? ⟨g2, k * 9 + 1, none⟩ = some (.int .i64 r.time) ∧ w'.cell? ⟨g2, k * 9 + 2, none⟩ = some (.slice p2.1 r.labs.length p2.2) ∧ w'.cell? ⟨g2, k * 9 + 3, none⟩ = some (.string r.text) ∧ w'.cell? ⟨g2, k * 9 + 4, none⟩ = some (.int .i64 r.value) ∧ w'.cell? ⟨g2, k * 9 + 5, none⟩ = some (.bool r.null) ∧ w'.cell? ⟨g2, k * 9 + 6, none⟩ = some (.int .i64 maker) ∧ w'.cell? ⟨g2, k * 9 + 7, none⟩ = some (.int .i64 seq) ∧ w'.cell? ⟨g2, k * 9 + 8, none⟩ = some (.int .i64 (k : Int))) (exact Hkeep.out _ (by first | assumption | exact below_drewN_ (Below.refl _ _) 1)) ((go_at_call 23; refine (HS.out _ (below_drewN_ (Below.refl _ _) 1)).mono ?_; rintro e w2 ⟨rfl, hb2⟩; have he2 : Below w.heap.size wr w2 := (below_drewN_ (Below.refl _ _) 1).trans (hb2.mono hsz)))
      clear q0 q1 q2 q3 q4 q5 q6 q7 q8 q9 q10 q11 q12 q13 q14 q15 q16 q17
      go_wp2
      go_roundw
      case rel => exact ⟨k + 1, by omega, by go_num, hbel.trans he2⟩
      case measure => simp [intOf]; omega
    · obtain rfl : k = n := by omega
      go_wp2
      go_ret
      exact ⟨rfl, hbel⟩
end Go.Proofs.Ytennddlihcamnaa
