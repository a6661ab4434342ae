/- Twin of the document (chapter 13): a manifest in rows of its own. -/
import Derived.Test.YtjbmlhipjceeeaaGreatProg
import Derived.Test.YtjbmlhipjceeeaaGreatMfS
import Derived.Test.YtjbmlhipjceeeaaGreatMfY
import Derived.Test.YtjbmlhipjceeeaaGreatPut
import Derived.BigQuiet
namespace Go.Proofs.YtjbmlhipjceeeaaGreat.Mf
set_option linter.unusedVariables false
set_option linter.unusedSimpArgs false
open Go.RowKit Go.Proofs.YtjbmlhipjceeeaaGreat

set_option maxRecDepth 100000 in
set_option maxHeartbeats 6400000 in
theorem twin_calls (w : World) {B : Nat} {m : Md} {p : Pl} (h : Man w B m p) (hB : B ≤ w.heap.size) (hl : m.E.length ≤ 1000000 ∧ m.M.length ≤ 1000000 ∧ m.O.length ≤ 1000000) :
    Calls Tryz.prog 11 #[mdV m p] w fun e w' => ∃ pz, e = .returned (mdV m pz) ∧ Mow w' w.heap.size m pz ∧ Below w.heap.size w w' := by
  have HRE := Lib.hid h.re
  have HRM := Lib.hid h.rm
  have HRO := Lib.hid h.ro
  obtain ⟨h1, h2, h3⟩ := hl
  clear h
  obtain ⟨AE, cE, AM, cM, AO, cO⟩ := p
  dsimp only at *
  have HBx := Lib.hid ((Blk.new w 26 #[.int .i64 m.gen, .int .i64 m.cut, .int .i64 m.fence, .slice AE m.E.length cE, .slice AM m.M.length cM, .slice AO m.O.length cO]).alloc (.cells #[.int .i64 0, .int .i64 0, .int .i64 0, .slice none 0 0, .slice none 0 0, .slice none 0 0] 26))
  have HBz : Hid (Blk ((w.alloc (.cells #[.int .i64 m.gen, .int .i64 m.cut, .int .i64 m.fence, .slice AE m.E.length cE, .slice AM m.M.length cM, .slice AO m.O.length cO] 26)).alloc (.cells #[.int .i64 0, .int .i64 0, .int .i64 0, .slice none 0 0, .slice none 0 0, .slice none 0 0] 26)) (w.heap.size + 1) 26 #[.int .i64 0, .int .i64 0, .int .i64 0, .slice none 0 0, .slice none 0 0, .slice none 0 0]) := Lib.hid (by
    have := Blk.new (w.alloc (.cells #[.int .i64 m.gen, .int .i64 m.cut, .int .i64 m.fence, .slice AE m.E.length cE, .slice AM m.M.length cM, .slice AO m.O.length cO] 26)) 26 #[.int .i64 0, .int .i64 0, .int .i64 0, .slice none 0 0, .slice none 0 0, .slice none 0 0]
    rw [World.size_alloc] at this
    exact this)
  have hwb : Below w.heap.size w (((w.alloc (.cells #[.int .i64 m.gen, .int .i64 m.cut, .int .i64 m.fence, .slice AE m.E.length cE, .slice AM m.M.length cM, .slice AO m.O.length cO] 26)).alloc (.cells #[.int .i64 0, .int .i64 0, .int .i64 0, .slice none 0 0, .slice none 0 0, .slice none 0 0] 26)).alloc (.cells #[] 42)) := (((Below.refl _ _).alloc (Nat.le_refl _) _).alloc (by simp) _).alloc (by simp; omega) _
  have HRd := Lib.hid (HRE.out.below (hwb.mono hB))
  have HMd : Hid ((((w.alloc (.cells #[.int .i64 m.gen, .int .i64 m.cut, .int .i64 m.fence, .slice AE m.E.length cE, .slice AM m.M.length cM, .slice AO m.O.length cO] 26)).alloc (.cells #[.int .i64 0, .int .i64 0, .int .i64 0, .slice none 0 0, .slice none 0 0, .slice none 0 0] 26)).alloc (.cells #[] 42)).ownsRow (w.heap.size + 1 + 1) 42 9 (.slice (some ⟨w.heap.size + 1 + 1, 0, none⟩) 0 0) 0 []) := Lib.hid (by
    have := World.ownsRow_made (base := w.heap.size + 1 + 1) (e := 42) (size := 9) ((w.alloc (.cells #[.int .i64 m.gen, .int .i64 m.cut, .int .i64 m.fence, .slice AE m.E.length cE, .slice AM m.M.length cM, .slice AO m.O.length cO] 26)).alloc (.cells #[.int .i64 0, .int .i64 0, .int .i64 0, .slice none 0 0, .slice none 0 0, .slice none 0 0] 26)) #[] 0 (by simp) (Nat.zero_le _) rfl
    simpa using this)
  have HWB := Lib.hid hwb
  clear hwb
  go_enter Tryz.func11, Tryz.ntmps11
  go_wp2_with (at_builtin; go_must (refine wpList_append_sl _ rfl (.tmp 3) (.tmp 5) _ rfl (w.heap.size + 1 + 1) 42 _ 9 88 Tryz.underlying22 Tryz.infoEn rfl (by omega) _ _ _ rfl HMd.out B AE m.E.length cE (m.E.flatMap En.cs) rfl HRd.out (ecs_one _) (by unfold maxLen; omega) (by first | (simp; done) | (simp; omega) | omega) (by first | (simp; done) | (simp; omega) | omega) ?_))
  intro A6 c6 w6 hc61 hc62 hrd6 hbel6 hown6 hgr6 _
  have hE : w6.ownsRow (w.heap.size + 1 + 1) 42 9 (.slice A6 m.E.length c6) m.E.length (m.E.flatMap En.cs) := by simpa using hown6
  have hB6 := (HBx.out.alloc (.cells #[] 42)).below hbel6 (by omega)
  have hZ6 := (HBz.out.alloc (.cells #[] 42)).below hbel6 (by omega)
  obtain ⟨c3, c4, c5⟩ : w6.cell? ⟨w.heap.size, 3, none⟩ = some (.slice AE m.E.length cE) ∧ w6.cell? ⟨w.heap.size, 4, none⟩ = some (.slice AM m.M.length cM) ∧ w6.cell? ⟨w.heap.size, 5, none⟩ = some (.slice AO m.O.length cO) := ⟨hB6.cell 3, hB6.cell 4, hB6.cell 5⟩
  have f3 := hB6.frozen 3
  have hl6 : w.heap.size + 1 + 1 < w6.heap.size := by have := hbel6.size; simp at this; omega
  have hw0 : w.heap.size < w6.heap.size := by omega
  have hE7 := own_only hE ((Only.refl w.heap.size w6).setCell (p := ⟨w.heap.size, 3, none⟩) (.inl rfl) (.slice A6 m.E.length c6)) (by omega)
  have hB7 : Blk (w6.setCell ⟨w.heap.size, 3, none⟩ (.slice A6 m.E.length c6)) w.heap.size 26 #[.int .i64 m.gen, .int .i64 m.cut, .int .i64 m.fence, .slice A6 m.E.length c6, .slice AM m.M.length cM, .slice AO m.O.length cO] := by simpa using hB6.set_ 3 (.slice A6 m.E.length c6)
  have HZ7 := Lib.hid (hZ6.grown ((Only.refl w.heap.size w6).setCell (p := ⟨w.heap.size, 3, none⟩) (.inl rfl) (.slice A6 m.E.length c6)) (by intro e; injection e with e; omega))
  have hW7 : Below w.heap.size w (w6.setCell ⟨w.heap.size, 3, none⟩ (.slice A6 m.E.length c6)) := (HWB.out.trans (hbel6.mono (by omega))).setCell (Nat.le_refl _) _
  have hW8 : Below w.heap.size w ((w6.setCell ⟨w.heap.size, 3, none⟩ (.slice A6 m.E.length c6)).alloc (.cells #[] 44)) := hW7.alloc (by simp; omega) _
  have HRd2 := Lib.hid (HRM.out.below (hW8.mono hB))
  have HMd2 : Hid (((w6.setCell ⟨w.heap.size, 3, none⟩ (.slice A6 m.E.length c6)).alloc (.cells #[] 44)).ownsRow w6.heap.size 44 2 (.slice (some ⟨w6.heap.size, 0, none⟩) 0 0) 0 []) := Lib.hid (by
    have := World.ownsRow_made (base := w6.heap.size) (e := 44) (size := 2) (w6.setCell ⟨w.heap.size, 3, none⟩ (.slice A6 m.E.length c6)) #[] 0 (by simp) (Nat.zero_le _) rfl
    simpa using this)
  have HE7 := Lib.hid hE7
  have HB7 := Lib.hid hB7
  have HW8 := Lib.hid hW8
  have HEl := Lib.hid (show ∀ g, (Value.slice A6 m.E.length c6).ownBlock = some g → 0 ≤ g ∧ g < w6.heap.size from fun g hg => ⟨Nat.zero_le _, (hE.lt g hg).2⟩)
  clear hc61 hc62 hrd6 hbel6 hown6 hgr6 hE hB6 hE7 hB7 hW7 hW8 HWB HBx HMd HRd
  go_wp2_with (at_builtin; go_must (refine wpList_append_sl _ rfl (.tmp 8) (.tmp 10) _ rfl w6.heap.size 44 _ 2 16 Tryz.underlying23 Tryz.infoMk rfl (by omega) _ _ _ rfl HMd2.out B AM m.M.length cM (m.M.flatMap Mk.cs) rfl HRd2.out (by intro u hu; obtain ⟨x, _, hx⟩ := List.mem_flatMap.1 hu; simp [Mk.cs] at hx; rcases hx with rfl | rfl <;> rfl) (by unfold maxLen; omega) (by first | (simp; done) | (simp; omega) | omega) (by first | (simp; done) | (simp; omega) | omega) ?_))
  intro A7 c7 w8 hc71 hc72 hrd7 hbel7 hown7 hgr7 _
  have hM : w8.ownsRow w6.heap.size 44 2 (.slice A7 m.M.length c7) m.M.length (m.M.flatMap Mk.cs) := by simpa using hown7
  have hE8 := (HE7.out.alloc (.cells #[] 44)).kept hgr7 (own_apart HEl.out fun g hg => (HMd2.out.lt g hg).1)
  have hB8 := (HB7.out.alloc (.cells #[] 44)).below hbel7 hw0
  have hZ8 := (HZ7.out.alloc (.cells #[] 44)).below hbel7 (by omega)
  clear c3 c4 c5 f3
  obtain ⟨c4, c5⟩ : w8.cell? ⟨w.heap.size, 4, none⟩ = some (.slice AM m.M.length cM) ∧ w8.cell? ⟨w.heap.size, 5, none⟩ = some (.slice AO m.O.length cO) := ⟨hB8.cell 4, hB8.cell 5⟩
  have f4 := hB8.frozen 4
  have hm8 : w6.heap.size < w8.heap.size := by have := hbel7.size; simp at this; omega
  have hw1 : w.heap.size < w8.heap.size := by omega
  have hO9 : Only w.heap.size w8 (w8.setCell ⟨w.heap.size, 4, none⟩ (.slice A7 m.M.length c7)) := (Only.refl w.heap.size w8).setCell (.inl rfl) _
  have HE9 := Lib.hid (own_only hE8 hO9 (by omega))
  have HM9 := Lib.hid (own_only hM hO9 hw0)
  have HB9 : Hid (Blk (w8.setCell ⟨w.heap.size, 4, none⟩ (.slice A7 m.M.length c7)) w.heap.size 26 #[.int .i64 m.gen, .int .i64 m.cut, .int .i64 m.fence, .slice A6 m.E.length c6, .slice A7 m.M.length c7, .slice AO m.O.length cO]) := Lib.hid (by simpa using hB8.set_ 4 (.slice A7 m.M.length c7))
  have HZ9 := Lib.hid (hZ8.grown hO9 (by intro e; injection e with e; omega))
  have hW9 : Below w.heap.size w (w8.setCell ⟨w.heap.size, 4, none⟩ (.slice A7 m.M.length c7)) := (HW8.out.trans (hbel7.mono (by omega))).setCell (Nat.le_refl _) _
  have hW10 : Below w.heap.size w ((w8.setCell ⟨w.heap.size, 4, none⟩ (.slice A7 m.M.length c7)).alloc (.cells #[] 29)) := hW9.alloc (by simp; omega) _
  have HRd3 := Lib.hid (HRO.out.below (hW10.mono hB))
  have HMd3 : Hid (((w8.setCell ⟨w.heap.size, 4, none⟩ (.slice A7 m.M.length c7)).alloc (.cells #[] 29)).ownsRow w8.heap.size 29 3 (.slice (some ⟨w8.heap.size, 0, none⟩) 0 0) 0 []) := Lib.hid (by
    have := World.ownsRow_made (base := w8.heap.size) (e := 29) (size := 3) (w8.setCell ⟨w.heap.size, 4, none⟩ (.slice A7 m.M.length c7)) #[] 0 (by simp) (Nat.zero_le _) rfl
    simpa using this)
  have HW10 := Lib.hid hW10
  have HEl9 := Lib.hid (show ∀ g, (Value.slice A6 m.E.length c6).ownBlock = some g → 0 ≤ g ∧ g < w8.heap.size from fun g hg => ⟨Nat.zero_le _, Nat.lt_trans (HEl.out g hg).2 hm8⟩)
  have HMl9 := Lib.hid (show ∀ g, (Value.slice A7 m.M.length c7).ownBlock = some g → 0 ≤ g ∧ g < w8.heap.size from fun g hg => ⟨Nat.zero_le _, (hM.lt g hg).2⟩)
  clear hc71 hc72 hrd7 hbel7 hown7 hgr7 hE8 hM hB8 hO9 hW9 hW10 HE7 HB7 HW8 HMd2 HRd2
  go_wp2_with (at_builtin; go_must (refine wpList_append_sl _ rfl (.tmp 13) (.tmp 15) _ rfl w8.heap.size 29 _ 3 24 Tryz.underlying24 Tryz.infoOw rfl (by omega) _ _ _ rfl HMd3.out B AO m.O.length cO (m.O.flatMap Ow.cs) rfl HRd3.out (by intro u hu; obtain ⟨x, _, hx⟩ := List.mem_flatMap.1 hu; simp [Ow.cs] at hx; rcases hx with rfl | rfl | rfl <;> rfl) (by unfold maxLen; omega) (by first | (simp; done) | (simp; omega) | omega) (by first | (simp; done) | (simp; omega) | omega) ?_))
  intro A9 c9 w9 hc91 hc92 hrd9 hbel9 hown9 hgr9 _
  have hO : w9.ownsRow w8.heap.size 29 3 (.slice A9 m.O.length c9) m.O.length (m.O.flatMap Ow.cs) := by simpa using hown9
  have hE10 := (HE9.out.alloc (.cells #[] 29)).kept hgr9 (own_apart HEl9.out fun g hg => (HMd3.out.lt g hg).1)
  have hM10 := (HM9.out.alloc (.cells #[] 29)).kept hgr9 (own_apart HMl9.out fun g hg => (HMd3.out.lt g hg).1)
  have hB10 := (HB9.out.alloc (.cells #[] 29)).below hbel9 hw1
  have hZ10 := (HZ9.out.alloc (.cells #[] 29)).below hbel9 (by omega)
  clear c4 c5 f4
  have hw2 : w.heap.size + 1 < w9.heap.size := by have := hbel9.size; simp at this; omega
  have hw3 : w.heap.size < w9.heap.size := by omega
  obtain ⟨b0, b1, b2, b3, b4, b5⟩ : w9.cell? ⟨w.heap.size, 0, none⟩ = some (.int .i64 m.gen) ∧ w9.cell? ⟨w.heap.size, 1, none⟩ = some (.int .i64 m.cut) ∧ w9.cell? ⟨w.heap.size, 2, none⟩ = some (.int .i64 m.fence) ∧ w9.cell? ⟨w.heap.size, 3, none⟩ = some (.slice A6 m.E.length c6) ∧ w9.cell? ⟨w.heap.size, 4, none⟩ = some (.slice A7 m.M.length c7) ∧ w9.cell? ⟨w.heap.size, 5, none⟩ = some (.slice AO m.O.length cO) := ⟨hB10.cell 0, hB10.cell 1, hB10.cell 2, hB10.cell 3, hB10.cell 4, hB10.cell 5⟩
  have f5 := hB10.frozen 5
  have hO11 : Only w.heap.size w9 (w9.setCell ⟨w.heap.size, 5, none⟩ (.slice A9 m.O.length c9)) := (Only.refl w.heap.size w9).setCell (.inl rfl) _
  have hZ11 := hZ10.grown hO11 (by intro e; injection e with e; omega)
  obtain ⟨z0, z1, z2, z3, z4, z5⟩ : w9.cell? ⟨w.heap.size + 1, 0, none⟩ = some (.int .i64 0) ∧ w9.cell? ⟨w.heap.size + 1, 1, none⟩ = some (.int .i64 0) ∧ w9.cell? ⟨w.heap.size + 1, 2, none⟩ = some (.int .i64 0) ∧ w9.cell? ⟨w.heap.size + 1, 3, none⟩ = some (.slice none 0 0) ∧ w9.cell? ⟨w.heap.size + 1, 4, none⟩ = some (.slice none 0 0) ∧ w9.cell? ⟨w.heap.size + 1, 5, none⟩ = some (.slice none 0 0) := ⟨hZ10.cell 0, hZ10.cell 1, hZ10.cell 2, hZ10.cell 3, hZ10.cell 4, hZ10.cell 5⟩
  have g0 := hZ10.frozen 0
  have g1 := hZ10.frozen 1
  have g2 := hZ10.frozen 2
  have g3 := hZ10.frozen 3
  have g4 := hZ10.frozen 4
  have g5 := hZ10.frozen 5
  go_wp2
  have hW11 := (HW10.out.trans (hbel9.mono (by omega))).setCell (p := ⟨w.heap.size, 5, none⟩) (Nat.le_refl _) (.slice A9 m.O.length c9)
  have hO4 := set6_only (Only.refl (w.heap.size + 1) (w9.setCell ⟨w.heap.size, 5, none⟩ (.slice A9 m.O.length c9))) (.int .i64 m.gen) (.int .i64 m.cut) (.int .i64 m.fence) (.slice A6 m.E.length c6) (.slice A7 m.M.length c7) (.slice A9 m.O.length c9)
  have hB4 := set6_blk hZ11 (.int .i64 m.gen) (.int .i64 m.cut) (.int .i64 m.fence) (.slice A6 m.E.length c6) (.slice A7 m.M.length c7) (.slice A9 m.O.length c9)
  refine bodyPost_ret (results_cell_row rfl _ _ (w.heap.size + 1) 26 #[.int .i64 m.gen, .int .i64 m.cut, .int .i64 m.fence, .slice A6 m.E.length c6, .slice A7 m.M.length c7, .slice A9 m.O.length c9] (0, 0) _ rfl hB4 Tryz.underlying26 rfl (by kernel_rfl)) rfl ?_
  exact ⟨⟨A6, c6, A7, c7, A9, c9⟩, rfl, ⟨own_mono (own_only (own_only hE10 hO11 (by omega)) hO4 (by omega)) (by omega), own_mono (own_only (own_only hM10 hO11 (by omega)) hO4 (by omega)) (by omega), own_mono (own_only (own_only hO hO11 (by omega)) hO4 (by omega)) (by omega)⟩, set6_below hW11 (by omega) (.int .i64 m.gen) (.int .i64 m.cut) (.int .i64 m.fence) (.slice A6 m.E.length c6) (.slice A7 m.M.length c7) (.slice A9 m.O.length c9)⟩
end Go.Proofs.YtjbmlhipjceeeaaGreat.Mf
