/- Rows: slices.Clone of labels, twin (chapter 9). -/
import Derived.Test.YtennddlihcamnaaProg
import Derived.Test.YtennddlihcamnaaRecA
import Derived.Lib.SliceRun
namespace Go.Proofs.Ytennddlihcamnaa
set_option linter.unusedVariables false
set_option linter.unusedSimpArgs false
open Go.RowKit

theorem blk_full9 {w : World} {g : Nat} {t : TypeId} {z0 z1 z2 z3 z4 z5 z6 z7 z8 v0 v1 v2 v3 v4 v5 v6 v7 v8 : Value} (h : Blk w g t #[z0, z1, z2, z3, z4, z5, z6, z7, z8]) :
    Blk (((((((((w.setCell ⟨g, 0, none⟩ v0).setCell ⟨g, 1, none⟩ v1).setCell ⟨g, 2, none⟩ v2).setCell ⟨g, 3, none⟩ v3).setCell ⟨g, 4, none⟩ v4).setCell ⟨g, 5, none⟩ v5).setCell ⟨g, 6, none⟩ v6).setCell ⟨g, 7, none⟩ v7).setCell ⟨g, 8, none⟩ v8) g t #[v0, v1, v2, v3, v4, v5, v6, v7, v8] := by
  have h' := (((((((((h.set_ 0 v0).set_ 1 v1).set_ 2 v2).set_ 3 v3).set_ 4 v4).set_ 5 v5).set_ 6 v6).set_ 7 v7).set_ 8 v8)
  simp only [List.setIfInBounds_toArray, List.set_cons_zero, List.set_cons_succ] at h'
  exact h'

theorem row_kept {w : World} {base : Nat} {e : TypeId} {n m : Nat} {v : Value} {xs : List Value} (h : w.ownsRow base e m v n xs) {p : Addr} (hp : p.block < base) (u : Value) : (w.setCell p u).ownsRow base e m v n xs :=
  own_only h ((Only.refl p.block w).setCell (.inl rfl) u) hp

set_option maxRecDepth 100000 in
theorem clone_calls (w : World) {B c : Nat} {A : Option Addr} {l : List Lab} (h : Labs w B A l) (hB : B ≤ w.heap.size) (hn : l.length ≤ 4398046511104) :
    Calls Try.prog 52 #[.slice A l.length c] w fun e w' => ∃ A' c', e = .returned (.slice A' l.length c') ∧ w'.ownsRow w.heap.size 39 2 (.slice A' l.length c') l.length (labCells l) ∧ Below w.heap.size w w' := by
  have hq := fun W => Lib.run_eql_slice_nil (P := Try.prog) W 26 39 A l.length c 0 0 Try.underlying26
  rcases A with _ | ad
  · have hl : l = [] := by
      rcases Nat.eq_zero_or_pos l.length with h0 | h0
      · exact List.eq_nil_of_length_eq_zero h0
      · obtain ⟨b, off, e, _⟩ := h.2 h0
        cases e
    have HL := Lib.hid hl
    clear hl
    have hq2 : ∀ W, (binOp .eql 26 (.slice none l.length c) (.slice none 0 0)).run Try.prog W = .ok (.bool true) W := fun W => by rw [hq]; rfl
    clear hq
    go_enter Try.func52, Try.ntmps52
    go_wp2
    go_ret
    exact ⟨none, 0, by rw [HL.out]; rfl, by rw [HL.out]; exact World.ownsRow_nil _ _ _ _, Below.refl _ _⟩
  · have hq2 : ∀ W, (binOp .eql 26 (.slice (some ad) l.length c) (.slice none 0 0)).run Try.prog W = .ok (.bool false) W := fun W => by rw [hq]; rfl
    clear hq
    go_enter Try.func52, Try.ntmps52
    go_wp2_with (at_builtin; go_must (refine wpList_append_sl _ rfl (.tmp 5) (.tmp 6) _ rfl w.heap.size 39 _ 2 32 Try.underlying26 Try.infoLab rfl (by omega) _ _ _ rfl (World.ownsRow_made w #[] 0 (Nat.le_refl _) (Nat.zero_le _) rfl) B (some ad) l.length c (labCells l) rfl (Reads.to h ((Below.refl B w).alloc hB _) (Nat.le_refl _)) (labCells_one l) (by unfold maxLen; omega) (by omega) (by simp) ?_))
    intro A' c' w1 hc1 hc2 hrd hbel hown _ _
    have hown2 : w1.ownsRow w.heap.size 39 2 (.slice A' l.length c') l.length (labCells l) := by simpa using hown
    go_wp2
    go_ret
    exact ⟨A', c', by simp, hown2, ((Below.refl _ _).alloc (Nat.le_refl _) _).trans hbel⟩

def Rec.row (r : Rec) (A : Option Addr) (c : Nat) (maker seq place : Int) : Array Value := #[.int .i64 r.kind, .int .i64 r.time, .slice A r.labs.length c, .string r.text, .int .i64 r.value, .bool r.null, .int .i64 maker, .int .i64 seq, .int .i64 place]

set_option maxRecDepth 100000 in
set_option maxHeartbeats 800000 in
theorem rtwin_calls (w : World) {B : Nat} (r : Rec) (maker seq place : Int) (h : Labs w B r.A r.labs) (hB : B ≤ w.heap.size) (hn : r.labs.length ≤ 4398046511104) :
    Calls Try.prog 35 #[.agg (r.row r.A r.c maker seq place)] w fun e w' => ∃ A' c', e = .returned (.agg (r.row A' c' maker seq place)) ∧ w'.ownsRow w.heap.size 39 2 (.slice A' r.labs.length c') r.labs.length (labCells r.labs) ∧ Below w.heap.size w w' := by
  unfold Rec.row
  obtain ⟨kind, time, A, c, labs, text, value, null⟩ := r
  simp only at h hn ⊢
  go_enter Try.func35, Try.ntmps35
  go_wp2_with fail
  refine (clone_calls _ (h.below (((Below.refl B w).alloc hB _).alloc (by simp; omega) _)) (by simp; omega) hn).mono ?_
  rintro e w1 ⟨A', c', rfl, hown, hb1⟩
  have hb2 := (Blk.new (w.alloc (.cells #[.int .i64 kind, .int .i64 time, .slice A labs.length c, .string text, .int .i64 value, .bool null, .int .i64 maker, .int .i64 seq, .int .i64 place] 37)) 37 #[.int .i64 0, .int .i64 0, .slice none 0 0, .string ⟨#[]⟩, .int .i64 0, .bool false, .int .i64 0, .int .i64 0, .int .i64 0]).below hb1 (by simp)
  have hb3 := ((Blk.new w 37 #[.int .i64 kind, .int .i64 time, .slice A labs.length c, .string text, .int .i64 value, .bool null, .int .i64 maker, .int .i64 seq, .int .i64 place]).alloc (.cells #[.int .i64 0, .int .i64 0, .slice none 0 0, .string ⟨#[]⟩, .int .i64 0, .bool false, .int .i64 0, .int .i64 0, .int .i64 0] 37)).below hb1 (by simp; omega)
  have es : (w.alloc (.cells #[.int .i64 kind, .int .i64 time, .slice A labs.length c, .string text, .int .i64 value, .bool null, .int .i64 maker, .int .i64 seq, .int .i64 place] 37)).heap.size = w.heap.size + 1 := by simp
  rw [es] at hb2
  have y0 := hb3.cell 0
  have y1 := hb3.cell 1
  have y2 := hb3.cell 2
  have y3 := hb3.cell 3
  have y4 := hb3.cell 4
  have y5 := hb3.cell 5
  have y6 := hb3.cell 6
  have y7 := hb3.cell 7
  have y8 := hb3.cell 8
  have f2 := hb3.frozen 2
  have z0 := hb2.cell 0
  have z1 := hb2.cell 1
  have z2 := hb2.cell 2
  have z3 := hb2.cell 3
  have z4 := hb2.cell 4
  have z5 := hb2.cell 5
  have z6 := hb2.cell 6
  have z7 := hb2.cell 7
  have z8 := hb2.cell 8
  have g0 := hb2.frozen 0
  have g1 := hb2.frozen 1
  have g2 := hb2.frozen 2
  have g3 := hb2.frozen 3
  have g4 := hb2.frozen 4
  have g5 := hb2.frozen 5
  have g6 := hb2.frozen 6
  have g7 := hb2.frozen 7
  have g8 := hb2.frozen 8
  simp only [List.getElem?_toArray, List.getElem?_cons_zero, List.getElem?_cons_succ] at y0 y1 y2 y3 y4 y5 y6 y7 y8 z0 z1 z2 z3 z4 z5 z6 z7 z8
  go_wp2
  have hw := blk_full9 (v0 := .int .i64 kind) (v1 := .int .i64 time) (v2 := .slice A' labs.length c') (v3 := .string text) (v4 := .int .i64 value) (v5 := .bool null) (v6 := .int .i64 maker) (v7 := .int .i64 seq) (v8 := .int .i64 place) (hb2.far (p := ⟨w.heap.size, 2, none⟩) (by simp) (.slice A' labs.length c'))
  have hsz := hb1.size
  simp only [World.size_alloc] at hsz
  have hbel := (((Below.refl w.heap.size w).alloc (Nat.le_refl _) _).alloc (by simp) _).trans (hb1.mono (by simp; omega))
  refine bodyPost_ret (results_cell_row rfl _ _ (w.heap.size + 1) 37 #[.int .i64 kind, .int .i64 time, .slice A' labs.length c', .string text, .int .i64 value, .bool null, .int .i64 maker, .int .i64 seq, .int .i64 place] (0, 0) _ rfl hw Try.underlying37 rfl (by kernel_rfl)) rfl ?_
  refine ⟨A', c', rfl, ?_, ?_⟩
  · have hown1 := hown
    exact own_base (row_kept (row_kept (row_kept (row_kept (row_kept (row_kept (row_kept (row_kept (row_kept (row_kept hown1 (by simp <;> omega) _) (by simp <;> omega) _) (by simp <;> omega) _) (by simp <;> omega) _) (by simp <;> omega) _) (by simp <;> omega) _) (by simp <;> omega) _) (by simp <;> omega) _) (by simp <;> omega) _) (by simp <;> omega) _) (by simp; omega)
  · exact (Below.setCell (Below.setCell (Below.setCell (Below.setCell (Below.setCell (Below.setCell (Below.setCell (Below.setCell (Below.setCell (Below.setCell hbel (by simp) _) (by simp) _) (by simp) _) (by simp) _) (by simp) _) (by simp) _) (by simp) _) (by simp) _) (by simp) _) (by simp) _)

theorem blk_full6 {w : World} {g : Nat} {t : TypeId} {z0 z1 z2 z3 z4 z5 v0 v1 v2 v3 v4 v5 : Value} (h : Blk w g t #[z0, z1, z2, z3, z4, z5]) :
    Blk ((((((w.setCell ⟨g, 0, none⟩ v0).setCell ⟨g, 1, none⟩ v1).setCell ⟨g, 2, none⟩ v2).setCell ⟨g, 3, none⟩ v3).setCell ⟨g, 4, none⟩ v4).setCell ⟨g, 5, none⟩ v5) g t #[v0, v1, v2, v3, v4, v5] := by
  have h' := ((((((h.set_ 0 v0).set_ 1 v1).set_ 2 v2).set_ 3 v3).set_ 4 v4).set_ 5 v5)
  simp only [List.setIfInBounds_toArray, List.set_cons_zero, List.set_cons_succ] at h'
  exact h'

set_option maxRecDepth 100000 in
set_option maxHeartbeats 800000 in
theorem rtwinR_calls (w : World) {B : Nat} (r : Rec) (h : Labs w B r.A r.labs) (hB : B ≤ w.heap.size) (hn : r.labs.length ≤ 4398046511104) :
    Calls Try.prog 36 #[r.agg] w fun e w' => ∃ A' c', e = .returned (Rec.agg { r with A := A', c := c' }) ∧ w'.ownsRow w.heap.size 39 2 (.slice A' r.labs.length c') r.labs.length (labCells r.labs) ∧ Below w.heap.size w w' := by
  unfold Rec.agg
  obtain ⟨kind, time, A, c, labs, text, value, null⟩ := r
  simp only at h hn ⊢
  go_enter Try.func36, Try.ntmps36
  go_wp2_with fail
  refine (twin_calls _ (h.below (((Below.refl B w).alloc hB _).alloc (by simp; omega) _)) (by simp; omega) hn).mono ?_
  rintro e w1 ⟨A', c', rfl, _, hown, hb1⟩
  have hb2 := (Blk.new (w.alloc (.cells #[.int .i64 kind, .int .i64 time, .slice A labs.length c, .string text, .int .i64 value, .bool null] 28)) 28 #[.int .i64 0, .int .i64 0, .slice none 0 0, .string ⟨#[]⟩, .int .i64 0, .bool false]).below hb1 (by simp)
  have hb3 := ((Blk.new w 28 #[.int .i64 kind, .int .i64 time, .slice A labs.length c, .string text, .int .i64 value, .bool null]).alloc (.cells #[.int .i64 0, .int .i64 0, .slice none 0 0, .string ⟨#[]⟩, .int .i64 0, .bool false] 28)).below hb1 (by simp; omega)
  have es : (w.alloc (.cells #[.int .i64 kind, .int .i64 time, .slice A labs.length c, .string text, .int .i64 value, .bool null] 28)).heap.size = w.heap.size + 1 := by simp
  rw [es] at hb2
  have y0 := hb3.cell 0
  have y1 := hb3.cell 1
  have y2 := hb3.cell 2
  have y3 := hb3.cell 3
  have y4 := hb3.cell 4
  have y5 := hb3.cell 5
  have f2 := hb3.frozen 2
  have z0 := hb2.cell 0
  have z1 := hb2.cell 1
  have z2 := hb2.cell 2
  have z3 := hb2.cell 3
  have z4 := hb2.cell 4
  have z5 := hb2.cell 5
  have g0 := hb2.frozen 0
  have g1 := hb2.frozen 1
  have g2 := hb2.frozen 2
  have g3 := hb2.frozen 3
  have g4 := hb2.frozen 4
  have g5 := hb2.frozen 5
  simp only [List.getElem?_toArray, List.getElem?_cons_zero, List.getElem?_cons_succ] at y0 y1 y2 y3 y4 y5 z0 z1 z2 z3 z4 z5
  go_wp2
  have hw := blk_full6 (v0 := .int .i64 kind) (v1 := .int .i64 time) (v2 := .slice A' labs.length c') (v3 := .string text) (v4 := .int .i64 value) (v5 := .bool null) (hb2.far (p := ⟨w.heap.size, 2, none⟩) (by simp) (.slice A' labs.length c'))
  have hsz := hb1.size
  simp only [World.size_alloc] at hsz
  have hbel := (((Below.refl w.heap.size w).alloc (Nat.le_refl _) _).alloc (by simp) _).trans (hb1.mono (by simp; omega))
  refine bodyPost_ret (results_cell_row rfl _ _ (w.heap.size + 1) 28 #[.int .i64 kind, .int .i64 time, .slice A' labs.length c', .string text, .int .i64 value, .bool null] (0, 0) _ rfl hw Try.underlying28 rfl (by kernel_rfl)) rfl ?_
  refine ⟨A', c', rfl, ?_, ?_⟩
  · have hown1 := hown
    exact own_base (row_kept (row_kept (row_kept (row_kept (row_kept (row_kept (row_kept hown1 (by simp <;> omega) _) (by simp <;> omega) _) (by simp <;> omega) _) (by simp <;> omega) _) (by simp <;> omega) _) (by simp <;> omega) _) (by simp <;> omega) _) (by simp; omega)
  · exact (Below.setCell (Below.setCell (Below.setCell (Below.setCell (Below.setCell (Below.setCell (Below.setCell hbel (by simp) _) (by simp) _) (by simp) _) (by simp) _) (by simp) _) (by simp) _) (by simp) _)
theorem Try.infoRow : (Try.prog.info? 37).map (fun i => (i.zero, i.size, i.bytes)) = some (some (.agg #[.int .i64 0, .int .i64 0, .slice none 0 0, .string ⟨#[]⟩, .int .i64 0, .bool false, .int .i64 0, .int .i64 0, .int .i64 0]), 9, 96) := by kernel_rfl

theorem own_other {w w' : World} {b1 b2 s1 s2 n1 n2 : Nat} {e1 e2 : TypeId} {v1 v2 : Value} {xs1 xs2 : List Value} (h : w.ownsRow b1 e1 s1 v1 n1 xs1) (h2 : w.ownsRow b2 e2 s2 v2 n2 xs2) (hne : e1 ≠ e2) (hg : w.grownBy w' v2.ownBlock) : w'.ownsRow b1 e1 s1 v1 n1 xs1 := by
  refine h.kept hg ?_
  rcases h.2 with ⟨rfl, _⟩ | ⟨g, cap, cur, rfl, _, hgg, _⟩
  · exact .inl rfl
  · right
    intro e
    rcases h2.2 with ⟨rfl, _⟩ | ⟨g', cap', cur', rfl, _, hgg', _⟩
    · cases e
    · have : g = g' := by injection e
      subst this
      rw [hgg] at hgg'
      injection hgg' with h3
      injection h3 with h4 h5
      exact hne h5

end Go.Proofs.Ytennddlihcamnaa
