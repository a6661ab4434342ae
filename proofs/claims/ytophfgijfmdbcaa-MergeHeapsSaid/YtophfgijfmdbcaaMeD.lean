/- Lists of entries; slices.Clone, the test of DeleteFunc, slices.IndexFunc at entries. -/
import Derived.Test.YtophfgijfmdbcaaProg
import Derived.Test.YtophfgijfmdbcaaMeC
import Derived.Lib.SliceRun
namespace Go.Proofs.Ytophfgijfmdbcaa
open Go.RowKit Go.Proofs.Ytophfgijfmdbcaa.So

theorem Try.infoEnt : (Try.prog.info? 29).map (fun i => (i.zero, i.size, i.bytes)) = some (some (.agg #[.string ⟨#[]⟩, .int .i64 0, .string ⟨#[]⟩, .int .i64 0, .int .i64 0, .int .i64 0, .int .i64 0, .int .u32 0, .int .i64 0]), 9, 88) := by kernel_rfl
/-- A slice of entries reads. -/
def Ents (w : World) (B : Nat) (A : Option Addr) (l : List Ent) : Prop := Reads w B 9 A l.length (flat Ent.c l)
theorem flat_one (l : List Ent) : ∀ u ∈ flat Ent.c l, u.oneCell' = true := by
  intro u hu
  simp only [flat, List.mem_flatMap] at hu
  obtain ⟨x, _, hx⟩ := hu
  simp [nine] at hx
  rcases hx with rfl | rfl | rfl | rfl | rfl | rfl | rfl | rfl | rfl <;> exact Ent.one x _
theorem Ents.cellAt {w : World} {B : Nat} {A : Option Addr} {l : List Ent} (h : Ents w B A l) (hp : 0 < l.length) : ∃ b off, A = some ⟨b, off, none⟩ ∧ b < B ∧ ∀ i, i < l.length → ∀ j, j < 9 → w.cell? ⟨b, off + i * 9 + j, none⟩ = some (Ent.c (gt l i) j) := by
  obtain ⟨b, off, e, hb, hc⟩ := h.2 hp
  exact ⟨b, off, e, hb, fun i hi j hj => by rw [Nat.add_assoc]; exact hc _ _ (flat_get Ent.c l i j hi hj)⟩

set_option maxRecDepth 100000 in
theorem cloneE_calls (w : World) {B c : Nat} {A : Option Addr} {l : List Ent} (h : Ents w B A l) (hB : B ≤ w.heap.size) (hn : l.length ≤ 1099511627776) :
    Calls Try.prog 28 #[.slice A l.length c] w fun e w' => ∃ A' c', e = .returned (.slice A' l.length c') ∧ w'.ownsRow w.heap.size 29 9 (.slice A' l.length c') l.length (flat Ent.c l) ∧ Below w.heap.size w w' := by
  have hq := fun W => Lib.run_eql_slice_nil (P := Try.prog) W 22 29 A l.length c 0 0 Try.underlying22
  rcases A with _ | ad
  · have hl : l = [] := by
      rcases Nat.eq_zero_or_pos l.length with h0 | h0
      · exact List.eq_nil_of_length_eq_zero h0
      · obtain ⟨b, off, e, _⟩ := h.2 h0
        cases e
    have HL := Lib.hid hl
    clear hl
    have hq2 : ∀ W, (binOp .eql 22 (.slice none l.length c) (.slice none 0 0)).run Try.prog W = .ok (.bool true) W := fun W => by rw [hq]; rfl
    clear hq
    go_enter Try.func28, Try.ntmps28
    go_wp2
    go_ret
    exact ⟨none, 0, by rw [HL.out]; rfl, by rw [HL.out]; exact World.ownsRow_nil _ _ _ _, Below.refl _ _⟩
  · have hq2 : ∀ W, (binOp .eql 22 (.slice (some ad) l.length c) (.slice none 0 0)).run Try.prog W = .ok (.bool false) W := fun W => by rw [hq]; rfl
    clear hq
    go_enter Try.func28, Try.ntmps28
    go_wp2_with (at_builtin; go_must (refine wpList_append_sl _ rfl (.tmp 5) (.tmp 6) _ rfl w.heap.size 29 _ 9 88 Try.underlying22 Try.infoEnt rfl (by omega) _ _ _ rfl (World.ownsRow_made w #[] 0 (Nat.le_refl _) (Nat.zero_le _) rfl) B (some ad) l.length c (flat Ent.c l) rfl (Reads.to h ((Below.refl B w).alloc hB _) (Nat.le_refl _)) (flat_one l) (by unfold maxLen; omega) (by omega) (by simp) ?_))
    intro A' c' w1 hc1 hc2 hrd hbel hown _ _
    have hown2 : w1.ownsRow w.heap.size 29 9 (.slice A' l.length c') l.length (flat Ent.c l) := by simpa using hown
    go_wp2
    go_ret
    exact ⟨A', c', by simp, hown2, ((Below.refl _ _).alloc (Nat.le_refl _) _).trans hbel⟩

/-- The test: has an entry small rows at least? The captured box holds small. -/
theorem tooBig_calls (x : Ent) (small : Int) (b : Nat) (w : World) (hb : w.cell? ⟨b, 0, none⟩ = some (.int .i64 small)) :
    Calls Try.prog 29 #[.agg (nine Ent.c x).toArray, .pointer (some ⟨b, 0, none⟩)] w fun e w' => e = .returned (.bool (decide (small ≤ x.rows))) ∧ Below w.heap.size w w' := by
  have hlt := World.block_lt_of_cell? w _ hb
  show Calls Try.prog 29 #[.agg #[.string x.key, .int .i64 x.window, .string x.part, .int .i64 x.first, .int .i64 x.last, .int .i64 x.rows, .int .i64 x.size, .int .u32 x.sum, .int .i64 x.born], .pointer (some ⟨b, 0, none⟩)] w _
  go_enter Try.func29, Try.ntmps29
  go_wp2
  go_ret
  exact ⟨rfl, (Below.refl _ _).alloc (Nat.le_refl _) _⟩
end Go.Proofs.Ytophfgijfmdbcaa
