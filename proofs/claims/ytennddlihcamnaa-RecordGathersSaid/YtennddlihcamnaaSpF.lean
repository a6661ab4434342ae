/- Plain laws for RecordGathers: what is so of the groups that Split makes. -/
import Derived.Test.YtennddlihcamnaaProg
import Derived.Test.YtennddlihcamnaaSpE
namespace Go.Proofs.Ytennddlihcamnaa.Sp
set_option linter.unusedVariables false
set_option linter.unusedSimpArgs false
open Go.RowKit Go.Proofs.Ytennddlihcamnaa Go.Proofs.Ytennddlihcamnaa.So

section
variable {win : Int} {by_ : List ByteArray} {d l : List Rw} {gs : List (Gp Rw)}
theorem gath_inv (h : gs.map prG = foldR (keyR win by_) ltK d) : Inv (keyR win by_) d (gs.map prG) ∧ (gs.map prG).Pairwise fun g h => ltK g.1 h.1 = true := by
  have hI := foldR_go (key := keyR win by_) swoK.irr swoK.trans totK d [] [] Inv.nil List.Pairwise.nil
  rw [List.nil_append, show List.foldl (stepR (keyR win by_) ltK) [] d = foldR (keyR win by_) ltK d from rfl, ← h] at hI
  exact hI
theorem gath_full (h : gs.map prG = foldR (keyR win by_) ltK d) {g : Gp Rw} (hg : g ∈ gs) : 0 < g.rows.length := List.length_pos_iff.2 ((gath_inv h).1.full (prG g) (List.mem_map_of_mem hg))
theorem gath_key (h : gs.map prG = foldR (keyR win by_) ltK d) {g : Gp Rw} (hg : g ∈ gs) {x : Rw} (hx : x ∈ g.rows) : keyR win by_ x = (g.win, g.part) := by
  have h1 := (gath_inv h).1.rows (prG g) (List.mem_map_of_mem hg)
  have h2 : g.rows = d.filter fun y => decide (keyR win by_ y = (prG g).1) := h1
  rw [h2] at hx
  exact of_decide_eq_true (List.mem_filter.1 hx).2
theorem gath_rise (h : gs.map prG = foldR (keyR win by_) ltK d) {i j : Nat} (hij : i < j) (hj : j < gs.length) : ltK ((gs[i]'(by omega)).win, (gs[i]'(by omega)).part) (gs[j].win, gs[j].part) = true := by
  have h1 := (gath_inv h).2
  rw [List.pairwise_map, List.pairwise_iff_getElem] at h1
  exact h1 i j (by omega) hj hij
theorem gath_flat (h : gs.map prG = foldR (keyR win by_) ltK d) : (gs.flatMap Gp.rows).Perm d := by
  have h1 := (gath_inv h).1.flat
  rw [List.flatMap_map] at h1
  exact h1
theorem srt_same (h : SameL d (isort (Sr.ltc cfR) l)) : d.Pairwise fun x y => cfR x y ≤ 0 := by
  have h1 : (isort (Sr.ltc cfR) l).Pairwise fun x y => cfR x y ≤ 0 := (isort_srt swoR l).imp fun {a b} hab => by
    have h2 : ¬ cfR b a < 0 := of_decide_eq_false hab
    have := triR.anti a b
    omega
  have h2 : ((isort (Sr.ltc cfR) l).map Rw.logic).Pairwise fun x y => cfR x y ≤ 0 := List.pairwise_map.2 h1
  rw [← show d.map Rw.logic = (isort (Sr.ltc cfR) l).map Rw.logic from h] at h2
  exact List.pairwise_map.1 h2
theorem gath_sort (h : gs.map prG = foldR (keyR win by_) ltK d) (hd : SameL d (isort (Sr.ltc cfR) l)) {g : Gp Rw} (hg : g ∈ gs) {i : Nat} (hi : i + 1 < g.rows.length) : cfR (Sr.gt g.rows i) (Sr.gt g.rows (i + 1)) ≤ 0 := by
  have h1 := ((gath_inv h).1.inner (srt_same hd) (List.mem_map_of_mem hg : prG g ∈ gs.map prG)).1
  have h2 : g.rows.Pairwise fun x y => cfR x y ≤ 0 := h1
  rw [List.pairwise_iff_getElem] at h2
  have := h2 i (i + 1) (by omega) hi (by omega)
  rwa [Sr.gt_eq (by omega), Sr.gt_eq hi] at this
theorem sorts_same {all : List Rw} (hno : ¬ ∃ i j, j < i ∧ i < l.length ∧ cfR (Sr.gt l i) (Sr.gt l j) = 0) (hp : all.Perm d) (hd : SameL d (isort (Sr.ltc cfR) l)) : SameL (isort (Sr.ltc cfR) all) (isort (Sr.ltc cfR) l) := by
  have hpw : l.Pairwise fun x y => cfR x y ≠ 0 := by
    rw [List.pairwise_iff_getElem]
    intro i j hi hj hij e
    refine hno ⟨j, i, hij, hj, ?_⟩
    have := triR.anti (Sr.gt l i) (Sr.gt l j)
    rw [Sr.gt_eq hi, Sr.gt_eq hj] at e
    omega
  have hl : (l.map Rw.logic).Pairwise fun x y => cfR x y ≠ 0 := List.pairwise_map.2 hpw
  have hperm : (all.map Rw.logic).Perm (l.map Rw.logic) := by
    have h1 := hp.map Rw.logic
    rw [show d.map Rw.logic = (isort (Sr.ltc cfR) l).map Rw.logic from hd] at h1
    exact h1.trans ((isort_perm l).map Rw.logic)
  show (isort (Sr.ltc cfR) all).map Rw.logic = (isort (Sr.ltc cfR) l).map Rw.logic
  rw [isort_logic, isort_logic]
  refine sort_one (f := Sr.ltc cfR) swoR.irr swoR.trans (((isort_perm _).trans hperm).trans (isort_perm _).symm) (isort_srt swoR _) (isort_srt swoR _) ?_
  have h1 : (isort (Sr.ltc cfR) (all.map Rw.logic)).Pairwise fun x y => cfR x y ≠ 0 := ((isort_perm _).trans hperm).symm.pairwise hl fun {a b} hab e => hab (by have := triR.anti a b; omega)
  exact h1.imp fun {a b} hab => by
    unfold Sr.ltc
    rw [decide_eq_true_iff, decide_eq_true_iff, triR.anti a b]
    omega
end
end Go.Proofs.Ytennddlihcamnaa.Sp
