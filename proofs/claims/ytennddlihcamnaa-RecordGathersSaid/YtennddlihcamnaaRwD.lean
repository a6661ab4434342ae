/- SameRows on rows that are the same. -/
import Derived.Test.YtennddlihcamnaaProg
import Derived.Test.YtennddlihcamnaaRwC
namespace Go.Proofs.Ytennddlihcamnaa
set_option linter.unusedVariables false
set_option linter.unusedSimpArgs false
open Go.RowKit Go.Proofs.Ytennddlihcamnaa.So

/-- The same rows, wherever the labels lie. -/
def SameL (l m : List Rw) : Prop := l.map Rw.logic = m.map Rw.logic
theorem SameL.len {l m : List Rw} (h : SameL l m) : l.length = m.length := by have := congrArg List.length h; simpa using this
theorem logic_at {l : List Rw} {i : Nat} (hi : i < l.length) : (l.map Rw.logic)[i]? = some (Sr.gt l i).logic := by
  rw [List.getElem?_map, List.getElem?_eq_getElem hi, ← Sr.gt_eq hi]; rfl
theorem SameL.at_ {l m : List Rw} (h : SameL l m) {i : Nat} (hi : i < l.length) : (Sr.gt l i).logic = (Sr.gt m i).logic := by
  have h1 := logic_at hi
  have h2 := logic_at (l := m) (i := i) (by rw [← h.len]; exact hi)
  rw [h, h2] at h1
  exact (Option.some.inj h1).symm
theorem cfR_logic (x y : Rw) : cfR x.logic y.logic = cfR x y := rfl
theorem cfR_self (x : Rw) : cfR x x = 0 := cfR_same fun _ _ => rfl
theorem same_logic {x y : Rw} (h : x.logic = y.logic) : sameRw x y := by
  have e := fun (f : Rw → Int) (hf : ∀ z, f z.logic = f z) => (hf x).symm.trans ((congrArg f h).trans (hf y))
  have e1 := e Rw.kind fun _ => rfl
  have e2 := e Rw.value fun _ => rfl
  have e3 : x.text = y.text := show x.logic.text = y.logic.text by rw [h]
  have e4 : x.null = y.null := show x.logic.null = y.logic.null by rw [h]
  have e5 : x.labs = y.labs := show x.logic.labs = y.logic.labs by rw [h]
  refine ⟨?_, e1, e3, e2, e4, e5⟩
  rw [← cfR_logic, h, cfR_logic]
  exact cfR_self y

set_option maxRecDepth 100000 in
set_option maxHeartbeats 3200000 in
theorem sameRowsL_calls (w : World) {B1 B2 c1 c2 : Nat} {A1 A2 : Option Addr} {l m : List Rw} (h1 : Rows w B1 A1 l) (h2 : Rows w B2 A2 m) (hB1 : B1 ≤ w.heap.size) (hB2 : B2 ≤ w.heap.size) (hs : SameL l m) (hn : l.length ≤ 4398046511104) :
    Calls Try.prog 16 #[.slice A1 l.length c1, .slice A2 m.length c2] w fun e w' => e = .returned (.bool true) ∧ Below w.heap.size w w' := by
  have hne : ((l.length : Int) != (l.length : Int)) = false := nef rfl
  have H1 := Lib.hid h1
  have H2 := Lib.hid h2
  have HS := Lib.hid hs
  have HLN := Lib.hid hs.len
  rw [← hs.len]
  clear h1 h2 hs
  go_enter Try.func16, Try.ntmps16
  go_wp2
  go_loopw [13] (fun i wr => ∃ k : Nat, k ≤ l.length ∧ i = .int .i64 (k : Int) ∧ Below w.heap.size w wr) (fun i _ => l.length - (intOf i).toNat)
  case atStart => exact ⟨0, Nat.zero_le _, rfl, Below.refl _ _⟩
  case round =>
    obtain ⟨k, hk, rfl, hbel⟩ := hrel
    by_cases hlt : k < l.length
    · have hsz := hbel.size
      have r1 := H1.out.below (hbel.mono hB1)
      have r2 := H2.out.below (hbel.mono hB2)
      obtain ⟨g1, o1, e1, hg1, _⟩ := reads_nine r1.reads (by omega)
      obtain ⟨g2, o2, e2, hg2, _⟩ := reads_nine r2.reads (by rw [← HLN.out]; omega)
      have Hkeep : Hid (∀ W, Below wr.heap.size wr W → (W.cell? ⟨g1, o1 + k * 9, none⟩ = some (.int .i64 (Sr.gt l k).kind) ∧ W.cell? ⟨g1, o1 + k * 9 + 1, none⟩ = some (.int .i64 (Sr.gt l k).time) ∧ W.cell? ⟨g1, o1 + k * 9 + 2, none⟩ = some (.slice (Sr.gt l k).A (Sr.gt l k).labs.length (Sr.gt l k).cp) ∧ W.cell? ⟨g1, o1 + k * 9 + 3, none⟩ = some (.string (Sr.gt l k).text) ∧ W.cell? ⟨g1, o1 + k * 9 + 4, none⟩ = some (.int .i64 (Sr.gt l k).value) ∧ W.cell? ⟨g1, o1 + k * 9 + 5, none⟩ = some (.bool (Sr.gt l k).null) ∧ W.cell? ⟨g1, o1 + k * 9 + 6, none⟩ = some (.int .i64 (Sr.gt l k).maker) ∧ W.cell? ⟨g1, o1 + k * 9 + 7, none⟩ = some (.int .i64 (Sr.gt l k).seq) ∧ W.cell? ⟨g1, o1 + k * 9 + 8, none⟩ = some (.int .i64 (Sr.gt l k).place)) ∧ W.cell? ⟨g2, o2 + k * 9, none⟩ = some (.int .i64 (Sr.gt m k).kind) ∧ W.cell? ⟨g2, o2 + k * 9 + 1, none⟩ = some (.int .i64 (Sr.gt m k).time) ∧ W.cell? ⟨g2, o2 + k * 9 + 2, none⟩ = some (.slice (Sr.gt m k).A (Sr.gt m k).labs.length (Sr.gt m k).cp) ∧ W.cell? ⟨g2, o2 + k * 9 + 3, none⟩ = some (.string (Sr.gt m k).text) ∧ W.cell? ⟨g2, o2 + k * 9 + 4, none⟩ = some (.int .i64 (Sr.gt m k).value) ∧ W.cell? ⟨g2, o2 + k * 9 + 5, none⟩ = some (.bool (Sr.gt m k).null) ∧ W.cell? ⟨g2, o2 + k * 9 + 6, none⟩ = some (.int .i64 (Sr.gt m k).maker) ∧ W.cell? ⟨g2, o2 + k * 9 + 7, none⟩ = some (.int .i64 (Sr.gt m k).seq) ∧ W.cell? ⟨g2, o2 + k * 9 + 8, none⟩ = some (.int .i64 (Sr.gt m k).place)) := Lib.hid fun W hW => ⟨reads_nine_at (r1.reads.below (hW.mono (by omega))) e1 hlt, reads_nine_at (r2.reads.below (hW.mono (by omega))) e2 (by rw [← HLN.out]; exact hlt)⟩
      have k1 := r1.each _ (show Sr.gt l k ∈ l by rw [← Sr.gt_eq hlt]; exact List.getElem_mem _)
      have k2 := r2.each _ (show Sr.gt m k ∈ m by rw [← Sr.gt_eq (by rw [← HLN.out]; exact hlt)]; exact List.getElem_mem _)
      have hS := fun W (hW : Below wr.heap.size wr W) => sameRwR_calls W (Sr.gt l k) (Sr.gt m k) (k1.labs.below (hW.mono (by omega))) (k2.labs.below (hW.mono (by omega))) (by have := hW.size; omega) (by have := hW.size; omega) k1.len k2.len
      have hv : sameRwB (Sr.gt l k) (Sr.gt m k) = true := dct (same_logic (HS.out.at_ hlt))
      rw [hv] at hS
      unfold rwA at hS
      clear r1 r2 k1 k2 hv
      generalize Sr.gt l k = x at *
      generalize Sr.gt m k = y at *
      subst e1 e2
      have HSS := Lib.hid hS
      have i0 : (0 : Int) ≤ (k : Int) := by omega
      have i9 : (k : Int) < (l.length : Int) := by omega
      obtain ⟨⟨p0, p1, p2, p3, p4, p5, p6, p7, p8⟩, q0, q1, q2, q3, q4, q5, q6, q7, q8⟩ := Hkeep.out wr (Below.refl _ _)
      clear hS
      go_wp2_with fail
      go_region_held3 (fun w' => (w'.cell? ⟨g1, o1 + k * 9, none⟩ = some (.int .i64 x.kind) ∧ w'.cell? ⟨g1, o1 + k * 9 + 1, none⟩ = some (.int .i64 x.time) ∧ w'.cell? ⟨g1, o1 + k * 9 + 2, none⟩ = some (.slice x.A x.labs.length x.cp) ∧ w'.cell? ⟨g1, o1 + k * 9 + 3, none⟩ = some (.string x.text) ∧ w'.cell? ⟨g1, o1 + k * 9 + 4, none⟩ = some (.int .i64 x.value) ∧ w'.cell? ⟨g1, o1 + k * 9 + 5, none⟩ = some (.bool x.null) ∧ w'.cell? ⟨g1, o1 + k * 9 + 6, none⟩ = some (.int .i64 x.maker) ∧ w'.cell? ⟨g1, o1 + k * 9 + 7, none⟩ = some (.int .i64 x.seq) ∧ w'.cell? ⟨g1, o1 + k * 9 + 8, none⟩ = some (.int .i64 x.place)) ∧ w'.cell? ⟨g2, o2 + k * 9, none⟩ = some (.int .i64 y.kind) ∧ w'.cell? ⟨g2, o2 + k * 9 + 1, none⟩ = some (.int .i64 y.time) ∧ w'.cell? ⟨g2, o2 + k * 9 + 2, none⟩ = some (.slice y.A y.labs.length y.cp) ∧ w'.cell? ⟨g2, o2 + k * 9 + 3, none⟩ = some (.string y.text) ∧ w'.cell? ⟨g2, o2 + k * 9 + 4, none⟩ = some (.int .i64 y.value) ∧ w'.cell? ⟨g2, o2 + k * 9 + 5, none⟩ = some (.bool y.null) ∧ w'.cell? ⟨g2, o2 + k * 9 + 6, none⟩ = some (.int .i64 y.maker) ∧ w'.cell? ⟨g2, o2 + k * 9 + 7, none⟩ = some (.int .i64 y.seq) ∧ w'.cell? ⟨g2, o2 + k * 9 + 8, none⟩ = some (.int .i64 y.place)) (exact Hkeep.out _ (by first | assumption | exact below_drewN_ (Below.refl _ _) 1)) ((go_at_call 23; refine (HSS.out _ (below_drewN_ (Below.refl _ _) 1)).mono ?_; rintro e w2 ⟨rfl, hb2⟩; have he2 : Below wr.heap.size wr w2 := (below_drewN_ (Below.refl _ _) 1).trans hb2))
      go_wp2
      go_roundw
      case rel => exact ⟨k + 1, by omega, by go_num, hbel.trans (he2.mono hsz)⟩
      case measure => simp [intOf]; omega
    · obtain rfl : k = l.length := by omega
      go_wp2
      go_ret
      exact ⟨rfl, hbel⟩
end Go.Proofs.Ytennddlihcamnaa
