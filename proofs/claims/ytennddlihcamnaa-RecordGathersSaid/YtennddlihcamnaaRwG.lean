/- Twins of the reference, for rows (chapter 9). -/
import Derived.Test.YtennddlihcamnaaProg
import Derived.Test.YtennddlihcamnaaRwF
namespace Go.Proofs.Ytennddlihcamnaa
set_option linter.unusedVariables false
set_option linter.unusedSimpArgs false
open Go.RowKit Go.Proofs.Ytennddlihcamnaa.So

theorem RowsO.made (w : World) : RowsO (w.alloc (.cells #[] 37)) w.heap.size (.slice (some ⟨w.heap.size, 0, none⟩) 0 0) [] :=
  ⟨World.ownsRow_made w #[] 0 (Nat.le_refl _) (Nat.zero_le _) rfl, fun x hx => absurd hx (by simp)⟩
def recA (x : Rw) : Value := .agg #[.int .i64 x.kind, .int .i64 x.time, .slice x.A x.labs.length x.cp, .string x.text, .int .i64 x.value, .bool x.null]
def six (w : World) (g : Nat) (v0 v1 v2 v3 v4 v5 : Value) : World := (((((w.setCell ⟨g, 0, none⟩ v0).setCell ⟨g, 1, none⟩ v1).setCell ⟨g, 2, none⟩ v2).setCell ⟨g, 3, none⟩ v3).setCell ⟨g, 4, none⟩ v4).setCell ⟨g, 5, none⟩ v5
theorem blk_six {w : World} {g : Nat} {t : TypeId} {z0 z1 z2 z3 z4 z5 z6 z7 z8 v0 v1 v2 v3 v4 v5 : Value} (h : Blk w g t #[z0, z1, z2, z3, z4, z5, z6, z7, z8]) :
    Blk (six w g v0 v1 v2 v3 v4 v5) g t #[v0, v1, v2, v3, v4, v5, z6, z7, z8] := by
  have h' := ((((((h.set_ 0 v0).set_ 1 v1).set_ 2 v2).set_ 3 v3).set_ 4 v4).set_ 5 v5)
  simp only [List.setIfInBounds_toArray, List.set_cons_zero, List.set_cons_succ] at h'
  exact h'
theorem six_kept {w : World} {base : Nat} {e : TypeId} {n m : Nat} {v : Value} {xs : List Value} (h : w.ownsRow base e m v n xs) {g : Nat} (hg : g < base) (v0 v1 v2 v3 v4 v5 : Value) : (six w g v0 v1 v2 v3 v4 v5).ownsRow base e m v n xs :=
  row_kept (row_kept (row_kept (row_kept (row_kept (row_kept h (p := ⟨g, 0, none⟩) hg v0) (p := ⟨g, 1, none⟩) hg v1) (p := ⟨g, 2, none⟩) hg v2) (p := ⟨g, 3, none⟩) hg v3) (p := ⟨g, 4, none⟩) hg v4) (p := ⟨g, 5, none⟩) hg v5
theorem six_below {w w' : World} {B g : Nat} (h : Below B w w') (hg : B ≤ g) (v0 v1 v2 v3 v4 v5 : Value) : Below B w (six w' g v0 v1 v2 v3 v4 v5) :=
  (((((h.setCell (p := ⟨g, 0, none⟩) hg v0).setCell (p := ⟨g, 1, none⟩) hg v1).setCell (p := ⟨g, 2, none⟩) hg v2).setCell (p := ⟨g, 3, none⟩) hg v3).setCell (p := ⟨g, 4, none⟩) hg v4).setCell (p := ⟨g, 5, none⟩) hg v5
theorem twinRwR_calls (w : World) {B : Nat} (x : Rw) (h : Labs w B x.A x.labs) (hB : B ≤ w.heap.size) (hn : x.labs.length ≤ 4398046511104) :
    Calls Try.prog 36 #[recA x] w fun e w' => ∃ A' c', e = .returned (recA { x with A := A', cp := c' }) ∧ w'.ownsRow w.heap.size 39 2 (.slice A' x.labs.length c') x.labs.length (labCells x.labs) ∧ Below w.heap.size w w' :=
  rtwinR_calls w ⟨x.kind, x.time, x.A, x.cp, x.labs, x.text, x.value, x.null⟩ h hB hn

set_option maxRecDepth 100000 in
set_option maxHeartbeats 3200000 in
theorem twinsR_calls (w : World) {B c : Nat} {A : Option Addr} {l : List Rw} (h : Rows w B A l) (hB : B ≤ w.heap.size) (hn : l.length ≤ 200) :
    Calls Try.prog 17 #[.slice A l.length c] w (RetRw w l.length l) := by
  have H1 := Lib.hid h
  clear h
  go_enter Try.func17, Try.ntmps17
  go_wp2
  go_loopw [3, 9] (fun v i wr => ∃ (k : Nat) (d : List Rw), k ≤ l.length ∧ i = .int .i64 (k : Int) ∧ Hid (d.length = k) ∧ SameL d (l.take k) ∧ (∃ A' c', v = .slice A' k c' ∧ RowsO wr w.heap.size v d) ∧ Below w.heap.size w wr) (fun _ i _ => l.length - (intOf i).toNat)
  case atStart => exact ⟨0, [], Nat.zero_le _, rfl, Lib.hid rfl, rfl, ⟨_, 0, rfl, RowsO.made w⟩, (Below.refl _ _).alloc (Nat.le_refl _) _⟩
  case round =>
    obtain ⟨k, d, hk, rfl, hdl, hsame, ⟨A', c', rfl, hown⟩, hbel⟩ := hrel
    by_cases hlt : k < l.length
    · have hsz := hbel.size
      have r1 := H1.out.below (hbel.mono hB)
      obtain ⟨g1, o1, e1, hg1, -⟩ := reads_nine r1.reads (by omega)
      have HP := Lib.hid (reads_nine_at r1.reads e1 hlt)
      have k1 := r1.each _ (show Sr.gt l k ∈ l by rw [← Sr.gt_eq hlt]; exact List.getElem_mem _)
      have HT := Lib.hid fun W (hW : Below wr.heap.size wr W) => twinRwR_calls W (Sr.gt l k) (k1.labs.below (hW.mono (by omega))) (by have := hW.size; omega) k1.len
      have HSm := Lib.hid fun A c => hsame.snoc hlt A c
      have Hsn := Lib.hid fun (w2 w3 : World) (v' : Value) (A2 : Option Addr) (c2 : Nat) (hb : Below wr.heap.size wr w2) (hp : w2.ownsRow w.heap.size 39 2 (.slice A2 (Sr.gt l k).labs.length c2) (Sr.gt l k).labs.length (labCells (Sr.gt l k).labs)) (hw : w3.ownsRow w.heap.size 37 9 v' (k + 1) (Sr.flat Rw.c d ++ Sr.nine Rw.c { Sr.gt l k with A := A2, cp := c2 })) (hg : w2.grownBy w3 (Value.slice A' k c').ownBlock) => RowsO.snoc (x := { Sr.gt l k with A := A2, cp := c2 }) (hown.below hb) hp (by rw [hdl.out]; exact hw) hg
      have Hone := Lib.hid fun A2 c2 => nine_one { Sr.gt l k with A := A2, cp := c2 }
      have Hcells : Hid (∀ w2, Below wr.heap.size wr w2 → w2.ownsRow w.heap.size 37 9 (.slice A' k c') k (Sr.flat Rw.c d)) := Lib.hid fun w2 hb => by
        have := own_below hown.own hb
        rw [hdl.out] at this
        exact this
      generalize Sr.flat Rw.c d = cs at *
      have HD : Hid (∀ A2 c2, (d ++ [({ Sr.gt l k with A := A2, cp := c2 } : Rw)]).length = k + 1) := Lib.hid fun A2 c2 => by rw [List.length_append, hdl.out]; rfl
      clear r1 k1 hown hsame
      subst e1
      generalize Sr.gt l k = x at *
      unfold recA at HT
      obtain ⟨p0, p1, p2, p3, p4, p5, p6, p7, p8⟩ := HP.out
      clear HP
      have i0 : (0 : Int) ≤ (k : Int) := by omega
      have i9 : (k : Int) < (l.length : Int) := by omega
      go_wp2_with fail
      refine (HT.out _ ((Below.refl wr.heap.size wr).alloc (Nat.le_refl _) _)).mono ?_
      rintro e w2 ⟨A2, c2', rfl, hol, hb2⟩
      have hb02 := ((Below.refl wr.heap.size wr).alloc (Nat.le_refl _) _).trans (hb2.mono (by simp))
      have hol0 := hol
      clear hol
      have s2 := hb02.size
      have hbx := (Blk.new wr 37 #[.int .i64 x.kind, .int .i64 x.time, .slice x.A x.labs.length x.cp, .string x.text, .int .i64 x.value, .bool x.null, .int .i64 x.maker, .int .i64 x.seq, .int .i64 x.place]).below hb2 (by simp)
      have y0 := hbx.cell 0
      have y1 := hbx.cell 1
      have y2 := hbx.cell 2
      have y3 := hbx.cell 3
      have y4 := hbx.cell 4
      have y5 := hbx.cell 5
      have y6 := hbx.cell 6
      have y7 := hbx.cell 7
      have y8 := hbx.cell 8
      have f0 := hbx.frozen 0
      have f1 := hbx.frozen 1
      have f2 := hbx.frozen 2
      have f3 := hbx.frozen 3
      have f4 := hbx.frozen 4
      have f5 := hbx.frozen 5
      simp only [List.getElem?_toArray, List.getElem?_cons_zero, List.getElem?_cons_succ] at y0 y1 y2 y3 y4 y5 y6 y7 y8
      go_upto_region 6 with fail
      have hB6 := blk_six (v0 := .int .i64 x.kind) (v1 := .int .i64 x.time) (v2 := .slice A2 x.labs.length c2') (v3 := .string x.text) (v4 := .int .i64 x.value) (v5 := .bool x.null) hbx
      have hol6 := six_kept hol0 (g := wr.heap.size) (by simp) (.int .i64 x.kind) (.int .i64 x.time) (.slice A2 x.labs.length c2') (.string x.text) (.int .i64 x.value) (.bool x.null)
      have hb6 := six_below hb02 (g := wr.heap.size) (Nat.le_refl _) (.int .i64 x.kind) (.int .i64 x.time) (.slice A2 x.labs.length c2') (.string x.text) (.int .i64 x.value) (.bool x.null)
      have hol7 := own_base (base' := w.heap.size) hol6 (by simp; omega)
      clear y0 y1 y2 y3 y4 y5 y6 y7 y8 f0 f1 f2 f3 f4 f5 hbx hol0 hol6 hb2 hb02 s2
      unfold six at hB6 hol7 hb6
      generalize (((((w2.setCell ⟨wr.heap.size, 0, none⟩ (.int .i64 x.kind)).setCell ⟨wr.heap.size, 1, none⟩ (.int .i64 x.time)).setCell ⟨wr.heap.size, 2, none⟩ (.slice A2 x.labs.length c2')).setCell ⟨wr.heap.size, 3, none⟩ (.string x.text)).setCell ⟨wr.heap.size, 4, none⟩ (.int .i64 x.value)).setCell ⟨wr.heap.size, 5, none⟩ (.bool x.null) = w6 at *
      have s2 := hb6.size
      have y0 := hB6.cell 0
      have y1 := hB6.cell 1
      have y2 := hB6.cell 2
      have y3 := hB6.cell 3
      have y4 := hB6.cell 4
      have y5 := hB6.cell 5
      have y6 := hB6.cell 6
      have y7 := hB6.cell 7
      have y8 := hB6.cell 8
      simp only [List.getElem?_toArray, List.getElem?_cons_zero, List.getElem?_cons_succ] at y0 y1 y2 y3 y4 y5 y6 y7 y8
      have hrd : Reads (w6.alloc (.cells #[.int .i64 x.kind, .int .i64 x.time, .slice A2 x.labs.length c2', .string x.text, .int .i64 x.value, .bool x.null, .int .i64 x.maker, .int .i64 x.seq, .int .i64 x.place] 37)) (w6.heap.size + 1) 9 (some ⟨w6.heap.size, 0, none⟩) 1 [.int .i64 x.kind, .int .i64 x.time, .slice A2 x.labs.length c2', .string x.text, .int .i64 x.value, .bool x.null, .int .i64 x.maker, .int .i64 x.seq, .int .i64 x.place] := Reads.made (n := 1) (size := 9) w6 _ 37 rfl
      have hcs := Hcells.out _ (hb6.alloc hb6.size (.cells #[.int .i64 x.kind, .int .i64 x.time, .slice A2 x.labs.length c2', .string x.text, .int .i64 x.value, .bool x.null, .int .i64 x.maker, .int .i64 x.seq, .int .i64 x.place] 37))
      go_wp2_with (at_builtin; go_must (refine wpList_append_sl _ rfl (.tmp 17) (.tmp 19) _ rfl w.heap.size 37 _ 9 96 Try.underlying33 Try.infoRow rfl (by omega) _ _ _ rfl hcs (w6.heap.size + 1) _ 1 1 _ rfl hrd (Hone.out A2 c2') (by unfold maxLen; omega) (by omega) (by simp; omega) ?_))
      intro A3 c3 w3 hc1 hc2 hrd3 hbel3 hown3 hgr _
      have hsn := Hsn.out (w6.alloc (.cells #[.int .i64 x.kind, .int .i64 x.time, .slice A2 x.labs.length c2', .string x.text, .int .i64 x.value, .bool x.null, .int .i64 x.maker, .int .i64 x.seq, .int .i64 x.place] 37)) w3 (.slice A3 (k + 1) c3) A2 c2' (hb6.alloc hb6.size _) (hol7.alloc _) hown3 hgr
      go_wp2
      go_roundw
      case rel => exact ⟨k + 1, d ++ [{ x with A := A2, cp := c2' }], by omega, by go_num, Lib.hid (HD.out A2 c2'), HSm.out A2 c2', ⟨A3, c3, rfl, hsn⟩, (hbel.trans (hb6.mono hsz)).trans ((Below.refl _ _).alloc (by omega) _ |>.trans hbel3)⟩
      case measure => simp [intOf]; omega
    · obtain rfl : k = l.length := by omega
      go_wp2
      go_ret
      rw [List.take_length] at hsame
      exact ⟨A', c', d, rfl, hdl.out, hsame, hown, hbel⟩
end Go.Proofs.Ytennddlihcamnaa
