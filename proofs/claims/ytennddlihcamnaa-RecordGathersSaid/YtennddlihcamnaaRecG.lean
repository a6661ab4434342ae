/- Rows of both (chapter 9). -/
import Derived.Test.YtennddlihcamnaaProg
import Derived.Test.YtennddlihcamnaaRecCE
import Derived.Test.YtennddlihcamnaaRecF
namespace Go.Proofs.Ytennddlihcamnaa
set_option linter.unusedVariables false
set_option linter.unusedSimpArgs false
open Go.RowKit

abbrev Pos := Option Addr × Nat
def posAt (ps : List Pos) (i : Nat) : Pos := ps.getD i (none, 0)
theorem posAt_old {ps : List Pos} {p : Pos} {i : Nat} (h : i < ps.length) : posAt (ps ++ [p]) i = posAt ps i := by simp [posAt, List.getD, List.getElem?_append_left h]
theorem posAt_new {ps : List Pos} {p : Pos} : posAt (ps ++ [p]) ps.length = p := by simp [posAt, List.getD]
def rowsCells (l : List Rec) (maker seq : Int) (ps : List Pos) (k : Nat) : List Value := (List.range k).flatMap fun i => ((recAt l i).row (posAt ps i).1 (posAt ps i).2 maker seq (i : Int)).toList
theorem rowsCells_succ (l : List Rec) (maker seq : Int) (ps : List Pos) (p : Pos) : rowsCells l maker seq (ps ++ [p]) (ps.length + 1) = rowsCells l maker seq ps ps.length ++ ((recAt l ps.length).row p.1 p.2 maker seq (ps.length : Int)).toList := by
  unfold rowsCells
  rw [List.range_succ, List.flatMap_append, List.flatMap_singleton, posAt_new]
  congr 1
  rw [List.flatMap_def, List.flatMap_def]
  congr 1
  refine List.map_congr_left fun i hi => ?_
  rw [posAt_old (List.mem_range.1 hi)]

/-- k rows in memory of their own. -/
structure RowsOwn (w : World) (base : Nat) (l : List Rec) (maker seq : Int) (k : Nat) (v : Value) (ps : List Pos) : Prop where
  len : ps.length = k
  own : w.ownsRow base 37 9 v k (rowsCells l maker seq ps k)
  each : ∀ i, i < k → w.ownsRow base 39 2 (.slice (posAt ps i).1 (recAt l i).labs.length (posAt ps i).2) (recAt l i).labs.length (labCells (recAt l i).labs)
theorem RowsOwn.below {w w' : World} {base k : Nat} {l : List Rec} {maker seq : Int} {v : Value} {ps : List Pos} (h : RowsOwn w base l maker seq k v ps) (hb : Below w.heap.size w w') : RowsOwn w' base l maker seq k v ps :=
  ⟨h.len, own_below h.own hb, fun i hi => own_below (h.each i hi) hb⟩
theorem RowsOwn.base {w : World} {base base' k : Nat} {l : List Rec} {maker seq : Int} {v : Value} {ps : List Pos} (h : RowsOwn w base l maker seq k v ps) (hb : base' ≤ base) : RowsOwn w base' l maker seq k v ps :=
  ⟨h.len, own_base h.own hb, fun i hi => own_base (h.each i hi) hb⟩
theorem RowsOwn.nil (w : World) (base : Nat) (l : List Rec) (maker seq : Int) : RowsOwn w base l maker seq 0 (.slice none 0 0) [] :=
  ⟨rfl, World.ownsRow_nil _ _ _ _, fun i hi => absurd hi (by omega)⟩
/-- One row more. -/
theorem RowsOwn.snoc {w w' : World} {base k : Nat} {l : List Rec} {maker seq : Int} {v v' : Value} {ps : List Pos} {p : Pos} (h : RowsOwn w base l maker seq k v ps)
    (hp : w.ownsRow base 39 2 (.slice p.1 (recAt l k).labs.length p.2) (recAt l k).labs.length (labCells (recAt l k).labs))
    (hown : w'.ownsRow base 37 9 v' (k + 1) (rowsCells l maker seq ps k ++ ((recAt l k).row p.1 p.2 maker seq (k : Int)).toList)) (hg : w.grownBy w' v.ownBlock) : RowsOwn w' base l maker seq (k + 1) v' (ps ++ [p]) := by
  have hk := h.len
  subst hk
  refine ⟨by simp, by rw [rowsCells_succ]; exact hown, fun i hi => ?_⟩
  rcases Nat.lt_or_ge i ps.length with h1 | h1
  · rw [posAt_old h1]
    exact own_other (h.each i h1) h.own (by decide) hg
  · obtain rfl : i = ps.length := by omega
    rw [posAt_new]
    exact own_other hp h.own (by decide) hg
theorem row_one (r : Rec) (A : Option Addr) (c : Nat) (m s p : Int) : ∀ u ∈ (r.row A c m s p).toList, u.oneCell' = true := by
  intro u hu
  simp [Rec.row] at hu
  rcases hu with rfl | rfl | rfl | rfl | rfl | rfl | rfl | rfl | rfl <;> rfl

def RetRows (w : World) (l : List Rec) (maker seq : Int) (e : Ending) (w' : World) : Prop := ∃ A c ps, e = .returned (.slice A l.length c) ∧ RowsOwn w' w.heap.size l maker seq l.length (.slice A l.length c) ps ∧ Below w.heap.size w w'

set_option maxRecDepth 100000 in
set_option maxHeartbeats 1600000 in
theorem rows_calls (w : World) {B c : Nat} {A : Option Addr} {l : List Rec} (maker seq : Int) (h : Recs w B A l) (hB : B ≤ w.heap.size) (hn : l.length ≤ 70) :
    Calls Try.prog 14 #[.agg #[.int .i64 maker, .int .i64 seq, .slice A l.length c]] w (RetRows w l maker seq) := by
  have hba := (Below.refl w.heap.size w).alloc (Nat.le_refl _) (.cells #[.int .i64 maker, .int .i64 seq, .slice A l.length c] 24)
  have hbx := Blk.new w 24 #[.int .i64 maker, .int .i64 seq, .slice A l.length c]
  have hl1 := h.below (hba.mono hB)
  have e1 : (w.alloc (.cells #[.int .i64 maker, .int .i64 seq, .slice A l.length c] 24)).heap.size = w.heap.size + 1 := by simp
  clear h
  go_enter Try.func14, Try.ntmps14
  go_wp2
  have E1 := Lib.hid e1
  clear e1
  generalize hw1 : w.alloc (.cells #[.int .i64 maker, .int .i64 seq, .slice A l.length c] 24) = w1 at *
  clear hw1
  go_loopw [3, 4, 9] (fun v x i wr => ∃ (k : Nat) (ps : List Pos), k ≤ l.length ∧ i = .int .i64 (k : Int) ∧ (∃ A' c', v = .slice A' k c' ∧ RowsOwn wr w1.heap.size l maker seq k v ps) ∧ Below w1.heap.size w1 wr) (fun _ _ i _ => l.length - (intOf i).toNat)
  case atStart => exact ⟨0, [], Nat.zero_le _, rfl, ⟨none, 0, rfl, RowsOwn.nil _ _ _ _ _⟩, Below.refl _ _⟩
  case round =>
    obtain ⟨k, ps, hk, rfl, ⟨A', c', rfl, hown⟩, hbel⟩ := hrel
    by_cases hlt : k < l.length
    · have hsz := hbel.size
      have hw01 : w.heap.size < w1.heap.size := by have e1 := E1.out; omega
      have hr := hl1.below (hbel.mono (by omega))
      have hok := hr.each k hlt
      obtain ⟨b, off, rfl, hbB, hcell⟩ := hr.cellAt (show 0 < l.length by omega)
      obtain ⟨c0, c1, c2, c3, c4, c5⟩ := hcell k hlt
      have hbr := (hbx.below hbel (by omega)).alloc (.cells #[.int .i64 (recAt l k).kind, .int .i64 (recAt l k).time, .slice (recAt l k).A (recAt l k).labs.length (recAt l k).c, .string (recAt l k).text, .int .i64 (recAt l k).value, .bool (recAt l k).null] 28)
      have y0 := hbr.cell 0
      have y1 := hbr.cell 1
      simp only [List.getElem?_toArray, List.getElem?_cons_zero, List.getElem?_cons_succ] at y0 y1
      have htw := rtwin_calls (wr.alloc (.cells #[.int .i64 (recAt l k).kind, .int .i64 (recAt l k).time, .slice (recAt l k).A (recAt l k).labs.length (recAt l k).c, .string (recAt l k).text, .int .i64 (recAt l k).value, .bool (recAt l k).null] 28)) (recAt l k) maker seq (k : Int) (hok.labs.below ((Below.refl B wr).alloc (by omega) _)) (by simp; omega) hok.len
      have Hsn := Lib.hid fun (w2 w3 : World) (v' : Value) (p : Pos) (hb : Below wr.heap.size wr w2) hp hw hg => RowsOwn.snoc (w := w2) (w' := w3) (v' := v') (p := p) (hown.below hb) hp hw hg
      have Hone := Lib.hid fun A c => row_one (recAt l k) A c maker seq (k : Int)
      have Hcells : Hid (∀ w2, Below wr.heap.size wr w2 → w2.ownsRow w1.heap.size 37 9 (.slice A' k c') k (rowsCells l maker seq ps k)) := Lib.hid fun w2 hb => own_below hown.own hb
      generalize rowsCells l maker seq ps k = cs at *
      unfold Rec.row at htw Hsn Hone
      clear hcell hr hok hown
      generalize recAt l k = r at *
      have HT := Lib.hid htw
      clear htw
      go_wp2_with fail
      refine HT.out.mono ?_
      rintro e w2 ⟨A2, c2', rfl, hol, hb2⟩
      have hbel2 := (hbel.alloc hsz _).trans (hb2.mono (by simp; omega))
      have hb02 := ((Below.refl wr.heap.size wr).alloc (Nat.le_refl _) _).trans (hb2.mono (by simp))
      have s2 := hbel2.size
      have hrd : Reads (w2.alloc (.cells #[.int .i64 r.kind, .int .i64 r.time, .slice A2 r.labs.length c2', .string r.text, .int .i64 r.value, .bool r.null, .int .i64 maker, .int .i64 seq, .int .i64 (k : Int)] 37)) (w2.heap.size + 1) 9 (some ⟨w2.heap.size, 0, none⟩) 1 [.int .i64 r.kind, .int .i64 r.time, .slice A2 r.labs.length c2', .string r.text, .int .i64 r.value, .bool r.null, .int .i64 maker, .int .i64 seq, .int .i64 (k : Int)] := Reads.made (n := 1) (size := 9) w2 _ 37 rfl
      have hcs := Hcells.out _ (hb02.alloc hb02.size (.cells #[.int .i64 r.kind, .int .i64 r.time, .slice A2 r.labs.length c2', .string r.text, .int .i64 r.value, .bool r.null, .int .i64 maker, .int .i64 seq, .int .i64 (k : Int)] 37))
      go_wp2_with (at_builtin; go_must (refine wpList_append_sl _ rfl (.tmp 14) (.tmp 23) _ rfl w1.heap.size 37 _ 9 96 Try.underlying33 Try.infoRow rfl (by omega) _ _ _ rfl hcs (w2.heap.size + 1) _ 1 1 _ rfl hrd (Hone.out A2 c2') (by unfold maxLen; omega) (by omega) (by simp; omega) ?_))
      intro A3 c3 w3 hc1 hc2 hrd3 hbel3 hown3 hgr _
      have hsn := Hsn.out (w2.alloc (.cells #[.int .i64 r.kind, .int .i64 r.time, .slice A2 r.labs.length c2', .string r.text, .int .i64 r.value, .bool r.null, .int .i64 maker, .int .i64 seq, .int .i64 (k : Int)] 37)) w3 (.slice A3 (k + 1) c3) (A2, c2') (hb02.alloc hb02.size _) (own_base (hol.alloc _) (by simp; omega)) hown3 hgr
      go_wp2
      go_roundw
      case rel => exact ⟨k + 1, ps ++ [(A2, c2')], by omega, by go_num, ⟨A3, c3, rfl, hsn⟩, (hbel2.alloc s2 _).trans hbel3⟩
      case measure => simp [intOf]; omega
    · obtain rfl : k = l.length := by omega
      go_wp2
      go_ret
      have e1 := E1.out
      exact ⟨A', c', ps, rfl, hown.base (by omega), hba.trans (hbel.mono (by omega))⟩
end Go.Proofs.Ytennddlihcamnaa
