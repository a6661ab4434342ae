/- Rows of the reference (chapter 9). -/
import Derived.Test.YtennddlihcamnaaProg
import Derived.Test.YtennddlihcamnaaRecI
namespace Go.Proofs.Ytennddlihcamnaa
open Go.RowKit

set_option maxRecDepth 100000 in
set_option maxHeartbeats 1600000 in
theorem rowsR_calls (w : World) {B c : Nat} {A : Option Addr} {l : List Rec} (maker seq : Int) (h : Recs w B A l) (hB : B ≤ w.heap.size) (hn : l.length ≤ 70) :
    Calls Try.prog 15 #[.agg #[.int .i64 maker, .int .i64 seq, .slice A l.length c]] w (RetRows w l maker seq) := by
  have hba := (Below.refl w.heap.size w).alloc (Nat.le_refl _) (.cells #[.int .i64 maker, .int .i64 seq, .slice A l.length c] 24)
  have hbx := Blk.new w 24 #[.int .i64 maker, .int .i64 seq, .slice A l.length c]
  have hl1 := h.below (hba.mono hB)
  have e1 : (w.alloc (.cells #[.int .i64 maker, .int .i64 seq, .slice A l.length c] 24)).heap.size = w.heap.size + 1 := by simp
  clear h
  go_enter Try.func15, Try.ntmps15
  go_wp2
  have E1 := Lib.hid e1
  clear e1
  generalize hw1 : w.alloc (.cells #[.int .i64 maker, .int .i64 seq, .slice A l.length c] 24) = w1 at *
  clear hw1
  go_loopw [3, 4, 9] (fun v x i wr => ∃ (k : Nat) (ps : List Pos), k ≤ l.length ∧ i = .int .i64 (k : Int) ∧ (∃ A' c', v = .slice A' k c' ∧ RowsOwn wr w1.heap.size l maker seq k v ps) ∧ Below w1.heap.size w1 wr) (fun _ _ i _ => l.length - (intOf i).toNat)
  case atStart => exact ⟨0, [], Nat.zero_le _, rfl, ⟨_, 0, rfl, by rw [← E1.out]; exact ⟨rfl, World.ownsRow_made w1 #[] 0 (Nat.le_refl _) (Nat.zero_le _) rfl, fun i hi => absurd hi (by omega)⟩⟩, (Below.refl _ _).alloc (Nat.le_refl _) _⟩
  case round =>
    obtain ⟨k, ps, hk, rfl, ⟨A', c', rfl, hown⟩, hbel⟩ := hrel
    by_cases hlt : k < l.length
    · have hsz := hbel.size
      have hw01 : w.heap.size < w1.heap.size := by have e1 := E1.out; omega
      have hr := hl1.below (hbel.mono (by omega))
      have hok := hr.each k hlt
      obtain ⟨b, off, rfl, hbB, hcell⟩ := hr.cellAt (show 0 < l.length by omega)
      obtain ⟨c0, c1, c2, c3, c4, c5⟩ := hcell k hlt
      have hbr := hbx.below hbel (by omega)
      have y0 := hbr.cell 0
      have y1 := hbr.cell 1
      have y2 := hbr.cell 2
      simp only [List.getElem?_toArray, List.getElem?_cons_zero, List.getElem?_cons_succ] at y0 y1 y2
      have htw := fun W (hW : Below wr.heap.size wr W) => rtwinR_calls W (recAt l k) (hok.labs.below (hW.mono (by omega))) (by have := hW.size; omega) hok.len
      have Hsn := Lib.hid fun (w2 w3 : World) (v' : Value) (p : Pos) (hb : Below wr.heap.size wr w2) hp hw hg => RowsOwn.snoc (w := w2) (w' := w3) (v' := v') (p := p) (hown.below hb) hp hw hg
      have Hone := Lib.hid fun A c => row_one (recAt l k) A c maker seq (k : Int)
      have Hcells : Hid (∀ w2, Below wr.heap.size wr w2 → w2.ownsRow w1.heap.size 37 9 (.slice A' k c') k (rowsCells l maker seq ps k)) := Lib.hid fun w2 hb => own_below hown.own hb
      generalize rowsCells l maker seq ps k = cs at *
      unfold Rec.agg at htw
      unfold Rec.row at Hsn Hone
      clear hcell hr hok hown
      generalize recAt l k = r at *
      have i0 : (0 : Int) ≤ (k : Int) := by omega
      have i9 : (k : Int) < (l.length : Int) := by omega
      have HT := Lib.hid htw
      clear htw
      go_wp2_with fail
      have hb9 : b < w1.heap.size := by omega
      have hgm9 : w.heap.size < w1.heap.size := hw01
      have Hkeep : Hid (∀ W, Below w1.heap.size wr W → W.cell? ⟨w.heap.size, 0, none⟩ = some (.int .i64 maker) ∧ W.cell? ⟨w.heap.size, 1, none⟩ = some (.int .i64 seq) ∧ W.cell? ⟨w.heap.size, 2, none⟩ = some (.slice (some ⟨b, off, none⟩) l.length c) ∧ W.cell? ⟨b, off + k * 6, none⟩ = some (.int .i64 r.kind) ∧ W.cell? ⟨b, off + k * 6 + 1, none⟩ = some (.int .i64 r.time) ∧ W.cell? ⟨b, off + k * 6 + 2, none⟩ = some (.slice r.A r.labs.length r.c) ∧ W.cell? ⟨b, off + k * 6 + 3, none⟩ = some (.string r.text) ∧ W.cell? ⟨b, off + k * 6 + 4, none⟩ = some (.int .i64 r.value) ∧ W.cell? ⟨b, off + k * 6 + 5, none⟩ = some (.bool r.null)) := Lib.hid fun W hW => ⟨(hW.cell (p := ⟨w.heap.size, _, none⟩) hgm9).trans y0, (hW.cell (p := ⟨w.heap.size, _, none⟩) hgm9).trans y1, (hW.cell (p := ⟨w.heap.size, _, none⟩) hgm9).trans y2, (hW.cell (p := ⟨b, _, none⟩) hb9).trans c0, (hW.cell (p := ⟨b, _, none⟩) hb9).trans c1, (hW.cell (p := ⟨b, _, none⟩) hb9).trans c2, (hW.cell (p := ⟨b, _, none⟩) hb9).trans c3, (hW.cell (p := ⟨b, _, none⟩) hb9).trans c4, (hW.cell (p := ⟨b, _, none⟩) hb9).trans c5⟩
      go_region_held3 (fun w' => w'.cell? ⟨w.heap.size, 0, none⟩ = some (.int .i64 maker) ∧ w'.cell? ⟨w.heap.size, 1, none⟩ = some (.int .i64 seq) ∧ w'.cell? ⟨w.heap.size, 2, none⟩ = some (.slice (some ⟨b, off, none⟩) l.length c) ∧ w'.cell? ⟨b, off + k * 6, none⟩ = some (.int .i64 r.kind) ∧ w'.cell? ⟨b, off + k * 6 + 1, none⟩ = some (.int .i64 r.time) ∧ w'.cell? ⟨b, off + k * 6 + 2, none⟩ = some (.slice r.A r.labs.length r.c) ∧ w'.cell? ⟨b, off + k * 6 + 3, none⟩ = some (.string r.text) ∧ w'.cell? ⟨b, off + k * 6 + 4, none⟩ = some (.int .i64 r.value) ∧ w'.cell? ⟨b, off + k * 6 + 5, none⟩ = some (.bool r.null)) (exact Hkeep.out _ (by first | assumption | exact below_drewN_ (Below.refl _ _) 1 | exact Below.alloc he2' (by have := he2.size; omega) _)) (first | (go_at_call 36; refine (HT.out _ (below_drewN_ (Below.refl _ _) 1)).mono ?_; rintro e w2 ⟨A2, c2', rfl, hol, hb2⟩; have he2 : Below wr.heap.size wr w2 := (below_drewN_ (Below.refl _ _) 1).trans hb2; have he2' : Below w1.heap.size wr w2 := he2.mono hsz) | (refine step_append_sl _ rfl (.tmp 12) (.tmp 25) _ rfl w1.heap.size 37 _ 9 96 Try.underlying33 Try.infoRow rfl (by omega) _ _ _ rfl (Hcells.out _ (he2.alloc he2.size _)) (w2.heap.size + 1) _ 1 1 [.int .i64 r.kind, .int .i64 r.time, .slice A2 r.labs.length c2', .string r.text, .int .i64 r.value, .bool r.null, .int .i64 maker, .int .i64 seq, .int .i64 (k : Int)] rfl (Reads.made (n := 1) (size := 9) w2 _ 37 rfl) (Hone.out A2 c2') (by unfold maxLen; omega) (by omega) (by have := he2.size; simp; omega) ?_; intro A3 c3 w3 hc1 hc2 hrd3 hbel3 hown3 hgr _; have he3 : Below w1.heap.size wr w3 := (he2'.alloc (by have := he2.size; omega) _).trans hbel3))
      have hsn := Hsn.out (w2.alloc (.cells #[.int .i64 r.kind, .int .i64 r.time, .slice A2 r.labs.length c2', .string r.text, .int .i64 r.value, .bool r.null, .int .i64 maker, .int .i64 seq, .int .i64 (k : Int)] 37)) w3 (.slice A3 (k + 1) c3) (A2, c2') (he2.alloc he2.size _) (own_base (hol.alloc _) (by show w1.heap.size ≤ wr.heap.size; omega)) hown3 hgr
      go_wp2
      go_roundw
      case rel => exact ⟨k + 1, ps ++ [(A2, c2')], by omega, by go_num, ⟨A3, c3, rfl, hsn⟩, hbel.trans he3⟩
      case measure => simp [intOf]; omega
    · obtain rfl : k = l.length := by omega
      go_wp2
      go_ret
      have e1 := E1.out
      exact ⟨A', c', ps, rfl, hown.base (by omega), hba.trans (hbel.mono (by omega))⟩
end Go.Proofs.Ytennddlihcamnaa
