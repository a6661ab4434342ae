/- The program's sort of rows (chapter 9). -/
import Derived.Test.YtennddlihcamnaaProg
import Derived.Test.YtennddlihcamnaaRwE
namespace Go.Proofs.Ytennddlihcamnaa
set_option linter.unusedVariables false
set_option linter.unusedSimpArgs false
open Go.RowKit Go.Proofs.Ytennddlihcamnaa.So

theorem SameL.snoc {d l : List Rw} {k : Nat} (h : SameL d (l.take k)) (hk : k < l.length) (A : Option Addr) (c : Nat) : SameL (d ++ [{ Sr.gt l k with A := A, cp := c }]) (l.take (k + 1)) := by
  show List.map _ _ = List.map _ _
  rw [List.take_succ_eq_append_getElem hk, List.map_append, List.map_append, show d.map Rw.logic = (l.take k).map Rw.logic from h, Sr.gt_eq hk]
  rfl
theorem sortO_calls (w : World) {base n c : Nat} {A : Option Addr} {d : List Rw} (h : RowsO w base (.slice A n c) d) (hl : d.length = n) (hn : n ≤ 4398046511) (hb : base ≤ w.heap.size) :
    Calls Try.prog 37 #[.slice A n c, .func (.func 20) #[] #[]] w fun e w' =>
      e = .returned (.tuple #[]) ∧ RowsO w' base (.slice A n c) (isort (Sr.ltc cfR) d) ∧ Below base w w' := by
  subst hl
  rcases h.own.2 with ⟨e, h0⟩ | ⟨g, cap, cur, e, hbg, _⟩
  · injection e with e1 e2 e3
    subst e1 e3
    obtain rfl := List.eq_nil_of_length_eq_zero h0
    refine (sortR_nil w _ 0).mono ?_
    rintro e w1 ⟨rfl, hb1⟩
    exact ⟨rfl, h.below hb1, hb1.mono hb⟩
  · injection e with e1 e2 e3
    subst e1 e3
    refine (sortR_calls d.length base g c w d h.own rfl (by omega)).mono ?_
    rintro e w1 ⟨rfl, hr, ho⟩
    refine ⟨rfl, ⟨?_, fun x hx => ?_⟩, ho.below hbg hb⟩
    · rw [isort_len]
      have := hr
      unfold Sr.RowE at this
      rw [isort_len] at this
      exact this
    · exact own_other (h.each x ((isort_perm d).mem_iff.1 hx)) h.own (by decide) ho

/-- Rows as they were said, in memory of their own. -/
def RetRw (w : World) (n : Nat) (m : List Rw) (e : Ending) (w' : World) : Prop := ∃ A c d, e = .returned (.slice A n c) ∧ d.length = n ∧ SameL d m ∧ RowsO w' w.heap.size (.slice A n c) d ∧ Below w.heap.size w w'
set_option maxRecDepth 100000 in
set_option maxHeartbeats 3200000 in
theorem sort_calls (w : World) {B c : Nat} {A : Option Addr} {l : List Rw} (h : Rows w B A l) (hB : B ≤ w.heap.size) (hn : l.length ≤ 200) :
    Calls Try.prog 18 #[.slice A l.length c] w (RetRw w l.length (isort (Sr.ltc cfR) l)) := by
  have H1 := Lib.hid h
  clear h
  go_enter Try.func18, Try.ntmps18
  go_wp2
  go_loopw [3, 8] (fun v i wr => ∃ (k : Nat) (d : List Rw), k ≤ l.length ∧ i = .int .i64 (k : Int) ∧ Hid (d.length = k) ∧ SameL d (l.take k) ∧ (∃ A' c', v = .slice A' k c' ∧ RowsO wr w.heap.size v d) ∧ Below w.heap.size w wr) (fun _ i _ => l.length - (intOf i).toNat)
  case atStart => exact ⟨0, [], Nat.zero_le _, rfl, Lib.hid rfl, rfl, ⟨none, 0, rfl, RowsO.nil _ _⟩, Below.refl _ _⟩
  case round =>
    obtain ⟨k, d, hk, rfl, hdl, hsame, ⟨A', c', rfl, hown⟩, hbel⟩ := hrel
    by_cases hlt : k < l.length
    · have hsz := hbel.size
      have r1 := H1.out.below (hbel.mono hB)
      obtain ⟨g1, o1, e1, hg1, -⟩ := reads_nine r1.reads (by omega)
      have HP := Lib.hid (reads_nine_at r1.reads e1 hlt)
      have k1 := r1.each _ (show Sr.gt l k ∈ l by rw [← Sr.gt_eq hlt]; exact List.getElem_mem _)
      have HT := Lib.hid fun W (hW : Below wr.heap.size wr W) => twinRw_calls W (Sr.gt l k) (k1.labs.below (hW.mono (by omega))) (by have := hW.size; omega) k1.len
      have HSm := Lib.hid fun A c => hsame.snoc hlt A c
      have Hsn := Lib.hid fun (w2 w3 : World) (v' : Value) (A2 : Option Addr) (c2 : Nat) (hb : Below wr.heap.size wr w2) (hp : w2.ownsRow w.heap.size 39 2 (.slice A2 (Sr.gt l k).labs.length c2) (Sr.gt l k).labs.length (labCells (Sr.gt l k).labs)) (hw : w3.ownsRow w.heap.size 37 9 v' (k + 1) (Sr.flat Rw.c d ++ Sr.nine Rw.c { Sr.gt l k with A := A2, cp := c2 })) (hg : w2.grownBy w3 (Value.slice A' k c').ownBlock) => RowsO.snoc (x := { Sr.gt l k with A := A2, cp := c2 }) (hown.below hb) hp (by rw [hdl.out]; exact hw) hg
      have Hone := Lib.hid fun A2 c2 => nine_one { Sr.gt l k with A := A2, cp := c2 }
      have Hcells : Hid (∀ w2, Below wr.heap.size wr w2 → w2.ownsRow w.heap.size 37 9 (.slice A' k c') k (Sr.flat Rw.c d)) := Lib.hid fun w2 hb => by
        have := own_below hown.own hb
        rw [hdl.out] at this
        exact this
      generalize Sr.flat Rw.c d = cs at *
      have HD : Hid (∀ A2 c2, (d ++ [({ Sr.gt l k with A := A2, cp := c2 } : Rw)]).length = k + 1) := Lib.hid fun A2 c2 => by rw [List.length_append, hdl.out]; rfl
      clear r1 k1 hown hsame
      subst e1
      generalize Sr.gt l k = x at *
      unfold rwA at HT
      obtain ⟨p0, p1, p2, p3, p4, p5, p6, p7, p8⟩ := HP.out
      clear HP
      have i0 : (0 : Int) ≤ (k : Int) := by omega
      have i9 : (k : Int) < (l.length : Int) := by omega
      go_wp2_with fail
      refine (HT.out _ ((Below.refl wr.heap.size wr).alloc (Nat.le_refl _) _)).mono ?_
      rintro e w2 ⟨A2, c2', rfl, hol, hb2⟩
      have hb02 := ((Below.refl wr.heap.size wr).alloc (Nat.le_refl _) _).trans (hb2.mono (by simp))
      have hol := own_base (base' := w.heap.size) hol (by simp; omega)
      have s2 := hb02.size
      have hrd : Reads (w2.alloc (.cells #[.int .i64 x.kind, .int .i64 x.time, .slice A2 x.labs.length c2', .string x.text, .int .i64 x.value, .bool x.null, .int .i64 x.maker, .int .i64 x.seq, .int .i64 x.place] 37)) (w2.heap.size + 1) 9 (some ⟨w2.heap.size, 0, none⟩) 1 [.int .i64 x.kind, .int .i64 x.time, .slice A2 x.labs.length c2', .string x.text, .int .i64 x.value, .bool x.null, .int .i64 x.maker, .int .i64 x.seq, .int .i64 x.place] := Reads.made (n := 1) (size := 9) w2 _ 37 rfl
      have hcs := Hcells.out _ (hb02.alloc hb02.size (.cells #[.int .i64 x.kind, .int .i64 x.time, .slice A2 x.labs.length c2', .string x.text, .int .i64 x.value, .bool x.null, .int .i64 x.maker, .int .i64 x.seq, .int .i64 x.place] 37))
      go_wp2_with (at_builtin; go_must (refine wpList_append_sl _ rfl (.tmp 12) (.tmp 15) _ rfl w.heap.size 37 _ 9 96 Try.underlying33 Try.infoRow rfl (by omega) _ _ _ rfl hcs (w2.heap.size + 1) _ 1 1 _ rfl hrd (Hone.out A2 c2') (by unfold maxLen; omega) (by omega) (by simp; omega) ?_))
      intro A3 c3 w3 hc1 hc2 hrd3 hbel3 hown3 hgr _
      have hsn := Hsn.out (w2.alloc (.cells #[.int .i64 x.kind, .int .i64 x.time, .slice A2 x.labs.length c2', .string x.text, .int .i64 x.value, .bool x.null, .int .i64 x.maker, .int .i64 x.seq, .int .i64 x.place] 37)) w3 (.slice A3 (k + 1) c3) A2 c2' (hb02.alloc hb02.size _) (hol.alloc _) hown3 hgr
      go_wp2
      go_roundw
      case rel => exact ⟨k + 1, d ++ [{ x with A := A2, cp := c2' }], by omega, by go_num, Lib.hid (HD.out A2 c2'), HSm.out A2 c2', ⟨A3, c3, rfl, hsn⟩, (hbel.trans (hb02.mono hsz)).trans ((Below.refl _ _).alloc (by omega) _ |>.trans hbel3)⟩
      case measure => simp [intOf]; omega
    · obtain rfl : k = l.length := by omega
      have HS := Lib.hid (sortO_calls wr hown hdl.out (by omega) hbel.size)
      rw [List.take_length] at hsame
      have HSm := Lib.hid hsame.sorted
      have HD : Hid ((isort (Sr.ltc cfR) d).length = l.length) := Lib.hid ((isort_len d).trans hdl.out)
      clear hown hsame
      go_wp2_with fail
      refine HS.out.mono ?_
      rintro e w1 ⟨rfl, ho, hb1⟩
      go_wp2
      go_ret
      exact ⟨A', c', _, rfl, HD.out, HSm.out, ho, hbel.trans hb1⟩
end Go.Proofs.Ytennddlihcamnaa
