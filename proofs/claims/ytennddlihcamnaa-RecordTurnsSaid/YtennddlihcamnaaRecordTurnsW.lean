/- The walk of RecordTurns. -/
import Derived.Test.YtennddlihcamnaaRecI
namespace Go.Proofs.Ytennddlihcamnaa.lawRecordTurns
open Go.RowKit

set_option maxRecDepth 100000 in
set_option maxHeartbeats 1600000 in
theorem body (w : World) {B c : Nat} {A : Option Addr} {l : List Rec} (maker seq n : Int) (h : Recs w B A l) (hB : B ≤ w.heap.size) (hlc : l.length ≤ c) (hnn : -9223372036854775808 ≤ n ∧ n ≤ 9223372036854775807) (hn : l.length ≤ 1954687338211) :
    Calls Try.prog 5 #[.agg #[.int .i64 maker, .int .i64 seq, .slice A l.length c], .int .i64 n] w fun e w' => e = .returned (.bool true) ∧ Below w.heap.size w w' := by
  have hba := (Below.refl w.heap.size w).alloc (Nat.le_refl _) (.cells #[.int .i64 maker, .int .i64 seq, .slice A l.length c] 24)
  have hbx := Blk.new w 24 #[.int .i64 maker, .int .i64 seq, .slice A l.length c]
  have hl := h.below (hba.mono hB)
  have E1 : Hid ((w.alloc (.cells #[.int .i64 maker, .int .i64 seq, .slice A l.length c] 24)).heap.size = w.heap.size + 1) := Lib.hid (by simp)
  have hliv := lives_calls (w.alloc (.cells #[.int .i64 maker, .int .i64 seq, .slice A l.length c] 24))
  clear h
  by_cases h70 : 70 < l.length
  · have d70 : decide ((70 : Int) < (l.length : Int)) = true := dct (by omega)
    go_enter Try.func5, Try.ntmps5
    go_wp2_with fail
    refine hliv.mono ?_
    rintro e w1 ⟨rfl, hb1⟩
    have hb1x := hbx.below hb1 (by simp)
    have y2 := hb1x.cell 2
    simp only [List.getElem?_toArray, List.getElem?_cons_zero, List.getElem?_cons_succ] at y2
    have hbel := hba.trans (hb1.mono (by simp))
    go_wp2_with fail
    refine (lives_calls _).mono ?_
    rintro e w2 ⟨rfl, hb2⟩
    go_wp2
    go_ret
    exact ⟨rfl, hbel.trans (hb2.mono hbel.size)⟩
  · have d70 : decide ((70 : Int) < (l.length : Int)) = false := dcf (by omega)
    go_enter Try.func5, Try.ntmps5
    go_wp2_with fail
    refine hliv.mono ?_
    rintro e w1 ⟨rfl, hb1⟩
    have hb1x := hbx.below hb1 (by simp)
    have y2 := hb1x.cell 2
    simp only [List.getElem?_toArray, List.getElem?_cons_zero, List.getElem?_cons_succ] at y2
    have hl1 := hl.below (hb1.mono (by simp; omega))
    have hw0 := hba.trans (hb1.mono (by simp))
    have hw1 := hb1x.lt
    have hBw : B ≤ w1.heap.size := by omega
    have HK : Hid (∀ W, Below w1.heap.size w1 W → Calls Try.prog 12 #[.agg #[.int .i64 maker, .int .i64 seq, .slice A l.length c]] W fun e w' => e = .returned (.int .i64 (chkB maker seq l : Int)) ∧ Below W.heap.size W w') := Lib.hid fun W hW => check_calls W (c := c) maker seq (hl1.below (hW.mono hBw)) (by have := hW.size; omega) hn
    clear hliv hb1 hbx hl hba E1
    have y0 := hb1x.cell 0
    have y1 := hb1x.cell 1
    simp only [List.getElem?_toArray, List.getElem?_cons_zero, List.getElem?_cons_succ] at y0 y1
    go_wp2_with fail
    refine (HK.out _ (Below.refl _ _)).mono ?_
    rintro e w2 ⟨rfl, hb2⟩
    have hb2x := hb1x.below hb2 hw1
    have z0 := hb2x.cell 0
    have z1 := hb2x.cell 1
    have z2 := hb2x.cell 2
    simp only [List.getElem?_toArray, List.getElem?_cons_zero, List.getElem?_cons_succ] at z0 z1 z2
    have hb2a := hb2x.alloc (.cells #[.int .i64 maker, .int .i64 seq, .slice none 0 0] 24)
    have t2 := hb2a.cell 2
    simp only [List.getElem?_toArray, List.getElem?_cons_zero, List.getElem?_cons_succ] at t2
    have hb02 := hw0.trans (hb2.mono (by omega))
    have s2 := hb2.size
    go_upto_if 24 with (fail)
    go_cut [7] (fun s wx => ∃ k : Nat, s = .int .i64 (k : Int) ∧ (k < l.length ∨ (k = 0 ∧ l.length = 0)) ∧ Blk wx w2.heap.size 24 #[.int .i64 maker, .int .i64 seq, .slice none 0 0] ∧ Blk wx w.heap.size 24 #[.int .i64 maker, .int .i64 seq, .slice A l.length c] ∧ Below w2.heap.size w2 wx ∧ w2.heap.size + 1 = wx.heap.size)
    case first =>
      by_cases hl0 : 0 < l.length
      · obtain ⟨k, hk, hke⟩ : ∃ k : Nat, k < l.length ∧ wrap64 ((IntKind.u64.wrap n).tmod (l.length : Int)) = (k : Int) := by
          have h1 : 0 ≤ IntKind.u64.wrap n := by rw [IntKind.wrap_u64]; omega
          have h2 : (IntKind.u64.wrap n).tmod (l.length : Int) = IntKind.u64.wrap n % (l.length : Int) := Int.tmod_eq_emod_of_nonneg h1
          have h3 := Int.emod_nonneg (IntKind.u64.wrap n) (show (l.length : Int) ≠ 0 by omega)
          have h4 := Int.emod_lt_of_pos (IntKind.u64.wrap n) (show (0 : Int) < (l.length : Int) by omega)
          refine ⟨(IntKind.u64.wrap n % (l.length : Int)).toNat, by omega, ?_⟩
          rw [h2]
          unfold wrap64
          omega
        have HE := Lib.hid hke
        clear hke
        go_wp2
        go_meet
        case rel => exact ⟨k, by rw [HE.out], .inl hk, Blk.new _ _ _, hb2a, (Below.refl _ _).alloc (Nat.le_refl _) _, by simp⟩
      · go_wp2
        go_meet
        case rel => exact ⟨0, rfl, .inr ⟨rfl, by omega⟩, Blk.new _ _ _, hb2a, (Below.refl _ _).alloc (Nat.le_refl _) _, by simp⟩
    case rest =>
      obtain ⟨k, rfl, hk, ho, hbb, hb3, hs3⟩ := hcut
      rename_i w3
      clear z0 z1 z2 y0 y1 y2 t2 hb2a hb2x
      have z2 := hbb.cell 2
      have o2 := ho.cell 2
      have p2 := ho.frozen 2
      simp only [List.getElem?_toArray, List.getElem?_cons_zero, List.getElem?_cons_succ] at z2 o2
      generalize hgo : w2.heap.size = go at *
      generalize hgm : w.heap.size = gm at *
      have h3 := (hl1.below (hb2.mono (by omega))).below (hb3.mono (by omega))
      have hdrop := recs_drop h3 (k := k) (by omega)
      have htake := recs_take h3 (k := k) (by omega)
      rcases hk with hk | ⟨rfl, hl0⟩
      · have u0 : (0 : Int) ≤ (k : Int) := by omega
        have u1 : (k : Int) ≤ (l.length : Int) := by omega
        have u2 : (k : Int) ≤ (c : Int) := by omega
        have u3 : ¬ c = k := by omega
        obtain ⟨b, off, rfl, hbB, -⟩ := h3.cellAt (show 0 < l.length by omega)
        rw [Option.map_some, addr_add] at hdrop
        go_wp2_with fail
        go_still_tail 6, (by kernel_rfl)
        go_wp2_with (at_builtin; go_must (refine wpList_append_sl _ rfl (.tmp 34) (.tmp 38) _ rfl wc.heap.size 28 _ 6 72 Try.underlying22 Try.infoRec rfl (by omega) _ _ _ rfl (World.ownsRow_nil _ _ _ _) B _ (l.length - k) (c - k) (recCells (l.drop k)) rfl hdrop (rec_one _) (by unfold maxLen; omega) (by omega) (by simp) ?_))
        intro A4 c4 w4 hc4 hm4 hr4 hbel4 hown4 _ _
        have ho4 := Blk.below (B := wc.heap.size) ho.drew hbel4 (by omega)
        have hbb4 := Blk.below (B := wc.heap.size) hbb.drew hbel4 (by omega)
        have x2 := ho4.cell 2
        have f2 := ho4.frozen 2
        have v2 := hbb4.cell 2
        simp only [List.getElem?_toArray, List.getElem?_cons_zero, List.getElem?_cons_succ] at x2 v2
        go_wp2_with fail
        have ho5 : Blk (w4.setCell ⟨go, 2, none⟩ (.slice A4 (l.length - k) c4)) go 24 #[.int .i64 maker, .int .i64 seq, .slice A4 (l.length - k) c4] := ho4.set_ 2 _
        have hbb5 := hbb4.far (p := ⟨go, 2, none⟩) (by show gm ≠ go; omega) (.slice A4 (l.length - k) c4)
        have hown5 := row_kept hown4 (p := ⟨go, 2, none⟩) (by show go < _; omega) (.slice A4 (l.length - k) c4)
        have hb45 : Below go wc w4 := ⟨hbel4.os, hbel4.tape, hbel4.output, hbel4.size, fun i hi => hbel4.block i (by omega)⟩
        have hbel5 : Below go wc (w4.setCell ⟨go, 2, none⟩ (.slice A4 (l.length - k) c4)) := Below.setCell hb45 (Nat.le_refl go) _
        have hs5 : (w4.setCell ⟨go, 2, none⟩ (.slice A4 (l.length - k) c4)).heap.size = w4.heap.size := by simp
        have hs4 : wc.heap.size ≤ w4.heap.size := hbel4.size
        clear x2 f2 v2 hr4 hown4 ho4 hbb4 z2 o2 p2
        generalize w4.setCell ⟨go, 2, none⟩ (.slice A4 (l.length - k) c4) = w5 at *
        have x2 := ho5.cell 2
        have f2 := ho5.frozen 2
        have v2 := hbb5.cell 2
        simp only [List.getElem?_toArray, List.getElem?_cons_zero, List.getElem?_cons_succ] at x2 v2
        have htake5 := Reads.below htake (hbel5.mono (by omega))
        go_still_tail 6, (by kernel_rfl)
        go_wp2_with (at_builtin; go_must (refine wpList_append_sl _ rfl (.tmp 42) (.tmp 46) _ rfl wc.heap.size 28 _ 6 72 Try.underlying22 Try.infoRec rfl (by omega) _ _ _ rfl hown5 B _ k c (recCells (l.take k)) rfl htake5 (rec_one _) (by unfold maxLen; omega) (by omega) (by show wc.heap.size ≤ w5.heap.size; omega) ?_))
        intro A6 c6 w6 hc6 hm6 hr6 hbel6 hown6 _ _
        rw [← recCells_app] at hown6
        have hml : (l.drop k ++ l.take k).length = l.length - k + k := by rw [List.length_append, List.length_drop, List.length_take]; omega
        have hml2 : (l.drop k ++ l.take k).length = l.length := by rw [hml]; omega
        have Hchk := Lib.hid (chk_turn l k maker seq)
        have hmem : ∀ x ∈ l.drop k ++ l.take k, x ∈ l := fun x hx => by
          rcases List.mem_append.1 hx with hx | hx
          · exact List.mem_of_mem_drop hx
          · exact List.mem_of_mem_take hx
        have hs6 : w5.heap.size ≤ w6.heap.size := hbel6.size
        have hb56 : Below go w5 w6 := ⟨hbel6.os, hbel6.tape, hbel6.output, hbel6.size, fun i hi => hbel6.block i (by omega)⟩
        have hok6 : ∀ x ∈ l, x.ok w6 B := fun x hx => by
          obtain ⟨i, hi, rfl⟩ := List.getElem_of_mem hx
          rw [recAt_eq hi]
          exact ((h3.each i hi).below (hbel5.mono (by omega))).below (hb56.mono (by omega))
        have ho6 := Blk.below (B := wc.heap.size) ho5.drew hbel6 (by omega)
        have x4 := ho6.cell 0
        have x5 := ho6.cell 1
        have x6 := ho6.cell 2
        have f6 := ho6.frozen 2
        simp only [List.getElem?_toArray, List.getElem?_cons_zero, List.getElem?_cons_succ] at x4 x5 x6
        clear hr6 hmem
        have hmem : ∀ x ∈ l.drop k ++ l.take k, x.ok w6 B := fun x hx => hok6 x (by
          rcases List.mem_append.1 hx with hx | hx
          · exact List.mem_of_mem_drop hx
          · exact List.mem_of_mem_take hx)
        generalize hmm : l.drop k ++ l.take k = m at *
        rw [← hml] at hown6
        generalize hn6 : l.length - k + k = n6 at *
        subst hml
        clear hn6 hmm htake5 htake hdrop x2 f2 v2 hok6
        have hown7 := row_kept hown6 (p := ⟨go, 2, none⟩) (by show go < _; omega) (.slice A6 m.length c6)
        have hb7 : Below go w5 (w6.setCell ⟨go, 2, none⟩ (.slice A6 m.length c6)) := Below.setCell hb56 (Nat.le_refl go) _
        have hb67 : Below go w6 (w6.setCell ⟨go, 2, none⟩ (.slice A6 m.length c6)) := Below.setCell (Below.refl _ _) (Nat.le_refl go) _
        have hs7 : (w6.setCell ⟨go, 2, none⟩ (.slice A6 m.length c6)).heap.size = w6.heap.size := by simp
        have hrecs : Recs (w6.setCell ⟨go, 2, none⟩ (.slice A6 m.length c6)) (w6.setCell ⟨go, 2, none⟩ (.slice A6 m.length c6)).heap.size A6 m := Recs.of_reads (Reads.of_own hown7) (fun x hx => ((hmem x hx).below (hb67.mono (by omega))).more (by omega))
        have hcc := check_calls _ (c := c6) maker seq hrecs (Nat.le_refl _) (by omega)
        rw [Hchk.out] at hcc
        rw [hml2] at hcc hb7 hs7
        have HC := Lib.hid hcc
        have hbt := ((hb02.trans (hb3.mono (by omega))).trans (hbel5.mono (by omega))).trans (hb7.mono (by omega))
        have hst := hbt.size
        have HB := Lib.hid hbt
        clear hcc hrecs hown7 hb7 hb67 hown6 hmem hbt
        generalize chkB maker seq l = ck at *
        go_wp2_with fail
        refine HC.out.mono ?_
        rintro e w8 ⟨rfl, hb8⟩
        go_wp2
        go_ret
        exact ⟨by simp, by rw [hgm]; exact HB.out.trans (hb8.mono (by omega))⟩
      · have HL : Hid (l = []) := Lib.hid (List.eq_nil_of_length_eq_zero hl0)
        have hck : ∀ W A' c', Calls Try.prog 12 #[.agg #[.int .i64 maker, .int .i64 seq, .slice A' 0 c']] W fun e w' => e = .returned (.int .i64 (chkB maker seq l : Int)) ∧ Below W.heap.size W w' := fun W A' c' => by
          rw [HL.out]
          exact check_calls W (c := c') (B := 0) (A := A') (l := []) maker seq ⟨fun h => absurd h (by simp), fun i hi => absurd hi (by simp)⟩ (Nat.zero_le _) (by decide)
        have HCK := Lib.hid hck
        clear hck hdrop htake
        have u0 : (0 : Int) ≤ (c : Int) := by omega
        by_cases hc0 : c = 0
        all_goals
          go_wp2_with fail
          go_still_tail 6, (by kernel_rfl)
          go_wp2_with (at_builtin; go_must (refine wpList_append_sl _ rfl (.tmp 34) (.tmp 38) _ rfl wc.heap.size 28 _ 6 72 Try.underlying22 Try.infoRec rfl (by omega) _ _ _ rfl (World.ownsRow_nil _ _ _ _) 0 _ 0 _ [] rfl Reads.none_ (by simp) (by unfold maxLen; omega) (by omega) (by simp) ?_))
          intro A4 c4 w4 hm4 hr4 hbel4 hown4 _ _
          have hown4' : w4.ownsRow wc.heap.size 28 6 (.slice A4 0 c4) 0 [] := hown4
          have ho4 := Blk.below (B := wc.heap.size) ho.drew hbel4 (by omega)
          have hbb4 := Blk.below (B := wc.heap.size) hbb.drew hbel4 (by omega)
          have x2 := ho4.cell 2
          have f2 := ho4.frozen 2
          have v2 := hbb4.cell 2
          simp only [List.getElem?_toArray, List.getElem?_cons_zero, List.getElem?_cons_succ] at x2 v2
          go_wp2_with fail
          have ho5 : Blk (w4.setCell ⟨go, 2, none⟩ (.slice A4 0 c4)) go 24 #[.int .i64 maker, .int .i64 seq, .slice A4 0 c4] := ho4.set_ 2 _
          have hbb5 := hbb4.far (p := ⟨go, 2, none⟩) (by show gm ≠ go; omega) (.slice A4 0 c4)
          have hown5 := row_kept hown4' (p := ⟨go, 2, none⟩) (by show go < _; omega) (.slice A4 0 c4)
          have hb45 : Below go wc w4 := ⟨hbel4.os, hbel4.tape, hbel4.output, hbel4.size, fun i hi => hbel4.block i (by omega)⟩
          have hbel5 : Below go wc (w4.setCell ⟨go, 2, none⟩ (.slice A4 0 c4)) := Below.setCell hb45 (Nat.le_refl go) _
          have hs5 : (w4.setCell ⟨go, 2, none⟩ (.slice A4 0 c4)).heap.size = w4.heap.size := by simp
          have hs4 : wc.heap.size ≤ w4.heap.size := hbel4.size
          clear x2 f2 v2 hr4 hown4 hown4' ho4 hbb4 z2 o2 p2
          generalize w4.setCell ⟨go, 2, none⟩ (.slice A4 0 c4) = w5 at *
          have x2 := ho5.cell 2
          have f2 := ho5.frozen 2
          have v2 := hbb5.cell 2
          simp only [List.getElem?_toArray, List.getElem?_cons_zero, List.getElem?_cons_succ] at x2 v2
          go_still_tail 6, (by kernel_rfl)
          go_wp2_with (at_builtin; go_must (refine wpList_append_sl _ rfl (.tmp 42) (.tmp 46) _ rfl wc.heap.size 28 _ 6 72 Try.underlying22 Try.infoRec rfl (by omega) _ _ _ rfl hown5 0 _ 0 _ [] rfl Reads.none_ (by simp) (by unfold maxLen; omega) (by omega) (by show wc.heap.size ≤ w5.heap.size; omega) ?_))
          intro A6 c6 w6 hm6 hr6 hbel6 hown6 _ _
          have hs6 : w5.heap.size ≤ w6.heap.size := hbel6.size
          have hb56 : Below go w5 w6 := ⟨hbel6.os, hbel6.tape, hbel6.output, hbel6.size, fun i hi => hbel6.block i (by omega)⟩
          have ho6 := Blk.below (B := wc.heap.size) ho5.drew hbel6 (by omega)
          have x4 := ho6.cell 0
          have x5 := ho6.cell 1
          have x6 := ho6.cell 2
          have f6 := ho6.frozen 2
          simp only [List.getElem?_toArray, List.getElem?_cons_zero, List.getElem?_cons_succ] at x4 x5 x6
          have hb7 : Below go w5 (w6.setCell ⟨go, 2, none⟩ (.slice A6 0 c6)) := Below.setCell hb56 (Nat.le_refl go) _
          have hbt := ((hb02.trans (hb3.mono (by omega))).trans (hbel5.mono (by omega))).trans (hb7.mono (by omega))
          have hst := hbt.size
          have HB := Lib.hid hbt
          clear hown5 hb7 hown6 hr6 hbt x2 f2 v2
          generalize chkB maker seq l = ck at *
          go_wp2_with fail
          refine (HCK.out _ _ _).mono ?_
          rintro e w8 ⟨rfl, hb8⟩
          go_wp2
          go_ret
          exact ⟨by simp, by rw [hgm]; exact HB.out.trans (hb8.mono (by omega))⟩

theorem walk {H : Type} {enc : TypeId × Value → H} {W : World} {base : Nat} {v0 v1 : Value} {d0 d1 : DataW H} {p0 p1 : List MemPlace} (g0 : Arg enc Try.prog W base 24 v0 d0 p0) (g1 : Arg enc Try.prog W base 3 v1 d1 p1) :
    Calls Try.prog 5 #[v0, v1] W fun e w' => e = .returned (.bool true) ∧ Below W.heap.size W w' := by
  obtain ⟨maker, seq, A, c, l, rfl, hc, hl, hL⟩ := arg_batch g0
  obtain ⟨n, rfl, -, hn⟩ := g1.int Try.underlying3
  exact body W maker seq n hL (Nat.le_refl _) hc (wf_i64 hn) hl
end Go.Proofs.Ytennddlihcamnaa.lawRecordTurns
