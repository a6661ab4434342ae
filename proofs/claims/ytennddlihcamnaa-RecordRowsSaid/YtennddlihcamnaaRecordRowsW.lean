/- The walk of RecordRows. -/
import Derived.Test.YtennddlihcamnaaRecM
namespace Go.Proofs.Ytennddlihcamnaa.lawRecordRows
open Go.RowKit

set_option maxRecDepth 100000 in
set_option maxHeartbeats 1600000 in
theorem body (w : World) {B c : Nat} {A : Option Addr} {l : List Rec} (maker seq : Int) (h : Recs w B A l) (hB : B ≤ w.heap.size) (hn : l.length ≤ 1954687338211) :
    Calls Try.prog 4 #[.agg #[.int .i64 maker, .int .i64 seq, .slice A l.length c]] w fun e w' => e = .returned (.bool true) ∧ Below w.heap.size w w' := by
  have hba := (Below.refl w.heap.size w).alloc (Nat.le_refl _) (.cells #[.int .i64 maker, .int .i64 seq, .slice A l.length c] 24)
  have hbx := Blk.new w 24 #[.int .i64 maker, .int .i64 seq, .slice A l.length c]
  have hl := h.below (hba.mono hB)
  have E1 : Hid ((w.alloc (.cells #[.int .i64 maker, .int .i64 seq, .slice A l.length c] 24)).heap.size = w.heap.size + 1) := Lib.hid (by simp)
  have hliv := lives_calls (w.alloc (.cells #[.int .i64 maker, .int .i64 seq, .slice A l.length c] 24))
  clear h
  by_cases h70 : 70 < l.length
  · have d70 : decide ((70 : Int) < (l.length : Int)) = true := dct (by omega)
    go_enter Try.func4, Try.ntmps4
    go_wp2_with fail
    refine hliv.mono ?_
    rintro e w1 ⟨rfl, hb1⟩
    have hb1x := hbx.below hb1 (by simp)
    have y2 := hb1x.cell 2
    simp only [List.getElem?_toArray, List.getElem?_cons_zero, List.getElem?_cons_succ] at y2
    have hbel := hba.trans (hb1.mono (by simp))
    go_wp2_with fail
    refine (lives_calls _).mono ?_
    rintro e w2 ⟨rfl, hb2⟩
    go_wp2
    go_ret
    exact ⟨rfl, hbel.trans (hb2.mono hbel.size)⟩
  · have d70 : decide ((70 : Int) < (l.length : Int)) = false := dcf (by omega)
    go_enter Try.func4, Try.ntmps4
    go_wp2_with fail
    refine hliv.mono ?_
    rintro e w1 ⟨rfl, hb1⟩
    have hb1x := hbx.below hb1 (by simp)
    have y2 := hb1x.cell 2
    simp only [List.getElem?_toArray, List.getElem?_cons_zero, List.getElem?_cons_succ] at y2
    have hl1 := hl.below (hb1.mono (by simp; omega))
    have hw0 := hba.trans (hb1.mono (by simp))
    have hw1 := hb1x.lt
    have hBw : B ≤ w1.heap.size := by omega
    have y0 := hb1x.cell 0
    have y1 := hb1x.cell 1
    simp only [List.getElem?_toArray, List.getElem?_cons_zero, List.getElem?_cons_succ] at y0 y1
    clear hliv hb1 hbx hl hba E1
    generalize hgm : w.heap.size = gm at *
    go_wp2_with fail
    generalize hw0' : w1 = w0 at *
    clear hw0'
    have HA := Lib.hid fun W (hW : Below w0.heap.size w0 W) => rows_calls W (c := c) maker seq (hl1.below (hW.mono hBw)) (by have := hW.size; omega) (by omega)
    have HR := Lib.hid fun W (hW : Below w0.heap.size w0 W) => rowsR_calls W (c := c) maker seq (hl1.below (hW.mono hBw)) (by have := hW.size; omega) (by omega)
    have Hkeep : Hid (∀ W, Below w0.heap.size w0 W → W.cell? ⟨gm, 0, none⟩ = some (.int .i64 maker) ∧ W.cell? ⟨gm, 1, none⟩ = some (.int .i64 seq) ∧ W.cell? ⟨gm, 2, none⟩ = some (.slice A l.length c)) := Lib.hid fun W hW => ⟨(hW.cell (p := ⟨gm, _, none⟩) hw1).trans y0, (hW.cell (p := ⟨gm, _, none⟩) hw1).trans y1, (hW.cell (p := ⟨gm, _, none⟩) hw1).trans y2⟩
    have HLn : Hid (∀ i, i < l.length → (recAt l i).labs.length ≤ 4398046511104) := Lib.hid fun i hi => (hl1.each i hi).len
    clear hl1
    go_region_held3 (fun w' => w'.cell? ⟨gm, 0, none⟩ = some (.int .i64 maker) ∧ w'.cell? ⟨gm, 1, none⟩ = some (.int .i64 seq) ∧ w'.cell? ⟨gm, 2, none⟩ = some (.slice A l.length c)) (exact Hkeep.out _ (by first | assumption | exact below_drewN_ (Below.refl _ _) 1)) (first | (go_at_call 14; refine (HA.out _ (below_drewN_ (Below.refl _ _) 1)).mono ?_; rintro e w3 ⟨Al, cl, psl, rfl, hol, hb3⟩; have he3 : Below w0.heap.size w0 w3 := (below_drewN_ (Below.refl _ _) 1).trans hb3) | (go_at_call 15; refine (HR.out _ he3).mono ?_; rintro e w4 ⟨Aw, cw, psw, rfl, how, hb4⟩; have he4 : Below w0.heap.size w0 w4 := he3.trans (hb4.mono he3.size)))
    clear y0 y1 y2
    have hol4 := hol.below hb4
    have hs3 := he3.size
    have hs4 := hb4.size
    have hbase : w0.heap.size ≤ (w0.drewN 1).heap.size := Nat.le_refl _
    have hsr := sameRows_calls w4 (c1 := cl) (c2 := cw) maker seq hol4 how (Nat.le_refl _) (by omega) HLn.out
    have HSR := Lib.hid hsr
    clear hsr
    go_wp2_with fail
    refine HSR.out.mono ?_
    rintro e w5 ⟨rfl, hb5⟩
    have hb45 := hb4.trans (hb5.mono hs4)
    have how5 := how.below hb5
    have he5 := he4.trans (hb5.mono he4.size)
    have hs5 := hb45.size
    have HP : Hid (0 < l.length → ∃ g, Al = some ⟨g, 0, none⟩ ∧ Pres w0.heap.size w3.heap.size g l psl l.length w5) := Lib.hid fun hp => by
      obtain ⟨g, hg, _⟩ := row_at hol hp
      exact ⟨g, hg, Pres.of hol hb45 hg hp⟩
    clear HSR hol hol4 how
    generalize hhi : w3.heap.size = hi at *
    generalize hlo : w0.heap.size = lo at *
    go_wp2
    go_loopw [5, 26] (fun _ i wr => ∃ k : Nat, k ≤ l.length ∧ i = .int .i64 (k : Int) ∧ Mid lo hi w5 wr ∧ Hid (0 < l.length → ∃ g, Al = some ⟨g, 0, none⟩ ∧ Pres lo hi g l psl l.length wr)) (fun _ i _ => l.length - (intOf i).toNat)
    case atStart => exact ⟨0, Nat.zero_le _, rfl, Mid.refl _ _ _, HP⟩
    case round =>
      obtain ⟨k, hk, rfl, hmid, HPk⟩ := hrel
      by_cases hlt : k < l.length
      · obtain ⟨g, rfl, hP⟩ := HPk.out (by omega)
        have c2 := hP.1 k hlt
        have hln := HLn.out k hlt
        have i0 : (0 : Int) ≤ (k : Int) := by omega
        have i9 : (k : Int) < (l.length : Int) := by omega
        have HPw := Lib.hid hP
        clear hP
        go_wp2
        go_loopw [6, 36] (fun _ i wj => ∃ j : Nat, j ≤ (recAt l k).labs.length ∧ i = .int .i64 (j : Int) ∧ Mid lo hi w5 wj ∧ Hid (Pres lo hi g l psl l.length wj)) (fun _ i _ => (recAt l k).labs.length - (intOf i).toNat)
        case atStart => exact ⟨0, Nat.zero_le _, rfl, hmid, HPw⟩
        case round =>
          obtain ⟨j, hj, rfl, hmidj, HPj⟩ := hrel
          by_cases hjl : j < (recAt l k).labs.length
          · have d2 := HPj.out.1 k hlt
            obtain ⟨b, hpb, hb1, hb2, hbg, hcell⟩ := HPj.out.2 k hlt (by omega)
            obtain ⟨⟨u, d1⟩, f1⟩ := hcell (j * 2 + 1) (by omega)
            have HP2 := Lib.hid (HPj.out.setCell hbg ⟨u, d1⟩ (.string ⟨#[116, 117, 114, 110, 101, 100]⟩))
            rw [hpb] at d2
            clear hcell hpb c2
            go_wp2
            go_roundw
            case rel => exact ⟨j + 1, by omega, by go_num, hmidj.setCell hb1 hb2 _, HP2⟩
            case measure => simp [intOf]; omega
          · obtain rfl : j = (recAt l k).labs.length := by omega
            go_wp2
            go_roundw
            case rel => exact ⟨k + 1, by omega, by go_num, hmidj, Lib.hid fun _ => ⟨g, rfl, HPj.out⟩⟩
            case measure => simp [intOf]; omega
      · obtain rfl : k = l.length := by omega
        have he6 := he5.trans (hmid.below (by omega))
        obtain ⟨q0, q1, q2⟩ := Hkeep.out _ he6
        have how6 := hmid.rows how5 (Nat.le_refl _)
        have s6 := he6.size
        clear HPk HP
        go_wp2_with fail
        refine (HA.out _ he6).mono ?_
        rintro e w7 ⟨A7, c7, ps7, rfl, ho7, hb7⟩
        have how7 := how6.below hb7
        have hsr := sameRows_calls w7 (c1 := c7) (c2 := cw) maker seq ho7 how7 (Nat.le_refl _) (by omega) HLn.out
        have HSR := Lib.hid hsr
        have he7 := he6.trans (hb7.mono (by omega))
        have s7 := he7.size
        clear hsr ho7 how7 how6
        go_wp2_with fail
        refine HSR.out.mono ?_
        rintro e w8 ⟨rfl, hb8⟩
        go_wp2
        go_ret
        exact ⟨rfl, by rw [hgm]; exact hw0.trans ((he7.trans (hb8.mono (by omega))).mono (by omega))⟩

theorem walk {H : Type} {enc : TypeId × Value → H} {W : World} {base : Nat} {v0 : Value} {d0 : DataW H} {p0 : List MemPlace} (g0 : Arg enc Try.prog W base 24 v0 d0 p0) :
    Calls Try.prog 4 #[v0] W fun e w' => e = .returned (.bool true) ∧ Below W.heap.size W w' := by
  obtain ⟨maker, seq, A, c, l, rfl, _, hl, hL⟩ := arg_batch g0
  exact body W maker seq hL (Nat.le_refl _) hl
end Go.Proofs.Ytennddlihcamnaa.lawRecordRows
