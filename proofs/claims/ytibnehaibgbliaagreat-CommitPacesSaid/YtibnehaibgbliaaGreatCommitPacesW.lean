/- CommitPaces: the walk. -/
import Derived.Test.YtibnehaibgbliaaGreatProg
import Derived.Test.YtibnehaibgbliaaGreatCpD
namespace Go.Proofs.YtibnehaibgbliaaGreat.lawCommitPaces
set_option linter.unusedVariables false
set_option linter.unusedSimpArgs false
open Go.RowKit Go.Proofs.YtibnehaibgbliaaGreat Go.Proofs.YtibnehaibgbliaaGreat.Cp

/-- Powers of two up to the eighth. -/
theorem pw (W : Int) (n : Nat) : W * 2 ^ (n + 1) = 2 * (W * 2 ^ n) := by rw [Int.pow_succ]; rw [← Int.mul_assoc, Int.mul_comm]
theorem pw_le (n : Nat) (h : n ≤ 7) : (1 : Int) ≤ 2 ^ n ∧ (2 : Int) ^ n ≤ 128 := by
  rcases n with _ | _ | _ | _ | _ | _ | _ | _ | n
  all_goals first | decide | omega
theorem pw_in {W : Int} (h0 : 0 ≤ W) (h1 : W ≤ 20) {n : Nat} (hn : n ≤ 7) : 0 ≤ W * 2 ^ n ∧ W * 2 ^ n ≤ 2560 := by
  obtain ⟨a, b⟩ := pw_le n hn
  refine ⟨Int.mul_nonneg h0 (by omega), ?_⟩
  have h2 := Int.mul_le_mul h1 b (by omega) (by omega)
  omega
/-- What stands at the head of a round: the commit g has made n calls; the next one is due at D. -/
structure At (w : World) (g : Nat) (V : V8) (tries wait : Int) (n : Nat) (D st er : Int) (asked : Bool) : Prop where
  blk : Blk w g 92 (cqA V tries wait (n : Int) D asked st er)
  due : D = wait * 2 ^ n - wait
  le : (n : Int) ≤ tries
  going : (n : Int) < tries → st = 0 ∧ er = 0
  over : ¬ (n : Int) < tries → st = 3 ∧ er = 15 ∧ asked = false

abbrev callA (k0 : Int) (s0 : ByteArray) : Array Value := #[.int .i64 k0, .string s0, .slice none 0 0, .int .i64 0, .int .i64 0, .int .i64 0, .int .i64 0]
theorem At.below {w w' : World} {g : Nat} {V : V8} {tries wait : Int} {n : Nat} {D st er : Int} {asked : Bool} (h : At w g V tries wait n D st er asked) (hb : Below w.heap.size w w') : At w' g V tries wait n D st er asked := ⟨h.blk.below hb h.blk.lt, h.due, h.le, h.going, h.over⟩
theorem next_any (w : World) {g : Nat} {V : V8} {tries wait : Int} {n : Nat} {D st er : Int} (h : At w g V tries wait n D st er false) (t : Int) :
    Calls Tryz.prog 10 #[.pointer (some ⟨g, 0, none⟩), .int .i64 t] w fun e w' => ∃ ok k0 s0, e = .returned (.tuple #[.agg (callA k0 s0), .bool ok]) ∧ At w' g V tries wait n D st er ok ∧ (ok = true → (n : Int) < tries ∧ ¬ t < D ∧ k0 = 3) ∧ (ok = false → (n : Int) < tries → t < D) ∧ Only g w w' := by
  have hb := h.blk
  by_cases hn : (n : Int) < tries
  · obtain ⟨rfl, rfl⟩ := h.going hn
    by_cases ht : t < D
    · refine (next_wait w hb t ht).mono ?_
      rintro e w' ⟨rfl, hw⟩
      exact ⟨false, 0, ⟨#[]⟩, rfl, h.below hw, fun h => (by cases h), fun _ _ => ht, Only.of_below hw⟩
    · refine (next_yes w hb t ht).mono ?_
      rintro e w' ⟨rfl, hb', ho⟩
      exact ⟨true, 3, ⟨#[109, 97, 110, 105, 102, 101, 115, 116]⟩, rfl, ⟨hb', h.due, h.le, fun _ => ⟨rfl, rfl⟩, fun hh => absurd hn hh⟩, fun _ => ⟨hn, ht, rfl⟩, fun h => (by cases h), ho⟩
  · obtain ⟨rfl, rfl, _⟩ := h.over hn
    refine (next_done w hb t).mono ?_
    rintro e w' ⟨rfl, hw⟩
    exact ⟨false, 0, ⟨#[]⟩, rfl, h.below hw, fun h => (by cases h), fun _ hh => absurd hh hn, Only.of_below hw⟩
theorem take_any (w : World) {g : Nat} {V : V8} {tries wait : Int} {n : Nat} {D st er : Int} (h : At w g V tries wait n D st er true) (hn : (n : Int) < tries) (h8 : tries ≤ 8) (hw0 : 0 ≤ wait) (hw9 : wait ≤ 20) (h0 : 0 ≤ D) (h9 : D ≤ 3000) :
    Calls Tryz.prog 11 #[.pointer (some ⟨g, 0, none⟩), .agg netReply, .int .i64 D] w fun e w' => ∃ st' er', e = .returned (.int .i64 0) ∧ At w' g V tries wait (n + 1) (D + wait * 2 ^ n) st' er' false ∧ Only g w w' := by
  obtain ⟨rfl, rfl⟩ := h.going hn
  have hp := pw_in hw0 hw9 (n := n) (by omega)
  have hd := h.due
  have hpw := pw wait n
  by_cases ht : tries ≤ (n : Int) + 1
  · refine (take_fail w h.blk D (wait * 2 ^ n) rfl (by omega) hp.1 (by omega) h0 (by omega) 3 15 (Lib.hid fun _ => ⟨rfl, rfl⟩) (Lib.hid fun hh => absurd ht hh)).mono ?_
    rintro e w' ⟨rfl, hb, ho⟩
    exact ⟨3, 15, rfl, ⟨hb, by omega, by omega, fun hh => (by omega), fun _ => ⟨rfl, rfl, rfl⟩⟩, ho⟩
  · refine (take_fail w h.blk D (wait * 2 ^ n) rfl (by omega) hp.1 (by omega) h0 (by omega) 0 0 (Lib.hid fun hh => absurd hh ht) (Lib.hid fun _ => ⟨rfl, rfl⟩)).mono ?_
    rintro e w' ⟨rfl, hb, ho⟩
    exact ⟨0, 0, rfl, ⟨hb, by omega, by omega, fun _ => ⟨rfl, rfl⟩, fun hh => (by omega)⟩, ho⟩

set_option maxRecDepth 100000 in
set_option maxHeartbeats 6400000 in
theorem main_ (w : World) {B : Nat} {x : Ed} {q : Pd} (h : Edi w B x q) (hB : B ≤ w.heap.size) (tries wait : Int) (hw2 : ¬ 20 < wait) :
    Calls Tryz.prog 3 #[edV x q, .int .i64 tries, .int .i64 wait] w fun e w' => e = .returned (.bool true) ∧ Below w.heap.size w w' := by
  have d20 : decide ((20 : Int) < wait) = false := dcf hw2
  have HE := Lib.hid h
  clear h
  have hbk := Blk.new w 28 #[.slice q.AA x.add.length q.cA, .slice q.AD x.drop.length q.cD, .slice q.AM x.marks.length q.cM, .int .i64 x.cut, .int .i64 x.fence, .int .i64 x.by_.agent, .int .i64 x.by_.life, .int .i64 x.by_.count]
  have HBx := Lib.hid hbk
  have HB0 : Hid (Below w.heap.size w (w.alloc (.cells #[.slice q.AA x.add.length q.cA, .slice q.AD x.drop.length q.cD, .slice q.AM x.marks.length q.cM, .int .i64 x.cut, .int .i64 x.fence, .int .i64 x.by_.agent, .int .i64 x.by_.life, .int .i64 x.by_.count] 28))) := Lib.hid ((Below.refl _ _).alloc (Nat.le_refl _) _)
  clear hbk
  go_enter Tryz.func3, Tryz.ntmps3
  go_wp2_with fail
  refine (lives_calls _).mono ?_
  rintro e w1 ⟨rfl, hb1⟩
  have hbk1 := HBx.out.below hb1 HBx.out.lt
  have hb01 := HB0.out.trans (hb1.mono HB0.out.size)
  have HBx1 := Lib.hid hbk1
  have HB1 := Lib.hid hb01
  have z0 := hbk1.cell 0
  have z1 := hbk1.cell 1
  have z2 := hbk1.cell 2
  have z3 := hbk1.cell 3
  have z4 := hbk1.cell 4
  have z5 := hbk1.cell 5
  have z6 := hbk1.cell 6
  have z7 := hbk1.cell 7
  simp only [List.getElem?_toArray, List.getElem?_cons_zero, List.getElem?_cons_succ] at z0 z1 z2 z3 z4 z5 z6 z7
  have HF := Lib.hid (few_calls w1 (HE.out.below (hb01.mono hB)) (by have := hb01.size; omega))
  clear hbk1 hb01 hb1
  go_wp2_with fail
  refine HF.out.mono ?_
  rintro e w2 ⟨b, rfl, hfew, hb2⟩
  have HB2 : Hid (Below w.heap.size w w2) := Lib.hid (HB1.out.trans (hb2.mono HB1.out.size))
  have HBx2 := Lib.hid (HBx1.out.below hb2 HBx1.out.lt)
  clear HF hb2 z0 z1 z2 z3 z4 z5 z6 z7 HBx HB0
  cases b
  · go_wp2_with fail
    refine (lives_calls w2).mono ?_
    rintro e w3 ⟨rfl, hb3⟩
    have HB3 : Hid (Below w.heap.size w w3) := Lib.hid (HB2.out.trans (hb3.mono HB2.out.size))
    clear hb3
    go_wp2
    go_ret
    exact ⟨rfl, HB3.out⟩
  have HFew := Lib.hid (hfew rfl)
  clear hfew
  have hbk1 := HBx2.out
  have z0 := hbk1.cell 0
  have z1 := hbk1.cell 1
  have z2 := hbk1.cell 2
  have z3 := hbk1.cell 3
  have z4 := hbk1.cell 4
  have z5 := hbk1.cell 5
  have z6 := hbk1.cell 6
  have z7 := hbk1.cell 7
  simp only [List.getElem?_toArray, List.getElem?_cons_zero, List.getElem?_cons_succ] at z0 z1 z2 z3 z4 z5 z6 z7
  clear hbk1
  have HE2 := Lib.hid (HE.out.below (HB2.out.mono hB))
  by_cases hbad : tries < 1 ∨ 8 < tries ∨ wait < 0 ∨ 1099511627776 < wait
  · have HN := Lib.hid (new_bad w2 (x := x) (q := q) tries wait hbad)
    go_wp2_with fail
    refine HN.out.mono ?_
    rintro e w3 ⟨rfl, hb3⟩
    have HB3 : Hid (Below w.heap.size w w3) := Lib.hid (HB2.out.trans (hb3.mono HB2.out.size))
    clear hb3
    go_wp2
    go_ret
    exact ⟨rfl, HB3.out⟩
  have ht1 : 1 ≤ tries := by omega
  have ht8 : tries ≤ 8 := by omega
  have hw0 : 0 ≤ wait := by omega
  have hw9 : wait ≤ 20 := by omega
  have HN := Lib.hid (new_calls w2 HE2.out (by have := HB2.out.size; omega) (by have := HFew.out; omega) (by have := HFew.out; omega) (by have := HFew.out; omega) tries wait ht1 ht8 hw0 (by omega))
  clear hbad HE2 HFew HBx1 HBx2 HB1
  go_wp2_with fail
  refine HN.out.mono ?_
  rintro e w3 ⟨g, V, rfl, hg, hbk3, hb3⟩
  have HB3 : Hid (Below w.heap.size w w3) := Lib.hid (HB2.out.trans (hb3.mono HB2.out.size))
  have HG : Hid (w.heap.size ≤ g) := Lib.hid (by have := HB2.out.size; omega)
  have HA : Hid (At w3 g V tries wait 0 0 0 0 false) := Lib.hid ⟨hbk3, by omega, by omega, fun _ => ⟨rfl, rfl⟩, fun hh => absurd (show ((0 : Nat) : Int) < tries by omega) hh⟩
  clear HN hbk3 hb3 hg HB2 z0 z1 z2 z3 z4 z5 z6 z7
  go_wp2
  go_loopw [2, 8, 9, 33] (fun vw vd vn vt wr => ∃ (t n : Nat) (D st er P : Int), t ≤ 3000 ∧ vt = .int .i64 (t : Int) ∧ vn = .int .i64 (n : Int) ∧ vd = .int .i64 D ∧ vw = .int .i64 P ∧ Hid (P = wait * 2 ^ n) ∧ Hid (At wr g V tries wait n D st er false) ∧ Hid ((n : Int) < tries → (t : Int) ≤ D) ∧ Hid (Below w.heap.size w wr)) (fun _ _ _ vt _ => 3000 - (intOf vt).toNat)
  case atStart => exact ⟨0, 0, 0, 0, 0, wait, by omega, rfl, rfl, rfl, rfl, Lib.hid (by simp), HA, Lib.hid fun _ => by omega, HB3⟩
  case round =>
    clear HA HB3
    obtain ⟨t, n, D, st, er, P, ht, rfl, rfl, rfl, rfl, HP, HA, HD, HBr⟩ := hrel
    by_cases hlt : t < 3000
    · have dt : decide ((t : Int) < 3000) = true := dct (by omega)
      have HX := Lib.hid (next_any wr HA.out (t : Int))
      go_wp2_with fail
      refine HX.out.mono ?_
      rintro e w4 ⟨ok, k0, s0, rfl, hat4, hok, hno, ho4⟩
      have HB4 : Hid (Below w.heap.size w w4) := Lib.hid (HBr.out.trans (ho4.below HG.out HBr.out.size))
      have HA4 : Hid (At (w4.alloc (.cells (callA k0 s0) 35)) g V tries wait n D st er ok) := Lib.hid (hat4.below ((Below.refl _ _).alloc (Nat.le_refl _) _))
      have hx4 := Blk.new w4 35 (callA k0 s0)
      have hgx : w.heap.size ≤ w4.heap.size := HB4.out.size
      have HB5 : Hid (Below w.heap.size w (w4.alloc (.cells (callA k0 s0) 35))) := Lib.hid (HB4.out.alloc hgx _)
      obtain ⟨gx, hgxe⟩ : ∃ gx, gx = w4.heap.size := ⟨_, rfl⟩
      have HGX : Hid (w.heap.size ≤ gx) := Lib.hid (by omega)
      have HX4 : Hid (Blk (w4.alloc (.cells (callA k0 s0) 35)) gx 35 (callA k0 s0)) := Lib.hid (by rw [hgxe]; exact hx4)
      have HOk : Hid (ok = true → (n : Int) < tries ∧ D = (t : Int) ∧ k0 = 3) := Lib.hid fun hh => by
        obtain ⟨a, b, c⟩ := hok hh
        have := HD.out a
        exact ⟨a, by omega, c⟩
      have HNo := Lib.hid hno
      clear HX hat4 hok hno ho4 HB4 hx4 hgx HA HBr HD
      go_wp2
      rw [← hgxe]
      clear hgxe
      generalize w4.alloc (.cells (callA k0 s0) 35) = w5 at *
      go_loopw [2, 8, 9, 12] (fun vw vd vn vo wr => ∃ (n : Nat) (D st er P k0 : Int) (s0 : ByteArray) (ok : Bool), vw = .int .i64 P ∧ vd = .int .i64 D ∧ vn = .int .i64 (n : Int) ∧ vo = .bool ok ∧ Hid (P = wait * 2 ^ n) ∧ Hid (At wr g V tries wait n D st er ok) ∧ Hid (Blk wr gx 35 (callA k0 s0)) ∧ Hid (ok = true → (n : Int) < tries ∧ D = (t : Int) ∧ k0 = 3) ∧ Hid (ok = false → (n : Int) < tries → (t : Int) < D) ∧ Hid (Below w.heap.size w wr)) (fun _ _ vn _ _ => tries.toNat - (intOf vn).toNat)
      case atStart => exact ⟨n, D, st, er, P, k0, s0, ok, rfl, rfl, rfl, rfl, HP, HA4, HX4, HOk, HNo, HB5⟩
      case round =>
        clear HP HA4 HX4 HOk HNo HB5
        obtain ⟨n, D, st, er, P, k0, s0, ok, rfl, rfl, rfl, rfl, HP, HA, HX, HOk, HNo, HBr⟩ := hrel
        cases ok
        · have HD : Hid ((n : Int) < tries → ((t + 1 : Nat) : Int) ≤ D) := Lib.hid fun hh => by have := HNo.out rfl hh; omega
          go_wp2
          go_roundw
          case rel => exact ⟨t + 1, n, D, st, er, P, by omega, by go_num, rfl, rfl, rfl, HP, HA, HD, HBr⟩
          case measure => simp [intOf]; omega
        · obtain ⟨hn, rfl, rfl⟩ := HOk.out rfl
          have hn8 : n ≤ 7 := by omega
          have hp := pw_in hw0 hw9 hn8
          rw [← HP.out] at hp
          have n1 : ((t : Int) != (t : Int)) = false := nef rfl
          have c0 := HX.out.cell 0
          simp only [List.getElem?_toArray, List.getElem?_cons_zero, List.getElem?_cons_succ] at c0
          have e1 : IntKind.i64.wrap ((n : Int) + 1) = (n : Int) + 1 := IntWalk.i64_in _ (by omega)
          have HT := Lib.hid (take_any wr HA.out hn ht8 hw0 hw9 (by omega) (by omega))
          have HPd : Hid (((t : Int) + wait * 2 ^ n) = (t : Int) + P) := Lib.hid (by rw [HP.out])
          rw [HPd.out] at HT
          have hne : gx ≠ g := HX.out.ne_ HA.out.blk (by decide)
          have HNe := Lib.hid hne
          clear hne
          go_wp2_with fail
          refine HT.out.mono ?_
          rintro e w6 ⟨st', er', rfl, hat6, ho6⟩
          have HX6 := Lib.hid (ho6.blk HX.out HNe.out)
          have HB6 : Hid (Below w.heap.size w w6) := Lib.hid (HBr.out.trans (ho6.below HG.out HBr.out.size))
          have HN6 := Lib.hid (next_any w6 hat6 (t : Int))
          have e2 : IntKind.i64.wrap ((t : Int) + P) = (t : Int) + P := IntWalk.i64_in _ (by omega)
          have e3 : IntKind.i64.wrap (2 * P) = 2 * P := IntWalk.i64_in _ (by omega)
          have HD6 := Lib.hid hat6.due
          have hpw := pw wait n
          have HP6 : Hid (2 * P = wait * 2 ^ (n + 1)) := Lib.hid (by rw [HP.out]; exact hpw.symm)
          clear hat6 ho6 HT HX HA c0 hpw
          go_wp2_with fail
          refine HN6.out.mono ?_
          rintro e w7 ⟨ok', k1, s1, rfl, hat7, hok7, hno7, ho7⟩
          have hx7 := ho7.blk HX6.out HNe.out
          have HB7 : Hid (Below w.heap.size w w7) := Lib.hid (HB6.out.trans (ho7.below HG.out HB6.out.size))
          have q0 := hx7.cell 0
          have q1 := hx7.cell 1
          have q2 := hx7.cell 2
          have q3 := hx7.cell 3
          have q4 := hx7.cell 4
          have q5 := hx7.cell 5
          have q6 := hx7.cell 6
          have r0 := hx7.frozen 0
          have r1 := hx7.frozen 1
          have r2 := hx7.frozen 2
          have r3 := hx7.frozen 3
          have r4 := hx7.frozen 4
          have r5 := hx7.frozen 5
          have r6 := hx7.frozen 6
          simp only [List.getElem?_toArray, List.getElem?_cons_zero, List.getElem?_cons_succ] at q0 q1 q2 q3 q4 q5 q6
          have HX7 := Lib.hid hx7
          have HA7 := Lib.hid hat7
          have HOk7 := Lib.hid hok7
          have HNo7 := Lib.hid hno7
          clear hx7 hat7 hok7 hno7 ho7 HN6 HX6 HB6
          have HA8 : Hid (At (set7 w7 gx (.int .i64 k1) (.string s1) (.slice none 0 0) (.int .i64 0) (.int .i64 0) (.int .i64 0) (.int .i64 0)) g V tries wait (n + 1) ((t : Int) + P) st' er' ok') := Lib.hid ⟨set7_far HA7.out.blk (by have := HNe.out; omega) _ _ _ _ _ _ _, HA7.out.due, HA7.out.le, HA7.out.going, HA7.out.over⟩
          have HX8 := Lib.hid (set7_blk HX7.out (.int .i64 k1) (.string s1) (.slice none 0 0) (.int .i64 0) (.int .i64 0) (.int .i64 0) (.int .i64 0))
          have HB8 := Lib.hid (set7_below HB7.out HGX.out (.int .i64 k1) (.string s1) (.slice none 0 0) (.int .i64 0) (.int .i64 0) (.int .i64 0) (.int .i64 0))
          have HOk8 : Hid (ok' = true → ((n + 1 : Nat) : Int) < tries ∧ (t : Int) + P = (t : Int) ∧ k1 = 3) := Lib.hid fun hh => by
            obtain ⟨a, b, c⟩ := HOk7.out hh
            exact ⟨a, by omega, c⟩
          go_wp2
          go_roundw
          case rel => exact ⟨n + 1, (t : Int) + P, st', er', 2 * P, k1, s1, ok', rfl, rfl, by go_num, rfl, HP6, HA8, HX8, HOk8, HNo7, HB8⟩
          case measure => simp [intOf]; omega
    · obtain rfl : t = 3000 := by omega
      have dt : decide (((3000 : Nat) : Int) < 3000) = false := rfl
      have hover : st = 3 ∧ er = 15 ∧ (n : Int) = tries := by
        have hle := HA.out.le
        by_cases hh : (n : Int) < tries
        · exfalso
          have h1 := HD.out hh
          have h2 := HA.out.due
          have h3 := pw_in hw0 hw9 (n := n) (by omega)
          omega
        · obtain ⟨a, b, _⟩ := HA.out.over hh
          exact ⟨a, b, by omega⟩
      obtain ⟨rfl, rfl, hnt⟩ := hover
      have HS := Lib.hid (state_calls wr HA.out.blk)
      have e1 : ((n : Int) == tries) = true := eqt hnt
      clear hnt HA HD
      go_wp2_with fail
      refine HS.out.mono ?_
      rintro e w9 ⟨rfl, hb9⟩
      have HB9 : Hid (Below w.heap.size w w9) := Lib.hid (HBr.out.trans (hb9.mono HBr.out.size))
      clear hb9
      go_wp2
      go_ret
      exact ⟨rfl, HB9.out⟩
set_option maxRecDepth 100000 in
set_option maxHeartbeats 3200000 in
theorem wide (w : World) {B : Nat} {x : Ed} {q : Pd} (h : Edi w B x q) (hB : B ≤ w.heap.size) (tries wait : Int) (hw2 : 20 < wait) :
    Calls Tryz.prog 3 #[edV x q, .int .i64 tries, .int .i64 wait] w fun e w' => e = .returned (.bool true) ∧ Below w.heap.size w w' := by
  have d20 : decide ((20 : Int) < wait) = true := dct hw2
  have HE := Lib.hid h
  clear h
  have hbk := Blk.new w 28 #[.slice q.AA x.add.length q.cA, .slice q.AD x.drop.length q.cD, .slice q.AM x.marks.length q.cM, .int .i64 x.cut, .int .i64 x.fence, .int .i64 x.by_.agent, .int .i64 x.by_.life, .int .i64 x.by_.count]
  have HBx := Lib.hid hbk
  have HB0 : Hid (Below w.heap.size w (w.alloc (.cells #[.slice q.AA x.add.length q.cA, .slice q.AD x.drop.length q.cD, .slice q.AM x.marks.length q.cM, .int .i64 x.cut, .int .i64 x.fence, .int .i64 x.by_.agent, .int .i64 x.by_.life, .int .i64 x.by_.count] 28))) := Lib.hid ((Below.refl _ _).alloc (Nat.le_refl _) _)
  clear hbk
  go_enter Tryz.func3, Tryz.ntmps3
  go_wp2_with fail
  refine (lives_calls _).mono ?_
  rintro e w1 ⟨rfl, hb1⟩
  have hbk1 := HBx.out.below hb1 HBx.out.lt
  have hb01 := HB0.out.trans (hb1.mono HB0.out.size)
  have HB1 := Lib.hid hb01
  have z0 := hbk1.cell 0
  have z1 := hbk1.cell 1
  have z2 := hbk1.cell 2
  have z3 := hbk1.cell 3
  have z4 := hbk1.cell 4
  have z5 := hbk1.cell 5
  have z6 := hbk1.cell 6
  have z7 := hbk1.cell 7
  simp only [List.getElem?_toArray, List.getElem?_cons_zero, List.getElem?_cons_succ] at z0 z1 z2 z3 z4 z5 z6 z7
  have HF := Lib.hid (few_calls w1 (HE.out.below (hb01.mono hB)) (by have := hb01.size; omega))
  clear hbk1 hb01 hb1
  go_wp2_with fail
  refine HF.out.mono ?_
  rintro e w2 ⟨b, rfl, -, hb2⟩
  have HB2 : Hid (Below w.heap.size w w2) := Lib.hid (HB1.out.trans (hb2.mono HB1.out.size))
  clear HF hb2 z0 z1 z2 z3 z4 z5 z6 z7 HBx HB0
  cases b
  · go_wp2_with fail
    refine (lives_calls w2).mono ?_
    rintro e w3 ⟨rfl, hb3⟩
    have HB3 : Hid (Below w.heap.size w w3) := Lib.hid (HB2.out.trans (hb3.mono HB2.out.size))
    clear hb3
    go_wp2
    go_ret
    exact ⟨rfl, HB3.out⟩
  · go_wp2_with fail
    refine (lives_calls w2).mono ?_
    rintro e w3 ⟨rfl, hb3⟩
    have HB3 : Hid (Below w.heap.size w w3) := Lib.hid (HB2.out.trans (hb3.mono HB2.out.size))
    clear hb3
    go_wp2
    go_ret
    exact ⟨rfl, HB3.out⟩

theorem walk {H : Type} {enc : TypeId × Value → H} {W : World} {base : Nat} {v0 v1 v2 : Value} {d0 d1 d2 : DataW H} {p0 p1 p2 : List MemPlace} (g0 : Arg enc Tryz.prog W base 28 v0 d0 p0) (g1 : Arg enc Tryz.prog W base 3 v1 d1 p1) (g2 : Arg enc Tryz.prog W base 3 v2 d2 p2) :
    Calls Tryz.prog 3 #[v0, v1, v2] W fun e w' => e = .returned (.bool true) ∧ Below W.heap.size W w' := by
  obtain ⟨x, q, rfl, hE⟩ := arg_edit g0
  obtain ⟨tries, rfl, -, _⟩ := g1.int Tryz.underlying3
  obtain ⟨wait, rfl, -, _⟩ := g2.int Tryz.underlying3
  by_cases hw : 20 < wait
  · exact wide W hE (Nat.le_refl _) tries wait hw
  · exact main_ W hE (Nat.le_refl _) tries wait hw
end Go.Proofs.YtibnehaibgbliaaGreat.lawCommitPaces
