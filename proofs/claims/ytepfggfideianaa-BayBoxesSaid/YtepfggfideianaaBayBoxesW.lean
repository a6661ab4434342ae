/- The walk of BayBoxes: whatever is put into a box and taken out of it, each answer is the document's. -/
import Derived.Test.YtepfggfideianaaBayC
import Derived.Test.YtepfggfideianaaActArg
namespace Go.Proofs.Ytepfggfideianaa.lawBayBoxes
open Go.RowKit Go.Conc

set_option maxRecDepth 100000 in
set_option maxHeartbeats 4000000 in
theorem body (w : World) (room : Int) {A2 : Option Addr} {c2 : Nat} {q : List (Int × Int)} (hq : Pairs w w.heap.size A2 q) (hq63 : q.length ≤ 9223372036854775807) :
    Calls Try.prog 4 #[.int .i64 room, .slice A2 q.length c2] w fun e w' => e = .returned (.bool true) ∧ Below w.heap.size w w' := by
  by_cases hr : room < 1 ∨ 2048 < room
  · have hnew := Lib.hid (new_bad w room hr)
    have hr' : room < 1 ∨ (¬ room < 1 ∧ 2048 < room) := by omega
    clear hr
    rcases hr' with hr | ⟨hr, hr2⟩
    all_goals
      by_cases hlong : 300 < q.length
      · go_enter Try.func4, Try.ntmps4
        go_wp2_with fail
        refine hnew.out.mono ?_
        rintro e w' ⟨rfl, rfl⟩
        go_wp2_with fail
        refine (lives_calls w).mono ?_
        rintro e w1 ⟨rfl, hbel1⟩
        go_wp2_with fail
        refine (lives_calls w1).mono ?_
        rintro e w2 ⟨rfl, hbel2⟩
        go_wp2
        go_ret
        exact ⟨rfl, hbel1.trans (hbel2.mono hbel1.size)⟩
      · go_enter Try.func4, Try.ntmps4
        go_wp2_with fail
        refine hnew.out.mono ?_
        rintro e w' ⟨rfl, rfl⟩
        go_wp2_with fail
        refine (lives_calls w).mono ?_
        rintro e w1 ⟨rfl, hbel1⟩
        go_wp2_with fail
        refine (take_nil w1).mono ?_
        rintro e w' ⟨rfl, rfl⟩
        go_wp2_with fail
        refine (put_nil _ w1).mono ?_
        rintro e w' ⟨rfl, rfl⟩
        go_wp2_with fail
        refine (len_nil w1).mono ?_
        rintro e w' ⟨rfl, rfl⟩
        go_wp2_with fail
        refine (room_nil w1).mono ?_
        rintro e w' ⟨rfl, rfl⟩
        go_wp2_with fail
        refine (drain_nil w1).mono ?_
        rintro e w' ⟨rfl, rfl⟩
        go_wp2
        go_ret
        exact ⟨rfl, hbel1⟩
  · obtain ⟨R, rfl⟩ := Int.eq_ofNat_of_zero_le (show 0 ≤ room by omega)
    have r1 : ¬ (R : Int) < 1 := by omega
    have r2 : ¬ 2048 < (R : Int) := by omega
    have r3 : R ≤ 2048 := by omega
    have d1 : decide ((R : Int) < 1) = false := dcf r1
    have d2 : decide (2048 < (R : Int)) = false := dcf r2
    have hnew := Lib.hid (new_ok w R (by omega) r3)
    clear hr
    by_cases hlong : 300 < q.length
    · go_enter Try.func4, Try.ntmps4
      go_wp2_with fail
      refine hnew.out.mono ?_
      rintro e w1 ⟨rfl, hb1, hc1, hbel1⟩
      go_wp2_with fail
      refine (lives_calls w1).mono ?_
      rintro e w2 ⟨rfl, hbel2⟩
      go_wp2_with fail
      refine (lives_calls w2).mono ?_
      rintro e w3 ⟨rfl, hbel3⟩
      go_wp2
      go_ret
      exact ⟨rfl, hbel1.trans ((hbel2.trans (hbel3.mono hbel2.size)).mono hbel1.size)⟩
    · go_enter Try.func4, Try.ntmps4
      go_wp2_with fail
      refine hnew.out.mono ?_
      rintro e w1 ⟨rfl, hb1, hc1, hbel1⟩
      go_wp2_with fail
      refine (lives_calls w1).mono ?_
      rintro e w2 ⟨rfl, hbel2⟩
      have hb2 := hb1.below hbel2 hb1.lt
      have hc2 := hc1.below hbel2 hc1.lt
      have hs1 := hbel1.size
      have hbel := hbel1.trans (hbel2.mono hs1)
      have hgb0 : w.heap.size ≤ w.heap.size + 1 := by omega
      clear hnew hb1 hc1 hbel1 hbel2
      go_wp2_with fail
      have hax := (Below.refl w2.heap.size w2).alloc (Nat.le_refl _) (.cells #[.slice none 0 0, .int .i64 (R : Int)] 37)
      have hb3 := hb2.below hax hb2.lt
      have hc3 := hc2.below hax hc2.lt
      have hR3 : RBox (w2.alloc (.cells #[.slice none 0 0, .int .i64 (R : Int)] 37)) w2.heap.size R [] := ⟨none, 0, Blk.new _ _ _, Nat.le_refl _, by simp [maxLen], I64s.nil_, by simp⟩
      have hbel3 := hbel.alloc hbel.size (.cells #[.slice none 0 0, .int .i64 (R : Int)] 37)
      have hgw0 := hbel.size
      clear hax hb2 hc2 hbel
      generalize w2.alloc (.cells #[.slice none 0 0, .int .i64 (R : Int)] 37) = W0 at *
      generalize w2.heap.size = gw at *
      generalize w.heap.size + 1 = gb at *
      have hgc0 : w.heap.size ≤ w.heap.size := Nat.le_refl _
      generalize hgC : w.heap.size = gc at hb3 hc3
      have hgc1 : w.heap.size ≤ gc := by omega
      have HgC := Lib.hid hgC
      clear hgC hgc0
      have hneT : ∀ (wx : World) (cs cs' : Array Value), Blk wx gb 64 cs → Blk wx gw 37 cs' → gb ≠ gw := fun wx cs cs' h1 h2 => h1.ne_ h2 (by decide)
      have HneT := Lib.hid hneT
      clear hneT
      go_loopw [82] (fun i wr => ∃ (k : Nat) (l : List Int), k ≤ q.length ∧ i = .int .i64 (k : Int) ∧ Blk wr gb 64 #[.chan (some gc)] ∧ Ch wr gc R l ∧ RBox wr gw R l ∧ l.length ≤ R ∧ Below w.heap.size w wr) (fun i _ => q.length - (intOf i).toNat)
      case atStart => exact ⟨0, [], Nat.zero_le _, rfl, hb3, hc3, hR3, by simp, hbel3⟩
      case round =>
        obtain ⟨j, l, hj, rfl, hb, hc, hR, hlR, hbe⟩ := hrel
        clear hb3 hc3 hR3 hbel3
        have sbe := hbe.size
        by_cases hltq : j < q.length
        · obtain ⟨b, off, rfl, hbB, hcell⟩ := (hq.below hbe) (by omega)
          obtain ⟨x0, x1⟩ := hcell j hltq
          clear hcell
          generalize q[j] = x at *
          obtain ⟨kind, n⟩ := x
          simp only at x0 x1
          have hj0 : (j : Int) < (q.length : Int) := by omega
          have hgx : wr.heap.size ≠ gc := by have := hc.lt; omega
          have hgx2 : wr.heap.size ≠ gw := by have := hR.lt; omega
          have Hgx := Lib.hid (And.intro hgx hgx2)
          clear hgx hgx2
          go_upto_block 2 with fail
          go_cut [11] (fun s wx => ∃ l' : List Int, Blk wx gb 64 #[.chan (some gc)] ∧ Ch wx gc R l' ∧ RBox wx gw R l' ∧ l'.length ≤ R ∧ Below w.heap.size w wx)
          case first =>
            have hax := (Below.refl wr.heap.size wr).alloc (Nat.le_refl _) (.cells #[.int .i64 kind, .int .i64 n] 39)
            have hb1 := hb.below hax hb.lt
            have hc1 := hc.below hax hc.lt
            have hR1 := hR.below hax (Nat.le_refl _)
            have hbx := Blk.new wr 39 #[.int .i64 kind, .int .i64 n]
            have hbe1 := hbe.trans (hax.mono sbe)
            have x3 := hbx.cell 1
            have hgwl := hR1.lt
            have hgcl := hc1.lt
            have Hbc := Lib.hid (blk_ne_ch hb1 hc1)
            obtain ⟨Aq, cq, hBq, _, _, hIq, hNq⟩ := hR1
            have Hbw := Lib.hid (HneT.out _ _ _ hb1 hBq)
            have Hwc := Lib.hid (blk_ne_ch hBq hc1)
            have hR1 : RBox (wr.alloc (.cells #[.int .i64 kind, .int .i64 n] 39)) gw R l := ⟨Aq, cq, hBq, by assumption, by assumption, hIq, hNq⟩
            clear x0 x1 hax hb hc hR
            by_cases k0 : (kind == 0) = true
            · clear hBq hIq hNq
              by_cases hfull : l.length < R
              · go_wp2_with fail
                go_region_held3 (fun w' => w'.cell? ⟨wr.heap.size, 1, none⟩ = some (.int .i64 n)) (go_keep) (first | (go_at_call 9; refine (put_ok _ n (hb1.drewN 1) (hc1.drewN 1) hfull).mono ?_; rintro en w3 ⟨rfl, hc3, ho3⟩; have hb3 := ho3.blk (hb1.drewN 1) Hbc.out; have hR3 := (hR1.drewN 1).chan ho3 (hc1.drewN 1); have x4 : w3.cell? ⟨wr.heap.size, 1, none⟩ = some (.int .i64 n) := (ho3.blk (hbx.drewN 1) Hgx.out.1).cell 1) | (go_at_call 15; refine (rput_ok _ n hR3 hfull r3).mono ?_; rintro en w4 ⟨rfl, hR4, ho4⟩; have hb4 := ho4.blk hb3 Hbw.out; have hc4 := hc3.only ho4 (fun e => Hwc.out e.symm); have x5 : w4.cell? ⟨wr.heap.size, 1, none⟩ = some (.int .i64 n) := (ho4.blk (ho3.blk (hbx.drewN 1) Hgx.out.1) Hgx.out.2).cell 1))
                have hbe4 := ((below_drewN_ hbe1 1).trans (ho3.below hgc1 hbe1.size)).trans (ho4.below hgw0 (Nat.le_trans hbe1.size ho3.size))
                go_wp2
                go_meet
                case rel => exact ⟨_, hb4, hc4, hR4, by simp; omega, hbe4⟩
              · go_wp2_with fail
                go_region_held3 (fun w' => w'.cell? ⟨wr.heap.size, 1, none⟩ = some (.int .i64 n)) (go_keep) (first | (go_at_call 9; refine (put_full _ n (hb1.drewN 1) (hc1.drewN 1) (by omega)).mono ?_; rintro en w3 ⟨rfl, rfl⟩) | (go_at_call 15; refine (rput_full _ n (hR1.drewN 1) (by omega)).mono ?_; rintro en w4 ⟨rfl, n4, rfl⟩))
                go_wp2
                go_meet
                case rel => exact ⟨l, hb1.drewN _, hc1.drewN _, hR1.drewN _, hlR, below_drewN_ hbe1 _⟩
            · have k0 : (kind == 0) = false := by simpa using k0
              by_cases k1 : (kind == 1) = true
              · clear hBq hIq hNq
                rcases l with _ | ⟨y, l⟩
                · go_wp2_with fail
                  refine (take_empty _ hb1 hc1).mono ?_
                  rintro en w' ⟨rfl, rfl⟩
                  go_wp2_with fail
                  refine (rtake_empty _ hR1).mono ?_
                  rintro en w' ⟨rfl, rfl⟩
                  go_wp2
                  go_meet
                  case rel => exact ⟨[], hb1, hc1, hR1, hlR, hbe1⟩
                · have hlR2 : l.length ≤ 2048 := by simp at hlR; omega
                  have hlR3 : l.length ≤ R := by simp at hlR; omega
                  go_wp2_with fail
                  refine (take_ok _ hb1 hc1).mono ?_
                  rintro en w3 ⟨rfl, hc3, ho3⟩
                  have hb3 := ho3.blk hb1 Hbc.out
                  have hR3 := hR1.chan ho3 hc1
                  go_wp2_with fail
                  refine (rtake_ok _ hR3 hlR2).mono ?_
                  rintro en w4 ⟨rfl, hR4, ho4⟩
                  have hb4 := ho4.blk hb3 Hbw.out
                  have hc4 := hc3.only ho4 (fun e => Hwc.out e.symm)
                  have hbe4 := (hbe1.trans (ho3.below hgc1 hbe1.size)).trans (ho4.below hgw0 (Nat.le_trans hbe1.size ho3.size))
                  go_wp2
                  go_meet
                  case rel => exact ⟨l, hb4, hc4, hR4, hlR3, hbe4⟩
              · have k1 : (kind == 1) = false := by simpa using k1
                have y0 := hBq.cell 0
                simp only [List.getElem?_toArray, List.getElem?_cons_zero] at y0
                have hll : (l == l) = true := beq_self_eq_true _
                have hlm : l.length ≤ 2048 := by omega
                go_wp2_with fail
                go_region_held3 (fun w' => w'.cell? ⟨gw, 0, none⟩ = some (.slice Aq l.length cq)) (go_keep) (first | (go_at_call 14; refine (drain_calls _ (hb1.drewN 1) (hc1.drewN 1) hlm).mono ?_; rintro en w3 ⟨v3, rfl, hown3, hc3, ho3⟩; obtain ⟨A3, c3, rfl, _, _, hr3⟩ := own_slice hown3; have hb3 := ho3.blk (hb1.drewN 1) Hbc.out; have hB3 := ho3.blk (hBq.drewN 1) Hwc.out; have hI3 := I64s.only_ch (w := (wr.alloc (.cells #[.int .i64 kind, .int .i64 n] 39)).drewN 1) hIq ho3 (Nat.le_refl _) (hc1.drewN 1); have x4 : w3.cell? ⟨gw, 0, none⟩ = some (.slice Aq l.length cq) := hB3.cell 0) | (go_at_call 17; refine (same12_calls _ (show I64s w3 w3.heap.size A3 l from hr3) hI3 (by omega)).mono ?_; rintro en w4 ⟨rfl, n4, rfl⟩))
                have hbe4 := (below_drewN_ hbe1 1).trans (ho3.below hgc1 hbe1.size)
                have f0 := hB3.frozen 0
                have y1 := hB3.cell 0
                simp only [List.getElem?_toArray, List.getElem?_cons_zero] at y1
                go_wp2
                go_meet
                case rel => exact ⟨[], (hb3.drewN _).far Hbw.out _, (Ch.drewN hc3 _).only ((Only.refl gw _).setCell (.inl rfl) _) (fun e => Hwc.out e.symm), ⟨none, 0, (hB3.drewN _).set_ 0 _, Nat.le_refl _, by simp [maxLen], I64s.nil_, by simp⟩, by simp, (below_drewN_ hbe4 _).setCell hgw0 _⟩
          case rest =>
            obtain ⟨l', hb2, hc2, hR2, hlR2, hbe2⟩ := hcut
            clear hb hc hR hbe x0 x1 hlR
            obtain ⟨Aq, cq, hBq, z1, z2, hIq, hNq⟩ := hR2
            have y0 := hBq.cell 0
            simp only [List.getElem?_toArray, List.getElem?_cons_zero] at y0
            have e1 : IntKind.i64.wrap ((R : Int) - (l'.length : Int)) = (R : Int) - (l'.length : Int) := by rw [IntKind.wrap_i64]; omega
            go_wp2_with fail
            go_region_held3 (fun w' => w'.cell? ⟨gw, 0, none⟩ = some (.slice Aq l'.length cq)) (go_keep) (first | (go_at_call 12; refine (len_calls _ (hb2.drewN 1) (hc2.drewN 1)).mono ?_; rintro en w3 ⟨rfl, rfl⟩) | (go_at_call 13; refine (room_calls _ (hb2.drewN 1) (hc2.drewN 1) hlR2 r3).mono ?_; rintro en w3 ⟨rfl, n3, rfl⟩))
            clear e1
            go_wp2
            go_roundw
            case rel => exact ⟨j + 1, l', by omega, by go_num, hb2.drewN _, hc2.drewN _, ⟨Aq, cq, hBq.drewN _, z1, z2, hIq, hNq⟩, hlR2, below_drewN_ hbe2 _⟩
            case measure => simp [intOf]; omega
        · have hj0 : ¬ (j : Int) < (q.length : Int) := by omega
          go_wp2
          go_ret
          exact ⟨rfl, hbe⟩

theorem walk {H : Type} {enc : TypeId × Value → H} {W : World} {base : Nat} {v0 v1 : Value} {d0 d1 : DataW H} {p0 p1 : List MemPlace} (g0 : Arg enc Try.prog W base 3 v0 d0 p0) (g1 : Arg enc Try.prog W base 30 v1 d1 p1) :
    Calls Try.prog 4 #[v0, v1] W fun e w' => e = .returned (.bool true) ∧ Below W.heap.size W w' := by
  obtain ⟨x, rfl, -, -⟩ := g0.int Try.underlying3
  obtain ⟨A2, c2, q, rfl, hq1, hq2, hq3, -⟩ := arg_acts g1
  exact body W x hq3 (by unfold maxLen at hq2; omega)
end Go.Proofs.Ytepfggfideianaa.lawBayBoxes
