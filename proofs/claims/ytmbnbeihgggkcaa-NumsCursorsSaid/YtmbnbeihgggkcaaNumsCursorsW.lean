/- The walk of NumsCursors: whatever is read by a cursor, one behind the other, it answers as the document says, its place and its end too. -/
import Derived.Test.YtmbnbeihgggkcaaCurR
import Derived.Test.YtmbnbeihgggkcaaReadArg
namespace Go.Proofs.Ytmbnbeihgggkcaa.lawNumsCursors
open Go.RowKit

set_option maxRecDepth 100000 in
set_option maxHeartbeats 2000000 in
theorem body (w : World) {A : Option Addr} {c : Nat} {l : List UInt8} {A2 : Option Addr} {c2 : Nat} {q : List (Int × Int)} (hb : Bytes w w.heap.size A l.length l) (hc : l.length ≤ c) (hcm : c ≤ 140737488351232)
    (hq : Pairs w w.heap.size A2 q) (hqm : ∀ x ∈ q, x.2 ≤ 9223372036854775807) (hq63 : q.length ≤ 9223372036854775807) :
    Calls Try.prog 9 #[.slice A l.length c, .slice A2 q.length c2] w fun e w' => e = .returned (.bool true) ∧ Below w.heap.size w w' := by
  go_enter Try.func9, Try.ntmps9
  go_wp2_with fail
  refine (twin_calls _ hb (Nat.le_refl _) (by omega)).mono ?_
  rintro e w1 h
  obtain ⟨A3, c3, rfl, hc3, hm3, hb3, hbel1, hown3⟩ := h.opened
  clear h
  go_wp2_with fail
  refine (new_full _ hb3 (Nat.le_refl _) (by omega)).mono ?_
  rintro e w2 ⟨g1, A4, c4, rfl, hblk, hc4, hm4, hown4, hb4, hbel2, hg1⟩
  have s1 := hbel1.size
  have b2 : Below w.heap.size w w2 := hbel1.trans (hbel2.mono s1)
  by_cases hlong : 300 < q.length
  · go_wp2
    go_ret
    exact ⟨rfl, b2⟩
  · have hd3 : (0 < l.length → ∃ g3, A3 = some ⟨g3, 0, none⟩ ∧ w.heap.size ≤ g3 ∧ g3 < w1.heap.size) := fun hp => by
      obtain ⟨g3, cap, hv, h1, h2⟩ := hown3.form hp
      exact ⟨g3, by injection hv, h1, h2⟩
    have Hd3 := Lib.hid hd3
    have hown3' := own_below hown3 hbel2
    clear hd3 hown3 hb3
    go_wp2_with fail
    go_loopw [28] (fun i wr => ∃ k : Nat, k ≤ l.length ∧ i = .int .i64 (k : Int) ∧ Hid (∃ xs, wr.ownsRow w.heap.size 5 1 (.slice A3 l.length c3) l.length xs) ∧ wr.ownsRow w1.heap.size 5 1 (.slice A4 l.length c4) l.length (l.map byteV) ∧
        Blk wr g1 59 #[.slice A4 l.length c4, .int .i64 0, .int .i64 0] ∧ Below w.heap.size w wr) (fun i _ => l.length - (intOf i).toNat)
    case atStart => exact ⟨0, Nat.zero_le _, rfl, ⟨_, hown3'⟩, hown4, hblk, b2⟩
    case round =>
      obtain ⟨k, hk, rfl, hox, hdata, hbk, hbe⟩ := hrel
      by_cases hlt : k < l.length
      · obtain ⟨g3, rfl, hg3, hg3'⟩ := Hd3.out (by omega)
        obtain ⟨xs, hox⟩ := hox.out
        have hxl : k < xs.length := by rw [hox.1]; omega
        have hcell := hox.cellAt k (by omega)
        rw [List.getElem?_eq_getElem hxl] at hcell
        have hfr := hox.frozenAt k
        have hox2 : Hid (∃ xs, (_root_.Go.World.setCell _ ⟨g3, k, none⟩ (.int .u8 77)).ownsRow w.heap.size 5 1 (.slice (some ⟨g3, 0, none⟩) l.length c3) l.length xs) := ⟨_, (hox.stored k (.int .u8 77)).1⟩
        have hdata2 := Lib.hid (ownsRow_setCell_below hdata (a := ⟨g3, k, none⟩) hg3' (.int .u8 77))
        have hbk2 := hbk.far (p := ⟨g3, k, none⟩) (by show g1 ≠ g3; omega) (.int .u8 77)
        have hbe2 := hbe.setCell (p := ⟨g3, k, none⟩) hg3 (.int .u8 77)
        have hk0 : (k : Int) < (l.length : Int) := by omega
        generalize xs[k] = old at *
        clear hdata hox
        go_wp2
        go_roundw
        case rel => exact ⟨k + 1, by omega, by go_num, hox2, hdata2.out, hbk2, hbe2⟩
        case measure => simp [intOf]; omega
      · have hbd := (Bytes.of (Reads.of_own hdata)).bound hb4
        have hcP : Cur 59 wr g1 g1 l 0 0 := ⟨A4, c4, hbk, hc4, hm4, ⟨hbd, Nat.le_refl _⟩, Nat.zero_le _⟩
        have hg12 := hbk.lt
        have sbe := hbe.size
        clear hbd hbk hdata hox hblk hown4 hb4
        go_wp2_with fail
        have hcP2 := hcP.below ((Below.refl _ _).alloc (Nat.le_refl _) (.cells #[.slice A l.length c, .int .i64 0, .int .i64 0] 49))
        have hbe2 := hbe.alloc sbe (.cells #[.slice A l.length c, .int .i64 0, .int .i64 0] 49)
        have hcR2 : Cur 49 (wr.alloc (.cells #[.slice A l.length c, .int .i64 0, .int .i64 0] 49)) wr.heap.size w.heap.size l 0 0 := ⟨A, c, Blk.new _ _ _, hc, by unfold maxLen; omega, ⟨hb.below hbe2, sbe⟩, Nat.zero_le _⟩
        obtain ⟨g2, hg2⟩ : ∃ g2, g2 = wr.heap.size := ⟨_, rfl⟩
        rw [← hg2] at hcR2 hg12 ⊢
        have hHg : w.heap.size ≤ g2 := by omega
        clear hg2 hcP hbe sbe hbel1 hbel2 b2
        generalize wr.alloc (.cells #[.slice A l.length c, .int .i64 0, .int .i64 0] 49) = W0 at *
        have hne12 : g1 ≠ g2 := by omega
        have hne21 : g2 ≠ g1 := by omega
        have hHg1 : w.heap.size ≤ g1 := by omega
        have hl15 : l.length ≤ 140737488351232 := by omega
        have hl16 : l.length ≤ 1000000000000000 := by omega
        go_loopw [40] (fun i wr => ∃ k at_ e : Nat, k ≤ q.length ∧ i = .int .i64 (k : Int) ∧ Cur 59 wr g1 g1 l at_ e ∧ Cur 49 wr g2 w.heap.size l at_ e ∧ Below w.heap.size w wr) (fun i _ => q.length - (intOf i).toNat)
        case atStart => exact ⟨0, 0, 0, Nat.zero_le _, rfl, hcP2, hcR2, hbe2⟩
        case round =>
          obtain ⟨j, at_, e, hj, rfl, hP, hR, hbe⟩ := hrel
          clear hcP2 hcR2 hbe2
          by_cases hltq : j < q.length
          · obtain ⟨b, off, rfl, hbB, hcell⟩ := (hq.below hbe) (by omega)
            obtain ⟨x0, x1⟩ := hcell j hltq
            have hxm := hqm _ (List.getElem_mem hltq)
            clear hcell
            generalize q[j] = x at *
            obtain ⟨kind, n⟩ := x
            simp only at x0 x1 hxm
            have sbe := hbe.size
            have hj0 : (j : Int) < (q.length : Int) := by omega
            go_upto_block 4 with fail
            go_cut [11] (fun s wx => s = .bool true ∧ ∃ at' e' : Nat, Cur 59 wx g1 g1 l at' e' ∧ Cur 49 wx g2 w.heap.size l at' e' ∧ Below w.heap.size w wx)
            case first =>
              have hax := (Below.refl wr.heap.size wr).alloc (Nat.le_refl _) (.cells #[.int .i64 kind, .int .i64 n] 51)
              have hP1 := hP.below hax
              have hR1 := hR.below hax
              have hbx := Blk.new wr 51 #[.int .i64 kind, .int .i64 n]
              have hgP := hP.lt
              have hgR := hR.lt
              have hgR1 := hR1.lt
              have hbe1 := hbe.trans (hax.mono sbe)
              have x3 := hbx.cell 1
              obtain ⟨gx, hgx⟩ : ∃ gx, gx = wr.heap.size := ⟨_, rfl⟩
              have Hgx := Lib.hid hgx
              clear x0 x1 hax
              by_cases k0 : (kind == 0) = true
              · go_wp2_with fail
                refine (curU_calls _ hP1 hl16).mono ?_
                rintro en w3 ⟨rfl, h3, ho3⟩
                have hR3 := hR1.far ho3 hne21 hHg1
                go_wp2_with fail
                refine (rU_calls _ hR3 hl16).mono ?_
                rintro en w4 ⟨rfl, h4, ho4⟩
                have hP4 := h3.far ho4 hne12 (by omega)
                have hbe4 := (hbe1.trans (ho3.below hHg1 hbe1.size)).trans (ho4.below hHg (by have := hbe1.size; have := ho3.size; omega))
                go_wp2
                go_meet
                case rel => exact ⟨rfl, _, _, hP4, h4, hbe4⟩
              · have k0 : (kind == 0) = false := by simpa using k0
                by_cases k1 : (kind == 1) = true
                · go_wp2_with fail
                  refine (curI_calls _ hP1 hl16).mono ?_
                  rintro en w3 ⟨rfl, h3, ho3⟩
                  have hR3 := hR1.far ho3 hne21 hHg1
                  go_wp2_with fail
                  refine (rI_calls _ hR3 hl16).mono ?_
                  rintro en w4 ⟨rfl, h4, ho4⟩
                  have hP4 := h3.far ho4 hne12 (by omega)
                  have hbe4 := (hbe1.trans (ho3.below hHg1 hbe1.size)).trans (ho4.below hHg (by have := hbe1.size; have := ho3.size; omega))
                  go_wp2
                  go_meet
                  case rel => exact ⟨rfl, _, _, hP4, h4, hbe4⟩
                · have k1 : (kind == 1) = false := by simpa using k1
                  by_cases k2 : (kind == 2) = true
                  · go_wp2_with fail
                    go_region_held3 (fun w' => w'.cell? ⟨wr.heap.size, 1, none⟩ = some (.int .i64 n)) (go_keep) (first | (go_at_call 30; refine (curNum_calls _ (hP1.drewN 1) hl16 n hxm).mono ?_; rintro en w3 ⟨rfl, h3, ho3⟩; have hR3 := (hR1.drewN 1).far ho3 hne21 hHg1; have x4 : w3.cell? ⟨wr.heap.size, 1, none⟩ = some (.int .i64 n) := (ho3.blk (hbx.drewN 1) (by omega)).cell 1) | (go_at_call 31; refine (rNum_calls _ hR3 hl16 n hxm).mono ?_; rintro en w4 ⟨rfl, h4, ho4⟩; have hP4 := h3.far ho4 hne12 (by omega); have x5 : w4.cell? ⟨wr.heap.size, 1, none⟩ = some (.int .i64 n) := (ho4.blk (ho3.blk (hbx.drewN 1) (by omega)) (by omega)).cell 1))
                    have hbe4 := ((below_drewN_ hbe1 1).trans (ho3.below hHg1 hbe1.size)).trans (ho4.below hHg (by have := hbe1.size; have := ho3.size; exact Nat.le_trans hbe1.size ho3.size))
                    go_wp2
                    go_meet
                    case rel => exact ⟨rfl, _, _, hP4, h4, hbe4⟩
                  · have k2 : (kind == 2) = false := by simpa using k2
                    by_cases k3 : (kind == 3) = true
                    · go_wp2_with fail
                      go_region_held3 (fun w' => w'.cell? ⟨wr.heap.size, 1, none⟩ = some (.int .i64 n)) (go_keep) (first | (go_at_call 32; refine (curBytes_calls _ (hP1.drewN 1) hl15 n hxm).mono ?_; rintro en w3 ⟨A5, c5, rfl, hc5, hm5, hown5, h3, ho3⟩; have hR3 := (hR1.drewN 1).far ho3 hne21 hHg1; have x4 : w3.cell? ⟨wr.heap.size, 1, none⟩ = some (.int .i64 n) := (ho3.blk (hbx.drewN 1) (by omega)).cell 1) | (go_at_call 33; refine (rBytes_calls _ hR3 hl15 n hxm).mono ?_; rintro en w4 ⟨A6, c6, rfl, hc6, hm6, hown6, h4, ho4⟩; have hP4 := h3.far ho4 hne12 (by omega); have x5 : w4.cell? ⟨wr.heap.size, 1, none⟩ = some (.int .i64 n) := (ho4.blk (ho3.blk (hbx.drewN 1) (by omega)) (by omega)).cell 1; have hown7 := own_bytes (own_only hown5 ho4 hgR1); have hown8 := own_bytes hown6) | (go_at_call 12; refine (same_calls _ hown7 hown8).mono ?_; rintro en w5 ⟨rfl, rfl⟩))
                      have hbe4 := ((below_drewN_ hbe1 1).trans (ho3.below hHg1 hbe1.size)).trans (ho4.below hHg (Nat.le_trans hbe1.size ho3.size))
                      have hbq : ((curBytes l at_ e n).1 == (curBytes l at_ e n).1) = true := beq_self_eq_true _
                      go_wp2
                      go_meet
                      case rel => exact ⟨rfl, _, _, hP4, h4, hbe4⟩
                    · have k3 : (kind == 3) = false := by simpa using k3
                      go_wp2_with fail
                      go_region_held3 (fun w' => w'.cell? ⟨wr.heap.size, 1, none⟩ = some (.int .i64 n)) (go_keep) (first | (go_at_call 34; refine (curText_calls _ (hP1.drewN 1) hl15 n hxm).mono ?_; rintro en w3 ⟨rfl, h3, ho3⟩; have hR3 := (hR1.drewN 1).far ho3 hne21 hHg1; have x4 : w3.cell? ⟨wr.heap.size, 1, none⟩ = some (.int .i64 n) := (ho3.blk (hbx.drewN 1) (by omega)).cell 1) | (go_at_call 35; refine (rText_calls _ hR3 hl15 n hxm).mono ?_; rintro en w4 ⟨rfl, h4, ho4⟩; have hP4 := h3.far ho4 hne12 (by omega); have x5 : w4.cell? ⟨wr.heap.size, 1, none⟩ = some (.int .i64 n) := (ho4.blk (ho3.blk (hbx.drewN 1) (by omega)) (by omega)).cell 1))
                      have hbe4 := ((below_drewN_ hbe1 1).trans (ho3.below hHg1 hbe1.size)).trans (ho4.below hHg (Nat.le_trans hbe1.size ho3.size))
                      go_wp2
                      go_meet
                      case rel => exact ⟨rfl, _, _, hP4, h4, hbe4⟩
            case rest =>
              obtain ⟨rfl, at2, e2, hP2, hR2, hbe2⟩ := hcut
              clear hP hR hbe x0 x1
              have hR2' := hR2
              obtain ⟨A9, c9, hb9, -⟩ := hR2
              have y1 := hb9.cell 1
              simp only [List.getElem?_toArray, List.getElem?_cons_zero, List.getElem?_cons_succ] at y1
              clear hb9
              go_wp2_with fail
              go_region_held3 (fun w' => w'.cell? ⟨g2, 1, none⟩ = some (.int .i64 (at2 : Int))) (go_keep) (first | (go_at_call 26; refine (at_calls _ (hP2.drewN 1)).mono ?_; rintro en w3 ⟨rfl, rfl⟩) | (go_at_call 25; refine (end_calls _ (hP2.drewN 1)).mono ?_; rintro en w3 ⟨rfl, n3, rfl⟩) | (go_at_call 36; refine (rEnd_calls _ (hR2'.drewN _)).mono ?_; rintro en w4 ⟨rfl, n4, rfl⟩))
              have hbe3 := below_drewN_ hbe2 (1 + n3 + n4)
              have hP3 := hP2.drewN (1 + n3 + n4)
              have hR3 := hR2'.drewN (1 + n3 + n4)
              generalize wc.drewN (1 + n3 + n4) = W5 at *
              go_wp2
              go_roundw
              case rel => exact ⟨j + 1, at2, e2, by omega, by go_num, hP3, hR3, hbe3⟩
              case measure => simp [intOf]; omega
          · have hj0 : ¬ (j : Int) < (q.length : Int) := by omega
            go_wp2_with fail
            refine (curU_nil _).mono ?_
            rintro en w' ⟨rfl, rfl⟩
            go_wp2_with fail
            refine (num_nil _ _).mono ?_
            rintro en w' ⟨rfl, rfl⟩
            go_wp2_with fail
            refine (curBytes_nil _ _).mono ?_
            rintro en w' ⟨rfl, rfl⟩
            go_wp2_with fail
            refine (text_nil _ _).mono ?_
            rintro en w' ⟨rfl, rfl⟩
            go_wp2_with fail
            refine (at_nil _).mono ?_
            rintro en w' ⟨rfl, rfl⟩
            go_wp2_with fail
            refine (end_nil _).mono ?_
            rintro en w' ⟨rfl, rfl⟩
            go_wp2
            go_ret
            exact ⟨rfl, hbe⟩

theorem walk {H : Type} {enc : TypeId × Value → H} {W : World} {base : Nat} {v0 v1 : Value} {d0 d1 : DataW H} {p0 p1 : List MemPlace} (g0 : Arg enc Try.prog W base 23 v0 d0 p0) (g1 : Arg enc Try.prog W base 46 v1 d1 p1) :
    Calls Try.prog 9 #[v0, v1] W fun e w' => e = .returned (.bool true) ∧ Below W.heap.size W w' := by
  obtain ⟨A, n, c, l, rfl, hn, hc, hb⟩ := g0.bytes Try.underlying23 Try.underlying5 (by kernel_rfl) (by kernel_rfl)
  obtain ⟨A2, c2, q, rfl, hq1, hq2, hq3, hq4⟩ := arg_reads g1
  have hl := hb.1
  subst hl
  exact body W hb hn hc hq3 hq4 (by unfold maxLen at hq2; omega)
end Go.Proofs.Ytmbnbeihgggkcaa.lawNumsCursors
