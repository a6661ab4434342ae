/- BayHolds: the walk. -/
import Derived.Test.YtepfggfideianaaProg
import Derived.Test.YtepfggfideianaaByF
namespace Go.Proofs.Ytepfggfideianaa.lawBayHolds
open Go.RowKit Go.Conc Go.Proofs.Ytepfggfideianaa Go.Proofs.Ytepfggfideianaa.By

set_option maxRecDepth 100000 in
set_option maxHeartbeats 3200000 in
theorem body (w : World) {B c : Nat} {A : Option Addr} {l : List Bt} {room : Int} (h : Bts w B A l) (hB : B ≤ w.heap.size) (hl : l.length ≤ 4398046511104) :
    Calls Try.prog 6 #[.int .i64 room, .slice A l.length c] w fun e w' => e = .returned (.bool true) ∧ Below w.heap.size w w' := by
  have H1 := Lib.hid h
  clear h
  by_cases hr : room < 1 ∨ 2048 < room
  · have HN := Lib.hid (newBay_bad w room hr)
    clear hr
    go_enter Try.func6, Try.ntmps6
    go_wp2_with fail
    refine HN.out.mono ?_
    rintro e w1 ⟨rfl, rfl⟩
    go_wp2_with fail
    refine (lives_calls w).mono ?_
    rintro e w1 ⟨rfl, hb1⟩
    go_wp2_with fail
    refine (lives_calls w1).mono ?_
    rintro e w2 ⟨rfl, hb2⟩
    go_wp2
    go_ret
    exact ⟨rfl, hb1.trans (hb2.mono hb1.size)⟩
  · obtain ⟨r, rfl⟩ : ∃ r : Nat, room = (r : Int) := ⟨room.toNat, by omega⟩
    have hr1 : 1 ≤ r := by omega
    have hr2 : r ≤ 2048 := by omega
    have HN := Lib.hid (newBay_ok w r hr1 hr2)
    clear hr
    by_cases hlen : 60 < l.length
    · have hd : decide (60 < (l.length : Int)) = true := dct (by omega)
      go_enter Try.func6, Try.ntmps6
      go_wp2_with fail
      refine HN.out.mono ?_
      rintro e w1 ⟨gb, bm, rfl, -, hb1⟩
      go_wp2_with fail
      refine (lives_calls w1).mono ?_
      rintro e w2 ⟨rfl, hb2⟩
      have hb12 := hb1.trans (hb2.mono hb1.size)
      go_wp2_with fail
      refine (lives_calls w2).mono ?_
      rintro e w3 ⟨rfl, hb3⟩
      go_wp2
      go_ret
      exact ⟨rfl, hb12.trans (hb3.mono hb12.size)⟩
    · have hl60 : l.length ≤ 60 := by omega
      go_enter Try.func6, Try.ntmps6
      go_wp2_with fail
      refine HN.out.mono ?_
      rintro e w1 ⟨gb, bm, rfl, ha1, hb1⟩
      go_wp2_with fail
      refine (lives_calls w1).mono ?_
      rintro e w2 ⟨rfl, hb2⟩
      have HA2 := Lib.hid (ha1.below hb2)
      have HW2 : Hid (Below w.heap.size w w2) := Lib.hid (hb1.trans (hb2.mono hb1.size))
      clear ha1 hb1 hb2
      go_wp2
      go_loopw [6, 7, 30] (fun sm n i wr => ∃ (j : Nat) (m : List (ByteArray × Nat)) (L : List KX), j ≤ l.length ∧ i = .int .i64 (j : Int) ∧ sm = .int .i64 (sumW L) ∧ n = .int .i64 (L.length : Int) ∧ L.length ≤ 40 * j ∧ Hid (BayAt wr w.heap.size gb bm r m L) ∧ Hid (Below w.heap.size w wr)) (fun _ _ i _ => l.length - (intOf i).toNat)
      case atStart => exact ⟨0, [], [], Nat.zero_le _, rfl, rfl, rfl, Nat.zero_le _, HA2, HW2⟩
      case round =>
        obtain ⟨j, m, L, hj, rfl, rfl, rfl, hLj, HA, HW⟩ := hrel
        obtain ⟨wo, rfl⟩ : ∃ wo : World, wo = wr := ⟨_, rfl⟩
        have hso := HW.out.size
        have hsm := sumW_in L
        by_cases hlt : j < l.length
        · have r1 := H1.out.below (HW.out.mono hB)
          obtain ⟨b1, o1, e1, hb1, hc1⟩ := r1.cells_ (by omega)
          obtain ⟨x0, x1⟩ := hc1 j hlt
          have i0 : (0 : Int) ≤ (j : Int) := by omega
          have i9 : (j : Int) < (l.length : Int) := by omega
          have HX := Lib.hid (r1.each _ (bt_mem hlt))
          clear r1 hc1
          subst e1
          generalize bt l j = x at *
          by_cases h40 : 40 < x.L.length
          · have hd : decide (40 < (x.L.length : Int)) = true := dct (by omega)
            go_wp2
            go_ret
            exact ⟨rfl, HW.out.alloc hso _⟩
          · have hX40 : x.L.length ≤ 40 := by omega
            have hL24 : L.length ≤ 2400 := by omega
            go_wp2_with fail
            have hb3 := (Below.refl wo.heap.size wo).alloc (Nat.le_refl _) (.cells #[.slice x.A x.L.length x.c, .bool x.drain] 55)
            have HX3 := Lib.hid (HX.out.below (hb3.mono (Nat.le_trans hB hso)))
            have HA3 := Lib.hid (HA.out.below hb3)
            have HW3 := Lib.hid (HW.out.trans (hb3.mono hso))
            have HK3 := Lib.hid (Blk.new wo 55 #[.slice x.A x.L.length x.c, .bool x.drain])
            have hs3 : wo.heap.size < (wo.alloc (.cells #[.slice x.A x.L.length x.c, .bool x.drain] 55)).heap.size := by simp
            clear hb3 x0 x1 HX HA HW
            generalize wo.alloc (.cells #[.slice x.A x.L.length x.c, .bool x.drain] 55) = w3 at *
            generalize wo.heap.size = gx at *
            refine (keyed_calls w3 HX3.out.kx (by omega) (by omega)).mono ?_
            rintro e w4 ⟨A4, c4, rfl, hk4, hb4⟩
            have HK4 := Lib.hid (HK3.out.below hb4 hs3)
            have HX4 := Lib.hid (HX3.out.below (hb4.mono (by omega)))
            have HA4 := Lib.hid (HA3.out.below hb4)
            have HW4 := Lib.hid (HW3.out.trans (hb4.mono (by omega)))
            have HPUT := put_calls (c := c4) w4 HA4.out hk4 (Nat.le_refl _) hr1 hr2 (by omega) (by omega)
            have hs4 := HW4.out.size
            clear hk4 hb4 HX3 HA3 HW3 HK3
            cases hf : fits r L x.L
            · rw [hf] at HPUT
              have HP := Lib.hid HPUT
              clear HPUT hf
              go_wp2_with fail
              refine HP.out.mono ?_
              rintro e w6 ⟨m6, rfl, ha6, hb6, hc6⟩
              rw [if_neg (by decide)] at ha6
              have HA6 := Lib.hid ha6
              have HW6 := Lib.hid (HW4.out.trans hb6)
              have HW5 := Lib.hid HW6.out
              have HA5 := Lib.hid HA6.out
              clear ha6 hb6 hc6
              have HMO := Lib.hid (mostBay_calls w6 HA6.out (by omega))
              clear HW5 HA5
              go_wp2_with fail
              refine HMO.out.mono ?_
              rintro e w7 ⟨n0, rfl, hmo, -, hb7⟩
              have hn0 := most_le hmo HA6.out.room
              have HA7 := Lib.hid (HA6.out.below hb7)
              have HW7 := Lib.hid (HW6.out.trans (hb7.mono HW6.out.size))
              have HLE := Lib.hid (lenBay_calls w7 HA7.out (by omega))
              have hd0 : decide ((r : Int) < (n0 : Int)) = false := dcf (by omega)
              clear hmo hb7 HMO HA6 HW6
              go_wp2_with fail
              refine HLE.out.mono ?_
              rintro e w8 ⟨rfl, hb8⟩
              have HA8 := Lib.hid (HA7.out.below hb8)
              have HW8 := Lib.hid (HW7.out.trans (hb8.mono HW7.out.size))
              clear hb8 HLE HA7 HW7
              go_wp2
              go_roundw
              case rel => exact ⟨j + 1, m6, L, by omega, by go_num, rfl, rfl, by omega, HA8, HW8⟩
              case measure => simp [intOf]; omega
            · rw [hf] at HPUT
              have HP := Lib.hid HPUT
              clear HPUT hf
              go_wp2_with fail
              refine HP.out.mono ?_
              rintro e w5 ⟨m6, rfl, ha5, hb5, hc5⟩
              rw [if_pos rfl] at ha5
              have HA5 := Lib.hid ha5
              have HW5 := Lib.hid (HW4.out.trans hb5)
              have HK5 := Lib.hid (hc5.blk HK4.out)
              have HX5 : Hid (KXs w5 B x.A x.L) := Lib.hid (HX4.out.kx.ck hc5)
              have k0 : w5.cell? ⟨gx, 0, none⟩ = some (.slice x.A x.L.length x.c) := HK5.out.cell 0
              have hB5 : B ≤ w5.heap.size := by have := HW5.out.size; omega
              have hm5 := sumW_in x.L
              have hs5 := HW5.out.size
              clear ha5 hb5 hc5 HA4 HW4 HX4 HK4
              go_wp2
              go_loopw [6, 51] (fun sm i wr => ∃ q : Nat, q ≤ x.L.length ∧ i = .int .i64 (q : Int) ∧ sm = .int .i64 (sumW L + sumW (x.L.take q)) ∧ Hid (Below w5.heap.size w5 wr)) (fun _ i _ => x.L.length - (intOf i).toNat)
              case atStart => exact ⟨0, Nat.zero_le _, rfl, by simp [sumW], Lib.hid (Below.refl _ _)⟩
              case round =>
                obtain ⟨q, hq, rfl, rfl, HWq⟩ := hrel
                obtain ⟨wi, rfl⟩ : ∃ wi : World, wi = wr := ⟨_, rfl⟩
                by_cases hlq : q < x.L.length
                · have r2 := HX5.out.below (HWq.out.mono hB5)
                  obtain ⟨b2, o2, e2, hb2, hc2⟩ := r2.cells (by omega)
                  obtain ⟨y0, y1⟩ := hc2 q hlq
                  have q0 : (0 : Int) ≤ (q : Int) := by omega
                  have q9 : (q : Int) < (x.L.length : Int) := by omega
                  have HT : Hid (sumW (x.L.take (q + 1)) = sumW (x.L.take q) + wt (gk x.L q).2) := Lib.hid (by rw [gk_snoc hlq, sumW_app, sumW_cons]; simp [sumW])
                  have hw := wt_in (gk x.L q).2
                  have hsq := sumW_in (x.L.take q)
                  have hlq2 : (x.L.take q).length ≤ 40 := by rw [List.length_take]; omega
                  clear r2 hc2
                  rw [e2]
                  generalize gk x.L q = y at *
                  generalize sumW (x.L.take q) = sq at *
                  have hw' : 0 ≤ bits .and .i64 y.2 1023 ∧ bits .and .i64 y.2 1023 ≤ 1023 := hw
                  have k1 : (wi.alloc (.cells #[.string y.1, .int .i64 y.2] 61)).heap.size = wi.heap.size + 1 := by simp
                  clear hw k1
                  have hsi := HWq.out.size
                  go_wp2
                  go_roundw
                  case rel => exact ⟨q + 1, by omega, by go_num, by rw [HT.out, ← Int.add_assoc]; rfl, Lib.hid (HWq.out.alloc hsi _)⟩
                  case measure => simp [intOf]; omega
                · obtain rfl : q = x.L.length := by omega
                  have HS : Hid (sumW L + sumW (x.L.take x.L.length) = sumW (L ++ x.L)) := Lib.hid (by rw [List.take_length, sumW_app])
                  have HN6 : Hid ((L.length : Int) + (x.L.length : Int) = ((L ++ x.L).length : Int)) := Lib.hid (by rw [List.length_append]; omega)
                  rw [HS.out, HN6.out]
                  have HA6 := Lib.hid (HA5.out.below HWq.out)
                  have HW6 := Lib.hid (HW5.out.trans (HWq.out.mono (by omega)))
                  have hLX : (L ++ x.L).length ≤ 40 * (j + 1) := by rw [List.length_append]; omega
                  generalize L ++ x.L = L' at *
                  have hL24' : L'.length ≤ 2400 := by omega
                  have HMO := Lib.hid (mostBay_calls wi HA6.out (by omega))
                  clear HW5 HA5
                  go_wp2_with fail
                  refine HMO.out.mono ?_
                  rintro e w7 ⟨n0, rfl, hmo, -, hb7⟩
                  have hn0 := most_le hmo HA6.out.room
                  have HA7 := Lib.hid (HA6.out.below hb7)
                  have HW7 := Lib.hid (HW6.out.trans (hb7.mono HW6.out.size))
                  have HLE := Lib.hid (lenBay_calls w7 HA7.out (by omega))
                  have hd0 : decide ((r : Int) < (n0 : Int)) = false := dcf (by omega)
                  clear hmo hb7 HMO HA6 HW6
                  go_wp2_with fail
                  refine HLE.out.mono ?_
                  rintro e w8 ⟨rfl, hb8⟩
                  have HA8 := Lib.hid (HA7.out.below hb8)
                  have HW8 := Lib.hid (HW7.out.trans (hb8.mono HW7.out.size))
                  clear hb8 HLE HA7 HW7
                  go_wp2
                  go_roundw
                  case rel => exact ⟨j + 1, m6, L', by omega, by go_num, rfl, rfl, hLX, HA8, HW8⟩
                  case measure => simp [intOf]; omega
        · obtain rfl : j = l.length := by omega
          have hL24 : L.length ≤ 2400 := by omega
          have HDR := Lib.hid (drainBay_calls wo HA.out (by omega) hr2)
          have HP := Lib.hid (drn_perm HA.out.nd HA.out.held)
          have HSW : Hid (sumW L = sumW (drn m L)) := Lib.hid (sumW_perm HP.out).symm
          have HLN : Hid (L.length = (drn m L).length) := Lib.hid HP.out.length_eq.symm
          rw [HSW.out, HLN.out]
          have hD24 : (drn m L).length ≤ 2400 := by have := HLN.out; omega
          clear HP
          go_wp2_with fail
          refine HDR.out.mono ?_
          rintro e w3 ⟨A3, c3, rfl, hrow3, -, hb3, -⟩
          have HR3 := Lib.hid hrow3
          have HW3 := Lib.hid (HW.out.trans hb3)
          clear hrow3 hb3 HDR
          generalize drn m L = D at *
          go_wp2
          go_loopw [6, 7, 75] (fun sm n i wr => ∃ q : Nat, q ≤ D.length ∧ i = .int .i64 (q : Int) ∧ sm = .int .i64 (sumW (D.drop q)) ∧ n = .int .i64 ((D.drop q).length : Int) ∧ Hid (Below w3.heap.size w3 wr)) (fun _ _ i _ => D.length - (intOf i).toNat)
          case atStart => exact ⟨0, Nat.zero_le _, rfl, rfl, rfl, Lib.hid (Below.refl _ _)⟩
          case round =>
            obtain ⟨q, hq, rfl, rfl, rfl, HWq⟩ := hrel
            obtain ⟨wi, rfl⟩ : ∃ wi : World, wi = wr := ⟨_, rfl⟩
            have hsi := HWq.out.size
            by_cases hlq : q < D.length
            · obtain ⟨b2, o2, e2, hb2, hc2⟩ := rd_cells ((Reads.of_own HR3.out).below HWq.out) (by omega)
              obtain ⟨y0, y1⟩ := hc2 q hlq
              have q0 : (0 : Int) ≤ (q : Int) := by omega
              have q9 : (q : Int) < (D.length : Int) := by omega
              have HT : Hid (sumW (D.drop q) = wt (gk D q).2 + sumW (D.drop (q + 1))) := Lib.hid (by rw [gk_drop hlq, sumW_cons])
              have HU : Hid ((D.drop q).length = (D.drop (q + 1)).length + 1) := Lib.hid (by rw [gk_drop hlq, List.length_cons])
              have hw := wt_in (gk D q).2
              have hsq := sumW_in (D.drop (q + 1))
              have hlq2 : (D.drop (q + 1)).length ≤ 2400 := by rw [List.length_drop]; omega
              rw [HT.out, HU.out]
              clear hc2
              subst e2
              generalize gk D q = y at *
              generalize hDD : D.drop (q + 1) = D' at *
              have HDD := Lib.hid hDD
              clear hDD
              have hw' : 0 ≤ bits .and .i64 y.2 1023 ∧ bits .and .i64 y.2 1023 ≤ 1023 := hw
              have HV : Hid (bits .and .i64 y.2 1023 + sumW D' - bits .and .i64 y.2 1023 = sumW D') := Lib.hid (by omega)
              have HV2 : Hid (((D'.length + 1 : Nat) : Int) - 1 = (D'.length : Int)) := Lib.hid (by omega)
              unfold wt
              clear hw
              go_wp2
              go_roundw
              case rel => exact ⟨q + 1, by omega, by go_num, by rw [HV.out, HDD.out], by rw [HDD.out], Lib.hid (HWq.out.alloc hsi _)⟩
              case measure => simp [intOf]; omega
            · obtain rfl : q = D.length := by omega
              have HZ : Hid (sumW (D.drop D.length) = 0) := Lib.hid (by rw [List.drop_length]; rfl)
              have HZ2 : Hid (((D.drop D.length).length : Int) = 0) := Lib.hid (by rw [List.drop_length]; rfl)
              rw [HZ.out, HZ2.out]
              go_wp2
              go_ret
              exact ⟨rfl, HW3.out.trans (HWq.out.mono (by have := HW3.out.size; omega))⟩
theorem walk {H : Type} {enc : TypeId × Value → H} {W : World} {base : Nat} {v0 v1 : Value} {d0 d1 : DataW H} {p0 p1 : List MemPlace} (g0 : Arg enc Try.prog W base 3 v0 d0 p0) (g1 : Arg enc Try.prog W base 42 v1 d1 p1) :
    Calls Try.prog 6 #[v0, v1] W fun e w' => e = .returned (.bool true) ∧ Below W.heap.size W w' := by
  obtain ⟨room, rfl, -, -⟩ := g0.int Try.underlying3
  obtain ⟨A, c, l, rfl, hc, hl, hL⟩ := arg_batches g1
  exact body W hL (Nat.le_refl _) hl
end Go.Proofs.Ytepfggfideianaa.lawBayHolds
