/- StoreStays: the walk. -/
import Derived.Test.YtlljpjehalodfaaProg
import Derived.Test.YtlljpjehalodfaaSaQ
import Derived.Test.YtlljpjehalodfaaSaG
namespace Go.Proofs.Ytlljpjehalodfaa.lawStoreStays
open Go.RowKit Go.Proofs.Ytlljpjehalodfaa Go.Proofs.Ytlljpjehalodfaa.St
set_option maxRecDepth 100000 in
set_option maxHeartbeats 16000000 in
theorem body (w : World) {B c : Nat} {A : Option Addr} {l : List Ac} (h : Acts w B A l) (hB : B ≤ w.heap.size) (hc : l.length ≤ c) (hl : l.length ≤ 4398046511104) (x : Ac) (hx : x.ok w B) :
    Calls Try.prog 6 #[.slice A l.length c, .agg #[.int .i64 x.kind, .string x.key, .slice x.A x.d.length x.c, .int .i64 x.ver, .int .i64 x.at_, .int .i64 x.n, .int .i64 x.id]] w fun e w' => e = .returned (.bool true) ∧ Below w.heap.size w w' := by
  have HB0 : Hid (Below w.heap.size w (w.alloc (.cells #[.int .i64 x.kind, .string x.key, .slice x.A x.d.length x.c, .int .i64 x.ver, .int .i64 x.at_, .int .i64 x.n, .int .i64 x.id] 30))) := Lib.hid ((Below.refl _ _).alloc (Nat.le_refl _) _)
  have HBC := Lib.hid (Blk.new w 30 #[.int .i64 x.kind, .string x.key, .slice x.A x.d.length x.c, .int .i64 x.ver, .int .i64 x.at_, .int .i64 x.n, .int .i64 x.id])
  have HL := Lib.hid (h.below (HB0.out.mono hB))
  have HX := Lib.hid (hx.below (HB0.out.mono hB))
  have hgc0 : w.heap.size < (w.alloc (.cells #[.int .i64 x.kind, .string x.key, .slice x.A x.d.length x.c, .int .i64 x.ver, .int .i64 x.at_, .int .i64 x.n, .int .i64 x.id] 30)).heap.size := HBC.out.lt
  clear h hx
  go_enter Try.func6, Try.ntmps6
  go_upto_region 1 with fail
  generalize w.alloc (.cells #[.int .i64 x.kind, .string x.key, .slice x.A x.d.length x.c, .int .i64 x.ver, .int .i64 x.at_, .int .i64 x.n, .int .i64 x.id] 30) = wc at *
  generalize hgw : w.heap.size = gc at *
  have HGW := Lib.hid hgw
  clear hgw
  have hgc : gc ≤ wc.heap.size := Nat.le_of_lt hgc0
  replace hB : B ≤ wc.heap.size := Nat.le_trans hB hgc
  go_wp2_with fail
  refine (new_calls wc).mono ?_
  rintro e w1 ⟨rfl, hA1, hb1⟩
  have HV1 := Lib.hid (Liv.start hA1 hb1)
  have HJ1 := Lib.hid (PJ.empty wc.heap.size)
  clear hA1 hb1
  go_wp2_with fail
  refine (lives_calls w1).mono ?_
  rintro e w2 ⟨rfl, hb2⟩
  have HV2 := Lib.hid (HV1.out.on hb2)
  clear hb2 HV1
  generalize hg : wc.heap.size + 2 = g at *
  have k2 : w2.cell? ⟨gc, 2, none⟩ = some (.slice x.A x.d.length x.c) := (HBC.out.below HV2.out.below hgc0).cell 2
  by_cases hbg : 20000 < x.d.length
  · have d1 : decide ((20000 : Int) < (x.d.length : Int)) = true := dct (by omega)
    go_wp2
    go_ret
    exact ⟨rfl, by rw [HGW.out]; exact HB0.out.trans (HV2.out.below.mono hgc)⟩
  have d1 : decide ((20000 : Int) < (x.d.length : Int)) = false := dcf (by omega)
  go_wp2_with fail
  refine (few60_calls w2 40 rfl (HL.out.below (HV2.out.below.mono hB)) (Nat.le_trans hB HV2.out.size) hc hl (by omega)).mono ?_
  rintro e w3 ⟨k, hk, hk60, rfl, hb3⟩
  have HV3 := Lib.hid (HV2.out.on hb3)
  clear hb3 HV2 k2 d1
  generalize hL0 : emptyLS wc.heap.size = L0 at *
  go_wp2
  go_loopw [29] (fun i wr => ∃ (j : Nat) (L : LS), j ≤ k ∧ i = .int .i64 (j : Int) ∧ Hid (Liv wc wr g L j) ∧ Hid (PJ L.pure)) (fun i _ => k - (intOf i).toNat)
  case atStart => exact ⟨0, L0, Nat.zero_le _, rfl, HV3, HJ1⟩
  case round =>
    obtain ⟨j, L, hj, rfl, HV, HJ⟩ := hrel
    obtain ⟨wi, rfl⟩ : ∃ wi : World, wi = wr := ⟨_, rfl⟩
    clear HV3 HJ1
    by_cases hlt : j < k
    · have d1 : decide ((j : Int) < (k : Int)) = true := dct (by omega)
      have hjl : j < l.length := by omega
      obtain ⟨b, off, rfl, hbB, hcell⟩ := (HL.out.below (HV.out.below.mono hB)).at_ hjl
      have HOK := Lib.hid (HL.out.ok _ (ga_mem hjl))
      have x0 := hcell 0 _ (by omega) rfl
      have x1 := hcell 1 _ (by omega) rfl
      have x2 := hcell 2 _ (by omega) rfl
      have x3 := hcell 3 _ (by omega) rfl
      have x4 := hcell 4 _ (by omega) rfl
      have x5 := hcell 5 _ (by omega) rfl
      have x6 := hcell 6 _ (by omega) rfl
      have x7 := hcell 7 _ (by omega) rfl
      rw [Nat.add_zero] at x0
      clear hcell
      generalize ga l j = a at *
      have hi0 : (0 : Int) ≤ (j : Int) := by omega
      have hi1 : (j : Int) < (k : Int) := by omega
      go_upto_region 7 with fail
      have HVa := Lib.hid (HV.out.on ((Below.refl _ _).alloc (Nat.le_refl _) (.cells #[.int .i64 a.kind, .string a.key, .slice a.A a.d.length a.c, .int .i64 a.ver, .int .i64 a.at_, .int .i64 a.n, .int .i64 a.id, .int .i64 a.big] 32)))
      have HBa := Lib.hid (Blk.new wi 32 #[.int .i64 a.kind, .string a.key, .slice a.A a.d.length a.c, .int .i64 a.ver, .int .i64 a.at_, .int .i64 a.n, .int .i64 a.id, .int .i64 a.big])
      have HNF := Lib.hid (HV.out.not_foot (Nat.le_refl _))
      clear x0 x1 x2 x3 x4 x5 x6 x7 HV
      generalize wi.alloc (.cells #[.int .i64 a.kind, .string a.key, .slice a.A a.d.length a.c, .int .i64 a.ver, .int .i64 a.at_, .int .i64 a.n, .int .i64 a.id, .int .i64 a.big] 32) = wa at *
      generalize wi.heap.size = gb at *
      have y0 : wa.cell? ⟨gb, 0, none⟩ = some (.int .i64 a.kind) := HBa.out.cell 0
      have y1 : wa.cell? ⟨gb, 1, none⟩ = some (.string a.key) := HBa.out.cell 1
      have y2 : wa.cell? ⟨gb, 2, none⟩ = some (.slice a.A a.d.length a.c) := HBa.out.cell 2
      have y3 : wa.cell? ⟨gb, 3, none⟩ = some (.int .i64 a.ver) := HBa.out.cell 3
      have y4 : wa.cell? ⟨gb, 4, none⟩ = some (.int .i64 a.at_) := HBa.out.cell 4
      have y5 : wa.cell? ⟨gb, 5, none⟩ = some (.int .i64 a.n) := HBa.out.cell 5
      have y6 : wa.cell? ⟨gb, 6, none⟩ = some (.int .i64 a.id) := HBa.out.cell 6
      have y7 : wa.cell? ⟨gb, 7, none⟩ = some (.int .i64 a.big) := HBa.out.cell 7
      have HC := Lib.hid (call_calls wa a (HOK.out.below (HVa.out.below.mono hB) |>.dat (Nat.le_trans hB HVa.out.le)) HVa.out.lt)
      unfold Ac.val at HC
      go_wp2_with fail
      refine HC.out.mono ?_
      rintro e wb ⟨Ab, cb, rfl, hDb, hbb⟩
      have HVb := Lib.hid (HVa.out.on hbb)
      have HD := Lib.hid (do_live wb (x := a.cl Ab cb) HVb.out.at_ HVb.out.inv (by omega) (by rw [HVb.out.gs]; exact hDb) (Ac.clOk HOK.out Ab cb))
      rw [HVb.out.gs] at HD
      clear hDb HC HVa y0 y1 y2 y3 y4 y5 y6 y7
      go_wp2_with fail
      refine HD.out.mono ?_
      rintro e wd ⟨L', v, rfl, hr, hs, hi⟩
      have HVd := Lib.hid (HVb.out.step hs hi)
      have HRP := Lib.hid hr
      have HST := Lib.hid hs
      clear hs hi HD hr
      have HJ' : Hid (PJ L'.pure) := Lib.hid (by rw [HST.out.pure]; exact HJ.out.step HVb.out.inv.i0 _)
      go_wp2
      go_roundw
      case rel => exact ⟨j + 1, L', by omega, by go_num, HVd, HJ'⟩
      case measure => simp [intOf]; omega
    · obtain rfl : j = k := by omega
      have d1 : decide ((j : Int) < (j : Int)) = false := dcf (by omega)
      have HDC := Lib.hid (dump_calls wc wi HV.out HJ.out (by omega))
      generalize hD : L.pure.dump = D at *
      have HDD := Lib.hid hD
      clear hD
      go_wp2_with fail
      refine HDC.out.mono ?_
      rintro e w4 ⟨rfl, hb4⟩
      have HV4 := Lib.hid (HV.out.on hb4)
      have HBC4 := Lib.hid (HBC.out.below HV4.out.below hgc0)
      have HX4 := Lib.hid (HX.out.below (HV4.out.below.mono hB))
      have hgc4 : gc < w4.heap.size := HBC4.out.lt
      clear hb4 HV HDC HBC
      have k0 : w4.cell? ⟨gc, 0, none⟩ = some (.int .i64 x.kind) := HBC4.out.cell 0
      have k1 : w4.cell? ⟨gc, 1, none⟩ = some (.string x.key) := HBC4.out.cell 1
      have k2 : w4.cell? ⟨gc, 2, none⟩ = some (.slice x.A x.d.length x.c) := HBC4.out.cell 2
      have k3 : w4.cell? ⟨gc, 3, none⟩ = some (.int .i64 x.ver) := HBC4.out.cell 3
      have k4 : w4.cell? ⟨gc, 4, none⟩ = some (.int .i64 x.at_) := HBC4.out.cell 4
      have k5 : w4.cell? ⟨gc, 5, none⟩ = some (.int .i64 x.n) := HBC4.out.cell 5
      have k6 : w4.cell? ⟨gc, 6, none⟩ = some (.int .i64 x.id) := HBC4.out.cell 6
      have hd := do_live w4 (x := ⟨x.kind, x.key, x.A, x.c, x.d, x.ver, x.at_, x.n, x.id⟩) HV4.out.at_ HV4.out.inv (by omega) (by rw [HV4.out.gs]; exact HX4.out.dat (Nat.le_trans hB HV4.out.le)) ⟨by have := HX4.out.key; show x.key.size ≤ maxLen; unfold maxLen; omega, by have := HX4.out.dc; have := HX4.out.cm; show x.d.length ≤ 140737488355328; omega, HX4.out.n, HX4.out.id⟩
      rw [HV4.out.gs] at hd
      unfold Cl.val Cl.cells at hd
      dsimp only at hd
      have HD := Lib.hid hd
      clear hd
      go_wp2_with fail
      refine HD.out.mono ?_
      rintro e w5 ⟨L', v, rfl, hr, hs, hi⟩
      have HV5 := Lib.hid (HV4.out.step hs hi)
      have HBC5 := Lib.hid (HBC4.out.below (hs.below (B := wc.heap.size) HV4.out.size HV4.out.high) hgc0)
      have HJ5 : Hid (PJ L'.pure) := Lib.hid (by rw [hs.pure]; exact HJ.out.step HV4.out.inv.i0 _)
      have HQ := Lib.hid hs.same
      have HE := Lib.hid (step_err (s := L.pure) (c := Cl.pure ⟨x.kind, x.key, x.A, x.c, x.d, x.ver, x.at_, x.n, x.id⟩))
      have hp := hs.pure
      have HP := Lib.hid hp
      generalize (L.pure.step (Cl.pure ⟨x.kind, x.key, x.A, x.c, x.d, x.ver, x.at_, x.n, x.id⟩)) = r at *
      obtain ⟨s', r⟩ := r
      obtain ⟨A5, c5, A6, c6, rfl, -, -⟩ := hr
      clear hs hi HD hp k0 k1 k2 k3 k4 k5 k6 HBC4 HV4 HJ
      dsimp only at *
      go_upto_region 11 with fail
      have HV6 := Lib.hid (HV5.out.on ((Below.refl _ _).alloc (Nat.le_refl _) (.cells #[.int .i64 r.err, .slice A5 r.d.length c5, .int .i64 r.ver, .int .i64 r.born, .int .i64 r.id, .slice A6 r.list.length c6, .bool r.more] 36)))
      have HBR6 := Lib.hid (Blk.new w5 36 #[.int .i64 r.err, .slice A5 r.d.length c5, .int .i64 r.ver, .int .i64 r.born, .int .i64 r.id, .slice A6 r.list.length c6, .bool r.more])
      have HBC6 := Lib.hid (HBC5.out.alloc (.cells #[.int .i64 r.err, .slice A5 r.d.length c5, .int .i64 r.ver, .int .i64 r.born, .int .i64 r.id, .slice A6 r.list.length c6, .bool r.more] 36))
      have HJ6 := HJ5
      clear HV5 HBC5 HJ5
      generalize w5.alloc (.cells #[.int .i64 r.err, .slice A5 r.d.length c5, .int .i64 r.ver, .int .i64 r.born, .int .i64 r.id, .slice A6 r.list.length c6, .bool r.more] 36) = w6 at *
      generalize w5.heap.size = g6 at *
      have k0 : w6.cell? ⟨gc, 0, none⟩ = some (.int .i64 x.kind) := HBC6.out.cell 0
      have z0 : w6.cell? ⟨g6, 0, none⟩ = some (.int .i64 r.err) := HBR6.out.cell 0
      clear HBC6 HBR6
      by_cases h3 : x.kind = 3
      · have b3 := eqt h3
        have hq : Quiet ⟨x.kind, x.key, x.A, x.c, x.d, x.ver, x.at_, x.n, x.id⟩ := .inl h3
        have HEQ : Hid (L'.pure.dump = D) := Lib.hid (by rw [HQ.out hq, HDD.out])
        by_cases he : r.err = 0
        · have e0 := eqt he
          have HDC := Lib.hid (dump_calls wc w6 HV6.out HJ6.out (by omega))
          rw [HEQ.out] at HDC
          go_wp2_with fail
          refine HDC.out.mono ?_
          rintro e w7 ⟨rfl, hb7⟩
          have HB7 := Lib.hid (HB0.out.trans ((HV6.out.on hb7).below.mono hgc))
          clear hb7 HDC HV6
          go_wp2
          go_ret
          exact ⟨rfl, by rw [HGW.out]; exact HB7.out⟩
        · have e0 := eqf he
          have HDC := Lib.hid (dump_calls wc w6 HV6.out HJ6.out (by omega))
          rw [HEQ.out] at HDC
          go_wp2_with fail
          refine HDC.out.mono ?_
          rintro e w7 ⟨rfl, hb7⟩
          have HB7 := Lib.hid (HB0.out.trans ((HV6.out.on hb7).below.mono hgc))
          clear hb7 HDC HV6
          go_wp2
          go_ret
          exact ⟨rfl, by rw [HGW.out]; exact HB7.out⟩
      by_cases h4 : x.kind = 4
      · have b3 := eqf h3
        have b4 := eqt h4
        have hq : Quiet ⟨x.kind, x.key, x.A, x.c, x.d, x.ver, x.at_, x.n, x.id⟩ := .inr (.inl h4)
        have HEQ : Hid (L'.pure.dump = D) := Lib.hid (by rw [HQ.out hq, HDD.out])
        by_cases he : r.err = 0
        · have e0 := eqt he
          have HDC := Lib.hid (dump_calls wc w6 HV6.out HJ6.out (by omega))
          rw [HEQ.out] at HDC
          go_wp2_with fail
          refine HDC.out.mono ?_
          rintro e w7 ⟨rfl, hb7⟩
          have HB7 := Lib.hid (HB0.out.trans ((HV6.out.on hb7).below.mono hgc))
          clear hb7 HDC HV6
          go_wp2
          go_ret
          exact ⟨rfl, by rw [HGW.out]; exact HB7.out⟩
        · have e0 := eqf he
          have HDC := Lib.hid (dump_calls wc w6 HV6.out HJ6.out (by omega))
          rw [HEQ.out] at HDC
          go_wp2_with fail
          refine HDC.out.mono ?_
          rintro e w7 ⟨rfl, hb7⟩
          have HB7 := Lib.hid (HB0.out.trans ((HV6.out.on hb7).below.mono hgc))
          clear hb7 HDC HV6
          go_wp2
          go_ret
          exact ⟨rfl, by rw [HGW.out]; exact HB7.out⟩
      by_cases h5 : x.kind = 5
      · have b3 := eqf h3
        have b4 := eqf h4
        have b5 := eqt h5
        have hq : Quiet ⟨x.kind, x.key, x.A, x.c, x.d, x.ver, x.at_, x.n, x.id⟩ := .inr (.inr (.inl h5))
        have HEQ : Hid (L'.pure.dump = D) := Lib.hid (by rw [HQ.out hq, HDD.out])
        by_cases he : r.err = 0
        · have e0 := eqt he
          have HDC := Lib.hid (dump_calls wc w6 HV6.out HJ6.out (by omega))
          rw [HEQ.out] at HDC
          go_wp2_with fail
          refine HDC.out.mono ?_
          rintro e w7 ⟨rfl, hb7⟩
          have HB7 := Lib.hid (HB0.out.trans ((HV6.out.on hb7).below.mono hgc))
          clear hb7 HDC HV6
          go_wp2
          go_ret
          exact ⟨rfl, by rw [HGW.out]; exact HB7.out⟩
        · have e0 := eqf he
          have HDC := Lib.hid (dump_calls wc w6 HV6.out HJ6.out (by omega))
          rw [HEQ.out] at HDC
          go_wp2_with fail
          refine HDC.out.mono ?_
          rintro e w7 ⟨rfl, hb7⟩
          have HB7 := Lib.hid (HB0.out.trans ((HV6.out.on hb7).below.mono hgc))
          clear hb7 HDC HV6
          go_wp2
          go_ret
          exact ⟨rfl, by rw [HGW.out]; exact HB7.out⟩
      by_cases h11 : x.kind = 11
      · have b3 := eqf h3
        have b4 := eqf h4
        have b5 := eqf h5
        have b11 := eqt h11
        have hq : Quiet ⟨x.kind, x.key, x.A, x.c, x.d, x.ver, x.at_, x.n, x.id⟩ := .inr (.inr (.inr h11))
        have HEQ : Hid (L'.pure.dump = D) := Lib.hid (by rw [HQ.out hq, HDD.out])
        by_cases he : r.err = 0
        · have e0 := eqt he
          have HDC := Lib.hid (dump_calls wc w6 HV6.out HJ6.out (by omega))
          rw [HEQ.out] at HDC
          go_wp2_with fail
          refine HDC.out.mono ?_
          rintro e w7 ⟨rfl, hb7⟩
          have HB7 := Lib.hid (HB0.out.trans ((HV6.out.on hb7).below.mono hgc))
          clear hb7 HDC HV6
          go_wp2
          go_ret
          exact ⟨rfl, by rw [HGW.out]; exact HB7.out⟩
        · have e0 := eqf he
          have HDC := Lib.hid (dump_calls wc w6 HV6.out HJ6.out (by omega))
          rw [HEQ.out] at HDC
          go_wp2_with fail
          refine HDC.out.mono ?_
          rintro e w7 ⟨rfl, hb7⟩
          have HB7 := Lib.hid (HB0.out.trans ((HV6.out.on hb7).below.mono hgc))
          clear hb7 HDC HV6
          go_wp2
          go_ret
          exact ⟨rfl, by rw [HGW.out]; exact HB7.out⟩
      have b3 := eqf h3
      have b4 := eqf h4
      have b5 := eqf h5
      have b11 := eqf h11
      by_cases he : r.err = 0
      · have e0 := eqt he
        go_wp2
        go_ret
        exact ⟨rfl, by rw [HGW.out]; exact HB0.out.trans (HV6.out.below.mono hgc)⟩
      · have e0 := eqf he
        have HEQ : Hid (L'.pure.dump = D) := Lib.hid (by rw [HP.out, HE.out he, HDD.out])
        have HDC := Lib.hid (dump_calls wc w6 HV6.out HJ6.out (by omega))
        rw [HEQ.out] at HDC
        go_wp2_with fail
        refine HDC.out.mono ?_
        rintro e w7 ⟨rfl, hb7⟩
        have HB7 := Lib.hid (HB0.out.trans ((HV6.out.on hb7).below.mono hgc))
        clear hb7 HDC HV6
        go_wp2
        go_ret
        exact ⟨rfl, by rw [HGW.out]; exact HB7.out⟩
theorem walk {H : Type} {enc : TypeId × Value → H} {W : World} {base : Nat} {v0 v1 : Value} {d0 d1 : DataW H} {p0 p1 : List MemPlace} (g0 : Arg enc Try.prog W base 22 v0 d0 p0) (g1 : Arg enc Try.prog W base 30 v1 d1 p1) :
    Calls Try.prog 6 #[v0, v1] W fun e w' => e = .returned (.bool true) ∧ Below W.heap.size W w' := by
  obtain ⟨A, c, l, rfl, hc, hl, hL⟩ := arg_acts g0
  obtain ⟨x, rfl, -, hx⟩ := arg_call g1
  exact body W hL (Nat.le_refl _) hc hl x hx
end Go.Proofs.Ytlljpjehalodfaa.lawStoreStays
