/- StoreCopies: the walk. -/
import Derived.Test.YtlljpjehalodfaaProg
import Derived.Test.YtlljpjehalodfaaSaW
namespace Go.Proofs.Ytlljpjehalodfaa.lawStoreCopies
open Go.RowKit Go.Proofs.Ytlljpjehalodfaa Go.Proofs.Ytlljpjehalodfaa.St
set_option maxRecDepth 100000 in
set_option maxHeartbeats 16000000 in
theorem body (w : World) {B c c2 : Nat} {A A2 : Option Addr} {l0 l : List Ac} (h0 : Acts w B A l0) (h : Acts w B A2 l) (hB : B ≤ w.heap.size) (hc0 : l0.length ≤ c) (hl0 : l0.length ≤ 4398046511104) (hc : l.length ≤ c2) (hl : l.length ≤ 4398046511104) :
    Calls Try.prog 8 #[.slice A l0.length c, .slice A2 l.length c2] w fun e w' => e = .returned (.bool true) ∧ Below w.heap.size w w' := by
  have HL0 := Lib.hid h0
  have HL := Lib.hid h
  clear h h0
  go_enter Try.func8, Try.ntmps8
  go_wp2_with fail
  refine (new_calls w).mono ?_
  rintro e w1 ⟨rfl, hA1, hb1⟩
  have HV1 := Lib.hid (Liv.start hA1 hb1)
  have HJ1 := Lib.hid (PJ.empty w.heap.size)
  clear hA1 hb1
  go_wp2_with fail
  refine (lives_calls w1).mono ?_
  rintro e w2 ⟨rfl, hb2⟩
  have HV2 := Lib.hid (HV1.out.on hb2)
  clear hb2 HV1
  generalize hg : w.heap.size + 2 = g at *
  go_wp2_with fail
  refine (few60_calls w2 30 rfl (HL0.out.below (HV2.out.below.mono hB)) (Nat.le_trans hB HV2.out.size) hc0 hl0 (by omega)).mono ?_
  rintro e w3 ⟨k, hk, hk60, rfl, hb3⟩
  have HV3 := Lib.hid (HV2.out.on hb3)
  clear hb3 HV2
  generalize hLe : emptyLS w.heap.size = Le at *
  clear hLe
  go_wp2
  go_loopw [24] (fun i wr => ∃ (j : Nat) (L : LS), j ≤ k ∧ i = .int .i64 (j : Int) ∧ Hid (Liv w wr g L j) ∧ Hid (PJ L.pure)) (fun i _ => k - (intOf i).toNat)
  case atStart => exact ⟨0, Le, Nat.zero_le _, rfl, HV3, HJ1⟩
  case round =>
    obtain ⟨j, L, hj, rfl, HV, HJ⟩ := hrel
    obtain ⟨wi, rfl⟩ : ∃ wi : World, wi = wr := ⟨_, rfl⟩
    clear HV3 HJ1
    by_cases hlt : j < k
    · have d1 : decide ((j : Int) < (k : Int)) = true := dct (by omega)
      have hjl : j < l0.length := by omega
      obtain ⟨b, off, rfl, hbB, hcell⟩ := (HL0.out.below (HV.out.below.mono hB)).at_ hjl
      have HOK := Lib.hid (HL0.out.ok _ (ga_mem hjl))
      have x0 := hcell 0 _ (by omega) rfl
      have x1 := hcell 1 _ (by omega) rfl
      have x2 := hcell 2 _ (by omega) rfl
      have x3 := hcell 3 _ (by omega) rfl
      have x4 := hcell 4 _ (by omega) rfl
      have x5 := hcell 5 _ (by omega) rfl
      have x6 := hcell 6 _ (by omega) rfl
      have x7 := hcell 7 _ (by omega) rfl
      rw [Nat.add_zero] at x0
      clear hcell
      generalize ga l0 j = a at *
      have hi0 : (0 : Int) ≤ (j : Int) := by omega
      have hi1 : (j : Int) < (k : Int) := by omega
      go_upto_region 7 with fail
      have HVa := Lib.hid (HV.out.on ((Below.refl _ _).alloc (Nat.le_refl _) (.cells #[.int .i64 a.kind, .string a.key, .slice a.A a.d.length a.c, .int .i64 a.ver, .int .i64 a.at_, .int .i64 a.n, .int .i64 a.id, .int .i64 a.big] 32)))
      have HBa := Lib.hid (Blk.new wi 32 #[.int .i64 a.kind, .string a.key, .slice a.A a.d.length a.c, .int .i64 a.ver, .int .i64 a.at_, .int .i64 a.n, .int .i64 a.id, .int .i64 a.big])
      have HNF := Lib.hid (HV.out.not_foot (Nat.le_refl _))
      clear x0 x1 x2 x3 x4 x5 x6 x7 HV
      generalize wi.alloc (.cells #[.int .i64 a.kind, .string a.key, .slice a.A a.d.length a.c, .int .i64 a.ver, .int .i64 a.at_, .int .i64 a.n, .int .i64 a.id, .int .i64 a.big] 32) = wa at *
      generalize wi.heap.size = gb at *
      have y0 : wa.cell? ⟨gb, 0, none⟩ = some (.int .i64 a.kind) := HBa.out.cell 0
      have y1 : wa.cell? ⟨gb, 1, none⟩ = some (.string a.key) := HBa.out.cell 1
      have y2 : wa.cell? ⟨gb, 2, none⟩ = some (.slice a.A a.d.length a.c) := HBa.out.cell 2
      have y3 : wa.cell? ⟨gb, 3, none⟩ = some (.int .i64 a.ver) := HBa.out.cell 3
      have y4 : wa.cell? ⟨gb, 4, none⟩ = some (.int .i64 a.at_) := HBa.out.cell 4
      have y5 : wa.cell? ⟨gb, 5, none⟩ = some (.int .i64 a.n) := HBa.out.cell 5
      have y6 : wa.cell? ⟨gb, 6, none⟩ = some (.int .i64 a.id) := HBa.out.cell 6
      have y7 : wa.cell? ⟨gb, 7, none⟩ = some (.int .i64 a.big) := HBa.out.cell 7
      have HC := Lib.hid (call_calls wa a (HOK.out.below (HVa.out.below.mono hB) |>.dat (Nat.le_trans hB HVa.out.le)) HVa.out.lt)
      unfold Ac.val at HC
      go_wp2_with fail
      refine HC.out.mono ?_
      rintro e wb ⟨Ab, cb, rfl, hDb, hbb⟩
      have HVb := Lib.hid (HVa.out.on hbb)
      have HD := Lib.hid (do_live wb (x := a.cl Ab cb) HVb.out.at_ HVb.out.inv (by omega) (by rw [HVb.out.gs]; exact hDb) (Ac.clOk HOK.out Ab cb))
      rw [HVb.out.gs] at HD
      clear hDb HC HVa y0 y1 y2 y3 y4 y5 y6 y7
      go_wp2_with fail
      refine HD.out.mono ?_
      rintro e wd ⟨L', v, rfl, hr, hs, hi⟩
      have HVd := Lib.hid (HVb.out.step hs hi)
      have HRP := Lib.hid hr
      have HST := Lib.hid hs
      clear hs hi HD hr
      have HJ' : Hid (PJ L'.pure) := Lib.hid (by rw [HST.out.pure]; exact HJ.out.step HVb.out.inv.i0 _)
      go_wp2
      go_roundw
      case rel => exact ⟨j + 1, L', by omega, by go_num, HVd, HJ'⟩
      case measure => simp [intOf]; omega
    · obtain rfl : j = k := by omega
      have d1 : decide ((j : Int) < (j : Int)) = false := dcf (by omega)
      have HCP := Lib.hid (copy_calls wi HV.out.at_ (Nat.le_trans HV.out.inv.inv.un (by omega)))
      rw [HV.out.gs] at HCP
      go_wp2_with fail
      refine HCP.out.mono ?_
      rintro e w4 ⟨C, rfl, hAC, hpC, hfC, hb4⟩
      have HT4 : Hid (Two w w4 g L j C.gs C j) := Lib.hid ⟨HV.out.on hb4, ⟨hAC, by rw [hpC]; exact HV.out.inv, rfl, fun i hi => Nat.le_trans HV.out.size (hfC i hi), (HV.out.on hb4).below⟩, fun i hl hc => by have := HV.out.at_.foot_lt hl; have := hfC i hc; omega⟩
      have HJC : Hid (PJ C.pure) := Lib.hid (by rw [hpC]; exact HJ.out)
      clear hAC hpC hfC hb4 HCP HV d1
      generalize hgc : C.gs = gc at *
      clear hgc
      have HDC := Lib.hid (dump_calls w w4 HT4.out.l HJ.out (by omega))
      generalize hD : L.pure.dump = D at *
      have HDD := Lib.hid hD
      clear hD
      go_wp2_with fail
      refine HDC.out.mono ?_
      rintro e w5 ⟨rfl, hb5⟩
      have HT5 := Lib.hid (HT4.out.on hb5)
      clear hb5 HT4 HDC
      go_wp2_with fail
      refine (few60_calls w5 30 rfl (HL.out.below (HT5.out.l.below.mono hB)) (Nat.le_trans hB HT5.out.l.size) hc hl (by omega)).mono ?_
      rintro e w6 ⟨k2, hk2, hk30, rfl, hb6⟩
      have HT6 := Lib.hid (HT5.out.on hb6).swap
      clear hb6 HT5
      go_wp2
      go_loopw [40] (fun i wr => ∃ (q : Nat) (C : LS), q ≤ k2 ∧ i = .int .i64 (q : Int) ∧ Hid (Two w wr gc C (j + q) g L j) ∧ Hid (PJ C.pure)) (fun i _ => k2 - (intOf i).toNat)
      case atStart => exact ⟨0, C, Nat.zero_le _, rfl, HT6, HJC⟩
      case round =>
        clear HT6 HJC
        obtain ⟨q, E, hq, rfl, HV, HJE⟩ := hrel
        obtain ⟨wi, rfl⟩ : ∃ wi : World, wi = wr := ⟨_, rfl⟩
        by_cases hlt2 : q < k2
        · have d1 : decide ((q : Int) < (k2 : Int)) = true := dct (by omega)
          have hjl : q < l.length := by omega
          obtain ⟨b, off, rfl, hbB, hcell⟩ := (HL.out.below (HV.out.l.below.mono hB)).at_ hjl
          have HOK := Lib.hid (HL.out.ok _ (ga_mem hjl))
          have x0 := hcell 0 _ (by omega) rfl
          have x1 := hcell 1 _ (by omega) rfl
          have x2 := hcell 2 _ (by omega) rfl
          have x3 := hcell 3 _ (by omega) rfl
          have x4 := hcell 4 _ (by omega) rfl
          have x5 := hcell 5 _ (by omega) rfl
          have x6 := hcell 6 _ (by omega) rfl
          have x7 := hcell 7 _ (by omega) rfl
          rw [Nat.add_zero] at x0
          clear hcell
          generalize ga l q = a at *
          have hi0 : (0 : Int) ≤ (q : Int) := by omega
          have hi1 : (q : Int) < (k2 : Int) := by omega
          go_upto_region 14 with fail
          have HVa := Lib.hid (HV.out.on ((Below.refl _ _).alloc (Nat.le_refl _) (.cells #[.int .i64 a.kind, .string a.key, .slice a.A a.d.length a.c, .int .i64 a.ver, .int .i64 a.at_, .int .i64 a.n, .int .i64 a.id, .int .i64 a.big] 32)))
          have HBa := Lib.hid (Blk.new wi 32 #[.int .i64 a.kind, .string a.key, .slice a.A a.d.length a.c, .int .i64 a.ver, .int .i64 a.at_, .int .i64 a.n, .int .i64 a.id, .int .i64 a.big])
          clear x0 x1 x2 x3 x4 x5 x6 x7 HV
          generalize wi.alloc (.cells #[.int .i64 a.kind, .string a.key, .slice a.A a.d.length a.c, .int .i64 a.ver, .int .i64 a.at_, .int .i64 a.n, .int .i64 a.id, .int .i64 a.big] 32) = wa at *
          generalize wi.heap.size = gb at *
          have y0 : wa.cell? ⟨gb, 0, none⟩ = some (.int .i64 a.kind) := HBa.out.cell 0
          have y1 : wa.cell? ⟨gb, 1, none⟩ = some (.string a.key) := HBa.out.cell 1
          have y2 : wa.cell? ⟨gb, 2, none⟩ = some (.slice a.A a.d.length a.c) := HBa.out.cell 2
          have y3 : wa.cell? ⟨gb, 3, none⟩ = some (.int .i64 a.ver) := HBa.out.cell 3
          have y4 : wa.cell? ⟨gb, 4, none⟩ = some (.int .i64 a.at_) := HBa.out.cell 4
          have y5 : wa.cell? ⟨gb, 5, none⟩ = some (.int .i64 a.n) := HBa.out.cell 5
          have y6 : wa.cell? ⟨gb, 6, none⟩ = some (.int .i64 a.id) := HBa.out.cell 6
          have y7 : wa.cell? ⟨gb, 7, none⟩ = some (.int .i64 a.big) := HBa.out.cell 7
          have HC := Lib.hid (call_calls wa a (HOK.out.below (HVa.out.l.below.mono hB) |>.dat (Nat.le_trans hB HVa.out.l.le)) HVa.out.l.lt)
          unfold Ac.val at HC
          go_wp2_with fail
          refine HC.out.mono ?_
          rintro e wb ⟨Ab, cb, rfl, hDb, hbb⟩
          have HVb := Lib.hid (HVa.out.on hbb)
          have HD := Lib.hid (do_live wb (x := a.cl Ab cb) HVb.out.l.at_ HVb.out.l.inv (by omega) (by rw [HVb.out.l.gs]; exact hDb) (Ac.clOk HOK.out Ab cb))
          rw [HVb.out.l.gs] at HD
          clear hDb HC HVa HBa y0 y1 y2 y3 y4 y5 y6 y7
          go_wp2_with fail
          refine HD.out.mono ?_
          rintro e wd ⟨L', v, rfl, -, hs, hi⟩
          have HVd := Lib.hid (HVb.out.stepL hs hi)
          have HJd : Hid (PJ L'.pure) := Lib.hid (by rw [hs.pure]; exact HJE.out.step HVb.out.l.inv.i0 _)
          clear hs hi HD HVb hbb HJE
          have HTK := Lib.hid (tick_live wd HVd.out.l.at_ HVd.out.l.inv (k := 1) (wfI (by decide) (by decide)))
          rw [HVd.out.l.gs] at HTK
          go_wp2_with fail
          refine HTK.out.mono ?_
          rintro e we ⟨rfl, hAe, hKe, hIe⟩
          have HVe := Lib.hid (HVd.out.tickL hAe hKe hIe)
          have HJe : Hid (PJ (L'.tick 1).pure) := Lib.hid (by rw [pure_tick]; exact HJd.out.tick 1)
          clear hAe hKe hIe HTK HVd HJd
          go_wp2
          go_roundw
          case rel => exact ⟨q + 1, _, by omega, by go_num, HVe, HJe⟩
          case measure => simp [intOf]; omega
        · obtain rfl : q = k2 := by omega
          have d1 : decide ((q : Int) < (q : Int)) = false := dcf (by omega)
          have HDC := Lib.hid (dump_calls w wi HV.out.c HJ.out (by omega))
          rw [HDD.out] at HDC
          go_wp2_with fail
          refine HDC.out.mono ?_
          rintro e w7 ⟨rfl, hb7⟩
          have HT7 := Lib.hid (HV.out.on hb7)
          clear hb7 HV HDC
          have HDE := Lib.hid (dump_calls w w7 HT7.out.l HJE.out (by omega))
          generalize hD2 : E.pure.dump = D2 at *
          have HD2 := Lib.hid hD2
          clear hD2
          go_wp2_with fail
          refine HDE.out.mono ?_
          rintro e w8 ⟨rfl, hb8⟩
          have HT8 := Lib.hid (HT7.out.on hb8)
          clear hb8 HT7 HDE
          go_wp2_with fail
          refine (few60_calls w8 30 rfl (HL.out.below (HT8.out.l.below.mono hB)) (Nat.le_trans hB HT8.out.l.size) hc hl (by omega)).mono ?_
          rintro e w9 ⟨k3, hk3, hk33, rfl, hb9⟩
          have HT9 := Lib.hid (HT8.out.on hb9).swap
          clear hb9 HT8
          go_wp2
          go_loopw [60] (fun i wr => ∃ (r : Nat) (M : LS), r ≤ k3 ∧ i = .int .i64 (r : Int) ∧ Hid (Two w wr g M (j + r) gc E (j + q)) ∧ Hid (PJ M.pure)) (fun i _ => k3 - (intOf i).toNat)
          case atStart => exact ⟨0, L, Nat.zero_le _, rfl, HT9, HJ⟩
          case round =>
            clear HT9 HJ
            obtain ⟨r, M, hr, rfl, HV, HJM⟩ := hrel
            obtain ⟨wi, rfl⟩ : ∃ wi : World, wi = wr := ⟨_, rfl⟩
            by_cases hlt3 : r < k3
            · have d1 : decide ((r : Int) < (k3 : Int)) = true := dct (by omega)
              have hjl : r < l.length := by omega
              obtain ⟨b, off, rfl, hbB, hcell⟩ := (HL.out.below (HV.out.l.below.mono hB)).at_ hjl
              have HOK := Lib.hid (HL.out.ok _ (ga_mem hjl))
              have x0 := hcell 0 _ (by omega) rfl
              have x1 := hcell 1 _ (by omega) rfl
              have x2 := hcell 2 _ (by omega) rfl
              have x3 := hcell 3 _ (by omega) rfl
              have x4 := hcell 4 _ (by omega) rfl
              have x5 := hcell 5 _ (by omega) rfl
              have x6 := hcell 6 _ (by omega) rfl
              have x7 := hcell 7 _ (by omega) rfl
              rw [Nat.add_zero] at x0
              clear hcell
              generalize ga l r = a at *
              have hi0 : (0 : Int) ≤ (r : Int) := by omega
              have hi1 : (r : Int) < (k3 : Int) := by omega
              go_upto_region 23 with fail
              have HVa := Lib.hid (HV.out.on ((Below.refl _ _).alloc (Nat.le_refl _) (.cells #[.int .i64 a.kind, .string a.key, .slice a.A a.d.length a.c, .int .i64 a.ver, .int .i64 a.at_, .int .i64 a.n, .int .i64 a.id, .int .i64 a.big] 32)))
              have HBa := Lib.hid (Blk.new wi 32 #[.int .i64 a.kind, .string a.key, .slice a.A a.d.length a.c, .int .i64 a.ver, .int .i64 a.at_, .int .i64 a.n, .int .i64 a.id, .int .i64 a.big])
              clear x0 x1 x2 x3 x4 x5 x6 x7 HV
              generalize wi.alloc (.cells #[.int .i64 a.kind, .string a.key, .slice a.A a.d.length a.c, .int .i64 a.ver, .int .i64 a.at_, .int .i64 a.n, .int .i64 a.id, .int .i64 a.big] 32) = wa at *
              generalize wi.heap.size = gb at *
              have y0 : wa.cell? ⟨gb, 0, none⟩ = some (.int .i64 a.kind) := HBa.out.cell 0
              have y1 : wa.cell? ⟨gb, 1, none⟩ = some (.string a.key) := HBa.out.cell 1
              have y2 : wa.cell? ⟨gb, 2, none⟩ = some (.slice a.A a.d.length a.c) := HBa.out.cell 2
              have y3 : wa.cell? ⟨gb, 3, none⟩ = some (.int .i64 a.ver) := HBa.out.cell 3
              have y4 : wa.cell? ⟨gb, 4, none⟩ = some (.int .i64 a.at_) := HBa.out.cell 4
              have y5 : wa.cell? ⟨gb, 5, none⟩ = some (.int .i64 a.n) := HBa.out.cell 5
              have y6 : wa.cell? ⟨gb, 6, none⟩ = some (.int .i64 a.id) := HBa.out.cell 6
              have y7 : wa.cell? ⟨gb, 7, none⟩ = some (.int .i64 a.big) := HBa.out.cell 7
              have HC := Lib.hid (call_calls wa a (HOK.out.below (HVa.out.l.below.mono hB) |>.dat (Nat.le_trans hB HVa.out.l.le)) HVa.out.l.lt)
              unfold Ac.val at HC
              go_wp2_with fail
              refine HC.out.mono ?_
              rintro e wb ⟨Ab, cb, rfl, hDb, hbb⟩
              have HVb := Lib.hid (HVa.out.on hbb)
              have HD := Lib.hid (do_live wb (x := a.cl Ab cb) HVb.out.l.at_ HVb.out.l.inv (by omega) (by rw [HVb.out.l.gs]; exact hDb) (Ac.clOk HOK.out Ab cb))
              rw [HVb.out.l.gs] at HD
              clear hDb HC HVa HBa y0 y1 y2 y3 y4 y5 y6 y7
              go_wp2_with fail
              refine HD.out.mono ?_
              rintro e wd ⟨L', v, rfl, -, hs, hi⟩
              have HVd := Lib.hid (HVb.out.stepL hs hi)
              have HJd : Hid (PJ L'.pure) := Lib.hid (by rw [hs.pure]; exact HJM.out.step HVb.out.l.inv.i0 _)
              clear hs hi HD HVb hbb HJM
              go_wp2
              go_roundw
              case rel => exact ⟨r + 1, _, by omega, by go_num, HVd, HJd⟩
              case measure => simp [intOf]; omega
            · obtain rfl : r = k3 := by omega
              have d1 : decide ((r : Int) < (r : Int)) = false := dcf (by omega)
              have HDC := Lib.hid (dump_calls w wi HV.out.c HJE.out (by omega))
              rw [HD2.out] at HDC
              go_wp2_with fail
              refine HDC.out.mono ?_
              rintro e w10 ⟨rfl, hb10⟩
              have HF := Lib.hid (HV.out.on hb10).l.below
              clear hb10 HV HDC
              go_wp2
              go_ret
              exact ⟨rfl, HF.out⟩
theorem walk {H : Type} {enc : TypeId × Value → H} {W : World} {base : Nat} {v0 v1 : Value} {d0 d1 : DataW H} {p0 p1 : List MemPlace} (g0 : Arg enc Try.prog W base 22 v0 d0 p0) (g1 : Arg enc Try.prog W base 22 v1 d1 p1) :
    Calls Try.prog 8 #[v0, v1] W fun e w' => e = .returned (.bool true) ∧ Below W.heap.size W w' := by
  obtain ⟨A, c, l, rfl, hc, hl, hL⟩ := arg_acts g0
  obtain ⟨A2, c2, l2, rfl, hc2, hl2, hL2⟩ := arg_acts g1
  exact body W hL hL2 (Nat.le_refl _) hc hl hc2 hl2
end Go.Proofs.Ytlljpjehalodfaa.lawStoreCopies
