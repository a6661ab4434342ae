/- StoreOnce: the walk. -/
import Derived.Test.YtlljpjehalodfaaProg
import Derived.Test.YtlljpjehalodfaaSaR
import Derived.Test.YtlljpjehalodfaaSaF
import Derived.Test.YtlljpjehalodfaaTailB
namespace Go.Proofs.Ytlljpjehalodfaa.lawStoreOnce
open Go.RowKit Go.Proofs.Ytlljpjehalodfaa Go.Proofs.Ytlljpjehalodfaa.St
/-- What the conditional puts made so far, and what stands there. -/
def Puts (m : Nat) (ver v : Int) : Prop := (m = 0 ∧ v = ver) ∨ (m = 1 ∧ ver < v)
set_option maxRecDepth 100000 in
set_option maxHeartbeats 16000000 in
theorem body (w : World) {B c : Nat} {A : Option Addr} {l : List Ac} (h : Acts w B A l) (hB : B ≤ w.heap.size) (hc : l.length ≤ c) (hl : l.length ≤ 4398046511104) {cD : Nat} {AD : Option Addr} {D : List Dt} (h2 : Dts w B AD D) :
    Calls Try.prog 3 #[.slice A l.length c, .slice AD D.length cD] w fun e w' => e = .returned (.bool true) ∧ Below w.heap.size w w' := by
  have HL := Lib.hid h
  have HT := Lib.hid h2
  clear h h2
  go_enter Try.func3, Try.ntmps3
  go_wp2_with fail
  refine (new_calls w).mono ?_
  rintro e w1 ⟨rfl, hA1, hb1⟩
  have HV1 := Lib.hid (Liv.start hA1 hb1)
  have hL0v : 0 ≤ (emptyLS w.heap.size).ver := Int.le_refl _
  clear hA1 hb1
  go_wp2_with fail
  refine (lives_calls w1).mono ?_
  rintro e w2 ⟨rfl, hb2⟩
  have HV2 := Lib.hid (HV1.out.on hb2)
  clear hb2 HV1
  generalize hg : w.heap.size + 2 = g at *
  by_cases hbg : 20 < D.length
  · have d1 : decide ((20 : Int) < (D.length : Int)) = true := dct (by omega)
    go_wp2
    go_ret
    exact ⟨rfl, HV2.out.below⟩
  have d1 : decide ((20 : Int) < (D.length : Int)) = false := dcf (by omega)
  go_wp2_with fail
  refine (few60_calls w2 40 rfl (HL.out.below (HV2.out.below.mono hB)) (Nat.le_trans hB HV2.out.size) hc hl (by omega)).mono ?_
  rintro e w3 ⟨k, hk, hk60, rfl, hb3⟩
  have HV3 := Lib.hid (HV2.out.on hb3)
  clear hb3 HV2 d1
  generalize hL0 : emptyLS w.heap.size = L0 at *
  clear hL0
  go_wp2
  go_loopw [6, 32] (fun v i wr => ∃ (j : Nat) (L : LS) (last : Int), j ≤ k ∧ i = .int .i64 (j : Int) ∧ v = .int .i64 last ∧ 0 ≤ last ∧ last ≤ L.ver ∧ Hid (Liv w wr g L j)) (fun _ i _ => k - (intOf i).toNat)
  case atStart => exact ⟨0, L0, 0, Nat.zero_le _, rfl, rfl, Int.le_refl _, hL0v, HV3⟩
  case round =>
    obtain ⟨j, L, last, hj, rfl, rfl, hl0, hll, HV⟩ := hrel
    obtain ⟨wi, rfl⟩ : ∃ wi : World, wi = wr := ⟨_, rfl⟩
    clear HV3 hL0v
    by_cases hlt : j < k
    · have d1 : decide ((j : Int) < (k : Int)) = true := dct (by omega)
      have hjl : j < l.length := by omega
      obtain ⟨b, off, rfl, hbB, hcell⟩ := (HL.out.below (HV.out.below.mono hB)).at_ hjl
      have HOK := Lib.hid (HL.out.ok _ (ga_mem hjl))
      have x0 := hcell 0 _ (by omega) rfl
      have x1 := hcell 1 _ (by omega) rfl
      have x2 := hcell 2 _ (by omega) rfl
      have x3 := hcell 3 _ (by omega) rfl
      have x4 := hcell 4 _ (by omega) rfl
      have x5 := hcell 5 _ (by omega) rfl
      have x6 := hcell 6 _ (by omega) rfl
      have x7 := hcell 7 _ (by omega) rfl
      rw [Nat.add_zero] at x0
      clear hcell
      generalize ga l j = a at *
      have hi0 : (0 : Int) ≤ (j : Int) := by omega
      have hi1 : (j : Int) < (k : Int) := by omega
      go_upto_region 8 with fail
      have HVa := Lib.hid (HV.out.on ((Below.refl _ _).alloc (Nat.le_refl _) (.cells #[.int .i64 a.kind, .string a.key, .slice a.A a.d.length a.c, .int .i64 a.ver, .int .i64 a.at_, .int .i64 a.n, .int .i64 a.id, .int .i64 a.big] 32)))
      have HBa := Lib.hid (Blk.new wi 32 #[.int .i64 a.kind, .string a.key, .slice a.A a.d.length a.c, .int .i64 a.ver, .int .i64 a.at_, .int .i64 a.n, .int .i64 a.id, .int .i64 a.big])
      have HNF := Lib.hid (HV.out.not_foot (Nat.le_refl _))
      clear x0 x1 x2 x3 x4 x5 x6 x7 HV
      generalize wi.alloc (.cells #[.int .i64 a.kind, .string a.key, .slice a.A a.d.length a.c, .int .i64 a.ver, .int .i64 a.at_, .int .i64 a.n, .int .i64 a.id, .int .i64 a.big] 32) = wa at *
      generalize wi.heap.size = gb at *
      have y0 : wa.cell? ⟨gb, 0, none⟩ = some (.int .i64 a.kind) := HBa.out.cell 0
      have y1 : wa.cell? ⟨gb, 1, none⟩ = some (.string a.key) := HBa.out.cell 1
      have y2 : wa.cell? ⟨gb, 2, none⟩ = some (.slice a.A a.d.length a.c) := HBa.out.cell 2
      have y3 : wa.cell? ⟨gb, 3, none⟩ = some (.int .i64 a.ver) := HBa.out.cell 3
      have y4 : wa.cell? ⟨gb, 4, none⟩ = some (.int .i64 a.at_) := HBa.out.cell 4
      have y5 : wa.cell? ⟨gb, 5, none⟩ = some (.int .i64 a.n) := HBa.out.cell 5
      have y6 : wa.cell? ⟨gb, 6, none⟩ = some (.int .i64 a.id) := HBa.out.cell 6
      have y7 : wa.cell? ⟨gb, 7, none⟩ = some (.int .i64 a.big) := HBa.out.cell 7
      have HC := Lib.hid (call_calls wa a (HOK.out.below (HVa.out.below.mono hB) |>.dat (Nat.le_trans hB HVa.out.le)) HVa.out.lt)
      unfold Ac.val at HC
      go_wp2_with fail
      refine HC.out.mono ?_
      rintro e wb ⟨Ab, cb, rfl, hDb, hbb⟩
      have HVb := Lib.hid (HVa.out.on hbb)
      have HD := Lib.hid (do_live wb (x := a.cl Ab cb) HVb.out.at_ HVb.out.inv (by omega) (by rw [HVb.out.gs]; exact hDb) (Ac.clOk HOK.out Ab cb))
      rw [HVb.out.gs] at HD
      clear hDb HC HVa y0 y1 y2 y3 y4 y5 y6 y7
      go_wp2_with fail
      refine HD.out.mono ?_
      rintro e wd ⟨L', v, rfl, hr, hs, hi⟩
      have HVd := Lib.hid (HVb.out.step hs hi)
      have HRP := Lib.hid hr
      have HST := Lib.hid hs
      clear hs hi HD hr
      have HBd := Lib.hid (HST.out.keep.blk (HBa.out.below hbb HBa.out.lt) HNF.out)
      have hpv : L'.ver = ((L.pure.step (a.cl Ab cb).pure).1).ver := by rw [← HST.out.pure]; rfl
      have hsv := step_ver L.pure (a.cl Ab cb).pure
      rw [← hpv] at hsv
      have hsk : (a.cl Ab cb).pure.kind = a.kind := rfl
      rw [hsk] at hsv
      have hlv : L.pure.ver = L.ver := rfl
      rw [hlv] at hsv
      have hr := HRP.out
      clear HST HRP hpv hsk hlv HBa HNF hbb
      generalize (L.pure.step (a.cl Ab cb).pure).2 = r at *
      obtain ⟨A5, c5, A6, c6, rfl, -, -⟩ := hr
      have HSV := Lib.hid hsv
      clear hsv
      go_upto_region 9 with fail
      have HV6 := Lib.hid (HVd.out.on ((Below.refl _ _).alloc (Nat.le_refl _) (.cells #[.int .i64 r.err, .slice A5 r.d.length c5, .int .i64 r.ver, .int .i64 r.born, .int .i64 r.id, .slice A6 r.list.length c6, .bool r.more] 36)))
      have HBR6 := Lib.hid (Blk.new wd 36 #[.int .i64 r.err, .slice A5 r.d.length c5, .int .i64 r.ver, .int .i64 r.born, .int .i64 r.id, .slice A6 r.list.length c6, .bool r.more])
      have HBA6 := Lib.hid (HBd.out.alloc (.cells #[.int .i64 r.err, .slice A5 r.d.length c5, .int .i64 r.ver, .int .i64 r.born, .int .i64 r.id, .slice A6 r.list.length c6, .bool r.more] 36))
      clear HVd HBd
      generalize wd.alloc (.cells #[.int .i64 r.err, .slice A5 r.d.length c5, .int .i64 r.ver, .int .i64 r.born, .int .i64 r.id, .slice A6 r.list.length c6, .bool r.more] 36) = w6 at *
      generalize wd.heap.size = g6 at *
      have y0 : w6.cell? ⟨gb, 0, none⟩ = some (.int .i64 a.kind) := HBA6.out.cell 0
      have z0 : w6.cell? ⟨g6, 0, none⟩ = some (.int .i64 r.err) := HBR6.out.cell 0
      have z2 : w6.cell? ⟨g6, 2, none⟩ = some (.int .i64 r.ver) := HBR6.out.cell 2
      have hsv := HSV.out
      by_cases he : r.err = 0
      · have e0 := eqt he
        by_cases k1 : a.kind = 1
        · skip
          have b1 := eqt k1
          have b2 := trivial
          have b9 := trivial
          have hl2 := hsv.2 he (.inl k1)
          have hl3 : last < r.ver := by omega
          have hl4 : r.ver ≤ L'.ver := by omega
          clear hsv hl2
          have d2 : decide (r.ver ≤ last) = false := dcf (by omega)
          go_wp2
          go_roundw
          case rel => exact ⟨j + 1, L', r.ver, by omega, by go_num, rfl, by omega, by omega, HV6⟩
          case measure => simp [intOf]; omega
        by_cases k2 : a.kind = 2
        · skip
          have b1 := eqf k1
          have b2 := eqt k2
          have b9 := trivial
          have hl2 := hsv.2 he (.inr (.inl k2))
          have hl3 : last < r.ver := by omega
          have hl4 : r.ver ≤ L'.ver := by omega
          clear hsv hl2
          have d2 : decide (r.ver ≤ last) = false := dcf (by omega)
          go_wp2
          go_roundw
          case rel => exact ⟨j + 1, L', r.ver, by omega, by go_num, rfl, by omega, by omega, HV6⟩
          case measure => simp [intOf]; omega
        by_cases k9 : a.kind = 9
        · skip
          have b1 := eqf k1
          have b2 := eqf k2
          have b9 := eqt k9
          have hl2 := hsv.2 he (.inr (.inr k9))
          have hl3 : last < r.ver := by omega
          have hl4 : r.ver ≤ L'.ver := by omega
          clear hsv hl2
          have d2 : decide (r.ver ≤ last) = false := dcf (by omega)
          go_wp2
          go_roundw
          case rel => exact ⟨j + 1, L', r.ver, by omega, by go_num, rfl, by omega, by omega, HV6⟩
          case measure => simp [intOf]; omega
        have b1 := eqf k1
        have b2 := eqf k2
        have b9 := eqf k9
        have hl3 : last ≤ L'.ver := by omega
        clear hsv
        go_wp2
        go_roundw
        case rel => exact ⟨j + 1, L', last, by omega, by go_num, rfl, by omega, by omega, HV6⟩
        case measure => simp [intOf]; omega
      · have e0 := eqf he
        have hl3 : last ≤ L'.ver := by omega
        clear hsv
        go_wp2
        go_roundw
        case rel => exact ⟨j + 1, L', last, by omega, by go_num, rfl, by omega, by omega, HV6⟩
        case measure => simp [intOf]; omega
    · obtain rfl : j = k := by omega
      have d1 : decide ((j : Int) < (j : Int)) = false := dcf (by omega)
      have hg14 := getA_live wi HV.out.at_ HV.out.inv (by omega)
      rw [HV.out.gs] at hg14
      have HG := Lib.hid hg14
      clear hg14 hl0 hll
      go_wp2_with fail
      refine HG.out.mono ?_
      rintro e w4 ⟨r, A5, c5, A6, c6, rfl, hrv, -, -, -, hb4⟩
      have HV4 := Lib.hid (HV.out.on hb4)
      have HRV := Lib.hid hrv
      clear hb4 HV HG hrv
      generalize hver : r.ver = ver at *
      clear hver
      have hfd : ∀ W : World, (Instr.field 36 (.agg #[.int .i64 r.err, .slice A5 r.d.length c5, .int .i64 ver, .int .i64 r.born, .int .i64 r.id, .slice A6 r.list.length c6, .bool r.more]) 2).run Try.prog W = .ok (.int .i64 ver) W := fun _ => by kernel_rfl
      go_wp2
      clear hfd
      go_loopw [11, 74] (fun m i wr => ∃ (q : Nat) (L : LS) (md : Nat), q ≤ D.length ∧ i = .int .i64 (q : Int) ∧ m = .int .i64 (md : Int) ∧ Hid (Puts md ver (verA L.pure)) ∧ Hid (Liv w wr g L (j + q))) (fun _ i _ => D.length - (intOf i).toNat)
      case atStart => exact ⟨0, L, 0, Nat.zero_le _, rfl, rfl, Lib.hid (.inl ⟨rfl, HRV.out.symm⟩), HV4⟩
      case round =>
        clear HV4 HRV
        obtain ⟨q, M, md, hq, rfl, rfl, HP, HV⟩ := hrel
        obtain ⟨wj, rfl⟩ : ∃ wj : World, wj = wr := ⟨_, rfl⟩
        by_cases hlt2 : q < D.length
        · have d2 : decide ((q : Int) < (D.length : Int)) = true := dct (by omega)
          obtain ⟨b, off, rfl, hbB, x0⟩ := (HT.out.below (HV.out.below.mono hB)).at_ hlt2
          have HY := Lib.hid ((HT.out.ok _ (gd_mem hlt2)).below (HV.out.below.mono hB))
          generalize gd D q = y at *
          have hi0 : (0 : Int) ≤ (q : Int) := by omega
          have hi1 : (q : Int) < (D.length : Int) := by omega
          have hyc := HY.out.dc
          have hycm := HY.out.cm
          go_upto_if 80 with fail
          go_cut [13] (fun v wx => ∃ z : Dt, v = .slice z.A z.d.length z.c ∧ Hid (z.ok wx B) ∧ Hid (z.d.length ≤ 1000) ∧ wj = wx)
          case first =>
            by_cases h1000 : 1000 < y.d.length
            · have d3 : decide ((1000 : Int) < (y.d.length : Int)) = true := dct (by omega)
              go_wp2
              go_meet
              exact ⟨⟨y.A, y.c, y.d.take 1000⟩, by dsimp only; rw [List.length_take, Nat.min_eq_left (by omega)], Lib.hid (HY.out.cut (by omega)), Lib.hid (by dsimp only; rw [List.length_take]; omega), rfl⟩
            · have d3 : decide ((1000 : Int) < (y.d.length : Int)) = false := dcf (by omega)
              go_wp2
              go_meet
              exact ⟨y, rfl, HY, Lib.hid (by omega), rfl⟩
          case rest =>
            obtain ⟨z, rfl, HZ, HZL, rfl⟩ := hcut
            clear HY x0 hyc hycm
            have hzl := HZL.out
            have hp := putA_live wj (ver := ver) (A := z.A) (c := z.c) (d := z.d) HV.out.at_ HV.out.inv (by omega) (by rw [HV.out.gs]; exact HZ.out.dat (Nat.le_trans hB HV.out.le)) (by omega)
            rw [HV.out.gs] at hp
            have HPC := Lib.hid hp
            clear hp
            go_wp2_with fail
            refine HPC.out.mono ?_
            rintro e w5 ⟨L', r5, A7, c7, A8, c8, rfl, hok, herr, hs, hi'⟩
            have HV5 := Lib.hid (HV.out.step hs hi')
            have HZ5 := Lib.hid (HZ.out.below (hs.below (Nat.le_trans hB HV.out.size) (fun i hi => Nat.le_trans hB (HV.out.high i hi))))
            have HOKR := Lib.hid hok
            have HERR := Lib.hid herr
            clear hs hi' hok herr HPC HZ
            go_upto_region 22 with fail
            have HV6 := Lib.hid (HV5.out.on ((Below.refl _ _).alloc (Nat.le_refl _) (.cells #[.int .i64 r5.err, .slice A7 r5.d.length c7, .int .i64 r5.ver, .int .i64 r5.born, .int .i64 r5.id, .slice A8 r5.list.length c8, .bool r5.more] 36)))
            have HBR6 := Lib.hid (Blk.new w5 36 #[.int .i64 r5.err, .slice A7 r5.d.length c7, .int .i64 r5.ver, .int .i64 r5.born, .int .i64 r5.id, .slice A8 r5.list.length c8, .bool r5.more])
            have hb5s : B ≤ w5.heap.size := Nat.le_trans hB HV5.out.size
            have HZ6 := Lib.hid (HZ5.out.below (((Below.refl _ _).alloc (Nat.le_refl _) (.cells #[.int .i64 r5.err, .slice A7 r5.d.length c7, .int .i64 r5.ver, .int .i64 r5.born, .int .i64 r5.id, .slice A8 r5.list.length c8, .bool r5.more] 36)).mono hb5s))
            clear HV5 HZ5
            generalize w5.alloc (.cells #[.int .i64 r5.err, .slice A7 r5.d.length c7, .int .i64 r5.ver, .int .i64 r5.born, .int .i64 r5.id, .slice A8 r5.list.length c8, .bool r5.more] 36) = w6 at *
            generalize w5.heap.size = g6 at *
            have z0 : w6.cell? ⟨g6, 0, none⟩ = some (.int .i64 r5.err) := HBR6.out.cell 0
            by_cases he : r5.err = 0
            · have e0 := eqt he
              have hm := HOKR.out he
              have hva := verA_le HV.out.inv
              have HP2 : Hid (md = 0 ∧ Puts 1 ver (verA L'.pure)) := Lib.hid (by
                rcases HP.out with ⟨h1, h2⟩ | ⟨h1, h2⟩
                · refine ⟨h1, .inr ⟨rfl, ?_⟩⟩
                  rw [hm.2, made_verA]; omega
                · omega)
              have hmd := HP2.out.1
              subst hmd
              have HMG : Hid (∃ o, mget L'.pure.objs keyA = some o ∧ o.d = z.d) := Lib.hid ⟨_, by rw [hm.2]; exact made_getA _ _, rfl⟩
              clear hm hva HOKR HERR HP HBR6 HV
              go_upto_region 24 with fail
              have HGC := Lib.hid (getA_live (w6.drewN 1) (HV6.out.at_.drewN 1) HV6.out.inv (by omega))
              rw [HV6.out.gs] at HGC
              have HCV : Hid (∀ W, Below B w6 W → (convert 28 9 (.slice z.A z.d.length z.c)).run Try.prog W = .ok (.string (bz z.d)) W) := Lib.hid fun W hW => (HZ6.out.bytes.below hW).conv Try.prog z.c 28 5 9 Try.underlying28 Try.underlying5 Try.underlying9
              have hb6s : B ≤ w6.heap.size := Nat.le_trans hB HV6.out.size
              refine wp_region_T 99 (fun w' => (convert 28 9 (.slice z.A z.d.length z.c)).run Try.prog w' = .ok (.string (bz z.d)) w') (by kernel_rfl) (HCV.out _ (below_drewN_ (Below.refl _ _) 1)) (fun hHeld => ?_)
              refine wpAnyT_take (i := 0) (oi := _) (v := ?_) rfl (by kernel_rfl) (fun _ _ _ h => h) (Or.inl ⟨by kernel_rfl, ?_⟩) (by assumption) ?_; rotate_left; (focus (intro w hSw; (try dsimp only at hSw); go_simp; (try with_reducible rfl))); (try simp only [Act.put, List.getElem_toArray, List.getElem_cons_zero, List.setIfInBounds_toArray, List.set_cons_zero, List.set_cons_succ])
              refine wpAnyT_take (i := 1) (oi := _) (v := ?_) rfl (by kernel_rfl) (fun _ _ _ h => h) (Or.inl ⟨by kernel_rfl, ?_⟩) (by assumption) ?_; rotate_left; (focus (intro w hSw; (try dsimp only at hSw); go_simp; (try with_reducible rfl))); (try simp only [Act.put, List.getElem_toArray, List.getElem_cons_zero, List.getElem_cons_succ, List.setIfInBounds_toArray, List.set_cons_zero, List.set_cons_succ])
              refine wpAnyT_take (i := 5) (oi := _) (v := ?_) rfl (by kernel_rfl) (fun _ _ _ h => h) (Or.inl ⟨by kernel_rfl, ?_⟩) (by assumption) ?_; rotate_left; (focus (intro w hSw; (try dsimp only at hSw); go_simp; (try with_reducible rfl))); (try simp only [Act.put, List.getElem_toArray, List.getElem_cons_zero, List.getElem_cons_succ, List.setIfInBounds_toArray, List.set_cons_zero, List.set_cons_succ])
              refine wpAnyT_take (i := 6) (oi := _) (v := ?_) rfl (by kernel_rfl) (fun _ _ _ h => h) (Or.inl ⟨by kernel_rfl, ?_⟩) (by assumption) ?_; rotate_left; (focus (intro w hSw; (try dsimp only at hSw); go_simp; (try with_reducible rfl))); (try simp only [Act.put, List.getElem_toArray, List.getElem_cons_zero, List.getElem_cons_succ, List.setIfInBounds_toArray, List.set_cons_zero, List.set_cons_succ])
              refine wpAnyT_one (i := 2) (by kernel_rfl) rfl (fun K hK => ?_); go_simp
              refine HGC.out.mono ?_
              rintro e w7 ⟨r7, A9, c9, A10, c10, rfl, -, hr7, hown7, hA7, hb7'⟩
              have hb7 : Below w6.heap.size w6 w7 := (below_drewN_ (Below.refl _ _) 1).trans hb7'
              obtain ⟨o, ho, hod⟩ := HMG.out
              have hrd := (hr7 o ho).2
              rw [hod] at hrd
              rw [hrd] at hown7 ⊢
              have hH7 := HCV.out _ (hb7.mono hb6s)
              have HV7 := Lib.hid (HV6.out.on hb7)
              have HCR : Hid (∀ W, Below w7.heap.size w7 W → (convert 28 9 (.slice A9 z.d.length c9)).run Try.prog W = .ok (.string (bz z.d)) W) := Lib.hid fun W hW => ((own_bytes hown7).to hW (Nat.le_refl _)).conv Try.prog c9 28 5 9 Try.underlying28 Try.underlying5 Try.underlying9
              have hfe : ∀ W : World, (Instr.field 36 (.agg #[.int .i64 r7.err, .slice A9 z.d.length c9, .int .i64 r7.ver, .int .i64 r7.born, .int .i64 r7.id, .slice A10 r7.list.length c10, .bool r7.more]) 1).run Try.prog W = .ok (.slice A9 z.d.length c9) W := fun _ => by kernel_rfl
              refine hK.out _ _ (fun _ => hH7) ?_
              clear hK K hHeld hr7 hown7 hA7 hb7' hrd hod ho
              (try simp only [Act.put, List.getElem_toArray, List.getElem_cons_zero, List.getElem_cons_succ, List.setIfInBounds_toArray, List.set_cons_zero, List.set_cons_succ])
              refine wpAnyT_more (S' := fun W => (convert 28 9 (.slice z.A z.d.length z.c)).run Try.prog W = .ok (.string (bz z.d)) W ∧ (convert 28 9 (.slice A9 z.d.length c9)).run Try.prog W = .ok (.string (bz z.d)) W) (fun _ h => h.1) ?_
              have hHeld := And.intro hH7 (HCR.out _ (Below.refl _ _))
              refine wpAnyT_take (i := 3) (oi := _) (v := ?_) rfl (by kernel_rfl) (fun _ _ _ h => h) (Or.inl ⟨by kernel_rfl, ?_⟩) (by assumption) ?_; rotate_left; (focus (intro w hSw; (try dsimp only at hSw); go_simp; (try with_reducible rfl))); (try simp only [Act.put, List.getElem_toArray, List.getElem_cons_zero, List.getElem_cons_succ, List.setIfInBounds_toArray, List.set_cons_zero, List.set_cons_succ])
              refine wpAnyT_take (i := 4) (oi := _) (v := ?_) rfl (by kernel_rfl) (fun _ _ _ h => h) (Or.inl ⟨by kernel_rfl, ?_⟩) (by assumption) ?_; rotate_left; (focus (intro w hSw; (try dsimp only at hSw); go_simp; (try with_reducible rfl))); (try simp only [Act.put, List.getElem_toArray, List.getElem_cons_zero, List.getElem_cons_succ, List.setIfInBounds_toArray, List.set_cons_zero, List.set_cons_succ])
              refine wpAnyT_take (i := 7) (oi := _) (v := ?_) rfl (by kernel_rfl) (fun _ _ _ h => h) (Or.inl ⟨by kernel_rfl, ?_⟩) (by assumption) ?_; rotate_left; (focus (intro w hSw; (try dsimp only at hSw); go_simp; (try with_reducible rfl))); (try simp only [Act.put, List.getElem_toArray, List.getElem_cons_zero, List.getElem_cons_succ, List.setIfInBounds_toArray, List.set_cons_zero, List.set_cons_succ])
              refine wpAnyT_done (by kernel_rfl) ?_ _
              clear hfe hHeld hH7 HCR HCV HGC HMG hb7
              go_wp2
              go_roundw
              case rel => exact ⟨q + 1, L', 1, by omega, by go_num, rfl, Lib.hid HP2.out.2, HV7⟩
              case measure => simp [intOf]; omega
            · have e0 := eqf he
              have HP2 : Hid (Puts md ver (verA L'.pure)) := Lib.hid (by rw [HERR.out he]; exact HP.out)
              clear HERR HOKR HP HBR6 HV
              go_wp2
              go_roundw
              case rel => exact ⟨q + 1, L', md, by omega, by go_num, rfl, HP2, HV6⟩
              case measure => simp [intOf]; omega
        · obtain rfl : q = D.length := by omega
          have d2 : decide ((D.length : Int) < (D.length : Int)) = false := dcf (by omega)
          have d4 : decide ((md : Int) ≤ 1) = true := dct (by rcases HP.out with h | h <;> omega)
          go_wp2
          go_ret
          exact ⟨rfl, HV.out.below⟩
theorem walk {H : Type} {enc : TypeId × Value → H} {W : World} {base : Nat} {v0 v1 : Value} {d0 d1 : DataW H} {p0 p1 : List MemPlace} (g0 : Arg enc Try.prog W base 22 v0 d0 p0) (g1 : Arg enc Try.prog W base 23 v1 d1 p1) :
    Calls Try.prog 3 #[v0, v1] W fun e w' => e = .returned (.bool true) ∧ Below W.heap.size W w' := by
  obtain ⟨A, c, l, rfl, hc, hl, hL⟩ := arg_acts g0
  obtain ⟨AD, cD, D, rfl, -, hD⟩ := arg_datas g1
  exact body W hL (Nat.le_refl _) hc hl hD
end Go.Proofs.Ytlljpjehalodfaa.lawStoreOnce
