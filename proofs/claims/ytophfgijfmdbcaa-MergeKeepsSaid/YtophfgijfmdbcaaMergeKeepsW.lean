/- MergeKeeps: the walk. -/
import Derived.Test.YtophfgijfmdbcaaProg
import Derived.Test.YtophfgijfmdbcaaMgK
import Derived.OwnWalk
namespace Go.Proofs.Ytophfgijfmdbcaa.lawMergeKeeps
open Go.RowKit Go.Proofs.Ytophfgijfmdbcaa Go.Proofs.Ytophfgijfmdbcaa.So Go.Proofs.Ytophfgijfmdbcaa.Mg

theorem infoIntK : (Try.prog.info? 3).map (fun i => (i.zero, i.size, i.bytes)) = some (some (.int .i64 0), 1, 8) := by kernel_rfl
def atV (a : List Nat) : List Value := a.map fun (k : Nat) => Value.int .i64 (k : Int)
theorem atV_zero (n : Nat) : (madeCells #[Value.int .i64 0] n).toList = atV (List.replicate n 0) := by
  rw [toList_madeCells_one]
  simp [atV]
theorem atV_at {a : List Nat} {i : Nat} (h : i < a.length) : (atV a)[i]? = some (.int .i64 ((ga a i : Nat) : Int)) := by
  unfold atV
  rw [List.getElem?_map, List.getElem?_eq_getElem h, ga_eq h]; rfl
theorem atV_set (a : List Nat) (k q : Nat) : atV (a.set k (q + 1)) = (atV a).set k (.int .i64 ((q : Int) + 1)) := by
  unfold atV
  rw [List.map_set]; rfl

set_option maxRecDepth 100000 in
set_option maxHeartbeats 6400000 in
theorem body (w : World) {B c : Nat} {A : Option Addr} {L : List Lst} (h : Lists w B A L) (hB : B ≤ w.heap.size) (hL : L.length ≤ 8796093022208) :
    Calls Try.prog 7 #[.slice A L.length c] w fun e w' => e = .returned (.bool true) ∧ Below w.heap.size w w' := by
  have H1 := Lib.hid h
  have HF := Lib.hid fun W (hW : Below w.heap.size w W) => few_calls W (c := c) (h.below (hW.mono hB)) (by have := hW.size; omega) hL
  clear h
  go_enter Try.func7, Try.ntmps7
  go_wp2_with fail
  refine (lives_calls w).mono ?_
  rintro e w1 ⟨rfl, hb1⟩
  go_wp2_with fail
  refine (HF.out w1 hb1).mono ?_
  rintro e w2 ⟨b, rfl, hbt, hb2⟩
  have hb12 := hb1.trans (hb2.mono hb1.size)
  clear hb1 hb2 HF
  cases b
  · clear hbt
    go_wp2_with fail
    refine (lives_calls w2).mono ?_
    rintro e w3 ⟨rfl, hb3⟩
    go_wp2
    go_ret
    exact ⟨rfl, hb12.trans (hb3.mono hb12.size)⟩
  · have HT := Lib.hid (hbt rfl)
    clear hbt
    have hs2 := hb12.size
    have HR := Lib.hid (rows_calls (c := c) w2 (H1.out.below (hb12.mono hB)) (by omega) (by have := HT.out.1; omega) (by have := HT.out.2; omega))
    go_wp2_with fail
    refine HR.out.mono ?_
    rintro e w3 ⟨A3, c3, m, rfl, hm, hmo, hb3⟩
    have hb13 : Below w.heap.size w w3 := hb12.trans (hb3.mono hs2)
    have hs3 := hb13.size
    have hmR : Rows w3 w3.heap.size A3 m := hmo.rows (SameL.fits (Eq.symm hm) (H1.out.below (hb13.mono hB)).fits)
    have HMR := Lib.hid hmR
    clear hmo hmR HR hb3
    rcases err_good L with ⟨he, hG⟩ | ⟨he, hr⟩
    · rw [he]
      have HG := Lib.hid hG
      have hml := hm.len
      have HML := Lib.hid hml
      have hmn : m.length ≤ 80 := by rw [hml]; exact Nat.le_trans (rows_len L) HT.out.1
      have HSM : Hid (∀ j, j < m.length → (Sr.gt m j).logic = (Sr.gt (mRows (lists L)) j).logic) := Lib.hid fun j hj => hm.at_ hj
      have HRB : Hid (risB m = true) := Lib.hid (by
        rw [← risB_logic, show m.map Rw.logic = (mRows (lists L)).map Rw.logic from hm, risB_logic]
        exact risB_iff.2 hG.rsn)
      clear hm hml he hG
      generalize mRows (lists L) = M at *
      have hL9 : L.length ≤ 9 := HT.out.2
      clear hL
      obtain ⟨ii, hi1, hi2, hi3, hi4⟩ := info_parts infoIntK
      have HI4 := Lib.hid hi4
      go_wp2_with (at_make; go_must (refine wpList_make_full _ rfl (.tmp 32) (.tmp 32) _ rfl w3.heap.size 3 ii _ 1 Try.underlying37 hi1 hi2 hi3 .i64 .i64 _ _ L.length rfl rfl rfl rfl (by rw [HI4.out]; omega) (by unfold maxLen; omega) (Nat.le_refl _) ?_))
      intro w4 hown4 hg4
      rw [atV_zero] at hown4
      have hb34 : Below w3.heap.size w3 w4 := (Below.refl _ _).grown hg4 (Nat.le_refl _) (by intro g hg; cases hg)
      have HK4 : Hid (KSt L M (List.replicate L.length 0) 0) := Lib.hid (KSt.start HG.out)
      have HO4 := Lib.hid hown4
      have hg0 : w3.heap.size < w4.heap.size := by
        rcases hown4.2 with ⟨e, _⟩ | ⟨g, cap, cur, e, _, hgg, _⟩
        · cases e
        · injection e with e
          injection e with e
          injection e with e
          rw [e]; exact Blk.lt hgg
      clear hown4 hg4 hi1 hi2 hi3 hi4 HI4
      go_wp2
      go_loopw [36] (fun v36 wr => ∃ (j : Nat) (a : List Nat), j ≤ m.length ∧ v36 = .int .i64 (j : Int) ∧ Hid (KSt L M a j) ∧ Hid (wr.ownsRow w3.heap.size 3 1 (.slice (some ⟨w3.heap.size, 0, none⟩) L.length L.length) L.length (atV a)) ∧ Below w3.heap.size w3 wr ∧ w3.heap.size < wr.heap.size) (fun v36 _ => m.length - (intOf v36).toNat)
      case atStart => exact ⟨0, _, Nat.zero_le _, rfl, HK4, HO4, hb34, hg0⟩
      case round =>
        obtain ⟨j, a, hj, rfl, HK, HO, hbel, hgs⟩ := hrel
        obtain ⟨wo, rfl⟩ : ∃ wo : World, wo = wr := ⟨_, rfl⟩
        have hsz := hbel.size
        by_cases hlt : j < m.length
        · have r1 := HMR.out.below hbel
          obtain ⟨gm, om, em, hgm, -⟩ := reads_nine r1.reads (by omega)
          obtain ⟨p0, p1, p2, p3, p4, p5, p6, p7, p8⟩ := reads_nine_at r1.reads em hlt
          have kx := HMR.out.each _ (show Sr.gt m j ∈ m by rw [← Sr.gt_eq hlt]; exact List.getElem_mem _)
          have HX := Lib.hid (HSM.out j hlt)
          have KX := Lib.hid kx
          have i0 : (0 : Int) ≤ (j : Int) := by omega
          have i9 : (j : Int) < (m.length : Int) := by omega
          clear r1 kx
          have HSTART : Hid (InSt L M (Sr.gt m j) j 0 a false) := Lib.hid (InSt.start HK.out)
          have HJ : Hid (j < M.length) := Lib.hid (by rw [← HML.out]; exact hlt)
          subst em
          generalize Sr.gt m j = x at *
          clear HK
          go_wp2
          have HB5 : Hid (Below w3.heap.size w3 (wo.alloc (.cells #[.int .i64 x.kind, .int .i64 x.time, .slice x.A x.labs.length x.cp, .string x.text, .int .i64 x.value, .bool x.null, .int .i64 x.maker, .int .i64 x.seq, .int .i64 x.place] 58))) := Lib.hid (hbel.alloc (by omega) _)
          have HO5 : Hid ((wo.alloc (.cells #[.int .i64 x.kind, .int .i64 x.time, .slice x.A x.labs.length x.cp, .string x.text, .int .i64 x.value, .bool x.null, .int .i64 x.maker, .int .i64 x.seq, .int .i64 x.place] 58)).ownsRow w3.heap.size 3 1 (.slice (some ⟨w3.heap.size, 0, none⟩) L.length L.length) L.length (atV a)) := Lib.hid (own_below HO.out ((Below.refl _ _).alloc (Nat.le_refl _) _))
          have HK5 : Hid (Blk (wo.alloc (.cells #[.int .i64 x.kind, .int .i64 x.time, .slice x.A x.labs.length x.cp, .string x.text, .int .i64 x.value, .bool x.null, .int .i64 x.maker, .int .i64 x.seq, .int .i64 x.place] 58)) wo.heap.size 58 #[.int .i64 x.kind, .int .i64 x.time, .slice x.A x.labs.length x.cp, .string x.text, .int .i64 x.value, .bool x.null, .int .i64 x.maker, .int .i64 x.seq, .int .i64 x.place]) := Lib.hid (Blk.new _ _ _)
          have hs5 : wo.heap.size < (wo.alloc (.cells #[.int .i64 x.kind, .int .i64 x.time, .slice x.A x.labs.length x.cp, .string x.text, .int .i64 x.value, .bool x.null, .int .i64 x.maker, .int .i64 x.seq, .int .i64 x.place] 58)).heap.size := by simp
          have hx3 : w3.heap.size < wo.heap.size := hgs
          clear HO p0 p1 p2 p3 p4 p5 p6 p7 p8 hgm
          generalize wo.alloc (.cells #[.int .i64 x.kind, .int .i64 x.time, .slice x.A x.labs.length x.cp, .string x.text, .int .i64 x.value, .bool x.null, .int .i64 x.maker, .int .i64 x.seq, .int .i64 x.place] 58) = w5 at *
          generalize wo.heap.size = gx at *
          go_loopw [8, 42] (fun v8 v42 wi => ∃ (k : Nat) (a' : List Nat) (b : Bool), k ≤ L.length ∧ v8 = .bool b ∧ v42 = .int .i64 (k : Int) ∧ Hid (InSt L M x j k a' b) ∧ Hid (wi.ownsRow w3.heap.size 3 1 (.slice (some ⟨w3.heap.size, 0, none⟩) L.length L.length) L.length (atV a')) ∧ Hid (Below w3.heap.size w3 wi) ∧ Hid (Blk wi gx 58 #[.int .i64 x.kind, .int .i64 x.time, .slice x.A x.labs.length x.cp, .string x.text, .int .i64 x.value, .bool x.null, .int .i64 x.maker, .int .i64 x.seq, .int .i64 x.place]) ∧ gx < wi.heap.size) (fun _ v42 _ => L.length - (intOf v42).toNat)
          case atStart => exact ⟨0, a, false, Nat.zero_le _, rfl, rfl, HSTART, HO5, HB5, HK5, hs5⟩
          case round =>
            obtain ⟨k, a', b, hk, rfl, rfl, HI, HOI, HBI, HKI, hgi⟩ := hrel
            obtain ⟨wi, rfl⟩ : ∃ wi : World, wi = wr := ⟨_, rfl⟩
            have hsi := HBI.out.size
            by_cases hlk : k < L.length
            · have hbw : Below w.heap.size w wi := hb13.trans (HBI.out.mono hs3)
              have r1 := H1.out.below (hbw.mono hB)
              obtain ⟨bL, oL, eL, hbL, -⟩ := r1.at_ (by omega)
              have yL := r1.cell_ eL hlk
              have k0 : (0 : Int) ≤ (k : Int) := by omega
              have k9 : (k : Int) < (L.length : Int) := by omega
              have yk := r1.each _ (lt_mem hlk)
              cases b
              · by_cases hh : ga a' k < (lt_ L k).l.length
                · have HIN : Hid (InSt L M x j k a' false) := HI
                  have HHIT : Hid (sameRwB (Sr.gt (lt_ L k).l (ga a' k)) x = true → InSt L M x j (k + 1) (a'.set k (ga a' k + 1)) true) := Lib.hid fun hs => HIN.out.hit_ HG.out HJ.out hlk HX.out ⟨hh, hs⟩
                  have HMISS : Hid (sameRwB (Sr.gt (lt_ L k).l (ga a' k)) x = false → InSt L M x j (k + 1) a' false) := Lib.hid fun hs => HIN.out.miss fun h => by rw [h.2] at hs; cases hs
                  have hal : a'.length = L.length := (HIN.out.1 rfl).1.len
                  have hq9 : (lt_ L k).l.length ≤ 4398046511104 := yk.len
                  obtain ⟨g2, o2, e2, hg2, -⟩ := reads_nine yk.rows.reads (by omega)
                  have Hkeep : Hid (∀ W, Below wi.heap.size wi W → (W.cell? ⟨g2, o2 + ga a' k * 9, none⟩ = some (.int .i64 (Sr.gt (lt_ L k).l (ga a' k)).kind) ∧ W.cell? ⟨g2, o2 + ga a' k * 9 + 1, none⟩ = some (.int .i64 (Sr.gt (lt_ L k).l (ga a' k)).time) ∧ W.cell? ⟨g2, o2 + ga a' k * 9 + 2, none⟩ = some (.slice (Sr.gt (lt_ L k).l (ga a' k)).A (Sr.gt (lt_ L k).l (ga a' k)).labs.length (Sr.gt (lt_ L k).l (ga a' k)).cp) ∧ W.cell? ⟨g2, o2 + ga a' k * 9 + 3, none⟩ = some (.string (Sr.gt (lt_ L k).l (ga a' k)).text) ∧ W.cell? ⟨g2, o2 + ga a' k * 9 + 4, none⟩ = some (.int .i64 (Sr.gt (lt_ L k).l (ga a' k)).value) ∧ W.cell? ⟨g2, o2 + ga a' k * 9 + 5, none⟩ = some (.bool (Sr.gt (lt_ L k).l (ga a' k)).null) ∧ W.cell? ⟨g2, o2 + ga a' k * 9 + 6, none⟩ = some (.int .i64 (Sr.gt (lt_ L k).l (ga a' k)).maker) ∧ W.cell? ⟨g2, o2 + ga a' k * 9 + 7, none⟩ = some (.int .i64 (Sr.gt (lt_ L k).l (ga a' k)).seq) ∧ W.cell? ⟨g2, o2 + ga a' k * 9 + 8, none⟩ = some (.int .i64 (Sr.gt (lt_ L k).l (ga a' k)).place)) ∧ (W.cell? ⟨gx, 0, none⟩ = some (.int .i64 x.kind) ∧ W.cell? ⟨gx, 1, none⟩ = some (.int .i64 x.time) ∧ W.cell? ⟨gx, 2, none⟩ = some (.slice x.A x.labs.length x.cp) ∧ W.cell? ⟨gx, 3, none⟩ = some (.string x.text) ∧ W.cell? ⟨gx, 4, none⟩ = some (.int .i64 x.value) ∧ W.cell? ⟨gx, 5, none⟩ = some (.bool x.null) ∧ W.cell? ⟨gx, 6, none⟩ = some (.int .i64 x.maker) ∧ W.cell? ⟨gx, 7, none⟩ = some (.int .i64 x.seq) ∧ W.cell? ⟨gx, 8, none⟩ = some (.int .i64 x.place)) ∧ W.cell? ⟨w3.heap.size, k, none⟩ = some (.int .i64 ((ga a' k : Nat) : Int)) ∧ W.frozen? ⟨w3.heap.size, k, none⟩ = false) := Lib.hid fun W hW => ⟨reads_nine_at (yk.rows.reads.below (hW.mono (by omega))) e2 hh, blk_nineR (HKI.out.below hW hgi), by rw [World.ownsRow.cellAt (own_below HOI.out hW) k (by omega)]; exact atV_at (by rw [hal]; exact hlk), World.ownsRow.frozenAt (own_below HOI.out hW) k⟩
                  have HSET : Hid (∀ W, Below wi.heap.size wi W → (W.setCell ⟨w3.heap.size, k, none⟩ (.int .i64 ((ga a' k : Nat) + 1 : Int))).ownsRow w3.heap.size 3 1 (.slice (some ⟨w3.heap.size, 0, none⟩) L.length L.length) L.length (atV (a'.set k (ga a' k + 1)))) := Lib.hid fun W hW => by rw [atV_set]; exact (World.ownsRow.stored (own_below HOI.out hW) k _).1
                  have ym : Sr.gt (lt_ L k).l (ga a' k) ∈ (lt_ L k).l := by rw [← Sr.gt_eq hh]; exact List.getElem_mem _
                  have yy := yk.rows.each _ ym
                  have hS := fun W (hW : Below wi.heap.size wi W) => sameRwR_calls W (Sr.gt (lt_ L k).l (ga a' k)) x (yy.labs.below (hW.mono (by omega))) ((KX.out.below HBI.out).labs.below (hW.mono (by omega))) (by have := hW.size; omega) (by have := hW.size; omega) yy.len KX.out.len
                  have hd1 : decide (ga a' k < (lt_ L k).l.length) = true := dct hh
                  have HBB : Hid (∀ W, Below wi.heap.size wi W → Below w3.heap.size w3 W) := Lib.hid fun W hW => HBI.out.trans (hW.mono hsi)
                  clear r1 yk ym yy HI HIN hbw
                  subst eL
                  rw [e2] at yL
                  generalize Sr.gt (lt_ L k).l (ga a' k) = y at *
                  generalize lt_ L k = z at *
                  generalize ga a' k = q at *
                  unfold rwA at hS
                  obtain ⟨⟨p0, p1, p2, p3, p4, p5, p6, p7, p8⟩, ⟨u0, u1, u2, u3, u4, u5, u6, u7, u8⟩, ca, fa⟩ := Hkeep.out wi (Below.refl _ _)
                  have q0 : (0 : Int) ≤ (q : Int) := by omega
                  have q9 : (q : Int) < (z.l.length : Int) := by omega
                  cases hsv : sameRwB y x
                  · rw [hsv] at hS
                    have HSS := Lib.hid hS
                    have HM := Lib.hid (HMISS.out hsv)
                    clear hS HHIT HMISS hsv HSET
                    go_wp2_with fail
                    go_region_held3 (fun w' => (w'.cell? ⟨g2, o2 + q * 9, none⟩ = some (.int .i64 y.kind) ∧ w'.cell? ⟨g2, o2 + q * 9 + 1, none⟩ = some (.int .i64 y.time) ∧ w'.cell? ⟨g2, o2 + q * 9 + 2, none⟩ = some (.slice y.A y.labs.length y.cp) ∧ w'.cell? ⟨g2, o2 + q * 9 + 3, none⟩ = some (.string y.text) ∧ w'.cell? ⟨g2, o2 + q * 9 + 4, none⟩ = some (.int .i64 y.value) ∧ w'.cell? ⟨g2, o2 + q * 9 + 5, none⟩ = some (.bool y.null) ∧ w'.cell? ⟨g2, o2 + q * 9 + 6, none⟩ = some (.int .i64 y.maker) ∧ w'.cell? ⟨g2, o2 + q * 9 + 7, none⟩ = some (.int .i64 y.seq) ∧ w'.cell? ⟨g2, o2 + q * 9 + 8, none⟩ = some (.int .i64 y.place)) ∧ (w'.cell? ⟨gx, 0, none⟩ = some (.int .i64 x.kind) ∧ w'.cell? ⟨gx, 1, none⟩ = some (.int .i64 x.time) ∧ w'.cell? ⟨gx, 2, none⟩ = some (.slice x.A x.labs.length x.cp) ∧ w'.cell? ⟨gx, 3, none⟩ = some (.string x.text) ∧ w'.cell? ⟨gx, 4, none⟩ = some (.int .i64 x.value) ∧ w'.cell? ⟨gx, 5, none⟩ = some (.bool x.null) ∧ w'.cell? ⟨gx, 6, none⟩ = some (.int .i64 x.maker) ∧ w'.cell? ⟨gx, 7, none⟩ = some (.int .i64 x.seq) ∧ w'.cell? ⟨gx, 8, none⟩ = some (.int .i64 x.place)) ∧ w'.cell? ⟨w3.heap.size, k, none⟩ = some (.int .i64 ((q : Nat) : Int)) ∧ w'.frozen? ⟨w3.heap.size, k, none⟩ = false) (exact Hkeep.out _ (by first | assumption | exact below_drewN_ (Below.refl _ _) 1)) ((go_at_call 25; refine (HSS.out _ (below_drewN_ (Below.refl _ _) 1)).mono ?_; rintro e w6 ⟨rfl, hb6⟩; have he6 : Below wi.heap.size wi w6 := (below_drewN_ (Below.refl _ _) 1).trans hb6))
                    have HO6 := Lib.hid (own_below HOI.out he6)
                    have HB6 := Lib.hid (HBB.out _ he6)
                    have HK6 := Lib.hid (HKI.out.below he6 hgi)
                    have hs6 := he6.size
                    clear HKI HOI Hkeep HSS he6 hb6
                    go_wp2
                    go_roundw
                    case rel => exact ⟨k + 1, a', false, by omega, rfl, by go_num, HM, HO6, HB6, HK6, by omega⟩
                    case measure => simp [intOf]; omega
                  · rw [hsv] at hS
                    have HSS := Lib.hid hS
                    have HM := Lib.hid (HHIT.out hsv)
                    clear hS HHIT HMISS hsv
                    go_wp2_with fail
                    go_region_held3 (fun w' => (w'.cell? ⟨g2, o2 + q * 9, none⟩ = some (.int .i64 y.kind) ∧ w'.cell? ⟨g2, o2 + q * 9 + 1, none⟩ = some (.int .i64 y.time) ∧ w'.cell? ⟨g2, o2 + q * 9 + 2, none⟩ = some (.slice y.A y.labs.length y.cp) ∧ w'.cell? ⟨g2, o2 + q * 9 + 3, none⟩ = some (.string y.text) ∧ w'.cell? ⟨g2, o2 + q * 9 + 4, none⟩ = some (.int .i64 y.value) ∧ w'.cell? ⟨g2, o2 + q * 9 + 5, none⟩ = some (.bool y.null) ∧ w'.cell? ⟨g2, o2 + q * 9 + 6, none⟩ = some (.int .i64 y.maker) ∧ w'.cell? ⟨g2, o2 + q * 9 + 7, none⟩ = some (.int .i64 y.seq) ∧ w'.cell? ⟨g2, o2 + q * 9 + 8, none⟩ = some (.int .i64 y.place)) ∧ (w'.cell? ⟨gx, 0, none⟩ = some (.int .i64 x.kind) ∧ w'.cell? ⟨gx, 1, none⟩ = some (.int .i64 x.time) ∧ w'.cell? ⟨gx, 2, none⟩ = some (.slice x.A x.labs.length x.cp) ∧ w'.cell? ⟨gx, 3, none⟩ = some (.string x.text) ∧ w'.cell? ⟨gx, 4, none⟩ = some (.int .i64 x.value) ∧ w'.cell? ⟨gx, 5, none⟩ = some (.bool x.null) ∧ w'.cell? ⟨gx, 6, none⟩ = some (.int .i64 x.maker) ∧ w'.cell? ⟨gx, 7, none⟩ = some (.int .i64 x.seq) ∧ w'.cell? ⟨gx, 8, none⟩ = some (.int .i64 x.place)) ∧ w'.cell? ⟨w3.heap.size, k, none⟩ = some (.int .i64 ((q : Nat) : Int)) ∧ w'.frozen? ⟨w3.heap.size, k, none⟩ = false) (exact Hkeep.out _ (by first | assumption | exact below_drewN_ (Below.refl _ _) 1)) ((go_at_call 25; refine (HSS.out _ (below_drewN_ (Below.refl _ _) 1)).mono ?_; rintro e w6 ⟨rfl, hb6⟩; have he6 : Below wi.heap.size wi w6 := (below_drewN_ (Below.refl _ _) 1).trans hb6))
                    have HO6 := Lib.hid (HSET.out _ he6)
                    have HB6 := Lib.hid ((HBB.out _ he6).setCell (p := ⟨w3.heap.size, k, none⟩) (Nat.le_refl _) (.int .i64 ((q : Nat) + 1 : Int)))
                    have HK6 := Lib.hid ((HKI.out.below he6 hgi).far (p := ⟨w3.heap.size, k, none⟩) (by show gx ≠ w3.heap.size; omega) (.int .i64 ((q : Nat) + 1 : Int)))
                    obtain ⟨-, -, c6, f6⟩ := Hkeep.out _ he6
                    have hs6 := he6.size
                    clear HKI HOI Hkeep HSS he6 hb6 ca fa HSET
                    go_wp2
                    go_roundw
                    case rel => exact ⟨k + 1, a'.set k (q + 1), true, by omega, rfl, by go_num, HM, HO6, HB6, HK6, by simp; omega⟩
                    case measure => simp [intOf]; omega
                · have HM := Lib.hid ((show InSt L M x j k a' false from HI.out).miss fun h => hh h.1)
                  have hal : a'.length = L.length := (HI.out.1 rfl).1.len
                  have hd1 : decide (ga a' k < (lt_ L k).l.length) = false := dcf hh
                  have ca : wi.cell? ⟨w3.heap.size, k, none⟩ = some (.int .i64 ((ga a' k : Nat) : Int)) := by rw [World.ownsRow.cellAt HOI.out k (by omega)]; exact atV_at (by rw [hal]; exact hlk)
                  have HO6 := fun n => own_below HOI.out (below_drewN_ (Below.refl wi.heap.size wi) n)
                  have HB6 := fun n => below_drewN_ HBI.out n
                  have HK6 := fun n => HKI.out.drewN n
                  have HOD := Lib.hid HO6
                  have HBD := Lib.hid HB6
                  have HKD := Lib.hid HK6
                  clear HO6 HB6 HK6 r1 yk hbw HI
                  subst eL
                  generalize lt_ L k = z at *
                  generalize ga a' k = q at *
                  go_wp2_with fail
                  go_quiet (fail)
                  go_wp2
                  go_roundw
                  case rel => exact ⟨k + 1, a', false, by omega, rfl, by go_num, HM, Lib.hid (HOD.out _), Lib.hid (HBD.out _), Lib.hid (HKD.out _), by simpa using hgi⟩
                  case measure => simp [intOf]; omega
              · have HM := Lib.hid HI.out.skip
                have HO6 := fun n => own_below HOI.out (below_drewN_ (Below.refl wi.heap.size wi) n)
                have HB6 := fun n => below_drewN_ HBI.out n
                have HK6 := fun n => HKI.out.drewN n
                have HOD := Lib.hid HO6
                have HBD := Lib.hid HB6
                have HKD := Lib.hid HK6
                clear HO6 HB6 HK6 r1 yk hbw HI
                subst eL
                generalize lt_ L k = z at *
                go_wp2_with fail
                go_quiet (fail)
                go_wp2
                go_roundw
                case rel => exact ⟨k + 1, a', true, by omega, rfl, by go_num, HM, Lib.hid (HOD.out _), Lib.hid (HBD.out _), Lib.hid (HKD.out _), by simpa using hgi⟩
                case measure => simp [intOf]; omega
            · obtain rfl : k = L.length := by omega
              obtain ⟨rfl, hd⟩ := HI.out.done HG.out HJ.out HX.out
              have HD := Lib.hid hd
              have hs3i : w3.heap.size < wi.heap.size := by omega
              clear hd HI
              go_wp2
              go_roundw
              case rel => exact ⟨j + 1, a', by omega, by go_num, HD, HOI, HBI.out, hs3i⟩
              case measure => simp [intOf]; omega
        · obtain rfl : j = m.length := by omega
          have HE : Hid (∀ i, i < L.length → ga a i = (lt_ L i).l.length) := Lib.hid fun i hi => KSt.ends_ (by rw [← HML.out]; exact HK.out) hi
          have hal : a.length = L.length := HK.out.len
          have HAL := Lib.hid hal
          clear hal HK
          go_wp2
          go_loop [81] (fun v81 => ∃ k : Nat, k ≤ L.length ∧ v81 = .int .i64 (k : Int)) (fun v81 => L.length - (intOf v81).toNat)
          case atStart => exact ⟨0, Nat.zero_le _, rfl⟩
          case round =>
            obtain ⟨k, hk, rfl⟩ := hrel
            by_cases hlk : k < L.length
            · have hbw : Below w.heap.size w wo := hb13.trans (hbel.mono hs3)
              have r1 := H1.out.below (hbw.mono hB)
              obtain ⟨bL, oL, eL, hbL, -⟩ := r1.at_ (by omega)
              have yL := r1.cell_ eL hlk
              have k0 : (0 : Int) ≤ (k : Int) := by omega
              have k9 : (k : Int) < (L.length : Int) := by omega
              have ca : wo.cell? ⟨w3.heap.size, k, none⟩ = some (.int .i64 (((lt_ L k).l.length : Nat) : Int)) := by rw [World.ownsRow.cellAt HO.out k (by omega), ← HE.out k hlk]; exact atV_at (by rw [HAL.out]; exact hlk)
              clear r1 hbw
              subst eL
              generalize lt_ L k = z at *
              have hne : ((z.l.length : Int) != (z.l.length : Int)) = false := nef rfl
              go_wp2
              go_round
              case rel => exact ⟨k + 1, by omega, by go_num⟩
              case measure => simp [intOf]; omega
            · obtain rfl : k = L.length := by omega
              have hbw : Below w.heap.size w wo := hb13.trans (hbel.mono hs3)
              have r1 := HMR.out.below hbel
              have HRI := Lib.hid (risingR_calls (c := c3) wo r1.reads (by omega) (by omega))
              rw [HRB.out] at HRI
              have HBW := Lib.hid hbw
              clear r1 hbw
              go_wp2_with fail
              refine HRI.out.mono ?_
              rintro e w6 ⟨rfl, hb6⟩
              go_wp2
              go_ret
              exact ⟨rfl, HBW.out.trans (hb6.mono HBW.out.size)⟩
    · have ee0 : (mErr (lists L) != 0) = true := net he
      have hm0 : m.length = 0 := by rw [hm.len, hr]; rfl
      generalize mErr (lists L) = ee at *
      clear he
      rw [hm0]
      go_wp2
      go_ret
      exact ⟨rfl, hb13⟩
theorem walk {H : Type} {enc : TypeId × Value → H} {W : World} {base : Nat} {v0 : Value} {d0 : DataW H} {p0 : List MemPlace} (g0 : Arg enc Try.prog W base 45 v0 d0 p0) :
    Calls Try.prog 7 #[v0] W fun e w' => e = .returned (.bool true) ∧ Below W.heap.size W w' := by
  obtain ⟨A, c, L, rfl, hc, hl, hL⟩ := arg_lists g0
  exact body W hL (Nat.le_refl _) hl
end Go.Proofs.Ytophfgijfmdbcaa.lawMergeKeeps
