/- The document's store: a call (chapter 14): objects and uploads listed. -/
import Derived.Test.YtlljpjehalodfaaGreatProg
import Derived.Test.YtlljpjehalodfaaGreatPlM
namespace Go.Proofs.YtlljpjehalodfaaGreat
open Go.RowKit
namespace Rf
open St

def itR (o : Ro) : It := ⟨o.key, o.ver, (o.d.length : Int), o.born⟩
def listR (x : Cl) (l : List Ro) : List It := (l.filter fun o => !listQ x.key x.d o.key).map itR
theorem listR_snoc (x : Cl) (l : List Ro) {j : Nat} (hj : j < l.length) : listR x (l.take (j + 1)) = if listQ x.key x.d (go l j).key = true then listR x (l.take j) else listR x (l.take j) ++ [itR (go l j)] := by
  unfold listR
  rw [List.take_succ_eq_append_getElem hj, List.filter_append, List.map_append, go_eq hj]
  cases h : listQ x.key x.d (go l j).key with
  | true => rw [if_pos rfl, List.filter_cons_of_neg (by simp [h])]; simp
  | false => rw [if_neg (by decide), List.filter_cons_of_pos (by simp [h])]; rfl
theorem listR_more (x : Cl) (l : List Ro) {j : Nat} (hj : j < l.length) (h : listQ x.key x.d (go l j).key = false) : ∃ t, listR x l = listR x (l.take j) ++ itR (go l j) :: t := by
  refine ⟨listR x (l.drop (j + 1)), ?_⟩
  have e : l = l.take j ++ go l j :: l.drop (j + 1) := by rw [← go_eq hj, ← List.drop_eq_getElem_cons hj, List.take_append_drop]
  conv => lhs; rw [e]
  unfold listR
  rw [List.filter_append, List.map_append, List.filter_cons_of_pos (by simp [h]), List.map_cons]
theorem Sim.listO {R : RS} {s : PS} (h : Sim R s) (hs : PSrt s) (x : Cl) : s.list x.pure = ⟨0, [], 0, 0, 0, (listR x R.objs).take 16, decide (16 < (listR x R.objs).length)⟩ := by
  have hk : s.keys x.pure = (R.objs.filter fun o => !listQ x.key x.d o.key).map fun o => o.key := by
    show keepF (listQ x.key x.d) (s.objs.map fun p => p.1) = _
    rw [← h.objs, List.map_map]
    unfold keepF
    rw [List.filter_map]; rfl
  have hi : (s.keys x.pure).map s.itO = listR x R.objs := by
    rw [hk, List.map_map]
    unfold listR
    refine List.map_congr_left fun o ho => ?_
    have hm : mget s.objs o.key = some o.po := mget_of_mem hs.ndo (by rw [← h.objs]; exact List.mem_map.2 ⟨o, (List.mem_filter.1 ho).1, rfl⟩)
    show s.itO o.key = itR o
    unfold PS.itO
    rw [hm]; rfl
  have hl : (s.keys x.pure).length = (listR x R.objs).length := by rw [← hi, List.length_map]
  unfold PS.list
  rw [List.map_take, hi, hl]
set_option maxRecDepth 100000 in
set_option maxHeartbeats 16000000 in
theorem doR_5 (w : World) {base n : Nat} {R : RS} {s : PS} {x : Cl} (h : RAt w base R) (hS : Sim R s) (hi : PInv s n) (hs : PSrt s) (hn : n ≤ 1000) (hd : Bytes w w.heap.size x.A x.d.length x.d) (ho : Out R x.A x.d.length) (hx : ClOk x)
    (hk : x.kind = 5) : DoR w base R s x := by
  unfold DoR
  have hu0 : s.step x.pure = (s, s.list x.pure) := by
    have e : x.pure.kind = x.kind := rfl
    rw [kind_step, e]
    rw [if_neg (by omega), if_neg (by omega), if_pos (by omega)]
  rw [hS.listO hs x] at hu0
  have HR := Lib.hid hu0
  clear hu0
  have HK0 := Lib.hid hk
  clear hk
  generalize s.step x.pure = r at *
  have HSIM := Lib.hid hS
  have HI := Lib.hid hi
  have HRS := Lib.hid hs
  have hol : R.objs.length ≤ 1000 := by rw [hS.olen]; exact Nat.le_trans hi.on hn
  have hul : R.ups.length ≤ 1000 := by rw [hS.ups.len]; exact Nat.le_trans hi.un hn
  clear hS hi hs
  have HF0 := (FR.start h hd ho).toX
  unfold Cl.cells rep0 at HF0
  have HF := Lib.hid HF0
  clear HF0 hd ho h
  unfold Cl.val Cl.cells
  go_enter Tryz.func13, Tryz.ntmps13
  go_upto_region 1 with fail
  generalize ((w.alloc (.cells #[.int .i64 x.kind, .string x.key, .slice x.A x.d.length x.c, .int .i64 x.ver, .int .i64 x.at_, .int .i64 x.n, .int .i64 x.id] 34)).alloc (.cells #[.int .i64 0, .slice none 0 0, .int .i64 0, .int .i64 0, .int .i64 0, .slice none 0 0, .bool false] 43)) = w2 at *
  have HAT : Hid (∀ m, Calls Tryz.prog 23 #[.pointer (some ⟨R.g, 0, none⟩), .string x.key] (w2.drewN m) fun e w'' => e = .returned (.int .i64 (R.idxO x.key)) ∧ ∃ m', w'' = w2.drewN m') := Lib.hid fun m => (at_calls (w2.drewN m) (HF.out.at_.drewN m) (Nat.le_trans hol (by omega)) x.key).mono fun e w'' h => ⟨h.1, m, h.2.symm⟩
  have HOP : Hid (∀ m, Calls Tryz.prog 24 #[.pointer (some ⟨R.g, 0, none⟩), .int .i64 x.id] (w2.drewN m) fun e w'' => e = .returned (.int .i64 (R.idxU x.id)) ∧ ∃ m', w'' = w2.drewN m') := Lib.hid fun m => (open_calls (w2.drewN m) (HF.out.at_.drewN m) (Nat.le_trans hul (by omega)) x.id).mono fun e w'' h => ⟨h.1, m, h.2.symm⟩
  have k1 : w2.cell? ⟨w.heap.size, 1, none⟩ = some (.string x.key) := HF.out.b3.cell 1
  have k6 : w2.cell? ⟨w.heap.size, 6, none⟩ = some (.int .i64 x.id) := HF.out.b3.cell 6
  go_quiet (first | (exact HAT.out _) | (exact HOP.out _))
  clear HAT HOP k1 k6
  have HF1 := Lib.hid (HF.out.drewN nq)
  have HIX := Lib.hid (HSIM.out.idxO HRS.out x.key)
  have HIU := Lib.hid (HSIM.out.idxU HRS.out x.id)
  generalize R.idxO x.key = ix at *
  generalize R.idxU x.id = iu at *
  generalize w2.drewN nq = w1 at *
  have k0 : w1.cell? ⟨w.heap.size, 0, none⟩ = some (.int .i64 x.kind) := HF1.out.b3.cell 0
  have k1 : w1.cell? ⟨w.heap.size, 1, none⟩ = some (.string x.key) := HF1.out.b3.cell 1
  have k2 : w1.cell? ⟨w.heap.size, 2, none⟩ = some (.slice x.A x.d.length x.c) := HF1.out.b3.cell 2
  have k3 : w1.cell? ⟨w.heap.size, 3, none⟩ = some (.int .i64 x.ver) := HF1.out.b3.cell 3
  have k4 : w1.cell? ⟨w.heap.size, 4, none⟩ = some (.int .i64 x.at_) := HF1.out.b3.cell 4
  have k5 : w1.cell? ⟨w.heap.size, 5, none⟩ = some (.int .i64 x.n) := HF1.out.b3.cell 5
  have k6 : w1.cell? ⟨w.heap.size, 6, none⟩ = some (.int .i64 x.id) := HF1.out.b3.cell 6
  have e1 : (x.kind == 1) = ((5 : Int) == 1) := by rw [HK0.out]
  have e2 : (x.kind == 2) = ((5 : Int) == 2) := by rw [HK0.out]
  have e3 : (x.kind == 3) = ((5 : Int) == 3) := by rw [HK0.out]
  have e4 : (x.kind == 4) = ((5 : Int) == 4) := by rw [HK0.out]
  have e5 : (x.kind == 5) = ((5 : Int) == 5) := by rw [HK0.out]
  have e6 : (x.kind == 6) = ((5 : Int) == 6) := by rw [HK0.out]
  have e7 : (x.kind == 7) = ((5 : Int) == 7) := by rw [HK0.out]
  have e8 : (x.kind == 8) = ((5 : Int) == 8) := by rw [HK0.out]
  have e9 : (x.kind == 9) = ((5 : Int) == 9) := by rw [HK0.out]
  have e10 : (x.kind == 10) = ((5 : Int) == 10) := by rw [HK0.out]
  have e11 : (x.kind == 11) = ((5 : Int) == 11) := by rw [HK0.out]
  clear HIX HIU
  go_upto_region 29 with fail
  have HB9 := Lib.hid (Blk.new w1 43 #[.int .i64 0, .slice none 0 0, .int .i64 0, .int .i64 0, .int .i64 0, .slice none 0 0, .bool false])
  have hb5 : Below w1.heap.size w1 (w1.alloc (.cells #[.int .i64 0, .slice none 0 0, .int .i64 0, .int .i64 0, .int .i64 0, .slice none 0 0, .bool false] 43)) := (Below.refl _ _).alloc (Nat.le_refl _) _
  have HB5 := Lib.hid hb5
  clear hb5 k0 k1 k2 k3 k4 k5 k6
  generalize w1.alloc (.cells #[.int .i64 0, .slice none 0 0, .int .i64 0, .int .i64 0, .int .i64 0, .slice none 0 0, .bool false] 43) = w5 at *
  obtain ⟨g9, hg9⟩ : ∃ g9, w1.heap.size = g9 := ⟨_, rfl⟩
  have hs1 := HF1.out.size
  rw [hg9] at HB9 ⊢
  have hg95 := HB9.out.lt
  have HLE : Hid (w.heap.size + 1 < w5.heap.size ∧ w.heap.size + 1 < g9) := Lib.hid (by omega)
  have z0 : w5.cell? ⟨R.g, 0, none⟩ = some (.slice R.AO R.objs.length R.cO) := (HF1.out.on HB5.out).at_.blk.cell 0
  go_wp2
  clear z0
  go_loopw [183] (fun i wr => ∃ (j : Nat) (L : List It) (AL : Option Addr) (cL : Nat), j ≤ R.objs.length ∧ i = .int .i64 (j : Int) ∧ Hid (L = listR x (R.objs.take j)) ∧ L.length ≤ 16 ∧ Hid (Blk wr g9 43 #[.int .i64 0, .slice none 0 0, .int .i64 0, .int .i64 0, .int .i64 0, .slice AL L.length cL, .bool false]) ∧ Hid (wr.ownsRow w5.heap.size 62 4 (.slice AL L.length cL) L.length (itCells L)) ∧ Hid (Below w1.heap.size w1 wr) ∧ w5.heap.size ≤ wr.heap.size) (fun i _ => R.objs.length - (intOf i).toNat)
  case atStart => exact ⟨0, [], none, 0, Nat.zero_le _, rfl, Lib.hid rfl, Nat.zero_le _, HB9, Lib.hid (World.ownsRow_nil _ _ _ _), HB5, Nat.le_refl _⟩
  case round =>
    obtain ⟨j, L, AL, cL, hj, rfl, HL, hL16, H9, HOL, HW, hle5⟩ := hrel
    obtain ⟨wi, rfl⟩ : ∃ wi : World, wi = wr := ⟨_, rfl⟩
    have hle := HW.out.size
    by_cases hlt : j < R.objs.length
    · have d1 : decide ((j : Int) < (R.objs.length : Int)) = true := dct (by omega)
      have HFi := Lib.hid (HF1.out.on HW.out)
      obtain ⟨b', off', e', hbB', hcell⟩ := o_at HFi.out.at_.o_reads hlt
      have x0 := hcell 0 _ (by omega) rfl
      have x1 := hcell 1 _ (by omega) rfl
      have x2 := hcell 2 _ (by omega) rfl
      have x3 := hcell 3 _ (by omega) rfl
      rw [Nat.add_zero] at x0
      have hi0' : (0 : Int) ≤ (j : Int) := by omega
      have hi1' : (j : Int) < (R.objs.length : Int) := by omega
      have HSN := Lib.hid (listR_snoc x R.objs hlt)
      have HMO := Lib.hid (listR_more x R.objs hlt)
      rw [e']
      clear hcell
      generalize go R.objs j = y at *
      go_upto_region 32 with fail
      have HB11 := Lib.hid (Blk.new wi 68 #[.string y.key, .slice y.A y.d.length y.c, .int .i64 y.ver, .int .i64 y.born])
      have hb7 : Below wi.heap.size wi (wi.alloc (.cells #[.string y.key, .slice y.A y.d.length y.c, .int .i64 y.ver, .int .i64 y.born] 68)) := (Below.refl _ _).alloc (Nat.le_refl _) _
      have HW7 := Lib.hid (HW.out.trans (hb7.mono hle))
      have HO7 := Lib.hid (own_below HOL.out hb7)
      have H97 := Lib.hid (H9.out.below hb7 H9.out.lt)
      have hle7 := hb7.size
      clear x0 x1 x2 x3 hb7 HOL H9 HW HFi
      generalize wi.alloc (.cells #[.string y.key, .slice y.A y.d.length y.c, .int .i64 y.ver, .int .i64 y.born] 68) = w7 at *
      obtain ⟨g11, hg11⟩ : ∃ g, wi.heap.size = g := ⟨_, rfl⟩
      rw [hg11] at HB11 ⊢
      have HF7 := Lib.hid (HF1.out.on HW7.out)
      have y0 : w7.cell? ⟨g11, 0, none⟩ = some (.string y.key) := HB11.out.cell 0
      have y1 : w7.cell? ⟨g11, 1, none⟩ = some (.slice y.A y.d.length y.c) := HB11.out.cell 1
      have y2 : w7.cell? ⟨g11, 2, none⟩ = some (.int .i64 y.ver) := HB11.out.cell 2
      have y3 : w7.cell? ⟨g11, 3, none⟩ = some (.int .i64 y.born) := HB11.out.cell 3
      have k1 : w7.cell? ⟨w.heap.size, 1, none⟩ = some (.string x.key) := HF7.out.b3.cell 1
      have k2 : w7.cell? ⟨w.heap.size, 2, none⟩ = some (.slice x.A x.d.length x.c) := HF7.out.b3.cell 2
      have hcv := HF7.out.dat.conv Tryz.prog x.c 32 5 9 Tryz.underlying32 Tryz.underlying5 Tryz.underlying9
      have HBG := Lib.hid (begins_calls w7 y.key x.key)
      have HQQ : Hid (listQ x.key x.d y.key = (!(Lib.hasPrefix y.key.data.toList x.key.data.toList) || (Op.bytesLess y.key.toList x.d || y.key.toList == x.d))) := Lib.hid rfl
      go_wp2_with fail
      refine HBG.out.mono ?_
      rintro e w8 ⟨rfl, rfl⟩
      clear HBG
      cases hh : Lib.hasPrefix y.key.data.toList x.key.data.toList with
      | false =>
        have HS2 : Hid (listR x (R.objs.take (j + 1)) = listR x (R.objs.take j)) := Lib.hid (by rw [HSN.out, HQQ.out, hh]; rfl)
        clear hh
        go_wp2
        go_roundw
        case rel => exact ⟨j + 1, L, AL, cL, by omega, by go_num, Lib.hid (by rw [HS2.out, HL.out]), hL16, H97, HO7, HW7, by omega⟩
        case measure => simp [intOf]; omega
      | true =>
        cases hq : (Op.bytesLess y.key.toList x.d || y.key.toList == x.d) with
        | true =>
          have HS2 : Hid (listR x (R.objs.take (j + 1)) = listR x (R.objs.take j)) := Lib.hid (by rw [HSN.out, HQQ.out, hh, hq]; rfl)
          clear hh
          go_wp2
          go_roundw
          case rel => exact ⟨j + 1, L, AL, cL, by omega, by go_num, Lib.hid (by rw [HS2.out, HL.out]), hL16, H97, HO7, HW7, by omega⟩
          case measure => simp [intOf]; omega
        | false =>
          have HS2 : Hid (listR x (R.objs.take (j + 1)) = listR x (R.objs.take j) ++ [itR y]) := Lib.hid (by rw [HSN.out, HQQ.out, hh, hq]; rfl)
          have HM2 : Hid (∃ t, listR x R.objs = listR x (R.objs.take j) ++ itR y :: t) := Lib.hid (HMO.out (by rw [HQQ.out, hh, hq]; rfl))
          clear hh HSN HMO HQQ
          have n5 : w7.cell? ⟨g9, 5, none⟩ = some (.slice AL L.length cL) := H97.out.cell 5
          by_cases h16 : L.length = 16
          · have d2 : ((L.length : Int) == 16) = true := eqt (by omega)
            have HRR : Hid (r = (s, ⟨0, [], 0, 0, 0, L, true⟩)) := Lib.hid (by
              obtain ⟨t, ht⟩ := HM2.out
              rw [HR.out, ht, ← HL.out, List.take_left' h16, List.length_append, List.length_cons, dct (by omega)])
            have n6 : w7.cell? ⟨g9, 6, none⟩ = some (.bool false) := H97.out.cell 6
            have f6 := H97.out.frozen 6
            clear h16 HM2 HS2
            go_upto_region 37 with fail
            have H98 := Lib.hid (H97.out.set_ 6 (.bool true))
            have HFL := Lib.hid (HF1.out.on (HW7.out.setCell (p := ⟨g9, 6, none⟩) (Nat.le_of_eq hg9) (.bool true)))
            have HO8 := Lib.hid (own_setCell (p := ⟨g9, 6, none⟩) HO7.out hg95 (.bool true))
            clear hq n5 n6 f6 y0 y1 y2 y3 k1 k2 hcv H97 HW7 HF7 HO7 HB11
            generalize w7.setCell ⟨g9, 6, none⟩ (.bool true) = w8 at *
            have q9 := H98.out
            have n0 : w8.cell? ⟨g9, 0, none⟩ = some (.int .i64 0) := q9.cell 0
            have n1 : w8.cell? ⟨g9, 1, none⟩ = some (.slice none 0 0) := q9.cell 1
            have n2 : w8.cell? ⟨g9, 2, none⟩ = some (.int .i64 0) := q9.cell 2
            have n3 : w8.cell? ⟨g9, 3, none⟩ = some (.int .i64 0) := q9.cell 3
            have n4 : w8.cell? ⟨g9, 4, none⟩ = some (.int .i64 0) := q9.cell 4
            have n5 : w8.cell? ⟨g9, 5, none⟩ = some (.slice AL L.length cL) := q9.cell 5
            have n6 : w8.cell? ⟨g9, 6, none⟩ = some (.bool true) := q9.cell 6
            clear q9
            have q0 : w8.cell? ⟨w.heap.size + 1, 0, none⟩ = some (.int .i64 0) := HFL.out.b4.cell 0
            have p0 : w8.frozen? ⟨w.heap.size + 1, 0, none⟩ = false := HFL.out.b4.frozen 0
            have q1 : w8.cell? ⟨w.heap.size + 1, 1, none⟩ = some (.slice none 0 0) := HFL.out.b4.cell 1
            have p1 : w8.frozen? ⟨w.heap.size + 1, 1, none⟩ = false := HFL.out.b4.frozen 1
            have q2 : w8.cell? ⟨w.heap.size + 1, 2, none⟩ = some (.int .i64 0) := HFL.out.b4.cell 2
            have p2 : w8.frozen? ⟨w.heap.size + 1, 2, none⟩ = false := HFL.out.b4.frozen 2
            have q3 : w8.cell? ⟨w.heap.size + 1, 3, none⟩ = some (.int .i64 0) := HFL.out.b4.cell 3
            have p3 : w8.frozen? ⟨w.heap.size + 1, 3, none⟩ = false := HFL.out.b4.frozen 3
            have q4 : w8.cell? ⟨w.heap.size + 1, 4, none⟩ = some (.int .i64 0) := HFL.out.b4.cell 4
            have p4 : w8.frozen? ⟨w.heap.size + 1, 4, none⟩ = false := HFL.out.b4.frozen 4
            have q5 : w8.cell? ⟨w.heap.size + 1, 5, none⟩ = some (.slice none 0 0) := HFL.out.b4.cell 5
            have p5 : w8.frozen? ⟨w.heap.size + 1, 5, none⟩ = false := HFL.out.b4.frozen 5
            have q6 : w8.cell? ⟨w.heap.size + 1, 6, none⟩ = some (.bool false) := HFL.out.b4.cell 6
            have p6 : w8.frozen? ⟨w.heap.size + 1, 6, none⟩ = false := HFL.out.b4.frozen 6
            go_wp2
            obtain ⟨hw, hT, hK⟩ := HFL.out.fin (.int .i64 0) (.slice none 0 0) (.int .i64 0) (.int .i64 0) (.int .i64 0) (.slice AL L.length cL) (.bool true)
            unfold set7 at hw hT hK
            refine bodyPost_ret (results_cell_row rfl _ _ (w.heap.size + 1) 43 #[(.int .i64 0), (.slice none 0 0), (.int .i64 0), (.int .i64 0), (.int .i64 0), (.slice AL L.length cL), (.bool true)] (0, 0) _ rfl hw Tryz.underlying43 rfl (by kernel_rfl)) rfl ?_
            refine ⟨_, _, rfl, ?_, hT, by rw [HRR.out]; exact HSIM.out⟩
            rw [HRR.out]
            exact ⟨none, 0, AL, cL, rfl, World.ownsRow_nil _ _ _ _, own_base (hK.own HO8.out (fun i hi e => by have := HLE.out.1; omega)) (by have := HLE.out.1; omega)⟩
          · have d2 : ((L.length : Int) == 16) = false := eqf (by omega)
            have hg97 : g9 < w7.heap.size := H97.out.lt
            go_wp2_with (at_builtin; go_must (refine wpList_append_sl _ rfl (.tmp 207) (.tmp 218) _ rfl w5.heap.size 62 _ 4 40 Tryz.underlying41 Tryz.infoIt rfl (by omega) _ _ _ rfl (HO7.out.alloc _) (w7.heap.size + 1) _ 1 1 (It.cells (itR y)) rfl (Reads.made (n := 1) (size := 4) w7 _ _ rfl) (it_one (itR y)) (by unfold maxLen; omega) (by omega) (by simp; omega) ?_))
            intro A10 c10 w10 hc101 hc102 hrd10 hbel10 hown10 _ _
            have HO10 : Hid (w10.ownsRow w5.heap.size 62 4 (.slice A10 (L ++ [itR y]).length c10) (L ++ [itR y]).length (itCells (L ++ [itR y]))) := Lib.hid (by rw [itCells_snoc, List.length_append]; exact hown10)
            have hb710 : Below w5.heap.size w7 w10 := Below.trans ((Below.refl _ _).alloc (by omega) _) hbel10
            have H910 := Lib.hid (H97.out.below hb710 hg95)
            have HW10 := Lib.hid (HW7.out.trans (hb710.mono HB5.out.size))
            have hle10 := hb710.size
            have m5 : w10.cell? ⟨g9, 5, none⟩ = some (.slice AL L.length cL) := H910.out.cell 5
            have f5 := H910.out.frozen 5
            clear hc101 hc102 hrd10 hbel10 hown10 hb710
            go_upto_region 36 with fail
            have H911 := Lib.hid (H910.out.set_ 5 (.slice A10 (L.length + 1) c10))
            have HW11 := Lib.hid (HW10.out.setCell (p := ⟨g9, 5, none⟩) (Nat.le_of_eq hg9) (.slice A10 (L.length + 1) c10))
            have HO11 := Lib.hid (own_setCell (p := ⟨g9, 5, none⟩) HO10.out hg95 (.slice A10 (L.length + 1) c10))
            have hle11 : w5.heap.size ≤ (w10.setCell ⟨g9, 5, none⟩ (.slice A10 (L.length + 1) c10)).heap.size := by simp; omega
            have hsn : (L ++ [itR y]).length = L.length + 1 := by simp
            have HSN2 := Lib.hid hsn
            clear m5 f5 H910 HW10 HO10 hle10 hsn
            generalize w10.setCell ⟨g9, 5, none⟩ (.slice A10 (L.length + 1) c10) = w11 at *
            go_wp2
            go_roundw
            case rel => exact ⟨j + 1, L ++ [itR y], A10, c10, by omega, by go_num, Lib.hid (by rw [HS2.out, HL.out]), by rw [HSN2.out]; omega, by rw [HSN2.out]; exact H911, HO11, HW11, hle11⟩
            case measure => simp [intOf]; omega
    · obtain rfl : j = R.objs.length := by omega
      have d1 : decide ((R.objs.length : Int) < (R.objs.length : Int)) = false := dcf (by omega)
      rw [List.take_length] at HL
      have HRR : Hid (r = (s, ⟨0, [], 0, 0, 0, L, false⟩)) := Lib.hid (by rw [HR.out, ← HL.out, List.take_of_length_le hL16, dcf (by omega)])
      have HFL := Lib.hid (HF1.out.on HW.out)
      go_upto_region 37 with fail
      have q9 := H9.out
      have n0 : wi.cell? ⟨g9, 0, none⟩ = some (.int .i64 0) := q9.cell 0
      have n1 : wi.cell? ⟨g9, 1, none⟩ = some (.slice none 0 0) := q9.cell 1
      have n2 : wi.cell? ⟨g9, 2, none⟩ = some (.int .i64 0) := q9.cell 2
      have n3 : wi.cell? ⟨g9, 3, none⟩ = some (.int .i64 0) := q9.cell 3
      have n4 : wi.cell? ⟨g9, 4, none⟩ = some (.int .i64 0) := q9.cell 4
      have n5 : wi.cell? ⟨g9, 5, none⟩ = some (.slice AL L.length cL) := q9.cell 5
      have n6 : wi.cell? ⟨g9, 6, none⟩ = some (.bool false) := q9.cell 6
      clear q9
      have q0 : wi.cell? ⟨w.heap.size + 1, 0, none⟩ = some (.int .i64 0) := HFL.out.b4.cell 0
      have p0 : wi.frozen? ⟨w.heap.size + 1, 0, none⟩ = false := HFL.out.b4.frozen 0
      have q1 : wi.cell? ⟨w.heap.size + 1, 1, none⟩ = some (.slice none 0 0) := HFL.out.b4.cell 1
      have p1 : wi.frozen? ⟨w.heap.size + 1, 1, none⟩ = false := HFL.out.b4.frozen 1
      have q2 : wi.cell? ⟨w.heap.size + 1, 2, none⟩ = some (.int .i64 0) := HFL.out.b4.cell 2
      have p2 : wi.frozen? ⟨w.heap.size + 1, 2, none⟩ = false := HFL.out.b4.frozen 2
      have q3 : wi.cell? ⟨w.heap.size + 1, 3, none⟩ = some (.int .i64 0) := HFL.out.b4.cell 3
      have p3 : wi.frozen? ⟨w.heap.size + 1, 3, none⟩ = false := HFL.out.b4.frozen 3
      have q4 : wi.cell? ⟨w.heap.size + 1, 4, none⟩ = some (.int .i64 0) := HFL.out.b4.cell 4
      have p4 : wi.frozen? ⟨w.heap.size + 1, 4, none⟩ = false := HFL.out.b4.frozen 4
      have q5 : wi.cell? ⟨w.heap.size + 1, 5, none⟩ = some (.slice none 0 0) := HFL.out.b4.cell 5
      have p5 : wi.frozen? ⟨w.heap.size + 1, 5, none⟩ = false := HFL.out.b4.frozen 5
      have q6 : wi.cell? ⟨w.heap.size + 1, 6, none⟩ = some (.bool false) := HFL.out.b4.cell 6
      have p6 : wi.frozen? ⟨w.heap.size + 1, 6, none⟩ = false := HFL.out.b4.frozen 6
      go_wp2
      obtain ⟨hw, hT, hK⟩ := HFL.out.fin (.int .i64 0) (.slice none 0 0) (.int .i64 0) (.int .i64 0) (.int .i64 0) (.slice AL L.length cL) (.bool false)
      unfold set7 at hw hT hK
      refine bodyPost_ret (results_cell_row rfl _ _ (w.heap.size + 1) 43 #[(.int .i64 0), (.slice none 0 0), (.int .i64 0), (.int .i64 0), (.int .i64 0), (.slice AL L.length cL), (.bool false)] (0, 0) _ rfl hw Tryz.underlying43 rfl (by kernel_rfl)) rfl ?_
      refine ⟨_, _, rfl, ?_, hT, by rw [HRR.out]; exact HSIM.out⟩
      rw [HRR.out]
      exact ⟨none, 0, AL, cL, rfl, World.ownsRow_nil _ _ _ _, own_base (hK.own HOL.out (fun i hi e => by have := HLE.out.1; omega)) (by have := HLE.out.1; omega)⟩
end Rf
end Go.Proofs.YtlljpjehalodfaaGreat
