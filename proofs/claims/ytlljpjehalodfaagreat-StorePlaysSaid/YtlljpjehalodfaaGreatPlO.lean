/- The document's store: a call (chapter 14): uploads listed. -/
import Derived.Test.YtlljpjehalodfaaGreatProg
import Derived.Test.YtlljpjehalodfaaGreatPlN
namespace Go.Proofs.YtlljpjehalodfaaGreat
open Go.RowKit
namespace Rf
open St

def itU9 (u : Ru) : It := ⟨u.key, u.id, ((psumR u.parts : Nat) : Int), u.born⟩
def listU (x : Cl) (l : List Ru) : List It := (l.filter fun u => !decide (u.id ≤ x.id)).map itU9
theorem listU_snoc (x : Cl) (l : List Ru) {j : Nat} (hj : j < l.length) : listU x (l.take (j + 1)) = if (gu l j).id ≤ x.id then listU x (l.take j) else listU x (l.take j) ++ [itU9 (gu l j)] := by
  unfold listU
  rw [List.take_succ_eq_append_getElem hj, List.filter_append, List.map_append, gu_eq hj]
  by_cases h : (gu l j).id ≤ x.id
  · rw [if_pos h, List.filter_cons_of_neg (by simp [h])]; simp
  · rw [if_neg h, List.filter_cons_of_pos (by simp [h])]; rfl
theorem listU_more (x : Cl) (l : List Ru) {j : Nat} (hj : j < l.length) (h : ¬ (gu l j).id ≤ x.id) : ∃ t, listU x l = listU x (l.take j) ++ itU9 (gu l j) :: t := by
  refine ⟨listU x (l.drop (j + 1)), ?_⟩
  have e : l = l.take j ++ gu l j :: l.drop (j + 1) := by rw [← gu_eq hj, ← List.drop_eq_getElem_cons hj, List.take_append_drop]
  conv => lhs; rw [e]
  unfold listU
  rw [List.filter_append, List.map_append, List.filter_cons_of_pos (by simp [h]), List.map_cons]
theorem listU_sim {x : Cl} {l : List Ru} {m : List (Int × PU)} (h : All2 SimU l m) : listU x l = (m.filter fun p => !decide (p.1 ≤ x.id)).map fun p => (⟨p.2.key, p.1, (p.2.sum : Int), p.2.born⟩ : It) := by
  induction h with
  | nil => rfl
  | @cons u p l m ha _ ih =>
    have hit : itU9 u = ⟨p.2.key, p.1, (p.2.sum : Int), p.2.born⟩ := by
      unfold itU9
      rw [ha.sum, ha.key, ha.id, ha.born]
    unfold listU at ih ⊢
    by_cases hq : p.1 ≤ x.id
    · rw [List.filter_cons_of_neg (by rw [ha.id]; simp [hq]), List.filter_cons_of_neg (by simp [hq]), ih]
    · rw [List.filter_cons_of_pos (by rw [ha.id]; simp [hq]), List.filter_cons_of_pos (by simp [hq]), List.map_cons, List.map_cons, ih, hit]
theorem Sim.listU {R : RS} {s : PS} (h : Sim R s) (hs : PSrt s) (x : Cl) : s.opened x.pure = ⟨0, [], 0, 0, 0, (listU x R.ups).take 16, decide (16 < (Rf.listU x R.ups).length)⟩ := by
  have hk : s.ids x.pure = (s.ups.filter fun p => !decide (p.1 ≤ x.id)).map fun p => p.1 := by
    show keepF _ (s.ups.map fun p => p.1) = _
    unfold keepF
    rw [List.filter_map]; rfl
  have hi : (s.ids x.pure).map s.itU = Rf.listU x R.ups := by
    rw [hk, List.map_map, listU_sim h.ups]
    refine List.map_congr_left fun p hp => ?_
    have hm : mget s.ups p.1 = some p.2 := mget_of_mem hs.ndu (List.mem_filter.1 hp).1
    show s.itU p.1 = _
    unfold PS.itU
    rw [hm]; rfl
  have hl : (s.ids x.pure).length = (Rf.listU x R.ups).length := by rw [← hi, List.length_map]
  unfold PS.opened
  rw [List.map_take, hi, hl]
set_option maxRecDepth 100000 in
set_option maxHeartbeats 16000000 in
theorem doR_11 (w : World) {base n : Nat} {R : RS} {s : PS} {x : Cl} (h : RAt w base R) (hS : Sim R s) (hi : PInv s n) (hs : PSrt s) (hn : n ≤ 1000) (hd : Bytes w w.heap.size x.A x.d.length x.d) (ho : Out R x.A x.d.length) (hx : ClOk x)
    (hk : x.kind = 11) : DoR w base R s x := by
  unfold DoR
  have hu0 : s.step x.pure = (s, s.opened x.pure) := by
    have e : x.pure.kind = x.kind := rfl
    rw [kind_step, e]
    rw [if_neg (by omega), if_neg (by omega), if_neg (by omega), if_pos (by omega)]
  rw [hS.listU hs x] at hu0
  have HR := Lib.hid hu0
  clear hu0
  have HK0 := Lib.hid hk
  clear hk
  generalize s.step x.pure = r at *
  have HSIM := Lib.hid hS
  have HI := Lib.hid hi
  have HRS := Lib.hid hs
  have hol : R.objs.length ≤ 1000 := by rw [hS.olen]; exact Nat.le_trans hi.on hn
  have hul : R.ups.length ≤ 1000 := by rw [hS.ups.len]; exact Nat.le_trans hi.un hn
  clear hS hi hs
  have HF0 := (FR.start h hd ho).toX
  unfold Cl.cells rep0 at HF0
  have HF := Lib.hid HF0
  clear HF0 hd ho h
  unfold Cl.val Cl.cells
  go_enter Tryz.func13, Tryz.ntmps13
  go_upto_region 1 with fail
  generalize ((w.alloc (.cells #[.int .i64 x.kind, .string x.key, .slice x.A x.d.length x.c, .int .i64 x.ver, .int .i64 x.at_, .int .i64 x.n, .int .i64 x.id] 34)).alloc (.cells #[.int .i64 0, .slice none 0 0, .int .i64 0, .int .i64 0, .int .i64 0, .slice none 0 0, .bool false] 43)) = w2 at *
  have HAT : Hid (∀ m, Calls Tryz.prog 23 #[.pointer (some ⟨R.g, 0, none⟩), .string x.key] (w2.drewN m) fun e w'' => e = .returned (.int .i64 (R.idxO x.key)) ∧ ∃ m', w'' = w2.drewN m') := Lib.hid fun m => (at_calls (w2.drewN m) (HF.out.at_.drewN m) (Nat.le_trans hol (by omega)) x.key).mono fun e w'' h => ⟨h.1, m, h.2.symm⟩
  have HOP : Hid (∀ m, Calls Tryz.prog 24 #[.pointer (some ⟨R.g, 0, none⟩), .int .i64 x.id] (w2.drewN m) fun e w'' => e = .returned (.int .i64 (R.idxU x.id)) ∧ ∃ m', w'' = w2.drewN m') := Lib.hid fun m => (open_calls (w2.drewN m) (HF.out.at_.drewN m) (Nat.le_trans hul (by omega)) x.id).mono fun e w'' h => ⟨h.1, m, h.2.symm⟩
  have k1 : w2.cell? ⟨w.heap.size, 1, none⟩ = some (.string x.key) := HF.out.b3.cell 1
  have k6 : w2.cell? ⟨w.heap.size, 6, none⟩ = some (.int .i64 x.id) := HF.out.b3.cell 6
  go_quiet (first | (exact HAT.out _) | (exact HOP.out _))
  clear HAT HOP k1 k6
  have HF1 := Lib.hid (HF.out.drewN nq)
  have HIX := Lib.hid (HSIM.out.idxO HRS.out x.key)
  have HIU := Lib.hid (HSIM.out.idxU HRS.out x.id)
  generalize R.idxO x.key = ix at *
  generalize R.idxU x.id = iu at *
  generalize w2.drewN nq = w1 at *
  have k0 : w1.cell? ⟨w.heap.size, 0, none⟩ = some (.int .i64 x.kind) := HF1.out.b3.cell 0
  have k1 : w1.cell? ⟨w.heap.size, 1, none⟩ = some (.string x.key) := HF1.out.b3.cell 1
  have k2 : w1.cell? ⟨w.heap.size, 2, none⟩ = some (.slice x.A x.d.length x.c) := HF1.out.b3.cell 2
  have k3 : w1.cell? ⟨w.heap.size, 3, none⟩ = some (.int .i64 x.ver) := HF1.out.b3.cell 3
  have k4 : w1.cell? ⟨w.heap.size, 4, none⟩ = some (.int .i64 x.at_) := HF1.out.b3.cell 4
  have k5 : w1.cell? ⟨w.heap.size, 5, none⟩ = some (.int .i64 x.n) := HF1.out.b3.cell 5
  have k6 : w1.cell? ⟨w.heap.size, 6, none⟩ = some (.int .i64 x.id) := HF1.out.b3.cell 6
  have e1 : (x.kind == 1) = ((11 : Int) == 1) := by rw [HK0.out]
  have e2 : (x.kind == 2) = ((11 : Int) == 2) := by rw [HK0.out]
  have e3 : (x.kind == 3) = ((11 : Int) == 3) := by rw [HK0.out]
  have e4 : (x.kind == 4) = ((11 : Int) == 4) := by rw [HK0.out]
  have e5 : (x.kind == 5) = ((11 : Int) == 5) := by rw [HK0.out]
  have e6 : (x.kind == 6) = ((11 : Int) == 6) := by rw [HK0.out]
  have e7 : (x.kind == 7) = ((11 : Int) == 7) := by rw [HK0.out]
  have e8 : (x.kind == 8) = ((11 : Int) == 8) := by rw [HK0.out]
  have e9 : (x.kind == 9) = ((11 : Int) == 9) := by rw [HK0.out]
  have e10 : (x.kind == 10) = ((11 : Int) == 10) := by rw [HK0.out]
  have e11 : (x.kind == 11) = ((11 : Int) == 11) := by rw [HK0.out]
  clear HIX HIU
  go_upto_region 66 with fail
  have HB9 := Lib.hid (Blk.new w1 43 #[.int .i64 0, .slice none 0 0, .int .i64 0, .int .i64 0, .int .i64 0, .slice none 0 0, .bool false])
  have hb5 : Below w1.heap.size w1 (w1.alloc (.cells #[.int .i64 0, .slice none 0 0, .int .i64 0, .int .i64 0, .int .i64 0, .slice none 0 0, .bool false] 43)) := (Below.refl _ _).alloc (Nat.le_refl _) _
  have HB5 := Lib.hid hb5
  clear hb5 k0 k1 k2 k3 k4 k5 k6
  generalize w1.alloc (.cells #[.int .i64 0, .slice none 0 0, .int .i64 0, .int .i64 0, .int .i64 0, .slice none 0 0, .bool false] 43) = w5 at *
  obtain ⟨g9, hg9⟩ : ∃ g9, w1.heap.size = g9 := ⟨_, rfl⟩
  have hs1 := HF1.out.size
  rw [hg9] at HB9 ⊢
  have hg95 := HB9.out.lt
  have HLE : Hid (w.heap.size + 1 < w5.heap.size ∧ w.heap.size + 1 < g9) := Lib.hid (by omega)
  have z0 : w5.cell? ⟨R.g, 1, none⟩ = some (.slice R.AU R.ups.length R.cU) := (HF1.out.on HB5.out).at_.blk.cell 1
  go_wp2
  clear z0
  go_loopw [334] (fun i wr => ∃ (j : Nat) (L : List It) (AL : Option Addr) (cL : Nat), j ≤ R.ups.length ∧ i = .int .i64 (j : Int) ∧ Hid (L = listU x (R.ups.take j)) ∧ L.length ≤ 16 ∧ Hid (Blk wr g9 43 #[.int .i64 0, .slice none 0 0, .int .i64 0, .int .i64 0, .int .i64 0, .slice AL L.length cL, .bool false]) ∧ Hid (wr.ownsRow w5.heap.size 62 4 (.slice AL L.length cL) L.length (itCells L)) ∧ Hid (Below w1.heap.size w1 wr) ∧ w5.heap.size ≤ wr.heap.size) (fun i _ => R.ups.length - (intOf i).toNat)
  case atStart => exact ⟨0, [], none, 0, Nat.zero_le _, rfl, Lib.hid rfl, Nat.zero_le _, HB9, Lib.hid (World.ownsRow_nil _ _ _ _), HB5, Nat.le_refl _⟩
  case round =>
    obtain ⟨j, L, AL, cL, hj, rfl, HL, hL16, H9, HOL, HW, hle5⟩ := hrel
    obtain ⟨wi, rfl⟩ : ∃ wi : World, wi = wr := ⟨_, rfl⟩
    have hle := HW.out.size
    by_cases hlt : j < R.ups.length
    · have d1 : decide ((j : Int) < (R.ups.length : Int)) = true := dct (by omega)
      have HFi := Lib.hid (HF1.out.on HW.out)
      obtain ⟨b', off', e', hbB', hcell⟩ := u_at HFi.out.at_.u_reads hlt
      have x0 := hcell 0 _ (by omega) rfl
      have x1 := hcell 1 _ (by omega) rfl
      have x2 := hcell 2 _ (by omega) rfl
      have x3 := hcell 3 _ (by omega) rfl
      rw [Nat.add_zero] at x0
      have hi0' : (0 : Int) ≤ (j : Int) := by omega
      have hi1' : (j : Int) < (R.ups.length : Int) := by omega
      have HSN := Lib.hid (listU_snoc x R.ups hlt)
      have HMO := Lib.hid (listU_more x R.ups hlt)
      have hyl : (gu R.ups j).parts.length ≤ 1000000 := by
        have h1 := HSIM.out.ups.get hlt (by rw [← HSIM.out.ups.len]; exact hlt)
        rw [gu_eq hlt] at h1
        rw [h1.len]
        have := HI.out.pn _ (List.getElem_mem (by rw [← HSIM.out.ups.len]; exact hlt : j < s.ups.length))
        omega
      have hys : psumR (gu R.ups j).parts ≤ 1000000000 := by
        have h1 := usumR_mem (gu_mem hlt)
        have h2 : usumR R.ups ≤ s.tot := by rw [← HSIM.out.size]; unfold RS.size; omega
        have := HI.out.big
        omega
      have HRD0 := Lib.hid (HFi.out.at_.up _ (gu_mem hlt)).1
      rw [e']
      clear hcell
      generalize gu R.ups j = y at *
      go_upto_region 69 with fail
      have HB11 := Lib.hid (Blk.new wi 74 #[.int .i64 y.id, .int .i64 y.born, .string y.key, .slice y.PA y.parts.length y.pc])
      have hb7 : Below wi.heap.size wi (wi.alloc (.cells #[.int .i64 y.id, .int .i64 y.born, .string y.key, .slice y.PA y.parts.length y.pc] 74)) := (Below.refl _ _).alloc (Nat.le_refl _) _
      have HW7 := Lib.hid (HW.out.trans (hb7.mono hle))
      have HO7 := Lib.hid (own_below HOL.out hb7)
      have H97 := Lib.hid (H9.out.below hb7 H9.out.lt)
      have hle7 := hb7.size
      have HRDY := Lib.hid ((HRD0.out.below hb7).more hle7)
      have hne0 : ∀ i, (Value.slice AL L.length cL).ownBlock = some i → i < wi.heap.size := fun i hi => (HOL.out.lt i hi).2
      clear x0 x1 x2 x3 hb7 HOL H9 HW HFi
      generalize wi.alloc (.cells #[.int .i64 y.id, .int .i64 y.born, .string y.key, .slice y.PA y.parts.length y.pc] 74) = w7 at *
      obtain ⟨g11, hg11⟩ : ∃ g, wi.heap.size = g := ⟨_, rfl⟩
      rw [hg11] at HB11 ⊢
      rw [hg11] at hne0
      have HNE := Lib.hid hne0
      clear hne0
      have HF7 := Lib.hid (HF1.out.on HW7.out)
      have y0 : w7.cell? ⟨g11, 0, none⟩ = some (.int .i64 y.id) := HB11.out.cell 0
      have y1 : w7.cell? ⟨g11, 1, none⟩ = some (.int .i64 y.born) := HB11.out.cell 1
      have y2 : w7.cell? ⟨g11, 2, none⟩ = some (.string y.key) := HB11.out.cell 2
      have y3 : w7.cell? ⟨g11, 3, none⟩ = some (.slice y.PA y.parts.length y.pc) := HB11.out.cell 3
      have k6 : w7.cell? ⟨w.heap.size, 6, none⟩ = some (.int .i64 x.id) := HF7.out.b3.cell 6
      by_cases hq : y.id ≤ x.id
      · have d3 := dct hq
        have HS2 : Hid (listU x (R.ups.take (j + 1)) = listU x (R.ups.take j)) := Lib.hid (by rw [HSN.out, if_pos hq])
        clear hq
        go_wp2
        go_roundw
        case rel => exact ⟨j + 1, L, AL, cL, by omega, by go_num, Lib.hid (by rw [HS2.out, HL.out]), hL16, H97, HO7, HW7, by omega⟩
        case measure => simp [intOf]; omega
      · have d3 := dcf hq
        have HS2 : Hid (listU x (R.ups.take (j + 1)) = listU x (R.ups.take j) ++ [itU9 y]) := Lib.hid (by rw [HSN.out, if_neg hq])
        have HM2 : Hid (∃ t, listU x R.ups = listU x (R.ups.take j) ++ itU9 y :: t) := Lib.hid (HMO.out hq)
        clear HSN HMO hq
        have n5 : w7.cell? ⟨g9, 5, none⟩ = some (.slice AL L.length cL) := H97.out.cell 5
        by_cases h16 : L.length = 16
        · have d2 : ((L.length : Int) == 16) = true := eqt (by omega)
          have HRR : Hid (r = (s, ⟨0, [], 0, 0, 0, L, true⟩)) := Lib.hid (by
            obtain ⟨t, ht⟩ := HM2.out
            rw [HR.out, ht, ← HL.out, List.take_left' h16, List.length_append, List.length_cons, dct (by omega)])
          have n6 : w7.cell? ⟨g9, 6, none⟩ = some (.bool false) := H97.out.cell 6
          have f6 := H97.out.frozen 6
          clear h16 HM2 HS2
          go_upto_region 74 with fail
          have H98 := Lib.hid (H97.out.set_ 6 (.bool true))
          have HFL := Lib.hid (HF1.out.on (HW7.out.setCell (p := ⟨g9, 6, none⟩) (Nat.le_of_eq hg9) (.bool true)))
          have HO8 := Lib.hid (own_setCell (p := ⟨g9, 6, none⟩) HO7.out hg95 (.bool true))
          clear n5 n6 f6 y0 y1 y2 y3 k6 d3 H97 HW7 HF7 HO7 HB11
          generalize w7.setCell ⟨g9, 6, none⟩ (.bool true) = w8 at *
          have q9 := H98.out
          have n0 : w8.cell? ⟨g9, 0, none⟩ = some (.int .i64 0) := q9.cell 0
          have n1 : w8.cell? ⟨g9, 1, none⟩ = some (.slice none 0 0) := q9.cell 1
          have n2 : w8.cell? ⟨g9, 2, none⟩ = some (.int .i64 0) := q9.cell 2
          have n3 : w8.cell? ⟨g9, 3, none⟩ = some (.int .i64 0) := q9.cell 3
          have n4 : w8.cell? ⟨g9, 4, none⟩ = some (.int .i64 0) := q9.cell 4
          have n5 : w8.cell? ⟨g9, 5, none⟩ = some (.slice AL L.length cL) := q9.cell 5
          have n6 : w8.cell? ⟨g9, 6, none⟩ = some (.bool true) := q9.cell 6
          clear q9
          have q0 : w8.cell? ⟨w.heap.size + 1, 0, none⟩ = some (.int .i64 0) := HFL.out.b4.cell 0
          have p0 : w8.frozen? ⟨w.heap.size + 1, 0, none⟩ = false := HFL.out.b4.frozen 0
          have q1 : w8.cell? ⟨w.heap.size + 1, 1, none⟩ = some (.slice none 0 0) := HFL.out.b4.cell 1
          have p1 : w8.frozen? ⟨w.heap.size + 1, 1, none⟩ = false := HFL.out.b4.frozen 1
          have q2 : w8.cell? ⟨w.heap.size + 1, 2, none⟩ = some (.int .i64 0) := HFL.out.b4.cell 2
          have p2 : w8.frozen? ⟨w.heap.size + 1, 2, none⟩ = false := HFL.out.b4.frozen 2
          have q3 : w8.cell? ⟨w.heap.size + 1, 3, none⟩ = some (.int .i64 0) := HFL.out.b4.cell 3
          have p3 : w8.frozen? ⟨w.heap.size + 1, 3, none⟩ = false := HFL.out.b4.frozen 3
          have q4 : w8.cell? ⟨w.heap.size + 1, 4, none⟩ = some (.int .i64 0) := HFL.out.b4.cell 4
          have p4 : w8.frozen? ⟨w.heap.size + 1, 4, none⟩ = false := HFL.out.b4.frozen 4
          have q5 : w8.cell? ⟨w.heap.size + 1, 5, none⟩ = some (.slice none 0 0) := HFL.out.b4.cell 5
          have p5 : w8.frozen? ⟨w.heap.size + 1, 5, none⟩ = false := HFL.out.b4.frozen 5
          have q6 : w8.cell? ⟨w.heap.size + 1, 6, none⟩ = some (.bool false) := HFL.out.b4.cell 6
          have p6 : w8.frozen? ⟨w.heap.size + 1, 6, none⟩ = false := HFL.out.b4.frozen 6
          go_wp2
          obtain ⟨hw, hT, hK⟩ := HFL.out.fin (.int .i64 0) (.slice none 0 0) (.int .i64 0) (.int .i64 0) (.int .i64 0) (.slice AL L.length cL) (.bool true)
          unfold set7 at hw hT hK
          refine bodyPost_ret (results_cell_row rfl _ _ (w.heap.size + 1) 43 #[(.int .i64 0), (.slice none 0 0), (.int .i64 0), (.int .i64 0), (.int .i64 0), (.slice AL L.length cL), (.bool true)] (0, 0) _ rfl hw Tryz.underlying43 rfl (by kernel_rfl)) rfl ?_
          refine ⟨_, _, rfl, ?_, hT, by rw [HRR.out]; exact HSIM.out⟩
          rw [HRR.out]
          exact ⟨none, 0, AL, cL, rfl, World.ownsRow_nil _ _ _ _, own_base (hK.own HO8.out (fun i hi e => by have := HLE.out.1; omega)) (by have := HLE.out.1; omega)⟩
        · have d2 : ((L.length : Int) == 16) = false := eqf (by omega)
          have hg97 : g9 < w7.heap.size := H97.out.lt
          go_upto_region 72 with fail
          have hgs := HF7.out.size
          have Hk : Hid (∀ W, Below w7.heap.size w7 W → W.cell? ⟨g9, 5, none⟩ = some (.slice AL L.length cL) ∧ W.cell? ⟨g11, 0, none⟩ = some (.int .i64 y.id) ∧ W.cell? ⟨g11, 1, none⟩ = some (.int .i64 y.born) ∧ W.cell? ⟨g11, 2, none⟩ = some (.string y.key) ∧ W.cell? ⟨g11, 3, none⟩ = some (.slice y.PA y.parts.length y.pc)) := Lib.hid fun W hW => ⟨(H97.out.below hW hg97).cell 5, (HB11.out.below hW HB11.out.lt).cell 0, (HB11.out.below hW HB11.out.lt).cell 1, (HB11.out.below hW HB11.out.lt).cell 2, (HB11.out.below hW HB11.out.lt).cell 3⟩
          have HSC : Hid (∀ W, Below w7.heap.size w7 W → Calls Tryz.prog 33 #[.agg #[.int .i64 y.id, .int .i64 y.born, .string y.key, .slice y.PA y.parts.length y.pc]] W fun e w' => e = .returned (.int .i64 (psumR y.parts : Nat)) ∧ Below W.heap.size W w') := Lib.hid fun W hW => sizeU_calls W y ((HRDY.out.below hW).more hW.size) hyl hys
          clear n5 y0 y1 y2 y3 k6 d2 d3
          refine wp_region_T 14 (fun w' => w'.cell? ⟨g9, 5, none⟩ = some (.slice AL L.length cL) ∧ w'.cell? ⟨g11, 0, none⟩ = some (.int .i64 y.id) ∧ w'.cell? ⟨g11, 1, none⟩ = some (.int .i64 y.born) ∧ w'.cell? ⟨g11, 2, none⟩ = some (.string y.key) ∧ w'.cell? ⟨g11, 3, none⟩ = some (.slice y.PA y.parts.length y.pc)) (by kernel_rfl) (Hk.out _ (below_drewN_ (Below.refl _ _) 1)) (fun hHeld => ?_)
          have HW0 : Hid (Below w7.heap.size w7 w7.drew) := Lib.hid (below_drewN_ (Below.refl _ _) 1)
          generalize w7.drew = wd at *
          refine wpAnyT_take (i := 0) (oi := _) (v := ?_) rfl (by kernel_rfl) (fun _ _ _ h => h) (Or.inl ⟨by kernel_rfl, ?_⟩) (by assumption) ?_; rotate_left; (focus (intro w hSw; (try dsimp only at hSw); go_simp; (try with_reducible rfl))); (try simp only [Act.put, List.getElem_toArray, List.getElem_cons_zero, List.setIfInBounds_toArray, List.set_cons_zero, List.set_cons_succ])
          refine wpAnyT_take (i := 1) (oi := _) (v := ?_) rfl (by kernel_rfl) (fun _ _ _ h => h) (Or.inl ⟨by kernel_rfl, ?_⟩) (by assumption) ?_; rotate_left; (focus (intro w hSw; (try dsimp only at hSw); go_simp; (try with_reducible rfl))); (try simp only [Act.put, List.getElem_toArray, List.getElem_cons_zero, List.getElem_cons_succ, List.setIfInBounds_toArray, List.set_cons_zero, List.set_cons_succ])
          refine wpAnyT_take (i := 2) (oi := _) (v := ?_) rfl (by kernel_rfl) (fun _ _ _ h => h) (Or.inl ⟨by kernel_rfl, ?_⟩) (by assumption) ?_; rotate_left; (focus (intro w hSw; (try dsimp only at hSw); go_simp; (try with_reducible rfl))); (try simp only [Act.put, List.getElem_toArray, List.getElem_cons_zero, List.getElem_cons_succ, List.setIfInBounds_toArray, List.set_cons_zero, List.set_cons_succ])
          refine wpAnyT_take (i := 3) (oi := _) (v := ?_) rfl (by kernel_rfl) (fun _ _ _ h => h) (Or.inl ⟨by kernel_rfl, ?_⟩) (by assumption) ?_; rotate_left; (focus (intro w hSw; (try dsimp only at hSw); go_simp; (try with_reducible rfl))); (try simp only [Act.put, List.getElem_toArray, List.getElem_cons_zero, List.getElem_cons_succ, List.setIfInBounds_toArray, List.set_cons_zero, List.set_cons_succ])
          refine wpAnyT_take (i := 4) (oi := _) (v := ?_) rfl (by kernel_rfl) (fun _ _ _ h => h) (Or.inl ⟨by kernel_rfl, ?_⟩) (by assumption) ?_; rotate_left; (focus (intro w hSw; (try dsimp only at hSw); go_simp; (try with_reducible rfl))); (try simp only [Act.put, List.getElem_toArray, List.getElem_cons_zero, List.getElem_cons_succ, List.setIfInBounds_toArray, List.set_cons_zero, List.set_cons_succ])
          refine wpAnyT_take (i := 5) (oi := _) (v := ?_) rfl (by kernel_rfl) (fun _ _ _ h => h) (Or.inl ⟨by kernel_rfl, ?_⟩) (by assumption) ?_; rotate_left; (focus (intro w hSw; (try dsimp only at hSw); go_simp; (try with_reducible rfl))); (try simp only [Act.put, List.getElem_toArray, List.getElem_cons_zero, List.getElem_cons_succ, List.setIfInBounds_toArray, List.set_cons_zero, List.set_cons_succ])
          refine wpAnyT_take (i := 6) (oi := _) (v := ?_) rfl (by kernel_rfl) (fun _ _ _ h => h) (Or.inl ⟨by kernel_rfl, ?_⟩) (by assumption) ?_; rotate_left; (focus (intro w hSw; (try dsimp only at hSw); go_simp; (try with_reducible rfl))); (try simp only [Act.put, List.getElem_toArray, List.getElem_cons_zero, List.getElem_cons_succ, List.setIfInBounds_toArray, List.set_cons_zero, List.set_cons_succ])
          refine wpAnyT_take (i := 8) (oi := _) (v := ?_) rfl (by kernel_rfl) (fun _ _ _ h => h) (Or.inl ⟨by kernel_rfl, ?_⟩) (by assumption) ?_; rotate_left; (focus (intro w hSw; (try dsimp only at hSw); go_simp; (try with_reducible rfl))); (try simp only [Act.put, List.getElem_toArray, List.getElem_cons_zero, List.getElem_cons_succ, List.setIfInBounds_toArray, List.set_cons_zero, List.set_cons_succ])
          refine wpAnyT_take (i := 9) (oi := _) (v := ?_) rfl (by kernel_rfl) (fun _ _ _ h => h) (Or.inl ⟨by kernel_rfl, ?_⟩) (by assumption) ?_; rotate_left; (focus (intro w hSw; (try dsimp only at hSw); go_simp; (try with_reducible rfl))); (try simp only [Act.put, List.getElem_toArray, List.getElem_cons_zero, List.getElem_cons_succ, List.setIfInBounds_toArray, List.set_cons_zero, List.set_cons_succ])
          refine wpAnyT_one (i := 7) (by kernel_rfl) rfl (fun K hK => ?_); go_simp
          refine (HSC.out _ HW0.out).mono ?_
          rintro e w8 ⟨rfl, hb8⟩
          have HW8 := Lib.hid (HW0.out.trans (hb8.mono HW0.out.size))
          have hH8 := Hk.out _ HW8.out
          refine hK.out _ _ (fun _ => hH8) ?_
          clear hK K hHeld hb8 HSC HW0
          (try simp only [Act.put, List.getElem_toArray, List.getElem_cons_zero, List.getElem_cons_succ, List.setIfInBounds_toArray, List.set_cons_zero, List.set_cons_succ])
          refine wpAnyT_take (i := 10) (oi := _) (v := ?_) rfl (by kernel_rfl) (fun _ _ _ h => h) (Or.inl ⟨by kernel_rfl, ?_⟩) (by assumption) ?_; rotate_left; (focus (intro w hSw; (try dsimp only at hSw); go_simp; (try with_reducible rfl))); (try simp only [Act.put, List.getElem_toArray, List.getElem_cons_zero, List.getElem_cons_succ, List.setIfInBounds_toArray, List.set_cons_zero, List.set_cons_succ])
          refine wpAnyT_one (i := 11) (by kernel_rfl) rfl (fun K hK => ?_); go_simp
          have HW9 := Lib.hid (HW8.out.alloc HW8.out.size (.cells #[.string y.key, .int .i64 y.id, .int .i64 (psumR y.parts : Nat), .int .i64 y.born] 62))
          have HM9 := Lib.hid (Reads.made (n := 1) (size := 4) w8 #[.string y.key, .int .i64 y.id, .int .i64 (psumR y.parts : Nat), .int .i64 y.born] 62 rfl)
          have hH9 := Hk.out _ HW9.out
          refine hK.out _ _ (fun _ => hH9) ?_
          clear hK K hH8
          (try simp only [Act.put, List.getElem_toArray, List.getElem_cons_zero, List.getElem_cons_succ, List.setIfInBounds_toArray, List.set_cons_zero, List.set_cons_succ])
          generalize w8.alloc (.cells #[.string y.key, .int .i64 y.id, .int .i64 (psumR y.parts : Nat), .int .i64 y.born] 62) = w9 at *
          have HO9 := Lib.hid (own_below HO7.out HW9.out)
          have hs9 : w5.heap.size ≤ w9.heap.size := by have := HW9.out.size; omega
          refine wpAnyT_one (i := 12) (by kernel_rfl) rfl (fun K hK => ?_)
          refine step_append_sl _ rfl (.tmp 349) (.tmp 359) _ rfl w5.heap.size 62 _ 4 40 Tryz.underlying41 Tryz.infoIt rfl (by omega) _ _ _ rfl HO9.out _ _ 1 1 _ rfl HM9.out (it_one (itU9 y)) (by unfold maxLen; omega) (by omega) hs9 ?_
          intro A10 c10 w10 hc101 hc102 hrd10 hbel10 hown10 hgr10 _
          have hb710 : Below w5.heap.size w7 w10 := (HW9.out.mono (by omega)).trans hbel10
          have HO10 : Hid (w10.ownsRow w5.heap.size 62 4 (.slice A10 (L ++ [itU9 y]).length c10) (L ++ [itU9 y]).length (itCells (L ++ [itU9 y]))) := Lib.hid (by rw [itCells_snoc, List.length_append]; exact hown10)
          have H910 := Lib.hid (H97.out.below hb710 hg95)
          have HB1110 := (Keep.of_grown (F := fun i => some i = (Value.slice AL L.length cL).ownBlock) hgr10 (fun i hi => hi)).blk (HB11.out.below HW9.out HB11.out.lt) (fun hf => by have := HNE.out _ hf.symm; omega)
          have HW10 := Lib.hid (HW7.out.trans (hb710.mono HB5.out.size))
          have hle10 := hb710.size
          have hH10 : w10.cell? ⟨g9, 5, none⟩ = some (.slice AL L.length cL) ∧ w10.cell? ⟨g11, 0, none⟩ = some (.int .i64 y.id) ∧ w10.cell? ⟨g11, 1, none⟩ = some (.int .i64 y.born) ∧ w10.cell? ⟨g11, 2, none⟩ = some (.string y.key) ∧ w10.cell? ⟨g11, 3, none⟩ = some (.slice y.PA y.parts.length y.pc) := ⟨H910.out.cell 5, HB1110.cell 0, HB1110.cell 1, HB1110.cell 2, HB1110.cell 3⟩
          have m5 : w10.cell? ⟨g9, 5, none⟩ = some (.slice AL L.length cL) := H910.out.cell 5
          have f5 := H910.out.frozen 5
          refine hK.out _ _ (fun _ => hH10) ?_
          clear hK K hc101 hc102 hrd10 hbel10 hown10 hb710 hgr10 HB1110 hH9 HM9 HO9
          (try simp only [Act.put, List.getElem_toArray, List.getElem_cons_zero, List.getElem_cons_succ, List.setIfInBounds_toArray, List.set_cons_zero, List.set_cons_succ])
          refine wpAnyT_one (i := 13) (by kernel_rfl) rfl (fun K hK => ?_); go_simp; refine hK.out _ _ (fun _ => hH10) ?_; clear hK K; (try simp only [Act.put, List.getElem_toArray, List.getElem_cons_zero, List.getElem_cons_succ, List.setIfInBounds_toArray, List.set_cons_zero, List.set_cons_succ])
          refine wpAnyT_one (i := 14) (by kernel_rfl) rfl (fun K hK => ?_); go_simp
          refine hK.out _ _ (fun h => absurd rfl h) (wpAnyT_done (by kernel_rfl) ?_ _)
          clear hK K hH10 Hk
          go_upto_region 73 with fail
          have H911 := Lib.hid (H910.out.set_ 5 (.slice A10 (L.length + 1) c10))
          have HW11 := Lib.hid (HW10.out.setCell (p := ⟨g9, 5, none⟩) (Nat.le_of_eq hg9) (.slice A10 (L.length + 1) c10))
          have HO11 := Lib.hid (own_setCell (p := ⟨g9, 5, none⟩) HO10.out hg95 (.slice A10 (L.length + 1) c10))
          have hle11 : w5.heap.size ≤ (w10.setCell ⟨g9, 5, none⟩ (.slice A10 (L.length + 1) c10)).heap.size := by simp; omega
          have hsn : (L ++ [itU9 y]).length = L.length + 1 := by simp
          have HSN2 := Lib.hid hsn
          clear m5 f5 H910 HW10 HO10 hle10 hsn
          generalize w10.setCell ⟨g9, 5, none⟩ (.slice A10 (L.length + 1) c10) = w11 at *
          go_wp2
          go_roundw
          case rel => exact ⟨j + 1, L ++ [itU9 y], A10, c10, by omega, by go_num, Lib.hid (by rw [HS2.out, HL.out]), by rw [HSN2.out]; omega, by rw [HSN2.out]; exact H911, HO11, HW11, hle11⟩
          case measure => simp [intOf]; omega
    · obtain rfl : j = R.ups.length := by omega
      have d1 : decide ((R.ups.length : Int) < (R.ups.length : Int)) = false := dcf (by omega)
      rw [List.take_length] at HL
      have HRR : Hid (r = (s, ⟨0, [], 0, 0, 0, L, false⟩)) := Lib.hid (by rw [HR.out, ← HL.out, List.take_of_length_le hL16, dcf (by omega)])
      have HFL := Lib.hid (HF1.out.on HW.out)
      go_upto_region 74 with fail
      have q9 := H9.out
      have n0 : wi.cell? ⟨g9, 0, none⟩ = some (.int .i64 0) := q9.cell 0
      have n1 : wi.cell? ⟨g9, 1, none⟩ = some (.slice none 0 0) := q9.cell 1
      have n2 : wi.cell? ⟨g9, 2, none⟩ = some (.int .i64 0) := q9.cell 2
      have n3 : wi.cell? ⟨g9, 3, none⟩ = some (.int .i64 0) := q9.cell 3
      have n4 : wi.cell? ⟨g9, 4, none⟩ = some (.int .i64 0) := q9.cell 4
      have n5 : wi.cell? ⟨g9, 5, none⟩ = some (.slice AL L.length cL) := q9.cell 5
      have n6 : wi.cell? ⟨g9, 6, none⟩ = some (.bool false) := q9.cell 6
      clear q9
      have q0 : wi.cell? ⟨w.heap.size + 1, 0, none⟩ = some (.int .i64 0) := HFL.out.b4.cell 0
      have p0 : wi.frozen? ⟨w.heap.size + 1, 0, none⟩ = false := HFL.out.b4.frozen 0
      have q1 : wi.cell? ⟨w.heap.size + 1, 1, none⟩ = some (.slice none 0 0) := HFL.out.b4.cell 1
      have p1 : wi.frozen? ⟨w.heap.size + 1, 1, none⟩ = false := HFL.out.b4.frozen 1
      have q2 : wi.cell? ⟨w.heap.size + 1, 2, none⟩ = some (.int .i64 0) := HFL.out.b4.cell 2
      have p2 : wi.frozen? ⟨w.heap.size + 1, 2, none⟩ = false := HFL.out.b4.frozen 2
      have q3 : wi.cell? ⟨w.heap.size + 1, 3, none⟩ = some (.int .i64 0) := HFL.out.b4.cell 3
      have p3 : wi.frozen? ⟨w.heap.size + 1, 3, none⟩ = false := HFL.out.b4.frozen 3
      have q4 : wi.cell? ⟨w.heap.size + 1, 4, none⟩ = some (.int .i64 0) := HFL.out.b4.cell 4
      have p4 : wi.frozen? ⟨w.heap.size + 1, 4, none⟩ = false := HFL.out.b4.frozen 4
      have q5 : wi.cell? ⟨w.heap.size + 1, 5, none⟩ = some (.slice none 0 0) := HFL.out.b4.cell 5
      have p5 : wi.frozen? ⟨w.heap.size + 1, 5, none⟩ = false := HFL.out.b4.frozen 5
      have q6 : wi.cell? ⟨w.heap.size + 1, 6, none⟩ = some (.bool false) := HFL.out.b4.cell 6
      have p6 : wi.frozen? ⟨w.heap.size + 1, 6, none⟩ = false := HFL.out.b4.frozen 6
      go_wp2
      obtain ⟨hw, hT, hK⟩ := HFL.out.fin (.int .i64 0) (.slice none 0 0) (.int .i64 0) (.int .i64 0) (.int .i64 0) (.slice AL L.length cL) (.bool false)
      unfold set7 at hw hT hK
      refine bodyPost_ret (results_cell_row rfl _ _ (w.heap.size + 1) 43 #[(.int .i64 0), (.slice none 0 0), (.int .i64 0), (.int .i64 0), (.int .i64 0), (.slice AL L.length cL), (.bool false)] (0, 0) _ rfl hw Tryz.underlying43 rfl (by kernel_rfl)) rfl ?_
      refine ⟨_, _, rfl, ?_, hT, by rw [HRR.out]; exact HSIM.out⟩
      rw [HRR.out]
      exact ⟨none, 0, AL, cL, rfl, World.ownsRow_nil _ _ _ _, own_base (hK.own HOL.out (fun i hi e => by have := HLE.out.1; omega)) (by have := HLE.out.1; omega)⟩
end Rf
end Go.Proofs.YtlljpjehalodfaaGreat
