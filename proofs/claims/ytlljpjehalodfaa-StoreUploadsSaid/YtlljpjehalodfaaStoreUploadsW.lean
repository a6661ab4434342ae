/- StoreUploads: the walk. -/
import Derived.Test.YtlljpjehalodfaaProg
import Derived.Test.YtlljpjehalodfaaSaU
import Derived.Test.YtlljpjehalodfaaSaF
namespace Go.Proofs.Ytlljpjehalodfaa.lawStoreUploads
open Go.RowKit Go.Proofs.Ytlljpjehalodfaa Go.Proofs.Ytlljpjehalodfaa.St
open Go.ChangeShapes Go.WideShapes
theorem Try.infoU8 : (Try.prog.info? 5).map (fun i => (i.zero, i.size, i.bytes)) = some (some (.int .u8 0), 1, 1) := by kernel_rfl
theorem Try.infoBool : (Try.prog.info? 4).map (fun i => (i.zero, i.size, i.bytes)) = some (some (.bool false), 1, 1) := by kernel_rfl
/-- The integers of an argument. -/
def Ints (w : World) (B : Nat) (A : Option Addr) (l : List Int) : Prop := Reads w B 1 A l.length (l.map (Value.int .i64))
theorem part_int {H : Type} {enc : TypeId × Value → H} {W : World} {cs : List Value} {d : DataW H} (hl : cs.length = 1) (h : PartC enc Try.prog W 3 cs d) : ∃ x : Int, True ∧ [Value.int .i64 x] = cs := by
  match cs, hl with
  | [c0], _ =>
    obtain ⟨x, rfl, _⟩ := h.one.int Try.underlying3
    exact ⟨x, trivial, rfl⟩
set_option maxRecDepth 100000 in
theorem arg_ints {H : Type} {enc : TypeId × Value → H} {W : World} {base : Nat} {v : Value} {d : DataW H} {p : List MemPlace} (h : Arg enc Try.prog W base 45 v d p) :
    ∃ (A : Option Addr) (c : Nat) (l : List Int), v = .slice A l.length c ∧ l.length ≤ c ∧ Ints W W.heap.size A l := by
  obtain ⟨A0, n0, c0, rfl⟩ := okWide_slice Try.underlying45 h.ok
  obtain ⟨A, c, l, e, hl, _, hby, hr, hg⟩ := (h.part rfl).rows Try.underlying45 (size := 1) (by kernel_rfl) (by decide) (fun x : Int => [Value.int .i64 x]) (fun _ => True) (fun cs y h1 h2 => part_int h1 h2) (fun _ => rfl)
  have hfm : ∀ l : List Int, (l.flatMap fun x => [Value.int .i64 x]) = l.map (Value.int .i64) := fun l => by
    induction l with
    | nil => rfl
    | cons x r ih => rw [List.flatMap_cons, ih]; rfl
  rw [hfm] at hr
  exact ⟨A, c, l, e, hl, hr⟩
theorem mod_place (o : Int) (n : Nat) (hn : 1 ≤ n) (h8 : n ≤ 8) : ∃ i : Nat, i < n ∧ IntKind.i64.wrap ((IntKind.u64.wrap o).tmod (n : Int)) = (i : Int) := by
  have hw : 0 ≤ IntKind.u64.wrap o ∧ IntKind.u64.wrap o ≤ 18446744073709551615 := by rw [IntKind.wrap_u64]; omega
  generalize IntKind.u64.wrap o = u at *
  have h1 : u.tmod (n : Int) = u % (n : Int) := Int.tmod_eq_emod_of_nonneg hw.1
  have h2 : 0 ≤ u % (n : Int) := Int.emod_nonneg _ (by omega)
  have h3 : u % (n : Int) < n := Int.emod_lt_of_pos _ (by omega)
  refine ⟨(u % (n : Int)).toNat, by omega, ?_⟩
  rw [h1, IntKind.wrap_i64]; omega
theorem step_blk {w w' : World} {L L' : LS} {x : Cl} {g : Nat} {t : TypeId} {cs : Array Value} (hs : StepTo w L x w' L') (hb : Blk w g t cs) (hn : ¬ L.foot g) : Blk w' g t cs ∧ ¬ L'.foot g :=
  ⟨hs.keep.blk hb hn, fun hf => by
    rcases hs.foot _ hf with hf | hf
    · exact hn hf
    · have := hb.lt; omega⟩
theorem field_rep (k : Nat) (u : Value) (W : World) (a0 a1 a2 a3 a4 a5 a6 : Value) (h : #[a0, a1, a2, a3, a4, a5, a6][k]? = some u) (hc : (Instr.field 36 (.agg #[a0, a1, a2, a3, a4, a5, a6]) k).run Try.prog W = .ok u W) : (Instr.field 36 (.agg #[a0, a1, a2, a3, a4, a5, a6]) k).run Try.prog W = .ok u W := hc
theorem getD_set {S : List Bool} {i j : Nat} (hi : i < S.length) : (S.set i true).getD j false = (if i = j then true else S.getD j false) := by
  simp only [List.getD, List.getElem?_set]
  split
  · rename_i h; subst h; simp [hi]
  · rfl
theorem all_true {S : List Bool} {n : Nat} (hl : S.length = n) (h : ∀ j, j < n → S.getD j false = true) : S = List.replicate n true := by
  refine List.ext_getElem (by rw [hl, List.length_replicate]) fun i h1 h2 => ?_
  have := h i (by omega)
  simp only [List.getD, List.getElem?_eq_getElem h1, Option.getD_some] at this
  rw [this, List.getElem_replicate]
set_option maxRecDepth 100000 in
set_option maxHeartbeats 16000000 in
theorem body (w : World) {B cD cO : Nat} {AD AO : Option Addr} {D : List Dt} {O : List Int} (h : Dts w B AD D) (h2 : Ints w B AO O) (hB : B ≤ w.heap.size) (ab : Bool) :
    Calls Try.prog 5 #[.slice AD D.length cD, .slice AO O.length cO, .bool ab] w fun e w' => e = .returned (.bool true) ∧ Below w.heap.size w w' := by
  have HB0 : Hid (Below w.heap.size w (w.alloc (.cells #[.slice AD D.length cD] 23))) := Lib.hid ((Below.refl _ _).alloc (Nat.le_refl _) _)
  have HBP := Lib.hid (Blk.new w 23 #[.slice AD D.length cD])
  have HD := Lib.hid (h.below (HB0.out.mono hB))
  have HO := Lib.hid (Reads.below h2 (HB0.out.mono hB))
  have hgc0 : w.heap.size < (w.alloc (.cells #[.slice AD D.length cD] 23)).heap.size := HBP.out.lt
  clear h h2
  go_enter Try.func5, Try.ntmps5
  go_upto_region 1 with fail
  generalize w.alloc (.cells #[.slice AD D.length cD] 23) = wc at *
  generalize hgw : w.heap.size = gp at *
  have HGW := Lib.hid hgw
  clear hgw
  have hgc : gp ≤ wc.heap.size := Nat.le_of_lt hgc0
  replace hB : B ≤ wc.heap.size := Nat.le_trans hB hgc
  go_wp2_with fail
  refine (new_calls wc).mono ?_
  rintro e w1 ⟨rfl, hA1, hb1⟩
  have HV1 := Lib.hid (Liv.start hA1 hb1)
  have HOP := Lib.hid (step_create wc.heap.size (D.map Dt.d))
  clear hA1 hb1
  generalize hg : wc.heap.size + 2 = g at *
  generalize hL0 : emptyLS wc.heap.size = L0 at *
  clear hL0
  go_upto_region 2 with fail
  have HBV := Lib.hid (Blk.new w1 24 #[.pointer (some ⟨g, 0, none⟩)])
  have HV2 := Lib.hid (HV1.out.on ((Below.refl _ _).alloc (Nat.le_refl _) (.cells #[.pointer (some ⟨g, 0, none⟩)] 24)))
  have HNV : Hid (¬ L0.foot w1.heap.size) := Lib.hid (HV1.out.not_foot (Nat.le_refl _))
  have hgv : wc.heap.size ≤ w1.heap.size := HV1.out.size
  clear HV1
  generalize w1.alloc (.cells #[.pointer (some ⟨g, 0, none⟩)] 24) = w2 at *
  generalize w1.heap.size = gv at *
  go_wp2_with fail
  refine (lives_calls w2).mono ?_
  rintro e w3 ⟨rfl, hb3⟩
  have HV3 := Lib.hid (HV2.out.on hb3)
  have HBV3 := Lib.hid (HBV.out.below hb3 HBV.out.lt)
  have HBP3 := Lib.hid (HBP.out.below HV3.out.below hgc0)
  have HD3 := Lib.hid (HD.out.below (HV3.out.below.mono hB))
  clear hb3 HV2 HBV HBP
  have zp : w3.cell? ⟨gp, 0, none⟩ = some (.slice AD D.length cD) := HBP3.out.cell 0
  have zv : w3.cell? ⟨gv, 0, none⟩ = some (.pointer (some ⟨g, 0, none⟩)) := HBV3.out.cell 0
  by_cases h1 : D.length < 1
  · have d1 : decide ((D.length : Int) < 1) = true := dct (by omega)
    go_wp2
    go_ret
    exact ⟨rfl, by rw [HGW.out]; exact HB0.out.trans (HV3.out.below.mono hgc)⟩
  have d1 : decide ((D.length : Int) < 1) = false := dcf (by omega)
  by_cases h8 : 8 < D.length
  · have d2 : decide ((8 : Int) < (D.length : Int)) = true := dct (by omega)
    go_wp2
    go_ret
    exact ⟨rfl, by rw [HGW.out]; exact HB0.out.trans (HV3.out.below.mono hgc)⟩
  have d2 : decide ((8 : Int) < (D.length : Int)) = false := dcf (by omega)
  by_cases h30 : 30 < O.length
  · have d3 : decide ((30 : Int) < (O.length : Int)) = true := dct (by omega)
    go_wp2
    go_ret
    exact ⟨rfl, by rw [HGW.out]; exact HB0.out.trans (HV3.out.below.mono hgc)⟩
  have d3 : decide ((30 : Int) < (O.length : Int)) = false := dcf (by omega)
  have hd := do_live w3 (x := cCreate) HV3.out.at_ HV3.out.inv (by omega) (dat_nil _ _) ⟨by show 1 ≤ maxLen; unfold maxLen; omega, by show 0 ≤ _; omega, w0_, w0_⟩
  rw [HV3.out.gs] at hd
  have HDO := Lib.hid hd
  clear hd
  go_upto_region 4 with fail
  go_wp2_with fail
  refine HDO.out.mono ?_
  rintro e w4 ⟨L1, v, rfl, hr, hs, hi⟩
  rw [HOP.out.1] at hr
  obtain ⟨A5, c5, A6, c6, hv5, -, -⟩ := hr
  dsimp only [List.length_nil] at hv5
  subst hv5
  have HV4 := Lib.hid (HV3.out.step hs hi)
  have HO1 : Hid (Opn L1.pure (D.map Dt.d) (List.replicate (D.map Dt.d).length false)) := Lib.hid (by rw [hs.pure]; exact HOP.out.2)
  have HB4V := Lib.hid (step_blk hs HBV3.out HNV.out)
  have HB4P := Lib.hid (step_blk hs HBP3.out (fun hf => by have := HV3.out.high _ hf; omega))
  have HD4 := Lib.hid (HD.out.below (HV4.out.below.mono hB))
  have HOO4 := Lib.hid (Reads.below HO.out (HV4.out.below.mono hB))
  clear hs hi HDO HOP HV3 HBV3 HNV HBP3 HD3 HD zv zp d1 d2 d3
  have hfd : ∀ W : World, (Instr.field 36 (.agg #[.int .i64 0, .slice A5 0 c5, .int .i64 0, .int .i64 0, .int .i64 1, .slice A6 0 c6, .bool false]) 4).run Try.prog W = .ok (.int .i64 1) W := fun _ => by kernel_rfl
  go_upto_region 5 with fail
  clear hfd
  have HBI := Lib.hid (Blk.new w4 3 #[.int .i64 1])
  have HNI : Hid (¬ L1.foot w4.heap.size) := Lib.hid (HV4.out.not_foot (Nat.le_refl _))
  have hb45 : Below w4.heap.size w4 (w4.alloc (.cells #[.int .i64 1] 3)) := (Below.refl _ _).alloc (Nat.le_refl _) _
  have HV5 := Lib.hid (HV4.out.on hb45)
  have HB5V := Lib.hid (And.intro (HB4V.out.1.below hb45 HB4V.out.1.lt) HB4V.out.2)
  have HB5P := Lib.hid (And.intro (HB4P.out.1.below hb45 HB4P.out.1.lt) HB4P.out.2)
  have hB4 : B ≤ w4.heap.size := Nat.le_trans hB HV4.out.size
  have HD5 := Lib.hid (HD4.out.below (hb45.mono hB4))
  have HOO5 := Lib.hid (Reads.below HOO4.out (hb45.mono hB4))
  clear hb45 HV4 HB4V HB4P HD4 HOO4
  generalize w4.alloc (.cells #[.int .i64 1] 3) = w5 at *
  generalize w4.heap.size = gi at *
  have hgi : gi < w5.heap.size := HBI.out.lt
  have hgv5 : gv < w5.heap.size := HB5V.out.1.lt
  have hgp5 : gp < w5.heap.size := HB5P.out.1.lt
  have zp : w5.cell? ⟨gp, 0, none⟩ = some (.slice AD D.length cD) := HB5P.out.1.cell 0
  go_wp2
  clear zp
  go_loopw [9, 49] (fun al i wr => ∃ (q : Nat) (F : Bs) (A : Option Addr) (c : Nat), q ≤ D.length ∧ i = .int .i64 (q : Int) ∧ al = .slice A F.length c ∧ F.length ≤ q * 500 ∧ Hid (F = ((D.map Dt.d).take q).flatten) ∧ Hid (∀ j, j < q → (gd D j).d.length ≤ 500) ∧ Hid (wr.ownsRow w5.heap.size 5 1 (.slice A F.length c) F.length (F.map byteV)) ∧ Hid (Below w5.heap.size w5 wr)) (fun _ i _ => D.length - (intOf i).toNat)
  case atStart => exact ⟨0, [], none, 0, Nat.zero_le _, rfl, rfl, Nat.zero_le _, Lib.hid rfl, Lib.hid (fun j hj => absurd hj (by omega)), Lib.hid (World.ownsRow_nil _ _ _ _), Lib.hid (Below.refl _ _)⟩
  case round =>
    obtain ⟨q, F, A, c, hq, rfl, rfl, hF, HF, H5, HOW, HW⟩ := hrel
    obtain ⟨wi, rfl⟩ : ∃ wi : World, wi = wr := ⟨_, rfl⟩
    have hsi := HW.out.size
    by_cases hlt : q < D.length
    · have d1 : decide ((q : Int) < (D.length : Int)) = true := dct (by omega)
      have zp : wi.cell? ⟨gp, 0, none⟩ = some (.slice AD D.length cD) := (HB5P.out.1.below HW.out hgp5).cell 0
      have hDi := HD5.out.below (HW.out.mono (by omega))
      obtain ⟨b, off, rfl, hbB, x0⟩ := hDi.at_ hlt
      have HY := Lib.hid (hDi.ok _ (gd_mem hlt))
      have HFN : Hid (((D.map Dt.d).take (q + 1)).flatten = F ++ (gd D q).d) := Lib.hid (by
        rw [flat_snoc _ (by rw [List.length_map]; exact hlt), ← HF.out, List.getElem_map, gd_eq hlt])
      have H5N : Hid ((gd D q).d.length ≤ 500 → ∀ j, j < q + 1 → (gd D j).d.length ≤ 500) := Lib.hid fun h j hj => by
        rcases Nat.lt_or_ge j q with h1 | h1
        · exact H5.out j h1
        · rw [show j = q by omega]; exact h
      have hi0 : (0 : Int) ≤ (q : Int) := by omega
      have hi1 : (q : Int) < (D.length : Int) := by omega
      clear hDi
      generalize gd D q = y at *
      by_cases h500 : 500 < y.d.length
      · have d2 : decide ((500 : Int) < (y.d.length : Int)) = true := dct (by omega)
        go_wp2
        go_ret
        exact ⟨rfl, by rw [HGW.out]; exact HB0.out.trans ((HV5.out.on HW.out).below.mono hgc)⟩
      · have d2 : decide ((500 : Int) < (y.d.length : Int)) = false := dcf (by omega)
        go_wp2_with (at_builtin; go_must (refine wpList_append_sl _ rfl (.tmp 58) (.tmp 62) _ rfl w5.heap.size 5 _ 1 1 Try.underlying28 Try.infoU8 rfl (by omega) _ _ _ rfl HOW.out B y.A y.d.length y.c (y.d.map byteV) rfl HY.out.bytes.2 (byteV_one _) (by unfold maxLen; omega) (by omega) hsi ?_))
        intro A9 c9 w9 _ _ _ hbel9 hown9 _ _
        have HOW9 : Hid (w9.ownsRow w5.heap.size 5 1 (.slice A9 (F ++ y.d).length c9) (F ++ y.d).length ((F ++ y.d).map byteV)) := Lib.hid (by rw [List.length_append, List.map_append]; exact hown9)
        have HW9 := Lib.hid (HW.out.trans hbel9)
        have hFl : (F ++ y.d).length = F.length + y.d.length := List.length_append
        have HFL := Lib.hid hFl
        clear hown9 hbel9 hFl
        go_wp2
        go_roundw
        case rel => exact ⟨q + 1, F ++ y.d, A9, c9, by omega, by go_num, by rw [HFL.out], by rw [HFL.out]; omega, Lib.hid HFN.out.symm, Lib.hid (H5N.out (by omega)), HOW9, HW9⟩
        case measure => simp [intOf]; omega
    · obtain rfl : q = D.length := by omega
      have d1 : decide ((D.length : Int) < (D.length : Int)) = false := dcf (by omega)
      have HFF : Hid (F = (D.map Dt.d).flatten) := Lib.hid (by have := HF.out; rw [show D.length = (D.map Dt.d).length by rw [List.length_map], List.take_length] at this; exact this)
      have HT5 : Hid (tot500 (D.map Dt.d)) := Lib.hid fun d hd => by
        obtain ⟨y, hy, rfl⟩ := List.mem_map.1 hd
        obtain ⟨j, hj, rfl⟩ := List.getElem_of_mem hy
        rw [gd_eq hj]; exact H5.out j hj
      have zp : wi.cell? ⟨gp, 0, none⟩ = some (.slice AD D.length cD) := (HB5P.out.1.below HW.out hgp5).cell 0
      obtain ⟨ib, hib, hzz, hsz, hby⟩ := info_parts Try.infoBool
      obtain ⟨w6, hrun, hown6, hg6⟩ := run_makeSlice_full (P := Try.prog) wi wi.heap.size 46 4 ib _ 1 Try.underlying46 hib hzz hsz .i64 .i64 D.length (by omega) (by rw [hby]; omega) (by unfold maxLen; omega) (Nat.le_refl _)
      have hb6 : Below wi.heap.size wi w6 := (Below.refl _ _).grown hg6 (Nat.le_refl _) (by intro g hg; cases hg)
      have hmc : (madeCells (Value.bool false).cells (D.length * 1)).toList = (List.replicate (D.map Dt.d).length false).map Value.bool := by
        rw [show (Value.bool false).cells = #[Value.bool false] from rfl, toList_madeCells_one, Nat.mul_one, List.map_replicate, List.length_map]
      rw [hmc] at hown6
      have hDF : Dat wi g A c F := Dat.of_own HOW.out (Nat.lt_of_lt_of_le HV5.out.lt (Nat.le_refl _))
      have hgr6 := (own1_lt hown6).1
      have HBQ := Lib.hid (Blk.new w6 46 #[.slice (some ⟨wi.heap.size, 0, none⟩) D.length D.length])
      have hb7 : Below w6.heap.size w6 (w6.alloc (.cells #[.slice (some ⟨wi.heap.size, 0, none⟩) D.length D.length] 46)) := (Below.refl _ _).alloc (Nat.le_refl _) _
      have hb57 : Below w5.heap.size w5 (w6.alloc (.cells #[.slice (some ⟨wi.heap.size, 0, none⟩) D.length D.length] 46)) := (HW.out.trans (hb6.mono hsi)).trans (hb7.mono (Nat.le_trans hsi hb6.size))
      have hlt5 : ∀ i, L1.foot i → i < w5.heap.size := fun i hi => HV5.out.at_.foot_lt hi
      have HEV : Hid (Env wc (w6.alloc (.cells #[.slice (some ⟨wi.heap.size, 0, none⟩) D.length D.length] 46)) g L1 1 w6.heap.size wi.heap.size gv gi gp wi.heap.size B AD cD D A c F (List.replicate (D.map Dt.d).length false)) := Lib.hid
        { liv := HV5.out.on hb57
          q := HBQ.out
          r := own_below hown6 hb7
          v := HB5V.out.1.below hb57 hgv5
          i := HBI.out.below hb57 hgi
          p := HB5P.out.1.below hb57 hgp5
          d := HD5.out.below (hb57.mono (by omega))
          a := (hDF.below hb6).below hb7
          nq := fun hf => by have := hlt5 _ hf; have := hb6.size; omega
          nr := fun hf => by have := hlt5 _ hf; omega
          nv := HB5V.out.2
          ni := HNI.out
          np := HB5P.out.2
          eq := by have := hb6.size; omega
          ev := by omega
          ei := by omega
          ep := by omega
          hB := hB
          hr := by omega
          hw := Nat.le_trans HV5.out.size hsi
          sl := by rw [List.length_replicate, List.length_map] }
      clear hib hzz hsz hby hown6 hg6 hb6 hmc hDF hgr6 hb7 hb57 hlt5 HBQ HOW HF H5
      go_upto_region 15 with fail
      clear hrun zp d1
      generalize w6.alloc (.cells #[.slice (some ⟨wi.heap.size, 0, none⟩) D.length D.length] 46) = w7 at *
      generalize w6.heap.size = gq at *
      clear HW HV5 HB5V HB5P HD5 HOO5 HNI HBI
      generalize wi.heap.size = gr at *
      go_wp2
      go_loopw [71] (fun i wr => ∃ (q : Nat) (L : LS) (S : List Bool), q ≤ O.length ∧ i = .int .i64 (q : Int) ∧ Hid (Env wc wr g L (q + 1) gq gr gv gi gp gr B AD cD D A c F S) ∧ Hid (Opn L.pure (D.map Dt.d) S)) (fun i _ => O.length - (intOf i).toNat)
      case atStart => exact ⟨0, L1, _, Nat.zero_le _, rfl, HEV, HO1⟩
      case round =>
        obtain ⟨q, L, S, hq, rfl, HE, HOP⟩ := hrel
        obtain ⟨wj, rfl⟩ : ∃ wj : World, wj = wr := ⟨_, rfl⟩
        clear HEV HO1
        by_cases hlt2 : q < O.length
        · have d1 : decide ((q : Int) < (O.length : Int)) = true := dct (by omega)
          obtain ⟨b, off, rfl, hbB, hcell⟩ := (Reads.below HO.out (HE.out.liv.below.mono hB)).2 (by omega)
          have x0 := hcell q (.int .i64 (O.getD q 0)) (by rw [List.getElem?_map, List.getElem?_eq_getElem hlt2]; simp [List.getD, List.getElem?_eq_getElem hlt2])
          have hi0 : (0 : Int) ≤ (q : Int) := by omega
          have hi1 : (q : Int) < (O.length : Int) := by omega
          clear hcell
          generalize O.getD q 0 = o at *
          obtain ⟨i, hin, hmod⟩ := mod_place o D.length (by omega) (by omega)
          have zp : wj.cell? ⟨gp, 0, none⟩ = some (.slice AD D.length cD) := HE.out.p.cell 0
          have HS := Lib.hid (sent_calls wj HE.out HOP.out (by omega) HT5.out (by omega) hin)
          go_wp2_with fail
          refine HS.out.mono ?_
          rintro e w8 ⟨L', rfl, hE, hO⟩
          have HE8 := Lib.hid hE
          have HO8 := Lib.hid hO
          clear hE hO HS HE HOP hmod x0 zp
          go_wp2
          go_roundw
          case rel => exact ⟨q + 1, L', _, by omega, by go_num, HE8, HO8⟩
          case measure => simp [intOf]; omega
        · obtain rfl : q = O.length := by omega
          have d1 : decide ((O.length : Int) < (O.length : Int)) = false := dcf (by omega)
          have zp : wj.cell? ⟨gp, 0, none⟩ = some (.slice AD D.length cD) := HE.out.p.cell 0
          go_wp2
          clear zp d1
          go_loopw [88] (fun i wr => ∃ (q : Nat) (L : LS) (S : List Bool) (m : Nat), q ≤ D.length ∧ m ≤ 31 + q ∧ i = .int .i64 (q : Int) ∧ Hid (Env wc wr g L m gq gr gv gi gp gr B AD cD D A c F S) ∧ Hid (Opn L.pure (D.map Dt.d) S) ∧ Hid (∀ j, j < q → S.getD j false = true)) (fun i _ => D.length - (intOf i).toNat)
          case atStart => exact ⟨0, L, S, _, Nat.zero_le _, by omega, rfl, HE, HOP, Lib.hid (fun j hj => absurd hj (by omega))⟩
          case round =>
            clear HE HOP
            obtain ⟨q, L, S, m, hq, hm, rfl, HE, HOP, HALL⟩ := hrel
            obtain ⟨wk, rfl⟩ : ∃ wk : World, wk = wr := ⟨_, rfl⟩
            by_cases hlt3 : q < D.length
            · have d1 : decide ((q : Int) < (D.length : Int)) = true := dct (by omega)
              have zq : wk.cell? ⟨gq, 0, none⟩ = some (.slice (some ⟨gr, 0, none⟩) D.length D.length) := HE.out.q.cell 0
              have hqS : q < S.length := by rw [HE.out.sl]; exact hlt3
              have zr : wk.cell? ⟨gr, q, none⟩ = some (.bool (S.getD q false)) := by
                rw [World.ownsRow.cellAt HE.out.r q (by omega), List.getElem?_map, List.getElem?_eq_getElem hqS]
                simp [List.getD, List.getElem?_eq_getElem hqS]
              have hi0 : (0 : Int) ≤ (q : Int) := by omega
              have hi1 : (q : Int) < (D.length : Int) := by omega
              have HQS := Lib.hid hqS
              clear hqS
              cases hb : S.getD q false with
              | true =>
                rw [hb] at zr
                have HB := Lib.hid hb
                clear hb
                go_wp2
                go_roundw
                case rel =>
                  exact ⟨q + 1, L, S, m, by omega, by omega, by go_num, HE, HOP, Lib.hid fun j hj => by
                    rcases Nat.lt_or_ge j q with h | h
                    · exact HALL.out j h
                    · rw [show j = q by omega]; exact HB.out⟩
                case measure => simp [intOf]; omega
              | false =>
                rw [hb] at zr
                clear hb
                have HS := Lib.hid (sent_calls wk HE.out HOP.out (by omega) HT5.out (by omega) hlt3)
                go_wp2_with fail
                refine HS.out.mono ?_
                rintro e w8 ⟨L', rfl, hE, hO⟩
                have HE8 := Lib.hid hE
                have HO8 := Lib.hid hO
                have HALL8 : Hid (∀ j, j < q + 1 → (S.set q true).getD j false = true) := Lib.hid fun j hj => by
                  rw [getD_set HQS.out]
                  split
                  · rfl
                  · exact HALL.out j (by omega)
                clear hE hO HS HE HOP zq zr
                go_wp2
                go_roundw
                case rel => exact ⟨q + 1, L', _, m + 1, by omega, by omega, by go_num, HE8, HO8, HALL8⟩
                case measure => simp [intOf]; omega
            · obtain rfl : q = D.length := by omega
              have d1 : decide ((D.length : Int) < (D.length : Int)) = false := dcf (by omega)
              have hS := all_true (n := (D.map Dt.d).length) (by rw [HE.out.sl, List.length_map]) (fun j hj => HALL.out j (by rw [List.length_map] at hj; exact hj))
              subst hS
              have hlm : (D.map Dt.d).length = D.length := List.length_map ..
              have HLM := Lib.hid hlm
              clear hlm HALL
              have hDl : 1 ≤ D.length := by omega
              cases ab with
              | true =>
                have HLA := Lib.hid (step_abort HOP.out HE.out.liv.inv)
                have hd := do_live wk (x := cAbort) HE.out.liv.at_ HE.out.liv.inv (by omega) (dat_nil _ _) ⟨by show 0 ≤ maxLen; omega, by show 0 ≤ _; omega, w0_, wfI (by show _ ≤ (1 : Int); omega) (by show (1 : Int) ≤ _; omega)⟩
                rw [HE.out.liv.gs] at hd
                have HDO := Lib.hid hd
                clear hd
                have zi : wk.cell? ⟨gi, 0, none⟩ = some (.int .i64 1) := HE.out.i.cell 0
                have zv : wk.cell? ⟨gv, 0, none⟩ = some (.pointer (some ⟨g, 0, none⟩)) := HE.out.v.cell 0
                go_wp2_with fail
                refine HDO.out.mono ?_
                rintro e w8 ⟨L2, v, rfl, hr, hs, hi⟩
                have HE8 := Lib.hid (HE.out.step hs hi)
                have HG8 : Hid (Gone L2.pure) := Lib.hid (by rw [hs.pure]; exact HLA.out.2)
                have her := HLA.out.1
                generalize (L.pure.step cAbort.pure).2 = r at *
                obtain ⟨A7, c7, A8, c8, rfl, -, -⟩ := hr
                rw [her]
                have hfd : ∀ W : World, (Instr.field 36 (.agg #[.int .i64 0, .slice A7 r.d.length c7, .int .i64 r.ver, .int .i64 r.born, .int .i64 r.id, .slice A8 r.list.length c8, .bool r.more]) 0).run Try.prog W = .ok (.int .i64 0) W := fun _ => by kernel_rfl
                clear hs hi her HDO HE zi zv HOP
                go_upto_region 29 with fail
                clear hfd
                have HLC := Lib.hid (step_late HG8.out.u (D.length : Int))
                have hd := do_live w8 (x := cComplete (D.length : Int)) HE8.out.liv.at_ HE8.out.liv.inv (by omega) (dat_nil _ _) ⟨by show 0 ≤ maxLen; omega, by show 0 ≤ _; omega, wfI (by show _ ≤ (D.length : Int); omega) (by show (D.length : Int) ≤ _; omega), wfI (by show _ ≤ (1 : Int); omega) (by show (1 : Int) ≤ _; omega)⟩
                rw [HE8.out.liv.gs] at hd
                have HDC := Lib.hid hd
                clear hd
                have zi : w8.cell? ⟨gi, 0, none⟩ = some (.int .i64 1) := HE8.out.i.cell 0
                have zv : w8.cell? ⟨gv, 0, none⟩ = some (.pointer (some ⟨g, 0, none⟩)) := HE8.out.v.cell 0
                have zp : w8.cell? ⟨gp, 0, none⟩ = some (.slice AD D.length cD) := HE8.out.p.cell 0
                go_wp2_with fail
                refine HDC.out.mono ?_
                rintro e w9 ⟨L3, v, rfl, hr, hs, hi⟩
                have HEO1 := Lib.hid (HE8.out.step hs hi)
                have HPO := Lib.hid hs.pure
                have HSO := Lib.hid hs
                have HGE := Lib.hid hs.keep.size
                rw [HLC.out] at hr
                obtain ⟨A9, c9, A10, c10, hv9, -, -⟩ := hr
                unfold bad at hv9
                dsimp only [List.length_nil] at hv9
                subst hv9
                rw [HLC.out] at HPO
                dsimp only at HPO
                clear hs hi HDC zi zv zp
                go_upto_region 30 with fail
                have HB9 := Lib.hid (And.intro (Blk.new w9 36 #[.int .i64 7, .slice A9 0 c9, .int .i64 0, .int .i64 0, .int .i64 0, .slice A10 0 c10, .bool false]) (HEO1.out.liv.not_foot (Nat.le_refl _)))
                have HE9 := Lib.hid (HEO1.out.on ((Below.refl _ _).alloc (Nat.le_refl _) (.cells #[.int .i64 7, .slice A9 0 c9, .int .i64 0, .int .i64 0, .int .i64 0, .slice A10 0 c10, .bool false] 36)))
                have HKB : Hid (Below w9.heap.size w9 (w9.alloc (.cells #[.int .i64 7, .slice A9 0 c9, .int .i64 0, .int .i64 0, .int .i64 0, .slice A10 0 c10, .bool false] 36))) := Lib.hid ((Below.refl _ _).alloc (Nat.le_refl _) _)
                clear HEO1
                generalize w9.alloc (.cells #[.int .i64 7, .slice A9 0 c9, .int .i64 0, .int .i64 0, .int .i64 0, .slice A10 0 c10, .bool false] 36) = wa at *
                generalize w9.heap.size = ga at *
                have HP3 : Hid (L3.pure = L2.pure) := HPO
                clear HPO
                have HLC2 := Lib.hid (step_late (s := L3.pure) (by rw [HP3.out]; exact HG8.out.u) (D.length : Int))
                have hd := do_live wa (x := cComplete (D.length : Int)) HE9.out.liv.at_ HE9.out.liv.inv (by omega) (dat_nil _ _) ⟨by show 0 ≤ maxLen; omega, by show 0 ≤ _; omega, wfI (by show _ ≤ (D.length : Int); omega) (by show (D.length : Int) ≤ _; omega), wfI (by show _ ≤ (1 : Int); omega) (by show (1 : Int) ≤ _; omega)⟩
                rw [HE9.out.liv.gs] at hd
                have HDC := Lib.hid hd
                clear hd
                have zi : wa.cell? ⟨gi, 0, none⟩ = some (.int .i64 1) := HE9.out.i.cell 0
                have zv : wa.cell? ⟨gv, 0, none⟩ = some (.pointer (some ⟨g, 0, none⟩)) := HE9.out.v.cell 0
                have zp : wa.cell? ⟨gp, 0, none⟩ = some (.slice AD D.length cD) := HE9.out.p.cell 0
                go_wp2_with fail
                refine HDC.out.mono ?_
                rintro e w10 ⟨L4, v, rfl, hr, hs, hi⟩
                have HEO1 := Lib.hid (HE9.out.step hs hi)
                have HPO := Lib.hid hs.pure
                have HSO := Lib.hid hs
                have HGE := Lib.hid hs.keep.size
                rw [HLC2.out] at hr
                obtain ⟨A11, c11, A12, c12, hv9, -, -⟩ := hr
                unfold bad at hv9
                dsimp only [List.length_nil] at hv9
                subst hv9
                rw [HLC2.out] at HPO
                dsimp only at HPO
                clear hs hi HDC zi zv zp
                go_upto_region 31 with fail
                have HB10 := Lib.hid (And.intro (Blk.new w10 36 #[.int .i64 7, .slice A11 0 c11, .int .i64 0, .int .i64 0, .int .i64 0, .slice A12 0 c12, .bool false]) (HEO1.out.liv.not_foot (Nat.le_refl _)))
                have HE10 := Lib.hid (HEO1.out.on ((Below.refl _ _).alloc (Nat.le_refl _) (.cells #[.int .i64 7, .slice A11 0 c11, .int .i64 0, .int .i64 0, .int .i64 0, .slice A12 0 c12, .bool false] 36)))
                have HKB : Hid (Below w10.heap.size w10 (w10.alloc (.cells #[.int .i64 7, .slice A11 0 c11, .int .i64 0, .int .i64 0, .int .i64 0, .slice A12 0 c12, .bool false] 36))) := Lib.hid ((Below.refl _ _).alloc (Nat.le_refl _) _)
                clear HEO1
                generalize w10.alloc (.cells #[.int .i64 7, .slice A11 0 c11, .int .i64 0, .int .i64 0, .int .i64 0, .slice A12 0 c12, .bool false] 36) = wb at *
                generalize w10.heap.size = gb at *
                have HP4 : Hid (L4.pure = L2.pure) := Lib.hid (HPO.out.trans HP3.out)
                clear HPO
                have HB9' : Hid (Blk wb ga 36 #[.int .i64 7, .slice A9 0 c9, .int .i64 0, .int .i64 0, .int .i64 0, .slice A10 0 c10, .bool false]) := Lib.hid (by
                  have h := (step_blk HSO.out HB9.out.1 HB9.out.2).1
                  exact h.below HKB.out (Nat.lt_of_lt_of_le HB9.out.1.lt HGE.out))
                clear HSO HKB HB9 HLC HLC2
                have hd := do_live wb (x := clGet keyK) HE10.out.liv.at_ HE10.out.liv.inv (by omega) (dat_nil _ _) ⟨by show 1 ≤ maxLen; unfold maxLen; omega, by show 0 ≤ _; omega, w0_, w0_⟩
                rw [HE10.out.liv.gs] at hd
                have HDG := Lib.hid hd
                clear hd
                have HLG := Lib.hid (step_getNone (s := L4.pure) (k := keyK) (by rw [HP4.out, HG8.out.o]; rfl))
                have zv : wb.cell? ⟨gv, 0, none⟩ = some (.pointer (some ⟨g, 0, none⟩)) := HE10.out.v.cell 0
                go_wp2_with fail
                refine HDG.out.mono ?_
                rintro e w11 ⟨L5, v, rfl, hr, hs, hi⟩
                have e := hs.same (.inl rfl)
                subst e
                rw [HLG.out] at hr
                obtain ⟨A13, c13, A14, c14, hv9, -, -⟩ := hr
                unfold bad at hv9
                dsimp only [List.length_nil] at hv9
                subst hv9
                have hbq := hs.quiet (.inl rfl)
                have HE11 := Lib.hid (HE10.out.on hbq)
                have HR16 := Lib.hid (HB9'.out.below hbq HB9'.out.lt)
                have HR17 := Lib.hid (HB10.out.1.below hbq HB10.out.1.lt)
                clear hs hi hbq HDG HLG zv HB9' HB10 HE10
                go_upto_region 33 with fail
                have hb12 : Below w11.heap.size w11 (w11.alloc (.cells #[.int .i64 7, .slice A13 0 c13, .int .i64 0, .int .i64 0, .int .i64 0, .slice A14 0 c14, .bool false] 36)) := (Below.refl _ _).alloc (Nat.le_refl _) _
                have HE12 := Lib.hid (HE11.out.on hb12)
                have z16 := (HR16.out.below hb12 HR16.out.lt).cell 0
                have z17 := (HR17.out.below hb12 HR17.out.lt).cell 0
                have z18 := (Blk.new w11 36 #[.int .i64 7, .slice A13 0 c13, .int .i64 0, .int .i64 0, .int .i64 0, .slice A14 0 c14, .bool false]).cell 0
                have hall : L5.all = 0 := by
                  have := HG8.out.all
                  rw [← HP4.out] at this
                  exact this
                have HSZ := all_calls (w11.alloc (.cells #[.int .i64 7, .slice A13 0 c13, .int .i64 0, .int .i64 0, .int .i64 0, .slice A14 0 c14, .bool false] 36)) HE12.out.liv.at_
                rw [HE12.out.liv.gs, hall] at HSZ
                have HSZ := Lib.hid HSZ
                clear hall hb12 HR16 HR17
                generalize w11.alloc (.cells #[.int .i64 7, .slice A13 0 c13, .int .i64 0, .int .i64 0, .int .i64 0, .slice A14 0 c14, .bool false] 36) = w12 at *
                generalize w11.heap.size = gc' at *
                have y16 : w12.cell? ⟨ga, 0, none⟩ = some (.int .i64 7) := z16
                have y17 : w12.cell? ⟨gb, 0, none⟩ = some (.int .i64 7) := z17
                have y18 : w12.cell? ⟨gc', 0, none⟩ = some (.int .i64 7) := z18
                have zv : w12.cell? ⟨gv, 0, none⟩ = some (.pointer (some ⟨g, 0, none⟩)) := HE12.out.v.cell 0
                clear z16 z17 z18
                go_wp2_with fail
                refine HSZ.out.mono ?_
                rintro e w13 ⟨rfl, rfl⟩
                go_wp2
                go_ret
                exact ⟨rfl, by rw [HGW.out]; exact HB0.out.trans (HE12.out.liv.below.mono hgc)⟩
              | false =>
                have HP0 : Hid (Opn L.pure (D.map Dt.d) (List.replicate (D.map Dt.d).length true)) := HOP
                have hcm := step_complete HP0.out HE.out.liv.inv (by rw [HLM.out]; exact hDl) (by rw [HLM.out]; omega) HT5.out
                rw [HLM.out, ← HFF.out] at hcm
                have HLA := Lib.hid hcm
                clear hcm
                have hd := do_live wk (x := cComplete (D.length : Int)) HE.out.liv.at_ HE.out.liv.inv (by omega) (dat_nil _ _) ⟨by show 0 ≤ maxLen; omega, by show 0 ≤ _; omega, wfI (by show _ ≤ (D.length : Int); omega) (by show (D.length : Int) ≤ _; omega), wfI (by show _ ≤ (1 : Int); omega) (by show (1 : Int) ≤ _; omega)⟩
                rw [HE.out.liv.gs] at hd
                have HDO := Lib.hid hd
                clear hd
                have zi : wk.cell? ⟨gi, 0, none⟩ = some (.int .i64 1) := HE.out.i.cell 0
                have zv : wk.cell? ⟨gv, 0, none⟩ = some (.pointer (some ⟨g, 0, none⟩)) := HE.out.v.cell 0
                have zp : wk.cell? ⟨gp, 0, none⟩ = some (.slice AD D.length cD) := HE.out.p.cell 0
                go_wp2_with fail
                refine HDO.out.mono ?_
                rintro e w8 ⟨L2, v, rfl, hr, hs, hi⟩
                have HE8 := Lib.hid (HE.out.step hs hi)
                have HG8 : Hid (Done L2.pure F) := Lib.hid (by rw [hs.pure]; exact HLA.out.2)
                have her := HLA.out.1
                generalize (L.pure.step (cComplete (D.length : Int)).pure).2 = r at *
                obtain ⟨A7, c7, A8, c8, rfl, -, -⟩ := hr
                rw [her]
                clear hs hi her HDO HE zi zv zp HOP HP0 HLA
                go_upto_region 30 with fail
                have HB9 := Lib.hid (And.intro (Blk.new w8 36 #[.int .i64 0, .slice A7 r.d.length c7, .int .i64 r.ver, .int .i64 r.born, .int .i64 r.id, .slice A8 r.list.length c8, .bool r.more]) (HE8.out.liv.not_foot (Nat.le_refl _)))
                have HE9 := Lib.hid (HE8.out.on ((Below.refl _ _).alloc (Nat.le_refl _) (.cells #[.int .i64 0, .slice A7 r.d.length c7, .int .i64 r.ver, .int .i64 r.born, .int .i64 r.id, .slice A8 r.list.length c8, .bool r.more] 36)))
                clear HE8
                generalize w8.alloc (.cells #[.int .i64 0, .slice A7 r.d.length c7, .int .i64 r.ver, .int .i64 r.born, .int .i64 r.id, .slice A8 r.list.length c8, .bool r.more] 36) = wa at *
                generalize w8.heap.size = ga at *
                have HLC2 := Lib.hid (step_late (s := L2.pure) HG8.out.u (D.length : Int))
                have hd := do_live wa (x := cComplete (D.length : Int)) HE9.out.liv.at_ HE9.out.liv.inv (by omega) (dat_nil _ _) ⟨by show 0 ≤ maxLen; omega, by show 0 ≤ _; omega, wfI (by show _ ≤ (D.length : Int); omega) (by show (D.length : Int) ≤ _; omega), wfI (by show _ ≤ (1 : Int); omega) (by show (1 : Int) ≤ _; omega)⟩
                rw [HE9.out.liv.gs] at hd
                have HDC := Lib.hid hd
                clear hd
                have zi : wa.cell? ⟨gi, 0, none⟩ = some (.int .i64 1) := HE9.out.i.cell 0
                have zv : wa.cell? ⟨gv, 0, none⟩ = some (.pointer (some ⟨g, 0, none⟩)) := HE9.out.v.cell 0
                have zp : wa.cell? ⟨gp, 0, none⟩ = some (.slice AD D.length cD) := HE9.out.p.cell 0
                go_wp2_with fail
                refine HDC.out.mono ?_
                rintro e w10 ⟨L4, v, rfl, hr, hs, hi⟩
                have HEO1 := Lib.hid (HE9.out.step hs hi)
                have HPO := Lib.hid hs.pure
                have HSO := Lib.hid hs
                have HGE := Lib.hid hs.keep.size
                rw [HLC2.out] at hr
                obtain ⟨A11, c11, A12, c12, hv9, -, -⟩ := hr
                unfold bad at hv9
                dsimp only [List.length_nil] at hv9
                subst hv9
                rw [HLC2.out] at HPO
                dsimp only at HPO
                clear hs hi HDC zi zv zp
                go_upto_region 31 with fail
                have HB10 := Lib.hid (And.intro (Blk.new w10 36 #[.int .i64 7, .slice A11 0 c11, .int .i64 0, .int .i64 0, .int .i64 0, .slice A12 0 c12, .bool false]) (HEO1.out.liv.not_foot (Nat.le_refl _)))
                have HE10 := Lib.hid (HEO1.out.on ((Below.refl _ _).alloc (Nat.le_refl _) (.cells #[.int .i64 7, .slice A11 0 c11, .int .i64 0, .int .i64 0, .int .i64 0, .slice A12 0 c12, .bool false] 36)))
                have HKB : Hid (Below w10.heap.size w10 (w10.alloc (.cells #[.int .i64 7, .slice A11 0 c11, .int .i64 0, .int .i64 0, .int .i64 0, .slice A12 0 c12, .bool false] 36))) := Lib.hid ((Below.refl _ _).alloc (Nat.le_refl _) _)
                clear HEO1
                generalize w10.alloc (.cells #[.int .i64 7, .slice A11 0 c11, .int .i64 0, .int .i64 0, .int .i64 0, .slice A12 0 c12, .bool false] 36) = wb at *
                generalize w10.heap.size = gb at *
                have HP4 : Hid (L4.pure = L2.pure) := HPO
                clear HPO
                have HB9' : Hid (Blk wb ga 36 #[.int .i64 0, .slice A7 r.d.length c7, .int .i64 r.ver, .int .i64 r.born, .int .i64 r.id, .slice A8 r.list.length c8, .bool r.more]) := Lib.hid (by
                  have h := (step_blk HSO.out HB9.out.1 HB9.out.2).1
                  exact h.below HKB.out (Nat.lt_of_lt_of_le HB9.out.1.lt HGE.out))
                clear HSO HKB HB9 HLC2 HGE
                have HDG := Lib.hid (get_live wb (k := keyK) (o := ⟨F, 1, 0⟩) HE10.out.liv.at_ HE10.out.liv.inv (by omega) (by show 1 ≤ maxLen; unfold maxLen; omega) (by rw [HP4.out, HG8.out.o]; rfl))
                rw [HE10.out.liv.gs] at HDG
                have zv : wb.cell? ⟨gv, 0, none⟩ = some (.pointer (some ⟨g, 0, none⟩)) := HE10.out.v.cell 0
                change Hid (Calls _ _ #[.pointer (some ⟨g, 0, none⟩), .agg #[.int .i64 3, .string ⟨#[107]⟩, .slice none 0 0, .int .i64 0, .int .i64 0, .int .i64 0, .int .i64 0]] _ fun e w' => ∃ A c Al cl, e = .returned (.agg #[.int .i64 0, .slice A F.length c, .int .i64 1, .int .i64 0, .int .i64 0, .slice Al 0 cl, .bool false]) ∧ w'.ownsRow wb.heap.size 5 1 (.slice A F.length c) F.length (F.map byteV) ∧ At w' L4 ∧ Below wb.heap.size wb w') at HDG
                go_wp2_with fail
                refine HDG.out.mono ?_
                rintro e w11 ⟨A13, c13, A14, c14, rfl, hown11, -, hbq⟩
                have HE11 := Lib.hid (HE10.out.on hbq)
                have HR16 := Lib.hid (HB9'.out.below hbq HB9'.out.lt)
                have HR17 := Lib.hid (HB10.out.1.below hbq HB10.out.1.lt)
                have HBY := Lib.hid (own_bytes hown11)
                clear hbq HDG zv HB9' HB10 HE10 hown11
                go_upto_region 34 with fail
                have hb12 : Below w11.heap.size w11 (w11.alloc (.cells #[.int .i64 0, .slice A13 F.length c13, .int .i64 1, .int .i64 0, .int .i64 0, .slice A14 0 c14, .bool false] 36)) := (Below.refl _ _).alloc (Nat.le_refl _) _
                have HE12 := Lib.hid (HE11.out.on hb12)
                have z16 := (HR16.out.below hb12 HR16.out.lt).cell 0
                have z17 := (HR17.out.below hb12 HR17.out.lt).cell 0
                have z18 := (Blk.new w11 36 #[.int .i64 0, .slice A13 F.length c13, .int .i64 1, .int .i64 0, .int .i64 0, .slice A14 0 c14, .bool false]).cell 1
                have hall : L4.all = (F.length : Int) := by
                  have := HG8.out.all
                  rw [← HP4.out] at this
                  exact this
                have hups : L4.ups.length = 0 := by
                  have := HG8.out.u
                  rw [← HP4.out] at this
                  have h := congrArg List.length this
                  rw [show L4.pure.ups.length = L4.ups.length from List.length_map ..] at h
                  exact h
                have hcv := (HBY.out.to hb12 (Nat.le_refl _)).conv Try.prog c13 28 5 9 Try.underlying28 Try.underlying5 Try.underlying9
                have hcv2 := HE12.out.a.bytes.conv Try.prog c 28 5 9 Try.underlying28 Try.underlying5 Try.underlying9
                have HSZ := all_calls (w11.alloc (.cells #[.int .i64 0, .slice A13 F.length c13, .int .i64 1, .int .i64 0, .int .i64 0, .slice A14 0 c14, .bool false] 36)) HE12.out.liv.at_
                rw [HE12.out.liv.gs, hall] at HSZ
                have HSZ := Lib.hid HSZ
                have HUC := uploads_calls (w11.alloc (.cells #[.int .i64 0, .slice A13 F.length c13, .int .i64 1, .int .i64 0, .int .i64 0, .slice A14 0 c14, .bool false] 36)) HE12.out.liv.at_ (by rw [hups]; omega)
                rw [HE12.out.liv.gs, hups] at HUC
                have HUC := Lib.hid HUC
                clear hall hups hb12 HR16 HR17 HBY
                generalize w11.alloc (.cells #[.int .i64 0, .slice A13 F.length c13, .int .i64 1, .int .i64 0, .int .i64 0, .slice A14 0 c14, .bool false] 36) = w12 at *
                generalize w11.heap.size = gc' at *
                have y16 : w12.cell? ⟨ga, 0, none⟩ = some (.int .i64 0) := z16
                have y17 : w12.cell? ⟨gb, 0, none⟩ = some (.int .i64 7) := z17
                have y18 : w12.cell? ⟨gc', 1, none⟩ = some (.slice A13 F.length c13) := z18
                have zv : w12.cell? ⟨gv, 0, none⟩ = some (.pointer (some ⟨g, 0, none⟩)) := HE12.out.v.cell 0
                clear z16 z17 z18
                go_wp2_with fail
                refine HSZ.out.mono ?_
                rintro e w13 ⟨rfl, rfl⟩
                go_wp2_with fail
                refine HUC.out.mono ?_
                rintro e w14 ⟨AU, cU, rfl, -, hb14⟩
                have HFIN := Lib.hid ((HE12.out.on hb14).liv.below)
                clear hb14
                go_wp2
                go_ret
                exact ⟨rfl, by rw [HGW.out]; exact HB0.out.trans (HFIN.out.mono hgc)⟩
theorem walk {H : Type} {enc : TypeId × Value → H} {W : World} {base : Nat} {v0 v1 v2 : Value} {d0 d1 d2 : DataW H} {p0 p1 p2 : List MemPlace} (g0 : Arg enc Try.prog W base 23 v0 d0 p0) (g1 : Arg enc Try.prog W base 45 v1 d1 p1) (g2 : Arg enc Try.prog W base 4 v2 d2 p2) :
    Calls Try.prog 5 #[v0, v1, v2] W fun e w' => e = .returned (.bool true) ∧ Below W.heap.size W w' := by
  obtain ⟨AD, cD, D, rfl, -, hD⟩ := arg_datas g0
  obtain ⟨AO, cO, O, rfl, -, hO⟩ := arg_ints g1
  obtain ⟨b, rfl, -⟩ := g2.bool Try.underlying4
  exact body W hD hO (Nat.le_refl _) b
end Go.Proofs.Ytlljpjehalodfaa.lawStoreUploads
