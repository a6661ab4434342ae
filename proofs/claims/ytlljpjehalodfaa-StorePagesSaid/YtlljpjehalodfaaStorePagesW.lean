/- StorePages: the walk. -/
import Derived.Test.YtlljpjehalodfaaProg
import Derived.Test.YtlljpjehalodfaaSaS
namespace Go.Proofs.Ytlljpjehalodfaa.lawStorePages
open Go.RowKit Go.Proofs.Ytlljpjehalodfaa Go.Proofs.Ytlljpjehalodfaa.St
theorem Try.infoStr : (Try.prog.info? 9).map (fun i => (i.zero, i.size, i.bytes)) = some (some (.string ⟨#[]⟩), 1, 16) := by kernel_rfl
theorem strs_snoc (F : List ByteArray) (n : Nat) (hn : n < F.length) : (F.take (n + 1)).map Value.string = (F.take n).map Value.string ++ [.string (gs_ F n)] := by
  rw [List.take_succ_eq_append_getElem hn, gs_eq hn, List.map_append]; rfl
/-- A value's own block is none of these. -/
def NotIn (v : Value) (F : Nat → Prop) : Prop := ∀ x, v.ownBlock = some x → ¬ F x
def OffR (g : Nat) (A : Option Addr) (i : Nat) : Prop := i = g ∨ ∃ a, A = some a ∧ a.block = i
theorem reads_grown {w w' : World} {B size n : Nat} {A : Option Addr} {xs : List Value} {row : Option Nat} (h : Reads w B size A n xs) (hg : w.grownBy w' row) (hB : B ≤ w.heap.size) (hne : ∀ a, A = some a → ∀ x, row = some x → a.block ≠ x) : Reads w' B size A n xs := by
  refine ⟨h.1, fun hn => ?_⟩
  obtain ⟨b, off, e, hb, hc⟩ := h.2 hn
  refine ⟨b, off, e, hb, fun j u hu => ?_⟩
  exact (World.cell?_of_block (w := w) (hg.block b (by omega) (fun e' => hne _ e _ e'.symm rfl))).trans (hc j u hu)
/-- The keys of a store, and those of a prefix. -/
structure Keyed (L : LS) (p : ByteArray) (K F : List ByteArray) : Prop where
  k : L.pure.objs.map (fun q => q.1) = K
  f : fk p K = F
  srt : K.Pairwise fun x y => ltS x y = true
  one : ∀ k ∈ K, 1 ≤ k.size
  forty : ∀ k ∈ K, k.size ≤ 40
theorem keyed {w wr : World} {g n : Nat} {L : LS} (h : Liv w wr g L n) (p : ByteArray) : Keyed L p (L.pure.objs.map fun q => q.1) (fk p (L.pure.objs.map fun q => q.1)) := by
  have hall : ∀ k ∈ L.pure.objs.map (fun q => q.1), 1 ≤ k.size ∧ k.size ≤ 40 := fun k hk => by
    obtain ⟨q, hq, rfl⟩ := List.mem_map.1 hk
    have := h.inv.ok q hq
    unfold rightB at this
    simp only [Bool.and_eq_true, decide_eq_true_eq] at this
    omega
  exact ⟨rfl, rfl, by rw [List.pairwise_map]; exact h.at_.srt.so, fun k hk => (hall k hk).1, fun k hk => (hall k hk).2⟩
theorem after_short {L : LS} {p a : ByteArray} {K F : List ByteArray} {n : Nat} (h : Keyed L p K F) (ha : After F a n) : a.size ≤ 40 := by
  cases n with
  | zero => rw [ha.nil rfl]; decide
  | succ m =>
    have hm : m < F.length := ha.le
    have : gs_ F m ∈ F := by rw [← gs_eq hm]; exact List.getElem_mem hm
    rw [← ha.at_ m rfl]
    rw [← h.f] at this ⊢
    exact h.forty _ (List.mem_filter.1 this).1
def cutA (A : Option Addr) (c k size : Nat) : Option Addr := if c = k then A else A.map (·.add (k * size))
set_option maxRecDepth 100000 in
theorem slice1_at (w : World) (A : Option Addr) (n c k : Nat) (h : k ≤ n) (hc : n ≤ c) :
    (Instr.slice 40 (.slice A n c) (some (.int .i64 (k : Int))) none none).run Try.prog w = .ok (.slice (cutA A c k 1) (n - k) (c - k)) w := by
  unfold cutA
  have e : ((k : Int)).toNat = k := by omega
  obtain ⟨i, hi, _, hs, _⟩ := info_parts Try.infoStr
  have hE : Try.prog.elem 40 = 9 := by kernel_rfl
  rw [run_slice_l w _ A n c Try.underlying40 .i64 _ (by omega) (by omega)]
  rw [hE]
  simp [sliced, Result.andThen, e, sizeOf, typeInfo, hi, hs]
/-- A slice that reads as these strings. -/
def Strs (w : World) (A : Option Addr) (n c : Nat) (F : List ByteArray) : Prop := F.length = n ∧ n ≤ c ∧ Reads w w.heap.size 1 A n (F.map Value.string)
theorem Strs.cut {w : World} {A : Option Addr} {n c : Nat} {x : ByteArray} {F : List ByteArray} (h : Strs w A n c (x :: F)) : Strs w (cutA A c 1 1) (n - 1) (c - 1) F := by
  obtain ⟨h1, h2, h3⟩ := h
  rw [List.length_cons] at h1
  exact ⟨by omega, by omega, h3.cut (k := 1) (cap := c) (by omega) h2⟩
theorem drop_gs {F : List ByteArray} {m : Nat} (h : m < F.length) : F.drop m = gs_ F m :: F.drop (m + 1) := by rw [List.drop_eq_getElem_cons h, gs_eq h]
theorem strs_own {w : World} {base n : Nat} {v : Value} {F : List ByteArray} (h : w.ownsRow base 9 1 v n (F.map Value.string)) (hn : F.length = n) : ∃ A c, v = .slice A n c ∧ Strs w A n c F := by
  obtain ⟨A, c, rfl, hc, -, -⟩ := own_slice h
  exact ⟨A, c, rfl, hn, hc, Reads.of_own h⟩
set_option maxRecDepth 100000 in
set_option maxHeartbeats 16000000 in
theorem body (w : World) {B c : Nat} {A : Option Addr} {l : List Ac} (h : Acts w B A l) (hB : B ≤ w.heap.size) (hc : l.length ≤ c) (hl : l.length ≤ 4398046511104) (p : ByteArray) (hp : p.size ≤ 140737488351232) :
    Calls Try.prog 4 #[.slice A l.length c, .string p] w fun e w' => e = .returned (.bool true) ∧ Below w.heap.size w w' := by
  have HL := Lib.hid h
  clear h
  go_enter Try.func4, Try.ntmps4
  go_wp2_with fail
  refine (new_calls w).mono ?_
  rintro e w1 ⟨rfl, hA1, hb1⟩
  have HV1 := Lib.hid (Liv.start hA1 hb1)
  clear hA1 hb1
  go_wp2_with fail
  refine (lives_calls w1).mono ?_
  rintro e w2 ⟨rfl, hb2⟩
  have HV2 := Lib.hid (HV1.out.on hb2)
  clear hb2 HV1
  generalize hg : w.heap.size + 2 = g at *
  go_wp2_with fail
  refine (few60_calls w2 60 rfl (HL.out.below (HV2.out.below.mono hB)) (Nat.le_trans hB HV2.out.size) hc hl (by omega)).mono ?_
  rintro e w3 ⟨k, hk, hk60, rfl, hb3⟩
  have HV3 := Lib.hid (HV2.out.on hb3)
  clear hb3 HV2
  generalize hL0 : emptyLS w.heap.size = L0 at *
  clear hL0
  go_wp2
  go_loopw [25] (fun i wr => ∃ (j : Nat) (L : LS), j ≤ k ∧ i = .int .i64 (j : Int) ∧ Hid (Liv w wr g L j)) (fun i _ => k - (intOf i).toNat)
  case atStart => exact ⟨0, L0, Nat.zero_le _, rfl, HV3⟩
  case round =>
    obtain ⟨j, L, hj, rfl, HV⟩ := hrel
    obtain ⟨wi, rfl⟩ : ∃ wi : World, wi = wr := ⟨_, rfl⟩
    clear HV3
    by_cases hlt : j < k
    · have d1 : decide ((j : Int) < (k : Int)) = true := dct (by omega)
      have hjl : j < l.length := by omega
      obtain ⟨b, off, rfl, hbB, hcell⟩ := (HL.out.below (HV.out.below.mono hB)).at_ hjl
      have HOK := Lib.hid (HL.out.ok _ (ga_mem hjl))
      have x0 := hcell 0 _ (by omega) rfl
      have x1 := hcell 1 _ (by omega) rfl
      have x2 := hcell 2 _ (by omega) rfl
      have x3 := hcell 3 _ (by omega) rfl
      have x4 := hcell 4 _ (by omega) rfl
      have x5 := hcell 5 _ (by omega) rfl
      have x6 := hcell 6 _ (by omega) rfl
      have x7 := hcell 7 _ (by omega) rfl
      rw [Nat.add_zero] at x0
      clear hcell
      generalize ga l j = a at *
      have hi0 : (0 : Int) ≤ (j : Int) := by omega
      have hi1 : (j : Int) < (k : Int) := by omega
      go_upto_region 7 with fail
      have HVa := Lib.hid (HV.out.on ((Below.refl _ _).alloc (Nat.le_refl _) (.cells #[.int .i64 a.kind, .string a.key, .slice a.A a.d.length a.c, .int .i64 a.ver, .int .i64 a.at_, .int .i64 a.n, .int .i64 a.id, .int .i64 a.big] 32)))
      have HBa := Lib.hid (Blk.new wi 32 #[.int .i64 a.kind, .string a.key, .slice a.A a.d.length a.c, .int .i64 a.ver, .int .i64 a.at_, .int .i64 a.n, .int .i64 a.id, .int .i64 a.big])
      have HNF := Lib.hid (HV.out.not_foot (Nat.le_refl _))
      clear x0 x1 x2 x3 x4 x5 x6 x7 HV
      generalize wi.alloc (.cells #[.int .i64 a.kind, .string a.key, .slice a.A a.d.length a.c, .int .i64 a.ver, .int .i64 a.at_, .int .i64 a.n, .int .i64 a.id, .int .i64 a.big] 32) = wa at *
      generalize wi.heap.size = gb at *
      have y0 : wa.cell? ⟨gb, 0, none⟩ = some (.int .i64 a.kind) := HBa.out.cell 0
      have y1 : wa.cell? ⟨gb, 1, none⟩ = some (.string a.key) := HBa.out.cell 1
      have y2 : wa.cell? ⟨gb, 2, none⟩ = some (.slice a.A a.d.length a.c) := HBa.out.cell 2
      have y3 : wa.cell? ⟨gb, 3, none⟩ = some (.int .i64 a.ver) := HBa.out.cell 3
      have y4 : wa.cell? ⟨gb, 4, none⟩ = some (.int .i64 a.at_) := HBa.out.cell 4
      have y5 : wa.cell? ⟨gb, 5, none⟩ = some (.int .i64 a.n) := HBa.out.cell 5
      have y6 : wa.cell? ⟨gb, 6, none⟩ = some (.int .i64 a.id) := HBa.out.cell 6
      have y7 : wa.cell? ⟨gb, 7, none⟩ = some (.int .i64 a.big) := HBa.out.cell 7
      have HC := Lib.hid (call_calls wa a (HOK.out.below (HVa.out.below.mono hB) |>.dat (Nat.le_trans hB HVa.out.le)) HVa.out.lt)
      unfold Ac.val at HC
      go_wp2_with fail
      refine HC.out.mono ?_
      rintro e wb ⟨Ab, cb, rfl, hDb, hbb⟩
      have HVb := Lib.hid (HVa.out.on hbb)
      have HD := Lib.hid (do_live wb (x := a.cl Ab cb) HVb.out.at_ HVb.out.inv (by omega) (by rw [HVb.out.gs]; exact hDb) (Ac.clOk HOK.out Ab cb))
      rw [HVb.out.gs] at HD
      clear hDb HC HVa y0 y1 y2 y3 y4 y5 y6 y7
      go_wp2_with fail
      refine HD.out.mono ?_
      rintro e wd ⟨L', v, rfl, hr, hs, hi⟩
      have HVd := Lib.hid (HVb.out.step hs hi)
      have HRP := Lib.hid hr
      have HST := Lib.hid hs
      clear hs hi HD hr
      go_wp2
      go_roundw
      case rel => exact ⟨j + 1, L', by omega, by go_num, HVd⟩
      case measure => simp [intOf]; omega
    · obtain rfl : j = k := by omega
      have d1 : decide ((j : Int) < (j : Int)) = false := dcf (by omega)
      have HK := Lib.hid (keyed HV.out p)
      have hfl : (fk p (L.pure.objs.map fun q => q.1)).length ≤ 60 := by
        have h1 := fk_len p (L.pure.objs.map fun q => q.1)
        have h2 := HV.out.inv.on
        rw [List.length_map] at h1
        omega
      generalize fk p (L.pure.objs.map fun q => q.1) = F at *
      have hkl : L.objs.length = (L.pure.objs.map fun q => q.1).length := by rw [List.length_map]; exact (List.length_map ..).symm
      have hkm : (L.objs.map fun q => Value.string q.1) = (L.pure.objs.map fun q => q.1).map Value.string := by
        show _ = ((L.objs.map fun q => (q.1, q.2.pure)).map fun q => q.1).map Value.string
        rw [List.map_map, List.map_map]; rfl
      have HKL := Lib.hid hkl
      have HKM := Lib.hid hkm
      clear hkl hkm
      generalize (L.pure.objs.map fun q => q.1) = K at *
      have hwb : w.heap.size ≤ wi.heap.size := HV.out.size
      have hK60 : K.length ≤ 60 := by rw [← HKL.out]; have := HV.out.inv.inv.on; omega
      go_wp2
      go_loopw [8, 9, 34] (fun sn af i wr => ∃ (r : Nat) (a : ByteArray), r ≤ 9 ∧ i = .int .i64 (r : Int) ∧ af = .string a ∧ 16 * r ≤ F.length ∧ Hid (After F a (16 * r)) ∧ wr.ownsRow wi.heap.size 9 1 sn (16 * r) ((F.take (16 * r)).map Value.string) ∧ Hid (Below wi.heap.size wi wr)) (fun _ _ i _ => 9 - (intOf i).toNat)
      case atStart => exact ⟨0, ⟨#[]⟩, by omega, rfl, rfl, Nat.zero_le _, Lib.hid (After.start F), World.ownsRow_nil _ _ _ _, Lib.hid (Below.refl _ _)⟩
      case round =>
        obtain ⟨r, a, hr, rfl, rfl, hrF, HAF, hown, HW⟩ := hrel
        have HOWN := Lib.hid hown
        obtain ⟨AR, cR, rfl, -, -, -⟩ := own_slice hown
        obtain ⟨wj, rfl⟩ : ∃ wj : World, wj = wr := ⟨_, rfl⟩
        clear hown
        have hsj := HW.out.size
        have d2 : decide ((r : Int) < 10) = true := dct (by omega)
        obtain ⟨d, cd, w4, hd, hcv, hdat, hb4⟩ := conv_str wj a
        have HV4 := Lib.hid (HV.out.on (HW.out.trans (hb4.mono hsj)))
        have hgj : g < wj.heap.size := Nat.lt_of_lt_of_le HV.out.lt hsj
        have hdl : d.length ≤ 140737488355328 := by
          have := after_short HK.out HAF.out
          rw [hd, Array.length_toList]
          exact Nat.le_trans this (by omega)
        have hll := list_live w4 (p := p) (A := some ⟨wj.heap.size, 0, none⟩) (c := cd) (d := d) (T := F.drop (16 * r)) HV4.out.at_ HV4.out.inv (by omega) (by rw [HV4.out.gs]; exact hdat g hgj) (by unfold maxLen; omega) hdl (by
          rw [HK.out.k, hd]
          have := rest_keys (p := p) (a := a) (n := 16 * r) HK.out.srt HK.out.one (by rw [HK.out.f]; exact HAF.out)
          rw [HK.out.f] at this
          exact this)
        rw [HV4.out.gs] at hll
        have HLL := Lib.hid hll
        have HW4 := Lib.hid (HW.out.trans (hb4.mono hsj))
        have HOWN4 := Lib.hid (own_below HOWN.out hb4)
        have HNR : Hid (∀ x, (Value.slice AR (16 * r) cR).ownBlock = some x → x < wj.heap.size) := Lib.hid fun x hx => (HOWN.out.lt x hx).2
        clear hll hdat hd HOWN
        go_wp2_with fail
        refine HLL.out.mono ?_
        rintro e w5 ⟨its, A5, c5, Al, cl, hik, rfl, hrd5, hal, -, hb5⟩
        have HIK := Lib.hid hik
        have HAL : Hid (∀ a, Al = some a → wj.heap.size ≤ a.block) := Lib.hid fun a ha => Nat.le_trans hb4.size (hal a ha)
        have HS4 : Hid (wj.heap.size ≤ w5.heap.size) := Lib.hid (Nat.le_trans hb4.size hb5.size)
        have HRD5 := Lib.hid hrd5
        have hs4 := HW4.out.size
        have HW5 := Lib.hid (HW4.out.trans (hb5.mono hs4))
        have HOWN5 := Lib.hid (own_below HOWN4.out hb5)
        have hil := its_len hik
        have hi16 : its.length ≤ 16 := by omega
        have hdrop : (F.drop (16 * r)).length = F.length - 16 * r := List.length_drop ..
        generalize hmo : decide (16 < (F.drop (16 * r)).length) = mo at *
        have HMO : Hid (mo = decide (16 < F.length - 16 * r)) := Lib.hid (by rw [← hmo, hdrop])
        have HIL := Lib.hid hil
        clear hb4 hal hb5 hik hrd5 hil hcv hdrop hmo HLL HW4 HOWN4 HV4 HW
        go_upto_region 14 with fail
        have hs5 := HW5.out.size
        have HW6 := Lib.hid (HW5.out.alloc hs5 (.cells #[.int .i64 0, .slice A5 0 c5, .int .i64 0, .int .i64 0, .int .i64 0, .slice Al its.length cl, .bool mo] 36))
        have HB6 := Lib.hid (Blk.new w5 36 #[.int .i64 0, .slice A5 0 c5, .int .i64 0, .int .i64 0, .int .i64 0, .slice Al its.length cl, .bool mo])
        have HOWN6 := Lib.hid (own_below HOWN5.out ((Below.refl w5.heap.size w5).alloc (Nat.le_refl _) (.cells #[.int .i64 0, .slice A5 0 c5, .int .i64 0, .int .i64 0, .int .i64 0, .slice Al its.length cl, .bool mo] 36)))
        have HRD6 := Lib.hid (HRD5.out.below ((Below.refl w5.heap.size w5).alloc (Nat.le_refl _) (.cells #[.int .i64 0, .slice A5 0 c5, .int .i64 0, .int .i64 0, .int .i64 0, .slice Al its.length cl, .bool mo] 36)))
        have HNI6 : Hid (NotIn (.slice AR (16 * r) cR) (OffR w5.heap.size Al)) := Lib.hid fun x hx => by
          have h1 := HNR.out x hx
          rintro (h | ⟨a, ha, rfl⟩)
          · have := HS4.out; omega
          · have := HAL.out a ha; omega
        clear HW5 HOWN5 HRD5
        generalize w5.alloc (.cells #[.int .i64 0, .slice A5 0 c5, .int .i64 0, .int .i64 0, .int .i64 0, .slice Al its.length cl, .bool mo] 36) = w6 at *
        generalize w5.heap.size = g6 at *
        have z0 : w6.cell? ⟨g6, 0, none⟩ = some (.int .i64 0) := HB6.out.cell 0
        have z5 : w6.cell? ⟨g6, 5, none⟩ = some (.slice Al its.length cl) := HB6.out.cell 5
        have z6 : w6.cell? ⟨g6, 6, none⟩ = some (.bool mo) := HB6.out.cell 6
        have e16 : decide ((16 : Int) < (its.length : Int)) = false := dcf (by omega)
        cases mo with
        | true =>
          have hmo : 16 < F.length - 16 * r := of_decide_eq_true HMO.out.symm
          have hil := HIL.out
          have el : decide ((its.length : Int) < 16) = false := dcf (by omega)
          have hr9 : r < 9 := by omega
          go_wp2
          go_loopw [8, 9, 64] (fun sn af i wr => ∃ (q : Nat) (a2 : ByteArray), q ≤ its.length ∧ i = .int .i64 (q : Int) ∧ af = .string a2 ∧ 16 * r + q ≤ F.length ∧ Hid (After F a2 (16 * r + q)) ∧ Hid (wr.ownsRow wi.heap.size 9 1 sn (16 * r + q) ((F.take (16 * r + q)).map Value.string)) ∧ Hid (Blk wr g6 36 #[.int .i64 0, .slice A5 0 c5, .int .i64 0, .int .i64 0, .int .i64 0, .slice Al its.length cl, .bool true]) ∧ Hid (Reads wr g6 4 Al its.length (itCells its)) ∧ Hid (NotIn sn (OffR g6 Al)) ∧ Hid (Below wi.heap.size wi wr)) (fun _ _ i _ => its.length - (intOf i).toNat)
          case atStart => exact ⟨0, a, Nat.zero_le _, rfl, rfl, hrF, HAF, HOWN6, HB6, HRD6, HNI6, HW6⟩
          case round =>
          clear HAF HOWN6 HW6 HRD6 HB6 HNI6
          obtain ⟨q, a2, hq, rfl, rfl, hqF, HAQ, HOQ, HBQ, HRDQ, HNIQ, HWQ⟩ := hrel
          obtain ⟨wk, rfl⟩ : ∃ wk : World, wk = wr := ⟨_, rfl⟩
          have hsk := HWQ.out.size
          by_cases hlt2 : q < its.length
          · have d3 : decide ((q : Int) < (its.length : Int)) = true := dct (by omega)
            obtain ⟨AQ, cQ, rfl, -, -, -⟩ := own_slice HOQ.out
            obtain ⟨b, off, rfl, hbB, hcell⟩ := reads_it HRDQ.out hlt2
            have x0 := hcell 0 _ (by omega) rfl
            have x1 := hcell 1 _ (by omega) rfl
            have x2 := hcell 2 _ (by omega) rfl
            have x3 := hcell 3 _ (by omega) rfl
            rw [Nat.add_zero] at x0
            obtain ⟨hnq, hkey, -⟩ := gi_key HIK.out hlt2
            have hless := After.less (p := p) (a := a2) (n := 16 * r + q) HK.out.srt HK.out.one (by rw [HK.out.f]; exact HAQ.out) (by rw [HK.out.f]; exact hnq)
            rw [HK.out.f, ← hkey] at hless
            have hyes := less_yes hless
            have HSN := Lib.hid (strs_snoc F (16 * r + q) hnq)
            have HAN := Lib.hid (After.next hnq)
            rw [← hkey] at HSN HAN
            have q1 := hyes.1
            have q2 := hyes.2
            clear hcell hkey hless hyes
            generalize gi its q = y at *
            have hi0 : (0 : Int) ≤ (q : Int) := by omega
            have hi1 : (q : Int) < (its.length : Int) := by omega
            go_upto_region 19 with fail
            have hb7 : Below wk.heap.size wk (wk.alloc (.cells #[.string y.key, .int .i64 y.ver, .int .i64 y.size, .int .i64 y.born] 42)) := (Below.refl _ _).alloc (Nat.le_refl _) _
            have HOQ7 := Lib.hid (own_below HOQ.out hb7)
            have HBQ7 := Lib.hid (HBQ.out.below hb7 HBQ.out.lt)
            have HY7 := Lib.hid (Blk.new wk 42 #[.string y.key, .int .i64 y.ver, .int .i64 y.size, .int .i64 y.born])
            have HRD7 := Lib.hid (HRDQ.out.below (hb7.mono (Nat.le_of_lt HBQ.out.lt)))
            have HNA : Hid (g6 < wk.heap.size ∧ b < wk.heap.size) := Lib.hid ⟨HBQ.out.lt, by have := HBQ.out.lt; omega⟩
            have HWQ7 := Lib.hid (HWQ.out.trans (hb7.mono hsk))
            have hsz7 : (wk.alloc (.cells #[.string y.key, .int .i64 y.ver, .int .i64 y.size, .int .i64 y.born] 42)).heap.size = wk.heap.size + 1 := by simp
            have HSZ7 := Lib.hid hsz7
            have hle7 : wi.heap.size ≤ (wk.alloc (.cells #[.string y.key, .int .i64 y.ver, .int .i64 y.size, .int .i64 y.born] 42)).heap.size := by omega
            clear hsz7 hb7 HOQ HBQ HRDQ HWQ x0 x1 x2 x3
            generalize wk.alloc (.cells #[.string y.key, .int .i64 y.ver, .int .i64 y.size, .int .i64 y.born] 42) = w7 at *
            generalize hgy : wk.heap.size = gy at *
            have y0 : w7.cell? ⟨gy, 0, none⟩ = some (.string y.key) := HY7.out.cell 0
            go_wp2_with (at_builtin; go_must (refine wpList_push _ rfl (.tmp 74) (.tmp 77) _ rfl wi.heap.size 9 _ 16 Try.underlying40 Try.infoStr rfl _ _ _ (.string y.key) 9 rfl rfl HOQ7.out rfl (by unfold maxLen; omega) (by omega) hle7 ?_))
            intro v8 w8 hown8 hbel8 hg8 hob8
            have hrow : ∀ x, (Value.slice AQ (16 * r + q) cQ).ownBlock = some x → x ≠ g6 ∧ b ≠ x := fun x hx => ⟨fun e => HNIQ.out x hx (.inl e), fun e => HNIQ.out x hx (.inr ⟨_, rfl, e⟩)⟩
            have HB8 := Lib.hid ((HBQ7.out.alloc (.cells #[.string y.key] 9)).grown hg8 (fun e => (hrow _ e.symm).1 rfl))
            have HR8 := Lib.hid (reads_grown (HRD7.out.below (((Below.refl w7.heap.size w7).alloc (Nat.le_refl _) (.cells #[.string y.key] 9)).mono (Nat.le_of_lt HBQ7.out.lt))) hg8 (by have := HBQ7.out.lt; simp; omega) (fun a ha x hx => by injection ha with ha; subst ha; exact (hrow x hx).2))
            have HN8 : Hid (NotIn v8 (OffR g6 (some ⟨b, off, none⟩))) := Lib.hid fun x hx => by
              rcases hob8 with h | h
              · rw [h] at hx; exact HNIQ.out x hx
              · rw [h] at hx
                injection hx with hx
                have := HNA.out
                rw [HSZ7.out] at hx
                rintro (e | ⟨a, ha, e⟩)
                · omega
                · injection ha with ha; subst ha; dsimp only at e; omega
            have HO8 : Hid (w8.ownsRow wi.heap.size 9 1 v8 (16 * r + (q + 1)) ((F.take (16 * r + (q + 1))).map Value.string)) := Lib.hid (by
              have := HSN.out
              rw [show 16 * r + (q + 1) = 16 * r + q + 1 from rfl, this, List.map_take]; exact hown8)
            have HW8 := Lib.hid (HWQ7.out.trans hbel8)
            clear hown8 hbel8 hg8 hob8 hrow
            go_wp2
            go_roundw
            case rel => exact ⟨q + 1, y.key, by omega, by go_num, rfl, hnq, HAN, HO8, HB8, HR8, HN8, HW8⟩
            case measure => simp [intOf]; omega
          obtain rfl : q = its.length := by omega
          have d3 : decide ((its.length : Int) < (its.length : Int)) = false := dcf (by omega)
          have hq16 : 16 * r + its.length = 16 * (r + 1) := by omega
          rw [hq16] at HAQ HOQ hqF
          have c6 : wk.cell? ⟨g6, 6, none⟩ = some (.bool true) := HBQ.out.cell 6
          go_wp2
          go_roundw
          case rel => exact ⟨r + 1, a2, by omega, by go_num, rfl, hqF, HAQ, HOQ.out, HWQ⟩
          case measure => simp [intOf]; omega
        | false =>
          have hmo : ¬ 16 < F.length - 16 * r := of_decide_eq_false HMO.out.symm
          have hil := HIL.out
          go_wp2
          go_loopw [8, 9, 64] (fun sn af i wr => ∃ (q : Nat) (a2 : ByteArray), q ≤ its.length ∧ i = .int .i64 (q : Int) ∧ af = .string a2 ∧ 16 * r + q ≤ F.length ∧ Hid (After F a2 (16 * r + q)) ∧ Hid (wr.ownsRow wi.heap.size 9 1 sn (16 * r + q) ((F.take (16 * r + q)).map Value.string)) ∧ Hid (Blk wr g6 36 #[.int .i64 0, .slice A5 0 c5, .int .i64 0, .int .i64 0, .int .i64 0, .slice Al its.length cl, .bool false]) ∧ Hid (Reads wr g6 4 Al its.length (itCells its)) ∧ Hid (NotIn sn (OffR g6 Al)) ∧ Hid (Below wi.heap.size wi wr)) (fun _ _ i _ => its.length - (intOf i).toNat)
          case atStart => exact ⟨0, a, Nat.zero_le _, rfl, rfl, hrF, HAF, HOWN6, HB6, HRD6, HNI6, HW6⟩
          case round =>
          clear HAF HOWN6 HW6 HRD6 HB6 HNI6
          obtain ⟨q, a2, hq, rfl, rfl, hqF, HAQ, HOQ, HBQ, HRDQ, HNIQ, HWQ⟩ := hrel
          obtain ⟨wk, rfl⟩ : ∃ wk : World, wk = wr := ⟨_, rfl⟩
          have hsk := HWQ.out.size
          by_cases hlt2 : q < its.length
          · have d3 : decide ((q : Int) < (its.length : Int)) = true := dct (by omega)
            obtain ⟨AQ, cQ, rfl, -, -, -⟩ := own_slice HOQ.out
            obtain ⟨b, off, rfl, hbB, hcell⟩ := reads_it HRDQ.out hlt2
            have x0 := hcell 0 _ (by omega) rfl
            have x1 := hcell 1 _ (by omega) rfl
            have x2 := hcell 2 _ (by omega) rfl
            have x3 := hcell 3 _ (by omega) rfl
            rw [Nat.add_zero] at x0
            obtain ⟨hnq, hkey, -⟩ := gi_key HIK.out hlt2
            have hless := After.less (p := p) (a := a2) (n := 16 * r + q) HK.out.srt HK.out.one (by rw [HK.out.f]; exact HAQ.out) (by rw [HK.out.f]; exact hnq)
            rw [HK.out.f, ← hkey] at hless
            have hyes := less_yes hless
            have HSN := Lib.hid (strs_snoc F (16 * r + q) hnq)
            have HAN := Lib.hid (After.next hnq)
            rw [← hkey] at HSN HAN
            have q1 := hyes.1
            have q2 := hyes.2
            clear hcell hkey hless hyes
            generalize gi its q = y at *
            have hi0 : (0 : Int) ≤ (q : Int) := by omega
            have hi1 : (q : Int) < (its.length : Int) := by omega
            go_upto_region 19 with fail
            have hb7 : Below wk.heap.size wk (wk.alloc (.cells #[.string y.key, .int .i64 y.ver, .int .i64 y.size, .int .i64 y.born] 42)) := (Below.refl _ _).alloc (Nat.le_refl _) _
            have HOQ7 := Lib.hid (own_below HOQ.out hb7)
            have HBQ7 := Lib.hid (HBQ.out.below hb7 HBQ.out.lt)
            have HY7 := Lib.hid (Blk.new wk 42 #[.string y.key, .int .i64 y.ver, .int .i64 y.size, .int .i64 y.born])
            have HRD7 := Lib.hid (HRDQ.out.below (hb7.mono (Nat.le_of_lt HBQ.out.lt)))
            have HNA : Hid (g6 < wk.heap.size ∧ b < wk.heap.size) := Lib.hid ⟨HBQ.out.lt, by have := HBQ.out.lt; omega⟩
            have HWQ7 := Lib.hid (HWQ.out.trans (hb7.mono hsk))
            have hsz7 : (wk.alloc (.cells #[.string y.key, .int .i64 y.ver, .int .i64 y.size, .int .i64 y.born] 42)).heap.size = wk.heap.size + 1 := by simp
            have HSZ7 := Lib.hid hsz7
            have hle7 : wi.heap.size ≤ (wk.alloc (.cells #[.string y.key, .int .i64 y.ver, .int .i64 y.size, .int .i64 y.born] 42)).heap.size := by omega
            clear hsz7 hb7 HOQ HBQ HRDQ HWQ x0 x1 x2 x3
            generalize wk.alloc (.cells #[.string y.key, .int .i64 y.ver, .int .i64 y.size, .int .i64 y.born] 42) = w7 at *
            generalize hgy : wk.heap.size = gy at *
            have y0 : w7.cell? ⟨gy, 0, none⟩ = some (.string y.key) := HY7.out.cell 0
            go_wp2_with (at_builtin; go_must (refine wpList_push _ rfl (.tmp 74) (.tmp 77) _ rfl wi.heap.size 9 _ 16 Try.underlying40 Try.infoStr rfl _ _ _ (.string y.key) 9 rfl rfl HOQ7.out rfl (by unfold maxLen; omega) (by omega) hle7 ?_))
            intro v8 w8 hown8 hbel8 hg8 hob8
            have hrow : ∀ x, (Value.slice AQ (16 * r + q) cQ).ownBlock = some x → x ≠ g6 ∧ b ≠ x := fun x hx => ⟨fun e => HNIQ.out x hx (.inl e), fun e => HNIQ.out x hx (.inr ⟨_, rfl, e⟩)⟩
            have HB8 := Lib.hid ((HBQ7.out.alloc (.cells #[.string y.key] 9)).grown hg8 (fun e => (hrow _ e.symm).1 rfl))
            have HR8 := Lib.hid (reads_grown (HRD7.out.below (((Below.refl w7.heap.size w7).alloc (Nat.le_refl _) (.cells #[.string y.key] 9)).mono (Nat.le_of_lt HBQ7.out.lt))) hg8 (by have := HBQ7.out.lt; simp; omega) (fun a ha x hx => by injection ha with ha; subst ha; exact (hrow x hx).2))
            have HN8 : Hid (NotIn v8 (OffR g6 (some ⟨b, off, none⟩))) := Lib.hid fun x hx => by
              rcases hob8 with h | h
              · rw [h] at hx; exact HNIQ.out x hx
              · rw [h] at hx
                injection hx with hx
                have := HNA.out
                rw [HSZ7.out] at hx
                rintro (e | ⟨a, ha, e⟩)
                · omega
                · injection ha with ha; subst ha; dsimp only at e; omega
            have HO8 : Hid (w8.ownsRow wi.heap.size 9 1 v8 (16 * r + (q + 1)) ((F.take (16 * r + (q + 1))).map Value.string)) := Lib.hid (by
              have := HSN.out
              rw [show 16 * r + (q + 1) = 16 * r + q + 1 from rfl, this, List.map_take]; exact hown8)
            have HW8 := Lib.hid (HWQ7.out.trans hbel8)
            clear hown8 hbel8 hg8 hob8 hrow
            go_wp2
            go_roundw
            case rel => exact ⟨q + 1, y.key, by omega, by go_num, rfl, hnq, HAN, HO8, HB8, HR8, HN8, HW8⟩
            case measure => simp [intOf]; omega
          obtain rfl : q = its.length := by omega
          have d3 : decide ((its.length : Int) < (its.length : Int)) = false := dcf (by omega)
          have hqF' : 16 * r + its.length = F.length := by omega
          rw [hqF'] at HOQ
          have c6 : wk.cell? ⟨g6, 6, none⟩ = some (.bool false) := HBQ.out.cell 6
          have HVQ := Lib.hid (HV.out.on HWQ.out)
          have HKC := Lib.hid (keys_calls wk HVQ.out.at_ (Nat.le_trans HVQ.out.inv.inv.on (by omega)))
          rw [HVQ.out.gs, HKL.out, HKM.out] at HKC
          clear HAQ HBQ HRDQ
          go_wp2_with fail
          refine HKC.out.mono ?_
          rintro e w8 ⟨A8, c8, rfl, hown8, hb8⟩
          have HFS := Lib.hid (own_below HOQ.out hb8)
          have HKS := Lib.hid (Reads.of_own hown8)
          have HV8 := Lib.hid (HVQ.out.on hb8)
          clear hown8 hb8 HKC HOQ HVQ HWQ c6
          obtain ⟨A9, c9, e9, hs9⟩ := strs_own (F := F) (n := F.length) (by have := HFS.out; rw [List.take_length] at this; exact this) rfl
          rw [e9] at HFS ⊢
          have HS9 := Lib.hid hs9
          clear hs9 e9 HFS
          go_wp2
          go_loop [8, 87] (fun sn i => ∃ (q m : Nat) (A : Option Addr) (n c : Nat), q ≤ K.length ∧ i = .int .i64 (q : Int) ∧ sn = .slice A n c ∧ m + n = F.length ∧ Hid ((fk p (K.take q)).length = m) ∧ Hid (Strs w8 A n c (F.drop m))) (fun _ i => K.length - (intOf i).toNat)
          case atStart => exact ⟨0, 0, A9, F.length, c9, Nat.zero_le _, rfl, rfl, Nat.zero_add _, Lib.hid rfl, HS9⟩
          case round =>
            obtain ⟨q, m, A, n, c, hq, rfl, rfl, hmn, HM, HS⟩ := hrel
            by_cases hlt3 : q < K.length
            · have d3 : decide ((q : Int) < (K.length : Int)) = true := dct (by omega)
              obtain ⟨b, off, rfl, hbB, hcell⟩ := HKS.out.2 (by omega)
              have x0 := hcell q (.string (gs_ K q)) (by rw [List.getElem?_map, List.getElem?_eq_getElem hlt3, gs_eq hlt3]; rfl)
              have hi0 : (0 : Int) ≤ (q : Int) := by omega
              have hi1 : (q : Int) < (K.length : Int) := by omega
              clear hcell
              have HHIT := Lib.hid (fk_hit (p := p) hlt3)
              have HMISS := Lib.hid (fk_miss (p := p) hlt3)
              rw [HK.out.f, HM.out] at HHIT
              rw [HM.out] at HMISS
              generalize gs_ K q = key at *
              by_cases hsz : p.size ≤ key.size
              · have d4 : decide (p.size ≤ key.size) = true := decide_eq_true hsz
                have d4' : decide ((p.size : Int) ≤ (key.size : Int)) = true := dct (by omega)
                cases hh : hasP p key with
                | true =>
                  have d5 : ((key.extract 0 p.size).toList == p.toList) = true := (hasP_slice hsz).trans hh
                  obtain ⟨hlt4, hgk, hlen⟩ := HHIT.out hh
                  have HHK := Lib.hid hgk
                  have HLEN := Lib.hid hlen
                  have HSC : Hid (Strs w8 A n c (key :: F.drop (m + 1))) := Lib.hid (by rw [← HHK.out, ← drop_gs hlt4]; exact HS.out)
                  obtain ⟨h1, h2, h3⟩ := HSC.out
                  have hn0 : 0 < n := by omega
                  obtain ⟨b9, off9, rfl, hb9, hc9⟩ := h3.2 hn0
                  have y0 := hc9 0 (.string key) rfl
                  rw [Nat.add_zero] at y0
                  have hsl := slice1_at w8 (some ⟨b9, off9, none⟩) n c 1 hn0 h2
                  have HSC2 := Lib.hid HSC.out.cut
                  have hl := HLEN.out
                  have e0 : ((n : Int) == 0) = false := eqf (by omega)
                  have e1 : (key.toList == key.toList) = true := by simp
                  clear h1 h2 h3 hc9 hh hgk hlen
                  clear hl
                  go_wp2
                  go_round
                  case rel => exact ⟨q + 1, m + 1, _, n - 1, c - 1, by omega, by go_num, rfl, by omega, HLEN, HSC2⟩
                  case measure => simp [intOf]; omega
                | false =>
                  have d5 : ((key.extract 0 p.size).toList == p.toList) = false := (hasP_slice hsz).trans hh
                  have HLEN := Lib.hid (HMISS.out hh)
                  clear hh
                  go_wp2
                  go_round
                  case rel => exact ⟨q + 1, m, A, n, c, by omega, by go_num, rfl, hmn, HLEN, HS⟩
                  case measure => simp [intOf]; omega
              · have d4 : decide (p.size ≤ key.size) = false := decide_eq_false hsz
                have d4' : decide ((p.size : Int) ≤ (key.size : Int)) = false := dcf (by omega)
                have HLEN := Lib.hid (HMISS.out (hasP_short hsz))
                go_wp2
                go_round
                case rel => exact ⟨q + 1, m, A, n, c, by omega, by go_num, rfl, hmn, HLEN, HS⟩
                case measure => simp [intOf]; omega
            · obtain rfl : q = K.length := by omega
              have d3 : decide ((K.length : Int) < (K.length : Int)) = false := dcf (by omega)
              have hm : F.length = m := by
                have := HM.out
                rw [List.take_length, HK.out.f] at this
                exact this
              obtain rfl : n = 0 := by omega
              clear hm hmn
              go_wp2
              go_ret
              exact ⟨rfl, HV8.out.below⟩
theorem walk {H : Type} {enc : TypeId × Value → H} {W : World} {base : Nat} {v0 v1 : Value} {d0 d1 : DataW H} {p0 p1 : List MemPlace} (g0 : Arg enc Try.prog W base 22 v0 d0 p0) (g1 : Arg enc Try.prog W base 9 v1 d1 p1) :
    Calls Try.prog 4 #[v0, v1] W fun e w' => e = .returned (.bool true) ∧ Below W.heap.size W w' := by
  obtain ⟨A, c, l, rfl, hc, hl, hL⟩ := arg_acts g0
  obtain ⟨p, rfl, -, hp⟩ := g1.str Try.underlying9
  exact body W hL (Nat.le_refl _) hc hl p hp
end Go.Proofs.Ytlljpjehalodfaa.lawStorePages
