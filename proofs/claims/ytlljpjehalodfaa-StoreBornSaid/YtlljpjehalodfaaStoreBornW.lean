/- StoreBorn: the walk. -/
import Derived.Test.YtlljpjehalodfaaProg
import Derived.Test.YtlljpjehalodfaaSaE
namespace Go.Proofs.Ytlljpjehalodfaa.lawStoreBorn
open Go.RowKit Go.Proofs.Ytlljpjehalodfaa Go.Proofs.Ytlljpjehalodfaa.St

structure Rp where
  A : Option Addr
  n : Nat
  c : Nat
  ver : Int
  born : Int
  Al : Option Addr
  cl : Nat
def Rp.cells (r : Rp) : List Value := [.int .i64 0, .slice r.A r.n r.c, .int .i64 r.ver, .int .i64 r.born, .int .i64 0, .slice r.Al 0 r.cl, .bool false]
theorem Try.infoRp : (Try.prog.info? 36).map (fun i => (i.zero, i.size, i.bytes)) = some (some (.agg #[.int .i64 0, .slice none 0 0, .int .i64 0, .int .i64 0, .int .i64 0, .slice none 0 0, .bool false]), 7, 88) := by kernel_rfl
def rpCells (l : List Rp) : List Value := l.flatMap Rp.cells
theorem rp_one (x : Rp) : ∀ u ∈ x.cells, u.oneCell' = true := by
  intro u hu
  unfold Rp.cells at hu
  simp at hu
  rcases hu with rfl | rfl | rfl | rfl | rfl | rfl | rfl <;> rfl
theorem rpCells_snoc (l : List Rp) (x : Rp) : rpCells (l ++ [x]) = rpCells l ++ x.cells := by
  unfold rpCells; rw [List.flatMap_append]; simp
def rp0 : Rp := ⟨none, 0, 0, 0, 0, none, 0⟩
def gr (l : List Rp) (i : Nat) : Rp := l.getD i rp0
theorem gr_eq {l : List Rp} {i : Nat} (h : i < l.length) : l[i] = gr l i := by simp [gr, List.getD, List.getElem?_eq_getElem h]
theorem reads_rp {w : World} {B : Nat} {A : Option Addr} {l : List Rp} (h : Reads w B 7 A l.length (rpCells l)) {i : Nat} (hi : i < l.length) : ∃ b off, A = some ⟨b, off, none⟩ ∧ b < B ∧ ∀ j u, j < 7 → ((gr l i).cells)[j]? = some u → w.cell? ⟨b, off + i * 7 + j, none⟩ = some u := by
  obtain ⟨b, off, e, hb, hc⟩ := h.2 (by omega)
  refine ⟨b, off, e, hb, fun j u hj hu => ?_⟩
  rw [Nat.add_assoc]
  refine hc _ _ ?_
  unfold rpCells
  rw [flatMap_get (size := 7) (fun _ => rfl) l i hi j hj, gr_eq hi, hu]
/-- The replies are those of these objects. -/
def Of (R : List Rp) (O : List (ByteArray × Ob)) : Prop := R.length = O.length ∧ ∀ i (_ : i < R.length) (h : i < O.length), (gr R i).ver = O[i].2.ver ∧ (gr R i).born = O[i].2.born
theorem Of.snoc {R : List Rp} {O : List (ByteArray × Ob)} {j : Nat} (hj : j < O.length) (h : Of R (O.take j)) {x : Rp} (hv : x.ver = O[j].2.ver) (hb : x.born = O[j].2.born) : Of (R ++ [x]) (O.take (j + 1)) := by
  obtain ⟨h1, h2⟩ := h
  rw [List.length_take] at h1
  refine ⟨by rw [List.length_append, List.length_take, h1]; simp; omega, fun i hi hi' => ?_⟩
  rw [List.length_append, List.length_singleton] at hi
  have e1 : (O.take (j + 1))[i] = O[i]'(by omega) := List.getElem_take
  rw [e1]
  rcases Nat.lt_or_ge i R.length with h3 | h3
  · have e : gr (R ++ [x]) i = gr R i := by unfold gr List.getD; rw [List.getElem?_append_left h3]
    have h4 := h2 i h3 (by rw [List.length_take]; omega)
    rw [e]
    have e2 : (O.take j)[i]'(by rw [List.length_take]; omega) = O[i]'(by omega) := List.getElem_take
    rw [e2] at h4
    exact h4
  · have : i = j := by omega
    subst this
    have e : gr (R ++ [x]) i = x := by unfold gr List.getD; rw [List.getElem?_append_right h3, show i - R.length = 0 from by omega]; rfl
    rw [e]; exact ⟨hv, hb⟩
set_option maxRecDepth 100000 in
set_option maxHeartbeats 16000000 in
theorem body (w : World) {B c : Nat} {A : Option Addr} {l : List Ac} (h : Acts w B A l) (hB : B ≤ w.heap.size) (hc : l.length ≤ c) (hl : l.length ≤ 4398046511104) :
    Calls Try.prog 7 #[.slice A l.length c] w fun e w' => e = .returned (.bool true) ∧ Below w.heap.size w w' := by
  have HL := Lib.hid h
  clear h
  go_enter Try.func7, Try.ntmps7
  go_wp2_with fail
  refine (new_calls w).mono ?_
  rintro e w1 ⟨rfl, hA1, hb1⟩
  have HV1 := Lib.hid (Liv.start hA1 hb1)
  clear hA1 hb1
  go_wp2_with fail
  refine (lives_calls w1).mono ?_
  rintro e w2 ⟨rfl, hb2⟩
  have HV2 := Lib.hid (HV1.out.on hb2)
  clear hb2 HV1
  generalize hg : w.heap.size + 2 = g at *
  go_wp2_with fail
  refine (few60_calls w2 60 rfl (HL.out.below (HV2.out.below.mono hB)) (Nat.le_trans hB HV2.out.size) hc hl (by omega)).mono ?_
  rintro e w3 ⟨k, hk, hk60, rfl, hb3⟩
  have HV3 := Lib.hid (HV2.out.on hb3)
  clear hb3 HV2
  generalize hL0 : emptyLS w.heap.size = L0 at *
  go_wp2
  go_loopw [22] (fun i wr => ∃ (j : Nat) (L : LS), j ≤ k ∧ i = .int .i64 (j : Int) ∧ Hid (Liv w wr g L j)) (fun i _ => k - (intOf i).toNat)
  case atStart => exact ⟨0, L0, Nat.zero_le _, rfl, HV3⟩
  case round =>
    obtain ⟨j, L, hj, rfl, HV⟩ := hrel
    obtain ⟨wi, rfl⟩ : ∃ wi : World, wi = wr := ⟨_, rfl⟩
    clear HV3
    by_cases hlt : j < k
    · have d1 : decide ((j : Int) < (k : Int)) = true := dct (by omega)
      have hjl : j < l.length := by omega
      obtain ⟨b, off, rfl, hbB, hcell⟩ := (HL.out.below (HV.out.below.mono hB)).at_ hjl
      have HOK := Lib.hid (HL.out.ok _ (ga_mem hjl))
      have x0 := hcell 0 _ (by omega) rfl
      have x1 := hcell 1 _ (by omega) rfl
      have x2 := hcell 2 _ (by omega) rfl
      have x3 := hcell 3 _ (by omega) rfl
      have x4 := hcell 4 _ (by omega) rfl
      have x5 := hcell 5 _ (by omega) rfl
      have x6 := hcell 6 _ (by omega) rfl
      have x7 := hcell 7 _ (by omega) rfl
      rw [Nat.add_zero] at x0
      clear hcell
      generalize ga l j = a at *
      have hi0 : (0 : Int) ≤ (j : Int) := by omega
      have hi1 : (j : Int) < (k : Int) := by omega
      go_upto_region 7 with fail
      have HVa := Lib.hid (HV.out.on ((Below.refl _ _).alloc (Nat.le_refl _) (.cells #[.int .i64 a.kind, .string a.key, .slice a.A a.d.length a.c, .int .i64 a.ver, .int .i64 a.at_, .int .i64 a.n, .int .i64 a.id, .int .i64 a.big] 32)))
      have HBa := Lib.hid (Blk.new wi 32 #[.int .i64 a.kind, .string a.key, .slice a.A a.d.length a.c, .int .i64 a.ver, .int .i64 a.at_, .int .i64 a.n, .int .i64 a.id, .int .i64 a.big])
      clear x0 x1 x2 x3 x4 x5 x6 x7 HV
      generalize wi.alloc (.cells #[.int .i64 a.kind, .string a.key, .slice a.A a.d.length a.c, .int .i64 a.ver, .int .i64 a.at_, .int .i64 a.n, .int .i64 a.id, .int .i64 a.big] 32) = wa at *
      generalize wi.heap.size = gb at *
      have y0 : wa.cell? ⟨gb, 0, none⟩ = some (.int .i64 a.kind) := HBa.out.cell 0
      have y1 : wa.cell? ⟨gb, 1, none⟩ = some (.string a.key) := HBa.out.cell 1
      have y2 : wa.cell? ⟨gb, 2, none⟩ = some (.slice a.A a.d.length a.c) := HBa.out.cell 2
      have y3 : wa.cell? ⟨gb, 3, none⟩ = some (.int .i64 a.ver) := HBa.out.cell 3
      have y4 : wa.cell? ⟨gb, 4, none⟩ = some (.int .i64 a.at_) := HBa.out.cell 4
      have y5 : wa.cell? ⟨gb, 5, none⟩ = some (.int .i64 a.n) := HBa.out.cell 5
      have y6 : wa.cell? ⟨gb, 6, none⟩ = some (.int .i64 a.id) := HBa.out.cell 6
      have y7 : wa.cell? ⟨gb, 7, none⟩ = some (.int .i64 a.big) := HBa.out.cell 7
      by_cases hkind : a.kind = 0
      · have b0 := eqt hkind
        clear hkind
        have HT := Lib.hid (tick_live wa HVa.out.at_ HVa.out.inv HOK.out.at_)
        rw [HVa.out.gs] at HT
        go_wp2_with fail
        refine HT.out.mono ?_
        rintro e wb ⟨rfl, hAb, hKb, hIb⟩
        have HVb := Lib.hid (HVa.out.tick hAb hKb hIb)
        clear hAb hKb hIb HT HVa HBa y0 y1 y2 y3 y4 y5 y6 y7
        go_wp2
        go_roundw
        case rel => exact ⟨j + 1, _, by omega, by go_num, Lib.hid { HVb.out with inv := HVb.out.inv.more (by omega) }⟩
        case measure => simp [intOf]; omega
      · have b0 := eqf hkind
        have HC := Lib.hid (call_calls wa a (HOK.out.below (HVa.out.below.mono hB) |>.dat (Nat.le_trans hB HVa.out.le)) HVa.out.lt)
        unfold Ac.val at HC
        go_wp2_with fail
        refine HC.out.mono ?_
        rintro e wb ⟨Ab, cb, rfl, hDb, hbb⟩
        have HVb := Lib.hid (HVa.out.on hbb)
        have HD := Lib.hid (do_live wb (x := a.cl Ab cb) HVb.out.at_ HVb.out.inv (by omega) (by rw [HVb.out.gs]; exact hDb) (Ac.clOk HOK.out Ab cb))
        rw [HVb.out.gs] at HD
        clear hDb hbb HC HVa HBa y0 y1 y2 y3 y4 y5 y6 y7
        go_wp2_with fail
        refine HD.out.mono ?_
        rintro e wd ⟨L', v, rfl, -, hs, hi⟩
        have HVd := Lib.hid (HVb.out.step hs hi)
        clear hs hi HD HVb
        go_wp2
        go_roundw
        case rel => exact ⟨j + 1, L', by omega, by go_num, HVd⟩
        case measure => simp [intOf]; omega
    · obtain rfl : j = k := by omega
      have d1 : decide ((j : Int) < (j : Int)) = false := dcf (by omega)
      have HKC := Lib.hid (keys_calls wi HV.out.at_ (Nat.le_trans HV.out.inv.inv.on (by omega)))
      rw [HV.out.gs] at HKC
      go_wp2_with fail
      refine HKC.out.mono ?_
      rintro e w4 ⟨Ak, ck, rfl, hown4, hb4⟩
      have HV4 := Lib.hid (HV.out.on hb4)
      have HK4 := Lib.hid (own_base hown4 (Nat.le_refl _))
      have hn60 := HV.out.inv.inv.on
      have hs4 := hb4.size
      clear hown4 hb4 HKC HV HL
      go_wp2
      go_loopw [6, 43] (fun out i wr => ∃ (q : Nat) (R : List Rp), q ≤ L.objs.length ∧ i = .int .i64 (q : Int) ∧ R.length = q ∧ wr.ownsRow w4.heap.size 36 7 out q (rpCells R) ∧ Hid (Of R (L.objs.take q)) ∧ Hid (Liv w wr g L j) ∧ Hid (Below w4.heap.size w4 wr)) (fun _ i _ => L.objs.length - (intOf i).toNat)
      case atStart => exact ⟨0, [], Nat.zero_le _, rfl, rfl, World.ownsRow_nil _ _ _ _, Lib.hid ⟨rfl, fun i hi => absurd hi (by simp)⟩, HV4, Lib.hid (Below.refl _ _)⟩
      case round =>
        obtain ⟨q, R, hq, rfl, hRl, hown, HOF, HV, HKP⟩ := hrel
        have HOWN := Lib.hid hown
        obtain ⟨AR, cR, rfl, -, -, -⟩ := own_slice hown
        obtain ⟨wj, rfl⟩ : ∃ wj : World, wj = wr := ⟨_, rfl⟩
        have HVB := Lib.hid HV4.out
        clear hown HV4
        by_cases hlt : q < L.objs.length
        · have d1 : decide ((q : Int) < (L.objs.length : Int)) = true := dct (by omega)
          have hkown := own_below HK4.out HKP.out
          obtain ⟨b, off, rfl, hbB, hcell⟩ := (Reads.of_own hkown).2 (by omega : 0 < L.objs.length)
          have x0 := hcell q (.string L.objs[q].1) (by rw [List.getElem?_map, List.getElem?_eq_getElem hlt]; rfl)
          have hok := HV.out.at_.mo.ok _ (List.getElem_mem hlt)
          have hm : (L.objs[q].1, L.objs[q].2) ∈ L.objs := List.getElem_mem hlt
          have ho : mget L.pure.objs L.objs[q].1 = some L.objs[q].2.pure := by rw [pure_get, mget_of_mem HV.out.at_.ndo hm]; rfl
          have HG := Lib.hid (get_live wj HV.out.at_ HV.out.inv (by omega) hok ho)
          rw [HV.out.gs] at HG
          have hov : 1 ≤ L.objs[q].2.ver ∧ 0 ≤ L.objs[q].2.born ∧ L.objs[q].2.born ≤ L.now := by
            have := HV.out.inv.ov _ (mem_pure_o hm)
            exact ⟨this.1, this.2.2.1, this.2.2.2⟩
          have HCMP : Hid (∀ r, r < R.length → (gr R r).ver ≠ L.objs[q].2.ver ∧ ((gr R r).ver < L.objs[q].2.ver → (gr R r).born ≤ L.objs[q].2.born) ∧ (L.objs[q].2.ver < (gr R r).ver → L.objs[q].2.born ≤ (gr R r).born)) := Lib.hid fun r hr => by
            have h1 := HOF.out.2 r hr (by rw [List.length_take]; omega)
            have hrl : r < L.objs.length := by omega
            have e2 : (L.objs.take q)[r]'(by rw [List.length_take]; omega) = L.objs[r] := List.getElem_take
            rw [e2] at h1
            rw [h1.1, h1.2]
            have hmr : (L.objs[r].1, L.objs[r].2) ∈ L.objs := List.getElem_mem hrl
            have hne := List.pairwise_iff_getElem.1 HV.out.at_.ndo r q hrl hlt (by omega)
            exact ⟨fun e => hne (HV.out.inv.one _ (mem_pure_o hmr) _ (mem_pure_o hm) e), fun e => HV.out.inv.old _ (mem_pure_o hmr) _ (mem_pure_o hm) e, fun e => HV.out.inv.old _ (mem_pure_o hm) _ (mem_pure_o hmr) e⟩
          have HOS : Hid (∀ x : Rp, x.ver = L.objs[q].2.ver → x.born = L.objs[q].2.born → Of (R ++ [x]) (L.objs.take (q + 1))) := Lib.hid fun x h1 h2 => HOF.out.snoc hlt h1 h2
          have hi0 : (0 : Int) ≤ (q : Int) := by omega
          have hi1 : (q : Int) < (L.objs.length : Int) := by omega
          change Hid (Calls _ _ _ _ fun e w' => ∃ A c Al cl, e = .returned (.agg #[.int .i64 0, .slice A L.objs[q].2.d.length c, .int .i64 L.objs[q].2.ver, .int .i64 L.objs[q].2.born, .int .i64 0, .slice Al 0 cl, .bool false]) ∧ w'.ownsRow wj.heap.size 5 1 (.slice A L.objs[q].2.d.length c) L.objs[q].2.d.length (L.objs[q].2.d.map byteV) ∧ At w' L ∧ Below wj.heap.size wj w') at HG
          clear hcell hm ho hkown HOF hok
          generalize L.objs[q] = ob at *
          obtain ⟨key, ob⟩ := ob
          dsimp only at *
          go_wp2_with fail
          refine HG.out.mono ?_
          rintro e w5 ⟨A5, c5, Al5, cl5, rfl, -, hA5, hK5⟩
          have HV5 := Lib.hid (HV.out.on hK5)
          have HKP5 := Lib.hid (HKP.out.trans (hK5.mono HKP.out.size))
          have HOWN5 := Lib.hid (own_below HOWN.out hK5)
          have hs5 := HKP5.out.size
          clear hA5 hK5 HG HV HKP HOWN x0
          go_upto_region 16 with fail
          have HV6 := Lib.hid (HV5.out.on ((Below.refl _ _).alloc (Nat.le_refl _) (.cells #[.int .i64 0, .slice A5 ob.d.length c5, .int .i64 ob.ver, .int .i64 ob.born, .int .i64 0, .slice Al5 0 cl5, .bool false] 36)))
          have HB6 := Lib.hid (Blk.new w5 36 #[.int .i64 0, .slice A5 ob.d.length c5, .int .i64 ob.ver, .int .i64 ob.born, .int .i64 0, .slice Al5 0 cl5, .bool false])
          have HKP6 := Lib.hid (HKP5.out.alloc hs5 (.cells #[.int .i64 0, .slice A5 ob.d.length c5, .int .i64 ob.ver, .int .i64 ob.born, .int .i64 0, .slice Al5 0 cl5, .bool false] 36))
          have HOWN6 := Lib.hid (own_below HOWN5.out ((Below.refl _ _).alloc (Nat.le_refl _) (.cells #[.int .i64 0, .slice A5 ob.d.length c5, .int .i64 ob.ver, .int .i64 ob.born, .int .i64 0, .slice Al5 0 cl5, .bool false] 36)))
          have hs6 : w5.heap.size < (w5.alloc (.cells #[.int .i64 0, .slice A5 ob.d.length c5, .int .i64 ob.ver, .int .i64 ob.born, .int .i64 0, .slice Al5 0 cl5, .bool false] 36)).heap.size := by simp
          clear HV5 HKP5 HOWN5
          generalize w5.alloc (.cells #[.int .i64 0, .slice A5 ob.d.length c5, .int .i64 ob.ver, .int .i64 ob.born, .int .i64 0, .slice Al5 0 cl5, .bool false] 36) = w6 at *
          generalize w5.heap.size = g9 at *
          have z0 : w6.cell? ⟨g9, 0, none⟩ = some (.int .i64 0) := HB6.out.cell 0
          have z2 : w6.cell? ⟨g9, 2, none⟩ = some (.int .i64 ob.ver) := HB6.out.cell 2
          have z3 : w6.cell? ⟨g9, 3, none⟩ = some (.int .i64 ob.born) := HB6.out.cell 3
          have hnow := fun n => now_calls (w6.drewN n) (HV6.out.at_.drewN n)
          rw [HV6.out.gs] at hnow
          have HNOW := Lib.hid hnow
          have e1 : decide (ob.born < 0) = false := dcf (by omega)
          have e2 : decide (L.now < ob.born) = false := dcf (by omega)
          have e3 : decide (ob.ver < 1) = false := dcf (by omega)
          clear hnow
          refine wp_region_T 99 (fun w' => w'.cell? ⟨g9, 0, none⟩ = some (.int .i64 0) ∧ w'.cell? ⟨g9, 2, none⟩ = some (.int .i64 ob.ver) ∧ w'.cell? ⟨g9, 3, none⟩ = some (.int .i64 ob.born)) (by kernel_rfl) ⟨z0, z2, z3⟩ (fun hHeld => ?_)
          refine wpAnyT_take (i := 0) (oi := _) (v := ?_) rfl (by kernel_rfl) (fun _ _ _ h => h) (Or.inl ⟨by kernel_rfl, ?_⟩) (by assumption) ?_; rotate_left; (focus (intro w hSw; (try dsimp only at hSw); go_simp; (try with_reducible rfl))); (try simp only [Act.put, List.getElem_toArray, List.getElem_cons_zero, List.getElem_cons_succ, List.setIfInBounds_toArray, List.set_cons_zero, List.set_cons_succ])
          refine wpAnyT_take (i := 1) (oi := _) (v := ?_) rfl (by kernel_rfl) (fun _ _ _ h => h) (Or.inl ⟨by kernel_rfl, ?_⟩) (by assumption) ?_; rotate_left; (focus (intro w hSw; (try dsimp only at hSw); go_simp; (try with_reducible rfl))); (try simp only [Act.put, List.getElem_toArray, List.getElem_cons_zero, List.getElem_cons_succ, List.setIfInBounds_toArray, List.set_cons_zero, List.set_cons_succ])
          refine wpAnyT_take (i := 2) (oi := _) (v := ?_) rfl (by kernel_rfl) (fun _ _ _ h => h) (Or.inl ⟨by kernel_rfl, ?_⟩) (by assumption) ?_; rotate_left; (focus (intro w hSw; (try dsimp only at hSw); go_simp; (try with_reducible rfl))); (try simp only [Act.put, List.getElem_toArray, List.getElem_cons_zero, List.getElem_cons_succ, List.setIfInBounds_toArray, List.set_cons_zero, List.set_cons_succ])
          refine wpAnyT_take (i := 3) (oi := _) (v := ?_) rfl (by kernel_rfl) (fun _ _ _ h => h) (Or.inl ⟨by kernel_rfl, ?_⟩) (by assumption) ?_; rotate_left; (focus (intro w hSw; (try dsimp only at hSw); go_simp; (try with_reducible rfl))); (try simp only [Act.put, List.getElem_toArray, List.getElem_cons_zero, List.getElem_cons_succ, List.setIfInBounds_toArray, List.set_cons_zero, List.set_cons_succ])
          refine wpAnyT_take (i := 4) (oi := _) (v := ?_) rfl (by kernel_rfl) (fun _ _ _ h => h) (Or.inl ⟨by kernel_rfl, ?_⟩) (by assumption) ?_; rotate_left; (focus (intro w hSw; (try dsimp only at hSw); go_simp; (try with_reducible rfl))); (try simp only [Act.put, List.getElem_toArray, List.getElem_cons_zero, List.getElem_cons_succ, List.setIfInBounds_toArray, List.set_cons_zero, List.set_cons_succ])
          refine wpAnyT_take (i := 5) (oi := _) (v := ?_) rfl (by kernel_rfl) (fun _ _ _ h => h) (Or.inl ⟨by kernel_rfl, ?_⟩) (by assumption) ?_; rotate_left; (focus (intro w hSw; (try dsimp only at hSw); go_simp; (try with_reducible rfl))); (try simp only [Act.put, List.getElem_toArray, List.getElem_cons_zero, List.getElem_cons_succ, List.setIfInBounds_toArray, List.set_cons_zero, List.set_cons_succ])
          refine wpAnyT_take (i := 6) (oi := _) (v := ?_) rfl (by kernel_rfl) (fun _ _ _ h => h) (Or.inl ⟨by kernel_rfl, ?_⟩) (by assumption) ?_; rotate_left; (focus (intro w hSw; (try dsimp only at hSw); go_simp; (try with_reducible rfl))); (try simp only [Act.put, List.getElem_toArray, List.getElem_cons_zero, List.getElem_cons_succ, List.setIfInBounds_toArray, List.set_cons_zero, List.set_cons_succ])
          refine wpAnyT_take (i := 7) (oi := _) (v := ?_) rfl (by kernel_rfl) (fun _ _ _ h => h) (Or.inl ⟨by kernel_rfl, ?_⟩) (by assumption) ?_; rotate_left; (focus (intro w hSw; (try dsimp only at hSw); go_simp; (try with_reducible rfl))); (try simp only [Act.put, List.getElem_toArray, List.getElem_cons_zero, List.getElem_cons_succ, List.setIfInBounds_toArray, List.set_cons_zero, List.set_cons_succ])
          refine wpAnyT_take (i := 8) (oi := _) (v := ?_) rfl (by kernel_rfl) (fun _ _ _ h => h) (Or.inl ⟨by kernel_rfl, ?_⟩) (by assumption) ?_; rotate_left; (focus (intro w hSw; (try dsimp only at hSw); go_simp; (try with_reducible rfl))); (try simp only [Act.put, List.getElem_toArray, List.getElem_cons_zero, List.getElem_cons_succ, List.setIfInBounds_toArray, List.set_cons_zero, List.set_cons_succ])
          refine wpAnyT_take (i := 9) (oi := _) (v := ?_) rfl (by kernel_rfl) (fun _ _ _ h => h) (Or.inl ⟨by kernel_rfl, ?_⟩) (by assumption) ?_; rotate_left; (focus (intro w hSw; (try dsimp only at hSw); go_simp; (try with_reducible rfl))); (try simp only [Act.put, List.getElem_toArray, List.getElem_cons_zero, List.getElem_cons_succ, List.setIfInBounds_toArray, List.set_cons_zero, List.set_cons_succ])
          refine wpAnyT_take (i := 10) (oi := _) (v := ?_) rfl (by kernel_rfl) (fun _ _ _ h => h) (Or.inl ⟨by kernel_rfl, ?_⟩) (by assumption) ?_; rotate_left; (focus (intro w hSw; (try dsimp only at hSw); go_simp; (try with_reducible rfl))); (try simp only [Act.put, List.getElem_toArray, List.getElem_cons_zero, List.getElem_cons_succ, List.setIfInBounds_toArray, List.set_cons_zero, List.set_cons_succ])
          refine wpAnyT_take (i := 11) (oi := _) (v := ?_) rfl (by kernel_rfl) (fun _ _ _ h => h) (Or.inl ⟨by kernel_rfl, ?_⟩) (by assumption) ?_; rotate_left; (focus (intro w hSw; (try dsimp only at hSw); go_simp; (try with_reducible rfl))); (try simp only [Act.put, List.getElem_toArray, List.getElem_cons_zero, List.getElem_cons_succ, List.setIfInBounds_toArray, List.set_cons_zero, List.set_cons_succ])
          refine wpAnyT_one (i := 12) (by kernel_rfl) rfl (fun K hK => ?_); go_simp
          refine (HNOW.out 1).mono ?_
          rintro e w' ⟨rfl, rfl⟩
          refine hK.out _ _ (fun _ => hHeld) ?_
          clear hK K
          (try simp only [Act.put, List.getElem_toArray, List.getElem_cons_zero, List.getElem_cons_succ, List.setIfInBounds_toArray, List.set_cons_zero, List.set_cons_succ])
          refine wpAnyT_take (i := 13) (oi := _) (v := ?_) rfl (by kernel_rfl) (fun _ _ _ h => h) (Or.inl ⟨by kernel_rfl, ?_⟩) (by assumption) ?_; rotate_left; (focus (intro w hSw; (try dsimp only at hSw); go_simp; (try with_reducible rfl))); (try simp only [Act.put, List.getElem_toArray, List.getElem_cons_zero, List.getElem_cons_succ, List.setIfInBounds_toArray, List.set_cons_zero, List.set_cons_succ])
          refine wpAnyT_take (i := 14) (oi := _) (v := ?_) rfl (by kernel_rfl) (fun _ _ _ h => h) (Or.inl ⟨by kernel_rfl, ?_⟩) (by assumption) ?_; rotate_left; (focus (intro w hSw; (try dsimp only at hSw); go_simp; (try with_reducible rfl))); (try simp only [Act.put, List.getElem_toArray, List.getElem_cons_zero, List.getElem_cons_succ, List.setIfInBounds_toArray, List.set_cons_zero, List.set_cons_succ])
          refine wpAnyT_take (i := 15) (oi := _) (v := ?_) rfl (by kernel_rfl) (fun _ _ _ h => h) (Or.inl ⟨by kernel_rfl, ?_⟩) (by assumption) ?_; rotate_left; (focus (intro w hSw; (try dsimp only at hSw); go_simp; (try with_reducible rfl))); (try simp only [Act.put, List.getElem_toArray, List.getElem_cons_zero, List.getElem_cons_succ, List.setIfInBounds_toArray, List.set_cons_zero, List.set_cons_succ])
          refine wpAnyT_take (i := 16) (oi := _) (v := ?_) rfl (by kernel_rfl) (fun _ _ _ h => h) (Or.inl ⟨by kernel_rfl, ?_⟩) (by assumption) ?_; rotate_left; (focus (intro w hSw; (try dsimp only at hSw); go_simp; (try with_reducible rfl))); (try simp only [Act.put, List.getElem_toArray, List.getElem_cons_zero, List.getElem_cons_succ, List.setIfInBounds_toArray, List.set_cons_zero, List.set_cons_succ])
          refine wpAnyT_take (i := 17) (oi := _) (v := ?_) rfl (by kernel_rfl) (fun _ _ _ h => h) (Or.inl ⟨by kernel_rfl, ?_⟩) (by assumption) ?_; rotate_left; (focus (intro w hSw; (try dsimp only at hSw); go_simp; (try with_reducible rfl))); (try simp only [Act.put, List.getElem_toArray, List.getElem_cons_zero, List.getElem_cons_succ, List.setIfInBounds_toArray, List.set_cons_zero, List.set_cons_succ])
          refine wpAnyT_take (i := 18) (oi := _) (v := ?_) rfl (by kernel_rfl) (fun _ _ _ h => h) (Or.inl ⟨by kernel_rfl, ?_⟩) (by assumption) ?_; rotate_left; (focus (intro w hSw; (try dsimp only at hSw); go_simp; (try with_reducible rfl))); (try simp only [Act.put, List.getElem_toArray, List.getElem_cons_zero, List.getElem_cons_succ, List.setIfInBounds_toArray, List.set_cons_zero, List.set_cons_succ])
          refine wpAnyT_take (i := 19) (oi := _) (v := ?_) rfl (by kernel_rfl) (fun _ _ _ h => h) (Or.inl ⟨by kernel_rfl, ?_⟩) (by assumption) ?_; rotate_left; (focus (intro w hSw; (try dsimp only at hSw); go_simp; (try with_reducible rfl))); (try simp only [Act.put, List.getElem_toArray, List.getElem_cons_zero, List.getElem_cons_succ, List.setIfInBounds_toArray, List.set_cons_zero, List.set_cons_succ])
          refine wpAnyT_done (by kernel_rfl) ?_ _
          have HV7 := Lib.hid (HV6.out.on (below_drewN_ (Below.refl w6.heap.size w6) 1))
          have HB7 := Lib.hid (HB6.out.drewN 1)
          have HKP7 := Lib.hid (below_drewN_ HKP6.out 1)
          have HOWN7 := Lib.hid (own_drewN HOWN6.out 1)
          have hs7 : g9 < (w6.drewN 1).heap.size := hs6
          clear HV6 HB6 HKP6 HOWN6 hs6 z0 z2 z3 HNOW hHeld e1 e2 e3
          generalize w6.drewN 1 = w7 at *
          go_wp2
          go_loopw [73] (fun i wr => ∃ r : Nat, r ≤ q ∧ i = .int .i64 (r : Int) ∧ Hid (Below w7.heap.size w7 wr)) (fun i _ => q - (intOf i).toNat)
          case atStart => exact ⟨0, Nat.zero_le _, rfl, Lib.hid (Below.refl _ _)⟩
          case round =>
            obtain ⟨r, hr, rfl, HW⟩ := hrel
            obtain ⟨wk, rfl⟩ : ∃ wk : World, wk = wr := ⟨_, rfl⟩
            have hsk := HW.out.size
            by_cases hrq : r < q
            · have d2 : decide ((r : Int) < (q : Int)) = true := dct (by omega)
              have hown8 := own_below HOWN7.out HW.out
              have hrd := Reads.of_own hown8
              rw [← hRl] at hrd
              obtain ⟨b2, off2, rfl, hbB2, hcell⟩ := reads_rp hrd (i := r) (by omega)
              have x0 := hcell 0 _ (by omega) rfl
              have x1 := hcell 1 _ (by omega) rfl
              have x2 := hcell 2 _ (by omega) rfl
              have x3 := hcell 3 _ (by omega) rfl
              have x4 := hcell 4 _ (by omega) rfl
              have x5 := hcell 5 _ (by omega) rfl
              have x6 := hcell 6 _ (by omega) rfl
              rw [Nat.add_zero] at x0
              have hcmp := HCMP.out r (by omega)
              have hj0 : (0 : Int) ≤ (r : Int) := by omega
              have hj1 : (r : Int) < (q : Int) := by omega
              clear hcell hown8 hrd
              generalize gr R r = y at *
              go_upto_region 21 with fail
              have HB8 := Lib.hid ((HB7.out.below HW.out hs7).alloc (.cells #[.int .i64 0, .slice y.A y.n y.c, .int .i64 y.ver, .int .i64 y.born, .int .i64 0, .slice y.Al 0 y.cl, .bool false] 36))
              have HY8 := Lib.hid (Blk.new wk 36 #[.int .i64 0, .slice y.A y.n y.c, .int .i64 y.ver, .int .i64 y.born, .int .i64 0, .slice y.Al 0 y.cl, .bool false])
              have HW8 := Lib.hid (HW.out.alloc hsk (.cells #[.int .i64 0, .slice y.A y.n y.c, .int .i64 y.ver, .int .i64 y.born, .int .i64 0, .slice y.Al 0 y.cl, .bool false] 36))
              clear x0 x1 x2 x3 x4 x5 x6 HW
              generalize wk.alloc (.cells #[.int .i64 0, .slice y.A y.n y.c, .int .i64 y.ver, .int .i64 y.born, .int .i64 0, .slice y.Al 0 y.cl, .bool false] 36) = w8 at *
              generalize wk.heap.size = g11 at *
              have z2 : w8.cell? ⟨g9, 2, none⟩ = some (.int .i64 ob.ver) := HB8.out.cell 2
              have z3 : w8.cell? ⟨g9, 3, none⟩ = some (.int .i64 ob.born) := HB8.out.cell 3
              have y2 : w8.cell? ⟨g11, 2, none⟩ = some (.int .i64 y.ver) := HY8.out.cell 2
              have y3 : w8.cell? ⟨g11, 3, none⟩ = some (.int .i64 y.born) := HY8.out.cell 3
              have b1 : (ob.ver == y.ver) = false := eqf (fun e => hcmp.1 e.symm)
              rcases Int.lt_trichotomy ob.ver y.ver with hv | hv | hv
              · have b2 : decide (ob.ver < y.ver) = true := dct hv
                have b3 : decide (y.born < ob.born) = false := dcf (by have := hcmp.2.2 hv; omega)
                have b4 : decide (y.ver < ob.ver) = false := dcf (by omega)
                clear hcmp hv
                go_wp2
                go_roundw
                case rel => exact ⟨r + 1, by omega, by go_num, HW8⟩
                case measure => simp [intOf]; omega
              · exact absurd hv.symm hcmp.1
              · have b2 : decide (ob.ver < y.ver) = false := dcf (by omega)
                have b4 : decide (y.ver < ob.ver) = true := dct hv
                have b3 : decide (ob.born < y.born) = false := dcf (by have := hcmp.2.1 hv; omega)
                clear hcmp hv
                go_wp2
                go_roundw
                case rel => exact ⟨r + 1, by omega, by go_num, HW8⟩
                case measure => simp [intOf]; omega
            · obtain rfl : r = q := by omega
              have d2 : decide ((r : Int) < (r : Int)) = false := dcf (by omega)
              have HB8 := Lib.hid (HB7.out.below HW.out hs7)
              have c0 : wk.cell? ⟨g9, 0, none⟩ = some (.int .i64 0) := HB8.out.cell 0
              have c1 : wk.cell? ⟨g9, 1, none⟩ = some (.slice A5 ob.d.length c5) := HB8.out.cell 1
              have c2 : wk.cell? ⟨g9, 2, none⟩ = some (.int .i64 ob.ver) := HB8.out.cell 2
              have c3 : wk.cell? ⟨g9, 3, none⟩ = some (.int .i64 ob.born) := HB8.out.cell 3
              have c4 : wk.cell? ⟨g9, 4, none⟩ = some (.int .i64 0) := HB8.out.cell 4
              have cc5 : wk.cell? ⟨g9, 5, none⟩ = some (.slice Al5 0 cl5) := HB8.out.cell 5
              have c6 : wk.cell? ⟨g9, 6, none⟩ = some (.bool false) := HB8.out.cell 6
              have HV8 := Lib.hid (HV7.out.on (HW.out.mono (Nat.le_refl _)))
              have HKP8 := Lib.hid (HKP7.out.trans (HW.out.mono HKP7.out.size))
              have HOWN8 := Lib.hid (own_below (own_below HOWN7.out HW.out) ((Below.refl _ _).alloc (Nat.le_refl _) (.cells #[.int .i64 0, .slice A5 ob.d.length c5, .int .i64 ob.ver, .int .i64 ob.born, .int .i64 0, .slice Al5 0 cl5, .bool false] 36)))
              have hs4k := HKP8.out.size
              have HN8 := Lib.hid (Reads.made (size := 7) (n := 1) wk #[.int .i64 0, .slice A5 ob.d.length c5, .int .i64 ob.ver, .int .i64 ob.born, .int .i64 0, .slice Al5 0 cl5, .bool false] 36 rfl)
              clear HW HB8 HB7 HV7 HKP7 HOWN7
              go_wp2_with (at_builtin; go_must (refine wpList_append_sl _ rfl (.tmp 111) (.tmp 113) _ rfl w4.heap.size 36 _ 7 88 Try.underlying55 Try.infoRp rfl (by omega) _ _ _ rfl HOWN8.out _ _ 1 1 _ rfl HN8.out (rp_one ⟨A5, ob.d.length, c5, ob.ver, ob.born, Al5, cl5⟩) (by unfold maxLen; omega) (by omega) (by simp; omega) ?_))
              intro A9 c9 w9 _ _ _ hbel9 hown9 _ _
              have hz9 : wk.heap.size ≤ (wk.alloc (.cells #[.int .i64 0, .slice A5 ob.d.length c5, .int .i64 ob.ver, .int .i64 ob.born, .int .i64 0, .slice Al5 0 cl5, .bool false] 36)).heap.size := by simp
              have hb9 : Below w4.heap.size wk w9 := ((Below.refl _ _).alloc hs4k _).trans hbel9
              have HKP9 := Lib.hid (HKP8.out.trans hb9)
              have HV9 : Hid (Liv w w9 g L j) := Lib.hid (HVB.out.on HKP9.out)
              have HOF9 := Lib.hid (HOS.out ⟨A5, ob.d.length, c5, ob.ver, ob.born, Al5, cl5⟩ rfl rfl)
              clear HOWN8 HN8 HV8 HKP8 hb9 hbel9
              go_wp2
              go_roundw
              case rel => exact ⟨r + 1, R ++ [⟨A5, ob.d.length, c5, ob.ver, ob.born, Al5, cl5⟩], by omega, by go_num, by rw [List.length_append, hRl]; rfl, by rw [rpCells_snoc]; exact hown9, HOF9, HV9, HKP9⟩
              case measure => simp [intOf]; omega
        · obtain rfl : q = L.objs.length := by omega
          have d1 : decide ((L.objs.length : Int) < (L.objs.length : Int)) = false := dcf (by omega)
          go_wp2
          go_ret
          exact ⟨rfl, HV.out.below⟩
theorem walk {H : Type} {enc : TypeId × Value → H} {W : World} {base : Nat} {v0 : Value} {d0 : DataW H} {p0 : List MemPlace} (g0 : Arg enc Try.prog W base 22 v0 d0 p0) :
    Calls Try.prog 7 #[v0] W fun e w' => e = .returned (.bool true) ∧ Below W.heap.size W w' := by
  obtain ⟨A, c, l, rfl, hc, hl, hL⟩ := arg_acts g0
  exact body W hL (Nat.le_refl _) hc hl
end Go.Proofs.Ytlljpjehalodfaa.lawStoreBorn
