/- StorePlays: the walk. -/
import Derived.Test.YtlljpjehalodfaaGreatProg
import Derived.Test.YtlljpjehalodfaaGreatPlU
namespace Go.Proofs.YtlljpjehalodfaaGreat.lawStorePlays
open Go.RowKit Go.Proofs.YtlljpjehalodfaaGreat Go.Proofs.YtlljpjehalodfaaGreat.St Go.Proofs.YtlljpjehalodfaaGreat.Rf
def R0 (g : Nat) : RS := ⟨g, none, 0, none, 0, [], [], 0, 0, 0⟩
theorem start {w w1 : World} (h : At w1 (emptyLS w.heap.size)) (hb : Below w.heap.size w w1) : Pair w (w1.alloc (.cells #[.slice none 0 0, .slice none 0 0, .int .i64 0, .int .i64 0, .int .i64 0] 29)) (w.heap.size + 2) w1.heap.size (w1.heap.size + 1) (emptyLS w.heap.size) (R0 w1.heap.size) 0 := by
  have hb2 : Below w1.heap.size w1 (w1.alloc (.cells #[.slice none 0 0, .slice none 0 0, .int .i64 0, .int .i64 0, .int .i64 0] 29)) := (Below.refl _ _).alloc (Nat.le_refl _) _
  have hf : ∀ i, (R0 w1.heap.size).foot i → i = w1.heap.size := fun i hi => by
    rcases hi with hi | hi | hi
    · exact hi
    · cases hi
    · cases hi
  refine ⟨(Liv.start h hb).on hb2, ⟨Blk.new w1 _ _, World.ownsRow_nil _ _ _ _, World.ownsRow_nil _ _ _ _, Nat.lt_succ_self _, by simp, (fun x hx => (by cases hx)), (fun o ho => (by cases ho)), (fun u hu => (by cases hu)), (fun u hu => (by cases hu))⟩, rfl, fun i hi hr => ?_, fun a ha => ?_, fun b hb' => ?_, fun i hi => ?_⟩
  · have h1 := h.foot_lt hi
    have h2 := hf i hr
    omega
  · rcases ha with ⟨p, hp, _⟩ | ⟨p, hp, _⟩ <;> cases hp
  · rcases hb' with ⟨p, hp, _⟩ | ⟨p, hp, _⟩ <;> cases hp
  · have := hb.size
    rw [hf i hi]; exact this
set_option maxRecDepth 100000 in
set_option maxHeartbeats 16000000 in
theorem body (w : World) {B c : Nat} {A : Option Addr} {l : List Ac} (h : Acts w B A l) (hB : B ≤ w.heap.size) (hc : l.length ≤ c) (hl : l.length ≤ 4398046511104) :
    Calls Tryz.prog 3 #[.slice A l.length c] w fun e w' => e = .returned (.bool true) ∧ Below w.heap.size w w' := by
  have HL := Lib.hid h
  clear h
  go_enter Tryz.func3, Tryz.ntmps3
  go_wp2_with fail
  refine (new_calls w).mono ?_
  rintro e w1 ⟨rfl, hA1, hb1⟩
  have HP1 := Lib.hid (start hA1 hb1)
  have HS1 : Hid (Sim (R0 w1.heap.size) (emptyLS w.heap.size).pure) := Lib.hid ⟨rfl, .nil, rfl, rfl, rfl⟩
  clear hA1 hb1
  go_upto_region 2 with fail
  generalize w1.alloc (.cells #[.slice none 0 0, .slice none 0 0, .int .i64 0, .int .i64 0, .int .i64 0] 29) = w2 at *
  generalize hgr : w1.heap.size = gr at *
  generalize hRe : R0 gr = Re at *
  have hrg : Re.g = gr := by rw [← hRe]; rfl
  clear hRe hrg
  go_wp2_with fail
  refine (lives_calls w2).mono ?_
  rintro e w3 ⟨rfl, hb3⟩
  have HP3 := Lib.hid (HP1.out.on hb3)
  clear hb3 HP1
  generalize hg : w.heap.size + 2 = g at *
  generalize hLe : emptyLS w.heap.size = Le at *
  clear hLe
  go_wp2_with fail
  refine (few60_calls w3 60 rfl (HL.out.below (HP3.out.l.below.mono hB)) (Nat.le_trans hB HP3.out.l.size) hc hl (by omega)).mono ?_
  rintro e w4 ⟨k, hk, hk60, rfl, hb4⟩
  have HP4 := Lib.hid (HP3.out.on hb4)
  clear hb4 HP3
  generalize gr + 1 = base at *
  go_wp2
  go_loopw [24] (fun i wr => ∃ (j : Nat) (L : LS) (R : RS), j ≤ k ∧ i = .int .i64 (j : Int) ∧ Hid (Pair w wr g gr base L R j) ∧ Hid (Sim R L.pure)) (fun i _ => k - (intOf i).toNat)
  case atStart => exact ⟨0, Le, Re, Nat.zero_le _, rfl, HP4, HS1⟩
  case round =>
    clear HP4 HS1
    obtain ⟨j, L, R, hj, rfl, HP, HSIM⟩ := hrel
    obtain ⟨wi, rfl⟩ : ∃ wi : World, wi = wr := ⟨_, rfl⟩
    by_cases hlt : j < k
    · have d1 : decide ((j : Int) < (k : Int)) = true := dct (by omega)
      have hjl : j < l.length := by omega
      obtain ⟨b, off, rfl, hbB, hcell⟩ := (HL.out.below (HP.out.l.below.mono hB)).at_ hjl
      have HOK := Lib.hid (HL.out.ok _ (ga_mem hjl))
      have x0 := hcell 0 _ (by omega) rfl
      have x1 := hcell 1 _ (by omega) rfl
      have x2 := hcell 2 _ (by omega) rfl
      have x3 := hcell 3 _ (by omega) rfl
      have x4 := hcell 4 _ (by omega) rfl
      have x5 := hcell 5 _ (by omega) rfl
      have x6 := hcell 6 _ (by omega) rfl
      have x7 := hcell 7 _ (by omega) rfl
      rw [Nat.add_zero] at x0
      clear hcell
      generalize ga l j = a at *
      have hi0 : (0 : Int) ≤ (j : Int) := by omega
      have hi1 : (j : Int) < (k : Int) := by omega
      go_upto_region 7 with fail
      have HPa := Lib.hid (HP.out.on ((Below.refl _ _).alloc (Nat.le_refl _) (.cells #[.int .i64 a.kind, .string a.key, .slice a.A a.d.length a.c, .int .i64 a.ver, .int .i64 a.at_, .int .i64 a.n, .int .i64 a.id, .int .i64 a.big] 36)))
      have HBa := Lib.hid (Blk.new wi 36 #[.int .i64 a.kind, .string a.key, .slice a.A a.d.length a.c, .int .i64 a.ver, .int .i64 a.at_, .int .i64 a.n, .int .i64 a.id, .int .i64 a.big])
      have hnl : ¬ L.foot wi.heap.size := fun hf => by have := HP.out.l.at_.foot_lt hf; omega
      have hnr : ¬ R.foot wi.heap.size := fun hf => by have := HP.out.r.foot_lt hf; omega
      have HNF := Lib.hid (And.intro hnl hnr)
      have HWL := Lib.hid HP.out.l.size
      have HSI := Lib.hid HP.out.l.inv
      clear x0 x1 x2 x3 x4 x5 x6 x7 HP hnl hnr
      generalize wi.alloc (.cells #[.int .i64 a.kind, .string a.key, .slice a.A a.d.length a.c, .int .i64 a.ver, .int .i64 a.at_, .int .i64 a.n, .int .i64 a.id, .int .i64 a.big] 36) = wa at *
      generalize wi.heap.size = gb at *
      have y0 : wa.cell? ⟨gb, 0, none⟩ = some (.int .i64 a.kind) := HBa.out.cell 0
      have y1 : wa.cell? ⟨gb, 1, none⟩ = some (.string a.key) := HBa.out.cell 1
      have y2 : wa.cell? ⟨gb, 2, none⟩ = some (.slice a.A a.d.length a.c) := HBa.out.cell 2
      have y3 : wa.cell? ⟨gb, 3, none⟩ = some (.int .i64 a.ver) := HBa.out.cell 3
      have y4 : wa.cell? ⟨gb, 4, none⟩ = some (.int .i64 a.at_) := HBa.out.cell 4
      have y5 : wa.cell? ⟨gb, 5, none⟩ = some (.int .i64 a.n) := HBa.out.cell 5
      have y6 : wa.cell? ⟨gb, 6, none⟩ = some (.int .i64 a.id) := HBa.out.cell 6
      have y7 : wa.cell? ⟨gb, 7, none⟩ = some (.int .i64 a.big) := HBa.out.cell 7
      by_cases hk0 : a.kind = 0
      · have d2 := eqt hk0
        clear hk0
        go_upto_region 8 with fail
        have HB0 := Lib.hid (HBa.out.drewN 1)
        have HP0 := Lib.hid (HPa.out.on (below_drewN_ (Below.refl _ _) 1))
        have hy4 : (wa.drewN 1).cell? ⟨gb, 4, none⟩ = some (.int .i64 a.at_) := HB0.out.cell 4
        refine wp_region_T 99 (fun w' => w'.cell? ⟨gb, 4, none⟩ = some (.int .i64 a.at_)) (by kernel_rfl) hy4 (fun hHeld => ?_)
        have e0 : wa.drewN 1 = wa.drew := rfl
        rw [e0] at HB0 HP0
        clear hy4 e0 y0 y1 y2 y3 y4 y5 y6 y7 HBa HPa
        generalize wa.drew = wd at *
        refine wpAnyT_take (i := 0) (oi := _) (v := ?_) rfl (by kernel_rfl) (fun _ _ _ h => h) (Or.inl ⟨by kernel_rfl, ?_⟩) (by assumption) ?_; rotate_left; (focus (intro w hSw; (try dsimp only at hSw); go_simp; (try with_reducible rfl))); (try simp only [Act.put, List.getElem_toArray, List.getElem_cons_zero, List.setIfInBounds_toArray, List.set_cons_zero, List.set_cons_succ])
        refine wpAnyT_take (i := 1) (oi := _) (v := ?_) rfl (by kernel_rfl) (fun _ _ _ h => h) (Or.inl ⟨by kernel_rfl, ?_⟩) (by assumption) ?_; rotate_left; (focus (intro w hSw; (try dsimp only at hSw); go_simp; (try with_reducible rfl))); (try simp only [Act.put, List.getElem_toArray, List.getElem_cons_zero, List.getElem_cons_succ, List.setIfInBounds_toArray, List.set_cons_zero, List.set_cons_succ])
        refine wpAnyT_take (i := 2) (oi := _) (v := ?_) rfl (by kernel_rfl) (fun _ _ _ h => h) (Or.inl ⟨by kernel_rfl, ?_⟩) (by assumption) ?_; rotate_left; (focus (intro w hSw; (try dsimp only at hSw); go_simp; (try with_reducible rfl))); (try simp only [Act.put, List.getElem_toArray, List.getElem_cons_zero, List.getElem_cons_succ, List.setIfInBounds_toArray, List.set_cons_zero, List.set_cons_succ])
        refine wpAnyT_take (i := 3) (oi := _) (v := ?_) rfl (by kernel_rfl) (fun _ _ _ h => h) (Or.inl ⟨by kernel_rfl, ?_⟩) (by assumption) ?_; rotate_left; (focus (intro w hSw; (try dsimp only at hSw); go_simp; (try with_reducible rfl))); (try simp only [Act.put, List.getElem_toArray, List.getElem_cons_zero, List.getElem_cons_succ, List.setIfInBounds_toArray, List.set_cons_zero, List.set_cons_succ])
        refine wpAnyT_take (i := 5) (oi := _) (v := ?_) rfl (by kernel_rfl) (fun _ _ _ h => h) (Or.inl ⟨by kernel_rfl, ?_⟩) (by assumption) ?_; rotate_left; (focus (intro w hSw; (try dsimp only at hSw); go_simp; (try with_reducible rfl))); (try simp only [Act.put, List.getElem_toArray, List.getElem_cons_zero, List.getElem_cons_succ, List.setIfInBounds_toArray, List.set_cons_zero, List.set_cons_succ])
        refine wpAnyT_take (i := 6) (oi := _) (v := ?_) rfl (by kernel_rfl) (fun _ _ _ h => h) (Or.inl ⟨by kernel_rfl, ?_⟩) (by assumption) ?_; rotate_left; (focus (intro w hSw; (try dsimp only at hSw); go_simp; (try with_reducible rfl))); (try simp only [Act.put, List.getElem_toArray, List.getElem_cons_zero, List.getElem_cons_succ, List.setIfInBounds_toArray, List.set_cons_zero, List.set_cons_succ])
        refine wpAnyT_take (i := 7) (oi := _) (v := ?_) rfl (by kernel_rfl) (fun _ _ _ h => h) (Or.inl ⟨by kernel_rfl, ?_⟩) (by assumption) ?_; rotate_left; (focus (intro w hSw; (try dsimp only at hSw); go_simp; (try with_reducible rfl))); (try simp only [Act.put, List.getElem_toArray, List.getElem_cons_zero, List.getElem_cons_succ, List.setIfInBounds_toArray, List.set_cons_zero, List.set_cons_succ])
        refine wpAnyT_take (i := 8) (oi := _) (v := ?_) rfl (by kernel_rfl) (fun _ _ _ h => h) (Or.inl ⟨by kernel_rfl, ?_⟩) (by assumption) ?_; rotate_left; (focus (intro w hSw; (try dsimp only at hSw); go_simp; (try with_reducible rfl))); (try simp only [Act.put, List.getElem_toArray, List.getElem_cons_zero, List.getElem_cons_succ, List.setIfInBounds_toArray, List.set_cons_zero, List.set_cons_succ])
        have HTK := tick_live wd HP0.out.l.at_ HP0.out.l.inv HOK.out.at_
        rw [HP0.out.l.gs] at HTK
        have HTK := Lib.hid HTK
        refine wpAnyT_one (i := 4) (by kernel_rfl) rfl (fun K hK => ?_); go_simp
        refine HTK.out.mono ?_
        rintro e w6 ⟨rfl, hA6, hK6, hI6⟩
        have HP6 := Lib.hid (HP0.out.tickL hA6 hK6 hI6)
        have HB6 := Lib.hid (hK6.blk HB0.out HNF.out.1)
        have hH6 : w6.cell? ⟨gb, 4, none⟩ = some (.int .i64 a.at_) := HB6.out.cell 4
        refine hK.out _ _ (fun _ => hH6) ?_
        clear hK K hA6 hK6 hI6 HTK hHeld HP0 HB0
        (try simp only [Act.put, List.getElem_toArray, List.getElem_cons_zero, List.getElem_cons_succ, List.setIfInBounds_toArray, List.set_cons_zero, List.set_cons_succ])
        have hwf := wf_i64 HOK.out.at_
        have ht0 : 0 ≤ R.now := by rw [HSIM.out.now]; exact HSI.out.t0
        have ht1 : R.now ≤ 1099511627776 := by rw [HSIM.out.now]; exact HSI.out.t1
        have HTR := tickR_calls w6 HP6.out.r hwf.1 hwf.2 ht0 ht1
        rw [HP6.out.rg] at HTR
        have HTR := Lib.hid HTR
        have HSM : Hid (Sim (R.tick a.at_) (L.tick a.at_).pure) := Lib.hid (by rw [pure_tick]; exact HSIM.out.tick _)
        have v1 : (tickE L.pure.now a.at_ != tickE R.now a.at_) = false := nef (by rw [HSIM.out.now])
        refine wpAnyT_one (i := 9) (by kernel_rfl) rfl (fun K hK => ?_); go_simp
        refine HTR.out.mono ?_
        rintro e w7 ⟨rfl, hA7, hK7⟩
        have HP7 := Lib.hid (HP6.out.tickR hA7 hK7)
        have HB7 := Lib.hid (hK7.blk HB6.out HNF.out.2)
        have hH7 : w7.cell? ⟨gb, 4, none⟩ = some (.int .i64 a.at_) := HB7.out.cell 4
        refine hK.out _ _ (fun _ => hH7) ?_
        clear hK K hA7 hK7 HTR hH6
        (try simp only [Act.put, List.getElem_toArray, List.getElem_cons_zero, List.getElem_cons_succ, List.setIfInBounds_toArray, List.set_cons_zero, List.set_cons_succ])
        refine wpAnyT_take (i := 10) (oi := _) (v := ?_) rfl (by kernel_rfl) (fun _ _ _ h => h) (Or.inl ⟨by kernel_rfl, ?_⟩) (by assumption) ?_; rotate_left; (focus (intro w hSw; (try dsimp only at hSw); go_simp; (try with_reducible rfl))); (try simp only [Act.put, List.getElem_toArray, List.getElem_cons_zero, List.getElem_cons_succ, List.setIfInBounds_toArray, List.set_cons_zero, List.set_cons_succ])
        refine wpAnyT_done (by kernel_rfl) ?_ _
        go_wp2
        go_roundw
        case rel => exact ⟨j + 1, L.tick a.at_, R.tick a.at_, by omega, by go_num, Lib.hid (HP7.out.more (Nat.le_succ j)), HSM⟩
        case measure => simp [intOf]; omega
      · have d2 := eqf hk0
        clear hk0
        have HC := Lib.hid (call_loc wa (gs := g) a (HOK.out.below (HPa.out.l.below.mono hB) |>.dat (Nat.le_trans hB HPa.out.l.le)) HPa.out.l.lt)
        unfold Ac.val at HC
        go_wp2_with fail
        refine HC.out.mono ?_
        rintro e wb ⟨Ab, cb, rfl, hDb, hloc, hbb⟩
        have HPb := Lib.hid (HPa.out.on hbb)
        have HCK := Lib.hid (Ac.clOk HOK.out Ab cb)
        have hblk : ∀ y, Ab = some y → 0 < a.data.length → y.block < B ∨ wa.heap.size ≤ y.block := fun y hy h0 => by
          rcases hloc with ⟨h1, h2⟩ | h1
          · rw [h2] at h0
            obtain ⟨b9, off9, e9, hb9, _⟩ := HOK.out.bytes.2.2 h0
            rw [h1, e9] at hy
            injection hy with hy
            rw [← hy]; exact .inl hb9
          · exact .inr (h1 y hy)
        have hDb' : Dat wb g (a.cl Ab cb).A (a.cl Ab cb).c (a.cl Ab cb).d := hDb
        have hblk' : ∀ y, (a.cl Ab cb).A = some y → 0 < (a.cl Ab cb).d.length → y.block < B ∨ wa.heap.size ≤ y.block := hblk
        have hnfa : ∀ i, R.foot i → i < wa.heap.size := fun i hi => HPa.out.r.foot_lt hi
        have HNFA := Lib.hid hnfa
        have HNFL : Hid (∀ i, L.foot i → i < wa.heap.size) := Lib.hid fun i hi => HPa.out.l.at_.foot_lt hi
        have HSRT := Lib.hid HPa.out.l.at_.srt
        clear hDb hblk hloc hbb HC HPa HBa y0 y1 y2 y3 y4 y5 y6 y7 hnfa
        generalize a.cl Ab cb = x at *
        have HDb := Lib.hid hDb'
        have HBL := Lib.hid hblk'
        clear hDb' hblk'
        unfold Cl.val Cl.cells
        go_upto_region 12 with fail
        have hb12 : Below wb.heap.size wb ((wb.alloc (.cells #[.int .i64 x.kind, .string x.key, .slice x.A x.d.length x.c, .int .i64 x.ver, .int .i64 x.at_, .int .i64 x.n, .int .i64 x.id] 34)).alloc (.cells #[.int .i64 x.kind, .string x.key, .slice x.A x.d.length x.c, .int .i64 x.ver, .int .i64 x.at_, .int .i64 x.n, .int .i64 x.id] 34)) := ((Below.refl _ _).alloc (Nat.le_refl _) _).alloc (by simp) _
        have HBc := Lib.hid ((Blk.new wb 34 #[.int .i64 x.kind, .string x.key, .slice x.A x.d.length x.c, .int .i64 x.ver, .int .i64 x.at_, .int .i64 x.n, .int .i64 x.id]).alloc (.cells #[.int .i64 x.kind, .string x.key, .slice x.A x.d.length x.c, .int .i64 x.ver, .int .i64 x.at_, .int .i64 x.n, .int .i64 x.id] 34))
        have hBo := Blk.new (wb.alloc (.cells #[.int .i64 x.kind, .string x.key, .slice x.A x.d.length x.c, .int .i64 x.ver, .int .i64 x.at_, .int .i64 x.n, .int .i64 x.id] 34)) 34 #[.int .i64 x.kind, .string x.key, .slice x.A x.d.length x.c, .int .i64 x.ver, .int .i64 x.at_, .int .i64 x.n, .int .i64 x.id]
        have hz : (wb.alloc (.cells #[.int .i64 x.kind, .string x.key, .slice x.A x.d.length x.c, .int .i64 x.ver, .int .i64 x.at_, .int .i64 x.n, .int .i64 x.id] 34)).heap.size = wb.heap.size + 1 := by simp
        rw [hz] at hBo
        have HBo := Lib.hid hBo
        have HPc := Lib.hid (HPb.out.on hb12)
        have HDc := Lib.hid (HDb.out.below hb12)
        have HBLT : Hid (∀ y, x.A = some y → 0 < x.d.length → y.block < wb.heap.size) := Lib.hid fun y hy h0 => dat_lt HDb.out hy h0
        have hlb := HPb.out.l.lt
        have hsb : ∀ i, L.foot i → i < wb.heap.size := fun i hi => HPb.out.l.at_.foot_lt hi
        have hsr : ∀ i, R.foot i → i < wb.heap.size := fun i hi => HPb.out.r.foot_lt hi
        have hwb := HPb.out.l.size
        have HSB := Lib.hid hsb
        have HSRB := Lib.hid hsr
        have HSA : Hid (∀ y, L.addr y → y.block < wb.heap.size) := Lib.hid fun y hy => at_addr_lt HPb.out.l.at_ hy
        have HSRA : Hid (∀ b, R.addr b → b < wb.heap.size) := Lib.hid fun b hb => HPb.out.r.addr_lt hb
        clear hb12 hBo hz HPb HDb hsb hsr
        generalize ((wb.alloc (.cells #[.int .i64 x.kind, .string x.key, .slice x.A x.d.length x.c, .int .i64 x.ver, .int .i64 x.at_, .int .i64 x.n, .int .i64 x.id] 34)).alloc (.cells #[.int .i64 x.kind, .string x.key, .slice x.A x.d.length x.c, .int .i64 x.ver, .int .i64 x.at_, .int .i64 x.n, .int .i64 x.id] 34)) = w12 at *
        obtain ⟨gc, hgc⟩ : ∃ gc, wb.heap.size = gc := ⟨_, rfl⟩
        rw [hgc] at HBc HBo hlb hwb HSB HSRB HSA HSRA HBLT ⊢
        have hdl := HCK.out.d
        have c2 : w12.cell? ⟨gc, 2, none⟩ = some (.slice x.A x.d.length x.c) := HBc.out.cell 2
        have HBY := Lib.hid HDc.out.bytes
        go_wp2_with fail
        refine (twin_calls w12 HBY.out (Nat.le_refl _) hdl).mono ?_
        rintro e wt ⟨A8, c8, rfl, hc81, hc82, hown8, hbt⟩
        have HPt := Lib.hid (HPc.out.on hbt)
        have HBct := Lib.hid (HBc.out.below hbt HBc.out.lt)
        have HBot := Lib.hid (HBo.out.below hbt HBo.out.lt)
        have HDt := Lib.hid (HDc.out.below hbt)
        have hs12 := HBo.out.lt
        have HO8 := Lib.hid hown8
        have hst := hbt.size
        have HC8 := Lib.hid (And.intro hc81 hc82)
        clear hown8 hbt hc81 hc82 HPc HDc HBY c2 HBc HBo
        have t2 : wt.cell? ⟨gc + 1, 2, none⟩ = some (.slice x.A x.d.length x.c) := HBot.out.cell 2
        have f2 := HBot.out.frozen 2
        go_upto_region 13 with fail
        have hKo : Keep (fun i => i = gc + 1) wt (wt.setCell ⟨gc + 1, 2, none⟩ (.slice A8 x.d.length c8)) := (Keep.refl (fun i => i = gc + 1) wt).setCell (p := ⟨gc + 1, 2, none⟩) (.inl rfl) _
        have HBo13 := Lib.hid (HBot.out.set_ 2 (.slice A8 x.d.length c8))
        have HBc13 := Lib.hid (hKo.blk HBct.out (by omega))
        have hgt : gc + 1 < wt.heap.size := HBot.out.lt
        have HP13 := Lib.hid (HPt.out.off hKo (fun i hi => by
          subst hi
          exact ⟨fun hf => by have := HSB.out _ hf; omega, fun y hy hf => by have := HSA.out _ hy; omega, fun hf => by have := HSRB.out _ hf; omega, fun hf => by have := HSRA.out _ hf; omega, by omega⟩))
        have HO13 := Lib.hid (own_setCell (p := ⟨gc + 1, 2, none⟩) HO8.out hs12 (.slice A8 x.d.length c8))
        have HD13 : Hid (Bytes (wt.setCell ⟨gc + 1, 2, none⟩ (.slice A8 x.d.length c8)) (wt.setCell ⟨gc + 1, 2, none⟩ (.slice A8 x.d.length c8)).heap.size x.A x.d.length x.d) := Lib.hid (.of (reads_apart HDt.out.bytes.2 hKo (fun h0 y hy hf => by have := HBLT.out y hy h0; omega)))
        have ht13 : w12.heap.size ≤ (wt.setCell ⟨gc + 1, 2, none⟩ (.slice A8 x.d.length c8)).heap.size := by simpa using hst
        clear hKo t2 f2 HPt HBct HBot HO8
        generalize wt.setCell ⟨gc + 1, 2, none⟩ (.slice A8 x.d.length c8) = w13 at *
        have HDO : Hid (Dat w13 g A8 c8 x.d) := Lib.hid (Dat.of_own HO13.out (by omega))
        have HCO : Hid (ClOk { x with A := A8, c := c8 }) := Lib.hid ⟨HCK.out.key, HCK.out.d, HCK.out.n, HCK.out.id⟩
        have hdo := do_live w13 (x := { x with A := A8, c := c8 }) HP13.out.l.at_ HP13.out.l.inv (by omega) (by rw [HP13.out.l.gs]; exact HDO.out) HCO.out
        rw [HP13.out.l.gs] at hdo
        unfold Cl.val Cl.cells at hdo
        dsimp only at hdo
        have HDO2 := Lib.hid hdo
        clear hdo HCO HDO
        have o0 : w13.cell? ⟨gc + 1, 0, none⟩ = some (.int .i64 x.kind) := HBo13.out.cell 0
        have o1 : w13.cell? ⟨gc + 1, 1, none⟩ = some (.string x.key) := HBo13.out.cell 1
        have o2 : w13.cell? ⟨gc + 1, 2, none⟩ = some (.slice A8 x.d.length c8) := HBo13.out.cell 2
        have o3 : w13.cell? ⟨gc + 1, 3, none⟩ = some (.int .i64 x.ver) := HBo13.out.cell 3
        have o4 : w13.cell? ⟨gc + 1, 4, none⟩ = some (.int .i64 x.at_) := HBo13.out.cell 4
        have o5 : w13.cell? ⟨gc + 1, 5, none⟩ = some (.int .i64 x.n) := HBo13.out.cell 5
        have o6 : w13.cell? ⟨gc + 1, 6, none⟩ = some (.int .i64 x.id) := HBo13.out.cell 6
        go_wp2_with fail
        refine HDO2.out.mono ?_
        rintro e w14 ⟨L', v, rfl, hr, hs, hi⟩
        replace hr : RepAt w13.heap.size w14 v (L.pure.step x.pure).2 := hr
        have HP14 := Lib.hid (HP13.out.stepL hs hi)
        have HPU : Hid (L'.pure = (L.pure.step x.pure).1) := Lib.hid hs.pure
        have hK14 := hs.keep
        have HBo14 := Lib.hid (hK14.blk HBo13.out (fun hf => by have := HSB.out _ hf; omega))
        have HBc14 := Lib.hid (hK14.blk HBc13.out (fun hf => by have := HSB.out _ hf; omega))
        have HO14 := Lib.hid (hK14.own HO13.out (fun i hi hf => by have := HSB.out _ hf; omega))
        have HD14 : Hid (Bytes w14 w14.heap.size x.A x.d.length x.d) := Lib.hid (.of (reads_apart HD13.out.2 hK14 (fun h0 y hy hf => by
          have h1 := HNFL.out _ hf
          have h2 := HP13.out.l.high _ hf
          rcases HBL.out y hy h0 with h3 | h3 <;> omega)))
        have HLF : Hid (∀ i, L'.foot i → i < gc ∨ w13.heap.size ≤ i) := Lib.hid fun i hi => (hs.foot i hi).imp (HSB.out i) id
        have HLA : Hid (∀ y, L'.addr y → y.block < gc ∨ w13.heap.size ≤ y.block) := Lib.hid fun y hy => (hs.prov y hy).imp (HSA.out y) id
        have HQT : Hid (0 < (L.pure.step x.pure).2.d.length → (∀ i, L'.foot i → i < gc) ∧ ∀ y, L'.addr y → y.block < gc) := Lib.hid fun h0 => by
          have h1 := (step_reply L.pure x.pure).2 (fun e => by rw [e] at h0; exact absurd h0 (by decide))
          have h2 := hs.same (by rcases h1 with h1 | h1; exact .inl h1; exact .inr (.inl h1))
          rw [h2]
          exact ⟨HSB.out, HSA.out⟩
        have hls := (step_reply L.pure x.pure).1
        have hra := hr
        obtain ⟨A9, c9, Al9, cl9, rfl, ho9, hl9⟩ := hr
        have HO9 := Lib.hid ho9
        have hd9 : (L.pure.step x.pure).2.d.length ≤ 9223372036854775807 := by
          obtain ⟨A', c', e', h1, h2, -⟩ := own_slice ho9
          unfold maxLen at h2
          omega
        have hs1314 := hK14.size
        clear hK14 HDO2 o0 o1 o2 o3 o4 o5 o6 HBo13 HBc13 HD13 ho9 hl9
        go_upto_region 14 with fail
        have hb15 : Below w14.heap.size w14 (w14.alloc (.cells #[.int .i64 (L.pure.step x.pure).2.err, .slice A9 (L.pure.step x.pure).2.d.length c9, .int .i64 (L.pure.step x.pure).2.ver, .int .i64 (L.pure.step x.pure).2.born, .int .i64 (L.pure.step x.pure).2.id, .slice Al9 (L.pure.step x.pure).2.list.length cl9, .bool (L.pure.step x.pure).2.more] 43)) := (Below.refl _ _).alloc (Nat.le_refl _) _
        have HB9 := Lib.hid (Blk.new w14 43 #[.int .i64 (L.pure.step x.pure).2.err, .slice A9 (L.pure.step x.pure).2.d.length c9, .int .i64 (L.pure.step x.pure).2.ver, .int .i64 (L.pure.step x.pure).2.born, .int .i64 (L.pure.step x.pure).2.id, .slice Al9 (L.pure.step x.pure).2.list.length cl9, .bool (L.pure.step x.pure).2.more])
        have HP15 := Lib.hid (HP14.out.on hb15)
        have HBo15 := Lib.hid (HBo14.out.below hb15 HBo14.out.lt)
        have HBc15 := Lib.hid (HBc14.out.below hb15 HBc14.out.lt)
        have HO15 := Lib.hid (own_below HO14.out hb15)
        have HO915 := Lib.hid (own_below HO9.out hb15)
        have HD15 := Lib.hid (HD14.out.below hb15 |>.more hb15.size)
        have HR15 := Lib.hid (rep_keep hra (Keep.of_below (F := fun _ => False) hb15) (fun _ _ h => h))
        have hs1415 := hb15.size
        have H9B : Hid (∀ i, (Value.slice A9 (L.pure.step x.pure).2.d.length c9).ownBlock = some i → w13.heap.size ≤ i ∧ i < w14.heap.size) := Lib.hid HO9.out.lt
        have H8B : Hid (∀ i, (Value.slice A8 x.d.length c8).ownBlock = some i → w12.heap.size ≤ i ∧ i < w13.heap.size) := Lib.hid HO13.out.lt
        clear hb15 HP14 HBo14 HBc14 HO14 HD14 hra HO9
        generalize w14.alloc (.cells #[.int .i64 (L.pure.step x.pure).2.err, .slice A9 (L.pure.step x.pure).2.d.length c9, .int .i64 (L.pure.step x.pure).2.ver, .int .i64 (L.pure.step x.pure).2.born, .int .i64 (L.pure.step x.pure).2.id, .slice Al9 (L.pure.step x.pure).2.list.length cl9, .bool (L.pure.step x.pure).2.more] 43) = w15 at *
        obtain ⟨g9, hg9⟩ : ∃ g, w14.heap.size = g := ⟨_, rfl⟩
        rw [hg9] at HB9 H9B hs1314 hs1415 ⊢
        have HOUT : Hid (Out R x.A x.d.length) := Lib.hid fun h0 y hy hf => by
          have h1 := HNFA.out _ hf
          have h2 := HP15.out.rh _ hf
          rcases HBL.out y hy h0 with h3 | h3 <;> omega
        have HDR : Hid (∀ W, Below w15.heap.size w15 W → Calls Tryz.prog 13 #[.pointer (some ⟨gr, 0, none⟩), x.val] W (RetR W base R (L.pure.step x.pure).1 (L.pure.step x.pure).2)) := Lib.hid fun W hW => by
          have h1 := doR_calls W (HP15.out.r.below hW) HSIM.out HSI.out HSRT.out (by omega) ((HD15.out.below hW).more hW.size) HOUT.out HCK.out
          unfold DoR at h1
          rw [HP15.out.rg] at h1
          exact h1
        unfold Cl.val Cl.cells at HDR
        generalize L.pure.step x.pure = st at *
        have HSS : Hid (∀ w', Blk w' g9 43 #[.int .i64 st.2.err, .slice A9 st.2.d.length c9, .int .i64 st.2.ver, .int .i64 st.2.born, .int .i64 st.2.id, .slice Al9 st.2.list.length cl9, .bool st.2.more] → Blk w' gc 34 #[.int .i64 x.kind, .string x.key, .slice x.A x.d.length x.c, .int .i64 x.ver, .int .i64 x.at_, .int .i64 x.n, .int .i64 x.id] → Blk w' (gc + 1) 34 #[.int .i64 x.kind, .string x.key, .slice A8 x.d.length c8, .int .i64 x.ver, .int .i64 x.at_, .int .i64 x.n, .int .i64 x.id] → w'.ownsRow w12.heap.size 5 1 (.slice A8 x.d.length c8) x.d.length (x.d.map byteV) → Bytes w' w'.heap.size x.A x.d.length x.d → (w'.cell? ⟨g9, 0, none⟩ = some (.int .i64 st.2.err) ∧ w'.cell? ⟨g9, 1, none⟩ = some (.slice A9 st.2.d.length c9) ∧ w'.cell? ⟨g9, 2, none⟩ = some (.int .i64 st.2.ver) ∧ w'.cell? ⟨g9, 3, none⟩ = some (.int .i64 st.2.born) ∧ w'.cell? ⟨g9, 4, none⟩ = some (.int .i64 st.2.id) ∧ w'.cell? ⟨g9, 5, none⟩ = some (.slice Al9 st.2.list.length cl9) ∧ w'.cell? ⟨g9, 6, none⟩ = some (.bool st.2.more) ∧ w'.cell? ⟨gc, 0, none⟩ = some (.int .i64 x.kind) ∧ w'.cell? ⟨gc, 1, none⟩ = some (.string x.key) ∧ w'.cell? ⟨gc, 2, none⟩ = some (.slice x.A x.d.length x.c) ∧ w'.cell? ⟨gc, 3, none⟩ = some (.int .i64 x.ver) ∧ w'.cell? ⟨gc, 4, none⟩ = some (.int .i64 x.at_) ∧ w'.cell? ⟨gc, 5, none⟩ = some (.int .i64 x.n) ∧ w'.cell? ⟨gc, 6, none⟩ = some (.int .i64 x.id) ∧ w'.cell? ⟨gc + 1, 2, none⟩ = some (.slice A8 x.d.length c8) ∧ (convert 32 9 (.slice A8 x.d.length c8)).run Tryz.prog w' = .ok (.string ⟨x.d.toArray⟩) w' ∧ (convert 32 9 (.slice x.A x.d.length x.c)).run Tryz.prog w' = .ok (.string ⟨x.d.toArray⟩) w')) := Lib.hid fun w' h1 h2 h3 h4 h5 => ⟨h1.cell 0, h1.cell 1, h1.cell 2, h1.cell 3, h1.cell 4, h1.cell 5, h1.cell 6, h2.cell 0, h2.cell 1, h2.cell 2, h2.cell 3, h2.cell 4, h2.cell 5, h2.cell 6, h3.cell 2, (own_bytes h4).conv Tryz.prog c8 32 5 9 Tryz.underlying32 Tryz.underlying5 Tryz.underlying9, h5.conv Tryz.prog x.c 32 5 9 Tryz.underlying32 Tryz.underlying5 Tryz.underlying9⟩
        have HW0 : Hid (Below w15.heap.size w15 w15.drew) := Lib.hid (below_drewN_ (Below.refl _ _) 1)
        have hH0 := HSS.out w15.drew HB9.out HBc15.out HBo15.out HO15.out HD15.out
        refine wp_region_T 99 (fun w' => w'.cell? ⟨g9, 0, none⟩ = some (.int .i64 st.2.err) ∧ w'.cell? ⟨g9, 1, none⟩ = some (.slice A9 st.2.d.length c9) ∧ w'.cell? ⟨g9, 2, none⟩ = some (.int .i64 st.2.ver) ∧ w'.cell? ⟨g9, 3, none⟩ = some (.int .i64 st.2.born) ∧ w'.cell? ⟨g9, 4, none⟩ = some (.int .i64 st.2.id) ∧ w'.cell? ⟨g9, 5, none⟩ = some (.slice Al9 st.2.list.length cl9) ∧ w'.cell? ⟨g9, 6, none⟩ = some (.bool st.2.more) ∧ w'.cell? ⟨gc, 0, none⟩ = some (.int .i64 x.kind) ∧ w'.cell? ⟨gc, 1, none⟩ = some (.string x.key) ∧ w'.cell? ⟨gc, 2, none⟩ = some (.slice x.A x.d.length x.c) ∧ w'.cell? ⟨gc, 3, none⟩ = some (.int .i64 x.ver) ∧ w'.cell? ⟨gc, 4, none⟩ = some (.int .i64 x.at_) ∧ w'.cell? ⟨gc, 5, none⟩ = some (.int .i64 x.n) ∧ w'.cell? ⟨gc, 6, none⟩ = some (.int .i64 x.id) ∧ w'.cell? ⟨gc + 1, 2, none⟩ = some (.slice A8 x.d.length c8) ∧ (convert 32 9 (.slice A8 x.d.length c8)).run Tryz.prog w' = .ok (.string ⟨x.d.toArray⟩) w' ∧ (convert 32 9 (.slice x.A x.d.length x.c)).run Tryz.prog w' = .ok (.string ⟨x.d.toArray⟩) w') (by kernel_rfl) hH0 (fun hHeld => ?_)
        clear hH0
        generalize w15.drew = wd at *
        refine wpAnyT_take (i := 0) (oi := _) (v := ?_) rfl (by kernel_rfl) (fun _ _ _ h => h) (Or.inl ⟨by kernel_rfl, ?_⟩) (by assumption) ?_; rotate_left; (focus (intro w hSw; (try dsimp only at hSw); go_simp; (try with_reducible rfl))); (try simp only [Act.put, List.getElem_toArray, List.getElem_cons_zero, List.setIfInBounds_toArray, List.set_cons_zero, List.set_cons_succ])
        refine wpAnyT_take (i := 1) (oi := _) (v := ?_) rfl (by kernel_rfl) (fun _ _ _ h => h) (Or.inl ⟨by kernel_rfl, ?_⟩) (by assumption) ?_; rotate_left; (focus (intro w hSw; (try dsimp only at hSw); go_simp; (try with_reducible rfl))); (try simp only [Act.put, List.getElem_toArray, List.getElem_cons_zero, List.getElem_cons_succ, List.setIfInBounds_toArray, List.set_cons_zero, List.set_cons_succ])
        refine wpAnyT_take (i := 2) (oi := _) (v := ?_) rfl (by kernel_rfl) (fun _ _ _ h => h) (Or.inl ⟨by kernel_rfl, ?_⟩) (by assumption) ?_; rotate_left; (focus (intro w hSw; (try dsimp only at hSw); go_simp; (try with_reducible rfl))); (try simp only [Act.put, List.getElem_toArray, List.getElem_cons_zero, List.getElem_cons_succ, List.setIfInBounds_toArray, List.set_cons_zero, List.set_cons_succ])
        refine wpAnyT_one (i := 3) (by kernel_rfl) rfl (fun K hK => ?_); go_simp
        refine (HDR.out _ HW0.out).mono ?_
        rintro e w16 ⟨R', v2, rfl, hr2, hT, hsim2⟩
        have HPd := Lib.hid (HP15.out.on HW0.out)
        have hs15d := HW0.out.size
        have hK16 := hT.keep
        have HP16 := Lib.hid (HPd.out.stepR hT)
        have HSIM2 : Hid (Sim R' L'.pure) := Lib.hid (by rw [HPU.out]; exact hsim2)
        have hn9 : ∀ i, gc ≤ i → ¬ R.foot i := fun i hi hf => by have := HSRB.out _ hf; omega
        have hg9c : gc < g9 := by have := HBc15.out.lt; omega
        have HBo16 := Lib.hid (hK16.blk (HBo15.out.below HW0.out HBo15.out.lt) (hn9 _ (by omega)))
        have HBc16 := Lib.hid (hK16.blk (HBc15.out.below HW0.out HBc15.out.lt) (hn9 _ (by omega)))
        have HB916 := Lib.hid (hK16.blk (HB9.out.below HW0.out HB9.out.lt) (hn9 _ (by omega)))
        have HO16 := Lib.hid (hK16.own (own_below HO15.out HW0.out) (fun i hi => hn9 _ (by omega)))
        have HO916 := Lib.hid (hK16.own (own_below HO915.out HW0.out) (fun i hi => hn9 _ (by omega)))
        have HD16 : Hid (Bytes w16 w16.heap.size x.A x.d.length x.d) := Lib.hid (.of (reads_apart ((HD15.out.below HW0.out).more HW0.out.size).2 hK16 (fun h0 y hy hf => HOUT.out h0 y hy hf)))
        have HR16 := Lib.hid (rep_keep (rep_keep HR15.out (Keep.of_below (F := fun _ => False) HW0.out) (fun _ _ h => h)) hK16 (fun i hi => hn9 _ (by omega)))
        have HRF : Hid (∀ i, R'.foot i → i < gc ∨ w15.heap.size ≤ i) := Lib.hid fun i hi => (hT.grew i hi).imp (HSRB.out i) (Nat.le_trans hs15d)
        have HRA' : Hid (∀ i, R'.addr i → i < gc ∨ w15.heap.size ≤ i) := Lib.hid fun i hi => (hT.prov i hi).imp (HSRA.out i) (Nat.le_trans hs15d)
        have hH16 := HSS.out w16 HB916.out HBc16.out HBo16.out HO16.out HD16.out
        refine hK.out _ _ (fun _ => hH16) ?_
        have HSR := Lib.hid (same_reply w16 HR16.out hr2 (Nat.le_trans hls (by omega)))
        clear hK K hHeld hK16 hsim2 hT hr2 HDR HPd HP15 HBo15 HBc15 HB9 HO15 HO915 HD15 HR15 HW0 hn9
        (try simp only [Act.put, List.getElem_toArray, List.getElem_cons_zero, List.getElem_cons_succ, List.setIfInBounds_toArray, List.set_cons_zero, List.set_cons_succ])
        refine wpAnyT_one (i := 4) (by kernel_rfl) rfl (fun K hK => ?_); go_simp
        refine HSR.out.mono ?_
        rintro e w17 ⟨rfl, hb17⟩
        have HP17 := Lib.hid (HP16.out.on hb17)
        have HBo17 := Lib.hid (HBo16.out.below hb17 HBo16.out.lt)
        have HBc17 := Lib.hid (HBc16.out.below hb17 HBc16.out.lt)
        have HB917 := Lib.hid (HB916.out.below hb17 HB916.out.lt)
        have HO17 := Lib.hid (own_below HO16.out hb17)
        have HO917 := Lib.hid (own_below HO916.out hb17)
        have HD17 := Lib.hid ((HD16.out.below hb17).more hb17.size)
        have hH17 := HSS.out w17 HB917.out HBc17.out HBo17.out HO17.out HD17.out
        refine hK.out _ _ (fun _ => hH17) ?_
        clear hK K hb17 HSR HP16 HBo16 HBc16 HB916 HO16 HO916 HD16 HR16 hH16
        (try simp only [Act.put, List.getElem_toArray, List.getElem_cons_zero, List.getElem_cons_succ, List.setIfInBounds_toArray, List.set_cons_zero, List.set_cons_succ])
        refine wpAnyT_take (i := 5) (oi := _) (v := ?_) rfl (by kernel_rfl) (fun _ _ _ h => h) (Or.inl ⟨by kernel_rfl, ?_⟩) (by assumption) ?_; rotate_left; (focus (intro w hSw; (try dsimp only at hSw); go_simp; (try with_reducible rfl))); (try simp only [Act.put, List.getElem_toArray, List.getElem_cons_zero, List.getElem_cons_succ, List.setIfInBounds_toArray, List.set_cons_zero, List.set_cons_succ])
        refine wpAnyT_take (i := 6) (oi := _) (v := ?_) rfl (by kernel_rfl) (fun _ _ _ h => h) (Or.inl ⟨by kernel_rfl, ?_⟩) (by assumption) ?_; rotate_left; (focus (intro w hSw; (try dsimp only at hSw); go_simp; (try with_reducible rfl))); (try simp only [Act.put, List.getElem_toArray, List.getElem_cons_zero, List.getElem_cons_succ, List.setIfInBounds_toArray, List.set_cons_zero, List.set_cons_succ])
        refine wpAnyT_take (i := 7) (oi := _) (v := ?_) rfl (by kernel_rfl) (fun _ _ _ h => h) (Or.inl ⟨by kernel_rfl, ?_⟩) (by assumption) ?_; rotate_left; (focus (intro w hSw; (try dsimp only at hSw); go_simp; (try with_reducible rfl))); (try simp only [Act.put, List.getElem_toArray, List.getElem_cons_zero, List.getElem_cons_succ, List.setIfInBounds_toArray, List.set_cons_zero, List.set_cons_succ])
        refine wpAnyT_take (i := 8) (oi := _) (v := ?_) rfl (by kernel_rfl) (fun _ _ _ h => h) (Or.inl ⟨by kernel_rfl, ?_⟩) (by assumption) ?_; rotate_left; (focus (intro w hSw; (try dsimp only at hSw); go_simp; (try with_reducible rfl))); (try simp only [Act.put, List.getElem_toArray, List.getElem_cons_zero, List.getElem_cons_succ, List.setIfInBounds_toArray, List.set_cons_zero, List.set_cons_succ])
        refine wpAnyT_take (i := 10) (oi := _) (v := ?_) rfl (by kernel_rfl) (fun _ _ _ h => h) (Or.inl ⟨by kernel_rfl, ?_⟩) (by assumption) ?_; rotate_left; (focus (intro w hSw; (try dsimp only at hSw); go_simp; (try with_reducible rfl))); (try simp only [Act.put, List.getElem_toArray, List.getElem_cons_zero, List.getElem_cons_succ, List.setIfInBounds_toArray, List.set_cons_zero, List.set_cons_succ])
        refine wpAnyT_take (i := 11) (oi := _) (v := ?_) rfl (by kernel_rfl) (fun _ _ _ h => h) (Or.inl ⟨by kernel_rfl, ?_⟩) (by assumption) ?_; rotate_left; (focus (intro w hSw; (try dsimp only at hSw); go_simp; (try with_reducible rfl))); (try simp only [Act.put, List.getElem_toArray, List.getElem_cons_zero, List.getElem_cons_succ, List.setIfInBounds_toArray, List.set_cons_zero, List.set_cons_succ])
        refine wpAnyT_take (i := 9) (oi := _) (v := ?_) rfl (by kernel_rfl) (fun _ _ _ h => h) (Or.inl ⟨by kernel_rfl, ?_⟩) (by assumption) ?_; rotate_left; (focus (intro w hSw; (try dsimp only at hSw); go_simp; (try with_reducible rfl))); (try simp only [Act.put, List.getElem_toArray, List.getElem_cons_zero, List.getElem_cons_succ, List.setIfInBounds_toArray, List.set_cons_zero, List.set_cons_succ])
        refine wpAnyT_take (i := 12) (oi := _) (v := ?_) rfl (by kernel_rfl) (fun _ _ _ h => h) (Or.inl ⟨by kernel_rfl, ?_⟩) (by assumption) ?_; rotate_left; (focus (intro w hSw; (try dsimp only at hSw); go_simp; (try with_reducible rfl))); (try simp only [Act.put, List.getElem_toArray, List.getElem_cons_zero, List.getElem_cons_succ, List.setIfInBounds_toArray, List.set_cons_zero, List.set_cons_succ])
        refine wpAnyT_take (i := 13) (oi := _) (v := ?_) rfl (by kernel_rfl) (fun _ _ _ h => h) (Or.inl ⟨by kernel_rfl, ?_⟩) (by assumption) ?_; rotate_left; (focus (intro w hSw; (try dsimp only at hSw); go_simp; (try with_reducible rfl))); (try simp only [Act.put, List.getElem_toArray, List.getElem_cons_zero, List.getElem_cons_succ, List.setIfInBounds_toArray, List.set_cons_zero, List.set_cons_succ])
        refine wpAnyT_take (i := 14) (oi := _) (v := ?_) rfl (by kernel_rfl) (fun _ _ _ h => h) (Or.inl ⟨by kernel_rfl, ?_⟩) (by assumption) ?_; rotate_left; (focus (intro w hSw; (try dsimp only at hSw); go_simp; (try with_reducible rfl))); (try simp only [Act.put, List.getElem_toArray, List.getElem_cons_zero, List.getElem_cons_succ, List.setIfInBounds_toArray, List.set_cons_zero, List.set_cons_succ])
        refine wpAnyT_done (by kernel_rfl) ?_ _
        clear hH17 HSS
        go_upto_region 16 with fail
        have hd17 : w17.cell? ⟨gc + 1, 2, none⟩ = some (.slice A8 x.d.length c8) := HBo17.out.cell 2
        have HDC1 : Hid (∀ wr, Keep (fun i => 0 < x.d.length ∧ (Value.slice A8 x.d.length c8).ownBlock = some i) w17 wr → wr.cell? ⟨gc + 1, 2, none⟩ = some (.slice A8 x.d.length c8)) := Lib.hid fun wr hk => (hk.blk HBo17.out (fun hf => by have := H8B.out _ hf.2; omega)).cell 2
        go_wp2
        clear hd17
        go_loopw [71] (fun i wr => ∃ (q : Nat) (xs : List Value), q ≤ x.d.length ∧ i = .int .i64 (q : Int) ∧ Hid (wr.ownsRow w12.heap.size 5 1 (.slice A8 x.d.length c8) x.d.length xs) ∧ Hid (∀ p, q ≤ p → xs[p]? = ((x.d : Bs).map byteV)[p]?) ∧ Hid (Keep (fun i => 0 < x.d.length ∧ (Value.slice A8 x.d.length c8).ownBlock = some i) w17 wr)) (fun i _ => x.d.length - (intOf i).toNat)
        case atStart => exact ⟨0, _, Nat.zero_le _, rfl, HO17, Lib.hid (fun _ _ => rfl), Lib.hid (Keep.refl _ _)⟩
        case round =>
          obtain ⟨q, xs, hq, rfl, HX, HPX, HKX⟩ := hrel
          obtain ⟨wj, rfl⟩ : ∃ wj : World, wj = wr := ⟨_, rfl⟩
          have hdr := HDC1.out wj HKX.out
          by_cases hlt2 : q < x.d.length
          · have d2 : decide ((q : Int) < (x.d.length : Int)) = true := dct (by omega)
            obtain ⟨b8, cap8, e8, _, _⟩ := HX.out.form (Nat.lt_of_le_of_lt (Nat.zero_le _) hlt2)
            injection e8 with e8
            subst e8
            have hqd : q < (x.d : Bs).length := hlt2
            have hx : xs[q]? = some (.int .u8 (((x.d : Bs)[q].toNat : Nat) : Int)) := by rw [HPX.out q (Nat.le_refl _), List.getElem?_map, List.getElem?_eq_getElem hqd]; rfl
            have c8' := HX.out.cellAt q (by omega)
            rw [hx] at c8'
            have f8' := HX.out.frozenAt q
            have hi0' : (0 : Int) ≤ (q : Int) := by omega
            have hi1' : (q : Int) < (x.d.length : Int) := by omega
            have HST := Lib.hid (fun u => (HX.out.stored q u).1)
            clear hx
            go_wp2
            go_roundw
            case rel => exact ⟨q + 1, _, by omega, by go_num, Lib.hid (HST.out _), Lib.hid (fun p hp => by rw [List.getElem?_set_ne (by omega)]; exact HPX.out p (by omega)), Lib.hid (HKX.out.setCell (p := ⟨b8, q, none⟩) (.inl ⟨by omega, rfl⟩) _)⟩
            case measure => simp [intOf]; omega
          · obtain rfl : q = x.d.length := by omega
            have d2 : decide ((x.d.length : Int) < (x.d.length : Int)) = false := dcf (by omega)
            clear hdr
            have HP18 := Lib.hid (HP17.out.off HKX.out (fun i hi => by
              have h1 := H8B.out i hi.2
              exact ⟨fun hf => by rcases HLF.out i hf with h | h <;> omega, fun y hy hf => by rcases HLA.out y hy with h | h <;> omega, fun hf => by rcases HRF.out i hf with h | h <;> omega, fun hf => by rcases HRA'.out i hf with h | h <;> omega, by omega⟩))
            have HB918 := Lib.hid (HKX.out.blk HB917.out (fun hf => by have := H8B.out _ hf.2; omega))
            have HO918 := Lib.hid (own_apart HO917.out HKX.out (fun i hi hf => by have := H8B.out _ hf.2; have := H9B.out _ hi; omega))
            clear HKX HPX HX HO17 HB917 HO917 HP17 HBo17 HBc17 HD17 HDC1
            go_upto_region 21 with fail
            have hd18 : wj.cell? ⟨g9, 1, none⟩ = some (.slice A9 st.2.d.length c9) := HB918.out.cell 1
            have HDC2 : Hid (∀ wr, Keep (fun i => 0 < st.2.d.length ∧ (Value.slice A9 st.2.d.length c9).ownBlock = some i) wj wr → wr.cell? ⟨g9, 1, none⟩ = some (.slice A9 st.2.d.length c9)) := Lib.hid fun wr hk => (hk.blk HB918.out (fun hf => by have := H9B.out _ hf.2; omega)).cell 1
            clear d2
            go_wp2
            clear hd18
            have HPJ := HP18
            have HOJ := HO918
            clear HP18 HO918
            obtain ⟨w18, hw18⟩ : ∃ w18, w18 = wj := ⟨_, rfl⟩
            rw [← hw18] at HPJ HOJ HDC2 ⊢
            clear hw18
            go_loopw [85] (fun i wr => ∃ (q : Nat) (xs : List Value), q ≤ st.2.d.length ∧ i = .int .i64 (q : Int) ∧ Hid (wr.ownsRow w13.heap.size 5 1 (.slice A9 st.2.d.length c9) st.2.d.length xs) ∧ Hid (∀ p, q ≤ p → xs[p]? = ((st.2.d : Bs).map byteV)[p]?) ∧ Hid (Keep (fun i => 0 < st.2.d.length ∧ (Value.slice A9 st.2.d.length c9).ownBlock = some i) w18 wr)) (fun i _ => st.2.d.length - (intOf i).toNat)
            case atStart => exact ⟨0, _, Nat.zero_le _, rfl, HOJ, Lib.hid (fun _ _ => rfl), Lib.hid (Keep.refl _ _)⟩
            case round =>
              obtain ⟨q, xs, hq, rfl, HX, HPX, HKX⟩ := hrel
              obtain ⟨wj, rfl⟩ : ∃ wj : World, wj = wr := ⟨_, rfl⟩
              have hdr := HDC2.out wj HKX.out
              by_cases hlt2 : q < st.2.d.length
              · have d2 : decide ((q : Int) < (st.2.d.length : Int)) = true := dct (by omega)
                obtain ⟨b8, cap8, e8, _, _⟩ := HX.out.form (Nat.lt_of_le_of_lt (Nat.zero_le _) hlt2)
                injection e8 with e8
                subst e8
                have hqd : q < (st.2.d : Bs).length := hlt2
                have hx : xs[q]? = some (.int .u8 (((st.2.d : Bs)[q].toNat : Nat) : Int)) := by rw [HPX.out q (Nat.le_refl _), List.getElem?_map, List.getElem?_eq_getElem hqd]; rfl
                have c8' := HX.out.cellAt q (by omega)
                rw [hx] at c8'
                have f8' := HX.out.frozenAt q
                have hi0' : (0 : Int) ≤ (q : Int) := by omega
                have hi1' : (q : Int) < (st.2.d.length : Int) := by omega
                have HST := Lib.hid (fun u => (HX.out.stored q u).1)
                clear hx
                go_wp2
                go_roundw
                case rel => exact ⟨q + 1, _, by omega, by go_num, Lib.hid (HST.out _), Lib.hid (fun p hp => by rw [List.getElem?_set_ne (by omega)]; exact HPX.out p (by omega)), Lib.hid (HKX.out.setCell (p := ⟨b8, q, none⟩) (.inl ⟨by omega, rfl⟩) _)⟩
                case measure => simp [intOf]; omega
              · obtain rfl : q = st.2.d.length := by omega
                have d2 : decide ((st.2.d.length : Int) < (st.2.d.length : Int)) = false := dcf (by omega)
                clear hdr
                have HPK := Lib.hid (HPJ.out.off HKX.out (fun i hi => by
                  have h1 := H9B.out i hi.2
                  have h2 := HQT.out hi.1
                  exact ⟨fun hf => by have := h2.1 i hf; omega, fun y hy hf => by have := h2.2 y hy; omega, fun hf => by rcases HRF.out i hf with h | h <;> omega, fun hf => by rcases HRA'.out i hf with h | h <;> omega, by omega⟩))
                have hsc := same_calls wj HPK.out.l.at_ HPK.out.r HSIM2.out HPK.out.l.inv (by omega)
                rw [HPK.out.l.gs, HPK.out.rg] at hsc
                have HSC := Lib.hid hsc
                clear hsc HKX HPX HX HOJ HPJ HDC2
                go_wp2_with fail
                refine HSC.out.mono ?_
                rintro e w30 ⟨rfl, hb30⟩
                have HP30 := Lib.hid (HPK.out.on hb30)
                clear hb30 HSC HPK
                go_wp2
                go_roundw
                case rel => exact ⟨j + 1, L', R', by omega, by go_num, HP30, HSIM2⟩
                case measure => simp [intOf]; omega
    · have d1 : decide ((j : Int) < (k : Int)) = false := dcf (by omega)
      go_wp2
      go_ret
      exact ⟨rfl, HP.out.l.below⟩
theorem walk {H : Type} {enc : TypeId × Value → H} {W : World} {base : Nat} {v0 : Value} {d0 : DataW H} {p0 : List MemPlace} (g0 : Arg enc Tryz.prog W base 22 v0 d0 p0) :
    Calls Tryz.prog 3 #[v0] W fun e w' => e = .returned (.bool true) ∧ Below W.heap.size W w' := by
  obtain ⟨A, c, l, rfl, hc, hl, hL⟩ := arg_acts g0
  exact body W hL (Nat.le_refl _) hc hl
end Go.Proofs.YtlljpjehalodfaaGreat.lawStorePlays
