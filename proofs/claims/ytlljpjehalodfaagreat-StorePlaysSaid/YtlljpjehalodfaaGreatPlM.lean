/- The document's store: a call (chapter 14): an object got. -/
import Derived.Test.YtlljpjehalodfaaGreatProg
import Derived.Test.YtlljpjehalodfaaGreatPlK
namespace Go.Proofs.YtlljpjehalodfaaGreat
open Go.RowKit
namespace Rf
open St

theorem bytes_mid {w : World} {B c l k : Nat} {A : Option Addr} {d : Bs} (h : Bytes w B A d.length d) (hc : d.length ≤ c) (hl : l + k ≤ d.length) : Bytes w B (cutB A c l) k (midB d l k) := by
  have h1 := (h.cutted (k := l) (by omega) hc).taken (k := k) (by omega)
  unfold cutB midB
  rw [Nat.mul_one]
  exact h1
set_option maxRecDepth 100000 in
set_option maxHeartbeats 16000000 in
theorem doR_3 (w : World) {base n : Nat} {R : RS} {s : PS} {x : Cl} (h : RAt w base R) (hS : Sim R s) (hi : PInv s n) (hs : PSrt s) (hn : n ≤ 1000) (hd : Bytes w w.heap.size x.A x.d.length x.d) (ho : Out R x.A x.d.length) (hx : ClOk x)
    (hk : x.kind = 3) : DoR w base R s x := by
  unfold DoR
  have hu0 : s.step x.pure = (s, s.get x.pure) := by
    have e : x.pure.kind = x.kind := rfl
    rw [kind_step, e]
    rw [if_neg (by omega), if_pos (by omega)]
  have hu1 : s.get x.pure = if s.getE x.pure = 0 then ⟨0, s.getD x.pure, ((mget s.objs x.key).getD po0).ver, ((mget s.objs x.key).getD po0).born, 0, [], false⟩ else bad (s.getE x.pure) := rfl
  have HR := Lib.hid hu0
  have HG := Lib.hid hu1
  have HPE : Hid (s.getE x.pure = if (mget s.objs x.key).isSome = false then 7 else if x.kind = 4 ∧ (x.at_ < 0 ∨ x.n < 0 ∨ (((mget s.objs x.key).getD po0).d.length : Int) < x.at_ ∨ (((mget s.objs x.key).getD po0).d.length : Int) - x.at_ < x.n) then 2 else 0) := Lib.hid rfl
  have HGD : Hid (s.getD x.pure = if x.kind = 4 then midB ((mget s.objs x.key).getD po0).d x.at_.toNat x.n.toNat else ((mget s.objs x.key).getD po0).d) := Lib.hid rfl
  generalize s.getE x.pure = pe at *
  generalize s.getD x.pure = gd at *
  clear hu0 hu1
  have HK0 := Lib.hid hk
  clear hk
  have hxn := hx.n
  generalize s.step x.pure = r at *
  generalize s.get x.pure = rg at *
  have HSIM := Lib.hid hS
  have HI := Lib.hid hi
  have HRS := Lib.hid hs
  have hol : R.objs.length ≤ 1000 := by rw [hS.olen]; exact Nat.le_trans hi.on hn
  have hul : R.ups.length ≤ 1000 := by rw [hS.ups.len]; exact Nat.le_trans hi.un hn
  clear hS hi hs
  have HF0 := (FR.start h hd ho).toX
  unfold Cl.cells rep0 at HF0
  have HF := Lib.hid HF0
  clear HF0 hd ho h
  unfold Cl.val Cl.cells
  go_enter Tryz.func13, Tryz.ntmps13
  go_upto_region 1 with fail
  generalize ((w.alloc (.cells #[.int .i64 x.kind, .string x.key, .slice x.A x.d.length x.c, .int .i64 x.ver, .int .i64 x.at_, .int .i64 x.n, .int .i64 x.id] 34)).alloc (.cells #[.int .i64 0, .slice none 0 0, .int .i64 0, .int .i64 0, .int .i64 0, .slice none 0 0, .bool false] 43)) = w2 at *
  have HAT : Hid (∀ m, Calls Tryz.prog 23 #[.pointer (some ⟨R.g, 0, none⟩), .string x.key] (w2.drewN m) fun e w'' => e = .returned (.int .i64 (R.idxO x.key)) ∧ ∃ m', w'' = w2.drewN m') := Lib.hid fun m => (at_calls (w2.drewN m) (HF.out.at_.drewN m) (Nat.le_trans hol (by omega)) x.key).mono fun e w'' h => ⟨h.1, m, h.2.symm⟩
  have HOP : Hid (∀ m, Calls Tryz.prog 24 #[.pointer (some ⟨R.g, 0, none⟩), .int .i64 x.id] (w2.drewN m) fun e w'' => e = .returned (.int .i64 (R.idxU x.id)) ∧ ∃ m', w'' = w2.drewN m') := Lib.hid fun m => (open_calls (w2.drewN m) (HF.out.at_.drewN m) (Nat.le_trans hul (by omega)) x.id).mono fun e w'' h => ⟨h.1, m, h.2.symm⟩
  have k1 : w2.cell? ⟨w.heap.size, 1, none⟩ = some (.string x.key) := HF.out.b3.cell 1
  have k6 : w2.cell? ⟨w.heap.size, 6, none⟩ = some (.int .i64 x.id) := HF.out.b3.cell 6
  go_quiet (first | (exact HAT.out _) | (exact HOP.out _))
  clear HAT HOP k1 k6
  have HF1 := Lib.hid (HF.out.drewN nq)
  have HIX := Lib.hid (HSIM.out.idxO HRS.out x.key)
  have HIU := Lib.hid (HSIM.out.idxU HRS.out x.id)
  generalize R.idxO x.key = ix at *
  generalize R.idxU x.id = iu at *
  generalize w2.drewN nq = w1 at *
  have k0 : w1.cell? ⟨w.heap.size, 0, none⟩ = some (.int .i64 x.kind) := HF1.out.b3.cell 0
  have k1 : w1.cell? ⟨w.heap.size, 1, none⟩ = some (.string x.key) := HF1.out.b3.cell 1
  have k2 : w1.cell? ⟨w.heap.size, 2, none⟩ = some (.slice x.A x.d.length x.c) := HF1.out.b3.cell 2
  have k3 : w1.cell? ⟨w.heap.size, 3, none⟩ = some (.int .i64 x.ver) := HF1.out.b3.cell 3
  have k4 : w1.cell? ⟨w.heap.size, 4, none⟩ = some (.int .i64 x.at_) := HF1.out.b3.cell 4
  have k5 : w1.cell? ⟨w.heap.size, 5, none⟩ = some (.int .i64 x.n) := HF1.out.b3.cell 5
  have k6 : w1.cell? ⟨w.heap.size, 6, none⟩ = some (.int .i64 x.id) := HF1.out.b3.cell 6
  have e1 : (x.kind == 1) = ((3 : Int) == 1) := by rw [HK0.out]
  have e2 : (x.kind == 2) = ((3 : Int) == 2) := by rw [HK0.out]
  have e3 : (x.kind == 3) = ((3 : Int) == 3) := by rw [HK0.out]
  have e4 : (x.kind == 4) = ((3 : Int) == 4) := by rw [HK0.out]
  have e5 : (x.kind == 5) = ((3 : Int) == 5) := by rw [HK0.out]
  have e6 : (x.kind == 6) = ((3 : Int) == 6) := by rw [HK0.out]
  have e7 : (x.kind == 7) = ((3 : Int) == 7) := by rw [HK0.out]
  have e8 : (x.kind == 8) = ((3 : Int) == 8) := by rw [HK0.out]
  have e9 : (x.kind == 9) = ((3 : Int) == 9) := by rw [HK0.out]
  have e10 : (x.kind == 10) = ((3 : Int) == 10) := by rw [HK0.out]
  have e11 : (x.kind == 11) = ((3 : Int) == 11) := by rw [HK0.out]
  clear HIU
  rcases HIX.out with ⟨rfl, hm⟩ | ⟨i, hi, rfl, hm, hkey⟩
  · have d1 : decide ((-1 : Int) < 0) = true := by decide
    have HRR : Hid (r = (s, bad 7)) := Lib.hid (by rw [HR.out, HG.out, show pe = 7 by rw [HPE.out, hm]; exact if_pos rfl, if_neg (by decide)])
    clear hm HIX
    go_wp2_with fail
    refine (bad_calls w1 7).mono ?_
    rintro e wb ⟨rfl, hbb⟩
    have HXB := Lib.hid (HF1.out.on hbb)
    clear hbb
    unfold errV
    have q0 : wb.cell? ⟨w.heap.size + 1, 0, none⟩ = some (.int .i64 0) := HXB.out.b4.cell 0
    have p0 : wb.frozen? ⟨w.heap.size + 1, 0, none⟩ = false := HXB.out.b4.frozen 0
    have q1 : wb.cell? ⟨w.heap.size + 1, 1, none⟩ = some (.slice none 0 0) := HXB.out.b4.cell 1
    have p1 : wb.frozen? ⟨w.heap.size + 1, 1, none⟩ = false := HXB.out.b4.frozen 1
    have q2 : wb.cell? ⟨w.heap.size + 1, 2, none⟩ = some (.int .i64 0) := HXB.out.b4.cell 2
    have p2 : wb.frozen? ⟨w.heap.size + 1, 2, none⟩ = false := HXB.out.b4.frozen 2
    have q3 : wb.cell? ⟨w.heap.size + 1, 3, none⟩ = some (.int .i64 0) := HXB.out.b4.cell 3
    have p3 : wb.frozen? ⟨w.heap.size + 1, 3, none⟩ = false := HXB.out.b4.frozen 3
    have q4 : wb.cell? ⟨w.heap.size + 1, 4, none⟩ = some (.int .i64 0) := HXB.out.b4.cell 4
    have p4 : wb.frozen? ⟨w.heap.size + 1, 4, none⟩ = false := HXB.out.b4.frozen 4
    have q5 : wb.cell? ⟨w.heap.size + 1, 5, none⟩ = some (.slice none 0 0) := HXB.out.b4.cell 5
    have p5 : wb.frozen? ⟨w.heap.size + 1, 5, none⟩ = false := HXB.out.b4.frozen 5
    have q6 : wb.cell? ⟨w.heap.size + 1, 6, none⟩ = some (.bool false) := HXB.out.b4.cell 6
    have p6 : wb.frozen? ⟨w.heap.size + 1, 6, none⟩ = false := HXB.out.b4.frozen 6
    go_wp2
    obtain ⟨hw, hT, hK⟩ := HXB.out.fin (.int .i64 7) (.slice none 0 0) (.int .i64 0) (.int .i64 0) (.int .i64 0) (.slice none 0 0) (.bool false)
    unfold set7 at hw hT hK
    refine bodyPost_ret (results_cell_row rfl _ _ (w.heap.size + 1) 43 #[(.int .i64 7), (.slice none 0 0), (.int .i64 0), (.int .i64 0), (.int .i64 0), (.slice none 0 0), (.bool false)] (0, 0) _ rfl hw Tryz.underlying43 rfl (by kernel_rfl)) rfl ?_
    exact ⟨_, _, rfl, by rw [HRR.out]; exact rep_plain 7 0 0 0, hT, by rw [HRR.out]; exact HSIM.out⟩
  · have d1 : decide ((i : Int) < 0) = false := dcf (by omega)
    obtain ⟨o, ho⟩ : ∃ o, go R.objs i = o := ⟨_, rfl⟩
    rw [ho] at hm
    have HE : Hid (pe = if x.kind = 4 ∧ (x.at_ < 0 ∨ x.n < 0 ∨ (o.d.length : Int) < x.at_ ∨ (o.d.length : Int) - x.at_ < x.n) then 2 else 0) := Lib.hid (by rw [HPE.out, hm, if_neg (by simp)]; rfl)
    have HGD' : Hid (gd = if x.kind = 4 then midB o.d x.at_.toNat x.n.toNat else o.d) := Lib.hid (by rw [HGD.out, hm]; rfl)
    have HG' : Hid (rg = if pe = 0 then ⟨0, gd, o.ver, o.born, 0, [], false⟩ else bad pe) := Lib.hid (by rw [HG.out, hm]; rfl)
    have HRD := Lib.hid (HF1.out.at_.od o (ho ▸ go_mem hi))
    have hol2 : o.d.length ≤ 262144 := by
      have := HI.out.od _ (mget_mem hm)
      exact this
    have z0 : w1.cell? ⟨R.g, 0, none⟩ = some (.slice R.AO R.objs.length R.cO) := HF1.out.at_.blk.cell 0
    obtain ⟨b, off, e0, hbB, hcell⟩ := o_at HF1.out.at_.o_reads hi
    rw [ho] at hcell
    have x0 := hcell 0 _ (by omega) rfl
    have x1 := hcell 1 _ (by omega) rfl
    have x2 := hcell 2 _ (by omega) rfl
    have x3 := hcell 3 _ (by omega) rfl
    rw [Nat.add_zero] at x0
    rw [e0] at z0
    have hi0 : (0 : Int) ≤ (i : Int) := by omega
    have hi1 : (i : Int) < (R.objs.length : Int) := by omega
    clear hcell hm HIX hkey HGD HG HPE
    go_upto_region 22 with fail
    have HB8 := Lib.hid (Blk.new w1 68 #[.string o.key, .slice o.A o.d.length o.c, .int .i64 o.ver, .int .i64 o.born])
    have hb3 : Below w1.heap.size w1 (w1.alloc (.cells #[.string o.key, .slice o.A o.d.length o.c, .int .i64 o.ver, .int .i64 o.born] 68)) := (Below.refl _ _).alloc (Nat.le_refl _) _
    have HF3 := Lib.hid (HF1.out.on hb3)
    have HB13 := Lib.hid hb3
    have HBY := Lib.hid ((HRD.out.by_.below hb3).more hb3.size)
    have hoc := HRD.out.len
    clear x0 x1 x2 x3 z0 hb3 e0 d1 k0 k1 k2 k3 k4 k5 k6
    generalize w1.alloc (.cells #[.string o.key, .slice o.A o.d.length o.c, .int .i64 o.ver, .int .i64 o.born] 68) = w3 at *
    obtain ⟨g8, hg8⟩ : ∃ g8, w1.heap.size = g8 := ⟨_, rfl⟩
    rw [hg8] at HB8 ⊢
    have k0 : w3.cell? ⟨w.heap.size, 0, none⟩ = some (.int .i64 x.kind) := HF3.out.b3.cell 0
    have k1 : w3.cell? ⟨w.heap.size, 1, none⟩ = some (.string x.key) := HF3.out.b3.cell 1
    have k2 : w3.cell? ⟨w.heap.size, 2, none⟩ = some (.slice x.A x.d.length x.c) := HF3.out.b3.cell 2
    have k3 : w3.cell? ⟨w.heap.size, 3, none⟩ = some (.int .i64 x.ver) := HF3.out.b3.cell 3
    have k4 : w3.cell? ⟨w.heap.size, 4, none⟩ = some (.int .i64 x.at_) := HF3.out.b3.cell 4
    have k5 : w3.cell? ⟨w.heap.size, 5, none⟩ = some (.int .i64 x.n) := HF3.out.b3.cell 5
    have k6 : w3.cell? ⟨w.heap.size, 6, none⟩ = some (.int .i64 x.id) := HF3.out.b3.cell 6
    have HRR : Hid (r = (s, ⟨0, o.d, o.ver, o.born, 0, [], false⟩)) := Lib.hid (by rw [HR.out, HG'.out, show pe = 0 by rw [HE.out, if_neg (by rw [HK0.out]; rintro ⟨h, -⟩; omega)], if_pos rfl, HGD'.out, if_neg (by rw [HK0.out]; decide)])
    have HTW : Hid (∀ W, Below w3.heap.size w3 W → Calls Tryz.prog 10 #[.slice o.A o.d.length o.c] W fun e w' => ∃ A' c', e = .returned (.slice A' o.d.length c') ∧ w'.ownsRow W.heap.size 5 1 (.slice A' o.d.length c') o.d.length (o.d.map byteV) ∧ Below W.heap.size W w') := Lib.hid fun W hW => (twin_calls W (HBY.out.below hW) hW.size (by omega)).mono fun e w' ⟨A', c', h1, _, _, h4, h5⟩ => ⟨A', c', h1, h4, h5⟩
    have HDL : Hid (o.d.length = o.d.length) := Lib.hid rfl
    clear HR HG' HE HGD'
    go_upto_region 26 with fail
    have HSZ := Lib.hid HF3.out.size
    (try clear k0 k1 k2 k3 k4 k5 k6)
    clear e1 e2 e3 e4 e5 e6 e7 e8 e9 e10 e11
    have Hk : Hid (∀ W, Below w3.heap.size w3 W → W.cell? ⟨g8, 1, none⟩ = some (.slice o.A o.d.length o.c) ∧ W.cell? ⟨g8, 2, none⟩ = some (.int .i64 o.ver) ∧ W.cell? ⟨g8, 3, none⟩ = some (.int .i64 o.born)) := Lib.hid fun W hW => ⟨(HB8.out.below hW HB8.out.lt).cell 1, (HB8.out.below hW HB8.out.lt).cell 2, (HB8.out.below hW HB8.out.lt).cell 3⟩
    refine wp_region_T 8 (fun w' => w'.cell? ⟨g8, 1, none⟩ = some (.slice o.A o.d.length o.c) ∧ w'.cell? ⟨g8, 2, none⟩ = some (.int .i64 o.ver) ∧ w'.cell? ⟨g8, 3, none⟩ = some (.int .i64 o.born)) (by kernel_rfl) (Hk.out _ (below_drewN_ (Below.refl _ _) 1)) (fun hHeld => ?_)
    have HW0 : Hid (Below w3.heap.size w3 w3.drew) := Lib.hid (below_drewN_ (Below.refl _ _) 1)
    generalize w3.drew = wd at *
    refine wpAnyT_take (i := 0) (oi := _) (v := ?_) rfl (by kernel_rfl) (fun _ _ _ h => h) (Or.inl ⟨by kernel_rfl, ?_⟩) (by assumption) ?_; rotate_left; (focus (intro w hSw; (try dsimp only at hSw); go_simp; (try with_reducible rfl))); (try simp only [Act.put, List.getElem_toArray, List.getElem_cons_zero, List.setIfInBounds_toArray, List.set_cons_zero, List.set_cons_succ])
    refine wpAnyT_take (i := 1) (oi := _) (v := ?_) rfl (by kernel_rfl) (fun _ _ _ h => h) (Or.inl ⟨by kernel_rfl, ?_⟩) (by assumption) ?_; rotate_left; (focus (intro w hSw; (try dsimp only at hSw); go_simp; (try with_reducible rfl))); (try simp only [Act.put, List.getElem_toArray, List.getElem_cons_zero, List.getElem_cons_succ, List.setIfInBounds_toArray, List.set_cons_zero, List.set_cons_succ])
    refine wpAnyT_take (i := 3) (oi := _) (v := ?_) rfl (by kernel_rfl) (fun _ _ _ h => h) (Or.inl ⟨by kernel_rfl, ?_⟩) (by assumption) ?_; rotate_left; (focus (intro w hSw; (try dsimp only at hSw); go_simp; (try with_reducible rfl))); (try simp only [Act.put, List.getElem_toArray, List.getElem_cons_zero, List.getElem_cons_succ, List.setIfInBounds_toArray, List.set_cons_zero, List.set_cons_succ])
    refine wpAnyT_take (i := 4) (oi := _) (v := ?_) rfl (by kernel_rfl) (fun _ _ _ h => h) (Or.inl ⟨by kernel_rfl, ?_⟩) (by assumption) ?_; rotate_left; (focus (intro w hSw; (try dsimp only at hSw); go_simp; (try with_reducible rfl))); (try simp only [Act.put, List.getElem_toArray, List.getElem_cons_zero, List.getElem_cons_succ, List.setIfInBounds_toArray, List.set_cons_zero, List.set_cons_succ])
    refine wpAnyT_take (i := 5) (oi := _) (v := ?_) rfl (by kernel_rfl) (fun _ _ _ h => h) (Or.inl ⟨by kernel_rfl, ?_⟩) (by assumption) ?_; rotate_left; (focus (intro w hSw; (try dsimp only at hSw); go_simp; (try with_reducible rfl))); (try simp only [Act.put, List.getElem_toArray, List.getElem_cons_zero, List.getElem_cons_succ, List.setIfInBounds_toArray, List.set_cons_zero, List.set_cons_succ])
    refine wpAnyT_take (i := 6) (oi := _) (v := ?_) rfl (by kernel_rfl) (fun _ _ _ h => h) (Or.inl ⟨by kernel_rfl, ?_⟩) (by assumption) ?_; rotate_left; (focus (intro w hSw; (try dsimp only at hSw); go_simp; (try with_reducible rfl))); (try simp only [Act.put, List.getElem_toArray, List.getElem_cons_zero, List.getElem_cons_succ, List.setIfInBounds_toArray, List.set_cons_zero, List.set_cons_succ])
    refine wpAnyT_one (i := 2) (by kernel_rfl) rfl (fun K hK => ?_); go_simp
    refine (HTW.out _ HW0.out).mono ?_
    rintro e w6 ⟨A6, c6, rfl, hown6, hb6⟩
    have hb06 := HW0.out.trans (hb6.mono HW0.out.size)
    have hH6 := Hk.out _ hb06
    have HF6 := Lib.hid (HF3.out.on hb06)
    have HO6 := Lib.hid hown6
    have hs0 := HW0.out.size
    refine hK.out _ _ (fun _ => hH6) ?_
    clear hK K hHeld hown6 hb6 hb06 Hk
    (try simp only [Act.put, List.getElem_toArray, List.getElem_cons_zero, List.getElem_cons_succ, List.setIfInBounds_toArray, List.set_cons_zero, List.set_cons_succ])
    refine wpAnyT_take (i := 7) (oi := _) (v := ?_) rfl (by kernel_rfl) (fun _ _ _ h => h) (Or.inl ⟨by kernel_rfl, ?_⟩) (by assumption) ?_; rotate_left; (focus (intro w hSw; (try dsimp only at hSw); go_simp; (try with_reducible rfl))); (try simp only [Act.put, List.getElem_toArray, List.getElem_cons_zero, List.getElem_cons_succ, List.setIfInBounds_toArray, List.set_cons_zero, List.set_cons_succ])
    have q0 : w6.cell? ⟨w.heap.size + 1, 0, none⟩ = some (.int .i64 0) := HF6.out.b4.cell 0
    have p0 : w6.frozen? ⟨w.heap.size + 1, 0, none⟩ = false := HF6.out.b4.frozen 0
    have q1 : w6.cell? ⟨w.heap.size + 1, 1, none⟩ = some (.slice none 0 0) := HF6.out.b4.cell 1
    have p1 : w6.frozen? ⟨w.heap.size + 1, 1, none⟩ = false := HF6.out.b4.frozen 1
    have q2 : w6.cell? ⟨w.heap.size + 1, 2, none⟩ = some (.int .i64 0) := HF6.out.b4.cell 2
    have p2 : w6.frozen? ⟨w.heap.size + 1, 2, none⟩ = false := HF6.out.b4.frozen 2
    have q3 : w6.cell? ⟨w.heap.size + 1, 3, none⟩ = some (.int .i64 0) := HF6.out.b4.cell 3
    have p3 : w6.frozen? ⟨w.heap.size + 1, 3, none⟩ = false := HF6.out.b4.frozen 3
    have q4 : w6.cell? ⟨w.heap.size + 1, 4, none⟩ = some (.int .i64 0) := HF6.out.b4.cell 4
    have p4 : w6.frozen? ⟨w.heap.size + 1, 4, none⟩ = false := HF6.out.b4.frozen 4
    have q5 : w6.cell? ⟨w.heap.size + 1, 5, none⟩ = some (.slice none 0 0) := HF6.out.b4.cell 5
    have p5 : w6.frozen? ⟨w.heap.size + 1, 5, none⟩ = false := HF6.out.b4.frozen 5
    have q6 : w6.cell? ⟨w.heap.size + 1, 6, none⟩ = some (.bool false) := HF6.out.b4.cell 6
    have p6 : w6.frozen? ⟨w.heap.size + 1, 6, none⟩ = false := HF6.out.b4.frozen 6
    refine wpAnyT_one (i := 8) (by kernel_rfl) rfl (fun K hK => ?_); go_simp
    refine hK.out _ _ (fun h => absurd rfl h) (wpAnyT_done (by kernel_rfl) ?_ _)
    clear hK K
    go_wp2
    obtain ⟨hw, hT, hK⟩ := HF6.out.fin (.int .i64 0) (.slice A6 o.d.length c6) (.int .i64 o.ver) (.int .i64 o.born) (.int .i64 0) (.slice none 0 0) (.bool false)
    unfold set7 at hw hT hK
    refine bodyPost_ret (results_cell_row rfl _ _ (w.heap.size + 1) 43 #[(.int .i64 0), (.slice A6 o.d.length c6), (.int .i64 o.ver), (.int .i64 o.born), (.int .i64 0), (.slice none 0 0), (.bool false)] (0, 0) _ rfl hw Tryz.underlying43 rfl (by kernel_rfl)) rfl ?_
    refine ⟨_, _, rfl, ?_, hT, by rw [HRR.out]; exact HSIM.out⟩
    rw [HRR.out]
    refine ⟨A6, c6, none, 0, by show _ = Value.agg #[.int .i64 0, .slice A6 (o.d : Bs).length c6, _, _, _, _, _]; (try rw [HDL.out]); rfl, ?_, World.ownsRow_nil _ _ _ _⟩
    show World.ownsRow _ _ _ 1 (.slice A6 (o.d : Bs).length c6) (o.d : Bs).length _
    (try rw [HDL.out])
    have hsz := HSZ.out
    exact own_base (hK.own HO6.out (fun i hi e => by omega)) (by omega)
set_option maxRecDepth 100000 in
set_option maxHeartbeats 16000000 in
theorem doR_4 (w : World) {base n : Nat} {R : RS} {s : PS} {x : Cl} (h : RAt w base R) (hS : Sim R s) (hi : PInv s n) (hs : PSrt s) (hn : n ≤ 1000) (hd : Bytes w w.heap.size x.A x.d.length x.d) (ho : Out R x.A x.d.length) (hx : ClOk x)
    (hk : x.kind = 4) : DoR w base R s x := by
  unfold DoR
  have hu0 : s.step x.pure = (s, s.get x.pure) := by
    have e : x.pure.kind = x.kind := rfl
    rw [kind_step, e]
    rw [if_neg (by omega), if_pos (by omega)]
  have hu1 : s.get x.pure = if s.getE x.pure = 0 then ⟨0, s.getD x.pure, ((mget s.objs x.key).getD po0).ver, ((mget s.objs x.key).getD po0).born, 0, [], false⟩ else bad (s.getE x.pure) := rfl
  have HR := Lib.hid hu0
  have HG := Lib.hid hu1
  have HPE : Hid (s.getE x.pure = if (mget s.objs x.key).isSome = false then 7 else if x.kind = 4 ∧ (x.at_ < 0 ∨ x.n < 0 ∨ (((mget s.objs x.key).getD po0).d.length : Int) < x.at_ ∨ (((mget s.objs x.key).getD po0).d.length : Int) - x.at_ < x.n) then 2 else 0) := Lib.hid rfl
  have HGD : Hid (s.getD x.pure = if x.kind = 4 then midB ((mget s.objs x.key).getD po0).d x.at_.toNat x.n.toNat else ((mget s.objs x.key).getD po0).d) := Lib.hid rfl
  generalize s.getE x.pure = pe at *
  generalize s.getD x.pure = gd at *
  clear hu0 hu1
  have HK0 := Lib.hid hk
  clear hk
  have hxn := hx.n
  generalize s.step x.pure = r at *
  generalize s.get x.pure = rg at *
  have HSIM := Lib.hid hS
  have HI := Lib.hid hi
  have HRS := Lib.hid hs
  have hol : R.objs.length ≤ 1000 := by rw [hS.olen]; exact Nat.le_trans hi.on hn
  have hul : R.ups.length ≤ 1000 := by rw [hS.ups.len]; exact Nat.le_trans hi.un hn
  clear hS hi hs
  have HF0 := (FR.start h hd ho).toX
  unfold Cl.cells rep0 at HF0
  have HF := Lib.hid HF0
  clear HF0 hd ho h
  unfold Cl.val Cl.cells
  go_enter Tryz.func13, Tryz.ntmps13
  go_upto_region 1 with fail
  generalize ((w.alloc (.cells #[.int .i64 x.kind, .string x.key, .slice x.A x.d.length x.c, .int .i64 x.ver, .int .i64 x.at_, .int .i64 x.n, .int .i64 x.id] 34)).alloc (.cells #[.int .i64 0, .slice none 0 0, .int .i64 0, .int .i64 0, .int .i64 0, .slice none 0 0, .bool false] 43)) = w2 at *
  have HAT : Hid (∀ m, Calls Tryz.prog 23 #[.pointer (some ⟨R.g, 0, none⟩), .string x.key] (w2.drewN m) fun e w'' => e = .returned (.int .i64 (R.idxO x.key)) ∧ ∃ m', w'' = w2.drewN m') := Lib.hid fun m => (at_calls (w2.drewN m) (HF.out.at_.drewN m) (Nat.le_trans hol (by omega)) x.key).mono fun e w'' h => ⟨h.1, m, h.2.symm⟩
  have HOP : Hid (∀ m, Calls Tryz.prog 24 #[.pointer (some ⟨R.g, 0, none⟩), .int .i64 x.id] (w2.drewN m) fun e w'' => e = .returned (.int .i64 (R.idxU x.id)) ∧ ∃ m', w'' = w2.drewN m') := Lib.hid fun m => (open_calls (w2.drewN m) (HF.out.at_.drewN m) (Nat.le_trans hul (by omega)) x.id).mono fun e w'' h => ⟨h.1, m, h.2.symm⟩
  have k1 : w2.cell? ⟨w.heap.size, 1, none⟩ = some (.string x.key) := HF.out.b3.cell 1
  have k6 : w2.cell? ⟨w.heap.size, 6, none⟩ = some (.int .i64 x.id) := HF.out.b3.cell 6
  go_quiet (first | (exact HAT.out _) | (exact HOP.out _))
  clear HAT HOP k1 k6
  have HF1 := Lib.hid (HF.out.drewN nq)
  have HIX := Lib.hid (HSIM.out.idxO HRS.out x.key)
  have HIU := Lib.hid (HSIM.out.idxU HRS.out x.id)
  generalize R.idxO x.key = ix at *
  generalize R.idxU x.id = iu at *
  generalize w2.drewN nq = w1 at *
  have k0 : w1.cell? ⟨w.heap.size, 0, none⟩ = some (.int .i64 x.kind) := HF1.out.b3.cell 0
  have k1 : w1.cell? ⟨w.heap.size, 1, none⟩ = some (.string x.key) := HF1.out.b3.cell 1
  have k2 : w1.cell? ⟨w.heap.size, 2, none⟩ = some (.slice x.A x.d.length x.c) := HF1.out.b3.cell 2
  have k3 : w1.cell? ⟨w.heap.size, 3, none⟩ = some (.int .i64 x.ver) := HF1.out.b3.cell 3
  have k4 : w1.cell? ⟨w.heap.size, 4, none⟩ = some (.int .i64 x.at_) := HF1.out.b3.cell 4
  have k5 : w1.cell? ⟨w.heap.size, 5, none⟩ = some (.int .i64 x.n) := HF1.out.b3.cell 5
  have k6 : w1.cell? ⟨w.heap.size, 6, none⟩ = some (.int .i64 x.id) := HF1.out.b3.cell 6
  have e1 : (x.kind == 1) = ((4 : Int) == 1) := by rw [HK0.out]
  have e2 : (x.kind == 2) = ((4 : Int) == 2) := by rw [HK0.out]
  have e3 : (x.kind == 3) = ((4 : Int) == 3) := by rw [HK0.out]
  have e4 : (x.kind == 4) = ((4 : Int) == 4) := by rw [HK0.out]
  have e5 : (x.kind == 5) = ((4 : Int) == 5) := by rw [HK0.out]
  have e6 : (x.kind == 6) = ((4 : Int) == 6) := by rw [HK0.out]
  have e7 : (x.kind == 7) = ((4 : Int) == 7) := by rw [HK0.out]
  have e8 : (x.kind == 8) = ((4 : Int) == 8) := by rw [HK0.out]
  have e9 : (x.kind == 9) = ((4 : Int) == 9) := by rw [HK0.out]
  have e10 : (x.kind == 10) = ((4 : Int) == 10) := by rw [HK0.out]
  have e11 : (x.kind == 11) = ((4 : Int) == 11) := by rw [HK0.out]
  clear HIU
  rcases HIX.out with ⟨rfl, hm⟩ | ⟨i, hi, rfl, hm, hkey⟩
  · have d1 : decide ((-1 : Int) < 0) = true := by decide
    have HRR : Hid (r = (s, bad 7)) := Lib.hid (by rw [HR.out, HG.out, show pe = 7 by rw [HPE.out, hm]; exact if_pos rfl, if_neg (by decide)])
    clear hm HIX
    go_wp2_with fail
    refine (bad_calls w1 7).mono ?_
    rintro e wb ⟨rfl, hbb⟩
    have HXB := Lib.hid (HF1.out.on hbb)
    clear hbb
    unfold errV
    have q0 : wb.cell? ⟨w.heap.size + 1, 0, none⟩ = some (.int .i64 0) := HXB.out.b4.cell 0
    have p0 : wb.frozen? ⟨w.heap.size + 1, 0, none⟩ = false := HXB.out.b4.frozen 0
    have q1 : wb.cell? ⟨w.heap.size + 1, 1, none⟩ = some (.slice none 0 0) := HXB.out.b4.cell 1
    have p1 : wb.frozen? ⟨w.heap.size + 1, 1, none⟩ = false := HXB.out.b4.frozen 1
    have q2 : wb.cell? ⟨w.heap.size + 1, 2, none⟩ = some (.int .i64 0) := HXB.out.b4.cell 2
    have p2 : wb.frozen? ⟨w.heap.size + 1, 2, none⟩ = false := HXB.out.b4.frozen 2
    have q3 : wb.cell? ⟨w.heap.size + 1, 3, none⟩ = some (.int .i64 0) := HXB.out.b4.cell 3
    have p3 : wb.frozen? ⟨w.heap.size + 1, 3, none⟩ = false := HXB.out.b4.frozen 3
    have q4 : wb.cell? ⟨w.heap.size + 1, 4, none⟩ = some (.int .i64 0) := HXB.out.b4.cell 4
    have p4 : wb.frozen? ⟨w.heap.size + 1, 4, none⟩ = false := HXB.out.b4.frozen 4
    have q5 : wb.cell? ⟨w.heap.size + 1, 5, none⟩ = some (.slice none 0 0) := HXB.out.b4.cell 5
    have p5 : wb.frozen? ⟨w.heap.size + 1, 5, none⟩ = false := HXB.out.b4.frozen 5
    have q6 : wb.cell? ⟨w.heap.size + 1, 6, none⟩ = some (.bool false) := HXB.out.b4.cell 6
    have p6 : wb.frozen? ⟨w.heap.size + 1, 6, none⟩ = false := HXB.out.b4.frozen 6
    go_wp2
    obtain ⟨hw, hT, hK⟩ := HXB.out.fin (.int .i64 7) (.slice none 0 0) (.int .i64 0) (.int .i64 0) (.int .i64 0) (.slice none 0 0) (.bool false)
    unfold set7 at hw hT hK
    refine bodyPost_ret (results_cell_row rfl _ _ (w.heap.size + 1) 43 #[(.int .i64 7), (.slice none 0 0), (.int .i64 0), (.int .i64 0), (.int .i64 0), (.slice none 0 0), (.bool false)] (0, 0) _ rfl hw Tryz.underlying43 rfl (by kernel_rfl)) rfl ?_
    exact ⟨_, _, rfl, by rw [HRR.out]; exact rep_plain 7 0 0 0, hT, by rw [HRR.out]; exact HSIM.out⟩
  · have d1 : decide ((i : Int) < 0) = false := dcf (by omega)
    obtain ⟨o, ho⟩ : ∃ o, go R.objs i = o := ⟨_, rfl⟩
    rw [ho] at hm
    have HE : Hid (pe = if x.kind = 4 ∧ (x.at_ < 0 ∨ x.n < 0 ∨ (o.d.length : Int) < x.at_ ∨ (o.d.length : Int) - x.at_ < x.n) then 2 else 0) := Lib.hid (by rw [HPE.out, hm, if_neg (by simp)]; rfl)
    have HGD' : Hid (gd = if x.kind = 4 then midB o.d x.at_.toNat x.n.toNat else o.d) := Lib.hid (by rw [HGD.out, hm]; rfl)
    have HG' : Hid (rg = if pe = 0 then ⟨0, gd, o.ver, o.born, 0, [], false⟩ else bad pe) := Lib.hid (by rw [HG.out, hm]; rfl)
    have HRD := Lib.hid (HF1.out.at_.od o (ho ▸ go_mem hi))
    have hol2 : o.d.length ≤ 262144 := by
      have := HI.out.od _ (mget_mem hm)
      exact this
    have z0 : w1.cell? ⟨R.g, 0, none⟩ = some (.slice R.AO R.objs.length R.cO) := HF1.out.at_.blk.cell 0
    obtain ⟨b, off, e0, hbB, hcell⟩ := o_at HF1.out.at_.o_reads hi
    rw [ho] at hcell
    have x0 := hcell 0 _ (by omega) rfl
    have x1 := hcell 1 _ (by omega) rfl
    have x2 := hcell 2 _ (by omega) rfl
    have x3 := hcell 3 _ (by omega) rfl
    rw [Nat.add_zero] at x0
    rw [e0] at z0
    have hi0 : (0 : Int) ≤ (i : Int) := by omega
    have hi1 : (i : Int) < (R.objs.length : Int) := by omega
    clear hcell hm HIX hkey HGD HG HPE
    go_upto_region 22 with fail
    have HB8 := Lib.hid (Blk.new w1 68 #[.string o.key, .slice o.A o.d.length o.c, .int .i64 o.ver, .int .i64 o.born])
    have hb3 : Below w1.heap.size w1 (w1.alloc (.cells #[.string o.key, .slice o.A o.d.length o.c, .int .i64 o.ver, .int .i64 o.born] 68)) := (Below.refl _ _).alloc (Nat.le_refl _) _
    have HF3 := Lib.hid (HF1.out.on hb3)
    have HB13 := Lib.hid hb3
    have HBY := Lib.hid ((HRD.out.by_.below hb3).more hb3.size)
    have hoc := HRD.out.len
    clear x0 x1 x2 x3 z0 hb3 e0 d1 k0 k1 k2 k3 k4 k5 k6
    generalize w1.alloc (.cells #[.string o.key, .slice o.A o.d.length o.c, .int .i64 o.ver, .int .i64 o.born] 68) = w3 at *
    obtain ⟨g8, hg8⟩ : ∃ g8, w1.heap.size = g8 := ⟨_, rfl⟩
    rw [hg8] at HB8 ⊢
    have k0 : w3.cell? ⟨w.heap.size, 0, none⟩ = some (.int .i64 x.kind) := HF3.out.b3.cell 0
    have k1 : w3.cell? ⟨w.heap.size, 1, none⟩ = some (.string x.key) := HF3.out.b3.cell 1
    have k2 : w3.cell? ⟨w.heap.size, 2, none⟩ = some (.slice x.A x.d.length x.c) := HF3.out.b3.cell 2
    have k3 : w3.cell? ⟨w.heap.size, 3, none⟩ = some (.int .i64 x.ver) := HF3.out.b3.cell 3
    have k4 : w3.cell? ⟨w.heap.size, 4, none⟩ = some (.int .i64 x.at_) := HF3.out.b3.cell 4
    have k5 : w3.cell? ⟨w.heap.size, 5, none⟩ = some (.int .i64 x.n) := HF3.out.b3.cell 5
    have k6 : w3.cell? ⟨w.heap.size, 6, none⟩ = some (.int .i64 x.id) := HF3.out.b3.cell 6
    have c8 : w3.cell? ⟨g8, 1, none⟩ = some (.slice o.A o.d.length o.c) := HB8.out.cell 1
    have f8 := HB8.out.frozen 1
    by_cases h1 : x.at_ < 0
    · have d1 := dct h1
      have HRR : Hid (r = (s, bad 2)) := Lib.hid (by rw [HR.out, HG'.out, show pe = 2 by rw [HE.out, if_pos ⟨HK0.out, .inl h1⟩], if_neg (by decide)])
      clear HR HG' HE HGD'
      go_wp2_with fail
      refine (bad_calls w3 2).mono ?_
      rintro e wb ⟨rfl, hbb⟩
      have HXB := Lib.hid (HF3.out.on hbb)
      clear hbb
      unfold errV
      have q0 : wb.cell? ⟨w.heap.size + 1, 0, none⟩ = some (.int .i64 0) := HXB.out.b4.cell 0
      have p0 : wb.frozen? ⟨w.heap.size + 1, 0, none⟩ = false := HXB.out.b4.frozen 0
      have q1 : wb.cell? ⟨w.heap.size + 1, 1, none⟩ = some (.slice none 0 0) := HXB.out.b4.cell 1
      have p1 : wb.frozen? ⟨w.heap.size + 1, 1, none⟩ = false := HXB.out.b4.frozen 1
      have q2 : wb.cell? ⟨w.heap.size + 1, 2, none⟩ = some (.int .i64 0) := HXB.out.b4.cell 2
      have p2 : wb.frozen? ⟨w.heap.size + 1, 2, none⟩ = false := HXB.out.b4.frozen 2
      have q3 : wb.cell? ⟨w.heap.size + 1, 3, none⟩ = some (.int .i64 0) := HXB.out.b4.cell 3
      have p3 : wb.frozen? ⟨w.heap.size + 1, 3, none⟩ = false := HXB.out.b4.frozen 3
      have q4 : wb.cell? ⟨w.heap.size + 1, 4, none⟩ = some (.int .i64 0) := HXB.out.b4.cell 4
      have p4 : wb.frozen? ⟨w.heap.size + 1, 4, none⟩ = false := HXB.out.b4.frozen 4
      have q5 : wb.cell? ⟨w.heap.size + 1, 5, none⟩ = some (.slice none 0 0) := HXB.out.b4.cell 5
      have p5 : wb.frozen? ⟨w.heap.size + 1, 5, none⟩ = false := HXB.out.b4.frozen 5
      have q6 : wb.cell? ⟨w.heap.size + 1, 6, none⟩ = some (.bool false) := HXB.out.b4.cell 6
      have p6 : wb.frozen? ⟨w.heap.size + 1, 6, none⟩ = false := HXB.out.b4.frozen 6
      go_wp2
      obtain ⟨hw, hT, hK⟩ := HXB.out.fin (.int .i64 2) (.slice none 0 0) (.int .i64 0) (.int .i64 0) (.int .i64 0) (.slice none 0 0) (.bool false)
      unfold set7 at hw hT hK
      refine bodyPost_ret (results_cell_row rfl _ _ (w.heap.size + 1) 43 #[(.int .i64 2), (.slice none 0 0), (.int .i64 0), (.int .i64 0), (.int .i64 0), (.slice none 0 0), (.bool false)] (0, 0) _ rfl hw Tryz.underlying43 rfl (by kernel_rfl)) rfl ?_
      exact ⟨_, _, rfl, by rw [HRR.out]; exact rep_plain 2 0 0 0, hT, by rw [HRR.out]; exact HSIM.out⟩
    have d1 := dcf h1
    by_cases h2 : x.n < 0
    · have d2 := dct h2
      have HRR : Hid (r = (s, bad 2)) := Lib.hid (by rw [HR.out, HG'.out, show pe = 2 by rw [HE.out, if_pos ⟨HK0.out, .inr (.inl h2)⟩], if_neg (by decide)])
      clear HR HG' HE HGD'
      go_wp2_with fail
      refine (bad_calls w3 2).mono ?_
      rintro e wb ⟨rfl, hbb⟩
      have HXB := Lib.hid (HF3.out.on hbb)
      clear hbb
      unfold errV
      have q0 : wb.cell? ⟨w.heap.size + 1, 0, none⟩ = some (.int .i64 0) := HXB.out.b4.cell 0
      have p0 : wb.frozen? ⟨w.heap.size + 1, 0, none⟩ = false := HXB.out.b4.frozen 0
      have q1 : wb.cell? ⟨w.heap.size + 1, 1, none⟩ = some (.slice none 0 0) := HXB.out.b4.cell 1
      have p1 : wb.frozen? ⟨w.heap.size + 1, 1, none⟩ = false := HXB.out.b4.frozen 1
      have q2 : wb.cell? ⟨w.heap.size + 1, 2, none⟩ = some (.int .i64 0) := HXB.out.b4.cell 2
      have p2 : wb.frozen? ⟨w.heap.size + 1, 2, none⟩ = false := HXB.out.b4.frozen 2
      have q3 : wb.cell? ⟨w.heap.size + 1, 3, none⟩ = some (.int .i64 0) := HXB.out.b4.cell 3
      have p3 : wb.frozen? ⟨w.heap.size + 1, 3, none⟩ = false := HXB.out.b4.frozen 3
      have q4 : wb.cell? ⟨w.heap.size + 1, 4, none⟩ = some (.int .i64 0) := HXB.out.b4.cell 4
      have p4 : wb.frozen? ⟨w.heap.size + 1, 4, none⟩ = false := HXB.out.b4.frozen 4
      have q5 : wb.cell? ⟨w.heap.size + 1, 5, none⟩ = some (.slice none 0 0) := HXB.out.b4.cell 5
      have p5 : wb.frozen? ⟨w.heap.size + 1, 5, none⟩ = false := HXB.out.b4.frozen 5
      have q6 : wb.cell? ⟨w.heap.size + 1, 6, none⟩ = some (.bool false) := HXB.out.b4.cell 6
      have p6 : wb.frozen? ⟨w.heap.size + 1, 6, none⟩ = false := HXB.out.b4.frozen 6
      go_wp2
      obtain ⟨hw, hT, hK⟩ := HXB.out.fin (.int .i64 2) (.slice none 0 0) (.int .i64 0) (.int .i64 0) (.int .i64 0) (.slice none 0 0) (.bool false)
      unfold set7 at hw hT hK
      refine bodyPost_ret (results_cell_row rfl _ _ (w.heap.size + 1) 43 #[(.int .i64 2), (.slice none 0 0), (.int .i64 0), (.int .i64 0), (.int .i64 0), (.slice none 0 0), (.bool false)] (0, 0) _ rfl hw Tryz.underlying43 rfl (by kernel_rfl)) rfl ?_
      exact ⟨_, _, rfl, by rw [HRR.out]; exact rep_plain 2 0 0 0, hT, by rw [HRR.out]; exact HSIM.out⟩
    have d2 := dcf h2
    by_cases h3 : (o.d.length : Int) < x.at_
    · have d3 := dct h3
      have HRR : Hid (r = (s, bad 2)) := Lib.hid (by rw [HR.out, HG'.out, show pe = 2 by rw [HE.out, if_pos ⟨HK0.out, .inr (.inr (.inl h3))⟩], if_neg (by decide)])
      clear HR HG' HE HGD'
      go_wp2_with fail
      refine (bad_calls w3 2).mono ?_
      rintro e wb ⟨rfl, hbb⟩
      have HXB := Lib.hid (HF3.out.on hbb)
      clear hbb
      unfold errV
      have q0 : wb.cell? ⟨w.heap.size + 1, 0, none⟩ = some (.int .i64 0) := HXB.out.b4.cell 0
      have p0 : wb.frozen? ⟨w.heap.size + 1, 0, none⟩ = false := HXB.out.b4.frozen 0
      have q1 : wb.cell? ⟨w.heap.size + 1, 1, none⟩ = some (.slice none 0 0) := HXB.out.b4.cell 1
      have p1 : wb.frozen? ⟨w.heap.size + 1, 1, none⟩ = false := HXB.out.b4.frozen 1
      have q2 : wb.cell? ⟨w.heap.size + 1, 2, none⟩ = some (.int .i64 0) := HXB.out.b4.cell 2
      have p2 : wb.frozen? ⟨w.heap.size + 1, 2, none⟩ = false := HXB.out.b4.frozen 2
      have q3 : wb.cell? ⟨w.heap.size + 1, 3, none⟩ = some (.int .i64 0) := HXB.out.b4.cell 3
      have p3 : wb.frozen? ⟨w.heap.size + 1, 3, none⟩ = false := HXB.out.b4.frozen 3
      have q4 : wb.cell? ⟨w.heap.size + 1, 4, none⟩ = some (.int .i64 0) := HXB.out.b4.cell 4
      have p4 : wb.frozen? ⟨w.heap.size + 1, 4, none⟩ = false := HXB.out.b4.frozen 4
      have q5 : wb.cell? ⟨w.heap.size + 1, 5, none⟩ = some (.slice none 0 0) := HXB.out.b4.cell 5
      have p5 : wb.frozen? ⟨w.heap.size + 1, 5, none⟩ = false := HXB.out.b4.frozen 5
      have q6 : wb.cell? ⟨w.heap.size + 1, 6, none⟩ = some (.bool false) := HXB.out.b4.cell 6
      have p6 : wb.frozen? ⟨w.heap.size + 1, 6, none⟩ = false := HXB.out.b4.frozen 6
      go_wp2
      obtain ⟨hw, hT, hK⟩ := HXB.out.fin (.int .i64 2) (.slice none 0 0) (.int .i64 0) (.int .i64 0) (.int .i64 0) (.slice none 0 0) (.bool false)
      unfold set7 at hw hT hK
      refine bodyPost_ret (results_cell_row rfl _ _ (w.heap.size + 1) 43 #[(.int .i64 2), (.slice none 0 0), (.int .i64 0), (.int .i64 0), (.int .i64 0), (.slice none 0 0), (.bool false)] (0, 0) _ rfl hw Tryz.underlying43 rfl (by kernel_rfl)) rfl ?_
      exact ⟨_, _, rfl, by rw [HRR.out]; exact rep_plain 2 0 0 0, hT, by rw [HRR.out]; exact HSIM.out⟩
    have d3 := dcf h3
    have r1 : IntKind.i64.wrap ((o.d.length : Int) - x.at_) = (o.d.length : Int) - x.at_ := by rw [IntKind.wrap_i64]; omega
    by_cases h4 : (o.d.length : Int) - x.at_ < x.n
    · have d4 := dct h4
      have HRR : Hid (r = (s, bad 2)) := Lib.hid (by rw [HR.out, HG'.out, show pe = 2 by rw [HE.out, if_pos ⟨HK0.out, .inr (.inr (.inr h4))⟩], if_neg (by decide)])
      clear HR HG' HE HGD'
      go_wp2_with fail
      refine (bad_calls w3 2).mono ?_
      rintro e wb ⟨rfl, hbb⟩
      have HXB := Lib.hid (HF3.out.on hbb)
      clear hbb
      unfold errV
      have q0 : wb.cell? ⟨w.heap.size + 1, 0, none⟩ = some (.int .i64 0) := HXB.out.b4.cell 0
      have p0 : wb.frozen? ⟨w.heap.size + 1, 0, none⟩ = false := HXB.out.b4.frozen 0
      have q1 : wb.cell? ⟨w.heap.size + 1, 1, none⟩ = some (.slice none 0 0) := HXB.out.b4.cell 1
      have p1 : wb.frozen? ⟨w.heap.size + 1, 1, none⟩ = false := HXB.out.b4.frozen 1
      have q2 : wb.cell? ⟨w.heap.size + 1, 2, none⟩ = some (.int .i64 0) := HXB.out.b4.cell 2
      have p2 : wb.frozen? ⟨w.heap.size + 1, 2, none⟩ = false := HXB.out.b4.frozen 2
      have q3 : wb.cell? ⟨w.heap.size + 1, 3, none⟩ = some (.int .i64 0) := HXB.out.b4.cell 3
      have p3 : wb.frozen? ⟨w.heap.size + 1, 3, none⟩ = false := HXB.out.b4.frozen 3
      have q4 : wb.cell? ⟨w.heap.size + 1, 4, none⟩ = some (.int .i64 0) := HXB.out.b4.cell 4
      have p4 : wb.frozen? ⟨w.heap.size + 1, 4, none⟩ = false := HXB.out.b4.frozen 4
      have q5 : wb.cell? ⟨w.heap.size + 1, 5, none⟩ = some (.slice none 0 0) := HXB.out.b4.cell 5
      have p5 : wb.frozen? ⟨w.heap.size + 1, 5, none⟩ = false := HXB.out.b4.frozen 5
      have q6 : wb.cell? ⟨w.heap.size + 1, 6, none⟩ = some (.bool false) := HXB.out.b4.cell 6
      have p6 : wb.frozen? ⟨w.heap.size + 1, 6, none⟩ = false := HXB.out.b4.frozen 6
      go_wp2
      obtain ⟨hw, hT, hK⟩ := HXB.out.fin (.int .i64 2) (.slice none 0 0) (.int .i64 0) (.int .i64 0) (.int .i64 0) (.slice none 0 0) (.bool false)
      unfold set7 at hw hT hK
      refine bodyPost_ret (results_cell_row rfl _ _ (w.heap.size + 1) 43 #[(.int .i64 2), (.slice none 0 0), (.int .i64 0), (.int .i64 0), (.int .i64 0), (.slice none 0 0), (.bool false)] (0, 0) _ rfl hw Tryz.underlying43 rfl (by kernel_rfl)) rfl ?_
      exact ⟨_, _, rfl, by rw [HRR.out]; exact rep_plain 2 0 0 0, hT, by rw [HRR.out]; exact HSIM.out⟩
    have d4 := dcf h4
    have r2 : IntKind.i64.wrap (x.at_ + x.n) = x.at_ + x.n := by rw [IntKind.wrap_i64]; omega
    have hat : x.at_.toNat + x.n.toNat ≤ o.d.length := by omega
    have hlen := midB_len hat
    have hrun := fun W => sliceD W o.A o.d.length o.c (l := x.at_) (k := x.n) (by omega) (by omega) (by omega)
    have HRR : Hid (r = (s, ⟨0, midB o.d x.at_.toNat x.n.toNat, o.ver, o.born, 0, [], false⟩)) := Lib.hid (by rw [HR.out, HG'.out, show pe = 0 by rw [HE.out, if_neg (by rintro ⟨-, h | h | h | h⟩ <;> contradiction)], if_pos rfl, HGD'.out, if_pos HK0.out])
    clear h1 h2 h3 h4 HR HG' HE HGD'
    go_upto_region 26 with fail
    have hb4 := HB13.out.setCell (p := ⟨g8, 1, none⟩) (Nat.le_of_eq hg8) (.slice (cutB o.A o.c x.at_.toNat) x.n.toNat (o.c - x.at_.toNat))
    have HB8' := Lib.hid (HB8.out.set_ 1 (.slice (cutB o.A o.c x.at_.toNat) x.n.toNat (o.c - x.at_.toNat)))
    have HF4 := Lib.hid (HF1.out.on hb4)
    have HMB := Lib.hid (bytes_mid ((HRD.out.by_.below hb4).more hb4.size) hoc hat)
    clear hb4 c8 f8 d1 d2 d3 d4 r1 r2 hrun k0 k1 k2 k3 k4 k5 k6
    generalize w3.setCell ⟨g8, 1, none⟩ (.slice (cutB o.A o.c x.at_.toNat) x.n.toNat (o.c - x.at_.toNat)) = w4 at *
    have HTW : Hid (∀ W, Below w4.heap.size w4 W → Calls Tryz.prog 10 #[.slice (cutB o.A o.c x.at_.toNat) x.n.toNat (o.c - x.at_.toNat)] W fun e w' => ∃ A' c', e = .returned (.slice A' x.n.toNat c') ∧ w'.ownsRow W.heap.size 5 1 (.slice A' x.n.toNat c') x.n.toNat ((midB o.d x.at_.toNat x.n.toNat).map byteV) ∧ Below W.heap.size W w') := Lib.hid fun W hW => by
      have h1 : Bytes W w4.heap.size (cutB o.A o.c x.at_.toNat) (midB o.d x.at_.toNat x.n.toNat).length (midB o.d x.at_.toNat x.n.toNat) := by rw [hlen]; exact HMB.out.below hW
      have h2 := twin_calls (c := o.c - x.at_.toNat) W h1 hW.size (by rw [hlen]; omega)
      rw [hlen] at h2
      exact h2.mono fun e w' ⟨A', c', h1, _, _, h4, h5⟩ => ⟨A', c', h1, h4, h5⟩
    have HDL := Lib.hid hlen
    clear hlen
    generalize cutB o.A o.c x.at_.toNat = AC at *
    go_upto_region 26 with fail
    have HSZ := Lib.hid HF4.out.size
    (try clear k0 k1 k2 k3 k4 k5 k6)
    clear e1 e2 e3 e4 e5 e6 e7 e8 e9 e10 e11
    have Hk : Hid (∀ W, Below w4.heap.size w4 W → W.cell? ⟨g8, 1, none⟩ = some (.slice AC x.n.toNat (o.c - x.at_.toNat)) ∧ W.cell? ⟨g8, 2, none⟩ = some (.int .i64 o.ver) ∧ W.cell? ⟨g8, 3, none⟩ = some (.int .i64 o.born)) := Lib.hid fun W hW => ⟨(HB8'.out.below hW HB8'.out.lt).cell 1, (HB8'.out.below hW HB8'.out.lt).cell 2, (HB8'.out.below hW HB8'.out.lt).cell 3⟩
    refine wp_region_T 8 (fun w' => w'.cell? ⟨g8, 1, none⟩ = some (.slice AC x.n.toNat (o.c - x.at_.toNat)) ∧ w'.cell? ⟨g8, 2, none⟩ = some (.int .i64 o.ver) ∧ w'.cell? ⟨g8, 3, none⟩ = some (.int .i64 o.born)) (by kernel_rfl) (Hk.out _ (below_drewN_ (Below.refl _ _) 1)) (fun hHeld => ?_)
    have HW0 : Hid (Below w4.heap.size w4 w4.drew) := Lib.hid (below_drewN_ (Below.refl _ _) 1)
    generalize w4.drew = wd at *
    refine wpAnyT_take (i := 0) (oi := _) (v := ?_) rfl (by kernel_rfl) (fun _ _ _ h => h) (Or.inl ⟨by kernel_rfl, ?_⟩) (by assumption) ?_; rotate_left; (focus (intro w hSw; (try dsimp only at hSw); go_simp; (try with_reducible rfl))); (try simp only [Act.put, List.getElem_toArray, List.getElem_cons_zero, List.setIfInBounds_toArray, List.set_cons_zero, List.set_cons_succ])
    refine wpAnyT_take (i := 1) (oi := _) (v := ?_) rfl (by kernel_rfl) (fun _ _ _ h => h) (Or.inl ⟨by kernel_rfl, ?_⟩) (by assumption) ?_; rotate_left; (focus (intro w hSw; (try dsimp only at hSw); go_simp; (try with_reducible rfl))); (try simp only [Act.put, List.getElem_toArray, List.getElem_cons_zero, List.getElem_cons_succ, List.setIfInBounds_toArray, List.set_cons_zero, List.set_cons_succ])
    refine wpAnyT_take (i := 3) (oi := _) (v := ?_) rfl (by kernel_rfl) (fun _ _ _ h => h) (Or.inl ⟨by kernel_rfl, ?_⟩) (by assumption) ?_; rotate_left; (focus (intro w hSw; (try dsimp only at hSw); go_simp; (try with_reducible rfl))); (try simp only [Act.put, List.getElem_toArray, List.getElem_cons_zero, List.getElem_cons_succ, List.setIfInBounds_toArray, List.set_cons_zero, List.set_cons_succ])
    refine wpAnyT_take (i := 4) (oi := _) (v := ?_) rfl (by kernel_rfl) (fun _ _ _ h => h) (Or.inl ⟨by kernel_rfl, ?_⟩) (by assumption) ?_; rotate_left; (focus (intro w hSw; (try dsimp only at hSw); go_simp; (try with_reducible rfl))); (try simp only [Act.put, List.getElem_toArray, List.getElem_cons_zero, List.getElem_cons_succ, List.setIfInBounds_toArray, List.set_cons_zero, List.set_cons_succ])
    refine wpAnyT_take (i := 5) (oi := _) (v := ?_) rfl (by kernel_rfl) (fun _ _ _ h => h) (Or.inl ⟨by kernel_rfl, ?_⟩) (by assumption) ?_; rotate_left; (focus (intro w hSw; (try dsimp only at hSw); go_simp; (try with_reducible rfl))); (try simp only [Act.put, List.getElem_toArray, List.getElem_cons_zero, List.getElem_cons_succ, List.setIfInBounds_toArray, List.set_cons_zero, List.set_cons_succ])
    refine wpAnyT_take (i := 6) (oi := _) (v := ?_) rfl (by kernel_rfl) (fun _ _ _ h => h) (Or.inl ⟨by kernel_rfl, ?_⟩) (by assumption) ?_; rotate_left; (focus (intro w hSw; (try dsimp only at hSw); go_simp; (try with_reducible rfl))); (try simp only [Act.put, List.getElem_toArray, List.getElem_cons_zero, List.getElem_cons_succ, List.setIfInBounds_toArray, List.set_cons_zero, List.set_cons_succ])
    refine wpAnyT_one (i := 2) (by kernel_rfl) rfl (fun K hK => ?_); go_simp
    refine (HTW.out _ HW0.out).mono ?_
    rintro e w6 ⟨A6, c6, rfl, hown6, hb6⟩
    have hb06 := HW0.out.trans (hb6.mono HW0.out.size)
    have hH6 := Hk.out _ hb06
    have HF6 := Lib.hid (HF4.out.on hb06)
    have HO6 := Lib.hid hown6
    have hs0 := HW0.out.size
    refine hK.out _ _ (fun _ => hH6) ?_
    clear hK K hHeld hown6 hb6 hb06 Hk
    (try simp only [Act.put, List.getElem_toArray, List.getElem_cons_zero, List.getElem_cons_succ, List.setIfInBounds_toArray, List.set_cons_zero, List.set_cons_succ])
    refine wpAnyT_take (i := 7) (oi := _) (v := ?_) rfl (by kernel_rfl) (fun _ _ _ h => h) (Or.inl ⟨by kernel_rfl, ?_⟩) (by assumption) ?_; rotate_left; (focus (intro w hSw; (try dsimp only at hSw); go_simp; (try with_reducible rfl))); (try simp only [Act.put, List.getElem_toArray, List.getElem_cons_zero, List.getElem_cons_succ, List.setIfInBounds_toArray, List.set_cons_zero, List.set_cons_succ])
    have q0 : w6.cell? ⟨w.heap.size + 1, 0, none⟩ = some (.int .i64 0) := HF6.out.b4.cell 0
    have p0 : w6.frozen? ⟨w.heap.size + 1, 0, none⟩ = false := HF6.out.b4.frozen 0
    have q1 : w6.cell? ⟨w.heap.size + 1, 1, none⟩ = some (.slice none 0 0) := HF6.out.b4.cell 1
    have p1 : w6.frozen? ⟨w.heap.size + 1, 1, none⟩ = false := HF6.out.b4.frozen 1
    have q2 : w6.cell? ⟨w.heap.size + 1, 2, none⟩ = some (.int .i64 0) := HF6.out.b4.cell 2
    have p2 : w6.frozen? ⟨w.heap.size + 1, 2, none⟩ = false := HF6.out.b4.frozen 2
    have q3 : w6.cell? ⟨w.heap.size + 1, 3, none⟩ = some (.int .i64 0) := HF6.out.b4.cell 3
    have p3 : w6.frozen? ⟨w.heap.size + 1, 3, none⟩ = false := HF6.out.b4.frozen 3
    have q4 : w6.cell? ⟨w.heap.size + 1, 4, none⟩ = some (.int .i64 0) := HF6.out.b4.cell 4
    have p4 : w6.frozen? ⟨w.heap.size + 1, 4, none⟩ = false := HF6.out.b4.frozen 4
    have q5 : w6.cell? ⟨w.heap.size + 1, 5, none⟩ = some (.slice none 0 0) := HF6.out.b4.cell 5
    have p5 : w6.frozen? ⟨w.heap.size + 1, 5, none⟩ = false := HF6.out.b4.frozen 5
    have q6 : w6.cell? ⟨w.heap.size + 1, 6, none⟩ = some (.bool false) := HF6.out.b4.cell 6
    have p6 : w6.frozen? ⟨w.heap.size + 1, 6, none⟩ = false := HF6.out.b4.frozen 6
    refine wpAnyT_one (i := 8) (by kernel_rfl) rfl (fun K hK => ?_); go_simp
    refine hK.out _ _ (fun h => absurd rfl h) (wpAnyT_done (by kernel_rfl) ?_ _)
    clear hK K
    go_wp2
    obtain ⟨hw, hT, hK⟩ := HF6.out.fin (.int .i64 0) (.slice A6 x.n.toNat c6) (.int .i64 o.ver) (.int .i64 o.born) (.int .i64 0) (.slice none 0 0) (.bool false)
    unfold set7 at hw hT hK
    refine bodyPost_ret (results_cell_row rfl _ _ (w.heap.size + 1) 43 #[(.int .i64 0), (.slice A6 x.n.toNat c6), (.int .i64 o.ver), (.int .i64 o.born), (.int .i64 0), (.slice none 0 0), (.bool false)] (0, 0) _ rfl hw Tryz.underlying43 rfl (by kernel_rfl)) rfl ?_
    refine ⟨_, _, rfl, ?_, hT, by rw [HRR.out]; exact HSIM.out⟩
    rw [HRR.out]
    refine ⟨A6, c6, none, 0, by show _ = Value.agg #[.int .i64 0, .slice A6 ((midB o.d x.at_.toNat x.n.toNat) : Bs).length c6, _, _, _, _, _]; (try rw [HDL.out]); rfl, ?_, World.ownsRow_nil _ _ _ _⟩
    show World.ownsRow _ _ _ 1 (.slice A6 ((midB o.d x.at_.toNat x.n.toNat) : Bs).length c6) ((midB o.d x.at_.toNat x.n.toNat) : Bs).length _
    (try rw [HDL.out])
    have hsz := HSZ.out
    exact own_base (hK.own HO6.out (fun i hi e => by omega)) (by omega)
end Rf
end Go.Proofs.YtlljpjehalodfaaGreat
