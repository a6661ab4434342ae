/- The document's store: a call (chapter 14): an object put. -/
import Derived.Test.YtlljpjehalodfaaGreatProg
import Derived.Test.YtlljpjehalodfaaGreatPlO
namespace Go.Proofs.YtlljpjehalodfaaGreat
open Go.RowKit
namespace Rf
open St

set_option maxRecDepth 100000 in
set_option maxHeartbeats 32000000 in
theorem doR_1 (w : World) {base n : Nat} {R : RS} {s : PS} {x : Cl} (h : RAt w base R) (hS : Sim R s) (hi : PInv s n) (hs : PSrt s) (hn : n ≤ 1000) (hd : Bytes w w.heap.size x.A x.d.length x.d) (ho : Out R x.A x.d.length) (hx : ClOk x)
    (hk : x.kind = 1) : DoR w base R s x := by
  unfold DoR
  have hu0 : s.step x.pure = s.put x.pure := by
    have e : x.pure.kind = x.kind := rfl
    rw [kind_step, e]
    rw [if_pos (by omega)]
  have hu1 : s.put x.pure = if s.putE x.pure = 0 then (s.made x.key x.d, ⟨0, [], s.ver + 1, s.now, 0, [], false⟩) else (s, bad (s.putE x.pure)) := rfl
  have HR := Lib.hid (hu0.trans hu1)
  have HPE : Hid (s.putE x.pure = if rightB x.key = false then 1 else if x.kind = 2 ∧ (decide (x.ver = 0) = (mget s.objs x.key).isSome) then 8 else if x.kind = 2 ∧ (mget s.objs x.key).isSome = true ∧ ((mget s.objs x.key).getD po0).ver ≠ x.ver then 8 else if 262144 < x.d.length then 5 else if s.crowded x.key = true ∨ 4194304 < s.all - (((mget s.objs x.key).getD po0).d.length : Int) + (x.d.length : Int) then 9 else 0) := Lib.hid rfl
  generalize s.putE x.pure = pe at *
  clear hu0 hu1
  have HK0 := Lib.hid hk
  clear hk
  have hxk := hx.key
  generalize s.step x.pure = r at *
  have HSIM := Lib.hid hS
  have HI := Lib.hid hi
  have HRS := Lib.hid hs
  have hol : R.objs.length ≤ 1000 := by rw [hS.olen]; exact Nat.le_trans hi.on hn
  have hul : R.ups.length ≤ 1000 := by rw [hS.ups.len]; exact Nat.le_trans hi.un hn
  clear hS hi hs
  have HF0 := (FR.start h hd ho).toX
  unfold Cl.cells rep0 at HF0
  have HF := Lib.hid HF0
  clear HF0 hd ho h
  unfold Cl.val Cl.cells
  go_enter Tryz.func13, Tryz.ntmps13
  go_upto_region 1 with fail
  generalize ((w.alloc (.cells #[.int .i64 x.kind, .string x.key, .slice x.A x.d.length x.c, .int .i64 x.ver, .int .i64 x.at_, .int .i64 x.n, .int .i64 x.id] 34)).alloc (.cells #[.int .i64 0, .slice none 0 0, .int .i64 0, .int .i64 0, .int .i64 0, .slice none 0 0, .bool false] 43)) = w2 at *
  have HAT : Hid (∀ m, Calls Tryz.prog 23 #[.pointer (some ⟨R.g, 0, none⟩), .string x.key] (w2.drewN m) fun e w'' => e = .returned (.int .i64 (R.idxO x.key)) ∧ ∃ m', w'' = w2.drewN m') := Lib.hid fun m => (at_calls (w2.drewN m) (HF.out.at_.drewN m) (Nat.le_trans hol (by omega)) x.key).mono fun e w'' h => ⟨h.1, m, h.2.symm⟩
  have HOP : Hid (∀ m, Calls Tryz.prog 24 #[.pointer (some ⟨R.g, 0, none⟩), .int .i64 x.id] (w2.drewN m) fun e w'' => e = .returned (.int .i64 (R.idxU x.id)) ∧ ∃ m', w'' = w2.drewN m') := Lib.hid fun m => (open_calls (w2.drewN m) (HF.out.at_.drewN m) (Nat.le_trans hul (by omega)) x.id).mono fun e w'' h => ⟨h.1, m, h.2.symm⟩
  have k1 : w2.cell? ⟨w.heap.size, 1, none⟩ = some (.string x.key) := HF.out.b3.cell 1
  have k6 : w2.cell? ⟨w.heap.size, 6, none⟩ = some (.int .i64 x.id) := HF.out.b3.cell 6
  go_quiet (first | (exact HAT.out _) | (exact HOP.out _))
  clear HAT HOP k1 k6
  have HF1 := Lib.hid (HF.out.drewN nq)
  have HIX := Lib.hid (HSIM.out.idxO HRS.out x.key)
  have HIU := Lib.hid (HSIM.out.idxU HRS.out x.id)
  generalize R.idxO x.key = ix at *
  generalize R.idxU x.id = iu at *
  generalize w2.drewN nq = w1 at *
  have k0 : w1.cell? ⟨w.heap.size, 0, none⟩ = some (.int .i64 x.kind) := HF1.out.b3.cell 0
  have k1 : w1.cell? ⟨w.heap.size, 1, none⟩ = some (.string x.key) := HF1.out.b3.cell 1
  have k2 : w1.cell? ⟨w.heap.size, 2, none⟩ = some (.slice x.A x.d.length x.c) := HF1.out.b3.cell 2
  have k3 : w1.cell? ⟨w.heap.size, 3, none⟩ = some (.int .i64 x.ver) := HF1.out.b3.cell 3
  have k4 : w1.cell? ⟨w.heap.size, 4, none⟩ = some (.int .i64 x.at_) := HF1.out.b3.cell 4
  have k5 : w1.cell? ⟨w.heap.size, 5, none⟩ = some (.int .i64 x.n) := HF1.out.b3.cell 5
  have k6 : w1.cell? ⟨w.heap.size, 6, none⟩ = some (.int .i64 x.id) := HF1.out.b3.cell 6
  have e1 : (x.kind == 1) = ((1 : Int) == 1) := by rw [HK0.out]
  have e2 : (x.kind == 2) = ((1 : Int) == 2) := by rw [HK0.out]
  have e3 : (x.kind == 3) = ((1 : Int) == 3) := by rw [HK0.out]
  have e4 : (x.kind == 4) = ((1 : Int) == 4) := by rw [HK0.out]
  have e5 : (x.kind == 5) = ((1 : Int) == 5) := by rw [HK0.out]
  have e6 : (x.kind == 6) = ((1 : Int) == 6) := by rw [HK0.out]
  have e7 : (x.kind == 7) = ((1 : Int) == 7) := by rw [HK0.out]
  have e8 : (x.kind == 8) = ((1 : Int) == 8) := by rw [HK0.out]
  have e9 : (x.kind == 9) = ((1 : Int) == 9) := by rw [HK0.out]
  have e10 : (x.kind == 10) = ((1 : Int) == 10) := by rw [HK0.out]
  have e11 : (x.kind == 11) = ((1 : Int) == 11) := by rw [HK0.out]
  clear HIU
  have HALL : Hid (s.all = (R.size : Int)) := Lib.hid (by rw [HSIM.out.size, HI.out.all])
  have HKC := Lib.hid (key_calls w1 x.key hxk)
  rw [keyB_right] at HKC
  go_wp2_with fail
  refine HKC.out.mono ?_
  rintro e w3 ⟨rfl, rfl⟩
  clear HKC
  cases hr : rightB x.key with
  | false =>
    have hpe : pe = 1 := by rw [HPE.out, if_pos hr]
    have HRR : Hid (r = (s, bad 1)) := Lib.hid (by rw [HR.out, hpe, if_neg (by decide)])
    clear HR HPE hpe
    go_wp2_with fail
    refine (bad_calls w1 1).mono ?_
    rintro e wb ⟨rfl, hbb⟩
    have HXB := Lib.hid (HF1.out.on hbb)
    clear hbb
    unfold errV
    have q0 : wb.cell? ⟨w.heap.size + 1, 0, none⟩ = some (.int .i64 0) := HXB.out.b4.cell 0
    have p0 : wb.frozen? ⟨w.heap.size + 1, 0, none⟩ = false := HXB.out.b4.frozen 0
    have q1 : wb.cell? ⟨w.heap.size + 1, 1, none⟩ = some (.slice none 0 0) := HXB.out.b4.cell 1
    have p1 : wb.frozen? ⟨w.heap.size + 1, 1, none⟩ = false := HXB.out.b4.frozen 1
    have q2 : wb.cell? ⟨w.heap.size + 1, 2, none⟩ = some (.int .i64 0) := HXB.out.b4.cell 2
    have p2 : wb.frozen? ⟨w.heap.size + 1, 2, none⟩ = false := HXB.out.b4.frozen 2
    have q3 : wb.cell? ⟨w.heap.size + 1, 3, none⟩ = some (.int .i64 0) := HXB.out.b4.cell 3
    have p3 : wb.frozen? ⟨w.heap.size + 1, 3, none⟩ = false := HXB.out.b4.frozen 3
    have q4 : wb.cell? ⟨w.heap.size + 1, 4, none⟩ = some (.int .i64 0) := HXB.out.b4.cell 4
    have p4 : wb.frozen? ⟨w.heap.size + 1, 4, none⟩ = false := HXB.out.b4.frozen 4
    have q5 : wb.cell? ⟨w.heap.size + 1, 5, none⟩ = some (.slice none 0 0) := HXB.out.b4.cell 5
    have p5 : wb.frozen? ⟨w.heap.size + 1, 5, none⟩ = false := HXB.out.b4.frozen 5
    have q6 : wb.cell? ⟨w.heap.size + 1, 6, none⟩ = some (.bool false) := HXB.out.b4.cell 6
    have p6 : wb.frozen? ⟨w.heap.size + 1, 6, none⟩ = false := HXB.out.b4.frozen 6
    go_wp2
    obtain ⟨hw, hT, hK⟩ := HXB.out.fin (.int .i64 1) (.slice none 0 0) (.int .i64 0) (.int .i64 0) (.int .i64 0) (.slice none 0 0) (.bool false)
    unfold set7 at hw hT hK
    refine bodyPost_ret (results_cell_row rfl _ _ (w.heap.size + 1) 43 #[(.int .i64 1), (.slice none 0 0), (.int .i64 0), (.int .i64 0), (.int .i64 0), (.slice none 0 0), (.bool false)] (0, 0) _ rfl hw Tryz.underlying43 rfl (by kernel_rfl)) rfl ?_
    exact ⟨_, _, rfl, by rw [HRR.out]; exact rep_plain 1 0 0 0, hT, by rw [HRR.out]; exact HSIM.out⟩
  | true =>
    rcases HIX.out with ⟨rfl, hm⟩ | ⟨i, hi, rfl, hm, hkey⟩
    · have d1 : decide ((0 : Int) ≤ -1) = false := by decide
      have d1' : decide ((-1 : Int) < 0) = true := by decide
      have HSF : Hid ((mget s.objs x.key).isSome = false) := Lib.hid (by rw [hm]; rfl)
      have HOB : Hid (((((mget s.objs x.key).getD po0).d.length : Nat) : Int) = ((0 : Nat) : Int)) := Lib.hid (by rw [hm]; rfl)
      clear hm HIX
      go_upto_region 10 with fail
      go_quiet (fail)
      have HFq := Lib.hid (HF1.out.drewN nq)
      clear k0 k1 k2 k3 k4 k5 k6
      generalize w1.drewN nq = wq at *
      have k1 : wq.cell? ⟨w.heap.size, 1, none⟩ = some (.string x.key) := HFq.out.b3.cell 1
      have k2 : wq.cell? ⟨w.heap.size, 2, none⟩ = some (.slice x.A x.d.length x.c) := HFq.out.b3.cell 2
      by_cases h3 : 262144 < x.d.length
      · have d3 : decide ((262144 : Int) < (x.d.length : Int)) = true := dct (by omega)
        have hpe : pe = 5 := by rw [HPE.out, if_neg (by rw [hr]; decide), if_neg (by rw [HK0.out]; rintro ⟨h, -⟩; omega), if_neg (by rw [HK0.out]; rintro ⟨h, -⟩; omega), if_pos h3]
        have HRR : Hid (r = (s, bad 5)) := Lib.hid (by rw [HR.out, hpe, if_neg (by decide)])
        clear HR HPE hpe h3
        go_wp2_with fail
        refine (bad_calls wq 5).mono ?_
        rintro e wb ⟨rfl, hbb⟩
        have HXB := Lib.hid (HFq.out.on hbb)
        clear hbb
        unfold errV
        have q0 : wb.cell? ⟨w.heap.size + 1, 0, none⟩ = some (.int .i64 0) := HXB.out.b4.cell 0
        have p0 : wb.frozen? ⟨w.heap.size + 1, 0, none⟩ = false := HXB.out.b4.frozen 0
        have q1 : wb.cell? ⟨w.heap.size + 1, 1, none⟩ = some (.slice none 0 0) := HXB.out.b4.cell 1
        have p1 : wb.frozen? ⟨w.heap.size + 1, 1, none⟩ = false := HXB.out.b4.frozen 1
        have q2 : wb.cell? ⟨w.heap.size + 1, 2, none⟩ = some (.int .i64 0) := HXB.out.b4.cell 2
        have p2 : wb.frozen? ⟨w.heap.size + 1, 2, none⟩ = false := HXB.out.b4.frozen 2
        have q3 : wb.cell? ⟨w.heap.size + 1, 3, none⟩ = some (.int .i64 0) := HXB.out.b4.cell 3
        have p3 : wb.frozen? ⟨w.heap.size + 1, 3, none⟩ = false := HXB.out.b4.frozen 3
        have q4 : wb.cell? ⟨w.heap.size + 1, 4, none⟩ = some (.int .i64 0) := HXB.out.b4.cell 4
        have p4 : wb.frozen? ⟨w.heap.size + 1, 4, none⟩ = false := HXB.out.b4.frozen 4
        have q5 : wb.cell? ⟨w.heap.size + 1, 5, none⟩ = some (.slice none 0 0) := HXB.out.b4.cell 5
        have p5 : wb.frozen? ⟨w.heap.size + 1, 5, none⟩ = false := HXB.out.b4.frozen 5
        have q6 : wb.cell? ⟨w.heap.size + 1, 6, none⟩ = some (.bool false) := HXB.out.b4.cell 6
        have p6 : wb.frozen? ⟨w.heap.size + 1, 6, none⟩ = false := HXB.out.b4.frozen 6
        go_wp2
        obtain ⟨hw, hT, hK⟩ := HXB.out.fin (.int .i64 5) (.slice none 0 0) (.int .i64 0) (.int .i64 0) (.int .i64 0) (.slice none 0 0) (.bool false)
        unfold set7 at hw hT hK
        refine bodyPost_ret (results_cell_row rfl _ _ (w.heap.size + 1) 43 #[(.int .i64 5), (.slice none 0 0), (.int .i64 0), (.int .i64 0), (.int .i64 0), (.slice none 0 0), (.bool false)] (0, 0) _ rfl hw Tryz.underlying43 rfl (by kernel_rfl)) rfl ?_
        exact ⟨_, _, rfl, by rw [HRR.out]; exact rep_plain 5 0 0 0, hT, by rw [HRR.out]; exact HSIM.out⟩
      have d3 : decide ((262144 : Int) < (x.d.length : Int)) = false := dcf (by omega)
      have HP2 : Hid (pe = if s.crowded x.key = true ∨ 4194304 < (R.size : Int) - ((0 : Nat) : Int) + (x.d.length : Int) then 9 else 0) := Lib.hid (by rw [HPE.out, if_neg (by rw [hr]; decide), if_neg (by rw [HK0.out]; rintro ⟨h, -⟩; omega), if_neg (by rw [HK0.out]; rintro ⟨h, -⟩; omega), if_neg h3, HALL.out, HOB.out])
      have hdl9 : x.d.length ≤ 262144 := by omega
      clear HPE h3
      have hbig : R.size ≤ 262144000 := by rw [HSIM.out.size]; have := HI.out.big; omega
      have r1 : IntKind.i64.wrap ((R.size : Int)) = ((R.size : Int)) := by rw [IntKind.wrap_i64]; omega
      have r2 : IntKind.i64.wrap ((R.size : Int) + (x.d.length : Int)) = ((R.size : Int) + (x.d.length : Int)) := by rw [IntKind.wrap_i64]; omega
      by_cases hfull : 512 ≤ R.objs.length
      · have d5 : decide ((512 : Int) ≤ (R.objs.length : Int)) = true := dct (by omega)
        have hpe : pe = 9 := by rw [HP2.out, if_pos (.inl (by unfold PS.crowded; rw [HSF.out, ← HSIM.out.olen, dct hfull]; rfl))]
        have HRR : Hid (r = (s, bad 9)) := Lib.hid (by rw [HR.out, hpe, if_neg (by decide)])
        clear HR HP2 hpe hfull
        go_upto_region 14 with fail
        have Hk : Hid (∀ W, Below wq.heap.size wq W → W.cell? ⟨w.heap.size, 2, none⟩ = some (.slice x.A x.d.length x.c) ∧ W.cell? ⟨R.g, 0, none⟩ = some (.slice R.AO R.objs.length R.cO)) := Lib.hid fun W hW => ⟨(HFq.out.on hW).b3.cell 2, (HFq.out.on hW).at_.blk.cell 0⟩
        have HSZ : Hid (∀ W, Below wq.heap.size wq W → Calls Tryz.prog 27 #[.pointer (some ⟨R.g, 0, none⟩)] W fun e w' => e = .returned (.int .i64 (R.size : Nat)) ∧ Below W.heap.size W w') := Lib.hid fun W hW => HSIM.out.sizeR (HFq.out.on hW).at_ HI.out hn
        refine wp_region_T 99 (fun w' => w'.cell? ⟨w.heap.size, 2, none⟩ = some (.slice x.A x.d.length x.c) ∧ w'.cell? ⟨R.g, 0, none⟩ = some (.slice R.AO R.objs.length R.cO)) (by kernel_rfl) (Hk.out _ (below_drewN_ (Below.refl _ _) 1)) (fun hHeld => ?_)
        have HW0 : Hid (Below wq.heap.size wq wq.drew) := Lib.hid (below_drewN_ (Below.refl _ _) 1)
        generalize wq.drew = wd at *
        refine wpAnyT_take (i := 0) (oi := _) (v := ?_) rfl (by kernel_rfl) (fun _ _ _ h => h) (Or.inl ⟨by kernel_rfl, ?_⟩) (by assumption) ?_; rotate_left; (focus (intro w hSw; (try dsimp only at hSw); go_simp; (try with_reducible rfl))); (try simp only [Act.put, List.getElem_toArray, List.getElem_cons_zero, List.setIfInBounds_toArray, List.set_cons_zero, List.set_cons_succ])
        refine wpAnyT_take (i := 1) (oi := _) (v := ?_) rfl (by kernel_rfl) (fun _ _ _ h => h) (Or.inl ⟨by kernel_rfl, ?_⟩) (by assumption) ?_; rotate_left; (focus (intro w hSw; (try dsimp only at hSw); go_simp; (try with_reducible rfl))); (try simp only [Act.put, List.getElem_toArray, List.getElem_cons_zero, List.getElem_cons_succ, List.setIfInBounds_toArray, List.set_cons_zero, List.set_cons_succ])
        refine wpAnyT_take (i := 2) (oi := _) (v := ?_) rfl (by kernel_rfl) (fun _ _ _ h => h) (Or.inl ⟨by kernel_rfl, ?_⟩) (by assumption) ?_; rotate_left; (focus (intro w hSw; (try dsimp only at hSw); go_simp; (try with_reducible rfl))); (try simp only [Act.put, List.getElem_toArray, List.getElem_cons_zero, List.getElem_cons_succ, List.setIfInBounds_toArray, List.set_cons_zero, List.set_cons_succ])
        refine wpAnyT_take (i := 3) (oi := _) (v := ?_) rfl (by kernel_rfl) (fun _ _ _ h => h) (Or.inl ⟨by kernel_rfl, ?_⟩) (by assumption) ?_; rotate_left; (focus (intro w hSw; (try dsimp only at hSw); go_simp; (try with_reducible rfl))); (try simp only [Act.put, List.getElem_toArray, List.getElem_cons_zero, List.getElem_cons_succ, List.setIfInBounds_toArray, List.set_cons_zero, List.set_cons_succ])
        refine wpAnyT_take (i := 4) (oi := _) (v := ?_) rfl (by kernel_rfl) (fun _ _ _ h => h) (Or.inl ⟨by kernel_rfl, ?_⟩) (by assumption) ?_; rotate_left; (focus (intro w hSw; (try dsimp only at hSw); go_simp; (try with_reducible rfl))); (try simp only [Act.put, List.getElem_toArray, List.getElem_cons_zero, List.getElem_cons_succ, List.setIfInBounds_toArray, List.set_cons_zero, List.set_cons_succ])
        refine wpAnyT_take (i := 5) (oi := _) (v := ?_) rfl (by kernel_rfl) (fun _ _ _ h => h) (Or.inl ⟨by kernel_rfl, ?_⟩) (by assumption) ?_; rotate_left; (focus (intro w hSw; (try dsimp only at hSw); go_simp; (try with_reducible rfl))); (try simp only [Act.put, List.getElem_toArray, List.getElem_cons_zero, List.getElem_cons_succ, List.setIfInBounds_toArray, List.set_cons_zero, List.set_cons_succ])
        refine wpAnyT_take (i := 6) (oi := _) (v := ?_) rfl (by kernel_rfl) (fun _ _ _ h => h) (Or.inl ⟨by kernel_rfl, ?_⟩) (by assumption) ?_; rotate_left; (focus (intro w hSw; (try dsimp only at hSw); go_simp; (try with_reducible rfl))); (try simp only [Act.put, List.getElem_toArray, List.getElem_cons_zero, List.getElem_cons_succ, List.setIfInBounds_toArray, List.set_cons_zero, List.set_cons_succ])
        refine wpAnyT_take (i := 7) (oi := _) (v := ?_) rfl (by kernel_rfl) (fun _ _ _ h => h) (Or.inl ⟨by kernel_rfl, ?_⟩) (by assumption) ?_; rotate_left; (focus (intro w hSw; (try dsimp only at hSw); go_simp; (try with_reducible rfl))); (try simp only [Act.put, List.getElem_toArray, List.getElem_cons_zero, List.getElem_cons_succ, List.setIfInBounds_toArray, List.set_cons_zero, List.set_cons_succ])
        refine wpAnyT_take (i := 8) (oi := _) (v := ?_) rfl (by kernel_rfl) (fun _ _ _ h => h) (Or.inl ⟨by kernel_rfl, ?_⟩) (by assumption) ?_; rotate_left; (focus (intro w hSw; (try dsimp only at hSw); go_simp; (try with_reducible rfl))); (try simp only [Act.put, List.getElem_toArray, List.getElem_cons_zero, List.getElem_cons_succ, List.setIfInBounds_toArray, List.set_cons_zero, List.set_cons_succ])
        refine wpAnyT_take (i := 9) (oi := _) (v := ?_) rfl (by kernel_rfl) (fun _ _ _ h => h) (Or.inl ⟨by kernel_rfl, ?_⟩) (by assumption) ?_; rotate_left; (focus (intro w hSw; (try dsimp only at hSw); go_simp; (try with_reducible rfl))); (try simp only [Act.put, List.getElem_toArray, List.getElem_cons_zero, List.getElem_cons_succ, List.setIfInBounds_toArray, List.set_cons_zero, List.set_cons_succ])
        refine wpAnyT_take (i := 10) (oi := _) (v := ?_) rfl (by kernel_rfl) (fun _ _ _ h => h) (Or.inl ⟨by kernel_rfl, ?_⟩) (by assumption) ?_; rotate_left; (focus (intro w hSw; (try dsimp only at hSw); go_simp; (try with_reducible rfl))); (try simp only [Act.put, List.getElem_toArray, List.getElem_cons_zero, List.getElem_cons_succ, List.setIfInBounds_toArray, List.set_cons_zero, List.set_cons_succ])
        refine wpAnyT_take (i := 11) (oi := _) (v := undef) rfl (by kernel_rfl) (fun _ _ _ h => h) (Or.inr ⟨by kernel_rfl, rfl⟩) (by assumption) ?_; (try simp only [Act.put, List.getElem_toArray, List.getElem_cons_zero, List.getElem_cons_succ, List.setIfInBounds_toArray, List.set_cons_zero, List.set_cons_succ])
        refine wpAnyT_take (i := 12) (oi := _) (v := undef) rfl (by kernel_rfl) (fun _ _ _ h => h) (Or.inr ⟨by kernel_rfl, rfl⟩) (by assumption) ?_; (try simp only [Act.put, List.getElem_toArray, List.getElem_cons_zero, List.getElem_cons_succ, List.setIfInBounds_toArray, List.set_cons_zero, List.set_cons_succ])
        refine wpAnyT_take (i := 13) (oi := _) (v := undef) rfl (by kernel_rfl) (fun _ _ _ h => h) (Or.inr ⟨by kernel_rfl, rfl⟩) (by assumption) ?_; (try simp only [Act.put, List.getElem_toArray, List.getElem_cons_zero, List.getElem_cons_succ, List.setIfInBounds_toArray, List.set_cons_zero, List.set_cons_succ])
        refine wpAnyT_take (i := 14) (oi := _) (v := undef) rfl (by kernel_rfl) (fun _ _ _ h => h) (Or.inr ⟨by kernel_rfl, rfl⟩) (by assumption) ?_; (try simp only [Act.put, List.getElem_toArray, List.getElem_cons_zero, List.getElem_cons_succ, List.setIfInBounds_toArray, List.set_cons_zero, List.set_cons_succ])
        refine wpAnyT_take (i := 15) (oi := _) (v := undef) rfl (by kernel_rfl) (fun _ _ _ h => h) (Or.inr ⟨by kernel_rfl, rfl⟩) (by assumption) ?_; (try simp only [Act.put, List.getElem_toArray, List.getElem_cons_zero, List.getElem_cons_succ, List.setIfInBounds_toArray, List.set_cons_zero, List.set_cons_succ])
        refine wpAnyT_take (i := 16) (oi := _) (v := undef) rfl (by kernel_rfl) (fun _ _ _ h => h) (Or.inr ⟨by kernel_rfl, rfl⟩) (by assumption) ?_; (try simp only [Act.put, List.getElem_toArray, List.getElem_cons_zero, List.getElem_cons_succ, List.setIfInBounds_toArray, List.set_cons_zero, List.set_cons_succ])
        refine wpAnyT_take (i := 17) (oi := _) (v := undef) rfl (by kernel_rfl) (fun _ _ _ h => h) (Or.inr ⟨by kernel_rfl, rfl⟩) (by assumption) ?_; (try simp only [Act.put, List.getElem_toArray, List.getElem_cons_zero, List.getElem_cons_succ, List.setIfInBounds_toArray, List.set_cons_zero, List.set_cons_succ])
        refine wpAnyT_take (i := 18) (oi := _) (v := undef) rfl (by kernel_rfl) (fun _ _ _ h => h) (Or.inr ⟨by kernel_rfl, rfl⟩) (by assumption) ?_; (try simp only [Act.put, List.getElem_toArray, List.getElem_cons_zero, List.getElem_cons_succ, List.setIfInBounds_toArray, List.set_cons_zero, List.set_cons_succ])
        refine wpAnyT_take (i := 19) (oi := _) (v := undef) rfl (by kernel_rfl) (fun _ _ _ h => h) (Or.inr ⟨by kernel_rfl, rfl⟩) (by assumption) ?_; (try simp only [Act.put, List.getElem_toArray, List.getElem_cons_zero, List.getElem_cons_succ, List.setIfInBounds_toArray, List.set_cons_zero, List.set_cons_succ])
        refine wpAnyT_take (i := 20) (oi := _) (v := ?_) rfl (by kernel_rfl) (fun _ _ _ h => h) (Or.inl ⟨by kernel_rfl, ?_⟩) (by assumption) ?_; rotate_left; (focus (intro w hSw; (try dsimp only at hSw); go_simp; (try with_reducible rfl))); (try simp only [Act.put, List.getElem_toArray, List.getElem_cons_zero, List.getElem_cons_succ, List.setIfInBounds_toArray, List.set_cons_zero, List.set_cons_succ])
        refine wpAnyT_done (by kernel_rfl) ?_ _
        have HF8 := Lib.hid (HFq.out.on HW0.out)
        clear hHeld k1 k2
        go_wp2_with fail
        refine (bad_calls wd 9).mono ?_
        rintro e wb ⟨rfl, hbb⟩
        have HXB := Lib.hid (HF8.out.on hbb)
        clear hbb
        unfold errV
        have q0 : wb.cell? ⟨w.heap.size + 1, 0, none⟩ = some (.int .i64 0) := HXB.out.b4.cell 0
        have p0 : wb.frozen? ⟨w.heap.size + 1, 0, none⟩ = false := HXB.out.b4.frozen 0
        have q1 : wb.cell? ⟨w.heap.size + 1, 1, none⟩ = some (.slice none 0 0) := HXB.out.b4.cell 1
        have p1 : wb.frozen? ⟨w.heap.size + 1, 1, none⟩ = false := HXB.out.b4.frozen 1
        have q2 : wb.cell? ⟨w.heap.size + 1, 2, none⟩ = some (.int .i64 0) := HXB.out.b4.cell 2
        have p2 : wb.frozen? ⟨w.heap.size + 1, 2, none⟩ = false := HXB.out.b4.frozen 2
        have q3 : wb.cell? ⟨w.heap.size + 1, 3, none⟩ = some (.int .i64 0) := HXB.out.b4.cell 3
        have p3 : wb.frozen? ⟨w.heap.size + 1, 3, none⟩ = false := HXB.out.b4.frozen 3
        have q4 : wb.cell? ⟨w.heap.size + 1, 4, none⟩ = some (.int .i64 0) := HXB.out.b4.cell 4
        have p4 : wb.frozen? ⟨w.heap.size + 1, 4, none⟩ = false := HXB.out.b4.frozen 4
        have q5 : wb.cell? ⟨w.heap.size + 1, 5, none⟩ = some (.slice none 0 0) := HXB.out.b4.cell 5
        have p5 : wb.frozen? ⟨w.heap.size + 1, 5, none⟩ = false := HXB.out.b4.frozen 5
        have q6 : wb.cell? ⟨w.heap.size + 1, 6, none⟩ = some (.bool false) := HXB.out.b4.cell 6
        have p6 : wb.frozen? ⟨w.heap.size + 1, 6, none⟩ = false := HXB.out.b4.frozen 6
        go_wp2
        obtain ⟨hw, hT, hK⟩ := HXB.out.fin (.int .i64 9) (.slice none 0 0) (.int .i64 0) (.int .i64 0) (.int .i64 0) (.slice none 0 0) (.bool false)
        unfold set7 at hw hT hK
        refine bodyPost_ret (results_cell_row rfl _ _ (w.heap.size + 1) 43 #[(.int .i64 9), (.slice none 0 0), (.int .i64 0), (.int .i64 0), (.int .i64 0), (.slice none 0 0), (.bool false)] (0, 0) _ rfl hw Tryz.underlying43 rfl (by kernel_rfl)) rfl ?_
        exact ⟨_, _, rfl, by rw [HRR.out]; exact rep_plain 9 0 0 0, hT, by rw [HRR.out]; exact HSIM.out⟩
      have d5 : decide ((512 : Int) ≤ (R.objs.length : Int)) = false := dcf (by omega)
      have HNC : Hid (¬ s.crowded x.key = true) := Lib.hid (by unfold PS.crowded; rw [HSF.out, ← HSIM.out.olen, dcf hfull]; simp)
      clear hfull
      by_cases h4 : 4194304 < (R.size : Int) + (x.d.length : Int)
      · have d4 := dct h4
        have hpe : pe = 9 := by rw [HP2.out, if_pos (.inr (by omega))]
        have HRR : Hid (r = (s, bad 9)) := Lib.hid (by rw [HR.out, hpe, if_neg (by decide)])
        clear HR HP2 hpe h4
        go_upto_region 14 with fail
        have Hk : Hid (∀ W, Below wq.heap.size wq W → W.cell? ⟨w.heap.size, 2, none⟩ = some (.slice x.A x.d.length x.c) ∧ W.cell? ⟨R.g, 0, none⟩ = some (.slice R.AO R.objs.length R.cO)) := Lib.hid fun W hW => ⟨(HFq.out.on hW).b3.cell 2, (HFq.out.on hW).at_.blk.cell 0⟩
        have HSZ : Hid (∀ W, Below wq.heap.size wq W → Calls Tryz.prog 27 #[.pointer (some ⟨R.g, 0, none⟩)] W fun e w' => e = .returned (.int .i64 (R.size : Nat)) ∧ Below W.heap.size W w') := Lib.hid fun W hW => HSIM.out.sizeR (HFq.out.on hW).at_ HI.out hn
        refine wp_region_T 99 (fun w' => w'.cell? ⟨w.heap.size, 2, none⟩ = some (.slice x.A x.d.length x.c) ∧ w'.cell? ⟨R.g, 0, none⟩ = some (.slice R.AO R.objs.length R.cO)) (by kernel_rfl) (Hk.out _ (below_drewN_ (Below.refl _ _) 1)) (fun hHeld => ?_)
        have HW0 : Hid (Below wq.heap.size wq wq.drew) := Lib.hid (below_drewN_ (Below.refl _ _) 1)
        generalize wq.drew = wd at *
        refine wpAnyT_take (i := 0) (oi := _) (v := ?_) rfl (by kernel_rfl) (fun _ _ _ h => h) (Or.inl ⟨by kernel_rfl, ?_⟩) (by assumption) ?_; rotate_left; (focus (intro w hSw; (try dsimp only at hSw); go_simp; (try with_reducible rfl))); (try simp only [Act.put, List.getElem_toArray, List.getElem_cons_zero, List.setIfInBounds_toArray, List.set_cons_zero, List.set_cons_succ])
        refine wpAnyT_take (i := 1) (oi := _) (v := ?_) rfl (by kernel_rfl) (fun _ _ _ h => h) (Or.inl ⟨by kernel_rfl, ?_⟩) (by assumption) ?_; rotate_left; (focus (intro w hSw; (try dsimp only at hSw); go_simp; (try with_reducible rfl))); (try simp only [Act.put, List.getElem_toArray, List.getElem_cons_zero, List.getElem_cons_succ, List.setIfInBounds_toArray, List.set_cons_zero, List.set_cons_succ])
        refine wpAnyT_take (i := 2) (oi := _) (v := ?_) rfl (by kernel_rfl) (fun _ _ _ h => h) (Or.inl ⟨by kernel_rfl, ?_⟩) (by assumption) ?_; rotate_left; (focus (intro w hSw; (try dsimp only at hSw); go_simp; (try with_reducible rfl))); (try simp only [Act.put, List.getElem_toArray, List.getElem_cons_zero, List.getElem_cons_succ, List.setIfInBounds_toArray, List.set_cons_zero, List.set_cons_succ])
        refine wpAnyT_take (i := 3) (oi := _) (v := ?_) rfl (by kernel_rfl) (fun _ _ _ h => h) (Or.inl ⟨by kernel_rfl, ?_⟩) (by assumption) ?_; rotate_left; (focus (intro w hSw; (try dsimp only at hSw); go_simp; (try with_reducible rfl))); (try simp only [Act.put, List.getElem_toArray, List.getElem_cons_zero, List.getElem_cons_succ, List.setIfInBounds_toArray, List.set_cons_zero, List.set_cons_succ])
        refine wpAnyT_take (i := 4) (oi := _) (v := ?_) rfl (by kernel_rfl) (fun _ _ _ h => h) (Or.inl ⟨by kernel_rfl, ?_⟩) (by assumption) ?_; rotate_left; (focus (intro w hSw; (try dsimp only at hSw); go_simp; (try with_reducible rfl))); (try simp only [Act.put, List.getElem_toArray, List.getElem_cons_zero, List.getElem_cons_succ, List.setIfInBounds_toArray, List.set_cons_zero, List.set_cons_succ])
        refine wpAnyT_take (i := 5) (oi := _) (v := ?_) rfl (by kernel_rfl) (fun _ _ _ h => h) (Or.inl ⟨by kernel_rfl, ?_⟩) (by assumption) ?_; rotate_left; (focus (intro w hSw; (try dsimp only at hSw); go_simp; (try with_reducible rfl))); (try simp only [Act.put, List.getElem_toArray, List.getElem_cons_zero, List.getElem_cons_succ, List.setIfInBounds_toArray, List.set_cons_zero, List.set_cons_succ])
        refine wpAnyT_take (i := 6) (oi := _) (v := ?_) rfl (by kernel_rfl) (fun _ _ _ h => h) (Or.inl ⟨by kernel_rfl, ?_⟩) (by assumption) ?_; rotate_left; (focus (intro w hSw; (try dsimp only at hSw); go_simp; (try with_reducible rfl))); (try simp only [Act.put, List.getElem_toArray, List.getElem_cons_zero, List.getElem_cons_succ, List.setIfInBounds_toArray, List.set_cons_zero, List.set_cons_succ])
        refine wpAnyT_take (i := 7) (oi := _) (v := ?_) rfl (by kernel_rfl) (fun _ _ _ h => h) (Or.inl ⟨by kernel_rfl, ?_⟩) (by assumption) ?_; rotate_left; (focus (intro w hSw; (try dsimp only at hSw); go_simp; (try with_reducible rfl))); (try simp only [Act.put, List.getElem_toArray, List.getElem_cons_zero, List.getElem_cons_succ, List.setIfInBounds_toArray, List.set_cons_zero, List.set_cons_succ])
        refine wpAnyT_take (i := 8) (oi := _) (v := ?_) rfl (by kernel_rfl) (fun _ _ _ h => h) (Or.inl ⟨by kernel_rfl, ?_⟩) (by assumption) ?_; rotate_left; (focus (intro w hSw; (try dsimp only at hSw); go_simp; (try with_reducible rfl))); (try simp only [Act.put, List.getElem_toArray, List.getElem_cons_zero, List.getElem_cons_succ, List.setIfInBounds_toArray, List.set_cons_zero, List.set_cons_succ])
        refine wpAnyT_take (i := 9) (oi := _) (v := ?_) rfl (by kernel_rfl) (fun _ _ _ h => h) (Or.inl ⟨by kernel_rfl, ?_⟩) (by assumption) ?_; rotate_left; (focus (intro w hSw; (try dsimp only at hSw); go_simp; (try with_reducible rfl))); (try simp only [Act.put, List.getElem_toArray, List.getElem_cons_zero, List.getElem_cons_succ, List.setIfInBounds_toArray, List.set_cons_zero, List.set_cons_succ])
        refine wpAnyT_take (i := 10) (oi := _) (v := ?_) rfl (by kernel_rfl) (fun _ _ _ h => h) (Or.inl ⟨by kernel_rfl, ?_⟩) (by assumption) ?_; rotate_left; (focus (intro w hSw; (try dsimp only at hSw); go_simp; (try with_reducible rfl))); (try simp only [Act.put, List.getElem_toArray, List.getElem_cons_zero, List.getElem_cons_succ, List.setIfInBounds_toArray, List.set_cons_zero, List.set_cons_succ])
        refine wpAnyT_take (i := 11) (oi := _) (v := ?_) rfl (by kernel_rfl) (fun _ _ _ h => h) (Or.inl ⟨by kernel_rfl, ?_⟩) (by assumption) ?_; rotate_left; (focus (intro w hSw; (try dsimp only at hSw); go_simp; (try with_reducible rfl))); (try simp only [Act.put, List.getElem_toArray, List.getElem_cons_zero, List.getElem_cons_succ, List.setIfInBounds_toArray, List.set_cons_zero, List.set_cons_succ])
        refine wpAnyT_take (i := 13) (oi := _) (v := ?_) rfl (by kernel_rfl) (fun _ _ _ h => h) (Or.inl ⟨by kernel_rfl, ?_⟩) (by assumption) ?_; rotate_left; (focus (intro w hSw; (try dsimp only at hSw); go_simp; (try with_reducible rfl))); (try simp only [Act.put, List.getElem_toArray, List.getElem_cons_zero, List.getElem_cons_succ, List.setIfInBounds_toArray, List.set_cons_zero, List.set_cons_succ])
        refine wpAnyT_take (i := 15) (oi := _) (v := ?_) rfl (by kernel_rfl) (fun _ _ _ h => h) (Or.inl ⟨by kernel_rfl, ?_⟩) (by assumption) ?_; rotate_left; (focus (intro w hSw; (try dsimp only at hSw); go_simp; (try with_reducible rfl))); (try simp only [Act.put, List.getElem_toArray, List.getElem_cons_zero, List.getElem_cons_succ, List.setIfInBounds_toArray, List.set_cons_zero, List.set_cons_succ])
        refine wpAnyT_take (i := 16) (oi := _) (v := ?_) rfl (by kernel_rfl) (fun _ _ _ h => h) (Or.inl ⟨by kernel_rfl, ?_⟩) (by assumption) ?_; rotate_left; (focus (intro w hSw; (try dsimp only at hSw); go_simp; (try with_reducible rfl))); (try simp only [Act.put, List.getElem_toArray, List.getElem_cons_zero, List.getElem_cons_succ, List.setIfInBounds_toArray, List.set_cons_zero, List.set_cons_succ])
        refine wpAnyT_take (i := 17) (oi := _) (v := ?_) rfl (by kernel_rfl) (fun _ _ _ h => h) (Or.inl ⟨by kernel_rfl, ?_⟩) (by assumption) ?_; rotate_left; (focus (intro w hSw; (try dsimp only at hSw); go_simp; (try with_reducible rfl))); (try simp only [Act.put, List.getElem_toArray, List.getElem_cons_zero, List.getElem_cons_succ, List.setIfInBounds_toArray, List.set_cons_zero, List.set_cons_succ])
        refine wpAnyT_one (i := 12) (by kernel_rfl) rfl (fun K hK => ?_); go_simp
        refine (HSZ.out _ HW0.out).mono ?_
        rintro e w8 ⟨rfl, hb8'⟩
        have hb8 := HW0.out.trans (hb8'.mono HW0.out.size)
        have hH8 := Hk.out _ hb8
        refine hK.out _ _ (fun _ => hH8) ?_
        have HF8 := Lib.hid (HFq.out.on hb8)
        clear hK K hHeld hb8 hb8' HSZ Hk HW0
        (try simp only [Act.put, List.getElem_toArray, List.getElem_cons_zero, List.getElem_cons_succ, List.setIfInBounds_toArray, List.set_cons_zero, List.set_cons_succ])
        refine wpAnyT_take (i := 14) (oi := _) (v := ?_) rfl (by kernel_rfl) (fun _ _ _ h => h) (Or.inl ⟨by kernel_rfl, ?_⟩) (by assumption) ?_; rotate_left; (focus (intro w hSw; (try dsimp only at hSw); go_simp; (try with_reducible rfl))); (try simp only [Act.put, List.getElem_toArray, List.getElem_cons_zero, List.getElem_cons_succ, List.setIfInBounds_toArray, List.set_cons_zero, List.set_cons_succ])
        refine wpAnyT_take (i := 18) (oi := _) (v := ?_) rfl (by kernel_rfl) (fun _ _ _ h => h) (Or.inl ⟨by kernel_rfl, ?_⟩) (by assumption) ?_; rotate_left; (focus (intro w hSw; (try dsimp only at hSw); go_simp; (try with_reducible rfl))); (try simp only [Act.put, List.getElem_toArray, List.getElem_cons_zero, List.getElem_cons_succ, List.setIfInBounds_toArray, List.set_cons_zero, List.set_cons_succ])
        refine wpAnyT_take (i := 19) (oi := _) (v := ?_) rfl (by kernel_rfl) (fun _ _ _ h => h) (Or.inl ⟨by kernel_rfl, ?_⟩) (by assumption) ?_; rotate_left; (focus (intro w hSw; (try dsimp only at hSw); go_simp; (try with_reducible rfl))); (try simp only [Act.put, List.getElem_toArray, List.getElem_cons_zero, List.getElem_cons_succ, List.setIfInBounds_toArray, List.set_cons_zero, List.set_cons_succ])
        refine wpAnyT_take (i := 20) (oi := _) (v := ?_) rfl (by kernel_rfl) (fun _ _ _ h => h) (Or.inl ⟨by kernel_rfl, ?_⟩) (by assumption) ?_; rotate_left; (focus (intro w hSw; (try dsimp only at hSw); go_simp; (try with_reducible rfl))); (try simp only [Act.put, List.getElem_toArray, List.getElem_cons_zero, List.getElem_cons_succ, List.setIfInBounds_toArray, List.set_cons_zero, List.set_cons_succ])
        refine wpAnyT_done (by kernel_rfl) ?_ _
        clear hH8 k1 k2
        go_wp2_with fail
        refine (bad_calls w8 9).mono ?_
        rintro e wb ⟨rfl, hbb⟩
        have HXB := Lib.hid (HF8.out.on hbb)
        clear hbb
        unfold errV
        have q0 : wb.cell? ⟨w.heap.size + 1, 0, none⟩ = some (.int .i64 0) := HXB.out.b4.cell 0
        have p0 : wb.frozen? ⟨w.heap.size + 1, 0, none⟩ = false := HXB.out.b4.frozen 0
        have q1 : wb.cell? ⟨w.heap.size + 1, 1, none⟩ = some (.slice none 0 0) := HXB.out.b4.cell 1
        have p1 : wb.frozen? ⟨w.heap.size + 1, 1, none⟩ = false := HXB.out.b4.frozen 1
        have q2 : wb.cell? ⟨w.heap.size + 1, 2, none⟩ = some (.int .i64 0) := HXB.out.b4.cell 2
        have p2 : wb.frozen? ⟨w.heap.size + 1, 2, none⟩ = false := HXB.out.b4.frozen 2
        have q3 : wb.cell? ⟨w.heap.size + 1, 3, none⟩ = some (.int .i64 0) := HXB.out.b4.cell 3
        have p3 : wb.frozen? ⟨w.heap.size + 1, 3, none⟩ = false := HXB.out.b4.frozen 3
        have q4 : wb.cell? ⟨w.heap.size + 1, 4, none⟩ = some (.int .i64 0) := HXB.out.b4.cell 4
        have p4 : wb.frozen? ⟨w.heap.size + 1, 4, none⟩ = false := HXB.out.b4.frozen 4
        have q5 : wb.cell? ⟨w.heap.size + 1, 5, none⟩ = some (.slice none 0 0) := HXB.out.b4.cell 5
        have p5 : wb.frozen? ⟨w.heap.size + 1, 5, none⟩ = false := HXB.out.b4.frozen 5
        have q6 : wb.cell? ⟨w.heap.size + 1, 6, none⟩ = some (.bool false) := HXB.out.b4.cell 6
        have p6 : wb.frozen? ⟨w.heap.size + 1, 6, none⟩ = false := HXB.out.b4.frozen 6
        go_wp2
        obtain ⟨hw, hT, hK⟩ := HXB.out.fin (.int .i64 9) (.slice none 0 0) (.int .i64 0) (.int .i64 0) (.int .i64 0) (.slice none 0 0) (.bool false)
        unfold set7 at hw hT hK
        refine bodyPost_ret (results_cell_row rfl _ _ (w.heap.size + 1) 43 #[(.int .i64 9), (.slice none 0 0), (.int .i64 0), (.int .i64 0), (.int .i64 0), (.slice none 0 0), (.bool false)] (0, 0) _ rfl hw Tryz.underlying43 rfl (by kernel_rfl)) rfl ?_
        exact ⟨_, _, rfl, by rw [HRR.out]; exact rep_plain 9 0 0 0, hT, by rw [HRR.out]; exact HSIM.out⟩
      have d4 := dcf h4
      have hpe : pe = 0 := by rw [HP2.out, if_neg (by rintro (h | h); exact absurd h HNC.out; exact h4 (by omega))]
      have HRR : Hid (r = (s.made x.key x.d, ⟨0, [], s.ver + 1, s.now, 0, [], false⟩)) := Lib.hid (by rw [HR.out, hpe, if_pos rfl])
      clear HR HP2 hpe h4
      go_upto_region 14 with fail
      have Hk : Hid (∀ W, Below wq.heap.size wq W → W.cell? ⟨w.heap.size, 2, none⟩ = some (.slice x.A x.d.length x.c) ∧ W.cell? ⟨R.g, 0, none⟩ = some (.slice R.AO R.objs.length R.cO)) := Lib.hid fun W hW => ⟨(HFq.out.on hW).b3.cell 2, (HFq.out.on hW).at_.blk.cell 0⟩
      have HSZ : Hid (∀ W, Below wq.heap.size wq W → Calls Tryz.prog 27 #[.pointer (some ⟨R.g, 0, none⟩)] W fun e w' => e = .returned (.int .i64 (R.size : Nat)) ∧ Below W.heap.size W w') := Lib.hid fun W hW => HSIM.out.sizeR (HFq.out.on hW).at_ HI.out hn
      refine wp_region_T 99 (fun w' => w'.cell? ⟨w.heap.size, 2, none⟩ = some (.slice x.A x.d.length x.c) ∧ w'.cell? ⟨R.g, 0, none⟩ = some (.slice R.AO R.objs.length R.cO)) (by kernel_rfl) (Hk.out _ (below_drewN_ (Below.refl _ _) 1)) (fun hHeld => ?_)
      have HW0 : Hid (Below wq.heap.size wq wq.drew) := Lib.hid (below_drewN_ (Below.refl _ _) 1)
      generalize wq.drew = wd at *
      refine wpAnyT_take (i := 0) (oi := _) (v := ?_) rfl (by kernel_rfl) (fun _ _ _ h => h) (Or.inl ⟨by kernel_rfl, ?_⟩) (by assumption) ?_; rotate_left; (focus (intro w hSw; (try dsimp only at hSw); go_simp; (try with_reducible rfl))); (try simp only [Act.put, List.getElem_toArray, List.getElem_cons_zero, List.setIfInBounds_toArray, List.set_cons_zero, List.set_cons_succ])
      refine wpAnyT_take (i := 1) (oi := _) (v := ?_) rfl (by kernel_rfl) (fun _ _ _ h => h) (Or.inl ⟨by kernel_rfl, ?_⟩) (by assumption) ?_; rotate_left; (focus (intro w hSw; (try dsimp only at hSw); go_simp; (try with_reducible rfl))); (try simp only [Act.put, List.getElem_toArray, List.getElem_cons_zero, List.getElem_cons_succ, List.setIfInBounds_toArray, List.set_cons_zero, List.set_cons_succ])
      refine wpAnyT_take (i := 2) (oi := _) (v := ?_) rfl (by kernel_rfl) (fun _ _ _ h => h) (Or.inl ⟨by kernel_rfl, ?_⟩) (by assumption) ?_; rotate_left; (focus (intro w hSw; (try dsimp only at hSw); go_simp; (try with_reducible rfl))); (try simp only [Act.put, List.getElem_toArray, List.getElem_cons_zero, List.getElem_cons_succ, List.setIfInBounds_toArray, List.set_cons_zero, List.set_cons_succ])
      refine wpAnyT_take (i := 3) (oi := _) (v := ?_) rfl (by kernel_rfl) (fun _ _ _ h => h) (Or.inl ⟨by kernel_rfl, ?_⟩) (by assumption) ?_; rotate_left; (focus (intro w hSw; (try dsimp only at hSw); go_simp; (try with_reducible rfl))); (try simp only [Act.put, List.getElem_toArray, List.getElem_cons_zero, List.getElem_cons_succ, List.setIfInBounds_toArray, List.set_cons_zero, List.set_cons_succ])
      refine wpAnyT_take (i := 4) (oi := _) (v := ?_) rfl (by kernel_rfl) (fun _ _ _ h => h) (Or.inl ⟨by kernel_rfl, ?_⟩) (by assumption) ?_; rotate_left; (focus (intro w hSw; (try dsimp only at hSw); go_simp; (try with_reducible rfl))); (try simp only [Act.put, List.getElem_toArray, List.getElem_cons_zero, List.getElem_cons_succ, List.setIfInBounds_toArray, List.set_cons_zero, List.set_cons_succ])
      refine wpAnyT_take (i := 5) (oi := _) (v := ?_) rfl (by kernel_rfl) (fun _ _ _ h => h) (Or.inl ⟨by kernel_rfl, ?_⟩) (by assumption) ?_; rotate_left; (focus (intro w hSw; (try dsimp only at hSw); go_simp; (try with_reducible rfl))); (try simp only [Act.put, List.getElem_toArray, List.getElem_cons_zero, List.getElem_cons_succ, List.setIfInBounds_toArray, List.set_cons_zero, List.set_cons_succ])
      refine wpAnyT_take (i := 6) (oi := _) (v := ?_) rfl (by kernel_rfl) (fun _ _ _ h => h) (Or.inl ⟨by kernel_rfl, ?_⟩) (by assumption) ?_; rotate_left; (focus (intro w hSw; (try dsimp only at hSw); go_simp; (try with_reducible rfl))); (try simp only [Act.put, List.getElem_toArray, List.getElem_cons_zero, List.getElem_cons_succ, List.setIfInBounds_toArray, List.set_cons_zero, List.set_cons_succ])
      refine wpAnyT_take (i := 7) (oi := _) (v := ?_) rfl (by kernel_rfl) (fun _ _ _ h => h) (Or.inl ⟨by kernel_rfl, ?_⟩) (by assumption) ?_; rotate_left; (focus (intro w hSw; (try dsimp only at hSw); go_simp; (try with_reducible rfl))); (try simp only [Act.put, List.getElem_toArray, List.getElem_cons_zero, List.getElem_cons_succ, List.setIfInBounds_toArray, List.set_cons_zero, List.set_cons_succ])
      refine wpAnyT_take (i := 8) (oi := _) (v := ?_) rfl (by kernel_rfl) (fun _ _ _ h => h) (Or.inl ⟨by kernel_rfl, ?_⟩) (by assumption) ?_; rotate_left; (focus (intro w hSw; (try dsimp only at hSw); go_simp; (try with_reducible rfl))); (try simp only [Act.put, List.getElem_toArray, List.getElem_cons_zero, List.getElem_cons_succ, List.setIfInBounds_toArray, List.set_cons_zero, List.set_cons_succ])
      refine wpAnyT_take (i := 9) (oi := _) (v := ?_) rfl (by kernel_rfl) (fun _ _ _ h => h) (Or.inl ⟨by kernel_rfl, ?_⟩) (by assumption) ?_; rotate_left; (focus (intro w hSw; (try dsimp only at hSw); go_simp; (try with_reducible rfl))); (try simp only [Act.put, List.getElem_toArray, List.getElem_cons_zero, List.getElem_cons_succ, List.setIfInBounds_toArray, List.set_cons_zero, List.set_cons_succ])
      refine wpAnyT_take (i := 10) (oi := _) (v := ?_) rfl (by kernel_rfl) (fun _ _ _ h => h) (Or.inl ⟨by kernel_rfl, ?_⟩) (by assumption) ?_; rotate_left; (focus (intro w hSw; (try dsimp only at hSw); go_simp; (try with_reducible rfl))); (try simp only [Act.put, List.getElem_toArray, List.getElem_cons_zero, List.getElem_cons_succ, List.setIfInBounds_toArray, List.set_cons_zero, List.set_cons_succ])
      refine wpAnyT_take (i := 11) (oi := _) (v := ?_) rfl (by kernel_rfl) (fun _ _ _ h => h) (Or.inl ⟨by kernel_rfl, ?_⟩) (by assumption) ?_; rotate_left; (focus (intro w hSw; (try dsimp only at hSw); go_simp; (try with_reducible rfl))); (try simp only [Act.put, List.getElem_toArray, List.getElem_cons_zero, List.getElem_cons_succ, List.setIfInBounds_toArray, List.set_cons_zero, List.set_cons_succ])
      refine wpAnyT_take (i := 13) (oi := _) (v := ?_) rfl (by kernel_rfl) (fun _ _ _ h => h) (Or.inl ⟨by kernel_rfl, ?_⟩) (by assumption) ?_; rotate_left; (focus (intro w hSw; (try dsimp only at hSw); go_simp; (try with_reducible rfl))); (try simp only [Act.put, List.getElem_toArray, List.getElem_cons_zero, List.getElem_cons_succ, List.setIfInBounds_toArray, List.set_cons_zero, List.set_cons_succ])
      refine wpAnyT_take (i := 15) (oi := _) (v := ?_) rfl (by kernel_rfl) (fun _ _ _ h => h) (Or.inl ⟨by kernel_rfl, ?_⟩) (by assumption) ?_; rotate_left; (focus (intro w hSw; (try dsimp only at hSw); go_simp; (try with_reducible rfl))); (try simp only [Act.put, List.getElem_toArray, List.getElem_cons_zero, List.getElem_cons_succ, List.setIfInBounds_toArray, List.set_cons_zero, List.set_cons_succ])
      refine wpAnyT_take (i := 16) (oi := _) (v := ?_) rfl (by kernel_rfl) (fun _ _ _ h => h) (Or.inl ⟨by kernel_rfl, ?_⟩) (by assumption) ?_; rotate_left; (focus (intro w hSw; (try dsimp only at hSw); go_simp; (try with_reducible rfl))); (try simp only [Act.put, List.getElem_toArray, List.getElem_cons_zero, List.getElem_cons_succ, List.setIfInBounds_toArray, List.set_cons_zero, List.set_cons_succ])
      refine wpAnyT_take (i := 17) (oi := _) (v := ?_) rfl (by kernel_rfl) (fun _ _ _ h => h) (Or.inl ⟨by kernel_rfl, ?_⟩) (by assumption) ?_; rotate_left; (focus (intro w hSw; (try dsimp only at hSw); go_simp; (try with_reducible rfl))); (try simp only [Act.put, List.getElem_toArray, List.getElem_cons_zero, List.getElem_cons_succ, List.setIfInBounds_toArray, List.set_cons_zero, List.set_cons_succ])
      refine wpAnyT_one (i := 12) (by kernel_rfl) rfl (fun K hK => ?_); go_simp
      refine (HSZ.out _ HW0.out).mono ?_
      rintro e w8 ⟨rfl, hb8'⟩
      have hb8 := HW0.out.trans (hb8'.mono HW0.out.size)
      have hH8 := Hk.out _ hb8
      refine hK.out _ _ (fun _ => hH8) ?_
      have HF8 := Lib.hid (HFq.out.on hb8)
      clear hK K hHeld hb8 hb8' HSZ Hk HW0
      (try simp only [Act.put, List.getElem_toArray, List.getElem_cons_zero, List.getElem_cons_succ, List.setIfInBounds_toArray, List.set_cons_zero, List.set_cons_succ])
      refine wpAnyT_take (i := 14) (oi := _) (v := ?_) rfl (by kernel_rfl) (fun _ _ _ h => h) (Or.inl ⟨by kernel_rfl, ?_⟩) (by assumption) ?_; rotate_left; (focus (intro w hSw; (try dsimp only at hSw); go_simp; (try with_reducible rfl))); (try simp only [Act.put, List.getElem_toArray, List.getElem_cons_zero, List.getElem_cons_succ, List.setIfInBounds_toArray, List.set_cons_zero, List.set_cons_succ])
      refine wpAnyT_take (i := 18) (oi := _) (v := ?_) rfl (by kernel_rfl) (fun _ _ _ h => h) (Or.inl ⟨by kernel_rfl, ?_⟩) (by assumption) ?_; rotate_left; (focus (intro w hSw; (try dsimp only at hSw); go_simp; (try with_reducible rfl))); (try simp only [Act.put, List.getElem_toArray, List.getElem_cons_zero, List.getElem_cons_succ, List.setIfInBounds_toArray, List.set_cons_zero, List.set_cons_succ])
      refine wpAnyT_take (i := 19) (oi := _) (v := ?_) rfl (by kernel_rfl) (fun _ _ _ h => h) (Or.inl ⟨by kernel_rfl, ?_⟩) (by assumption) ?_; rotate_left; (focus (intro w hSw; (try dsimp only at hSw); go_simp; (try with_reducible rfl))); (try simp only [Act.put, List.getElem_toArray, List.getElem_cons_zero, List.getElem_cons_succ, List.setIfInBounds_toArray, List.set_cons_zero, List.set_cons_succ])
      refine wpAnyT_take (i := 20) (oi := _) (v := ?_) rfl (by kernel_rfl) (fun _ _ _ h => h) (Or.inl ⟨by kernel_rfl, ?_⟩) (by assumption) ?_; rotate_left; (focus (intro w hSw; (try dsimp only at hSw); go_simp; (try with_reducible rfl))); (try simp only [Act.put, List.getElem_toArray, List.getElem_cons_zero, List.getElem_cons_succ, List.setIfInBounds_toArray, List.set_cons_zero, List.set_cons_succ])
      refine wpAnyT_done (by kernel_rfl) ?_ _
      clear hH8 k1 k2
      have k1 : w8.cell? ⟨w.heap.size, 1, none⟩ = some (.string x.key) := HF8.out.b3.cell 1
      have k2 : w8.cell? ⟨w.heap.size, 2, none⟩ = some (.slice x.A x.d.length x.c) := HF8.out.b3.cell 2
      have hv0 : 0 ≤ R.ver := by rw [HSIM.out.ver]; exact HI.out.v0
      have hv1 : R.ver ≤ 1000000 := by rw [HSIM.out.ver]; have := HI.out.v1; omega
      have HPC := Lib.hid (putR_calls (c := x.c) w8 HF8.out.at_ (Nat.le_trans hol (by omega)) x.key HF8.out.dat (Nat.le_refl _) HF8.out.out hx.d hv0 hv1)
      go_wp2_with fail
      refine HPC.out.mono ?_
      rintro e w11 ⟨rfl, A', c', AO', cO', hT2⟩
      have HXZ := Lib.hid (HF8.out.go hT2)
      have HSI := Lib.hid (HSIM.out.put (k := x.key) HRS.out A' c' x.d AO' cO')
      have HVN := Lib.hid (And.intro HSIM.out.ver HSIM.out.now)
      clear HPC hT2 k1 k2
      have q0 : w11.cell? ⟨w.heap.size + 1, 0, none⟩ = some (.int .i64 0) := HXZ.out.b4.cell 0
      have p0 : w11.frozen? ⟨w.heap.size + 1, 0, none⟩ = false := HXZ.out.b4.frozen 0
      have q1 : w11.cell? ⟨w.heap.size + 1, 1, none⟩ = some (.slice none 0 0) := HXZ.out.b4.cell 1
      have p1 : w11.frozen? ⟨w.heap.size + 1, 1, none⟩ = false := HXZ.out.b4.frozen 1
      have q2 : w11.cell? ⟨w.heap.size + 1, 2, none⟩ = some (.int .i64 0) := HXZ.out.b4.cell 2
      have p2 : w11.frozen? ⟨w.heap.size + 1, 2, none⟩ = false := HXZ.out.b4.frozen 2
      have q3 : w11.cell? ⟨w.heap.size + 1, 3, none⟩ = some (.int .i64 0) := HXZ.out.b4.cell 3
      have p3 : w11.frozen? ⟨w.heap.size + 1, 3, none⟩ = false := HXZ.out.b4.frozen 3
      have q4 : w11.cell? ⟨w.heap.size + 1, 4, none⟩ = some (.int .i64 0) := HXZ.out.b4.cell 4
      have p4 : w11.frozen? ⟨w.heap.size + 1, 4, none⟩ = false := HXZ.out.b4.frozen 4
      have q5 : w11.cell? ⟨w.heap.size + 1, 5, none⟩ = some (.slice none 0 0) := HXZ.out.b4.cell 5
      have p5 : w11.frozen? ⟨w.heap.size + 1, 5, none⟩ = false := HXZ.out.b4.frozen 5
      have q6 : w11.cell? ⟨w.heap.size + 1, 6, none⟩ = some (.bool false) := HXZ.out.b4.cell 6
      have p6 : w11.frozen? ⟨w.heap.size + 1, 6, none⟩ = false := HXZ.out.b4.frozen 6
      go_wp2
      obtain ⟨hw, hT, hK⟩ := HXZ.out.fin (.int .i64 0) (.slice none 0 0) (.int .i64 (R.ver + 1)) (.int .i64 R.now) (.int .i64 0) (.slice none 0 0) (.bool false)
      unfold set7 at hw hT hK
      refine bodyPost_ret (results_cell_row rfl _ _ (w.heap.size + 1) 43 #[(.int .i64 0), (.slice none 0 0), (.int .i64 (R.ver + 1)), (.int .i64 R.now), (.int .i64 0), (.slice none 0 0), (.bool false)] (0, 0) _ rfl hw Tryz.underlying43 rfl (by kernel_rfl)) rfl ?_
      refine ⟨_, _, rfl, ?_, hT, by rw [HRR.out]; exact HSI.out⟩
      rw [HRR.out]
      have e := rep_plain (base := w.heap.size) (w' := set7 w11 (w.heap.size + 1) (.int .i64 0) (.slice none 0 0) (.int .i64 (R.ver + 1)) (.int .i64 R.now) (.int .i64 0) (.slice none 0 0) (.bool false)) 0 (R.ver + 1) R.now 0
      rw [HVN.out.1, HVN.out.2] at e
      rw [HVN.out.1, HVN.out.2]
      exact e
    · have d1 : decide ((0 : Int) ≤ (i : Int)) = true := dct (by omega)
      have d1' : decide ((i : Int) < 0) = false := dcf (by omega)
      obtain ⟨o, ho⟩ : ∃ o, go R.objs i = o := ⟨_, rfl⟩
      rw [ho] at hm
      have HSF : Hid ((mget s.objs x.key).isSome = true) := Lib.hid (by rw [hm]; rfl)
      have HOB : Hid (((((mget s.objs x.key).getD po0).d.length : Nat) : Int) = ((o.d.length : Nat) : Int)) := Lib.hid (by rw [hm]; rfl)
      have HOV : Hid (((mget s.objs x.key).getD po0).ver = o.ver) := Lib.hid (by rw [hm]; rfl)
      have hod9 : o.d.length ≤ 262144 := HI.out.od _ (mget_mem hm)
      have HNC : Hid (¬ s.crowded x.key = true) := Lib.hid (by unfold PS.crowded; rw [HSF.out]; simp)
      have z0 : w1.cell? ⟨R.g, 0, none⟩ = some (.slice R.AO R.objs.length R.cO) := HF1.out.at_.blk.cell 0
      obtain ⟨b, off, e0, hbB, hcell⟩ := o_at HF1.out.at_.o_reads hi
      rw [ho] at hcell
      have x1 := hcell 1 _ (by omega) rfl
      have x2 := hcell 2 _ (by omega) rfl
      rw [e0] at z0
      have hi0 : (0 : Int) ≤ (i : Int) := by omega
      have hi1 : (i : Int) < (R.objs.length : Int) := by omega
      clear hcell hm HIX hkey
      go_upto_region 10 with fail
      go_quiet (fail)
      have HFq := Lib.hid (HF1.out.drewN nq)
      clear k0 k1 k2 k3 k4 k5 k6
      generalize w1.drewN nq = wq at *
      have k1 : wq.cell? ⟨w.heap.size, 1, none⟩ = some (.string x.key) := HFq.out.b3.cell 1
      have k2 : wq.cell? ⟨w.heap.size, 2, none⟩ = some (.slice x.A x.d.length x.c) := HFq.out.b3.cell 2
      clear z0 x1 x2 e0
      by_cases h3 : 262144 < x.d.length
      · have d3 : decide ((262144 : Int) < (x.d.length : Int)) = true := dct (by omega)
        have hpe : pe = 5 := by rw [HPE.out, if_neg (by rw [hr]; decide), if_neg (by rw [HK0.out]; rintro ⟨h, -⟩; omega), if_neg (by rw [HK0.out]; rintro ⟨h, -⟩; omega), if_pos h3]
        have HRR : Hid (r = (s, bad 5)) := Lib.hid (by rw [HR.out, hpe, if_neg (by decide)])
        clear HR HPE hpe h3
        go_wp2_with fail
        refine (bad_calls wq 5).mono ?_
        rintro e wb ⟨rfl, hbb⟩
        have HXB := Lib.hid (HFq.out.on hbb)
        clear hbb
        unfold errV
        have q0 : wb.cell? ⟨w.heap.size + 1, 0, none⟩ = some (.int .i64 0) := HXB.out.b4.cell 0
        have p0 : wb.frozen? ⟨w.heap.size + 1, 0, none⟩ = false := HXB.out.b4.frozen 0
        have q1 : wb.cell? ⟨w.heap.size + 1, 1, none⟩ = some (.slice none 0 0) := HXB.out.b4.cell 1
        have p1 : wb.frozen? ⟨w.heap.size + 1, 1, none⟩ = false := HXB.out.b4.frozen 1
        have q2 : wb.cell? ⟨w.heap.size + 1, 2, none⟩ = some (.int .i64 0) := HXB.out.b4.cell 2
        have p2 : wb.frozen? ⟨w.heap.size + 1, 2, none⟩ = false := HXB.out.b4.frozen 2
        have q3 : wb.cell? ⟨w.heap.size + 1, 3, none⟩ = some (.int .i64 0) := HXB.out.b4.cell 3
        have p3 : wb.frozen? ⟨w.heap.size + 1, 3, none⟩ = false := HXB.out.b4.frozen 3
        have q4 : wb.cell? ⟨w.heap.size + 1, 4, none⟩ = some (.int .i64 0) := HXB.out.b4.cell 4
        have p4 : wb.frozen? ⟨w.heap.size + 1, 4, none⟩ = false := HXB.out.b4.frozen 4
        have q5 : wb.cell? ⟨w.heap.size + 1, 5, none⟩ = some (.slice none 0 0) := HXB.out.b4.cell 5
        have p5 : wb.frozen? ⟨w.heap.size + 1, 5, none⟩ = false := HXB.out.b4.frozen 5
        have q6 : wb.cell? ⟨w.heap.size + 1, 6, none⟩ = some (.bool false) := HXB.out.b4.cell 6
        have p6 : wb.frozen? ⟨w.heap.size + 1, 6, none⟩ = false := HXB.out.b4.frozen 6
        go_wp2
        obtain ⟨hw, hT, hK⟩ := HXB.out.fin (.int .i64 5) (.slice none 0 0) (.int .i64 0) (.int .i64 0) (.int .i64 0) (.slice none 0 0) (.bool false)
        unfold set7 at hw hT hK
        refine bodyPost_ret (results_cell_row rfl _ _ (w.heap.size + 1) 43 #[(.int .i64 5), (.slice none 0 0), (.int .i64 0), (.int .i64 0), (.int .i64 0), (.slice none 0 0), (.bool false)] (0, 0) _ rfl hw Tryz.underlying43 rfl (by kernel_rfl)) rfl ?_
        exact ⟨_, _, rfl, by rw [HRR.out]; exact rep_plain 5 0 0 0, hT, by rw [HRR.out]; exact HSIM.out⟩
      have d3 : decide ((262144 : Int) < (x.d.length : Int)) = false := dcf (by omega)
      have HP2 : Hid (pe = if s.crowded x.key = true ∨ 4194304 < (R.size : Int) - ((o.d.length : Nat) : Int) + (x.d.length : Int) then 9 else 0) := Lib.hid (by rw [HPE.out, if_neg (by rw [hr]; decide), if_neg (by rw [HK0.out]; rintro ⟨h, -⟩; omega), if_neg (by rw [HK0.out]; rintro ⟨h, -⟩; omega), if_neg h3, HALL.out, HOB.out])
      have hdl9 : x.d.length ≤ 262144 := by omega
      clear HPE h3
      have hbig : R.size ≤ 262144000 := by rw [HSIM.out.size]; have := HI.out.big; omega
      have r1 : IntKind.i64.wrap ((R.size : Int) - (o.d.length : Int)) = ((R.size : Int) - (o.d.length : Int)) := by rw [IntKind.wrap_i64]; omega
      have r2 : IntKind.i64.wrap ((R.size : Int) - (o.d.length : Int) + (x.d.length : Int)) = ((R.size : Int) - (o.d.length : Int) + (x.d.length : Int)) := by rw [IntKind.wrap_i64]; omega
      by_cases h4 : 4194304 < (R.size : Int) - (o.d.length : Int) + (x.d.length : Int)
      · have d4 := dct h4
        have hpe : pe = 9 := by rw [HP2.out, if_pos (.inr (by omega))]
        have HRR : Hid (r = (s, bad 9)) := Lib.hid (by rw [HR.out, hpe, if_neg (by decide)])
        clear HR HP2 hpe h4
        go_upto_region 14 with fail
        have Hk : Hid (∀ W, Below wq.heap.size wq W → W.cell? ⟨w.heap.size, 2, none⟩ = some (.slice x.A x.d.length x.c) ∧ W.cell? ⟨R.g, 0, none⟩ = some (.slice R.AO R.objs.length R.cO)) := Lib.hid fun W hW => ⟨(HFq.out.on hW).b3.cell 2, (HFq.out.on hW).at_.blk.cell 0⟩
        have HSZ : Hid (∀ W, Below wq.heap.size wq W → Calls Tryz.prog 27 #[.pointer (some ⟨R.g, 0, none⟩)] W fun e w' => e = .returned (.int .i64 (R.size : Nat)) ∧ Below W.heap.size W w') := Lib.hid fun W hW => HSIM.out.sizeR (HFq.out.on hW).at_ HI.out hn
        refine wp_region_T 99 (fun w' => w'.cell? ⟨w.heap.size, 2, none⟩ = some (.slice x.A x.d.length x.c) ∧ w'.cell? ⟨R.g, 0, none⟩ = some (.slice R.AO R.objs.length R.cO)) (by kernel_rfl) (Hk.out _ (below_drewN_ (Below.refl _ _) 1)) (fun hHeld => ?_)
        have HW0 : Hid (Below wq.heap.size wq wq.drew) := Lib.hid (below_drewN_ (Below.refl _ _) 1)
        generalize wq.drew = wd at *
        refine wpAnyT_take (i := 0) (oi := _) (v := ?_) rfl (by kernel_rfl) (fun _ _ _ h => h) (Or.inl ⟨by kernel_rfl, ?_⟩) (by assumption) ?_; rotate_left; (focus (intro w hSw; (try dsimp only at hSw); go_simp; (try with_reducible rfl))); (try simp only [Act.put, List.getElem_toArray, List.getElem_cons_zero, List.setIfInBounds_toArray, List.set_cons_zero, List.set_cons_succ])
        refine wpAnyT_take (i := 1) (oi := _) (v := ?_) rfl (by kernel_rfl) (fun _ _ _ h => h) (Or.inl ⟨by kernel_rfl, ?_⟩) (by assumption) ?_; rotate_left; (focus (intro w hSw; (try dsimp only at hSw); go_simp; (try with_reducible rfl))); (try simp only [Act.put, List.getElem_toArray, List.getElem_cons_zero, List.getElem_cons_succ, List.setIfInBounds_toArray, List.set_cons_zero, List.set_cons_succ])
        refine wpAnyT_take (i := 2) (oi := _) (v := ?_) rfl (by kernel_rfl) (fun _ _ _ h => h) (Or.inl ⟨by kernel_rfl, ?_⟩) (by assumption) ?_; rotate_left; (focus (intro w hSw; (try dsimp only at hSw); go_simp; (try with_reducible rfl))); (try simp only [Act.put, List.getElem_toArray, List.getElem_cons_zero, List.getElem_cons_succ, List.setIfInBounds_toArray, List.set_cons_zero, List.set_cons_succ])
        refine wpAnyT_take (i := 3) (oi := _) (v := undef) rfl (by kernel_rfl) (fun _ _ _ h => h) (Or.inr ⟨by kernel_rfl, rfl⟩) (by assumption) ?_; (try simp only [Act.put, List.getElem_toArray, List.getElem_cons_zero, List.getElem_cons_succ, List.setIfInBounds_toArray, List.set_cons_zero, List.set_cons_succ])
        refine wpAnyT_take (i := 4) (oi := _) (v := undef) rfl (by kernel_rfl) (fun _ _ _ h => h) (Or.inr ⟨by kernel_rfl, rfl⟩) (by assumption) ?_; (try simp only [Act.put, List.getElem_toArray, List.getElem_cons_zero, List.getElem_cons_succ, List.setIfInBounds_toArray, List.set_cons_zero, List.set_cons_succ])
        refine wpAnyT_take (i := 5) (oi := _) (v := undef) rfl (by kernel_rfl) (fun _ _ _ h => h) (Or.inr ⟨by kernel_rfl, rfl⟩) (by assumption) ?_; (try simp only [Act.put, List.getElem_toArray, List.getElem_cons_zero, List.getElem_cons_succ, List.setIfInBounds_toArray, List.set_cons_zero, List.set_cons_succ])
        refine wpAnyT_take (i := 6) (oi := _) (v := undef) rfl (by kernel_rfl) (fun _ _ _ h => h) (Or.inr ⟨by kernel_rfl, rfl⟩) (by assumption) ?_; (try simp only [Act.put, List.getElem_toArray, List.getElem_cons_zero, List.getElem_cons_succ, List.setIfInBounds_toArray, List.set_cons_zero, List.set_cons_succ])
        refine wpAnyT_take (i := 7) (oi := _) (v := undef) rfl (by kernel_rfl) (fun _ _ _ h => h) (Or.inr ⟨by kernel_rfl, rfl⟩) (by assumption) ?_; (try simp only [Act.put, List.getElem_toArray, List.getElem_cons_zero, List.getElem_cons_succ, List.setIfInBounds_toArray, List.set_cons_zero, List.set_cons_succ])
        refine wpAnyT_take (i := 8) (oi := _) (v := undef) rfl (by kernel_rfl) (fun _ _ _ h => h) (Or.inr ⟨by kernel_rfl, rfl⟩) (by assumption) ?_; (try simp only [Act.put, List.getElem_toArray, List.getElem_cons_zero, List.getElem_cons_succ, List.setIfInBounds_toArray, List.set_cons_zero, List.set_cons_succ])
        refine wpAnyT_take (i := 9) (oi := _) (v := ?_) rfl (by kernel_rfl) (fun _ _ _ h => h) (Or.inl ⟨by kernel_rfl, ?_⟩) (by assumption) ?_; rotate_left; (focus (intro w hSw; (try dsimp only at hSw); go_simp; (try with_reducible rfl))); (try simp only [Act.put, List.getElem_toArray, List.getElem_cons_zero, List.getElem_cons_succ, List.setIfInBounds_toArray, List.set_cons_zero, List.set_cons_succ])
        refine wpAnyT_take (i := 10) (oi := _) (v := ?_) rfl (by kernel_rfl) (fun _ _ _ h => h) (Or.inl ⟨by kernel_rfl, ?_⟩) (by assumption) ?_; rotate_left; (focus (intro w hSw; (try dsimp only at hSw); go_simp; (try with_reducible rfl))); (try simp only [Act.put, List.getElem_toArray, List.getElem_cons_zero, List.getElem_cons_succ, List.setIfInBounds_toArray, List.set_cons_zero, List.set_cons_succ])
        refine wpAnyT_take (i := 11) (oi := _) (v := ?_) rfl (by kernel_rfl) (fun _ _ _ h => h) (Or.inl ⟨by kernel_rfl, ?_⟩) (by assumption) ?_; rotate_left; (focus (intro w hSw; (try dsimp only at hSw); go_simp; (try with_reducible rfl))); (try simp only [Act.put, List.getElem_toArray, List.getElem_cons_zero, List.getElem_cons_succ, List.setIfInBounds_toArray, List.set_cons_zero, List.set_cons_succ])
        refine wpAnyT_take (i := 13) (oi := _) (v := ?_) rfl (by kernel_rfl) (fun _ _ _ h => h) (Or.inl ⟨by kernel_rfl, ?_⟩) (by assumption) ?_; rotate_left; (focus (intro w hSw; (try dsimp only at hSw); go_simp; (try with_reducible rfl))); (try simp only [Act.put, List.getElem_toArray, List.getElem_cons_zero, List.getElem_cons_succ, List.setIfInBounds_toArray, List.set_cons_zero, List.set_cons_succ])
        refine wpAnyT_take (i := 15) (oi := _) (v := ?_) rfl (by kernel_rfl) (fun _ _ _ h => h) (Or.inl ⟨by kernel_rfl, ?_⟩) (by assumption) ?_; rotate_left; (focus (intro w hSw; (try dsimp only at hSw); go_simp; (try with_reducible rfl))); (try simp only [Act.put, List.getElem_toArray, List.getElem_cons_zero, List.getElem_cons_succ, List.setIfInBounds_toArray, List.set_cons_zero, List.set_cons_succ])
        refine wpAnyT_take (i := 16) (oi := _) (v := ?_) rfl (by kernel_rfl) (fun _ _ _ h => h) (Or.inl ⟨by kernel_rfl, ?_⟩) (by assumption) ?_; rotate_left; (focus (intro w hSw; (try dsimp only at hSw); go_simp; (try with_reducible rfl))); (try simp only [Act.put, List.getElem_toArray, List.getElem_cons_zero, List.getElem_cons_succ, List.setIfInBounds_toArray, List.set_cons_zero, List.set_cons_succ])
        refine wpAnyT_take (i := 17) (oi := _) (v := ?_) rfl (by kernel_rfl) (fun _ _ _ h => h) (Or.inl ⟨by kernel_rfl, ?_⟩) (by assumption) ?_; rotate_left; (focus (intro w hSw; (try dsimp only at hSw); go_simp; (try with_reducible rfl))); (try simp only [Act.put, List.getElem_toArray, List.getElem_cons_zero, List.getElem_cons_succ, List.setIfInBounds_toArray, List.set_cons_zero, List.set_cons_succ])
        refine wpAnyT_one (i := 12) (by kernel_rfl) rfl (fun K hK => ?_); go_simp
        refine (HSZ.out _ HW0.out).mono ?_
        rintro e w8 ⟨rfl, hb8'⟩
        have hb8 := HW0.out.trans (hb8'.mono HW0.out.size)
        have hH8 := Hk.out _ hb8
        refine hK.out _ _ (fun _ => hH8) ?_
        have HF8 := Lib.hid (HFq.out.on hb8)
        clear hK K hHeld hb8 hb8' HSZ Hk HW0
        (try simp only [Act.put, List.getElem_toArray, List.getElem_cons_zero, List.getElem_cons_succ, List.setIfInBounds_toArray, List.set_cons_zero, List.set_cons_succ])
        refine wpAnyT_take (i := 14) (oi := _) (v := ?_) rfl (by kernel_rfl) (fun _ _ _ h => h) (Or.inl ⟨by kernel_rfl, ?_⟩) (by assumption) ?_; rotate_left; (focus (intro w hSw; (try dsimp only at hSw); go_simp; (try with_reducible rfl))); (try simp only [Act.put, List.getElem_toArray, List.getElem_cons_zero, List.getElem_cons_succ, List.setIfInBounds_toArray, List.set_cons_zero, List.set_cons_succ])
        refine wpAnyT_take (i := 18) (oi := _) (v := ?_) rfl (by kernel_rfl) (fun _ _ _ h => h) (Or.inl ⟨by kernel_rfl, ?_⟩) (by assumption) ?_; rotate_left; (focus (intro w hSw; (try dsimp only at hSw); go_simp; (try with_reducible rfl))); (try simp only [Act.put, List.getElem_toArray, List.getElem_cons_zero, List.getElem_cons_succ, List.setIfInBounds_toArray, List.set_cons_zero, List.set_cons_succ])
        refine wpAnyT_take (i := 19) (oi := _) (v := ?_) rfl (by kernel_rfl) (fun _ _ _ h => h) (Or.inl ⟨by kernel_rfl, ?_⟩) (by assumption) ?_; rotate_left; (focus (intro w hSw; (try dsimp only at hSw); go_simp; (try with_reducible rfl))); (try simp only [Act.put, List.getElem_toArray, List.getElem_cons_zero, List.getElem_cons_succ, List.setIfInBounds_toArray, List.set_cons_zero, List.set_cons_succ])
        refine wpAnyT_take (i := 20) (oi := _) (v := ?_) rfl (by kernel_rfl) (fun _ _ _ h => h) (Or.inl ⟨by kernel_rfl, ?_⟩) (by assumption) ?_; rotate_left; (focus (intro w hSw; (try dsimp only at hSw); go_simp; (try with_reducible rfl))); (try simp only [Act.put, List.getElem_toArray, List.getElem_cons_zero, List.getElem_cons_succ, List.setIfInBounds_toArray, List.set_cons_zero, List.set_cons_succ])
        refine wpAnyT_done (by kernel_rfl) ?_ _
        clear hH8 k1 k2
        go_wp2_with fail
        refine (bad_calls w8 9).mono ?_
        rintro e wb ⟨rfl, hbb⟩
        have HXB := Lib.hid (HF8.out.on hbb)
        clear hbb
        unfold errV
        have q0 : wb.cell? ⟨w.heap.size + 1, 0, none⟩ = some (.int .i64 0) := HXB.out.b4.cell 0
        have p0 : wb.frozen? ⟨w.heap.size + 1, 0, none⟩ = false := HXB.out.b4.frozen 0
        have q1 : wb.cell? ⟨w.heap.size + 1, 1, none⟩ = some (.slice none 0 0) := HXB.out.b4.cell 1
        have p1 : wb.frozen? ⟨w.heap.size + 1, 1, none⟩ = false := HXB.out.b4.frozen 1
        have q2 : wb.cell? ⟨w.heap.size + 1, 2, none⟩ = some (.int .i64 0) := HXB.out.b4.cell 2
        have p2 : wb.frozen? ⟨w.heap.size + 1, 2, none⟩ = false := HXB.out.b4.frozen 2
        have q3 : wb.cell? ⟨w.heap.size + 1, 3, none⟩ = some (.int .i64 0) := HXB.out.b4.cell 3
        have p3 : wb.frozen? ⟨w.heap.size + 1, 3, none⟩ = false := HXB.out.b4.frozen 3
        have q4 : wb.cell? ⟨w.heap.size + 1, 4, none⟩ = some (.int .i64 0) := HXB.out.b4.cell 4
        have p4 : wb.frozen? ⟨w.heap.size + 1, 4, none⟩ = false := HXB.out.b4.frozen 4
        have q5 : wb.cell? ⟨w.heap.size + 1, 5, none⟩ = some (.slice none 0 0) := HXB.out.b4.cell 5
        have p5 : wb.frozen? ⟨w.heap.size + 1, 5, none⟩ = false := HXB.out.b4.frozen 5
        have q6 : wb.cell? ⟨w.heap.size + 1, 6, none⟩ = some (.bool false) := HXB.out.b4.cell 6
        have p6 : wb.frozen? ⟨w.heap.size + 1, 6, none⟩ = false := HXB.out.b4.frozen 6
        go_wp2
        obtain ⟨hw, hT, hK⟩ := HXB.out.fin (.int .i64 9) (.slice none 0 0) (.int .i64 0) (.int .i64 0) (.int .i64 0) (.slice none 0 0) (.bool false)
        unfold set7 at hw hT hK
        refine bodyPost_ret (results_cell_row rfl _ _ (w.heap.size + 1) 43 #[(.int .i64 9), (.slice none 0 0), (.int .i64 0), (.int .i64 0), (.int .i64 0), (.slice none 0 0), (.bool false)] (0, 0) _ rfl hw Tryz.underlying43 rfl (by kernel_rfl)) rfl ?_
        exact ⟨_, _, rfl, by rw [HRR.out]; exact rep_plain 9 0 0 0, hT, by rw [HRR.out]; exact HSIM.out⟩
      have d4 := dcf h4
      have hpe : pe = 0 := by rw [HP2.out, if_neg (by rintro (h | h); exact absurd h HNC.out; exact h4 (by omega))]
      have HRR : Hid (r = (s.made x.key x.d, ⟨0, [], s.ver + 1, s.now, 0, [], false⟩)) := Lib.hid (by rw [HR.out, hpe, if_pos rfl])
      clear HR HP2 hpe h4
      go_upto_region 14 with fail
      have Hk : Hid (∀ W, Below wq.heap.size wq W → W.cell? ⟨w.heap.size, 2, none⟩ = some (.slice x.A x.d.length x.c) ∧ W.cell? ⟨R.g, 0, none⟩ = some (.slice R.AO R.objs.length R.cO)) := Lib.hid fun W hW => ⟨(HFq.out.on hW).b3.cell 2, (HFq.out.on hW).at_.blk.cell 0⟩
      have HSZ : Hid (∀ W, Below wq.heap.size wq W → Calls Tryz.prog 27 #[.pointer (some ⟨R.g, 0, none⟩)] W fun e w' => e = .returned (.int .i64 (R.size : Nat)) ∧ Below W.heap.size W w') := Lib.hid fun W hW => HSIM.out.sizeR (HFq.out.on hW).at_ HI.out hn
      refine wp_region_T 99 (fun w' => w'.cell? ⟨w.heap.size, 2, none⟩ = some (.slice x.A x.d.length x.c) ∧ w'.cell? ⟨R.g, 0, none⟩ = some (.slice R.AO R.objs.length R.cO)) (by kernel_rfl) (Hk.out _ (below_drewN_ (Below.refl _ _) 1)) (fun hHeld => ?_)
      have HW0 : Hid (Below wq.heap.size wq wq.drew) := Lib.hid (below_drewN_ (Below.refl _ _) 1)
      generalize wq.drew = wd at *
      refine wpAnyT_take (i := 0) (oi := _) (v := ?_) rfl (by kernel_rfl) (fun _ _ _ h => h) (Or.inl ⟨by kernel_rfl, ?_⟩) (by assumption) ?_; rotate_left; (focus (intro w hSw; (try dsimp only at hSw); go_simp; (try with_reducible rfl))); (try simp only [Act.put, List.getElem_toArray, List.getElem_cons_zero, List.setIfInBounds_toArray, List.set_cons_zero, List.set_cons_succ])
      refine wpAnyT_take (i := 1) (oi := _) (v := ?_) rfl (by kernel_rfl) (fun _ _ _ h => h) (Or.inl ⟨by kernel_rfl, ?_⟩) (by assumption) ?_; rotate_left; (focus (intro w hSw; (try dsimp only at hSw); go_simp; (try with_reducible rfl))); (try simp only [Act.put, List.getElem_toArray, List.getElem_cons_zero, List.getElem_cons_succ, List.setIfInBounds_toArray, List.set_cons_zero, List.set_cons_succ])
      refine wpAnyT_take (i := 2) (oi := _) (v := ?_) rfl (by kernel_rfl) (fun _ _ _ h => h) (Or.inl ⟨by kernel_rfl, ?_⟩) (by assumption) ?_; rotate_left; (focus (intro w hSw; (try dsimp only at hSw); go_simp; (try with_reducible rfl))); (try simp only [Act.put, List.getElem_toArray, List.getElem_cons_zero, List.getElem_cons_succ, List.setIfInBounds_toArray, List.set_cons_zero, List.set_cons_succ])
      refine wpAnyT_take (i := 3) (oi := _) (v := undef) rfl (by kernel_rfl) (fun _ _ _ h => h) (Or.inr ⟨by kernel_rfl, rfl⟩) (by assumption) ?_; (try simp only [Act.put, List.getElem_toArray, List.getElem_cons_zero, List.getElem_cons_succ, List.setIfInBounds_toArray, List.set_cons_zero, List.set_cons_succ])
      refine wpAnyT_take (i := 4) (oi := _) (v := undef) rfl (by kernel_rfl) (fun _ _ _ h => h) (Or.inr ⟨by kernel_rfl, rfl⟩) (by assumption) ?_; (try simp only [Act.put, List.getElem_toArray, List.getElem_cons_zero, List.getElem_cons_succ, List.setIfInBounds_toArray, List.set_cons_zero, List.set_cons_succ])
      refine wpAnyT_take (i := 5) (oi := _) (v := undef) rfl (by kernel_rfl) (fun _ _ _ h => h) (Or.inr ⟨by kernel_rfl, rfl⟩) (by assumption) ?_; (try simp only [Act.put, List.getElem_toArray, List.getElem_cons_zero, List.getElem_cons_succ, List.setIfInBounds_toArray, List.set_cons_zero, List.set_cons_succ])
      refine wpAnyT_take (i := 6) (oi := _) (v := undef) rfl (by kernel_rfl) (fun _ _ _ h => h) (Or.inr ⟨by kernel_rfl, rfl⟩) (by assumption) ?_; (try simp only [Act.put, List.getElem_toArray, List.getElem_cons_zero, List.getElem_cons_succ, List.setIfInBounds_toArray, List.set_cons_zero, List.set_cons_succ])
      refine wpAnyT_take (i := 7) (oi := _) (v := undef) rfl (by kernel_rfl) (fun _ _ _ h => h) (Or.inr ⟨by kernel_rfl, rfl⟩) (by assumption) ?_; (try simp only [Act.put, List.getElem_toArray, List.getElem_cons_zero, List.getElem_cons_succ, List.setIfInBounds_toArray, List.set_cons_zero, List.set_cons_succ])
      refine wpAnyT_take (i := 8) (oi := _) (v := undef) rfl (by kernel_rfl) (fun _ _ _ h => h) (Or.inr ⟨by kernel_rfl, rfl⟩) (by assumption) ?_; (try simp only [Act.put, List.getElem_toArray, List.getElem_cons_zero, List.getElem_cons_succ, List.setIfInBounds_toArray, List.set_cons_zero, List.set_cons_succ])
      refine wpAnyT_take (i := 9) (oi := _) (v := ?_) rfl (by kernel_rfl) (fun _ _ _ h => h) (Or.inl ⟨by kernel_rfl, ?_⟩) (by assumption) ?_; rotate_left; (focus (intro w hSw; (try dsimp only at hSw); go_simp; (try with_reducible rfl))); (try simp only [Act.put, List.getElem_toArray, List.getElem_cons_zero, List.getElem_cons_succ, List.setIfInBounds_toArray, List.set_cons_zero, List.set_cons_succ])
      refine wpAnyT_take (i := 10) (oi := _) (v := ?_) rfl (by kernel_rfl) (fun _ _ _ h => h) (Or.inl ⟨by kernel_rfl, ?_⟩) (by assumption) ?_; rotate_left; (focus (intro w hSw; (try dsimp only at hSw); go_simp; (try with_reducible rfl))); (try simp only [Act.put, List.getElem_toArray, List.getElem_cons_zero, List.getElem_cons_succ, List.setIfInBounds_toArray, List.set_cons_zero, List.set_cons_succ])
      refine wpAnyT_take (i := 11) (oi := _) (v := ?_) rfl (by kernel_rfl) (fun _ _ _ h => h) (Or.inl ⟨by kernel_rfl, ?_⟩) (by assumption) ?_; rotate_left; (focus (intro w hSw; (try dsimp only at hSw); go_simp; (try with_reducible rfl))); (try simp only [Act.put, List.getElem_toArray, List.getElem_cons_zero, List.getElem_cons_succ, List.setIfInBounds_toArray, List.set_cons_zero, List.set_cons_succ])
      refine wpAnyT_take (i := 13) (oi := _) (v := ?_) rfl (by kernel_rfl) (fun _ _ _ h => h) (Or.inl ⟨by kernel_rfl, ?_⟩) (by assumption) ?_; rotate_left; (focus (intro w hSw; (try dsimp only at hSw); go_simp; (try with_reducible rfl))); (try simp only [Act.put, List.getElem_toArray, List.getElem_cons_zero, List.getElem_cons_succ, List.setIfInBounds_toArray, List.set_cons_zero, List.set_cons_succ])
      refine wpAnyT_take (i := 15) (oi := _) (v := ?_) rfl (by kernel_rfl) (fun _ _ _ h => h) (Or.inl ⟨by kernel_rfl, ?_⟩) (by assumption) ?_; rotate_left; (focus (intro w hSw; (try dsimp only at hSw); go_simp; (try with_reducible rfl))); (try simp only [Act.put, List.getElem_toArray, List.getElem_cons_zero, List.getElem_cons_succ, List.setIfInBounds_toArray, List.set_cons_zero, List.set_cons_succ])
      refine wpAnyT_take (i := 16) (oi := _) (v := ?_) rfl (by kernel_rfl) (fun _ _ _ h => h) (Or.inl ⟨by kernel_rfl, ?_⟩) (by assumption) ?_; rotate_left; (focus (intro w hSw; (try dsimp only at hSw); go_simp; (try with_reducible rfl))); (try simp only [Act.put, List.getElem_toArray, List.getElem_cons_zero, List.getElem_cons_succ, List.setIfInBounds_toArray, List.set_cons_zero, List.set_cons_succ])
      refine wpAnyT_take (i := 17) (oi := _) (v := ?_) rfl (by kernel_rfl) (fun _ _ _ h => h) (Or.inl ⟨by kernel_rfl, ?_⟩) (by assumption) ?_; rotate_left; (focus (intro w hSw; (try dsimp only at hSw); go_simp; (try with_reducible rfl))); (try simp only [Act.put, List.getElem_toArray, List.getElem_cons_zero, List.getElem_cons_succ, List.setIfInBounds_toArray, List.set_cons_zero, List.set_cons_succ])
      refine wpAnyT_one (i := 12) (by kernel_rfl) rfl (fun K hK => ?_); go_simp
      refine (HSZ.out _ HW0.out).mono ?_
      rintro e w8 ⟨rfl, hb8'⟩
      have hb8 := HW0.out.trans (hb8'.mono HW0.out.size)
      have hH8 := Hk.out _ hb8
      refine hK.out _ _ (fun _ => hH8) ?_
      have HF8 := Lib.hid (HFq.out.on hb8)
      clear hK K hHeld hb8 hb8' HSZ Hk HW0
      (try simp only [Act.put, List.getElem_toArray, List.getElem_cons_zero, List.getElem_cons_succ, List.setIfInBounds_toArray, List.set_cons_zero, List.set_cons_succ])
      refine wpAnyT_take (i := 14) (oi := _) (v := ?_) rfl (by kernel_rfl) (fun _ _ _ h => h) (Or.inl ⟨by kernel_rfl, ?_⟩) (by assumption) ?_; rotate_left; (focus (intro w hSw; (try dsimp only at hSw); go_simp; (try with_reducible rfl))); (try simp only [Act.put, List.getElem_toArray, List.getElem_cons_zero, List.getElem_cons_succ, List.setIfInBounds_toArray, List.set_cons_zero, List.set_cons_succ])
      refine wpAnyT_take (i := 18) (oi := _) (v := ?_) rfl (by kernel_rfl) (fun _ _ _ h => h) (Or.inl ⟨by kernel_rfl, ?_⟩) (by assumption) ?_; rotate_left; (focus (intro w hSw; (try dsimp only at hSw); go_simp; (try with_reducible rfl))); (try simp only [Act.put, List.getElem_toArray, List.getElem_cons_zero, List.getElem_cons_succ, List.setIfInBounds_toArray, List.set_cons_zero, List.set_cons_succ])
      refine wpAnyT_take (i := 19) (oi := _) (v := ?_) rfl (by kernel_rfl) (fun _ _ _ h => h) (Or.inl ⟨by kernel_rfl, ?_⟩) (by assumption) ?_; rotate_left; (focus (intro w hSw; (try dsimp only at hSw); go_simp; (try with_reducible rfl))); (try simp only [Act.put, List.getElem_toArray, List.getElem_cons_zero, List.getElem_cons_succ, List.setIfInBounds_toArray, List.set_cons_zero, List.set_cons_succ])
      refine wpAnyT_take (i := 20) (oi := _) (v := ?_) rfl (by kernel_rfl) (fun _ _ _ h => h) (Or.inl ⟨by kernel_rfl, ?_⟩) (by assumption) ?_; rotate_left; (focus (intro w hSw; (try dsimp only at hSw); go_simp; (try with_reducible rfl))); (try simp only [Act.put, List.getElem_toArray, List.getElem_cons_zero, List.getElem_cons_succ, List.setIfInBounds_toArray, List.set_cons_zero, List.set_cons_succ])
      refine wpAnyT_done (by kernel_rfl) ?_ _
      clear hH8 k1 k2
      have k1 : w8.cell? ⟨w.heap.size, 1, none⟩ = some (.string x.key) := HF8.out.b3.cell 1
      have k2 : w8.cell? ⟨w.heap.size, 2, none⟩ = some (.slice x.A x.d.length x.c) := HF8.out.b3.cell 2
      have hv0 : 0 ≤ R.ver := by rw [HSIM.out.ver]; exact HI.out.v0
      have hv1 : R.ver ≤ 1000000 := by rw [HSIM.out.ver]; have := HI.out.v1; omega
      have HPC := Lib.hid (putR_calls (c := x.c) w8 HF8.out.at_ (Nat.le_trans hol (by omega)) x.key HF8.out.dat (Nat.le_refl _) HF8.out.out hx.d hv0 hv1)
      go_wp2_with fail
      refine HPC.out.mono ?_
      rintro e w11 ⟨rfl, A', c', AO', cO', hT2⟩
      have HXZ := Lib.hid (HF8.out.go hT2)
      have HSI := Lib.hid (HSIM.out.put (k := x.key) HRS.out A' c' x.d AO' cO')
      have HVN := Lib.hid (And.intro HSIM.out.ver HSIM.out.now)
      clear HPC hT2 k1 k2
      have q0 : w11.cell? ⟨w.heap.size + 1, 0, none⟩ = some (.int .i64 0) := HXZ.out.b4.cell 0
      have p0 : w11.frozen? ⟨w.heap.size + 1, 0, none⟩ = false := HXZ.out.b4.frozen 0
      have q1 : w11.cell? ⟨w.heap.size + 1, 1, none⟩ = some (.slice none 0 0) := HXZ.out.b4.cell 1
      have p1 : w11.frozen? ⟨w.heap.size + 1, 1, none⟩ = false := HXZ.out.b4.frozen 1
      have q2 : w11.cell? ⟨w.heap.size + 1, 2, none⟩ = some (.int .i64 0) := HXZ.out.b4.cell 2
      have p2 : w11.frozen? ⟨w.heap.size + 1, 2, none⟩ = false := HXZ.out.b4.frozen 2
      have q3 : w11.cell? ⟨w.heap.size + 1, 3, none⟩ = some (.int .i64 0) := HXZ.out.b4.cell 3
      have p3 : w11.frozen? ⟨w.heap.size + 1, 3, none⟩ = false := HXZ.out.b4.frozen 3
      have q4 : w11.cell? ⟨w.heap.size + 1, 4, none⟩ = some (.int .i64 0) := HXZ.out.b4.cell 4
      have p4 : w11.frozen? ⟨w.heap.size + 1, 4, none⟩ = false := HXZ.out.b4.frozen 4
      have q5 : w11.cell? ⟨w.heap.size + 1, 5, none⟩ = some (.slice none 0 0) := HXZ.out.b4.cell 5
      have p5 : w11.frozen? ⟨w.heap.size + 1, 5, none⟩ = false := HXZ.out.b4.frozen 5
      have q6 : w11.cell? ⟨w.heap.size + 1, 6, none⟩ = some (.bool false) := HXZ.out.b4.cell 6
      have p6 : w11.frozen? ⟨w.heap.size + 1, 6, none⟩ = false := HXZ.out.b4.frozen 6
      go_wp2
      obtain ⟨hw, hT, hK⟩ := HXZ.out.fin (.int .i64 0) (.slice none 0 0) (.int .i64 (R.ver + 1)) (.int .i64 R.now) (.int .i64 0) (.slice none 0 0) (.bool false)
      unfold set7 at hw hT hK
      refine bodyPost_ret (results_cell_row rfl _ _ (w.heap.size + 1) 43 #[(.int .i64 0), (.slice none 0 0), (.int .i64 (R.ver + 1)), (.int .i64 R.now), (.int .i64 0), (.slice none 0 0), (.bool false)] (0, 0) _ rfl hw Tryz.underlying43 rfl (by kernel_rfl)) rfl ?_
      refine ⟨_, _, rfl, ?_, hT, by rw [HRR.out]; exact HSI.out⟩
      rw [HRR.out]
      have e := rep_plain (base := w.heap.size) (w' := set7 w11 (w.heap.size + 1) (.int .i64 0) (.slice none 0 0) (.int .i64 (R.ver + 1)) (.int .i64 R.now) (.int .i64 0) (.slice none 0 0) (.bool false)) 0 (R.ver + 1) R.now 0
      rw [HVN.out.1, HVN.out.2] at e
      rw [HVN.out.1, HVN.out.2]
      exact e
set_option maxRecDepth 100000 in
set_option maxHeartbeats 32000000 in
theorem doR_2 (w : World) {base n : Nat} {R : RS} {s : PS} {x : Cl} (h : RAt w base R) (hS : Sim R s) (hi : PInv s n) (hs : PSrt s) (hn : n ≤ 1000) (hd : Bytes w w.heap.size x.A x.d.length x.d) (ho : Out R x.A x.d.length) (hx : ClOk x)
    (hk : x.kind = 2) : DoR w base R s x := by
  unfold DoR
  have hu0 : s.step x.pure = s.put x.pure := by
    have e : x.pure.kind = x.kind := rfl
    rw [kind_step, e]
    rw [if_pos (by omega)]
  have hu1 : s.put x.pure = if s.putE x.pure = 0 then (s.made x.key x.d, ⟨0, [], s.ver + 1, s.now, 0, [], false⟩) else (s, bad (s.putE x.pure)) := rfl
  have HR := Lib.hid (hu0.trans hu1)
  have HPE : Hid (s.putE x.pure = if rightB x.key = false then 1 else if x.kind = 2 ∧ (decide (x.ver = 0) = (mget s.objs x.key).isSome) then 8 else if x.kind = 2 ∧ (mget s.objs x.key).isSome = true ∧ ((mget s.objs x.key).getD po0).ver ≠ x.ver then 8 else if 262144 < x.d.length then 5 else if s.crowded x.key = true ∨ 4194304 < s.all - (((mget s.objs x.key).getD po0).d.length : Int) + (x.d.length : Int) then 9 else 0) := Lib.hid rfl
  generalize s.putE x.pure = pe at *
  clear hu0 hu1
  have HK0 := Lib.hid hk
  clear hk
  have hxk := hx.key
  generalize s.step x.pure = r at *
  have HSIM := Lib.hid hS
  have HI := Lib.hid hi
  have HRS := Lib.hid hs
  have hol : R.objs.length ≤ 1000 := by rw [hS.olen]; exact Nat.le_trans hi.on hn
  have hul : R.ups.length ≤ 1000 := by rw [hS.ups.len]; exact Nat.le_trans hi.un hn
  clear hS hi hs
  have HF0 := (FR.start h hd ho).toX
  unfold Cl.cells rep0 at HF0
  have HF := Lib.hid HF0
  clear HF0 hd ho h
  unfold Cl.val Cl.cells
  go_enter Tryz.func13, Tryz.ntmps13
  go_upto_region 1 with fail
  generalize ((w.alloc (.cells #[.int .i64 x.kind, .string x.key, .slice x.A x.d.length x.c, .int .i64 x.ver, .int .i64 x.at_, .int .i64 x.n, .int .i64 x.id] 34)).alloc (.cells #[.int .i64 0, .slice none 0 0, .int .i64 0, .int .i64 0, .int .i64 0, .slice none 0 0, .bool false] 43)) = w2 at *
  have HAT : Hid (∀ m, Calls Tryz.prog 23 #[.pointer (some ⟨R.g, 0, none⟩), .string x.key] (w2.drewN m) fun e w'' => e = .returned (.int .i64 (R.idxO x.key)) ∧ ∃ m', w'' = w2.drewN m') := Lib.hid fun m => (at_calls (w2.drewN m) (HF.out.at_.drewN m) (Nat.le_trans hol (by omega)) x.key).mono fun e w'' h => ⟨h.1, m, h.2.symm⟩
  have HOP : Hid (∀ m, Calls Tryz.prog 24 #[.pointer (some ⟨R.g, 0, none⟩), .int .i64 x.id] (w2.drewN m) fun e w'' => e = .returned (.int .i64 (R.idxU x.id)) ∧ ∃ m', w'' = w2.drewN m') := Lib.hid fun m => (open_calls (w2.drewN m) (HF.out.at_.drewN m) (Nat.le_trans hul (by omega)) x.id).mono fun e w'' h => ⟨h.1, m, h.2.symm⟩
  have k1 : w2.cell? ⟨w.heap.size, 1, none⟩ = some (.string x.key) := HF.out.b3.cell 1
  have k6 : w2.cell? ⟨w.heap.size, 6, none⟩ = some (.int .i64 x.id) := HF.out.b3.cell 6
  go_quiet (first | (exact HAT.out _) | (exact HOP.out _))
  clear HAT HOP k1 k6
  have HF1 := Lib.hid (HF.out.drewN nq)
  have HIX := Lib.hid (HSIM.out.idxO HRS.out x.key)
  have HIU := Lib.hid (HSIM.out.idxU HRS.out x.id)
  generalize R.idxO x.key = ix at *
  generalize R.idxU x.id = iu at *
  generalize w2.drewN nq = w1 at *
  have k0 : w1.cell? ⟨w.heap.size, 0, none⟩ = some (.int .i64 x.kind) := HF1.out.b3.cell 0
  have k1 : w1.cell? ⟨w.heap.size, 1, none⟩ = some (.string x.key) := HF1.out.b3.cell 1
  have k2 : w1.cell? ⟨w.heap.size, 2, none⟩ = some (.slice x.A x.d.length x.c) := HF1.out.b3.cell 2
  have k3 : w1.cell? ⟨w.heap.size, 3, none⟩ = some (.int .i64 x.ver) := HF1.out.b3.cell 3
  have k4 : w1.cell? ⟨w.heap.size, 4, none⟩ = some (.int .i64 x.at_) := HF1.out.b3.cell 4
  have k5 : w1.cell? ⟨w.heap.size, 5, none⟩ = some (.int .i64 x.n) := HF1.out.b3.cell 5
  have k6 : w1.cell? ⟨w.heap.size, 6, none⟩ = some (.int .i64 x.id) := HF1.out.b3.cell 6
  have e1 : (x.kind == 1) = ((2 : Int) == 1) := by rw [HK0.out]
  have e2 : (x.kind == 2) = ((2 : Int) == 2) := by rw [HK0.out]
  have e3 : (x.kind == 3) = ((2 : Int) == 3) := by rw [HK0.out]
  have e4 : (x.kind == 4) = ((2 : Int) == 4) := by rw [HK0.out]
  have e5 : (x.kind == 5) = ((2 : Int) == 5) := by rw [HK0.out]
  have e6 : (x.kind == 6) = ((2 : Int) == 6) := by rw [HK0.out]
  have e7 : (x.kind == 7) = ((2 : Int) == 7) := by rw [HK0.out]
  have e8 : (x.kind == 8) = ((2 : Int) == 8) := by rw [HK0.out]
  have e9 : (x.kind == 9) = ((2 : Int) == 9) := by rw [HK0.out]
  have e10 : (x.kind == 10) = ((2 : Int) == 10) := by rw [HK0.out]
  have e11 : (x.kind == 11) = ((2 : Int) == 11) := by rw [HK0.out]
  clear HIU
  have HALL : Hid (s.all = (R.size : Int)) := Lib.hid (by rw [HSIM.out.size, HI.out.all])
  have HKC := Lib.hid (key_calls w1 x.key hxk)
  rw [keyB_right] at HKC
  go_wp2_with fail
  refine HKC.out.mono ?_
  rintro e w3 ⟨rfl, rfl⟩
  clear HKC
  cases hr : rightB x.key with
  | false =>
    have hpe : pe = 1 := by rw [HPE.out, if_pos hr]
    have HRR : Hid (r = (s, bad 1)) := Lib.hid (by rw [HR.out, hpe, if_neg (by decide)])
    clear HR HPE hpe
    go_wp2_with fail
    refine (bad_calls w1 1).mono ?_
    rintro e wb ⟨rfl, hbb⟩
    have HXB := Lib.hid (HF1.out.on hbb)
    clear hbb
    unfold errV
    have q0 : wb.cell? ⟨w.heap.size + 1, 0, none⟩ = some (.int .i64 0) := HXB.out.b4.cell 0
    have p0 : wb.frozen? ⟨w.heap.size + 1, 0, none⟩ = false := HXB.out.b4.frozen 0
    have q1 : wb.cell? ⟨w.heap.size + 1, 1, none⟩ = some (.slice none 0 0) := HXB.out.b4.cell 1
    have p1 : wb.frozen? ⟨w.heap.size + 1, 1, none⟩ = false := HXB.out.b4.frozen 1
    have q2 : wb.cell? ⟨w.heap.size + 1, 2, none⟩ = some (.int .i64 0) := HXB.out.b4.cell 2
    have p2 : wb.frozen? ⟨w.heap.size + 1, 2, none⟩ = false := HXB.out.b4.frozen 2
    have q3 : wb.cell? ⟨w.heap.size + 1, 3, none⟩ = some (.int .i64 0) := HXB.out.b4.cell 3
    have p3 : wb.frozen? ⟨w.heap.size + 1, 3, none⟩ = false := HXB.out.b4.frozen 3
    have q4 : wb.cell? ⟨w.heap.size + 1, 4, none⟩ = some (.int .i64 0) := HXB.out.b4.cell 4
    have p4 : wb.frozen? ⟨w.heap.size + 1, 4, none⟩ = false := HXB.out.b4.frozen 4
    have q5 : wb.cell? ⟨w.heap.size + 1, 5, none⟩ = some (.slice none 0 0) := HXB.out.b4.cell 5
    have p5 : wb.frozen? ⟨w.heap.size + 1, 5, none⟩ = false := HXB.out.b4.frozen 5
    have q6 : wb.cell? ⟨w.heap.size + 1, 6, none⟩ = some (.bool false) := HXB.out.b4.cell 6
    have p6 : wb.frozen? ⟨w.heap.size + 1, 6, none⟩ = false := HXB.out.b4.frozen 6
    go_wp2
    obtain ⟨hw, hT, hK⟩ := HXB.out.fin (.int .i64 1) (.slice none 0 0) (.int .i64 0) (.int .i64 0) (.int .i64 0) (.slice none 0 0) (.bool false)
    unfold set7 at hw hT hK
    refine bodyPost_ret (results_cell_row rfl _ _ (w.heap.size + 1) 43 #[(.int .i64 1), (.slice none 0 0), (.int .i64 0), (.int .i64 0), (.int .i64 0), (.slice none 0 0), (.bool false)] (0, 0) _ rfl hw Tryz.underlying43 rfl (by kernel_rfl)) rfl ?_
    exact ⟨_, _, rfl, by rw [HRR.out]; exact rep_plain 1 0 0 0, hT, by rw [HRR.out]; exact HSIM.out⟩
  | true =>
    rcases HIX.out with ⟨rfl, hm⟩ | ⟨i, hi, rfl, hm, hkey⟩
    · have d1 : decide ((0 : Int) ≤ -1) = false := by decide
      have d1' : decide ((-1 : Int) < 0) = true := by decide
      have HSF : Hid ((mget s.objs x.key).isSome = false) := Lib.hid (by rw [hm]; rfl)
      have HOB : Hid (((((mget s.objs x.key).getD po0).d.length : Nat) : Int) = ((0 : Nat) : Int)) := Lib.hid (by rw [hm]; rfl)
      clear hm HIX
      by_cases hv : x.ver = 0
      · have v1 := eqt hv
        have v2 := nef hv
        have HV := Lib.hid hv
        clear hv
        go_upto_region 10 with fail
        go_quiet (fail)
        have HFq := Lib.hid (HF1.out.drewN nq)
        clear k0 k1 k2 k3 k4 k5 k6
        generalize w1.drewN nq = wq at *
        have k1 : wq.cell? ⟨w.heap.size, 1, none⟩ = some (.string x.key) := HFq.out.b3.cell 1
        have k2 : wq.cell? ⟨w.heap.size, 2, none⟩ = some (.slice x.A x.d.length x.c) := HFq.out.b3.cell 2
        by_cases h3 : 262144 < x.d.length
        · have d3 : decide ((262144 : Int) < (x.d.length : Int)) = true := dct (by omega)
          have hpe : pe = 5 := by rw [HPE.out, if_neg (by rw [hr]; decide), if_neg (by rw [HSF.out, HV.out]; rintro ⟨-, h⟩; exact absurd h (by decide)), if_neg (by rw [HSF.out]; rintro ⟨-, h, -⟩; exact absurd h (by decide)), if_pos h3]
          have HRR : Hid (r = (s, bad 5)) := Lib.hid (by rw [HR.out, hpe, if_neg (by decide)])
          clear HR HPE hpe h3
          go_wp2_with fail
          refine (bad_calls wq 5).mono ?_
          rintro e wb ⟨rfl, hbb⟩
          have HXB := Lib.hid (HFq.out.on hbb)
          clear hbb
          unfold errV
          have q0 : wb.cell? ⟨w.heap.size + 1, 0, none⟩ = some (.int .i64 0) := HXB.out.b4.cell 0
          have p0 : wb.frozen? ⟨w.heap.size + 1, 0, none⟩ = false := HXB.out.b4.frozen 0
          have q1 : wb.cell? ⟨w.heap.size + 1, 1, none⟩ = some (.slice none 0 0) := HXB.out.b4.cell 1
          have p1 : wb.frozen? ⟨w.heap.size + 1, 1, none⟩ = false := HXB.out.b4.frozen 1
          have q2 : wb.cell? ⟨w.heap.size + 1, 2, none⟩ = some (.int .i64 0) := HXB.out.b4.cell 2
          have p2 : wb.frozen? ⟨w.heap.size + 1, 2, none⟩ = false := HXB.out.b4.frozen 2
          have q3 : wb.cell? ⟨w.heap.size + 1, 3, none⟩ = some (.int .i64 0) := HXB.out.b4.cell 3
          have p3 : wb.frozen? ⟨w.heap.size + 1, 3, none⟩ = false := HXB.out.b4.frozen 3
          have q4 : wb.cell? ⟨w.heap.size + 1, 4, none⟩ = some (.int .i64 0) := HXB.out.b4.cell 4
          have p4 : wb.frozen? ⟨w.heap.size + 1, 4, none⟩ = false := HXB.out.b4.frozen 4
          have q5 : wb.cell? ⟨w.heap.size + 1, 5, none⟩ = some (.slice none 0 0) := HXB.out.b4.cell 5
          have p5 : wb.frozen? ⟨w.heap.size + 1, 5, none⟩ = false := HXB.out.b4.frozen 5
          have q6 : wb.cell? ⟨w.heap.size + 1, 6, none⟩ = some (.bool false) := HXB.out.b4.cell 6
          have p6 : wb.frozen? ⟨w.heap.size + 1, 6, none⟩ = false := HXB.out.b4.frozen 6
          go_wp2
          obtain ⟨hw, hT, hK⟩ := HXB.out.fin (.int .i64 5) (.slice none 0 0) (.int .i64 0) (.int .i64 0) (.int .i64 0) (.slice none 0 0) (.bool false)
          unfold set7 at hw hT hK
          refine bodyPost_ret (results_cell_row rfl _ _ (w.heap.size + 1) 43 #[(.int .i64 5), (.slice none 0 0), (.int .i64 0), (.int .i64 0), (.int .i64 0), (.slice none 0 0), (.bool false)] (0, 0) _ rfl hw Tryz.underlying43 rfl (by kernel_rfl)) rfl ?_
          exact ⟨_, _, rfl, by rw [HRR.out]; exact rep_plain 5 0 0 0, hT, by rw [HRR.out]; exact HSIM.out⟩
        have d3 : decide ((262144 : Int) < (x.d.length : Int)) = false := dcf (by omega)
        have HP2 : Hid (pe = if s.crowded x.key = true ∨ 4194304 < (R.size : Int) - ((0 : Nat) : Int) + (x.d.length : Int) then 9 else 0) := Lib.hid (by rw [HPE.out, if_neg (by rw [hr]; decide), if_neg (by rw [HSF.out, HV.out]; rintro ⟨-, h⟩; exact absurd h (by decide)), if_neg (by rw [HSF.out]; rintro ⟨-, h, -⟩; exact absurd h (by decide)), if_neg h3, HALL.out, HOB.out])
        have hdl9 : x.d.length ≤ 262144 := by omega
        clear HPE h3
        have hbig : R.size ≤ 262144000 := by rw [HSIM.out.size]; have := HI.out.big; omega
        have r1 : IntKind.i64.wrap ((R.size : Int)) = ((R.size : Int)) := by rw [IntKind.wrap_i64]; omega
        have r2 : IntKind.i64.wrap ((R.size : Int) + (x.d.length : Int)) = ((R.size : Int) + (x.d.length : Int)) := by rw [IntKind.wrap_i64]; omega
        by_cases hfull : 512 ≤ R.objs.length
        · have d5 : decide ((512 : Int) ≤ (R.objs.length : Int)) = true := dct (by omega)
          have hpe : pe = 9 := by rw [HP2.out, if_pos (.inl (by unfold PS.crowded; rw [HSF.out, ← HSIM.out.olen, dct hfull]; rfl))]
          have HRR : Hid (r = (s, bad 9)) := Lib.hid (by rw [HR.out, hpe, if_neg (by decide)])
          clear HR HP2 hpe hfull
          go_upto_region 14 with fail
          have Hk : Hid (∀ W, Below wq.heap.size wq W → W.cell? ⟨w.heap.size, 2, none⟩ = some (.slice x.A x.d.length x.c) ∧ W.cell? ⟨R.g, 0, none⟩ = some (.slice R.AO R.objs.length R.cO)) := Lib.hid fun W hW => ⟨(HFq.out.on hW).b3.cell 2, (HFq.out.on hW).at_.blk.cell 0⟩
          have HSZ : Hid (∀ W, Below wq.heap.size wq W → Calls Tryz.prog 27 #[.pointer (some ⟨R.g, 0, none⟩)] W fun e w' => e = .returned (.int .i64 (R.size : Nat)) ∧ Below W.heap.size W w') := Lib.hid fun W hW => HSIM.out.sizeR (HFq.out.on hW).at_ HI.out hn
          refine wp_region_T 99 (fun w' => w'.cell? ⟨w.heap.size, 2, none⟩ = some (.slice x.A x.d.length x.c) ∧ w'.cell? ⟨R.g, 0, none⟩ = some (.slice R.AO R.objs.length R.cO)) (by kernel_rfl) (Hk.out _ (below_drewN_ (Below.refl _ _) 1)) (fun hHeld => ?_)
          have HW0 : Hid (Below wq.heap.size wq wq.drew) := Lib.hid (below_drewN_ (Below.refl _ _) 1)
          generalize wq.drew = wd at *
          refine wpAnyT_take (i := 0) (oi := _) (v := ?_) rfl (by kernel_rfl) (fun _ _ _ h => h) (Or.inl ⟨by kernel_rfl, ?_⟩) (by assumption) ?_; rotate_left; (focus (intro w hSw; (try dsimp only at hSw); go_simp; (try with_reducible rfl))); (try simp only [Act.put, List.getElem_toArray, List.getElem_cons_zero, List.setIfInBounds_toArray, List.set_cons_zero, List.set_cons_succ])
          refine wpAnyT_take (i := 1) (oi := _) (v := ?_) rfl (by kernel_rfl) (fun _ _ _ h => h) (Or.inl ⟨by kernel_rfl, ?_⟩) (by assumption) ?_; rotate_left; (focus (intro w hSw; (try dsimp only at hSw); go_simp; (try with_reducible rfl))); (try simp only [Act.put, List.getElem_toArray, List.getElem_cons_zero, List.getElem_cons_succ, List.setIfInBounds_toArray, List.set_cons_zero, List.set_cons_succ])
          refine wpAnyT_take (i := 2) (oi := _) (v := ?_) rfl (by kernel_rfl) (fun _ _ _ h => h) (Or.inl ⟨by kernel_rfl, ?_⟩) (by assumption) ?_; rotate_left; (focus (intro w hSw; (try dsimp only at hSw); go_simp; (try with_reducible rfl))); (try simp only [Act.put, List.getElem_toArray, List.getElem_cons_zero, List.getElem_cons_succ, List.setIfInBounds_toArray, List.set_cons_zero, List.set_cons_succ])
          refine wpAnyT_take (i := 3) (oi := _) (v := ?_) rfl (by kernel_rfl) (fun _ _ _ h => h) (Or.inl ⟨by kernel_rfl, ?_⟩) (by assumption) ?_; rotate_left; (focus (intro w hSw; (try dsimp only at hSw); go_simp; (try with_reducible rfl))); (try simp only [Act.put, List.getElem_toArray, List.getElem_cons_zero, List.getElem_cons_succ, List.setIfInBounds_toArray, List.set_cons_zero, List.set_cons_succ])
          refine wpAnyT_take (i := 4) (oi := _) (v := ?_) rfl (by kernel_rfl) (fun _ _ _ h => h) (Or.inl ⟨by kernel_rfl, ?_⟩) (by assumption) ?_; rotate_left; (focus (intro w hSw; (try dsimp only at hSw); go_simp; (try with_reducible rfl))); (try simp only [Act.put, List.getElem_toArray, List.getElem_cons_zero, List.getElem_cons_succ, List.setIfInBounds_toArray, List.set_cons_zero, List.set_cons_succ])
          refine wpAnyT_take (i := 5) (oi := _) (v := ?_) rfl (by kernel_rfl) (fun _ _ _ h => h) (Or.inl ⟨by kernel_rfl, ?_⟩) (by assumption) ?_; rotate_left; (focus (intro w hSw; (try dsimp only at hSw); go_simp; (try with_reducible rfl))); (try simp only [Act.put, List.getElem_toArray, List.getElem_cons_zero, List.getElem_cons_succ, List.setIfInBounds_toArray, List.set_cons_zero, List.set_cons_succ])
          refine wpAnyT_take (i := 6) (oi := _) (v := ?_) rfl (by kernel_rfl) (fun _ _ _ h => h) (Or.inl ⟨by kernel_rfl, ?_⟩) (by assumption) ?_; rotate_left; (focus (intro w hSw; (try dsimp only at hSw); go_simp; (try with_reducible rfl))); (try simp only [Act.put, List.getElem_toArray, List.getElem_cons_zero, List.getElem_cons_succ, List.setIfInBounds_toArray, List.set_cons_zero, List.set_cons_succ])
          refine wpAnyT_take (i := 7) (oi := _) (v := ?_) rfl (by kernel_rfl) (fun _ _ _ h => h) (Or.inl ⟨by kernel_rfl, ?_⟩) (by assumption) ?_; rotate_left; (focus (intro w hSw; (try dsimp only at hSw); go_simp; (try with_reducible rfl))); (try simp only [Act.put, List.getElem_toArray, List.getElem_cons_zero, List.getElem_cons_succ, List.setIfInBounds_toArray, List.set_cons_zero, List.set_cons_succ])
          refine wpAnyT_take (i := 8) (oi := _) (v := ?_) rfl (by kernel_rfl) (fun _ _ _ h => h) (Or.inl ⟨by kernel_rfl, ?_⟩) (by assumption) ?_; rotate_left; (focus (intro w hSw; (try dsimp only at hSw); go_simp; (try with_reducible rfl))); (try simp only [Act.put, List.getElem_toArray, List.getElem_cons_zero, List.getElem_cons_succ, List.setIfInBounds_toArray, List.set_cons_zero, List.set_cons_succ])
          refine wpAnyT_take (i := 9) (oi := _) (v := ?_) rfl (by kernel_rfl) (fun _ _ _ h => h) (Or.inl ⟨by kernel_rfl, ?_⟩) (by assumption) ?_; rotate_left; (focus (intro w hSw; (try dsimp only at hSw); go_simp; (try with_reducible rfl))); (try simp only [Act.put, List.getElem_toArray, List.getElem_cons_zero, List.getElem_cons_succ, List.setIfInBounds_toArray, List.set_cons_zero, List.set_cons_succ])
          refine wpAnyT_take (i := 10) (oi := _) (v := ?_) rfl (by kernel_rfl) (fun _ _ _ h => h) (Or.inl ⟨by kernel_rfl, ?_⟩) (by assumption) ?_; rotate_left; (focus (intro w hSw; (try dsimp only at hSw); go_simp; (try with_reducible rfl))); (try simp only [Act.put, List.getElem_toArray, List.getElem_cons_zero, List.getElem_cons_succ, List.setIfInBounds_toArray, List.set_cons_zero, List.set_cons_succ])
          refine wpAnyT_take (i := 11) (oi := _) (v := undef) rfl (by kernel_rfl) (fun _ _ _ h => h) (Or.inr ⟨by kernel_rfl, rfl⟩) (by assumption) ?_; (try simp only [Act.put, List.getElem_toArray, List.getElem_cons_zero, List.getElem_cons_succ, List.setIfInBounds_toArray, List.set_cons_zero, List.set_cons_succ])
          refine wpAnyT_take (i := 12) (oi := _) (v := undef) rfl (by kernel_rfl) (fun _ _ _ h => h) (Or.inr ⟨by kernel_rfl, rfl⟩) (by assumption) ?_; (try simp only [Act.put, List.getElem_toArray, List.getElem_cons_zero, List.getElem_cons_succ, List.setIfInBounds_toArray, List.set_cons_zero, List.set_cons_succ])
          refine wpAnyT_take (i := 13) (oi := _) (v := undef) rfl (by kernel_rfl) (fun _ _ _ h => h) (Or.inr ⟨by kernel_rfl, rfl⟩) (by assumption) ?_; (try simp only [Act.put, List.getElem_toArray, List.getElem_cons_zero, List.getElem_cons_succ, List.setIfInBounds_toArray, List.set_cons_zero, List.set_cons_succ])
          refine wpAnyT_take (i := 14) (oi := _) (v := undef) rfl (by kernel_rfl) (fun _ _ _ h => h) (Or.inr ⟨by kernel_rfl, rfl⟩) (by assumption) ?_; (try simp only [Act.put, List.getElem_toArray, List.getElem_cons_zero, List.getElem_cons_succ, List.setIfInBounds_toArray, List.set_cons_zero, List.set_cons_succ])
          refine wpAnyT_take (i := 15) (oi := _) (v := undef) rfl (by kernel_rfl) (fun _ _ _ h => h) (Or.inr ⟨by kernel_rfl, rfl⟩) (by assumption) ?_; (try simp only [Act.put, List.getElem_toArray, List.getElem_cons_zero, List.getElem_cons_succ, List.setIfInBounds_toArray, List.set_cons_zero, List.set_cons_succ])
          refine wpAnyT_take (i := 16) (oi := _) (v := undef) rfl (by kernel_rfl) (fun _ _ _ h => h) (Or.inr ⟨by kernel_rfl, rfl⟩) (by assumption) ?_; (try simp only [Act.put, List.getElem_toArray, List.getElem_cons_zero, List.getElem_cons_succ, List.setIfInBounds_toArray, List.set_cons_zero, List.set_cons_succ])
          refine wpAnyT_take (i := 17) (oi := _) (v := undef) rfl (by kernel_rfl) (fun _ _ _ h => h) (Or.inr ⟨by kernel_rfl, rfl⟩) (by assumption) ?_; (try simp only [Act.put, List.getElem_toArray, List.getElem_cons_zero, List.getElem_cons_succ, List.setIfInBounds_toArray, List.set_cons_zero, List.set_cons_succ])
          refine wpAnyT_take (i := 18) (oi := _) (v := undef) rfl (by kernel_rfl) (fun _ _ _ h => h) (Or.inr ⟨by kernel_rfl, rfl⟩) (by assumption) ?_; (try simp only [Act.put, List.getElem_toArray, List.getElem_cons_zero, List.getElem_cons_succ, List.setIfInBounds_toArray, List.set_cons_zero, List.set_cons_succ])
          refine wpAnyT_take (i := 19) (oi := _) (v := undef) rfl (by kernel_rfl) (fun _ _ _ h => h) (Or.inr ⟨by kernel_rfl, rfl⟩) (by assumption) ?_; (try simp only [Act.put, List.getElem_toArray, List.getElem_cons_zero, List.getElem_cons_succ, List.setIfInBounds_toArray, List.set_cons_zero, List.set_cons_succ])
          refine wpAnyT_take (i := 20) (oi := _) (v := ?_) rfl (by kernel_rfl) (fun _ _ _ h => h) (Or.inl ⟨by kernel_rfl, ?_⟩) (by assumption) ?_; rotate_left; (focus (intro w hSw; (try dsimp only at hSw); go_simp; (try with_reducible rfl))); (try simp only [Act.put, List.getElem_toArray, List.getElem_cons_zero, List.getElem_cons_succ, List.setIfInBounds_toArray, List.set_cons_zero, List.set_cons_succ])
          refine wpAnyT_done (by kernel_rfl) ?_ _
          have HF8 := Lib.hid (HFq.out.on HW0.out)
          clear hHeld k1 k2
          go_wp2_with fail
          refine (bad_calls wd 9).mono ?_
          rintro e wb ⟨rfl, hbb⟩
          have HXB := Lib.hid (HF8.out.on hbb)
          clear hbb
          unfold errV
          have q0 : wb.cell? ⟨w.heap.size + 1, 0, none⟩ = some (.int .i64 0) := HXB.out.b4.cell 0
          have p0 : wb.frozen? ⟨w.heap.size + 1, 0, none⟩ = false := HXB.out.b4.frozen 0
          have q1 : wb.cell? ⟨w.heap.size + 1, 1, none⟩ = some (.slice none 0 0) := HXB.out.b4.cell 1
          have p1 : wb.frozen? ⟨w.heap.size + 1, 1, none⟩ = false := HXB.out.b4.frozen 1
          have q2 : wb.cell? ⟨w.heap.size + 1, 2, none⟩ = some (.int .i64 0) := HXB.out.b4.cell 2
          have p2 : wb.frozen? ⟨w.heap.size + 1, 2, none⟩ = false := HXB.out.b4.frozen 2
          have q3 : wb.cell? ⟨w.heap.size + 1, 3, none⟩ = some (.int .i64 0) := HXB.out.b4.cell 3
          have p3 : wb.frozen? ⟨w.heap.size + 1, 3, none⟩ = false := HXB.out.b4.frozen 3
          have q4 : wb.cell? ⟨w.heap.size + 1, 4, none⟩ = some (.int .i64 0) := HXB.out.b4.cell 4
          have p4 : wb.frozen? ⟨w.heap.size + 1, 4, none⟩ = false := HXB.out.b4.frozen 4
          have q5 : wb.cell? ⟨w.heap.size + 1, 5, none⟩ = some (.slice none 0 0) := HXB.out.b4.cell 5
          have p5 : wb.frozen? ⟨w.heap.size + 1, 5, none⟩ = false := HXB.out.b4.frozen 5
          have q6 : wb.cell? ⟨w.heap.size + 1, 6, none⟩ = some (.bool false) := HXB.out.b4.cell 6
          have p6 : wb.frozen? ⟨w.heap.size + 1, 6, none⟩ = false := HXB.out.b4.frozen 6
          go_wp2
          obtain ⟨hw, hT, hK⟩ := HXB.out.fin (.int .i64 9) (.slice none 0 0) (.int .i64 0) (.int .i64 0) (.int .i64 0) (.slice none 0 0) (.bool false)
          unfold set7 at hw hT hK
          refine bodyPost_ret (results_cell_row rfl _ _ (w.heap.size + 1) 43 #[(.int .i64 9), (.slice none 0 0), (.int .i64 0), (.int .i64 0), (.int .i64 0), (.slice none 0 0), (.bool false)] (0, 0) _ rfl hw Tryz.underlying43 rfl (by kernel_rfl)) rfl ?_
          exact ⟨_, _, rfl, by rw [HRR.out]; exact rep_plain 9 0 0 0, hT, by rw [HRR.out]; exact HSIM.out⟩
        have d5 : decide ((512 : Int) ≤ (R.objs.length : Int)) = false := dcf (by omega)
        have HNC : Hid (¬ s.crowded x.key = true) := Lib.hid (by unfold PS.crowded; rw [HSF.out, ← HSIM.out.olen, dcf hfull]; simp)
        clear hfull
        by_cases h4 : 4194304 < (R.size : Int) + (x.d.length : Int)
        · have d4 := dct h4
          have hpe : pe = 9 := by rw [HP2.out, if_pos (.inr (by omega))]
          have HRR : Hid (r = (s, bad 9)) := Lib.hid (by rw [HR.out, hpe, if_neg (by decide)])
          clear HR HP2 hpe h4
          go_upto_region 14 with fail
          have Hk : Hid (∀ W, Below wq.heap.size wq W → W.cell? ⟨w.heap.size, 2, none⟩ = some (.slice x.A x.d.length x.c) ∧ W.cell? ⟨R.g, 0, none⟩ = some (.slice R.AO R.objs.length R.cO)) := Lib.hid fun W hW => ⟨(HFq.out.on hW).b3.cell 2, (HFq.out.on hW).at_.blk.cell 0⟩
          have HSZ : Hid (∀ W, Below wq.heap.size wq W → Calls Tryz.prog 27 #[.pointer (some ⟨R.g, 0, none⟩)] W fun e w' => e = .returned (.int .i64 (R.size : Nat)) ∧ Below W.heap.size W w') := Lib.hid fun W hW => HSIM.out.sizeR (HFq.out.on hW).at_ HI.out hn
          refine wp_region_T 99 (fun w' => w'.cell? ⟨w.heap.size, 2, none⟩ = some (.slice x.A x.d.length x.c) ∧ w'.cell? ⟨R.g, 0, none⟩ = some (.slice R.AO R.objs.length R.cO)) (by kernel_rfl) (Hk.out _ (below_drewN_ (Below.refl _ _) 1)) (fun hHeld => ?_)
          have HW0 : Hid (Below wq.heap.size wq wq.drew) := Lib.hid (below_drewN_ (Below.refl _ _) 1)
          generalize wq.drew = wd at *
          refine wpAnyT_take (i := 0) (oi := _) (v := ?_) rfl (by kernel_rfl) (fun _ _ _ h => h) (Or.inl ⟨by kernel_rfl, ?_⟩) (by assumption) ?_; rotate_left; (focus (intro w hSw; (try dsimp only at hSw); go_simp; (try with_reducible rfl))); (try simp only [Act.put, List.getElem_toArray, List.getElem_cons_zero, List.setIfInBounds_toArray, List.set_cons_zero, List.set_cons_succ])
          refine wpAnyT_take (i := 1) (oi := _) (v := ?_) rfl (by kernel_rfl) (fun _ _ _ h => h) (Or.inl ⟨by kernel_rfl, ?_⟩) (by assumption) ?_; rotate_left; (focus (intro w hSw; (try dsimp only at hSw); go_simp; (try with_reducible rfl))); (try simp only [Act.put, List.getElem_toArray, List.getElem_cons_zero, List.getElem_cons_succ, List.setIfInBounds_toArray, List.set_cons_zero, List.set_cons_succ])
          refine wpAnyT_take (i := 2) (oi := _) (v := ?_) rfl (by kernel_rfl) (fun _ _ _ h => h) (Or.inl ⟨by kernel_rfl, ?_⟩) (by assumption) ?_; rotate_left; (focus (intro w hSw; (try dsimp only at hSw); go_simp; (try with_reducible rfl))); (try simp only [Act.put, List.getElem_toArray, List.getElem_cons_zero, List.getElem_cons_succ, List.setIfInBounds_toArray, List.set_cons_zero, List.set_cons_succ])
          refine wpAnyT_take (i := 3) (oi := _) (v := ?_) rfl (by kernel_rfl) (fun _ _ _ h => h) (Or.inl ⟨by kernel_rfl, ?_⟩) (by assumption) ?_; rotate_left; (focus (intro w hSw; (try dsimp only at hSw); go_simp; (try with_reducible rfl))); (try simp only [Act.put, List.getElem_toArray, List.getElem_cons_zero, List.getElem_cons_succ, List.setIfInBounds_toArray, List.set_cons_zero, List.set_cons_succ])
          refine wpAnyT_take (i := 4) (oi := _) (v := ?_) rfl (by kernel_rfl) (fun _ _ _ h => h) (Or.inl ⟨by kernel_rfl, ?_⟩) (by assumption) ?_; rotate_left; (focus (intro w hSw; (try dsimp only at hSw); go_simp; (try with_reducible rfl))); (try simp only [Act.put, List.getElem_toArray, List.getElem_cons_zero, List.getElem_cons_succ, List.setIfInBounds_toArray, List.set_cons_zero, List.set_cons_succ])
          refine wpAnyT_take (i := 5) (oi := _) (v := ?_) rfl (by kernel_rfl) (fun _ _ _ h => h) (Or.inl ⟨by kernel_rfl, ?_⟩) (by assumption) ?_; rotate_left; (focus (intro w hSw; (try dsimp only at hSw); go_simp; (try with_reducible rfl))); (try simp only [Act.put, List.getElem_toArray, List.getElem_cons_zero, List.getElem_cons_succ, List.setIfInBounds_toArray, List.set_cons_zero, List.set_cons_succ])
          refine wpAnyT_take (i := 6) (oi := _) (v := ?_) rfl (by kernel_rfl) (fun _ _ _ h => h) (Or.inl ⟨by kernel_rfl, ?_⟩) (by assumption) ?_; rotate_left; (focus (intro w hSw; (try dsimp only at hSw); go_simp; (try with_reducible rfl))); (try simp only [Act.put, List.getElem_toArray, List.getElem_cons_zero, List.getElem_cons_succ, List.setIfInBounds_toArray, List.set_cons_zero, List.set_cons_succ])
          refine wpAnyT_take (i := 7) (oi := _) (v := ?_) rfl (by kernel_rfl) (fun _ _ _ h => h) (Or.inl ⟨by kernel_rfl, ?_⟩) (by assumption) ?_; rotate_left; (focus (intro w hSw; (try dsimp only at hSw); go_simp; (try with_reducible rfl))); (try simp only [Act.put, List.getElem_toArray, List.getElem_cons_zero, List.getElem_cons_succ, List.setIfInBounds_toArray, List.set_cons_zero, List.set_cons_succ])
          refine wpAnyT_take (i := 8) (oi := _) (v := ?_) rfl (by kernel_rfl) (fun _ _ _ h => h) (Or.inl ⟨by kernel_rfl, ?_⟩) (by assumption) ?_; rotate_left; (focus (intro w hSw; (try dsimp only at hSw); go_simp; (try with_reducible rfl))); (try simp only [Act.put, List.getElem_toArray, List.getElem_cons_zero, List.getElem_cons_succ, List.setIfInBounds_toArray, List.set_cons_zero, List.set_cons_succ])
          refine wpAnyT_take (i := 9) (oi := _) (v := ?_) rfl (by kernel_rfl) (fun _ _ _ h => h) (Or.inl ⟨by kernel_rfl, ?_⟩) (by assumption) ?_; rotate_left; (focus (intro w hSw; (try dsimp only at hSw); go_simp; (try with_reducible rfl))); (try simp only [Act.put, List.getElem_toArray, List.getElem_cons_zero, List.getElem_cons_succ, List.setIfInBounds_toArray, List.set_cons_zero, List.set_cons_succ])
          refine wpAnyT_take (i := 10) (oi := _) (v := ?_) rfl (by kernel_rfl) (fun _ _ _ h => h) (Or.inl ⟨by kernel_rfl, ?_⟩) (by assumption) ?_; rotate_left; (focus (intro w hSw; (try dsimp only at hSw); go_simp; (try with_reducible rfl))); (try simp only [Act.put, List.getElem_toArray, List.getElem_cons_zero, List.getElem_cons_succ, List.setIfInBounds_toArray, List.set_cons_zero, List.set_cons_succ])
          refine wpAnyT_take (i := 11) (oi := _) (v := ?_) rfl (by kernel_rfl) (fun _ _ _ h => h) (Or.inl ⟨by kernel_rfl, ?_⟩) (by assumption) ?_; rotate_left; (focus (intro w hSw; (try dsimp only at hSw); go_simp; (try with_reducible rfl))); (try simp only [Act.put, List.getElem_toArray, List.getElem_cons_zero, List.getElem_cons_succ, List.setIfInBounds_toArray, List.set_cons_zero, List.set_cons_succ])
          refine wpAnyT_take (i := 13) (oi := _) (v := ?_) rfl (by kernel_rfl) (fun _ _ _ h => h) (Or.inl ⟨by kernel_rfl, ?_⟩) (by assumption) ?_; rotate_left; (focus (intro w hSw; (try dsimp only at hSw); go_simp; (try with_reducible rfl))); (try simp only [Act.put, List.getElem_toArray, List.getElem_cons_zero, List.getElem_cons_succ, List.setIfInBounds_toArray, List.set_cons_zero, List.set_cons_succ])
          refine wpAnyT_take (i := 15) (oi := _) (v := ?_) rfl (by kernel_rfl) (fun _ _ _ h => h) (Or.inl ⟨by kernel_rfl, ?_⟩) (by assumption) ?_; rotate_left; (focus (intro w hSw; (try dsimp only at hSw); go_simp; (try with_reducible rfl))); (try simp only [Act.put, List.getElem_toArray, List.getElem_cons_zero, List.getElem_cons_succ, List.setIfInBounds_toArray, List.set_cons_zero, List.set_cons_succ])
          refine wpAnyT_take (i := 16) (oi := _) (v := ?_) rfl (by kernel_rfl) (fun _ _ _ h => h) (Or.inl ⟨by kernel_rfl, ?_⟩) (by assumption) ?_; rotate_left; (focus (intro w hSw; (try dsimp only at hSw); go_simp; (try with_reducible rfl))); (try simp only [Act.put, List.getElem_toArray, List.getElem_cons_zero, List.getElem_cons_succ, List.setIfInBounds_toArray, List.set_cons_zero, List.set_cons_succ])
          refine wpAnyT_take (i := 17) (oi := _) (v := ?_) rfl (by kernel_rfl) (fun _ _ _ h => h) (Or.inl ⟨by kernel_rfl, ?_⟩) (by assumption) ?_; rotate_left; (focus (intro w hSw; (try dsimp only at hSw); go_simp; (try with_reducible rfl))); (try simp only [Act.put, List.getElem_toArray, List.getElem_cons_zero, List.getElem_cons_succ, List.setIfInBounds_toArray, List.set_cons_zero, List.set_cons_succ])
          refine wpAnyT_one (i := 12) (by kernel_rfl) rfl (fun K hK => ?_); go_simp
          refine (HSZ.out _ HW0.out).mono ?_
          rintro e w8 ⟨rfl, hb8'⟩
          have hb8 := HW0.out.trans (hb8'.mono HW0.out.size)
          have hH8 := Hk.out _ hb8
          refine hK.out _ _ (fun _ => hH8) ?_
          have HF8 := Lib.hid (HFq.out.on hb8)
          clear hK K hHeld hb8 hb8' HSZ Hk HW0
          (try simp only [Act.put, List.getElem_toArray, List.getElem_cons_zero, List.getElem_cons_succ, List.setIfInBounds_toArray, List.set_cons_zero, List.set_cons_succ])
          refine wpAnyT_take (i := 14) (oi := _) (v := ?_) rfl (by kernel_rfl) (fun _ _ _ h => h) (Or.inl ⟨by kernel_rfl, ?_⟩) (by assumption) ?_; rotate_left; (focus (intro w hSw; (try dsimp only at hSw); go_simp; (try with_reducible rfl))); (try simp only [Act.put, List.getElem_toArray, List.getElem_cons_zero, List.getElem_cons_succ, List.setIfInBounds_toArray, List.set_cons_zero, List.set_cons_succ])
          refine wpAnyT_take (i := 18) (oi := _) (v := ?_) rfl (by kernel_rfl) (fun _ _ _ h => h) (Or.inl ⟨by kernel_rfl, ?_⟩) (by assumption) ?_; rotate_left; (focus (intro w hSw; (try dsimp only at hSw); go_simp; (try with_reducible rfl))); (try simp only [Act.put, List.getElem_toArray, List.getElem_cons_zero, List.getElem_cons_succ, List.setIfInBounds_toArray, List.set_cons_zero, List.set_cons_succ])
          refine wpAnyT_take (i := 19) (oi := _) (v := ?_) rfl (by kernel_rfl) (fun _ _ _ h => h) (Or.inl ⟨by kernel_rfl, ?_⟩) (by assumption) ?_; rotate_left; (focus (intro w hSw; (try dsimp only at hSw); go_simp; (try with_reducible rfl))); (try simp only [Act.put, List.getElem_toArray, List.getElem_cons_zero, List.getElem_cons_succ, List.setIfInBounds_toArray, List.set_cons_zero, List.set_cons_succ])
          refine wpAnyT_take (i := 20) (oi := _) (v := ?_) rfl (by kernel_rfl) (fun _ _ _ h => h) (Or.inl ⟨by kernel_rfl, ?_⟩) (by assumption) ?_; rotate_left; (focus (intro w hSw; (try dsimp only at hSw); go_simp; (try with_reducible rfl))); (try simp only [Act.put, List.getElem_toArray, List.getElem_cons_zero, List.getElem_cons_succ, List.setIfInBounds_toArray, List.set_cons_zero, List.set_cons_succ])
          refine wpAnyT_done (by kernel_rfl) ?_ _
          clear hH8 k1 k2
          go_wp2_with fail
          refine (bad_calls w8 9).mono ?_
          rintro e wb ⟨rfl, hbb⟩
          have HXB := Lib.hid (HF8.out.on hbb)
          clear hbb
          unfold errV
          have q0 : wb.cell? ⟨w.heap.size + 1, 0, none⟩ = some (.int .i64 0) := HXB.out.b4.cell 0
          have p0 : wb.frozen? ⟨w.heap.size + 1, 0, none⟩ = false := HXB.out.b4.frozen 0
          have q1 : wb.cell? ⟨w.heap.size + 1, 1, none⟩ = some (.slice none 0 0) := HXB.out.b4.cell 1
          have p1 : wb.frozen? ⟨w.heap.size + 1, 1, none⟩ = false := HXB.out.b4.frozen 1
          have q2 : wb.cell? ⟨w.heap.size + 1, 2, none⟩ = some (.int .i64 0) := HXB.out.b4.cell 2
          have p2 : wb.frozen? ⟨w.heap.size + 1, 2, none⟩ = false := HXB.out.b4.frozen 2
          have q3 : wb.cell? ⟨w.heap.size + 1, 3, none⟩ = some (.int .i64 0) := HXB.out.b4.cell 3
          have p3 : wb.frozen? ⟨w.heap.size + 1, 3, none⟩ = false := HXB.out.b4.frozen 3
          have q4 : wb.cell? ⟨w.heap.size + 1, 4, none⟩ = some (.int .i64 0) := HXB.out.b4.cell 4
          have p4 : wb.frozen? ⟨w.heap.size + 1, 4, none⟩ = false := HXB.out.b4.frozen 4
          have q5 : wb.cell? ⟨w.heap.size + 1, 5, none⟩ = some (.slice none 0 0) := HXB.out.b4.cell 5
          have p5 : wb.frozen? ⟨w.heap.size + 1, 5, none⟩ = false := HXB.out.b4.frozen 5
          have q6 : wb.cell? ⟨w.heap.size + 1, 6, none⟩ = some (.bool false) := HXB.out.b4.cell 6
          have p6 : wb.frozen? ⟨w.heap.size + 1, 6, none⟩ = false := HXB.out.b4.frozen 6
          go_wp2
          obtain ⟨hw, hT, hK⟩ := HXB.out.fin (.int .i64 9) (.slice none 0 0) (.int .i64 0) (.int .i64 0) (.int .i64 0) (.slice none 0 0) (.bool false)
          unfold set7 at hw hT hK
          refine bodyPost_ret (results_cell_row rfl _ _ (w.heap.size + 1) 43 #[(.int .i64 9), (.slice none 0 0), (.int .i64 0), (.int .i64 0), (.int .i64 0), (.slice none 0 0), (.bool false)] (0, 0) _ rfl hw Tryz.underlying43 rfl (by kernel_rfl)) rfl ?_
          exact ⟨_, _, rfl, by rw [HRR.out]; exact rep_plain 9 0 0 0, hT, by rw [HRR.out]; exact HSIM.out⟩
        have d4 := dcf h4
        have hpe : pe = 0 := by rw [HP2.out, if_neg (by rintro (h | h); exact absurd h HNC.out; exact h4 (by omega))]
        have HRR : Hid (r = (s.made x.key x.d, ⟨0, [], s.ver + 1, s.now, 0, [], false⟩)) := Lib.hid (by rw [HR.out, hpe, if_pos rfl])
        clear HR HP2 hpe h4
        go_upto_region 14 with fail
        have Hk : Hid (∀ W, Below wq.heap.size wq W → W.cell? ⟨w.heap.size, 2, none⟩ = some (.slice x.A x.d.length x.c) ∧ W.cell? ⟨R.g, 0, none⟩ = some (.slice R.AO R.objs.length R.cO)) := Lib.hid fun W hW => ⟨(HFq.out.on hW).b3.cell 2, (HFq.out.on hW).at_.blk.cell 0⟩
        have HSZ : Hid (∀ W, Below wq.heap.size wq W → Calls Tryz.prog 27 #[.pointer (some ⟨R.g, 0, none⟩)] W fun e w' => e = .returned (.int .i64 (R.size : Nat)) ∧ Below W.heap.size W w') := Lib.hid fun W hW => HSIM.out.sizeR (HFq.out.on hW).at_ HI.out hn
        refine wp_region_T 99 (fun w' => w'.cell? ⟨w.heap.size, 2, none⟩ = some (.slice x.A x.d.length x.c) ∧ w'.cell? ⟨R.g, 0, none⟩ = some (.slice R.AO R.objs.length R.cO)) (by kernel_rfl) (Hk.out _ (below_drewN_ (Below.refl _ _) 1)) (fun hHeld => ?_)
        have HW0 : Hid (Below wq.heap.size wq wq.drew) := Lib.hid (below_drewN_ (Below.refl _ _) 1)
        generalize wq.drew = wd at *
        refine wpAnyT_take (i := 0) (oi := _) (v := ?_) rfl (by kernel_rfl) (fun _ _ _ h => h) (Or.inl ⟨by kernel_rfl, ?_⟩) (by assumption) ?_; rotate_left; (focus (intro w hSw; (try dsimp only at hSw); go_simp; (try with_reducible rfl))); (try simp only [Act.put, List.getElem_toArray, List.getElem_cons_zero, List.setIfInBounds_toArray, List.set_cons_zero, List.set_cons_succ])
        refine wpAnyT_take (i := 1) (oi := _) (v := ?_) rfl (by kernel_rfl) (fun _ _ _ h => h) (Or.inl ⟨by kernel_rfl, ?_⟩) (by assumption) ?_; rotate_left; (focus (intro w hSw; (try dsimp only at hSw); go_simp; (try with_reducible rfl))); (try simp only [Act.put, List.getElem_toArray, List.getElem_cons_zero, List.getElem_cons_succ, List.setIfInBounds_toArray, List.set_cons_zero, List.set_cons_succ])
        refine wpAnyT_take (i := 2) (oi := _) (v := ?_) rfl (by kernel_rfl) (fun _ _ _ h => h) (Or.inl ⟨by kernel_rfl, ?_⟩) (by assumption) ?_; rotate_left; (focus (intro w hSw; (try dsimp only at hSw); go_simp; (try with_reducible rfl))); (try simp only [Act.put, List.getElem_toArray, List.getElem_cons_zero, List.getElem_cons_succ, List.setIfInBounds_toArray, List.set_cons_zero, List.set_cons_succ])
        refine wpAnyT_take (i := 3) (oi := _) (v := ?_) rfl (by kernel_rfl) (fun _ _ _ h => h) (Or.inl ⟨by kernel_rfl, ?_⟩) (by assumption) ?_; rotate_left; (focus (intro w hSw; (try dsimp only at hSw); go_simp; (try with_reducible rfl))); (try simp only [Act.put, List.getElem_toArray, List.getElem_cons_zero, List.getElem_cons_succ, List.setIfInBounds_toArray, List.set_cons_zero, List.set_cons_succ])
        refine wpAnyT_take (i := 4) (oi := _) (v := ?_) rfl (by kernel_rfl) (fun _ _ _ h => h) (Or.inl ⟨by kernel_rfl, ?_⟩) (by assumption) ?_; rotate_left; (focus (intro w hSw; (try dsimp only at hSw); go_simp; (try with_reducible rfl))); (try simp only [Act.put, List.getElem_toArray, List.getElem_cons_zero, List.getElem_cons_succ, List.setIfInBounds_toArray, List.set_cons_zero, List.set_cons_succ])
        refine wpAnyT_take (i := 5) (oi := _) (v := ?_) rfl (by kernel_rfl) (fun _ _ _ h => h) (Or.inl ⟨by kernel_rfl, ?_⟩) (by assumption) ?_; rotate_left; (focus (intro w hSw; (try dsimp only at hSw); go_simp; (try with_reducible rfl))); (try simp only [Act.put, List.getElem_toArray, List.getElem_cons_zero, List.getElem_cons_succ, List.setIfInBounds_toArray, List.set_cons_zero, List.set_cons_succ])
        refine wpAnyT_take (i := 6) (oi := _) (v := ?_) rfl (by kernel_rfl) (fun _ _ _ h => h) (Or.inl ⟨by kernel_rfl, ?_⟩) (by assumption) ?_; rotate_left; (focus (intro w hSw; (try dsimp only at hSw); go_simp; (try with_reducible rfl))); (try simp only [Act.put, List.getElem_toArray, List.getElem_cons_zero, List.getElem_cons_succ, List.setIfInBounds_toArray, List.set_cons_zero, List.set_cons_succ])
        refine wpAnyT_take (i := 7) (oi := _) (v := ?_) rfl (by kernel_rfl) (fun _ _ _ h => h) (Or.inl ⟨by kernel_rfl, ?_⟩) (by assumption) ?_; rotate_left; (focus (intro w hSw; (try dsimp only at hSw); go_simp; (try with_reducible rfl))); (try simp only [Act.put, List.getElem_toArray, List.getElem_cons_zero, List.getElem_cons_succ, List.setIfInBounds_toArray, List.set_cons_zero, List.set_cons_succ])
        refine wpAnyT_take (i := 8) (oi := _) (v := ?_) rfl (by kernel_rfl) (fun _ _ _ h => h) (Or.inl ⟨by kernel_rfl, ?_⟩) (by assumption) ?_; rotate_left; (focus (intro w hSw; (try dsimp only at hSw); go_simp; (try with_reducible rfl))); (try simp only [Act.put, List.getElem_toArray, List.getElem_cons_zero, List.getElem_cons_succ, List.setIfInBounds_toArray, List.set_cons_zero, List.set_cons_succ])
        refine wpAnyT_take (i := 9) (oi := _) (v := ?_) rfl (by kernel_rfl) (fun _ _ _ h => h) (Or.inl ⟨by kernel_rfl, ?_⟩) (by assumption) ?_; rotate_left; (focus (intro w hSw; (try dsimp only at hSw); go_simp; (try with_reducible rfl))); (try simp only [Act.put, List.getElem_toArray, List.getElem_cons_zero, List.getElem_cons_succ, List.setIfInBounds_toArray, List.set_cons_zero, List.set_cons_succ])
        refine wpAnyT_take (i := 10) (oi := _) (v := ?_) rfl (by kernel_rfl) (fun _ _ _ h => h) (Or.inl ⟨by kernel_rfl, ?_⟩) (by assumption) ?_; rotate_left; (focus (intro w hSw; (try dsimp only at hSw); go_simp; (try with_reducible rfl))); (try simp only [Act.put, List.getElem_toArray, List.getElem_cons_zero, List.getElem_cons_succ, List.setIfInBounds_toArray, List.set_cons_zero, List.set_cons_succ])
        refine wpAnyT_take (i := 11) (oi := _) (v := ?_) rfl (by kernel_rfl) (fun _ _ _ h => h) (Or.inl ⟨by kernel_rfl, ?_⟩) (by assumption) ?_; rotate_left; (focus (intro w hSw; (try dsimp only at hSw); go_simp; (try with_reducible rfl))); (try simp only [Act.put, List.getElem_toArray, List.getElem_cons_zero, List.getElem_cons_succ, List.setIfInBounds_toArray, List.set_cons_zero, List.set_cons_succ])
        refine wpAnyT_take (i := 13) (oi := _) (v := ?_) rfl (by kernel_rfl) (fun _ _ _ h => h) (Or.inl ⟨by kernel_rfl, ?_⟩) (by assumption) ?_; rotate_left; (focus (intro w hSw; (try dsimp only at hSw); go_simp; (try with_reducible rfl))); (try simp only [Act.put, List.getElem_toArray, List.getElem_cons_zero, List.getElem_cons_succ, List.setIfInBounds_toArray, List.set_cons_zero, List.set_cons_succ])
        refine wpAnyT_take (i := 15) (oi := _) (v := ?_) rfl (by kernel_rfl) (fun _ _ _ h => h) (Or.inl ⟨by kernel_rfl, ?_⟩) (by assumption) ?_; rotate_left; (focus (intro w hSw; (try dsimp only at hSw); go_simp; (try with_reducible rfl))); (try simp only [Act.put, List.getElem_toArray, List.getElem_cons_zero, List.getElem_cons_succ, List.setIfInBounds_toArray, List.set_cons_zero, List.set_cons_succ])
        refine wpAnyT_take (i := 16) (oi := _) (v := ?_) rfl (by kernel_rfl) (fun _ _ _ h => h) (Or.inl ⟨by kernel_rfl, ?_⟩) (by assumption) ?_; rotate_left; (focus (intro w hSw; (try dsimp only at hSw); go_simp; (try with_reducible rfl))); (try simp only [Act.put, List.getElem_toArray, List.getElem_cons_zero, List.getElem_cons_succ, List.setIfInBounds_toArray, List.set_cons_zero, List.set_cons_succ])
        refine wpAnyT_take (i := 17) (oi := _) (v := ?_) rfl (by kernel_rfl) (fun _ _ _ h => h) (Or.inl ⟨by kernel_rfl, ?_⟩) (by assumption) ?_; rotate_left; (focus (intro w hSw; (try dsimp only at hSw); go_simp; (try with_reducible rfl))); (try simp only [Act.put, List.getElem_toArray, List.getElem_cons_zero, List.getElem_cons_succ, List.setIfInBounds_toArray, List.set_cons_zero, List.set_cons_succ])
        refine wpAnyT_one (i := 12) (by kernel_rfl) rfl (fun K hK => ?_); go_simp
        refine (HSZ.out _ HW0.out).mono ?_
        rintro e w8 ⟨rfl, hb8'⟩
        have hb8 := HW0.out.trans (hb8'.mono HW0.out.size)
        have hH8 := Hk.out _ hb8
        refine hK.out _ _ (fun _ => hH8) ?_
        have HF8 := Lib.hid (HFq.out.on hb8)
        clear hK K hHeld hb8 hb8' HSZ Hk HW0
        (try simp only [Act.put, List.getElem_toArray, List.getElem_cons_zero, List.getElem_cons_succ, List.setIfInBounds_toArray, List.set_cons_zero, List.set_cons_succ])
        refine wpAnyT_take (i := 14) (oi := _) (v := ?_) rfl (by kernel_rfl) (fun _ _ _ h => h) (Or.inl ⟨by kernel_rfl, ?_⟩) (by assumption) ?_; rotate_left; (focus (intro w hSw; (try dsimp only at hSw); go_simp; (try with_reducible rfl))); (try simp only [Act.put, List.getElem_toArray, List.getElem_cons_zero, List.getElem_cons_succ, List.setIfInBounds_toArray, List.set_cons_zero, List.set_cons_succ])
        refine wpAnyT_take (i := 18) (oi := _) (v := ?_) rfl (by kernel_rfl) (fun _ _ _ h => h) (Or.inl ⟨by kernel_rfl, ?_⟩) (by assumption) ?_; rotate_left; (focus (intro w hSw; (try dsimp only at hSw); go_simp; (try with_reducible rfl))); (try simp only [Act.put, List.getElem_toArray, List.getElem_cons_zero, List.getElem_cons_succ, List.setIfInBounds_toArray, List.set_cons_zero, List.set_cons_succ])
        refine wpAnyT_take (i := 19) (oi := _) (v := ?_) rfl (by kernel_rfl) (fun _ _ _ h => h) (Or.inl ⟨by kernel_rfl, ?_⟩) (by assumption) ?_; rotate_left; (focus (intro w hSw; (try dsimp only at hSw); go_simp; (try with_reducible rfl))); (try simp only [Act.put, List.getElem_toArray, List.getElem_cons_zero, List.getElem_cons_succ, List.setIfInBounds_toArray, List.set_cons_zero, List.set_cons_succ])
        refine wpAnyT_take (i := 20) (oi := _) (v := ?_) rfl (by kernel_rfl) (fun _ _ _ h => h) (Or.inl ⟨by kernel_rfl, ?_⟩) (by assumption) ?_; rotate_left; (focus (intro w hSw; (try dsimp only at hSw); go_simp; (try with_reducible rfl))); (try simp only [Act.put, List.getElem_toArray, List.getElem_cons_zero, List.getElem_cons_succ, List.setIfInBounds_toArray, List.set_cons_zero, List.set_cons_succ])
        refine wpAnyT_done (by kernel_rfl) ?_ _
        clear hH8 k1 k2
        have k1 : w8.cell? ⟨w.heap.size, 1, none⟩ = some (.string x.key) := HF8.out.b3.cell 1
        have k2 : w8.cell? ⟨w.heap.size, 2, none⟩ = some (.slice x.A x.d.length x.c) := HF8.out.b3.cell 2
        have hv0 : 0 ≤ R.ver := by rw [HSIM.out.ver]; exact HI.out.v0
        have hv1 : R.ver ≤ 1000000 := by rw [HSIM.out.ver]; have := HI.out.v1; omega
        have HPC := Lib.hid (putR_calls (c := x.c) w8 HF8.out.at_ (Nat.le_trans hol (by omega)) x.key HF8.out.dat (Nat.le_refl _) HF8.out.out hx.d hv0 hv1)
        go_wp2_with fail
        refine HPC.out.mono ?_
        rintro e w11 ⟨rfl, A', c', AO', cO', hT2⟩
        have HXZ := Lib.hid (HF8.out.go hT2)
        have HSI := Lib.hid (HSIM.out.put (k := x.key) HRS.out A' c' x.d AO' cO')
        have HVN := Lib.hid (And.intro HSIM.out.ver HSIM.out.now)
        clear HPC hT2 k1 k2
        have q0 : w11.cell? ⟨w.heap.size + 1, 0, none⟩ = some (.int .i64 0) := HXZ.out.b4.cell 0
        have p0 : w11.frozen? ⟨w.heap.size + 1, 0, none⟩ = false := HXZ.out.b4.frozen 0
        have q1 : w11.cell? ⟨w.heap.size + 1, 1, none⟩ = some (.slice none 0 0) := HXZ.out.b4.cell 1
        have p1 : w11.frozen? ⟨w.heap.size + 1, 1, none⟩ = false := HXZ.out.b4.frozen 1
        have q2 : w11.cell? ⟨w.heap.size + 1, 2, none⟩ = some (.int .i64 0) := HXZ.out.b4.cell 2
        have p2 : w11.frozen? ⟨w.heap.size + 1, 2, none⟩ = false := HXZ.out.b4.frozen 2
        have q3 : w11.cell? ⟨w.heap.size + 1, 3, none⟩ = some (.int .i64 0) := HXZ.out.b4.cell 3
        have p3 : w11.frozen? ⟨w.heap.size + 1, 3, none⟩ = false := HXZ.out.b4.frozen 3
        have q4 : w11.cell? ⟨w.heap.size + 1, 4, none⟩ = some (.int .i64 0) := HXZ.out.b4.cell 4
        have p4 : w11.frozen? ⟨w.heap.size + 1, 4, none⟩ = false := HXZ.out.b4.frozen 4
        have q5 : w11.cell? ⟨w.heap.size + 1, 5, none⟩ = some (.slice none 0 0) := HXZ.out.b4.cell 5
        have p5 : w11.frozen? ⟨w.heap.size + 1, 5, none⟩ = false := HXZ.out.b4.frozen 5
        have q6 : w11.cell? ⟨w.heap.size + 1, 6, none⟩ = some (.bool false) := HXZ.out.b4.cell 6
        have p6 : w11.frozen? ⟨w.heap.size + 1, 6, none⟩ = false := HXZ.out.b4.frozen 6
        go_wp2
        obtain ⟨hw, hT, hK⟩ := HXZ.out.fin (.int .i64 0) (.slice none 0 0) (.int .i64 (R.ver + 1)) (.int .i64 R.now) (.int .i64 0) (.slice none 0 0) (.bool false)
        unfold set7 at hw hT hK
        refine bodyPost_ret (results_cell_row rfl _ _ (w.heap.size + 1) 43 #[(.int .i64 0), (.slice none 0 0), (.int .i64 (R.ver + 1)), (.int .i64 R.now), (.int .i64 0), (.slice none 0 0), (.bool false)] (0, 0) _ rfl hw Tryz.underlying43 rfl (by kernel_rfl)) rfl ?_
        refine ⟨_, _, rfl, ?_, hT, by rw [HRR.out]; exact HSI.out⟩
        rw [HRR.out]
        have e := rep_plain (base := w.heap.size) (w' := set7 w11 (w.heap.size + 1) (.int .i64 0) (.slice none 0 0) (.int .i64 (R.ver + 1)) (.int .i64 R.now) (.int .i64 0) (.slice none 0 0) (.bool false)) 0 (R.ver + 1) R.now 0
        rw [HVN.out.1, HVN.out.2] at e
        rw [HVN.out.1, HVN.out.2]
        exact e
      · have v1 := eqf hv
        have v2 := net hv
        have HP8 : Hid (pe = 8) := Lib.hid (by rw [HPE.out, if_neg (by rw [hr]; decide), if_pos ⟨HK0.out, by rw [HSF.out, dcf hv]⟩])
        clear hv
        go_upto_region 10 with fail
        go_quiet (fail)
        have HFq := Lib.hid (HF1.out.drewN nq)
        clear k0 k1 k2 k3 k4 k5 k6
        generalize w1.drewN nq = wq at *
        have k1 : wq.cell? ⟨w.heap.size, 1, none⟩ = some (.string x.key) := HFq.out.b3.cell 1
        have k2 : wq.cell? ⟨w.heap.size, 2, none⟩ = some (.slice x.A x.d.length x.c) := HFq.out.b3.cell 2
        have HRR : Hid (r = (s, bad 8)) := Lib.hid (by rw [HR.out, HP8.out, if_neg (by decide)])
        clear HR HPE HP8
        go_wp2_with fail
        refine (bad_calls wq 8).mono ?_
        rintro e wb ⟨rfl, hbb⟩
        have HXB := Lib.hid (HFq.out.on hbb)
        clear hbb
        unfold errV
        have q0 : wb.cell? ⟨w.heap.size + 1, 0, none⟩ = some (.int .i64 0) := HXB.out.b4.cell 0
        have p0 : wb.frozen? ⟨w.heap.size + 1, 0, none⟩ = false := HXB.out.b4.frozen 0
        have q1 : wb.cell? ⟨w.heap.size + 1, 1, none⟩ = some (.slice none 0 0) := HXB.out.b4.cell 1
        have p1 : wb.frozen? ⟨w.heap.size + 1, 1, none⟩ = false := HXB.out.b4.frozen 1
        have q2 : wb.cell? ⟨w.heap.size + 1, 2, none⟩ = some (.int .i64 0) := HXB.out.b4.cell 2
        have p2 : wb.frozen? ⟨w.heap.size + 1, 2, none⟩ = false := HXB.out.b4.frozen 2
        have q3 : wb.cell? ⟨w.heap.size + 1, 3, none⟩ = some (.int .i64 0) := HXB.out.b4.cell 3
        have p3 : wb.frozen? ⟨w.heap.size + 1, 3, none⟩ = false := HXB.out.b4.frozen 3
        have q4 : wb.cell? ⟨w.heap.size + 1, 4, none⟩ = some (.int .i64 0) := HXB.out.b4.cell 4
        have p4 : wb.frozen? ⟨w.heap.size + 1, 4, none⟩ = false := HXB.out.b4.frozen 4
        have q5 : wb.cell? ⟨w.heap.size + 1, 5, none⟩ = some (.slice none 0 0) := HXB.out.b4.cell 5
        have p5 : wb.frozen? ⟨w.heap.size + 1, 5, none⟩ = false := HXB.out.b4.frozen 5
        have q6 : wb.cell? ⟨w.heap.size + 1, 6, none⟩ = some (.bool false) := HXB.out.b4.cell 6
        have p6 : wb.frozen? ⟨w.heap.size + 1, 6, none⟩ = false := HXB.out.b4.frozen 6
        go_wp2
        obtain ⟨hw, hT, hK⟩ := HXB.out.fin (.int .i64 8) (.slice none 0 0) (.int .i64 0) (.int .i64 0) (.int .i64 0) (.slice none 0 0) (.bool false)
        unfold set7 at hw hT hK
        refine bodyPost_ret (results_cell_row rfl _ _ (w.heap.size + 1) 43 #[(.int .i64 8), (.slice none 0 0), (.int .i64 0), (.int .i64 0), (.int .i64 0), (.slice none 0 0), (.bool false)] (0, 0) _ rfl hw Tryz.underlying43 rfl (by kernel_rfl)) rfl ?_
        exact ⟨_, _, rfl, by rw [HRR.out]; exact rep_plain 8 0 0 0, hT, by rw [HRR.out]; exact HSIM.out⟩
    · have d1 : decide ((0 : Int) ≤ (i : Int)) = true := dct (by omega)
      have d1' : decide ((i : Int) < 0) = false := dcf (by omega)
      obtain ⟨o, ho⟩ : ∃ o, go R.objs i = o := ⟨_, rfl⟩
      rw [ho] at hm
      have HSF : Hid ((mget s.objs x.key).isSome = true) := Lib.hid (by rw [hm]; rfl)
      have HOB : Hid (((((mget s.objs x.key).getD po0).d.length : Nat) : Int) = ((o.d.length : Nat) : Int)) := Lib.hid (by rw [hm]; rfl)
      have HOV : Hid (((mget s.objs x.key).getD po0).ver = o.ver) := Lib.hid (by rw [hm]; rfl)
      have hod9 : o.d.length ≤ 262144 := HI.out.od _ (mget_mem hm)
      have HNC : Hid (¬ s.crowded x.key = true) := Lib.hid (by unfold PS.crowded; rw [HSF.out]; simp)
      have z0 : w1.cell? ⟨R.g, 0, none⟩ = some (.slice R.AO R.objs.length R.cO) := HF1.out.at_.blk.cell 0
      obtain ⟨b, off, e0, hbB, hcell⟩ := o_at HF1.out.at_.o_reads hi
      rw [ho] at hcell
      have x1 := hcell 1 _ (by omega) rfl
      have x2 := hcell 2 _ (by omega) rfl
      rw [e0] at z0
      have hi0 : (0 : Int) ≤ (i : Int) := by omega
      have hi1 : (i : Int) < (R.objs.length : Int) := by omega
      clear hcell hm HIX hkey
      by_cases hv : x.ver = 0
      · have v1 := eqt hv
        have v2 := nef hv
        have HP8 : Hid (pe = 8) := Lib.hid (by rw [HPE.out, if_neg (by rw [hr]; decide), if_pos ⟨HK0.out, by rw [HSF.out, dct hv]⟩])
        clear hv
        go_upto_region 10 with fail
        go_quiet (fail)
        have HFq := Lib.hid (HF1.out.drewN nq)
        clear k0 k1 k2 k3 k4 k5 k6
        generalize w1.drewN nq = wq at *
        have k1 : wq.cell? ⟨w.heap.size, 1, none⟩ = some (.string x.key) := HFq.out.b3.cell 1
        have k2 : wq.cell? ⟨w.heap.size, 2, none⟩ = some (.slice x.A x.d.length x.c) := HFq.out.b3.cell 2
        clear z0 x1 x2 e0
        have HRR : Hid (r = (s, bad 8)) := Lib.hid (by rw [HR.out, HP8.out, if_neg (by decide)])
        clear HR HPE HP8
        go_wp2_with fail
        refine (bad_calls wq 8).mono ?_
        rintro e wb ⟨rfl, hbb⟩
        have HXB := Lib.hid (HFq.out.on hbb)
        clear hbb
        unfold errV
        have q0 : wb.cell? ⟨w.heap.size + 1, 0, none⟩ = some (.int .i64 0) := HXB.out.b4.cell 0
        have p0 : wb.frozen? ⟨w.heap.size + 1, 0, none⟩ = false := HXB.out.b4.frozen 0
        have q1 : wb.cell? ⟨w.heap.size + 1, 1, none⟩ = some (.slice none 0 0) := HXB.out.b4.cell 1
        have p1 : wb.frozen? ⟨w.heap.size + 1, 1, none⟩ = false := HXB.out.b4.frozen 1
        have q2 : wb.cell? ⟨w.heap.size + 1, 2, none⟩ = some (.int .i64 0) := HXB.out.b4.cell 2
        have p2 : wb.frozen? ⟨w.heap.size + 1, 2, none⟩ = false := HXB.out.b4.frozen 2
        have q3 : wb.cell? ⟨w.heap.size + 1, 3, none⟩ = some (.int .i64 0) := HXB.out.b4.cell 3
        have p3 : wb.frozen? ⟨w.heap.size + 1, 3, none⟩ = false := HXB.out.b4.frozen 3
        have q4 : wb.cell? ⟨w.heap.size + 1, 4, none⟩ = some (.int .i64 0) := HXB.out.b4.cell 4
        have p4 : wb.frozen? ⟨w.heap.size + 1, 4, none⟩ = false := HXB.out.b4.frozen 4
        have q5 : wb.cell? ⟨w.heap.size + 1, 5, none⟩ = some (.slice none 0 0) := HXB.out.b4.cell 5
        have p5 : wb.frozen? ⟨w.heap.size + 1, 5, none⟩ = false := HXB.out.b4.frozen 5
        have q6 : wb.cell? ⟨w.heap.size + 1, 6, none⟩ = some (.bool false) := HXB.out.b4.cell 6
        have p6 : wb.frozen? ⟨w.heap.size + 1, 6, none⟩ = false := HXB.out.b4.frozen 6
        go_wp2
        obtain ⟨hw, hT, hK⟩ := HXB.out.fin (.int .i64 8) (.slice none 0 0) (.int .i64 0) (.int .i64 0) (.int .i64 0) (.slice none 0 0) (.bool false)
        unfold set7 at hw hT hK
        refine bodyPost_ret (results_cell_row rfl _ _ (w.heap.size + 1) 43 #[(.int .i64 8), (.slice none 0 0), (.int .i64 0), (.int .i64 0), (.int .i64 0), (.slice none 0 0), (.bool false)] (0, 0) _ rfl hw Tryz.underlying43 rfl (by kernel_rfl)) rfl ?_
        exact ⟨_, _, rfl, by rw [HRR.out]; exact rep_plain 8 0 0 0, hT, by rw [HRR.out]; exact HSIM.out⟩
      · have v1 := eqf hv
        have v2 := net hv
        have HV := Lib.hid hv
        clear hv
        by_cases hov : o.ver = x.ver
        · have v3 := nef hov
          have HOX := Lib.hid hov
          clear hov
          go_upto_region 10 with fail
          go_quiet (fail)
          have HFq := Lib.hid (HF1.out.drewN nq)
          clear k0 k1 k2 k3 k4 k5 k6
          generalize w1.drewN nq = wq at *
          have k1 : wq.cell? ⟨w.heap.size, 1, none⟩ = some (.string x.key) := HFq.out.b3.cell 1
          have k2 : wq.cell? ⟨w.heap.size, 2, none⟩ = some (.slice x.A x.d.length x.c) := HFq.out.b3.cell 2
          clear z0 x1 x2 e0
          by_cases h3 : 262144 < x.d.length
          · have d3 : decide ((262144 : Int) < (x.d.length : Int)) = true := dct (by omega)
            have hpe : pe = 5 := by rw [HPE.out, if_neg (by rw [hr]; decide), if_neg (by rw [HSF.out, dcf HV.out]; rintro ⟨-, h⟩; exact absurd h (by decide)), if_neg (by rw [HOV.out]; rintro ⟨-, -, h⟩; exact h HOX.out), if_pos h3]
            have HRR : Hid (r = (s, bad 5)) := Lib.hid (by rw [HR.out, hpe, if_neg (by decide)])
            clear HR HPE hpe h3
            go_wp2_with fail
            refine (bad_calls wq 5).mono ?_
            rintro e wb ⟨rfl, hbb⟩
            have HXB := Lib.hid (HFq.out.on hbb)
            clear hbb
            unfold errV
            have q0 : wb.cell? ⟨w.heap.size + 1, 0, none⟩ = some (.int .i64 0) := HXB.out.b4.cell 0
            have p0 : wb.frozen? ⟨w.heap.size + 1, 0, none⟩ = false := HXB.out.b4.frozen 0
            have q1 : wb.cell? ⟨w.heap.size + 1, 1, none⟩ = some (.slice none 0 0) := HXB.out.b4.cell 1
            have p1 : wb.frozen? ⟨w.heap.size + 1, 1, none⟩ = false := HXB.out.b4.frozen 1
            have q2 : wb.cell? ⟨w.heap.size + 1, 2, none⟩ = some (.int .i64 0) := HXB.out.b4.cell 2
            have p2 : wb.frozen? ⟨w.heap.size + 1, 2, none⟩ = false := HXB.out.b4.frozen 2
            have q3 : wb.cell? ⟨w.heap.size + 1, 3, none⟩ = some (.int .i64 0) := HXB.out.b4.cell 3
            have p3 : wb.frozen? ⟨w.heap.size + 1, 3, none⟩ = false := HXB.out.b4.frozen 3
            have q4 : wb.cell? ⟨w.heap.size + 1, 4, none⟩ = some (.int .i64 0) := HXB.out.b4.cell 4
            have p4 : wb.frozen? ⟨w.heap.size + 1, 4, none⟩ = false := HXB.out.b4.frozen 4
            have q5 : wb.cell? ⟨w.heap.size + 1, 5, none⟩ = some (.slice none 0 0) := HXB.out.b4.cell 5
            have p5 : wb.frozen? ⟨w.heap.size + 1, 5, none⟩ = false := HXB.out.b4.frozen 5
            have q6 : wb.cell? ⟨w.heap.size + 1, 6, none⟩ = some (.bool false) := HXB.out.b4.cell 6
            have p6 : wb.frozen? ⟨w.heap.size + 1, 6, none⟩ = false := HXB.out.b4.frozen 6
            go_wp2
            obtain ⟨hw, hT, hK⟩ := HXB.out.fin (.int .i64 5) (.slice none 0 0) (.int .i64 0) (.int .i64 0) (.int .i64 0) (.slice none 0 0) (.bool false)
            unfold set7 at hw hT hK
            refine bodyPost_ret (results_cell_row rfl _ _ (w.heap.size + 1) 43 #[(.int .i64 5), (.slice none 0 0), (.int .i64 0), (.int .i64 0), (.int .i64 0), (.slice none 0 0), (.bool false)] (0, 0) _ rfl hw Tryz.underlying43 rfl (by kernel_rfl)) rfl ?_
            exact ⟨_, _, rfl, by rw [HRR.out]; exact rep_plain 5 0 0 0, hT, by rw [HRR.out]; exact HSIM.out⟩
          have d3 : decide ((262144 : Int) < (x.d.length : Int)) = false := dcf (by omega)
          have HP2 : Hid (pe = if s.crowded x.key = true ∨ 4194304 < (R.size : Int) - ((o.d.length : Nat) : Int) + (x.d.length : Int) then 9 else 0) := Lib.hid (by rw [HPE.out, if_neg (by rw [hr]; decide), if_neg (by rw [HSF.out, dcf HV.out]; rintro ⟨-, h⟩; exact absurd h (by decide)), if_neg (by rw [HOV.out]; rintro ⟨-, -, h⟩; exact h HOX.out), if_neg h3, HALL.out, HOB.out])
          have hdl9 : x.d.length ≤ 262144 := by omega
          clear HPE h3
          have hbig : R.size ≤ 262144000 := by rw [HSIM.out.size]; have := HI.out.big; omega
          have r1 : IntKind.i64.wrap ((R.size : Int) - (o.d.length : Int)) = ((R.size : Int) - (o.d.length : Int)) := by rw [IntKind.wrap_i64]; omega
          have r2 : IntKind.i64.wrap ((R.size : Int) - (o.d.length : Int) + (x.d.length : Int)) = ((R.size : Int) - (o.d.length : Int) + (x.d.length : Int)) := by rw [IntKind.wrap_i64]; omega
          by_cases h4 : 4194304 < (R.size : Int) - (o.d.length : Int) + (x.d.length : Int)
          · have d4 := dct h4
            have hpe : pe = 9 := by rw [HP2.out, if_pos (.inr (by omega))]
            have HRR : Hid (r = (s, bad 9)) := Lib.hid (by rw [HR.out, hpe, if_neg (by decide)])
            clear HR HP2 hpe h4
            go_upto_region 14 with fail
            have Hk : Hid (∀ W, Below wq.heap.size wq W → W.cell? ⟨w.heap.size, 2, none⟩ = some (.slice x.A x.d.length x.c) ∧ W.cell? ⟨R.g, 0, none⟩ = some (.slice R.AO R.objs.length R.cO)) := Lib.hid fun W hW => ⟨(HFq.out.on hW).b3.cell 2, (HFq.out.on hW).at_.blk.cell 0⟩
            have HSZ : Hid (∀ W, Below wq.heap.size wq W → Calls Tryz.prog 27 #[.pointer (some ⟨R.g, 0, none⟩)] W fun e w' => e = .returned (.int .i64 (R.size : Nat)) ∧ Below W.heap.size W w') := Lib.hid fun W hW => HSIM.out.sizeR (HFq.out.on hW).at_ HI.out hn
            refine wp_region_T 99 (fun w' => w'.cell? ⟨w.heap.size, 2, none⟩ = some (.slice x.A x.d.length x.c) ∧ w'.cell? ⟨R.g, 0, none⟩ = some (.slice R.AO R.objs.length R.cO)) (by kernel_rfl) (Hk.out _ (below_drewN_ (Below.refl _ _) 1)) (fun hHeld => ?_)
            have HW0 : Hid (Below wq.heap.size wq wq.drew) := Lib.hid (below_drewN_ (Below.refl _ _) 1)
            generalize wq.drew = wd at *
            refine wpAnyT_take (i := 0) (oi := _) (v := ?_) rfl (by kernel_rfl) (fun _ _ _ h => h) (Or.inl ⟨by kernel_rfl, ?_⟩) (by assumption) ?_; rotate_left; (focus (intro w hSw; (try dsimp only at hSw); go_simp; (try with_reducible rfl))); (try simp only [Act.put, List.getElem_toArray, List.getElem_cons_zero, List.setIfInBounds_toArray, List.set_cons_zero, List.set_cons_succ])
            refine wpAnyT_take (i := 1) (oi := _) (v := ?_) rfl (by kernel_rfl) (fun _ _ _ h => h) (Or.inl ⟨by kernel_rfl, ?_⟩) (by assumption) ?_; rotate_left; (focus (intro w hSw; (try dsimp only at hSw); go_simp; (try with_reducible rfl))); (try simp only [Act.put, List.getElem_toArray, List.getElem_cons_zero, List.getElem_cons_succ, List.setIfInBounds_toArray, List.set_cons_zero, List.set_cons_succ])
            refine wpAnyT_take (i := 2) (oi := _) (v := ?_) rfl (by kernel_rfl) (fun _ _ _ h => h) (Or.inl ⟨by kernel_rfl, ?_⟩) (by assumption) ?_; rotate_left; (focus (intro w hSw; (try dsimp only at hSw); go_simp; (try with_reducible rfl))); (try simp only [Act.put, List.getElem_toArray, List.getElem_cons_zero, List.getElem_cons_succ, List.setIfInBounds_toArray, List.set_cons_zero, List.set_cons_succ])
            refine wpAnyT_take (i := 3) (oi := _) (v := undef) rfl (by kernel_rfl) (fun _ _ _ h => h) (Or.inr ⟨by kernel_rfl, rfl⟩) (by assumption) ?_; (try simp only [Act.put, List.getElem_toArray, List.getElem_cons_zero, List.getElem_cons_succ, List.setIfInBounds_toArray, List.set_cons_zero, List.set_cons_succ])
            refine wpAnyT_take (i := 4) (oi := _) (v := undef) rfl (by kernel_rfl) (fun _ _ _ h => h) (Or.inr ⟨by kernel_rfl, rfl⟩) (by assumption) ?_; (try simp only [Act.put, List.getElem_toArray, List.getElem_cons_zero, List.getElem_cons_succ, List.setIfInBounds_toArray, List.set_cons_zero, List.set_cons_succ])
            refine wpAnyT_take (i := 5) (oi := _) (v := undef) rfl (by kernel_rfl) (fun _ _ _ h => h) (Or.inr ⟨by kernel_rfl, rfl⟩) (by assumption) ?_; (try simp only [Act.put, List.getElem_toArray, List.getElem_cons_zero, List.getElem_cons_succ, List.setIfInBounds_toArray, List.set_cons_zero, List.set_cons_succ])
            refine wpAnyT_take (i := 6) (oi := _) (v := undef) rfl (by kernel_rfl) (fun _ _ _ h => h) (Or.inr ⟨by kernel_rfl, rfl⟩) (by assumption) ?_; (try simp only [Act.put, List.getElem_toArray, List.getElem_cons_zero, List.getElem_cons_succ, List.setIfInBounds_toArray, List.set_cons_zero, List.set_cons_succ])
            refine wpAnyT_take (i := 7) (oi := _) (v := undef) rfl (by kernel_rfl) (fun _ _ _ h => h) (Or.inr ⟨by kernel_rfl, rfl⟩) (by assumption) ?_; (try simp only [Act.put, List.getElem_toArray, List.getElem_cons_zero, List.getElem_cons_succ, List.setIfInBounds_toArray, List.set_cons_zero, List.set_cons_succ])
            refine wpAnyT_take (i := 8) (oi := _) (v := undef) rfl (by kernel_rfl) (fun _ _ _ h => h) (Or.inr ⟨by kernel_rfl, rfl⟩) (by assumption) ?_; (try simp only [Act.put, List.getElem_toArray, List.getElem_cons_zero, List.getElem_cons_succ, List.setIfInBounds_toArray, List.set_cons_zero, List.set_cons_succ])
            refine wpAnyT_take (i := 9) (oi := _) (v := ?_) rfl (by kernel_rfl) (fun _ _ _ h => h) (Or.inl ⟨by kernel_rfl, ?_⟩) (by assumption) ?_; rotate_left; (focus (intro w hSw; (try dsimp only at hSw); go_simp; (try with_reducible rfl))); (try simp only [Act.put, List.getElem_toArray, List.getElem_cons_zero, List.getElem_cons_succ, List.setIfInBounds_toArray, List.set_cons_zero, List.set_cons_succ])
            refine wpAnyT_take (i := 10) (oi := _) (v := ?_) rfl (by kernel_rfl) (fun _ _ _ h => h) (Or.inl ⟨by kernel_rfl, ?_⟩) (by assumption) ?_; rotate_left; (focus (intro w hSw; (try dsimp only at hSw); go_simp; (try with_reducible rfl))); (try simp only [Act.put, List.getElem_toArray, List.getElem_cons_zero, List.getElem_cons_succ, List.setIfInBounds_toArray, List.set_cons_zero, List.set_cons_succ])
            refine wpAnyT_take (i := 11) (oi := _) (v := ?_) rfl (by kernel_rfl) (fun _ _ _ h => h) (Or.inl ⟨by kernel_rfl, ?_⟩) (by assumption) ?_; rotate_left; (focus (intro w hSw; (try dsimp only at hSw); go_simp; (try with_reducible rfl))); (try simp only [Act.put, List.getElem_toArray, List.getElem_cons_zero, List.getElem_cons_succ, List.setIfInBounds_toArray, List.set_cons_zero, List.set_cons_succ])
            refine wpAnyT_take (i := 13) (oi := _) (v := ?_) rfl (by kernel_rfl) (fun _ _ _ h => h) (Or.inl ⟨by kernel_rfl, ?_⟩) (by assumption) ?_; rotate_left; (focus (intro w hSw; (try dsimp only at hSw); go_simp; (try with_reducible rfl))); (try simp only [Act.put, List.getElem_toArray, List.getElem_cons_zero, List.getElem_cons_succ, List.setIfInBounds_toArray, List.set_cons_zero, List.set_cons_succ])
            refine wpAnyT_take (i := 15) (oi := _) (v := ?_) rfl (by kernel_rfl) (fun _ _ _ h => h) (Or.inl ⟨by kernel_rfl, ?_⟩) (by assumption) ?_; rotate_left; (focus (intro w hSw; (try dsimp only at hSw); go_simp; (try with_reducible rfl))); (try simp only [Act.put, List.getElem_toArray, List.getElem_cons_zero, List.getElem_cons_succ, List.setIfInBounds_toArray, List.set_cons_zero, List.set_cons_succ])
            refine wpAnyT_take (i := 16) (oi := _) (v := ?_) rfl (by kernel_rfl) (fun _ _ _ h => h) (Or.inl ⟨by kernel_rfl, ?_⟩) (by assumption) ?_; rotate_left; (focus (intro w hSw; (try dsimp only at hSw); go_simp; (try with_reducible rfl))); (try simp only [Act.put, List.getElem_toArray, List.getElem_cons_zero, List.getElem_cons_succ, List.setIfInBounds_toArray, List.set_cons_zero, List.set_cons_succ])
            refine wpAnyT_take (i := 17) (oi := _) (v := ?_) rfl (by kernel_rfl) (fun _ _ _ h => h) (Or.inl ⟨by kernel_rfl, ?_⟩) (by assumption) ?_; rotate_left; (focus (intro w hSw; (try dsimp only at hSw); go_simp; (try with_reducible rfl))); (try simp only [Act.put, List.getElem_toArray, List.getElem_cons_zero, List.getElem_cons_succ, List.setIfInBounds_toArray, List.set_cons_zero, List.set_cons_succ])
            refine wpAnyT_one (i := 12) (by kernel_rfl) rfl (fun K hK => ?_); go_simp
            refine (HSZ.out _ HW0.out).mono ?_
            rintro e w8 ⟨rfl, hb8'⟩
            have hb8 := HW0.out.trans (hb8'.mono HW0.out.size)
            have hH8 := Hk.out _ hb8
            refine hK.out _ _ (fun _ => hH8) ?_
            have HF8 := Lib.hid (HFq.out.on hb8)
            clear hK K hHeld hb8 hb8' HSZ Hk HW0
            (try simp only [Act.put, List.getElem_toArray, List.getElem_cons_zero, List.getElem_cons_succ, List.setIfInBounds_toArray, List.set_cons_zero, List.set_cons_succ])
            refine wpAnyT_take (i := 14) (oi := _) (v := ?_) rfl (by kernel_rfl) (fun _ _ _ h => h) (Or.inl ⟨by kernel_rfl, ?_⟩) (by assumption) ?_; rotate_left; (focus (intro w hSw; (try dsimp only at hSw); go_simp; (try with_reducible rfl))); (try simp only [Act.put, List.getElem_toArray, List.getElem_cons_zero, List.getElem_cons_succ, List.setIfInBounds_toArray, List.set_cons_zero, List.set_cons_succ])
            refine wpAnyT_take (i := 18) (oi := _) (v := ?_) rfl (by kernel_rfl) (fun _ _ _ h => h) (Or.inl ⟨by kernel_rfl, ?_⟩) (by assumption) ?_; rotate_left; (focus (intro w hSw; (try dsimp only at hSw); go_simp; (try with_reducible rfl))); (try simp only [Act.put, List.getElem_toArray, List.getElem_cons_zero, List.getElem_cons_succ, List.setIfInBounds_toArray, List.set_cons_zero, List.set_cons_succ])
            refine wpAnyT_take (i := 19) (oi := _) (v := ?_) rfl (by kernel_rfl) (fun _ _ _ h => h) (Or.inl ⟨by kernel_rfl, ?_⟩) (by assumption) ?_; rotate_left; (focus (intro w hSw; (try dsimp only at hSw); go_simp; (try with_reducible rfl))); (try simp only [Act.put, List.getElem_toArray, List.getElem_cons_zero, List.getElem_cons_succ, List.setIfInBounds_toArray, List.set_cons_zero, List.set_cons_succ])
            refine wpAnyT_take (i := 20) (oi := _) (v := ?_) rfl (by kernel_rfl) (fun _ _ _ h => h) (Or.inl ⟨by kernel_rfl, ?_⟩) (by assumption) ?_; rotate_left; (focus (intro w hSw; (try dsimp only at hSw); go_simp; (try with_reducible rfl))); (try simp only [Act.put, List.getElem_toArray, List.getElem_cons_zero, List.getElem_cons_succ, List.setIfInBounds_toArray, List.set_cons_zero, List.set_cons_succ])
            refine wpAnyT_done (by kernel_rfl) ?_ _
            clear hH8 k1 k2
            go_wp2_with fail
            refine (bad_calls w8 9).mono ?_
            rintro e wb ⟨rfl, hbb⟩
            have HXB := Lib.hid (HF8.out.on hbb)
            clear hbb
            unfold errV
            have q0 : wb.cell? ⟨w.heap.size + 1, 0, none⟩ = some (.int .i64 0) := HXB.out.b4.cell 0
            have p0 : wb.frozen? ⟨w.heap.size + 1, 0, none⟩ = false := HXB.out.b4.frozen 0
            have q1 : wb.cell? ⟨w.heap.size + 1, 1, none⟩ = some (.slice none 0 0) := HXB.out.b4.cell 1
            have p1 : wb.frozen? ⟨w.heap.size + 1, 1, none⟩ = false := HXB.out.b4.frozen 1
            have q2 : wb.cell? ⟨w.heap.size + 1, 2, none⟩ = some (.int .i64 0) := HXB.out.b4.cell 2
            have p2 : wb.frozen? ⟨w.heap.size + 1, 2, none⟩ = false := HXB.out.b4.frozen 2
            have q3 : wb.cell? ⟨w.heap.size + 1, 3, none⟩ = some (.int .i64 0) := HXB.out.b4.cell 3
            have p3 : wb.frozen? ⟨w.heap.size + 1, 3, none⟩ = false := HXB.out.b4.frozen 3
            have q4 : wb.cell? ⟨w.heap.size + 1, 4, none⟩ = some (.int .i64 0) := HXB.out.b4.cell 4
            have p4 : wb.frozen? ⟨w.heap.size + 1, 4, none⟩ = false := HXB.out.b4.frozen 4
            have q5 : wb.cell? ⟨w.heap.size + 1, 5, none⟩ = some (.slice none 0 0) := HXB.out.b4.cell 5
            have p5 : wb.frozen? ⟨w.heap.size + 1, 5, none⟩ = false := HXB.out.b4.frozen 5
            have q6 : wb.cell? ⟨w.heap.size + 1, 6, none⟩ = some (.bool false) := HXB.out.b4.cell 6
            have p6 : wb.frozen? ⟨w.heap.size + 1, 6, none⟩ = false := HXB.out.b4.frozen 6
            go_wp2
            obtain ⟨hw, hT, hK⟩ := HXB.out.fin (.int .i64 9) (.slice none 0 0) (.int .i64 0) (.int .i64 0) (.int .i64 0) (.slice none 0 0) (.bool false)
            unfold set7 at hw hT hK
            refine bodyPost_ret (results_cell_row rfl _ _ (w.heap.size + 1) 43 #[(.int .i64 9), (.slice none 0 0), (.int .i64 0), (.int .i64 0), (.int .i64 0), (.slice none 0 0), (.bool false)] (0, 0) _ rfl hw Tryz.underlying43 rfl (by kernel_rfl)) rfl ?_
            exact ⟨_, _, rfl, by rw [HRR.out]; exact rep_plain 9 0 0 0, hT, by rw [HRR.out]; exact HSIM.out⟩
          have d4 := dcf h4
          have hpe : pe = 0 := by rw [HP2.out, if_neg (by rintro (h | h); exact absurd h HNC.out; exact h4 (by omega))]
          have HRR : Hid (r = (s.made x.key x.d, ⟨0, [], s.ver + 1, s.now, 0, [], false⟩)) := Lib.hid (by rw [HR.out, hpe, if_pos rfl])
          clear HR HP2 hpe h4
          go_upto_region 14 with fail
          have Hk : Hid (∀ W, Below wq.heap.size wq W → W.cell? ⟨w.heap.size, 2, none⟩ = some (.slice x.A x.d.length x.c) ∧ W.cell? ⟨R.g, 0, none⟩ = some (.slice R.AO R.objs.length R.cO)) := Lib.hid fun W hW => ⟨(HFq.out.on hW).b3.cell 2, (HFq.out.on hW).at_.blk.cell 0⟩
          have HSZ : Hid (∀ W, Below wq.heap.size wq W → Calls Tryz.prog 27 #[.pointer (some ⟨R.g, 0, none⟩)] W fun e w' => e = .returned (.int .i64 (R.size : Nat)) ∧ Below W.heap.size W w') := Lib.hid fun W hW => HSIM.out.sizeR (HFq.out.on hW).at_ HI.out hn
          refine wp_region_T 99 (fun w' => w'.cell? ⟨w.heap.size, 2, none⟩ = some (.slice x.A x.d.length x.c) ∧ w'.cell? ⟨R.g, 0, none⟩ = some (.slice R.AO R.objs.length R.cO)) (by kernel_rfl) (Hk.out _ (below_drewN_ (Below.refl _ _) 1)) (fun hHeld => ?_)
          have HW0 : Hid (Below wq.heap.size wq wq.drew) := Lib.hid (below_drewN_ (Below.refl _ _) 1)
          generalize wq.drew = wd at *
          refine wpAnyT_take (i := 0) (oi := _) (v := ?_) rfl (by kernel_rfl) (fun _ _ _ h => h) (Or.inl ⟨by kernel_rfl, ?_⟩) (by assumption) ?_; rotate_left; (focus (intro w hSw; (try dsimp only at hSw); go_simp; (try with_reducible rfl))); (try simp only [Act.put, List.getElem_toArray, List.getElem_cons_zero, List.setIfInBounds_toArray, List.set_cons_zero, List.set_cons_succ])
          refine wpAnyT_take (i := 1) (oi := _) (v := ?_) rfl (by kernel_rfl) (fun _ _ _ h => h) (Or.inl ⟨by kernel_rfl, ?_⟩) (by assumption) ?_; rotate_left; (focus (intro w hSw; (try dsimp only at hSw); go_simp; (try with_reducible rfl))); (try simp only [Act.put, List.getElem_toArray, List.getElem_cons_zero, List.getElem_cons_succ, List.setIfInBounds_toArray, List.set_cons_zero, List.set_cons_succ])
          refine wpAnyT_take (i := 2) (oi := _) (v := ?_) rfl (by kernel_rfl) (fun _ _ _ h => h) (Or.inl ⟨by kernel_rfl, ?_⟩) (by assumption) ?_; rotate_left; (focus (intro w hSw; (try dsimp only at hSw); go_simp; (try with_reducible rfl))); (try simp only [Act.put, List.getElem_toArray, List.getElem_cons_zero, List.getElem_cons_succ, List.setIfInBounds_toArray, List.set_cons_zero, List.set_cons_succ])
          refine wpAnyT_take (i := 3) (oi := _) (v := undef) rfl (by kernel_rfl) (fun _ _ _ h => h) (Or.inr ⟨by kernel_rfl, rfl⟩) (by assumption) ?_; (try simp only [Act.put, List.getElem_toArray, List.getElem_cons_zero, List.getElem_cons_succ, List.setIfInBounds_toArray, List.set_cons_zero, List.set_cons_succ])
          refine wpAnyT_take (i := 4) (oi := _) (v := undef) rfl (by kernel_rfl) (fun _ _ _ h => h) (Or.inr ⟨by kernel_rfl, rfl⟩) (by assumption) ?_; (try simp only [Act.put, List.getElem_toArray, List.getElem_cons_zero, List.getElem_cons_succ, List.setIfInBounds_toArray, List.set_cons_zero, List.set_cons_succ])
          refine wpAnyT_take (i := 5) (oi := _) (v := undef) rfl (by kernel_rfl) (fun _ _ _ h => h) (Or.inr ⟨by kernel_rfl, rfl⟩) (by assumption) ?_; (try simp only [Act.put, List.getElem_toArray, List.getElem_cons_zero, List.getElem_cons_succ, List.setIfInBounds_toArray, List.set_cons_zero, List.set_cons_succ])
          refine wpAnyT_take (i := 6) (oi := _) (v := undef) rfl (by kernel_rfl) (fun _ _ _ h => h) (Or.inr ⟨by kernel_rfl, rfl⟩) (by assumption) ?_; (try simp only [Act.put, List.getElem_toArray, List.getElem_cons_zero, List.getElem_cons_succ, List.setIfInBounds_toArray, List.set_cons_zero, List.set_cons_succ])
          refine wpAnyT_take (i := 7) (oi := _) (v := undef) rfl (by kernel_rfl) (fun _ _ _ h => h) (Or.inr ⟨by kernel_rfl, rfl⟩) (by assumption) ?_; (try simp only [Act.put, List.getElem_toArray, List.getElem_cons_zero, List.getElem_cons_succ, List.setIfInBounds_toArray, List.set_cons_zero, List.set_cons_succ])
          refine wpAnyT_take (i := 8) (oi := _) (v := undef) rfl (by kernel_rfl) (fun _ _ _ h => h) (Or.inr ⟨by kernel_rfl, rfl⟩) (by assumption) ?_; (try simp only [Act.put, List.getElem_toArray, List.getElem_cons_zero, List.getElem_cons_succ, List.setIfInBounds_toArray, List.set_cons_zero, List.set_cons_succ])
          refine wpAnyT_take (i := 9) (oi := _) (v := ?_) rfl (by kernel_rfl) (fun _ _ _ h => h) (Or.inl ⟨by kernel_rfl, ?_⟩) (by assumption) ?_; rotate_left; (focus (intro w hSw; (try dsimp only at hSw); go_simp; (try with_reducible rfl))); (try simp only [Act.put, List.getElem_toArray, List.getElem_cons_zero, List.getElem_cons_succ, List.setIfInBounds_toArray, List.set_cons_zero, List.set_cons_succ])
          refine wpAnyT_take (i := 10) (oi := _) (v := ?_) rfl (by kernel_rfl) (fun _ _ _ h => h) (Or.inl ⟨by kernel_rfl, ?_⟩) (by assumption) ?_; rotate_left; (focus (intro w hSw; (try dsimp only at hSw); go_simp; (try with_reducible rfl))); (try simp only [Act.put, List.getElem_toArray, List.getElem_cons_zero, List.getElem_cons_succ, List.setIfInBounds_toArray, List.set_cons_zero, List.set_cons_succ])
          refine wpAnyT_take (i := 11) (oi := _) (v := ?_) rfl (by kernel_rfl) (fun _ _ _ h => h) (Or.inl ⟨by kernel_rfl, ?_⟩) (by assumption) ?_; rotate_left; (focus (intro w hSw; (try dsimp only at hSw); go_simp; (try with_reducible rfl))); (try simp only [Act.put, List.getElem_toArray, List.getElem_cons_zero, List.getElem_cons_succ, List.setIfInBounds_toArray, List.set_cons_zero, List.set_cons_succ])
          refine wpAnyT_take (i := 13) (oi := _) (v := ?_) rfl (by kernel_rfl) (fun _ _ _ h => h) (Or.inl ⟨by kernel_rfl, ?_⟩) (by assumption) ?_; rotate_left; (focus (intro w hSw; (try dsimp only at hSw); go_simp; (try with_reducible rfl))); (try simp only [Act.put, List.getElem_toArray, List.getElem_cons_zero, List.getElem_cons_succ, List.setIfInBounds_toArray, List.set_cons_zero, List.set_cons_succ])
          refine wpAnyT_take (i := 15) (oi := _) (v := ?_) rfl (by kernel_rfl) (fun _ _ _ h => h) (Or.inl ⟨by kernel_rfl, ?_⟩) (by assumption) ?_; rotate_left; (focus (intro w hSw; (try dsimp only at hSw); go_simp; (try with_reducible rfl))); (try simp only [Act.put, List.getElem_toArray, List.getElem_cons_zero, List.getElem_cons_succ, List.setIfInBounds_toArray, List.set_cons_zero, List.set_cons_succ])
          refine wpAnyT_take (i := 16) (oi := _) (v := ?_) rfl (by kernel_rfl) (fun _ _ _ h => h) (Or.inl ⟨by kernel_rfl, ?_⟩) (by assumption) ?_; rotate_left; (focus (intro w hSw; (try dsimp only at hSw); go_simp; (try with_reducible rfl))); (try simp only [Act.put, List.getElem_toArray, List.getElem_cons_zero, List.getElem_cons_succ, List.setIfInBounds_toArray, List.set_cons_zero, List.set_cons_succ])
          refine wpAnyT_take (i := 17) (oi := _) (v := ?_) rfl (by kernel_rfl) (fun _ _ _ h => h) (Or.inl ⟨by kernel_rfl, ?_⟩) (by assumption) ?_; rotate_left; (focus (intro w hSw; (try dsimp only at hSw); go_simp; (try with_reducible rfl))); (try simp only [Act.put, List.getElem_toArray, List.getElem_cons_zero, List.getElem_cons_succ, List.setIfInBounds_toArray, List.set_cons_zero, List.set_cons_succ])
          refine wpAnyT_one (i := 12) (by kernel_rfl) rfl (fun K hK => ?_); go_simp
          refine (HSZ.out _ HW0.out).mono ?_
          rintro e w8 ⟨rfl, hb8'⟩
          have hb8 := HW0.out.trans (hb8'.mono HW0.out.size)
          have hH8 := Hk.out _ hb8
          refine hK.out _ _ (fun _ => hH8) ?_
          have HF8 := Lib.hid (HFq.out.on hb8)
          clear hK K hHeld hb8 hb8' HSZ Hk HW0
          (try simp only [Act.put, List.getElem_toArray, List.getElem_cons_zero, List.getElem_cons_succ, List.setIfInBounds_toArray, List.set_cons_zero, List.set_cons_succ])
          refine wpAnyT_take (i := 14) (oi := _) (v := ?_) rfl (by kernel_rfl) (fun _ _ _ h => h) (Or.inl ⟨by kernel_rfl, ?_⟩) (by assumption) ?_; rotate_left; (focus (intro w hSw; (try dsimp only at hSw); go_simp; (try with_reducible rfl))); (try simp only [Act.put, List.getElem_toArray, List.getElem_cons_zero, List.getElem_cons_succ, List.setIfInBounds_toArray, List.set_cons_zero, List.set_cons_succ])
          refine wpAnyT_take (i := 18) (oi := _) (v := ?_) rfl (by kernel_rfl) (fun _ _ _ h => h) (Or.inl ⟨by kernel_rfl, ?_⟩) (by assumption) ?_; rotate_left; (focus (intro w hSw; (try dsimp only at hSw); go_simp; (try with_reducible rfl))); (try simp only [Act.put, List.getElem_toArray, List.getElem_cons_zero, List.getElem_cons_succ, List.setIfInBounds_toArray, List.set_cons_zero, List.set_cons_succ])
          refine wpAnyT_take (i := 19) (oi := _) (v := ?_) rfl (by kernel_rfl) (fun _ _ _ h => h) (Or.inl ⟨by kernel_rfl, ?_⟩) (by assumption) ?_; rotate_left; (focus (intro w hSw; (try dsimp only at hSw); go_simp; (try with_reducible rfl))); (try simp only [Act.put, List.getElem_toArray, List.getElem_cons_zero, List.getElem_cons_succ, List.setIfInBounds_toArray, List.set_cons_zero, List.set_cons_succ])
          refine wpAnyT_take (i := 20) (oi := _) (v := ?_) rfl (by kernel_rfl) (fun _ _ _ h => h) (Or.inl ⟨by kernel_rfl, ?_⟩) (by assumption) ?_; rotate_left; (focus (intro w hSw; (try dsimp only at hSw); go_simp; (try with_reducible rfl))); (try simp only [Act.put, List.getElem_toArray, List.getElem_cons_zero, List.getElem_cons_succ, List.setIfInBounds_toArray, List.set_cons_zero, List.set_cons_succ])
          refine wpAnyT_done (by kernel_rfl) ?_ _
          clear hH8 k1 k2
          have k1 : w8.cell? ⟨w.heap.size, 1, none⟩ = some (.string x.key) := HF8.out.b3.cell 1
          have k2 : w8.cell? ⟨w.heap.size, 2, none⟩ = some (.slice x.A x.d.length x.c) := HF8.out.b3.cell 2
          have hv0 : 0 ≤ R.ver := by rw [HSIM.out.ver]; exact HI.out.v0
          have hv1 : R.ver ≤ 1000000 := by rw [HSIM.out.ver]; have := HI.out.v1; omega
          have HPC := Lib.hid (putR_calls (c := x.c) w8 HF8.out.at_ (Nat.le_trans hol (by omega)) x.key HF8.out.dat (Nat.le_refl _) HF8.out.out hx.d hv0 hv1)
          go_wp2_with fail
          refine HPC.out.mono ?_
          rintro e w11 ⟨rfl, A', c', AO', cO', hT2⟩
          have HXZ := Lib.hid (HF8.out.go hT2)
          have HSI := Lib.hid (HSIM.out.put (k := x.key) HRS.out A' c' x.d AO' cO')
          have HVN := Lib.hid (And.intro HSIM.out.ver HSIM.out.now)
          clear HPC hT2 k1 k2
          have q0 : w11.cell? ⟨w.heap.size + 1, 0, none⟩ = some (.int .i64 0) := HXZ.out.b4.cell 0
          have p0 : w11.frozen? ⟨w.heap.size + 1, 0, none⟩ = false := HXZ.out.b4.frozen 0
          have q1 : w11.cell? ⟨w.heap.size + 1, 1, none⟩ = some (.slice none 0 0) := HXZ.out.b4.cell 1
          have p1 : w11.frozen? ⟨w.heap.size + 1, 1, none⟩ = false := HXZ.out.b4.frozen 1
          have q2 : w11.cell? ⟨w.heap.size + 1, 2, none⟩ = some (.int .i64 0) := HXZ.out.b4.cell 2
          have p2 : w11.frozen? ⟨w.heap.size + 1, 2, none⟩ = false := HXZ.out.b4.frozen 2
          have q3 : w11.cell? ⟨w.heap.size + 1, 3, none⟩ = some (.int .i64 0) := HXZ.out.b4.cell 3
          have p3 : w11.frozen? ⟨w.heap.size + 1, 3, none⟩ = false := HXZ.out.b4.frozen 3
          have q4 : w11.cell? ⟨w.heap.size + 1, 4, none⟩ = some (.int .i64 0) := HXZ.out.b4.cell 4
          have p4 : w11.frozen? ⟨w.heap.size + 1, 4, none⟩ = false := HXZ.out.b4.frozen 4
          have q5 : w11.cell? ⟨w.heap.size + 1, 5, none⟩ = some (.slice none 0 0) := HXZ.out.b4.cell 5
          have p5 : w11.frozen? ⟨w.heap.size + 1, 5, none⟩ = false := HXZ.out.b4.frozen 5
          have q6 : w11.cell? ⟨w.heap.size + 1, 6, none⟩ = some (.bool false) := HXZ.out.b4.cell 6
          have p6 : w11.frozen? ⟨w.heap.size + 1, 6, none⟩ = false := HXZ.out.b4.frozen 6
          go_wp2
          obtain ⟨hw, hT, hK⟩ := HXZ.out.fin (.int .i64 0) (.slice none 0 0) (.int .i64 (R.ver + 1)) (.int .i64 R.now) (.int .i64 0) (.slice none 0 0) (.bool false)
          unfold set7 at hw hT hK
          refine bodyPost_ret (results_cell_row rfl _ _ (w.heap.size + 1) 43 #[(.int .i64 0), (.slice none 0 0), (.int .i64 (R.ver + 1)), (.int .i64 R.now), (.int .i64 0), (.slice none 0 0), (.bool false)] (0, 0) _ rfl hw Tryz.underlying43 rfl (by kernel_rfl)) rfl ?_
          refine ⟨_, _, rfl, ?_, hT, by rw [HRR.out]; exact HSI.out⟩
          rw [HRR.out]
          have e := rep_plain (base := w.heap.size) (w' := set7 w11 (w.heap.size + 1) (.int .i64 0) (.slice none 0 0) (.int .i64 (R.ver + 1)) (.int .i64 R.now) (.int .i64 0) (.slice none 0 0) (.bool false)) 0 (R.ver + 1) R.now 0
          rw [HVN.out.1, HVN.out.2] at e
          rw [HVN.out.1, HVN.out.2]
          exact e
        · have v3 := net hov
          have HP8 : Hid (pe = 8) := Lib.hid (by rw [HPE.out, if_neg (by rw [hr]; decide), if_neg (by rw [HSF.out, dcf HV.out]; rintro ⟨-, h⟩; exact absurd h (by decide)), if_pos ⟨HK0.out, HSF.out, by rw [HOV.out]; exact hov⟩])
          clear hov
          go_upto_region 10 with fail
          go_quiet (fail)
          have HFq := Lib.hid (HF1.out.drewN nq)
          clear k0 k1 k2 k3 k4 k5 k6
          generalize w1.drewN nq = wq at *
          have k1 : wq.cell? ⟨w.heap.size, 1, none⟩ = some (.string x.key) := HFq.out.b3.cell 1
          have k2 : wq.cell? ⟨w.heap.size, 2, none⟩ = some (.slice x.A x.d.length x.c) := HFq.out.b3.cell 2
          clear z0 x1 x2 e0
          have HRR : Hid (r = (s, bad 8)) := Lib.hid (by rw [HR.out, HP8.out, if_neg (by decide)])
          clear HR HPE HP8
          go_wp2_with fail
          refine (bad_calls wq 8).mono ?_
          rintro e wb ⟨rfl, hbb⟩
          have HXB := Lib.hid (HFq.out.on hbb)
          clear hbb
          unfold errV
          have q0 : wb.cell? ⟨w.heap.size + 1, 0, none⟩ = some (.int .i64 0) := HXB.out.b4.cell 0
          have p0 : wb.frozen? ⟨w.heap.size + 1, 0, none⟩ = false := HXB.out.b4.frozen 0
          have q1 : wb.cell? ⟨w.heap.size + 1, 1, none⟩ = some (.slice none 0 0) := HXB.out.b4.cell 1
          have p1 : wb.frozen? ⟨w.heap.size + 1, 1, none⟩ = false := HXB.out.b4.frozen 1
          have q2 : wb.cell? ⟨w.heap.size + 1, 2, none⟩ = some (.int .i64 0) := HXB.out.b4.cell 2
          have p2 : wb.frozen? ⟨w.heap.size + 1, 2, none⟩ = false := HXB.out.b4.frozen 2
          have q3 : wb.cell? ⟨w.heap.size + 1, 3, none⟩ = some (.int .i64 0) := HXB.out.b4.cell 3
          have p3 : wb.frozen? ⟨w.heap.size + 1, 3, none⟩ = false := HXB.out.b4.frozen 3
          have q4 : wb.cell? ⟨w.heap.size + 1, 4, none⟩ = some (.int .i64 0) := HXB.out.b4.cell 4
          have p4 : wb.frozen? ⟨w.heap.size + 1, 4, none⟩ = false := HXB.out.b4.frozen 4
          have q5 : wb.cell? ⟨w.heap.size + 1, 5, none⟩ = some (.slice none 0 0) := HXB.out.b4.cell 5
          have p5 : wb.frozen? ⟨w.heap.size + 1, 5, none⟩ = false := HXB.out.b4.frozen 5
          have q6 : wb.cell? ⟨w.heap.size + 1, 6, none⟩ = some (.bool false) := HXB.out.b4.cell 6
          have p6 : wb.frozen? ⟨w.heap.size + 1, 6, none⟩ = false := HXB.out.b4.frozen 6
          go_wp2
          obtain ⟨hw, hT, hK⟩ := HXB.out.fin (.int .i64 8) (.slice none 0 0) (.int .i64 0) (.int .i64 0) (.int .i64 0) (.slice none 0 0) (.bool false)
          unfold set7 at hw hT hK
          refine bodyPost_ret (results_cell_row rfl _ _ (w.heap.size + 1) 43 #[(.int .i64 8), (.slice none 0 0), (.int .i64 0), (.int .i64 0), (.int .i64 0), (.slice none 0 0), (.bool false)] (0, 0) _ rfl hw Tryz.underlying43 rfl (by kernel_rfl)) rfl ?_
          exact ⟨_, _, rfl, by rw [HRR.out]; exact rep_plain 8 0 0 0, hT, by rw [HRR.out]; exact HSIM.out⟩
end Rf
end Go.Proofs.YtlljpjehalodfaaGreat
