/- The document's store: a call (chapter 14): an object deleted, an upload begun. -/
import Derived.Test.YtlljpjehalodfaaGreatProg
import Derived.Test.YtlljpjehalodfaaGreatPlJ
namespace Go.Proofs.YtlljpjehalodfaaGreat
open Go.RowKit
namespace Rf
open St

set_option maxRecDepth 100000 in
set_option maxHeartbeats 16000000 in
theorem doR_6 (w : World) {base n : Nat} {R : RS} {s : PS} {x : Cl} (h : RAt w base R) (hS : Sim R s) (hi : PInv s n) (hs : PSrt s) (hn : n ≤ 1000) (hd : Bytes w w.heap.size x.A x.d.length x.d) (ho : Out R x.A x.d.length) (hx : ClOk x)
    (hk : x.kind = 6) : DoR w base R s x := by
  unfold DoR
  have hu0 : s.step x.pure = s.drop x.pure := by
    have e : x.pure.kind = x.kind := rfl
    rw [kind_step, e]
    rw [if_neg (by omega), if_neg (by omega), if_neg (by omega), if_neg (by omega), if_neg (by omega), if_pos (by omega)]
  have hu1 : s.drop x.pure = match mget s.objs x.key with | none => (s, bad 7) | some o => ({ s with all := s.all - (o.d.length : Int), objs := mdel s.objs x.key }, bad 0) := rfl
  have HR := Lib.hid (hu0.trans hu1)
  clear hu0 hu1
  have HK0 := Lib.hid hk
  clear hk
  generalize s.step x.pure = r at *
  have HSIM := Lib.hid hS
  have HI := Lib.hid hi
  have HRS := Lib.hid hs
  have hol : R.objs.length ≤ 1000 := by rw [hS.olen]; exact Nat.le_trans hi.on hn
  have hul : R.ups.length ≤ 1000 := by rw [hS.ups.len]; exact Nat.le_trans hi.un hn
  clear hS hi hs
  have HF0 := (FR.start h hd ho).toX
  unfold Cl.cells rep0 at HF0
  have HF := Lib.hid HF0
  clear HF0 hd ho h
  unfold Cl.val Cl.cells
  go_enter Tryz.func13, Tryz.ntmps13
  go_upto_region 1 with fail
  generalize ((w.alloc (.cells #[.int .i64 x.kind, .string x.key, .slice x.A x.d.length x.c, .int .i64 x.ver, .int .i64 x.at_, .int .i64 x.n, .int .i64 x.id] 34)).alloc (.cells #[.int .i64 0, .slice none 0 0, .int .i64 0, .int .i64 0, .int .i64 0, .slice none 0 0, .bool false] 43)) = w2 at *
  have HAT : Hid (∀ m, Calls Tryz.prog 23 #[.pointer (some ⟨R.g, 0, none⟩), .string x.key] (w2.drewN m) fun e w'' => e = .returned (.int .i64 (R.idxO x.key)) ∧ ∃ m', w'' = w2.drewN m') := Lib.hid fun m => (at_calls (w2.drewN m) (HF.out.at_.drewN m) (Nat.le_trans hol (by omega)) x.key).mono fun e w'' h => ⟨h.1, m, h.2.symm⟩
  have HOP : Hid (∀ m, Calls Tryz.prog 24 #[.pointer (some ⟨R.g, 0, none⟩), .int .i64 x.id] (w2.drewN m) fun e w'' => e = .returned (.int .i64 (R.idxU x.id)) ∧ ∃ m', w'' = w2.drewN m') := Lib.hid fun m => (open_calls (w2.drewN m) (HF.out.at_.drewN m) (Nat.le_trans hul (by omega)) x.id).mono fun e w'' h => ⟨h.1, m, h.2.symm⟩
  have k1 : w2.cell? ⟨w.heap.size, 1, none⟩ = some (.string x.key) := HF.out.b3.cell 1
  have k6 : w2.cell? ⟨w.heap.size, 6, none⟩ = some (.int .i64 x.id) := HF.out.b3.cell 6
  go_quiet (first | (exact HAT.out _) | (exact HOP.out _))
  clear HAT HOP k1 k6
  have HF1 := Lib.hid (HF.out.drewN nq)
  have HIX := Lib.hid (HSIM.out.idxO HRS.out x.key)
  have HIU := Lib.hid (HSIM.out.idxU HRS.out x.id)
  generalize R.idxO x.key = ix at *
  generalize R.idxU x.id = iu at *
  generalize w2.drewN nq = w1 at *
  have k0 : w1.cell? ⟨w.heap.size, 0, none⟩ = some (.int .i64 x.kind) := HF1.out.b3.cell 0
  have k1 : w1.cell? ⟨w.heap.size, 1, none⟩ = some (.string x.key) := HF1.out.b3.cell 1
  have k2 : w1.cell? ⟨w.heap.size, 2, none⟩ = some (.slice x.A x.d.length x.c) := HF1.out.b3.cell 2
  have k3 : w1.cell? ⟨w.heap.size, 3, none⟩ = some (.int .i64 x.ver) := HF1.out.b3.cell 3
  have k4 : w1.cell? ⟨w.heap.size, 4, none⟩ = some (.int .i64 x.at_) := HF1.out.b3.cell 4
  have k5 : w1.cell? ⟨w.heap.size, 5, none⟩ = some (.int .i64 x.n) := HF1.out.b3.cell 5
  have k6 : w1.cell? ⟨w.heap.size, 6, none⟩ = some (.int .i64 x.id) := HF1.out.b3.cell 6
  have e1 : (x.kind == 1) = ((6 : Int) == 1) := by rw [HK0.out]
  have e2 : (x.kind == 2) = ((6 : Int) == 2) := by rw [HK0.out]
  have e3 : (x.kind == 3) = ((6 : Int) == 3) := by rw [HK0.out]
  have e4 : (x.kind == 4) = ((6 : Int) == 4) := by rw [HK0.out]
  have e5 : (x.kind == 5) = ((6 : Int) == 5) := by rw [HK0.out]
  have e6 : (x.kind == 6) = ((6 : Int) == 6) := by rw [HK0.out]
  have e7 : (x.kind == 7) = ((6 : Int) == 7) := by rw [HK0.out]
  have e8 : (x.kind == 8) = ((6 : Int) == 8) := by rw [HK0.out]
  have e9 : (x.kind == 9) = ((6 : Int) == 9) := by rw [HK0.out]
  have e10 : (x.kind == 10) = ((6 : Int) == 10) := by rw [HK0.out]
  have e11 : (x.kind == 11) = ((6 : Int) == 11) := by rw [HK0.out]
  rcases HIX.out with ⟨rfl, hm⟩ | ⟨i, hi, rfl, hm, hkey⟩
  · have d1 : decide ((-1 : Int) < 0) = true := by decide
    have HRR : Hid (r = (s, bad 7)) := Lib.hid (by rw [HR.out, hm])
    clear hm HIX
    go_wp2_with fail
    refine (bad_calls w1 7).mono ?_
    rintro e wb ⟨rfl, hbb⟩
    have HXB := Lib.hid (HF1.out.on hbb)
    clear hbb
    unfold errV
    have q0 : wb.cell? ⟨w.heap.size + 1, 0, none⟩ = some (.int .i64 0) := HXB.out.b4.cell 0
    have p0 : wb.frozen? ⟨w.heap.size + 1, 0, none⟩ = false := HXB.out.b4.frozen 0
    have q1 : wb.cell? ⟨w.heap.size + 1, 1, none⟩ = some (.slice none 0 0) := HXB.out.b4.cell 1
    have p1 : wb.frozen? ⟨w.heap.size + 1, 1, none⟩ = false := HXB.out.b4.frozen 1
    have q2 : wb.cell? ⟨w.heap.size + 1, 2, none⟩ = some (.int .i64 0) := HXB.out.b4.cell 2
    have p2 : wb.frozen? ⟨w.heap.size + 1, 2, none⟩ = false := HXB.out.b4.frozen 2
    have q3 : wb.cell? ⟨w.heap.size + 1, 3, none⟩ = some (.int .i64 0) := HXB.out.b4.cell 3
    have p3 : wb.frozen? ⟨w.heap.size + 1, 3, none⟩ = false := HXB.out.b4.frozen 3
    have q4 : wb.cell? ⟨w.heap.size + 1, 4, none⟩ = some (.int .i64 0) := HXB.out.b4.cell 4
    have p4 : wb.frozen? ⟨w.heap.size + 1, 4, none⟩ = false := HXB.out.b4.frozen 4
    have q5 : wb.cell? ⟨w.heap.size + 1, 5, none⟩ = some (.slice none 0 0) := HXB.out.b4.cell 5
    have p5 : wb.frozen? ⟨w.heap.size + 1, 5, none⟩ = false := HXB.out.b4.frozen 5
    have q6 : wb.cell? ⟨w.heap.size + 1, 6, none⟩ = some (.bool false) := HXB.out.b4.cell 6
    have p6 : wb.frozen? ⟨w.heap.size + 1, 6, none⟩ = false := HXB.out.b4.frozen 6
    go_wp2
    obtain ⟨hw, hT, hK⟩ := HXB.out.fin (.int .i64 7) (.slice none 0 0) (.int .i64 0) (.int .i64 0) (.int .i64 0) (.slice none 0 0) (.bool false)
    unfold set7 at hw hT hK
    refine bodyPost_ret (results_cell_row rfl _ _ (w.heap.size + 1) 43 #[(.int .i64 7), (.slice none 0 0), (.int .i64 0), (.int .i64 0), (.int .i64 0), (.slice none 0 0), (.bool false)] (0, 0) _ rfl hw Tryz.underlying43 rfl (by kernel_rfl)) rfl ?_
    exact ⟨_, _, rfl, by rw [HRR.out]; exact rep_plain 7 0 0 0, hT, by rw [HRR.out]; exact HSIM.out⟩
  · have d1 : decide ((i : Int) < 0) = false := dcf (by omega)
    have HRR : Hid (r = ({ s with all := s.all - ((go R.objs i).po.d.length : Int), objs := mdel s.objs x.key }, bad 0)) := Lib.hid (by rw [HR.out, hm])
    have HKEY := Lib.hid hkey
    clear hm HIX hkey
    go_upto_region 41 with fail
    have HA1 := Lib.hid HF1.out.at_
    have hic := HF1.out.at_.o_len.1
    clear k0 k1 k2 k3 k4 k5 k6 e1 e2 e3 e4 e5 e6 e7 e8 e9 e10 e11 d1
    have Hk : Hid (∀ W, Below w1.heap.size w1 W → W.cell? ⟨R.g, 0, none⟩ = some (.slice R.AO R.objs.length R.cO)) := Lib.hid fun W hW => (HA1.out.blk.below hW HA1.out.blk.lt).cell 0
    have hn0 : (0 : Int) ≤ (i : Int) := by omega
    have hn1 : (i : Int) ≤ (R.objs.length : Int) := by omega
    have hn2 : (i : Int) ≤ (R.cO : Int) := by omega
    have r1 : IntKind.i64.wrap ((i : Int) + 1) = (i : Int) + 1 := by rw [IntKind.wrap_i64]; omega
    have r2 : ((i : Int) + 1).toNat = i + 1 := by omega
    have hn3 : (0 : Int) ≤ (i : Int) + 1 := by omega
    have hn4 : (i : Int) + 1 ≤ (R.objs.length : Int) := by omega
    refine wp_region_T 19 (fun w' => w'.cell? ⟨R.g, 0, none⟩ = some (.slice R.AO R.objs.length R.cO)) (by kernel_rfl) (Hk.out _ (below_drewN_ (Below.refl _ _) 1)) (fun hHeld => ?_)
    have HW0 : Hid (Below w1.heap.size w1 w1.drew) := Lib.hid (below_drewN_ (Below.refl _ _) 1)
    generalize w1.drew = wd at *
    refine wpAnyT_take (i := 0) (oi := _) (v := ?_) rfl (by kernel_rfl) (fun _ _ _ h => h) (Or.inl ⟨by kernel_rfl, ?_⟩) (by assumption) ?_; rotate_left; (focus (intro w hSw; (try dsimp only at hSw); go_simp; (try with_reducible rfl))); (try simp only [Act.put, List.getElem_toArray, List.getElem_cons_zero, List.setIfInBounds_toArray, List.set_cons_zero, List.set_cons_succ])
    refine wpAnyT_take (i := 2) (oi := _) (v := ?_) rfl (by kernel_rfl) (fun _ _ _ h => h) (Or.inl ⟨by kernel_rfl, ?_⟩) (by assumption) ?_; rotate_left; (focus (intro w hSw; (try dsimp only at hSw); go_simp; (try with_reducible rfl))); (try simp only [Act.put, List.getElem_toArray, List.getElem_cons_zero, List.getElem_cons_succ, List.setIfInBounds_toArray, List.set_cons_zero, List.set_cons_succ])
    refine wpAnyT_take (i := 3) (oi := _) (v := ?_) rfl (by kernel_rfl) (fun _ _ _ h => h) (Or.inl ⟨by kernel_rfl, ?_⟩) (by assumption) ?_; rotate_left; (focus (intro w hSw; (try dsimp only at hSw); go_simp; (try with_reducible rfl))); (try simp only [Act.put, List.getElem_toArray, List.getElem_cons_zero, List.getElem_cons_succ, List.setIfInBounds_toArray, List.set_cons_zero, List.set_cons_succ])
    refine wpAnyT_take (i := 4) (oi := _) (v := ?_) rfl (by kernel_rfl) (fun _ _ _ h => h) (Or.inl ⟨by kernel_rfl, ?_⟩) (by assumption) ?_; rotate_left; (focus (intro w hSw; (try dsimp only at hSw); go_simp; (try with_reducible rfl))); (try simp only [Act.put, List.getElem_toArray, List.getElem_cons_zero, List.getElem_cons_succ, List.setIfInBounds_toArray, List.set_cons_zero, List.set_cons_succ])
    refine wpAnyT_take (i := 5) (oi := _) (v := ?_) rfl (by kernel_rfl) (fun _ _ _ h => h) (Or.inl ⟨by kernel_rfl, ?_⟩) (by assumption) ?_; rotate_left; (focus (intro w hSw; (try dsimp only at hSw); go_simp; (try with_reducible rfl))); (try simp only [Act.put, List.getElem_toArray, List.getElem_cons_zero, List.getElem_cons_succ, List.setIfInBounds_toArray, List.set_cons_zero, List.set_cons_succ])
    refine wpAnyT_take (i := 6) (oi := _) (v := ?_) rfl (by kernel_rfl) (fun _ _ _ h => h) (Or.inl ⟨by kernel_rfl, ?_⟩) (by assumption) ?_; rotate_left; (focus (intro w hSw; (try dsimp only at hSw); go_simp; (try with_reducible rfl))); (try simp only [Act.put, List.getElem_toArray, List.getElem_cons_zero, List.getElem_cons_succ, List.setIfInBounds_toArray, List.set_cons_zero, List.set_cons_succ])
    refine wpAnyT_take (i := 7) (oi := _) (v := ?_) rfl (by kernel_rfl) (fun _ _ _ h => h) (Or.inl ⟨by kernel_rfl, ?_⟩) (by assumption) ?_; rotate_left; (focus (intro w hSw; (try dsimp only at hSw); go_simp; (try with_reducible rfl))); (try simp only [Act.put, List.getElem_toArray, List.getElem_cons_zero, List.getElem_cons_succ, List.setIfInBounds_toArray, List.set_cons_zero, List.set_cons_succ])
    refine wpAnyT_take (i := 9) (oi := _) (v := ?_) rfl (by kernel_rfl) (fun _ _ _ h => h) (Or.inl ⟨by kernel_rfl, ?_⟩) (by assumption) ?_; rotate_left; (focus (intro w hSw; (try dsimp only at hSw); go_simp; (try with_reducible rfl))); (try simp only [Act.put, List.getElem_toArray, List.getElem_cons_zero, List.getElem_cons_succ, List.setIfInBounds_toArray, List.set_cons_zero, List.set_cons_succ])
    refine wpAnyT_take (i := 10) (oi := _) (v := ?_) rfl (by kernel_rfl) (fun _ _ _ h => h) (Or.inl ⟨by kernel_rfl, ?_⟩) (by assumption) ?_; rotate_left; (focus (intro w hSw; (try dsimp only at hSw); go_simp; (try with_reducible rfl))); (try simp only [Act.put, List.getElem_toArray, List.getElem_cons_zero, List.getElem_cons_succ, List.setIfInBounds_toArray, List.set_cons_zero, List.set_cons_succ])
    refine wpAnyT_take (i := 11) (oi := _) (v := ?_) rfl (by kernel_rfl) (fun _ _ _ h => h) (Or.inl ⟨by kernel_rfl, ?_⟩) (by assumption) ?_; rotate_left; (focus (intro w hSw; (try dsimp only at hSw); go_simp; (try with_reducible rfl))); (try simp only [Act.put, List.getElem_toArray, List.getElem_cons_zero, List.getElem_cons_succ, List.setIfInBounds_toArray, List.set_cons_zero, List.set_cons_succ])
    refine wpAnyT_take (i := 12) (oi := _) (v := ?_) rfl (by kernel_rfl) (fun _ _ _ h => h) (Or.inl ⟨by kernel_rfl, ?_⟩) (by assumption) ?_; rotate_left; (focus (intro w hSw; (try dsimp only at hSw); go_simp; (try with_reducible rfl))); (try simp only [Act.put, List.getElem_toArray, List.getElem_cons_zero, List.getElem_cons_succ, List.setIfInBounds_toArray, List.set_cons_zero, List.set_cons_succ])
    refine wpAnyT_take (i := 13) (oi := _) (v := ?_) rfl (by kernel_rfl) (fun _ _ _ h => h) (Or.inl ⟨by kernel_rfl, ?_⟩) (by assumption) ?_; rotate_left; (focus (intro w hSw; (try dsimp only at hSw); go_simp; (try with_reducible rfl))); (try simp only [Act.put, List.getElem_toArray, List.getElem_cons_zero, List.getElem_cons_succ, List.setIfInBounds_toArray, List.set_cons_zero, List.set_cons_succ])
    refine wpAnyT_take (i := 14) (oi := _) (v := ?_) rfl (by kernel_rfl) (fun _ _ _ h => h) (Or.inl ⟨by kernel_rfl, ?_⟩) (by assumption) ?_; rotate_left; (focus (intro w hSw; (try dsimp only at hSw); go_simp; (try with_reducible rfl))); (try simp only [Act.put, List.getElem_toArray, List.getElem_cons_zero, List.getElem_cons_succ, List.setIfInBounds_toArray, List.set_cons_zero, List.set_cons_succ])
    refine wpAnyT_take (i := 15) (oi := _) (v := ?_) rfl (by kernel_rfl) (fun _ _ _ h => h) (Or.inl ⟨by kernel_rfl, ?_⟩) (by assumption) ?_; rotate_left; (focus (intro w hSw; (try dsimp only at hSw); go_simp; (try with_reducible rfl))); (try simp only [Act.put, List.getElem_toArray, List.getElem_cons_zero, List.getElem_cons_succ, List.setIfInBounds_toArray, List.set_cons_zero, List.set_cons_succ])
    refine wpAnyT_one (i := 1) (by kernel_rfl) rfl (fun K hK => ?_); go_simp
    have HW1 : Hid (Below w1.heap.size w1 (wd.alloc (.cells #[] 68))) := Lib.hid (HW0.out.alloc HW0.out.size _)
    have HO1 : Hid ((wd.alloc (.cells #[] 68)).ownsRow wd.heap.size 68 4 (.slice (some ⟨wd.heap.size, 0, none⟩) 0 0) 0 []) := Lib.hid (World.ownsRow_made wd #[] 0 (Nat.le_refl _) (Nat.zero_le _) rfl)
    have hs1 : wd.heap.size ≤ (wd.alloc (.cells #[] 68)).heap.size := by simp
    have hs0 := HW0.out.size
    have hH1 := Hk.out _ HW1.out
    refine hK.out _ _ (fun _ => hH1) ?_
    clear hK K hHeld
    have HRD1 := Lib.hid (HA1.out.o_reads.below HW1.out)
    have HRD0 := Lib.hid HA1.out.o_reads
    generalize wd.alloc (.cells #[] 68) = w3 at *
    refine wpAnyT_one (i := 8) (by kernel_rfl) rfl (fun K hK => ?_)
    refine step_append_sl _ rfl (.tmp 229) (.tmp 235) _ rfl wd.heap.size 68 _ 4 56 Tryz.underlying26 Tryz.infoO rfl (by omega) _ _ _ rfl HO1.out w1.heap.size _ i R.cO (oCells (R.objs.take i)) rfl ((takeO_reads' HRD0.out (Nat.le_of_lt hi)).below HW1.out) (o_one _) (by unfold maxLen; omega) (by omega) hs1 ?_
    intro A4 c4 w4 hc41 hc42 hrd4 hbel4 hown4 _ _
    have HW4 := Lib.hid (HW1.out.trans (hbel4.mono hs0))
    have hown4' : w4.ownsRow wd.heap.size 68 4 (.slice A4 i c4) i (oCells (R.objs.take i)) := by simpa using hown4
    have HO4 := Lib.hid hown4'
    have hH4 := Hk.out _ HW4.out
    have hs4 : wd.heap.size ≤ w4.heap.size := Nat.le_trans hs1 hbel4.size
    have e0i : 0 + i = i := Nat.zero_add i
    rw [e0i]
    refine hK.out _ _ (fun _ => hH4) ?_
    clear hK K hc41 hc42 hrd4 hbel4 hown4 hown4' hH1 HO1 e0i
    (try simp only [Act.put, List.getElem_toArray, List.getElem_cons_zero, List.getElem_cons_succ, List.setIfInBounds_toArray, List.set_cons_zero, List.set_cons_succ])
    refine wpAnyT_one (i := 16) (by kernel_rfl) rfl (fun K hK => ?_)
    refine step_append_sl _ rfl (.tmp 236) (.tmp 243) _ rfl wd.heap.size 68 _ 4 56 Tryz.underlying26 Tryz.infoO rfl (by omega) _ _ _ rfl HO4.out w1.heap.size (cutO R.AO R.cO (i + 1)) (R.objs.length - (i + 1)) (R.cO - (i + 1)) (oCells (R.objs.drop (i + 1))) rfl ((dropO_reads HRD0.out hi hic).below HW4.out) (o_one _) (by unfold maxLen; omega) (by omega) hs4 ?_
    generalize (if R.cO = i + 1 then R.AO else Option.map (fun x => x.add ((i + 1) * 4)) R.AO) = ac5
    intro A5 c5 w5 hc51 hc52 hrd5 hbel5 hown5 _ _
    have HW5 := Lib.hid (HW4.out.trans (hbel5.mono hs0))
    have hoc : oCells (R.objs.take i) ++ oCells (R.objs.drop (i + 1)) = oCells (R.objs.take i ++ R.objs.drop (i + 1)) := by unfold oCells; rw [List.flatMap_append]
    obtain ⟨m5, hm5⟩ : ∃ m, i + (R.objs.length - (i + 1)) = m := ⟨_, rfl⟩
    have HCL := Lib.hid ((cut_len (l := R.objs) hi).trans hm5)
    rw [hm5] at hown5 ⊢
    have HO5 : Hid (w5.ownsRow w1.heap.size 68 4 (.slice A5 (R.objs.take i ++ R.objs.drop (i + 1)).length c5) (R.objs.take i ++ R.objs.drop (i + 1)).length (oCells (R.objs.take i ++ R.objs.drop (i + 1)))) := Lib.hid (by rw [HCL.out, ← hoc]; exact own_base hown5 hs0)
    have hH5 := Hk.out _ HW5.out
    refine hK.out _ _ (fun _ => hH5) ?_
    clear hK K hc51 hc52 hrd5 hbel5 hown5 hoc hH4 HO4
    (try simp only [Act.put, List.getElem_toArray, List.getElem_cons_zero, List.getElem_cons_succ, List.setIfInBounds_toArray, List.set_cons_zero, List.set_cons_succ])
    refine wpAnyT_one (i := 17) (by kernel_rfl) rfl (fun K hK => ?_); go_simp; refine hK.out _ _ (fun _ => hH5) ?_; clear hK K; (try simp only [Act.put, List.getElem_toArray, List.getElem_cons_zero, List.getElem_cons_succ, List.setIfInBounds_toArray, List.set_cons_zero, List.set_cons_succ])
    refine wpAnyT_one (i := 18) (by kernel_rfl) rfl (fun K hK => ?_); go_simp; refine hK.out _ _ (fun _ => hH5) ?_; clear hK K; (try simp only [Act.put, List.getElem_toArray, List.getElem_cons_zero, List.getElem_cons_succ, List.setIfInBounds_toArray, List.set_cons_zero, List.set_cons_succ])
    have f5 := (HA1.out.blk.below HW5.out HA1.out.blk.lt).frozen 0
    have hnu := HA1.out.newO HW5.out HO5.out (fun u hu => .inl (cut_mem hu))
    rw [HCL.out] at hnu
    have HNU := Lib.hid hnu
    clear hnu hm5
    have HTU := Lib.hid (Turn.cutO HNU.out.1 HNU.out.2.1 HNU.out.2.2 (fun u hu => cut_mem hu))
    refine wpAnyT_one (i := 19) (by kernel_rfl) rfl (fun K hK => ?_); go_simp
    refine hK.out _ _ (fun h => absurd rfl h) (wpAnyT_done (by kernel_rfl) ?_ _)
    clear hK K
    go_upto_region 42 with fail
    have HF6 := Lib.hid (HF1.out.go HTU.out)
    have HSI := Lib.hid (HSIM.out.dropO HRS.out hi HKEY.out (s.all - ((go R.objs i).po.d.length : Int)) A5 c5)
    clear HTU HNU HO5 HCL HW5 HW4 HW1 HW0
    generalize w5.setCell ⟨R.g, 0, none⟩ (.slice A5 m5 c5) = w6 at *
    have q0 : w6.cell? ⟨w.heap.size + 1, 0, none⟩ = some (.int .i64 0) := HF6.out.b4.cell 0
    have p0 : w6.frozen? ⟨w.heap.size + 1, 0, none⟩ = false := HF6.out.b4.frozen 0
    have q1 : w6.cell? ⟨w.heap.size + 1, 1, none⟩ = some (.slice none 0 0) := HF6.out.b4.cell 1
    have p1 : w6.frozen? ⟨w.heap.size + 1, 1, none⟩ = false := HF6.out.b4.frozen 1
    have q2 : w6.cell? ⟨w.heap.size + 1, 2, none⟩ = some (.int .i64 0) := HF6.out.b4.cell 2
    have p2 : w6.frozen? ⟨w.heap.size + 1, 2, none⟩ = false := HF6.out.b4.frozen 2
    have q3 : w6.cell? ⟨w.heap.size + 1, 3, none⟩ = some (.int .i64 0) := HF6.out.b4.cell 3
    have p3 : w6.frozen? ⟨w.heap.size + 1, 3, none⟩ = false := HF6.out.b4.frozen 3
    have q4 : w6.cell? ⟨w.heap.size + 1, 4, none⟩ = some (.int .i64 0) := HF6.out.b4.cell 4
    have p4 : w6.frozen? ⟨w.heap.size + 1, 4, none⟩ = false := HF6.out.b4.frozen 4
    have q5 : w6.cell? ⟨w.heap.size + 1, 5, none⟩ = some (.slice none 0 0) := HF6.out.b4.cell 5
    have p5 : w6.frozen? ⟨w.heap.size + 1, 5, none⟩ = false := HF6.out.b4.frozen 5
    have q6 : w6.cell? ⟨w.heap.size + 1, 6, none⟩ = some (.bool false) := HF6.out.b4.cell 6
    have p6 : w6.frozen? ⟨w.heap.size + 1, 6, none⟩ = false := HF6.out.b4.frozen 6
    go_wp2
    obtain ⟨hw, hT, hK⟩ := HF6.out.fin (.int .i64 0) (.slice none 0 0) (.int .i64 0) (.int .i64 0) (.int .i64 0) (.slice none 0 0) (.bool false)
    unfold set7 at hw hT hK
    refine bodyPost_ret (results_cell_row rfl _ _ (w.heap.size + 1) 43 #[(.int .i64 0), (.slice none 0 0), (.int .i64 0), (.int .i64 0), (.int .i64 0), (.slice none 0 0), (.bool false)] (0, 0) _ rfl hw Tryz.underlying43 rfl (by kernel_rfl)) rfl ?_
    exact ⟨_, _, rfl, by rw [HRR.out]; exact rep_plain 0 0 0 0, hT, by rw [HRR.out]; exact HSI.out⟩
def ru7 (id now : Int) (k : ByteArray) : Ru := ⟨id, now, k, none, 0, []⟩
theorem ru7_ru {w : World} {R : RS} (id now : Int) (k : ByteArray) : RU w R (ru7 id now k) := ⟨⟨Reads.none_, Nat.le_refl _, Nat.zero_le _, fun h => absurd h (by show ¬ 0 < 0; omega)⟩, fun p hp => by cases hp⟩
theorem RAt.num_turn {w : World} {base : Nat} {R R' : RS} {i : Nat} {u : Value} (h : RAt w base R) (hg : R'.g = R.g) (ho : R'.oV = R.oV) (hu : R'.uV = R.uV) (h1 : R'.objs = R.objs) (h2 : R'.ups = R.ups) (hc : R'.cells = R.cells.setIfInBounds i u) : Turn w base R (w.setCell ⟨R.g, i, none⟩ u) R' :=
  ⟨h.num hg ho hu h1 h2 hc, (Keep.refl _ _).setCell (.inl (.inl rfl)) _, fun j hj => .inl (by unfold RS.foot at hj ⊢; rw [hg, ho, hu] at hj; exact hj), fun b hb => .inl (by unfold RS.addr at hb ⊢; rw [h1, h2] at hb; exact hb), hg⟩
set_option maxRecDepth 100000 in
set_option maxHeartbeats 16000000 in
theorem doR_7 (w : World) {base n : Nat} {R : RS} {s : PS} {x : Cl} (h : RAt w base R) (hS : Sim R s) (hi : PInv s n) (hs : PSrt s) (hn : n ≤ 1000) (hd : Bytes w w.heap.size x.A x.d.length x.d) (ho : Out R x.A x.d.length) (hx : ClOk x)
    (hk : x.kind = 7) : DoR w base R s x := by
  unfold DoR
  have hu0 : s.step x.pure = s.create x.pure := by
    have e : x.pure.kind = x.kind := rfl
    rw [kind_step, e]
    rw [if_neg (by omega), if_neg (by omega), if_neg (by omega), if_neg (by omega), if_pos (by omega)]
  have hu1 : s.create x.pure = if s.createE x.pure = 0 then ({ s with id := s.id + 1, ups := mput ltI s.ups (s.id + 1) ⟨x.key, s.now, []⟩ }, ⟨0, [], 0, s.now, s.id + 1, [], false⟩) else (s, bad (s.createE x.pure)) := rfl
  have HR := Lib.hid (hu0.trans hu1)
  have HPE : Hid (s.createE x.pure = if rightB x.key = false then 1 else if 512 ≤ s.ups.length then 9 else 0) := Lib.hid rfl
  generalize s.createE x.pure = pe at *
  clear hu0 hu1
  have HK0 := Lib.hid hk
  clear hk
  generalize s.step x.pure = r at *
  have HSIM := Lib.hid hS
  have HI := Lib.hid hi
  have HRS := Lib.hid hs
  have hol : R.objs.length ≤ 1000 := by rw [hS.olen]; exact Nat.le_trans hi.on hn
  have hul : R.ups.length ≤ 1000 := by rw [hS.ups.len]; exact Nat.le_trans hi.un hn
  clear hS hi hs
  have HF0 := (FR.start h hd ho).toX
  unfold Cl.cells rep0 at HF0
  have HF := Lib.hid HF0
  clear HF0 hd ho h
  unfold Cl.val Cl.cells
  go_enter Tryz.func13, Tryz.ntmps13
  go_upto_region 1 with fail
  generalize ((w.alloc (.cells #[.int .i64 x.kind, .string x.key, .slice x.A x.d.length x.c, .int .i64 x.ver, .int .i64 x.at_, .int .i64 x.n, .int .i64 x.id] 34)).alloc (.cells #[.int .i64 0, .slice none 0 0, .int .i64 0, .int .i64 0, .int .i64 0, .slice none 0 0, .bool false] 43)) = w2 at *
  have HAT : Hid (∀ m, Calls Tryz.prog 23 #[.pointer (some ⟨R.g, 0, none⟩), .string x.key] (w2.drewN m) fun e w'' => e = .returned (.int .i64 (R.idxO x.key)) ∧ ∃ m', w'' = w2.drewN m') := Lib.hid fun m => (at_calls (w2.drewN m) (HF.out.at_.drewN m) (Nat.le_trans hol (by omega)) x.key).mono fun e w'' h => ⟨h.1, m, h.2.symm⟩
  have HOP : Hid (∀ m, Calls Tryz.prog 24 #[.pointer (some ⟨R.g, 0, none⟩), .int .i64 x.id] (w2.drewN m) fun e w'' => e = .returned (.int .i64 (R.idxU x.id)) ∧ ∃ m', w'' = w2.drewN m') := Lib.hid fun m => (open_calls (w2.drewN m) (HF.out.at_.drewN m) (Nat.le_trans hul (by omega)) x.id).mono fun e w'' h => ⟨h.1, m, h.2.symm⟩
  have k1 : w2.cell? ⟨w.heap.size, 1, none⟩ = some (.string x.key) := HF.out.b3.cell 1
  have k6 : w2.cell? ⟨w.heap.size, 6, none⟩ = some (.int .i64 x.id) := HF.out.b3.cell 6
  go_quiet (first | (exact HAT.out _) | (exact HOP.out _))
  clear HAT HOP k1 k6
  have HF1 := Lib.hid (HF.out.drewN nq)
  have HIX := Lib.hid (HSIM.out.idxO HRS.out x.key)
  have HIU := Lib.hid (HSIM.out.idxU HRS.out x.id)
  generalize R.idxO x.key = ix at *
  generalize R.idxU x.id = iu at *
  generalize w2.drewN nq = w1 at *
  have k0 : w1.cell? ⟨w.heap.size, 0, none⟩ = some (.int .i64 x.kind) := HF1.out.b3.cell 0
  have k1 : w1.cell? ⟨w.heap.size, 1, none⟩ = some (.string x.key) := HF1.out.b3.cell 1
  have k2 : w1.cell? ⟨w.heap.size, 2, none⟩ = some (.slice x.A x.d.length x.c) := HF1.out.b3.cell 2
  have k3 : w1.cell? ⟨w.heap.size, 3, none⟩ = some (.int .i64 x.ver) := HF1.out.b3.cell 3
  have k4 : w1.cell? ⟨w.heap.size, 4, none⟩ = some (.int .i64 x.at_) := HF1.out.b3.cell 4
  have k5 : w1.cell? ⟨w.heap.size, 5, none⟩ = some (.int .i64 x.n) := HF1.out.b3.cell 5
  have k6 : w1.cell? ⟨w.heap.size, 6, none⟩ = some (.int .i64 x.id) := HF1.out.b3.cell 6
  have e1 : (x.kind == 1) = ((7 : Int) == 1) := by rw [HK0.out]
  have e2 : (x.kind == 2) = ((7 : Int) == 2) := by rw [HK0.out]
  have e3 : (x.kind == 3) = ((7 : Int) == 3) := by rw [HK0.out]
  have e4 : (x.kind == 4) = ((7 : Int) == 4) := by rw [HK0.out]
  have e5 : (x.kind == 5) = ((7 : Int) == 5) := by rw [HK0.out]
  have e6 : (x.kind == 6) = ((7 : Int) == 6) := by rw [HK0.out]
  have e7 : (x.kind == 7) = ((7 : Int) == 7) := by rw [HK0.out]
  have e8 : (x.kind == 8) = ((7 : Int) == 8) := by rw [HK0.out]
  have e9 : (x.kind == 9) = ((7 : Int) == 9) := by rw [HK0.out]
  have e10 : (x.kind == 10) = ((7 : Int) == 10) := by rw [HK0.out]
  have e11 : (x.kind == 11) = ((7 : Int) == 11) := by rw [HK0.out]
  clear HIX HIU
  have hxk := hx.key
  have HKC := Lib.hid (key_calls w1 x.key hxk)
  rw [keyB_right] at HKC
  go_wp2_with fail
  refine HKC.out.mono ?_
  rintro e w3 ⟨rfl, rfl⟩
  clear HKC
  cases hr : rightB x.key with
  | false =>
    have HRR : Hid (r = (s, bad 1)) := Lib.hid (by rw [HR.out, show pe = 1 by rw [HPE.out, if_pos hr], if_neg (by decide)])
    go_wp2_with fail
    refine (bad_calls w1 1).mono ?_
    rintro e wb ⟨rfl, hbb⟩
    have HXB := Lib.hid (HF1.out.on hbb)
    clear hbb
    unfold errV
    have q0 : wb.cell? ⟨w.heap.size + 1, 0, none⟩ = some (.int .i64 0) := HXB.out.b4.cell 0
    have p0 : wb.frozen? ⟨w.heap.size + 1, 0, none⟩ = false := HXB.out.b4.frozen 0
    have q1 : wb.cell? ⟨w.heap.size + 1, 1, none⟩ = some (.slice none 0 0) := HXB.out.b4.cell 1
    have p1 : wb.frozen? ⟨w.heap.size + 1, 1, none⟩ = false := HXB.out.b4.frozen 1
    have q2 : wb.cell? ⟨w.heap.size + 1, 2, none⟩ = some (.int .i64 0) := HXB.out.b4.cell 2
    have p2 : wb.frozen? ⟨w.heap.size + 1, 2, none⟩ = false := HXB.out.b4.frozen 2
    have q3 : wb.cell? ⟨w.heap.size + 1, 3, none⟩ = some (.int .i64 0) := HXB.out.b4.cell 3
    have p3 : wb.frozen? ⟨w.heap.size + 1, 3, none⟩ = false := HXB.out.b4.frozen 3
    have q4 : wb.cell? ⟨w.heap.size + 1, 4, none⟩ = some (.int .i64 0) := HXB.out.b4.cell 4
    have p4 : wb.frozen? ⟨w.heap.size + 1, 4, none⟩ = false := HXB.out.b4.frozen 4
    have q5 : wb.cell? ⟨w.heap.size + 1, 5, none⟩ = some (.slice none 0 0) := HXB.out.b4.cell 5
    have p5 : wb.frozen? ⟨w.heap.size + 1, 5, none⟩ = false := HXB.out.b4.frozen 5
    have q6 : wb.cell? ⟨w.heap.size + 1, 6, none⟩ = some (.bool false) := HXB.out.b4.cell 6
    have p6 : wb.frozen? ⟨w.heap.size + 1, 6, none⟩ = false := HXB.out.b4.frozen 6
    go_wp2
    obtain ⟨hw, hT, hK⟩ := HXB.out.fin (.int .i64 1) (.slice none 0 0) (.int .i64 0) (.int .i64 0) (.int .i64 0) (.slice none 0 0) (.bool false)
    unfold set7 at hw hT hK
    refine bodyPost_ret (results_cell_row rfl _ _ (w.heap.size + 1) 43 #[(.int .i64 1), (.slice none 0 0), (.int .i64 0), (.int .i64 0), (.int .i64 0), (.slice none 0 0), (.bool false)] (0, 0) _ rfl hw Tryz.underlying43 rfl (by kernel_rfl)) rfl ?_
    exact ⟨_, _, rfl, by rw [HRR.out]; exact rep_plain 1 0 0 0, hT, by rw [HRR.out]; exact HSIM.out⟩
  | true =>
    have z1 : w1.cell? ⟨R.g, 1, none⟩ = some (.slice R.AU R.ups.length R.cU) := HF1.out.at_.blk.cell 1
    by_cases hfull : 512 ≤ R.ups.length
    · have d1 : decide ((512 : Int) ≤ (R.ups.length : Int)) = true := dct (by omega)
      have HRR : Hid (r = (s, bad 9)) := Lib.hid (by rw [HR.out, show pe = 9 by rw [HPE.out, if_neg (by rw [hr]; decide), ← HSIM.out.ups.len, if_pos hfull], if_neg (by decide)])
      clear hfull
      go_wp2_with fail
      refine (bad_calls w1 9).mono ?_
      rintro e wb ⟨rfl, hbb⟩
      have HXB := Lib.hid (HF1.out.on hbb)
      clear hbb
      unfold errV
      have q0 : wb.cell? ⟨w.heap.size + 1, 0, none⟩ = some (.int .i64 0) := HXB.out.b4.cell 0
      have p0 : wb.frozen? ⟨w.heap.size + 1, 0, none⟩ = false := HXB.out.b4.frozen 0
      have q1 : wb.cell? ⟨w.heap.size + 1, 1, none⟩ = some (.slice none 0 0) := HXB.out.b4.cell 1
      have p1 : wb.frozen? ⟨w.heap.size + 1, 1, none⟩ = false := HXB.out.b4.frozen 1
      have q2 : wb.cell? ⟨w.heap.size + 1, 2, none⟩ = some (.int .i64 0) := HXB.out.b4.cell 2
      have p2 : wb.frozen? ⟨w.heap.size + 1, 2, none⟩ = false := HXB.out.b4.frozen 2
      have q3 : wb.cell? ⟨w.heap.size + 1, 3, none⟩ = some (.int .i64 0) := HXB.out.b4.cell 3
      have p3 : wb.frozen? ⟨w.heap.size + 1, 3, none⟩ = false := HXB.out.b4.frozen 3
      have q4 : wb.cell? ⟨w.heap.size + 1, 4, none⟩ = some (.int .i64 0) := HXB.out.b4.cell 4
      have p4 : wb.frozen? ⟨w.heap.size + 1, 4, none⟩ = false := HXB.out.b4.frozen 4
      have q5 : wb.cell? ⟨w.heap.size + 1, 5, none⟩ = some (.slice none 0 0) := HXB.out.b4.cell 5
      have p5 : wb.frozen? ⟨w.heap.size + 1, 5, none⟩ = false := HXB.out.b4.frozen 5
      have q6 : wb.cell? ⟨w.heap.size + 1, 6, none⟩ = some (.bool false) := HXB.out.b4.cell 6
      have p6 : wb.frozen? ⟨w.heap.size + 1, 6, none⟩ = false := HXB.out.b4.frozen 6
      go_wp2
      obtain ⟨hw, hT, hK⟩ := HXB.out.fin (.int .i64 9) (.slice none 0 0) (.int .i64 0) (.int .i64 0) (.int .i64 0) (.slice none 0 0) (.bool false)
      unfold set7 at hw hT hK
      refine bodyPost_ret (results_cell_row rfl _ _ (w.heap.size + 1) 43 #[(.int .i64 9), (.slice none 0 0), (.int .i64 0), (.int .i64 0), (.int .i64 0), (.slice none 0 0), (.bool false)] (0, 0) _ rfl hw Tryz.underlying43 rfl (by kernel_rfl)) rfl ?_
      exact ⟨_, _, rfl, by rw [HRR.out]; exact rep_plain 9 0 0 0, hT, by rw [HRR.out]; exact HSIM.out⟩
    · have d1 : decide ((512 : Int) ≤ (R.ups.length : Int)) = false := dcf (by omega)
      have HRR : Hid (r = ({ s with id := s.id + 1, ups := mput ltI s.ups (s.id + 1) ⟨x.key, s.now, []⟩ }, ⟨0, [], 0, s.now, s.id + 1, [], false⟩)) := Lib.hid (by rw [HR.out, show pe = 0 by rw [HPE.out, if_neg (by rw [hr]; decide), ← HSIM.out.ups.len, if_neg hfull], if_pos rfl])
      have hid0 : 0 ≤ R.id := by rw [HSIM.out.id]; exact HI.out.i0
      have hid1 : R.id ≤ 1000 := by rw [HSIM.out.id]; have := HI.out.i1; omega
      have z3 : w1.cell? ⟨R.g, 3, none⟩ = some (.int .i64 R.id) := HF1.out.at_.blk.cell 3
      have f3 := HF1.out.at_.blk.frozen 3
      have r1 : IntKind.i64.wrap (R.id + 1) = R.id + 1 := by rw [IntKind.wrap_i64]; omega
      clear hfull HR
      go_upto_region 49 with fail
      have HF3 := Lib.hid (HF1.out.go (HF1.out.at_.num_turn (i := 3) (u := .int .i64 (R.id + 1)) (R' := { R with id := R.id + 1 }) rfl rfl rfl rfl rfl rfl))
      clear z1 z3 f3 r1 d1 k0 k1 k2 k3 k4 k5 k6 e1 e2 e3 e4 e5 e6 e7 e8 e9 e10 e11
      generalize w1.setCell ⟨R.g, 3, none⟩ (.int .i64 (R.id + 1)) = w3 at *
      have Hk : Hid (∀ W, Below w3.heap.size w3 W → W.cell? ⟨R.g, 1, none⟩ = some (.slice R.AU R.ups.length R.cU) ∧ W.cell? ⟨R.g, 3, none⟩ = some (.int .i64 (R.id + 1)) ∧ W.cell? ⟨R.g, 4, none⟩ = some (.int .i64 R.now) ∧ W.cell? ⟨w.heap.size, 1, none⟩ = some (.string x.key)) := Lib.hid fun W hW => ⟨(HF3.out.on hW).at_.blk.cell 1, (HF3.out.on hW).at_.blk.cell 3, (HF3.out.on hW).at_.blk.cell 4, (HF3.out.on hW).b3.cell 1⟩
      refine wp_region_T 20 (fun w' => w'.cell? ⟨R.g, 1, none⟩ = some (.slice R.AU R.ups.length R.cU) ∧ w'.cell? ⟨R.g, 3, none⟩ = some (.int .i64 (R.id + 1)) ∧ w'.cell? ⟨R.g, 4, none⟩ = some (.int .i64 R.now) ∧ w'.cell? ⟨w.heap.size, 1, none⟩ = some (.string x.key)) (by kernel_rfl) (Hk.out _ (below_drewN_ (Below.refl _ _) 1)) (fun hHeld => ?_)
      have HW0 : Hid (Below w3.heap.size w3 w3.drew) := Lib.hid (below_drewN_ (Below.refl _ _) 1)
      generalize w3.drew = wd at *
      refine wpAnyT_take (i := 0) (oi := _) (v := ?_) rfl (by kernel_rfl) (fun _ _ _ h => h) (Or.inl ⟨by kernel_rfl, ?_⟩) (by assumption) ?_; rotate_left; (focus (intro w hSw; (try dsimp only at hSw); go_simp; (try with_reducible rfl))); (try simp only [Act.put, List.getElem_toArray, List.getElem_cons_zero, List.setIfInBounds_toArray, List.set_cons_zero, List.set_cons_succ])
      refine wpAnyT_take (i := 1) (oi := _) (v := ?_) rfl (by kernel_rfl) (fun _ _ _ h => h) (Or.inl ⟨by kernel_rfl, ?_⟩) (by assumption) ?_; rotate_left; (focus (intro w hSw; (try dsimp only at hSw); go_simp; (try with_reducible rfl))); (try simp only [Act.put, List.getElem_toArray, List.getElem_cons_zero, List.getElem_cons_succ, List.setIfInBounds_toArray, List.set_cons_zero, List.set_cons_succ])
      refine wpAnyT_take (i := 2) (oi := _) (v := ?_) rfl (by kernel_rfl) (fun _ _ _ h => h) (Or.inl ⟨by kernel_rfl, ?_⟩) (by assumption) ?_; rotate_left; (focus (intro w hSw; (try dsimp only at hSw); go_simp; (try with_reducible rfl))); (try simp only [Act.put, List.getElem_toArray, List.getElem_cons_zero, List.getElem_cons_succ, List.setIfInBounds_toArray, List.set_cons_zero, List.set_cons_succ])
      refine wpAnyT_take (i := 3) (oi := _) (v := ?_) rfl (by kernel_rfl) (fun _ _ _ h => h) (Or.inl ⟨by kernel_rfl, ?_⟩) (by assumption) ?_; rotate_left; (focus (intro w hSw; (try dsimp only at hSw); go_simp; (try with_reducible rfl))); (try simp only [Act.put, List.getElem_toArray, List.getElem_cons_zero, List.getElem_cons_succ, List.setIfInBounds_toArray, List.set_cons_zero, List.set_cons_succ])
      refine wpAnyT_take (i := 4) (oi := _) (v := ?_) rfl (by kernel_rfl) (fun _ _ _ h => h) (Or.inl ⟨by kernel_rfl, ?_⟩) (by assumption) ?_; rotate_left; (focus (intro w hSw; (try dsimp only at hSw); go_simp; (try with_reducible rfl))); (try simp only [Act.put, List.getElem_toArray, List.getElem_cons_zero, List.getElem_cons_succ, List.setIfInBounds_toArray, List.set_cons_zero, List.set_cons_succ])
      refine wpAnyT_take (i := 5) (oi := _) (v := ?_) rfl (by kernel_rfl) (fun _ _ _ h => h) (Or.inl ⟨by kernel_rfl, ?_⟩) (by assumption) ?_; rotate_left; (focus (intro w hSw; (try dsimp only at hSw); go_simp; (try with_reducible rfl))); (try simp only [Act.put, List.getElem_toArray, List.getElem_cons_zero, List.getElem_cons_succ, List.setIfInBounds_toArray, List.set_cons_zero, List.set_cons_succ])
      refine wpAnyT_take (i := 6) (oi := _) (v := ?_) rfl (by kernel_rfl) (fun _ _ _ h => h) (Or.inl ⟨by kernel_rfl, ?_⟩) (by assumption) ?_; rotate_left; (focus (intro w hSw; (try dsimp only at hSw); go_simp; (try with_reducible rfl))); (try simp only [Act.put, List.getElem_toArray, List.getElem_cons_zero, List.getElem_cons_succ, List.setIfInBounds_toArray, List.set_cons_zero, List.set_cons_succ])
      refine wpAnyT_take (i := 7) (oi := _) (v := ?_) rfl (by kernel_rfl) (fun _ _ _ h => h) (Or.inl ⟨by kernel_rfl, ?_⟩) (by assumption) ?_; rotate_left; (focus (intro w hSw; (try dsimp only at hSw); go_simp; (try with_reducible rfl))); (try simp only [Act.put, List.getElem_toArray, List.getElem_cons_zero, List.getElem_cons_succ, List.setIfInBounds_toArray, List.set_cons_zero, List.set_cons_succ])
      refine wpAnyT_take (i := 8) (oi := _) (v := ?_) rfl (by kernel_rfl) (fun _ _ _ h => h) (Or.inl ⟨by kernel_rfl, ?_⟩) (by assumption) ?_; rotate_left; (focus (intro w hSw; (try dsimp only at hSw); go_simp; (try with_reducible rfl))); (try simp only [Act.put, List.getElem_toArray, List.getElem_cons_zero, List.getElem_cons_succ, List.setIfInBounds_toArray, List.set_cons_zero, List.set_cons_succ])
      refine wpAnyT_take (i := 9) (oi := _) (v := ?_) rfl (by kernel_rfl) (fun _ _ _ h => h) (Or.inl ⟨by kernel_rfl, ?_⟩) (by assumption) ?_; rotate_left; (focus (intro w hSw; (try dsimp only at hSw); go_simp; (try with_reducible rfl))); (try simp only [Act.put, List.getElem_toArray, List.getElem_cons_zero, List.getElem_cons_succ, List.setIfInBounds_toArray, List.set_cons_zero, List.set_cons_succ])
      refine wpAnyT_take (i := 10) (oi := _) (v := ?_) rfl (by kernel_rfl) (fun _ _ _ h => h) (Or.inl ⟨by kernel_rfl, ?_⟩) (by assumption) ?_; rotate_left; (focus (intro w hSw; (try dsimp only at hSw); go_simp; (try with_reducible rfl))); (try simp only [Act.put, List.getElem_toArray, List.getElem_cons_zero, List.getElem_cons_succ, List.setIfInBounds_toArray, List.set_cons_zero, List.set_cons_succ])
      refine wpAnyT_take (i := 11) (oi := _) (v := ?_) rfl (by kernel_rfl) (fun _ _ _ h => h) (Or.inl ⟨by kernel_rfl, ?_⟩) (by assumption) ?_; rotate_left; (focus (intro w hSw; (try dsimp only at hSw); go_simp; (try with_reducible rfl))); (try simp only [Act.put, List.getElem_toArray, List.getElem_cons_zero, List.getElem_cons_succ, List.setIfInBounds_toArray, List.set_cons_zero, List.set_cons_succ])
      refine wpAnyT_take (i := 12) (oi := _) (v := ?_) rfl (by kernel_rfl) (fun _ _ _ h => h) (Or.inl ⟨by kernel_rfl, ?_⟩) (by assumption) ?_; rotate_left; (focus (intro w hSw; (try dsimp only at hSw); go_simp; (try with_reducible rfl))); (try simp only [Act.put, List.getElem_toArray, List.getElem_cons_zero, List.getElem_cons_succ, List.setIfInBounds_toArray, List.set_cons_zero, List.set_cons_succ])
      refine wpAnyT_take (i := 13) (oi := _) (v := ?_) rfl (by kernel_rfl) (fun _ _ _ h => h) (Or.inl ⟨by kernel_rfl, ?_⟩) (by assumption) ?_; rotate_left; (focus (intro w hSw; (try dsimp only at hSw); go_simp; (try with_reducible rfl))); (try simp only [Act.put, List.getElem_toArray, List.getElem_cons_zero, List.getElem_cons_succ, List.setIfInBounds_toArray, List.set_cons_zero, List.set_cons_succ])
      refine wpAnyT_take (i := 14) (oi := _) (v := ?_) rfl (by kernel_rfl) (fun _ _ _ h => h) (Or.inl ⟨by kernel_rfl, ?_⟩) (by assumption) ?_; rotate_left; (focus (intro w hSw; (try dsimp only at hSw); go_simp; (try with_reducible rfl))); (try simp only [Act.put, List.getElem_toArray, List.getElem_cons_zero, List.getElem_cons_succ, List.setIfInBounds_toArray, List.set_cons_zero, List.set_cons_succ])
      refine wpAnyT_take (i := 15) (oi := _) (v := ?_) rfl (by kernel_rfl) (fun _ _ _ h => h) (Or.inl ⟨by kernel_rfl, ?_⟩) (by assumption) ?_; rotate_left; (focus (intro w hSw; (try dsimp only at hSw); go_simp; (try with_reducible rfl))); (try simp only [Act.put, List.getElem_toArray, List.getElem_cons_zero, List.getElem_cons_succ, List.setIfInBounds_toArray, List.set_cons_zero, List.set_cons_succ])
      refine wpAnyT_one (i := 16) (by kernel_rfl) rfl (fun K hK => ?_); go_simp
      have HW1 := Lib.hid (HW0.out.alloc HW0.out.size (.cells #[.int .i64 (R.id + 1), .int .i64 R.now, .string x.key, .slice none 0 0] 74))
      have HM1 : Hid (Reads (wd.alloc (.cells #[.int .i64 (R.id + 1), .int .i64 R.now, .string x.key, .slice none 0 0] 74)) (wd.heap.size + 1) 4 (some ⟨wd.heap.size, 0, none⟩) 1 [.int .i64 (R.id + 1), .int .i64 R.now, .string x.key, .slice none 0 0]) := Lib.hid (Reads.made (n := 1) (size := 4) wd _ _ rfl)
      have HF4 := Lib.hid (HF3.out.on HW1.out)
      have hH1 := Hk.out _ HW1.out
      have HU7 : Hid (∀ v ∈ [.int .i64 (R.id + 1), .int .i64 R.now, .string x.key, .slice none 0 0], Value.oneCell' v = true) := Lib.hid (u_one' (ru7 (R.id + 1) R.now x.key))
      refine hK.out _ _ (fun _ => hH1) ?_
      clear hK K hHeld
      (try simp only [Act.put, List.getElem_toArray, List.getElem_cons_zero, List.getElem_cons_succ, List.setIfInBounds_toArray, List.set_cons_zero, List.set_cons_succ])
      generalize wd.alloc (.cells #[.int .i64 (R.id + 1), .int .i64 R.now, .string x.key, .slice none 0 0] 74) = w4 at *
      have hru : w4.ownsRow base 74 4 R.uV R.ups.length (uCells R.ups) := HF4.out.at_.ru
      have hbw4 := HF4.out.at_.bw
      have HRO := Lib.hid hru
      unfold RS.uV at HRO
      clear hru
      refine wpAnyT_one (i := 17) (by kernel_rfl) rfl (fun K hK => ?_)
      refine step_append_sl _ rfl (.tmp 274) (.tmp 286) _ rfl base 74 _ 4 56 Tryz.underlying27 Tryz.infoU rfl (by omega) _ _ _ rfl HRO.out _ _ 1 1 _ rfl HM1.out HU7.out (by unfold maxLen; omega) (by omega) hbw4 ?_
      intro A5 c5 w5 hc51 hc52 hrd5 hbel5 hown5 hgr5 hor5
      have hK5 : Keep R.foot w4 w5 := Keep.of_grown hgr5 fun i hi => .inr (.inr hi.symm)
      have hgb := HF4.out.at_.gb
      have hB5 := HF4.out.at_.blk.below hbel5 hgb
      have hC5 := hK5.blk HF4.out.b3 (fun hf => by have := HF4.out.fr.foot _ hf; omega)
      have hH5 : w5.cell? ⟨R.g, 1, none⟩ = some (.slice R.AU R.ups.length R.cU) ∧ w5.cell? ⟨R.g, 3, none⟩ = some (.int .i64 (R.id + 1)) ∧ w5.cell? ⟨R.g, 4, none⟩ = some (.int .i64 R.now) ∧ w5.cell? ⟨w.heap.size, 1, none⟩ = some (.string x.key) := ⟨hB5.cell 1, hB5.cell 3, hB5.cell 4, hC5.cell 1⟩
      have f5 := hB5.frozen 1
      have hT5 := HF4.out.at_.snocU (u := ⟨R.id + 1, R.now, x.key, none, 0, []⟩) hbel5 hgr5 hown5 (hor5.imp id fun h => ⟨_, h, Nat.le_refl _⟩) (ru7_ru _ _ _)
      have HF6 := Lib.hid (HF4.out.go (R'' := { R with id := R.id + 1, ups := R.ups ++ [⟨R.id + 1, R.now, x.key, none, 0, []⟩], AU := A5, cU := c5 }) ⟨hT5.1, hT5.2.1, hT5.2.2, fun b hb => .inl (by
        rcases hb with hb | ⟨u, hu, hb⟩
        · exact .inl hb
        · rcases List.mem_append.1 hu with h1 | h1
          · exact .inr ⟨u, h1, hb⟩
          · rw [List.mem_singleton.1 h1] at hb
            rcases hb with ⟨h2, -⟩ | ⟨p, hp, -⟩
            · exact absurd h2 (by show ¬ 0 < 0; omega)
            · cases hp), rfl⟩)
      refine hK.out _ _ (fun _ => hH5) ?_
      clear hK K hc51 hc52 hrd5 hbel5 hown5 hgr5 hor5 hK5 hB5 hC5 hT5 hH1
      (try simp only [Act.put, List.getElem_toArray, List.getElem_cons_zero, List.getElem_cons_succ, List.setIfInBounds_toArray, List.set_cons_zero, List.set_cons_succ])
      refine wpAnyT_one (i := 18) (by kernel_rfl) rfl (fun K hK => ?_); go_simp; refine hK.out _ _ (fun _ => hH5) ?_; clear hK K; (try simp only [Act.put, List.getElem_toArray, List.getElem_cons_zero, List.getElem_cons_succ, List.setIfInBounds_toArray, List.set_cons_zero, List.set_cons_succ])
      refine wpAnyT_one (i := 19) (by kernel_rfl) rfl (fun K hK => ?_); go_simp; refine hK.out _ _ (fun _ => hH5) ?_; clear hK K; (try simp only [Act.put, List.getElem_toArray, List.getElem_cons_zero, List.getElem_cons_succ, List.setIfInBounds_toArray, List.set_cons_zero, List.set_cons_succ])
      refine wpAnyT_one (i := 20) (by kernel_rfl) rfl (fun K hK => ?_); go_simp
      refine hK.out _ _ (fun h => absurd rfl h) (wpAnyT_done (by kernel_rfl) ?_ _)
      clear hK K
      go_upto_region 50 with fail
      clear hH5 f5 HF4 HM1 HW1 HW0 HF3 HRO HU7 Hk
      generalize w5.setCell ⟨R.g, 1, none⟩ (.slice A5 (R.ups.length + 1) c5) = w6 at *
      have z3 : w6.cell? ⟨R.g, 3, none⟩ = some (.int .i64 (R.id + 1)) := HF6.out.at_.blk.cell 3
      have z4 : w6.cell? ⟨R.g, 4, none⟩ = some (.int .i64 R.now) := HF6.out.at_.blk.cell 4
      go_still_tail 9, (by kernel_rfl)
      show wpList _ _ _ _ _ w6.drew
      have HF7 := Lib.hid (HF6.out.drewN 1)
      have e7 : w6.drewN 1 = w6.drew := rfl
      rw [e7] at HF7
      clear HF6 z3 z4 e7
      generalize w6.drew = w7 at *
      have HSI := Lib.hid (HSIM.out.create HI.out.ui x.key A5 c5)
      have HVN := Lib.hid (And.intro HSIM.out.id HSIM.out.now)
      have q0 : w7.cell? ⟨w.heap.size + 1, 0, none⟩ = some (.int .i64 0) := HF7.out.b4.cell 0
      have p0 : w7.frozen? ⟨w.heap.size + 1, 0, none⟩ = false := HF7.out.b4.frozen 0
      have q1 : w7.cell? ⟨w.heap.size + 1, 1, none⟩ = some (.slice none 0 0) := HF7.out.b4.cell 1
      have p1 : w7.frozen? ⟨w.heap.size + 1, 1, none⟩ = false := HF7.out.b4.frozen 1
      have q2 : w7.cell? ⟨w.heap.size + 1, 2, none⟩ = some (.int .i64 0) := HF7.out.b4.cell 2
      have p2 : w7.frozen? ⟨w.heap.size + 1, 2, none⟩ = false := HF7.out.b4.frozen 2
      have q3 : w7.cell? ⟨w.heap.size + 1, 3, none⟩ = some (.int .i64 0) := HF7.out.b4.cell 3
      have p3 : w7.frozen? ⟨w.heap.size + 1, 3, none⟩ = false := HF7.out.b4.frozen 3
      have q4 : w7.cell? ⟨w.heap.size + 1, 4, none⟩ = some (.int .i64 0) := HF7.out.b4.cell 4
      have p4 : w7.frozen? ⟨w.heap.size + 1, 4, none⟩ = false := HF7.out.b4.frozen 4
      have q5 : w7.cell? ⟨w.heap.size + 1, 5, none⟩ = some (.slice none 0 0) := HF7.out.b4.cell 5
      have p5 : w7.frozen? ⟨w.heap.size + 1, 5, none⟩ = false := HF7.out.b4.frozen 5
      have q6 : w7.cell? ⟨w.heap.size + 1, 6, none⟩ = some (.bool false) := HF7.out.b4.cell 6
      have p6 : w7.frozen? ⟨w.heap.size + 1, 6, none⟩ = false := HF7.out.b4.frozen 6
      go_wp2
      obtain ⟨hw, hT, hK⟩ := HF7.out.fin (.int .i64 0) (.slice none 0 0) (.int .i64 0) (.int .i64 R.now) (.int .i64 (R.id + 1)) (.slice none 0 0) (.bool false)
      unfold set7 at hw hT hK
      refine bodyPost_ret (results_cell_row rfl _ _ (w.heap.size + 1) 43 #[(.int .i64 0), (.slice none 0 0), (.int .i64 0), (.int .i64 R.now), (.int .i64 (R.id + 1)), (.slice none 0 0), (.bool false)] (0, 0) _ rfl hw Tryz.underlying43 rfl (by kernel_rfl)) rfl ?_
      refine ⟨_, _, rfl, ?_, hT, by rw [HRR.out]; exact HSI.out⟩
      rw [HRR.out]
      show RepAt _ _ _ ⟨0, [], 0, s.now, s.id + 1, [], false⟩
      rw [HVN.out.1, HVN.out.2]
      exact rep_plain 0 0 s.now (s.id + 1)
end Rf
end Go.Proofs.YtlljpjehalodfaaGreat
