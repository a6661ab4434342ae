/- The document's store: a call (chapter 14): the uploads' kinds, and what is no kind. -/
import Derived.Test.YtlljpjehalodfaaGreatProg
import Derived.Test.YtlljpjehalodfaaGreatPlI
import Derived.BigQuiet
namespace Go.Proofs.YtlljpjehalodfaaGreat
open Go.RowKit
namespace Rf
open St

def DoR (w : World) (base : Nat) (R : RS) (s : PS) (x : Cl) : Prop :=
  Calls Tryz.prog 13 #[.pointer (some ⟨R.g, 0, none⟩), x.val] w (RetR w base R (s.step x.pure).1 (s.step x.pure).2)
set_option maxRecDepth 100000 in
set_option maxHeartbeats 16000000 in
theorem doR_none (w : World) {base n : Nat} {R : RS} {s : PS} {x : Cl} (h : RAt w base R) (hS : Sim R s) (hi : PInv s n) (hs : PSrt s) (hn : n ≤ 1000) (hd : Bytes w w.heap.size x.A x.d.length x.d) (ho : Out R x.A x.d.length) (hx : ClOk x)
    (hk : ¬ (1 ≤ x.kind ∧ x.kind ≤ 11)) : DoR w base R s x := by
  unfold DoR
  have HR : Hid (s.step x.pure = (s, bad 1)) := Lib.hid (by
    have e : x.pure.kind = x.kind := rfl
    rw [kind_step, e]
    rw [if_neg (by omega), if_neg (by omega), if_neg (by omega), if_neg (by omega), if_neg (by omega), if_neg (by omega), if_neg (by omega)])
  generalize s.step x.pure = r at *
  have HSIM := Lib.hid hS
  have HI := Lib.hid hi
  have HRS := Lib.hid hs
  have hol : R.objs.length ≤ 1000 := by rw [hS.olen]; exact Nat.le_trans hi.on hn
  have hul : R.ups.length ≤ 1000 := by rw [hS.ups.len]; exact Nat.le_trans hi.un hn
  clear hS hi hs
  have HF0 := (FR.start h hd ho).toX
  unfold Cl.cells rep0 at HF0
  have HF := Lib.hid HF0
  clear HF0 hd ho h
  unfold Cl.val Cl.cells
  go_enter Tryz.func13, Tryz.ntmps13
  go_upto_region 1 with fail
  generalize ((w.alloc (.cells #[.int .i64 x.kind, .string x.key, .slice x.A x.d.length x.c, .int .i64 x.ver, .int .i64 x.at_, .int .i64 x.n, .int .i64 x.id] 34)).alloc (.cells #[.int .i64 0, .slice none 0 0, .int .i64 0, .int .i64 0, .int .i64 0, .slice none 0 0, .bool false] 43)) = w2 at *
  have HAT : Hid (∀ m, Calls Tryz.prog 23 #[.pointer (some ⟨R.g, 0, none⟩), .string x.key] (w2.drewN m) fun e w'' => e = .returned (.int .i64 (R.idxO x.key)) ∧ ∃ m', w'' = w2.drewN m') := Lib.hid fun m => (at_calls (w2.drewN m) (HF.out.at_.drewN m) (Nat.le_trans hol (by omega)) x.key).mono fun e w'' h => ⟨h.1, m, h.2.symm⟩
  have HOP : Hid (∀ m, Calls Tryz.prog 24 #[.pointer (some ⟨R.g, 0, none⟩), .int .i64 x.id] (w2.drewN m) fun e w'' => e = .returned (.int .i64 (R.idxU x.id)) ∧ ∃ m', w'' = w2.drewN m') := Lib.hid fun m => (open_calls (w2.drewN m) (HF.out.at_.drewN m) (Nat.le_trans hul (by omega)) x.id).mono fun e w'' h => ⟨h.1, m, h.2.symm⟩
  have k1 : w2.cell? ⟨w.heap.size, 1, none⟩ = some (.string x.key) := HF.out.b3.cell 1
  have k6 : w2.cell? ⟨w.heap.size, 6, none⟩ = some (.int .i64 x.id) := HF.out.b3.cell 6
  go_quiet (first | (exact HAT.out _) | (exact HOP.out _))
  clear HAT HOP k1 k6
  have HF1 := Lib.hid (HF.out.drewN nq)
  have HIX := Lib.hid (HSIM.out.idxO HRS.out x.key)
  have HIU := Lib.hid (HSIM.out.idxU HRS.out x.id)
  generalize R.idxO x.key = ix at *
  generalize R.idxU x.id = iu at *
  generalize w2.drewN nq = w1 at *
  have k0 : w1.cell? ⟨w.heap.size, 0, none⟩ = some (.int .i64 x.kind) := HF1.out.b3.cell 0
  have k1 : w1.cell? ⟨w.heap.size, 1, none⟩ = some (.string x.key) := HF1.out.b3.cell 1
  have k2 : w1.cell? ⟨w.heap.size, 2, none⟩ = some (.slice x.A x.d.length x.c) := HF1.out.b3.cell 2
  have k3 : w1.cell? ⟨w.heap.size, 3, none⟩ = some (.int .i64 x.ver) := HF1.out.b3.cell 3
  have k4 : w1.cell? ⟨w.heap.size, 4, none⟩ = some (.int .i64 x.at_) := HF1.out.b3.cell 4
  have k5 : w1.cell? ⟨w.heap.size, 5, none⟩ = some (.int .i64 x.n) := HF1.out.b3.cell 5
  have k6 : w1.cell? ⟨w.heap.size, 6, none⟩ = some (.int .i64 x.id) := HF1.out.b3.cell 6
  have e1 : (x.kind == 1) = false := eqf (by omega)
  have e2 : (x.kind == 2) = false := eqf (by omega)
  have e3 : (x.kind == 3) = false := eqf (by omega)
  have e4 : (x.kind == 4) = false := eqf (by omega)
  have e5 : (x.kind == 5) = false := eqf (by omega)
  have e6 : (x.kind == 6) = false := eqf (by omega)
  have e7 : (x.kind == 7) = false := eqf (by omega)
  have e8 : (x.kind == 8) = false := eqf (by omega)
  have e9 : (x.kind == 9) = false := eqf (by omega)
  have e10 : (x.kind == 10) = false := eqf (by omega)
  have e11 : (x.kind == 11) = false := eqf (by omega)
  clear hk
  have HRR := HR
  go_wp2_with fail
  refine (bad_calls w1 1).mono ?_
  rintro e wb ⟨rfl, hbb⟩
  have HXB := Lib.hid (HF1.out.on hbb)
  clear hbb
  unfold errV
  have q0 : wb.cell? ⟨w.heap.size + 1, 0, none⟩ = some (.int .i64 0) := HXB.out.b4.cell 0
  have p0 : wb.frozen? ⟨w.heap.size + 1, 0, none⟩ = false := HXB.out.b4.frozen 0
  have q1 : wb.cell? ⟨w.heap.size + 1, 1, none⟩ = some (.slice none 0 0) := HXB.out.b4.cell 1
  have p1 : wb.frozen? ⟨w.heap.size + 1, 1, none⟩ = false := HXB.out.b4.frozen 1
  have q2 : wb.cell? ⟨w.heap.size + 1, 2, none⟩ = some (.int .i64 0) := HXB.out.b4.cell 2
  have p2 : wb.frozen? ⟨w.heap.size + 1, 2, none⟩ = false := HXB.out.b4.frozen 2
  have q3 : wb.cell? ⟨w.heap.size + 1, 3, none⟩ = some (.int .i64 0) := HXB.out.b4.cell 3
  have p3 : wb.frozen? ⟨w.heap.size + 1, 3, none⟩ = false := HXB.out.b4.frozen 3
  have q4 : wb.cell? ⟨w.heap.size + 1, 4, none⟩ = some (.int .i64 0) := HXB.out.b4.cell 4
  have p4 : wb.frozen? ⟨w.heap.size + 1, 4, none⟩ = false := HXB.out.b4.frozen 4
  have q5 : wb.cell? ⟨w.heap.size + 1, 5, none⟩ = some (.slice none 0 0) := HXB.out.b4.cell 5
  have p5 : wb.frozen? ⟨w.heap.size + 1, 5, none⟩ = false := HXB.out.b4.frozen 5
  have q6 : wb.cell? ⟨w.heap.size + 1, 6, none⟩ = some (.bool false) := HXB.out.b4.cell 6
  have p6 : wb.frozen? ⟨w.heap.size + 1, 6, none⟩ = false := HXB.out.b4.frozen 6
  go_wp2
  obtain ⟨hw, hT, hK⟩ := HXB.out.fin (.int .i64 1) (.slice none 0 0) (.int .i64 0) (.int .i64 0) (.int .i64 0) (.slice none 0 0) (.bool false)
  unfold set7 at hw hT hK
  refine bodyPost_ret (results_cell_row rfl _ _ (w.heap.size + 1) 43 #[(.int .i64 1), (.slice none 0 0), (.int .i64 0), (.int .i64 0), (.int .i64 0), (.slice none 0 0), (.bool false)] (0, 0) _ rfl hw Tryz.underlying43 rfl (by kernel_rfl)) rfl ?_
  exact ⟨_, _, rfl, by rw [HRR.out]; exact rep_plain 1 0 0 0, hT, by rw [HRR.out]; exact HSIM.out⟩
set_option maxRecDepth 100000 in
set_option maxHeartbeats 16000000 in
theorem doR_10 (w : World) {base n : Nat} {R : RS} {s : PS} {x : Cl} (h : RAt w base R) (hS : Sim R s) (hi : PInv s n) (hs : PSrt s) (hn : n ≤ 1000) (hd : Bytes w w.heap.size x.A x.d.length x.d) (ho : Out R x.A x.d.length) (hx : ClOk x)
    (hk : x.kind = 10) : DoR w base R s x := by
  unfold DoR
  have hu0 : s.step x.pure = s.upload x.pure := by
    have e : x.pure.kind = x.kind := rfl
    rw [kind_step, e]
    rw [if_neg (by omega), if_neg (by omega), if_neg (by omega), if_neg (by omega), if_neg (by omega), if_neg (by omega), if_pos (by omega)]
  have hu1 : s.upload x.pure = match mget s.ups x.id with | none => (s, bad 7) | some u => if x.kind = 8 then s.part u x.pure else if x.kind = 9 then s.complete u x.pure else (s.closed x.id u, bad 0) := rfl
  have HR := Lib.hid (hu0.trans hu1)
  clear hu0 hu1
  have HK0 := Lib.hid hk
  clear hk
  generalize s.step x.pure = r at *
  have HSIM := Lib.hid hS
  have HI := Lib.hid hi
  have HRS := Lib.hid hs
  have hol : R.objs.length ≤ 1000 := by rw [hS.olen]; exact Nat.le_trans hi.on hn
  have hul : R.ups.length ≤ 1000 := by rw [hS.ups.len]; exact Nat.le_trans hi.un hn
  clear hS hi hs
  have HF0 := (FR.start h hd ho).toX
  unfold Cl.cells rep0 at HF0
  have HF := Lib.hid HF0
  clear HF0 hd ho h
  unfold Cl.val Cl.cells
  go_enter Tryz.func13, Tryz.ntmps13
  go_upto_region 1 with fail
  generalize ((w.alloc (.cells #[.int .i64 x.kind, .string x.key, .slice x.A x.d.length x.c, .int .i64 x.ver, .int .i64 x.at_, .int .i64 x.n, .int .i64 x.id] 34)).alloc (.cells #[.int .i64 0, .slice none 0 0, .int .i64 0, .int .i64 0, .int .i64 0, .slice none 0 0, .bool false] 43)) = w2 at *
  have HAT : Hid (∀ m, Calls Tryz.prog 23 #[.pointer (some ⟨R.g, 0, none⟩), .string x.key] (w2.drewN m) fun e w'' => e = .returned (.int .i64 (R.idxO x.key)) ∧ ∃ m', w'' = w2.drewN m') := Lib.hid fun m => (at_calls (w2.drewN m) (HF.out.at_.drewN m) (Nat.le_trans hol (by omega)) x.key).mono fun e w'' h => ⟨h.1, m, h.2.symm⟩
  have HOP : Hid (∀ m, Calls Tryz.prog 24 #[.pointer (some ⟨R.g, 0, none⟩), .int .i64 x.id] (w2.drewN m) fun e w'' => e = .returned (.int .i64 (R.idxU x.id)) ∧ ∃ m', w'' = w2.drewN m') := Lib.hid fun m => (open_calls (w2.drewN m) (HF.out.at_.drewN m) (Nat.le_trans hul (by omega)) x.id).mono fun e w'' h => ⟨h.1, m, h.2.symm⟩
  have k1 : w2.cell? ⟨w.heap.size, 1, none⟩ = some (.string x.key) := HF.out.b3.cell 1
  have k6 : w2.cell? ⟨w.heap.size, 6, none⟩ = some (.int .i64 x.id) := HF.out.b3.cell 6
  go_quiet (first | (exact HAT.out _) | (exact HOP.out _))
  clear HAT HOP k1 k6
  have HF1 := Lib.hid (HF.out.drewN nq)
  have HIX := Lib.hid (HSIM.out.idxO HRS.out x.key)
  have HIU := Lib.hid (HSIM.out.idxU HRS.out x.id)
  generalize R.idxO x.key = ix at *
  generalize R.idxU x.id = iu at *
  generalize w2.drewN nq = w1 at *
  have k0 : w1.cell? ⟨w.heap.size, 0, none⟩ = some (.int .i64 x.kind) := HF1.out.b3.cell 0
  have k1 : w1.cell? ⟨w.heap.size, 1, none⟩ = some (.string x.key) := HF1.out.b3.cell 1
  have k2 : w1.cell? ⟨w.heap.size, 2, none⟩ = some (.slice x.A x.d.length x.c) := HF1.out.b3.cell 2
  have k3 : w1.cell? ⟨w.heap.size, 3, none⟩ = some (.int .i64 x.ver) := HF1.out.b3.cell 3
  have k4 : w1.cell? ⟨w.heap.size, 4, none⟩ = some (.int .i64 x.at_) := HF1.out.b3.cell 4
  have k5 : w1.cell? ⟨w.heap.size, 5, none⟩ = some (.int .i64 x.n) := HF1.out.b3.cell 5
  have k6 : w1.cell? ⟨w.heap.size, 6, none⟩ = some (.int .i64 x.id) := HF1.out.b3.cell 6
  have e1 : (x.kind == 1) = ((10 : Int) == 1) := by rw [HK0.out]
  have e2 : (x.kind == 2) = ((10 : Int) == 2) := by rw [HK0.out]
  have e3 : (x.kind == 3) = ((10 : Int) == 3) := by rw [HK0.out]
  have e4 : (x.kind == 4) = ((10 : Int) == 4) := by rw [HK0.out]
  have e5 : (x.kind == 5) = ((10 : Int) == 5) := by rw [HK0.out]
  have e6 : (x.kind == 6) = ((10 : Int) == 6) := by rw [HK0.out]
  have e7 : (x.kind == 7) = ((10 : Int) == 7) := by rw [HK0.out]
  have e8 : (x.kind == 8) = ((10 : Int) == 8) := by rw [HK0.out]
  have e9 : (x.kind == 9) = ((10 : Int) == 9) := by rw [HK0.out]
  have e10 : (x.kind == 10) = ((10 : Int) == 10) := by rw [HK0.out]
  have e11 : (x.kind == 11) = ((10 : Int) == 11) := by rw [HK0.out]
  rcases HIU.out with ⟨rfl, hm⟩ | ⟨i, pu, hir, rfl, hm, -, his, hiu⟩
  · have d1 : decide ((-1 : Int) < 0) = true := by decide
    have HRR : Hid (r = (s, bad 7)) := Lib.hid (by rw [HR.out, hm])
    clear hm HIU
    go_wp2_with fail
    refine (bad_calls w1 7).mono ?_
    rintro e wb ⟨rfl, hbb⟩
    have HXB := Lib.hid (HF1.out.on hbb)
    clear hbb
    unfold errV
    have q0 : wb.cell? ⟨w.heap.size + 1, 0, none⟩ = some (.int .i64 0) := HXB.out.b4.cell 0
    have p0 : wb.frozen? ⟨w.heap.size + 1, 0, none⟩ = false := HXB.out.b4.frozen 0
    have q1 : wb.cell? ⟨w.heap.size + 1, 1, none⟩ = some (.slice none 0 0) := HXB.out.b4.cell 1
    have p1 : wb.frozen? ⟨w.heap.size + 1, 1, none⟩ = false := HXB.out.b4.frozen 1
    have q2 : wb.cell? ⟨w.heap.size + 1, 2, none⟩ = some (.int .i64 0) := HXB.out.b4.cell 2
    have p2 : wb.frozen? ⟨w.heap.size + 1, 2, none⟩ = false := HXB.out.b4.frozen 2
    have q3 : wb.cell? ⟨w.heap.size + 1, 3, none⟩ = some (.int .i64 0) := HXB.out.b4.cell 3
    have p3 : wb.frozen? ⟨w.heap.size + 1, 3, none⟩ = false := HXB.out.b4.frozen 3
    have q4 : wb.cell? ⟨w.heap.size + 1, 4, none⟩ = some (.int .i64 0) := HXB.out.b4.cell 4
    have p4 : wb.frozen? ⟨w.heap.size + 1, 4, none⟩ = false := HXB.out.b4.frozen 4
    have q5 : wb.cell? ⟨w.heap.size + 1, 5, none⟩ = some (.slice none 0 0) := HXB.out.b4.cell 5
    have p5 : wb.frozen? ⟨w.heap.size + 1, 5, none⟩ = false := HXB.out.b4.frozen 5
    have q6 : wb.cell? ⟨w.heap.size + 1, 6, none⟩ = some (.bool false) := HXB.out.b4.cell 6
    have p6 : wb.frozen? ⟨w.heap.size + 1, 6, none⟩ = false := HXB.out.b4.frozen 6
    go_wp2
    obtain ⟨hw, hT, hK⟩ := HXB.out.fin (.int .i64 7) (.slice none 0 0) (.int .i64 0) (.int .i64 0) (.int .i64 0) (.slice none 0 0) (.bool false)
    unfold set7 at hw hT hK
    refine bodyPost_ret (results_cell_row rfl _ _ (w.heap.size + 1) 43 #[(.int .i64 7), (.slice none 0 0), (.int .i64 0), (.int .i64 0), (.int .i64 0), (.slice none 0 0), (.bool false)] (0, 0) _ rfl hw Tryz.underlying43 rfl (by kernel_rfl)) rfl ?_
    exact ⟨_, _, rfl, by rw [HRR.out]; exact rep_plain 7 0 0 0, hT, by rw [HRR.out]; exact HSIM.out⟩
  · have d1 : decide ((i : Int) < 0) = false := dcf (by omega)
    have HRR : Hid (r = (s.closed x.id pu, bad 0)) := Lib.hid (by rw [HR.out, hm]; (simp only []; rw [if_neg (by rw [HK0.out]; decide), if_neg (by rw [HK0.out]; decide)]))
    clear hm HIU
    have HDC := Lib.hid (drop_calls w1 HF1.out.at_ hir (Nat.le_trans hul (by omega)))
    go_wp2_with fail
    refine HDC.out.mono ?_
    rintro e w3 ⟨rfl, AU', cU', hT3⟩
    have HF3 := Lib.hid (HF1.out.go hT3)
    have HSI : Hid (Sim { R with ups := R.ups.take i ++ R.ups.drop (i + 1), AU := AU', cU := cU' } (s.closed x.id pu)) := Lib.hid (HSIM.out.dropU HRS.out his (by rw [hiu]) (s.all - (pu.sum : Int)) AU' cU')
    clear HDC hT3 k0 k1 k2 k3 k4 k5 k6
    have q0 : w3.cell? ⟨w.heap.size + 1, 0, none⟩ = some (.int .i64 0) := HF3.out.b4.cell 0
    have p0 : w3.frozen? ⟨w.heap.size + 1, 0, none⟩ = false := HF3.out.b4.frozen 0
    have q1 : w3.cell? ⟨w.heap.size + 1, 1, none⟩ = some (.slice none 0 0) := HF3.out.b4.cell 1
    have p1 : w3.frozen? ⟨w.heap.size + 1, 1, none⟩ = false := HF3.out.b4.frozen 1
    have q2 : w3.cell? ⟨w.heap.size + 1, 2, none⟩ = some (.int .i64 0) := HF3.out.b4.cell 2
    have p2 : w3.frozen? ⟨w.heap.size + 1, 2, none⟩ = false := HF3.out.b4.frozen 2
    have q3 : w3.cell? ⟨w.heap.size + 1, 3, none⟩ = some (.int .i64 0) := HF3.out.b4.cell 3
    have p3 : w3.frozen? ⟨w.heap.size + 1, 3, none⟩ = false := HF3.out.b4.frozen 3
    have q4 : w3.cell? ⟨w.heap.size + 1, 4, none⟩ = some (.int .i64 0) := HF3.out.b4.cell 4
    have p4 : w3.frozen? ⟨w.heap.size + 1, 4, none⟩ = false := HF3.out.b4.frozen 4
    have q5 : w3.cell? ⟨w.heap.size + 1, 5, none⟩ = some (.slice none 0 0) := HF3.out.b4.cell 5
    have p5 : w3.frozen? ⟨w.heap.size + 1, 5, none⟩ = false := HF3.out.b4.frozen 5
    have q6 : w3.cell? ⟨w.heap.size + 1, 6, none⟩ = some (.bool false) := HF3.out.b4.cell 6
    have p6 : w3.frozen? ⟨w.heap.size + 1, 6, none⟩ = false := HF3.out.b4.frozen 6
    go_wp2
    obtain ⟨hw, hT, hK⟩ := HF3.out.fin (.int .i64 0) (.slice none 0 0) (.int .i64 0) (.int .i64 0) (.int .i64 0) (.slice none 0 0) (.bool false)
    unfold set7 at hw hT hK
    refine bodyPost_ret (results_cell_row rfl _ _ (w.heap.size + 1) 43 #[(.int .i64 0), (.slice none 0 0), (.int .i64 0), (.int .i64 0), (.int .i64 0), (.slice none 0 0), (.bool false)] (0, 0) _ rfl hw Tryz.underlying43 rfl (by kernel_rfl)) rfl ?_
    exact ⟨_, _, rfl, by rw [HRR.out]; exact rep_plain 0 0 0 0, hT, by rw [HRR.out]; exact HSI.out⟩
set_option maxRecDepth 100000 in
set_option maxHeartbeats 16000000 in
theorem doR_8 (w : World) {base n : Nat} {R : RS} {s : PS} {x : Cl} (h : RAt w base R) (hS : Sim R s) (hi : PInv s n) (hs : PSrt s) (hn : n ≤ 1000) (hd : Bytes w w.heap.size x.A x.d.length x.d) (ho : Out R x.A x.d.length) (hx : ClOk x)
    (hk : x.kind = 8) : DoR w base R s x := by
  unfold DoR
  have hu0 : s.step x.pure = s.upload x.pure := by
    have e : x.pure.kind = x.kind := rfl
    rw [kind_step, e]
    rw [if_neg (by omega), if_neg (by omega), if_neg (by omega), if_neg (by omega), if_neg (by omega), if_neg (by omega), if_pos (by omega)]
  have hu1 : s.upload x.pure = match mget s.ups x.id with | none => (s, bad 7) | some u => if x.kind = 8 then s.part u x.pure else if x.kind = 9 then s.complete u x.pure else (s.closed x.id u, bad 0) := rfl
  have HR := Lib.hid (hu0.trans hu1)
  clear hu0 hu1
  have HK0 := Lib.hid hk
  clear hk
  generalize s.step x.pure = r at *
  have HSIM := Lib.hid hS
  have HI := Lib.hid hi
  have HRS := Lib.hid hs
  have hol : R.objs.length ≤ 1000 := by rw [hS.olen]; exact Nat.le_trans hi.on hn
  have hul : R.ups.length ≤ 1000 := by rw [hS.ups.len]; exact Nat.le_trans hi.un hn
  clear hS hi hs
  have HF0 := (FR.start h hd ho).toX
  unfold Cl.cells rep0 at HF0
  have HF := Lib.hid HF0
  clear HF0 hd ho h
  unfold Cl.val Cl.cells
  go_enter Tryz.func13, Tryz.ntmps13
  go_upto_region 1 with fail
  generalize ((w.alloc (.cells #[.int .i64 x.kind, .string x.key, .slice x.A x.d.length x.c, .int .i64 x.ver, .int .i64 x.at_, .int .i64 x.n, .int .i64 x.id] 34)).alloc (.cells #[.int .i64 0, .slice none 0 0, .int .i64 0, .int .i64 0, .int .i64 0, .slice none 0 0, .bool false] 43)) = w2 at *
  have HAT : Hid (∀ m, Calls Tryz.prog 23 #[.pointer (some ⟨R.g, 0, none⟩), .string x.key] (w2.drewN m) fun e w'' => e = .returned (.int .i64 (R.idxO x.key)) ∧ ∃ m', w'' = w2.drewN m') := Lib.hid fun m => (at_calls (w2.drewN m) (HF.out.at_.drewN m) (Nat.le_trans hol (by omega)) x.key).mono fun e w'' h => ⟨h.1, m, h.2.symm⟩
  have HOP : Hid (∀ m, Calls Tryz.prog 24 #[.pointer (some ⟨R.g, 0, none⟩), .int .i64 x.id] (w2.drewN m) fun e w'' => e = .returned (.int .i64 (R.idxU x.id)) ∧ ∃ m', w'' = w2.drewN m') := Lib.hid fun m => (open_calls (w2.drewN m) (HF.out.at_.drewN m) (Nat.le_trans hul (by omega)) x.id).mono fun e w'' h => ⟨h.1, m, h.2.symm⟩
  have k1 : w2.cell? ⟨w.heap.size, 1, none⟩ = some (.string x.key) := HF.out.b3.cell 1
  have k6 : w2.cell? ⟨w.heap.size, 6, none⟩ = some (.int .i64 x.id) := HF.out.b3.cell 6
  go_quiet (first | (exact HAT.out _) | (exact HOP.out _))
  clear HAT HOP k1 k6
  have HF1 := Lib.hid (HF.out.drewN nq)
  have HIX := Lib.hid (HSIM.out.idxO HRS.out x.key)
  have HIU := Lib.hid (HSIM.out.idxU HRS.out x.id)
  generalize R.idxO x.key = ix at *
  generalize R.idxU x.id = iu at *
  generalize w2.drewN nq = w1 at *
  have k0 : w1.cell? ⟨w.heap.size, 0, none⟩ = some (.int .i64 x.kind) := HF1.out.b3.cell 0
  have k1 : w1.cell? ⟨w.heap.size, 1, none⟩ = some (.string x.key) := HF1.out.b3.cell 1
  have k2 : w1.cell? ⟨w.heap.size, 2, none⟩ = some (.slice x.A x.d.length x.c) := HF1.out.b3.cell 2
  have k3 : w1.cell? ⟨w.heap.size, 3, none⟩ = some (.int .i64 x.ver) := HF1.out.b3.cell 3
  have k4 : w1.cell? ⟨w.heap.size, 4, none⟩ = some (.int .i64 x.at_) := HF1.out.b3.cell 4
  have k5 : w1.cell? ⟨w.heap.size, 5, none⟩ = some (.int .i64 x.n) := HF1.out.b3.cell 5
  have k6 : w1.cell? ⟨w.heap.size, 6, none⟩ = some (.int .i64 x.id) := HF1.out.b3.cell 6
  have e1 : (x.kind == 1) = ((8 : Int) == 1) := by rw [HK0.out]
  have e2 : (x.kind == 2) = ((8 : Int) == 2) := by rw [HK0.out]
  have e3 : (x.kind == 3) = ((8 : Int) == 3) := by rw [HK0.out]
  have e4 : (x.kind == 4) = ((8 : Int) == 4) := by rw [HK0.out]
  have e5 : (x.kind == 5) = ((8 : Int) == 5) := by rw [HK0.out]
  have e6 : (x.kind == 6) = ((8 : Int) == 6) := by rw [HK0.out]
  have e7 : (x.kind == 7) = ((8 : Int) == 7) := by rw [HK0.out]
  have e8 : (x.kind == 8) = ((8 : Int) == 8) := by rw [HK0.out]
  have e9 : (x.kind == 9) = ((8 : Int) == 9) := by rw [HK0.out]
  have e10 : (x.kind == 10) = ((8 : Int) == 10) := by rw [HK0.out]
  have e11 : (x.kind == 11) = ((8 : Int) == 11) := by rw [HK0.out]
  rcases HIU.out with ⟨rfl, hm⟩ | ⟨i, pu, hir, rfl, hm, -, his, hiu⟩
  · have d1 : decide ((-1 : Int) < 0) = true := by decide
    have HRR : Hid (r = (s, bad 7)) := Lib.hid (by rw [HR.out, hm])
    clear hm HIU
    go_wp2_with fail
    refine (bad_calls w1 7).mono ?_
    rintro e wb ⟨rfl, hbb⟩
    have HXB := Lib.hid (HF1.out.on hbb)
    clear hbb
    unfold errV
    have q0 : wb.cell? ⟨w.heap.size + 1, 0, none⟩ = some (.int .i64 0) := HXB.out.b4.cell 0
    have p0 : wb.frozen? ⟨w.heap.size + 1, 0, none⟩ = false := HXB.out.b4.frozen 0
    have q1 : wb.cell? ⟨w.heap.size + 1, 1, none⟩ = some (.slice none 0 0) := HXB.out.b4.cell 1
    have p1 : wb.frozen? ⟨w.heap.size + 1, 1, none⟩ = false := HXB.out.b4.frozen 1
    have q2 : wb.cell? ⟨w.heap.size + 1, 2, none⟩ = some (.int .i64 0) := HXB.out.b4.cell 2
    have p2 : wb.frozen? ⟨w.heap.size + 1, 2, none⟩ = false := HXB.out.b4.frozen 2
    have q3 : wb.cell? ⟨w.heap.size + 1, 3, none⟩ = some (.int .i64 0) := HXB.out.b4.cell 3
    have p3 : wb.frozen? ⟨w.heap.size + 1, 3, none⟩ = false := HXB.out.b4.frozen 3
    have q4 : wb.cell? ⟨w.heap.size + 1, 4, none⟩ = some (.int .i64 0) := HXB.out.b4.cell 4
    have p4 : wb.frozen? ⟨w.heap.size + 1, 4, none⟩ = false := HXB.out.b4.frozen 4
    have q5 : wb.cell? ⟨w.heap.size + 1, 5, none⟩ = some (.slice none 0 0) := HXB.out.b4.cell 5
    have p5 : wb.frozen? ⟨w.heap.size + 1, 5, none⟩ = false := HXB.out.b4.frozen 5
    have q6 : wb.cell? ⟨w.heap.size + 1, 6, none⟩ = some (.bool false) := HXB.out.b4.cell 6
    have p6 : wb.frozen? ⟨w.heap.size + 1, 6, none⟩ = false := HXB.out.b4.frozen 6
    go_wp2
    obtain ⟨hw, hT, hK⟩ := HXB.out.fin (.int .i64 7) (.slice none 0 0) (.int .i64 0) (.int .i64 0) (.int .i64 0) (.slice none 0 0) (.bool false)
    unfold set7 at hw hT hK
    refine bodyPost_ret (results_cell_row rfl _ _ (w.heap.size + 1) 43 #[(.int .i64 7), (.slice none 0 0), (.int .i64 0), (.int .i64 0), (.int .i64 0), (.slice none 0 0), (.bool false)] (0, 0) _ rfl hw Tryz.underlying43 rfl (by kernel_rfl)) rfl ?_
    exact ⟨_, _, rfl, by rw [HRR.out]; exact rep_plain 7 0 0 0, hT, by rw [HRR.out]; exact HSIM.out⟩
  · have d1 : decide ((i : Int) < 0) = false := dcf (by omega)
    have HRR : Hid (r = s.part pu x.pure) := Lib.hid (by rw [HR.out, hm]; (simp only []; rw [if_pos HK0.out]))
    clear hm HIU
    have hpc := partR_calls w1 HF1.out.at_ HSIM.out HI.out HRS.out hn HF1.out.dat HF1.out.out hx.d his hiu
    rw [← HRR.out] at hpc
    unfold Cl.val Cl.cells at hpc
    have HPC := Lib.hid hpc
    have HSZ := Lib.hid HF1.out.size
    clear hpc
    go_wp2_with fail
    refine HPC.out.mono ?_
    rintro e w3 ⟨R3, v3, rfl, hra, hT3, hsi⟩
    have HF3 := Lib.hid (HF1.out.go hT3)
    have HRA := Lib.hid hra
    have HSIM2 := Lib.hid hsi
    clear HPC hT3 hra hsi k0 k1 k2 k3 k4 k5 k6
    obtain ⟨A9, c9, A8, c8, rfl, -, -⟩ := HRA.out
    have q0 : w3.cell? ⟨w.heap.size + 1, 0, none⟩ = some (.int .i64 0) := HF3.out.b4.cell 0
    have p0 : w3.frozen? ⟨w.heap.size + 1, 0, none⟩ = false := HF3.out.b4.frozen 0
    have q1 : w3.cell? ⟨w.heap.size + 1, 1, none⟩ = some (.slice none 0 0) := HF3.out.b4.cell 1
    have p1 : w3.frozen? ⟨w.heap.size + 1, 1, none⟩ = false := HF3.out.b4.frozen 1
    have q2 : w3.cell? ⟨w.heap.size + 1, 2, none⟩ = some (.int .i64 0) := HF3.out.b4.cell 2
    have p2 : w3.frozen? ⟨w.heap.size + 1, 2, none⟩ = false := HF3.out.b4.frozen 2
    have q3 : w3.cell? ⟨w.heap.size + 1, 3, none⟩ = some (.int .i64 0) := HF3.out.b4.cell 3
    have p3 : w3.frozen? ⟨w.heap.size + 1, 3, none⟩ = false := HF3.out.b4.frozen 3
    have q4 : w3.cell? ⟨w.heap.size + 1, 4, none⟩ = some (.int .i64 0) := HF3.out.b4.cell 4
    have p4 : w3.frozen? ⟨w.heap.size + 1, 4, none⟩ = false := HF3.out.b4.frozen 4
    have q5 : w3.cell? ⟨w.heap.size + 1, 5, none⟩ = some (.slice none 0 0) := HF3.out.b4.cell 5
    have p5 : w3.frozen? ⟨w.heap.size + 1, 5, none⟩ = false := HF3.out.b4.frozen 5
    have q6 : w3.cell? ⟨w.heap.size + 1, 6, none⟩ = some (.bool false) := HF3.out.b4.cell 6
    have p6 : w3.frozen? ⟨w.heap.size + 1, 6, none⟩ = false := HF3.out.b4.frozen 6
    go_wp2
    obtain ⟨hw, hT, hK⟩ := HF3.out.fin (.int .i64 r.2.err) (.slice A9 r.2.d.length c9) (.int .i64 r.2.ver) (.int .i64 r.2.born) (.int .i64 r.2.id) (.slice A8 r.2.list.length c8) (.bool r.2.more)
    unfold set7 at hw hT hK
    refine bodyPost_ret (results_cell_row rfl _ _ (w.heap.size + 1) 43 #[(.int .i64 r.2.err), (.slice A9 r.2.d.length c9), (.int .i64 r.2.ver), (.int .i64 r.2.born), (.int .i64 r.2.id), (.slice A8 r.2.list.length c8), (.bool r.2.more)] (0, 0) _ rfl hw Tryz.underlying43 rfl (by kernel_rfl)) rfl ?_
    exact ⟨_, _, rfl, HRA.out.mono hK HSZ.out (Nat.le_of_lt (Nat.lt_of_succ_lt HSZ.out)), hT, HSIM2.out⟩
set_option maxRecDepth 100000 in
set_option maxHeartbeats 16000000 in
theorem doR_9 (w : World) {base n : Nat} {R : RS} {s : PS} {x : Cl} (h : RAt w base R) (hS : Sim R s) (hi : PInv s n) (hs : PSrt s) (hn : n ≤ 1000) (hd : Bytes w w.heap.size x.A x.d.length x.d) (ho : Out R x.A x.d.length) (hx : ClOk x)
    (hk : x.kind = 9) : DoR w base R s x := by
  unfold DoR
  have hu0 : s.step x.pure = s.upload x.pure := by
    have e : x.pure.kind = x.kind := rfl
    rw [kind_step, e]
    rw [if_neg (by omega), if_neg (by omega), if_neg (by omega), if_neg (by omega), if_neg (by omega), if_neg (by omega), if_pos (by omega)]
  have hu1 : s.upload x.pure = match mget s.ups x.id with | none => (s, bad 7) | some u => if x.kind = 8 then s.part u x.pure else if x.kind = 9 then s.complete u x.pure else (s.closed x.id u, bad 0) := rfl
  have HR := Lib.hid (hu0.trans hu1)
  clear hu0 hu1
  have HK0 := Lib.hid hk
  clear hk
  generalize s.step x.pure = r at *
  have HSIM := Lib.hid hS
  have HI := Lib.hid hi
  have HRS := Lib.hid hs
  have hol : R.objs.length ≤ 1000 := by rw [hS.olen]; exact Nat.le_trans hi.on hn
  have hul : R.ups.length ≤ 1000 := by rw [hS.ups.len]; exact Nat.le_trans hi.un hn
  clear hS hi hs
  have HF0 := (FR.start h hd ho).toX
  unfold Cl.cells rep0 at HF0
  have HF := Lib.hid HF0
  clear HF0 hd ho h
  unfold Cl.val Cl.cells
  go_enter Tryz.func13, Tryz.ntmps13
  go_upto_region 1 with fail
  generalize ((w.alloc (.cells #[.int .i64 x.kind, .string x.key, .slice x.A x.d.length x.c, .int .i64 x.ver, .int .i64 x.at_, .int .i64 x.n, .int .i64 x.id] 34)).alloc (.cells #[.int .i64 0, .slice none 0 0, .int .i64 0, .int .i64 0, .int .i64 0, .slice none 0 0, .bool false] 43)) = w2 at *
  have HAT : Hid (∀ m, Calls Tryz.prog 23 #[.pointer (some ⟨R.g, 0, none⟩), .string x.key] (w2.drewN m) fun e w'' => e = .returned (.int .i64 (R.idxO x.key)) ∧ ∃ m', w'' = w2.drewN m') := Lib.hid fun m => (at_calls (w2.drewN m) (HF.out.at_.drewN m) (Nat.le_trans hol (by omega)) x.key).mono fun e w'' h => ⟨h.1, m, h.2.symm⟩
  have HOP : Hid (∀ m, Calls Tryz.prog 24 #[.pointer (some ⟨R.g, 0, none⟩), .int .i64 x.id] (w2.drewN m) fun e w'' => e = .returned (.int .i64 (R.idxU x.id)) ∧ ∃ m', w'' = w2.drewN m') := Lib.hid fun m => (open_calls (w2.drewN m) (HF.out.at_.drewN m) (Nat.le_trans hul (by omega)) x.id).mono fun e w'' h => ⟨h.1, m, h.2.symm⟩
  have k1 : w2.cell? ⟨w.heap.size, 1, none⟩ = some (.string x.key) := HF.out.b3.cell 1
  have k6 : w2.cell? ⟨w.heap.size, 6, none⟩ = some (.int .i64 x.id) := HF.out.b3.cell 6
  go_quiet (first | (exact HAT.out _) | (exact HOP.out _))
  clear HAT HOP k1 k6
  have HF1 := Lib.hid (HF.out.drewN nq)
  have HIX := Lib.hid (HSIM.out.idxO HRS.out x.key)
  have HIU := Lib.hid (HSIM.out.idxU HRS.out x.id)
  generalize R.idxO x.key = ix at *
  generalize R.idxU x.id = iu at *
  generalize w2.drewN nq = w1 at *
  have k0 : w1.cell? ⟨w.heap.size, 0, none⟩ = some (.int .i64 x.kind) := HF1.out.b3.cell 0
  have k1 : w1.cell? ⟨w.heap.size, 1, none⟩ = some (.string x.key) := HF1.out.b3.cell 1
  have k2 : w1.cell? ⟨w.heap.size, 2, none⟩ = some (.slice x.A x.d.length x.c) := HF1.out.b3.cell 2
  have k3 : w1.cell? ⟨w.heap.size, 3, none⟩ = some (.int .i64 x.ver) := HF1.out.b3.cell 3
  have k4 : w1.cell? ⟨w.heap.size, 4, none⟩ = some (.int .i64 x.at_) := HF1.out.b3.cell 4
  have k5 : w1.cell? ⟨w.heap.size, 5, none⟩ = some (.int .i64 x.n) := HF1.out.b3.cell 5
  have k6 : w1.cell? ⟨w.heap.size, 6, none⟩ = some (.int .i64 x.id) := HF1.out.b3.cell 6
  have e1 : (x.kind == 1) = ((9 : Int) == 1) := by rw [HK0.out]
  have e2 : (x.kind == 2) = ((9 : Int) == 2) := by rw [HK0.out]
  have e3 : (x.kind == 3) = ((9 : Int) == 3) := by rw [HK0.out]
  have e4 : (x.kind == 4) = ((9 : Int) == 4) := by rw [HK0.out]
  have e5 : (x.kind == 5) = ((9 : Int) == 5) := by rw [HK0.out]
  have e6 : (x.kind == 6) = ((9 : Int) == 6) := by rw [HK0.out]
  have e7 : (x.kind == 7) = ((9 : Int) == 7) := by rw [HK0.out]
  have e8 : (x.kind == 8) = ((9 : Int) == 8) := by rw [HK0.out]
  have e9 : (x.kind == 9) = ((9 : Int) == 9) := by rw [HK0.out]
  have e10 : (x.kind == 10) = ((9 : Int) == 10) := by rw [HK0.out]
  have e11 : (x.kind == 11) = ((9 : Int) == 11) := by rw [HK0.out]
  rcases HIU.out with ⟨rfl, hm⟩ | ⟨i, pu, hir, rfl, hm, -, his, hiu⟩
  · have d1 : decide ((-1 : Int) < 0) = true := by decide
    have HRR : Hid (r = (s, bad 7)) := Lib.hid (by rw [HR.out, hm])
    clear hm HIU
    go_wp2_with fail
    refine (bad_calls w1 7).mono ?_
    rintro e wb ⟨rfl, hbb⟩
    have HXB := Lib.hid (HF1.out.on hbb)
    clear hbb
    unfold errV
    have q0 : wb.cell? ⟨w.heap.size + 1, 0, none⟩ = some (.int .i64 0) := HXB.out.b4.cell 0
    have p0 : wb.frozen? ⟨w.heap.size + 1, 0, none⟩ = false := HXB.out.b4.frozen 0
    have q1 : wb.cell? ⟨w.heap.size + 1, 1, none⟩ = some (.slice none 0 0) := HXB.out.b4.cell 1
    have p1 : wb.frozen? ⟨w.heap.size + 1, 1, none⟩ = false := HXB.out.b4.frozen 1
    have q2 : wb.cell? ⟨w.heap.size + 1, 2, none⟩ = some (.int .i64 0) := HXB.out.b4.cell 2
    have p2 : wb.frozen? ⟨w.heap.size + 1, 2, none⟩ = false := HXB.out.b4.frozen 2
    have q3 : wb.cell? ⟨w.heap.size + 1, 3, none⟩ = some (.int .i64 0) := HXB.out.b4.cell 3
    have p3 : wb.frozen? ⟨w.heap.size + 1, 3, none⟩ = false := HXB.out.b4.frozen 3
    have q4 : wb.cell? ⟨w.heap.size + 1, 4, none⟩ = some (.int .i64 0) := HXB.out.b4.cell 4
    have p4 : wb.frozen? ⟨w.heap.size + 1, 4, none⟩ = false := HXB.out.b4.frozen 4
    have q5 : wb.cell? ⟨w.heap.size + 1, 5, none⟩ = some (.slice none 0 0) := HXB.out.b4.cell 5
    have p5 : wb.frozen? ⟨w.heap.size + 1, 5, none⟩ = false := HXB.out.b4.frozen 5
    have q6 : wb.cell? ⟨w.heap.size + 1, 6, none⟩ = some (.bool false) := HXB.out.b4.cell 6
    have p6 : wb.frozen? ⟨w.heap.size + 1, 6, none⟩ = false := HXB.out.b4.frozen 6
    go_wp2
    obtain ⟨hw, hT, hK⟩ := HXB.out.fin (.int .i64 7) (.slice none 0 0) (.int .i64 0) (.int .i64 0) (.int .i64 0) (.slice none 0 0) (.bool false)
    unfold set7 at hw hT hK
    refine bodyPost_ret (results_cell_row rfl _ _ (w.heap.size + 1) 43 #[(.int .i64 7), (.slice none 0 0), (.int .i64 0), (.int .i64 0), (.int .i64 0), (.slice none 0 0), (.bool false)] (0, 0) _ rfl hw Tryz.underlying43 rfl (by kernel_rfl)) rfl ?_
    exact ⟨_, _, rfl, by rw [HRR.out]; exact rep_plain 7 0 0 0, hT, by rw [HRR.out]; exact HSIM.out⟩
  · have d1 : decide ((i : Int) < 0) = false := dcf (by omega)
    have HRR : Hid (r = s.complete pu x.pure) := Lib.hid (by rw [HR.out, hm]; (simp only []; rw [if_neg (by rw [HK0.out]; decide), if_pos HK0.out]))
    clear hm HIU
    have hpc := completeR_calls w1 HF1.out.at_ HSIM.out HI.out HRS.out hn HF1.out.dat HF1.out.out his hiu hx.n
    rw [← HRR.out] at hpc
    unfold Cl.val Cl.cells at hpc
    have HPC := Lib.hid hpc
    have HSZ := Lib.hid HF1.out.size
    clear hpc
    go_wp2_with fail
    refine HPC.out.mono ?_
    rintro e w3 ⟨R3, v3, rfl, hra, hT3, hsi⟩
    have HF3 := Lib.hid (HF1.out.go hT3)
    have HRA := Lib.hid hra
    have HSIM2 := Lib.hid hsi
    clear HPC hT3 hra hsi k0 k1 k2 k3 k4 k5 k6
    obtain ⟨A9, c9, A8, c8, rfl, -, -⟩ := HRA.out
    have q0 : w3.cell? ⟨w.heap.size + 1, 0, none⟩ = some (.int .i64 0) := HF3.out.b4.cell 0
    have p0 : w3.frozen? ⟨w.heap.size + 1, 0, none⟩ = false := HF3.out.b4.frozen 0
    have q1 : w3.cell? ⟨w.heap.size + 1, 1, none⟩ = some (.slice none 0 0) := HF3.out.b4.cell 1
    have p1 : w3.frozen? ⟨w.heap.size + 1, 1, none⟩ = false := HF3.out.b4.frozen 1
    have q2 : w3.cell? ⟨w.heap.size + 1, 2, none⟩ = some (.int .i64 0) := HF3.out.b4.cell 2
    have p2 : w3.frozen? ⟨w.heap.size + 1, 2, none⟩ = false := HF3.out.b4.frozen 2
    have q3 : w3.cell? ⟨w.heap.size + 1, 3, none⟩ = some (.int .i64 0) := HF3.out.b4.cell 3
    have p3 : w3.frozen? ⟨w.heap.size + 1, 3, none⟩ = false := HF3.out.b4.frozen 3
    have q4 : w3.cell? ⟨w.heap.size + 1, 4, none⟩ = some (.int .i64 0) := HF3.out.b4.cell 4
    have p4 : w3.frozen? ⟨w.heap.size + 1, 4, none⟩ = false := HF3.out.b4.frozen 4
    have q5 : w3.cell? ⟨w.heap.size + 1, 5, none⟩ = some (.slice none 0 0) := HF3.out.b4.cell 5
    have p5 : w3.frozen? ⟨w.heap.size + 1, 5, none⟩ = false := HF3.out.b4.frozen 5
    have q6 : w3.cell? ⟨w.heap.size + 1, 6, none⟩ = some (.bool false) := HF3.out.b4.cell 6
    have p6 : w3.frozen? ⟨w.heap.size + 1, 6, none⟩ = false := HF3.out.b4.frozen 6
    go_wp2
    obtain ⟨hw, hT, hK⟩ := HF3.out.fin (.int .i64 r.2.err) (.slice A9 r.2.d.length c9) (.int .i64 r.2.ver) (.int .i64 r.2.born) (.int .i64 r.2.id) (.slice A8 r.2.list.length c8) (.bool r.2.more)
    unfold set7 at hw hT hK
    refine bodyPost_ret (results_cell_row rfl _ _ (w.heap.size + 1) 43 #[(.int .i64 r.2.err), (.slice A9 r.2.d.length c9), (.int .i64 r.2.ver), (.int .i64 r.2.born), (.int .i64 r.2.id), (.slice A8 r.2.list.length c8), (.bool r.2.more)] (0, 0) _ rfl hw Tryz.underlying43 rfl (by kernel_rfl)) rfl ?_
    exact ⟨_, _, rfl, HRA.out.mono hK HSZ.out (Nat.le_of_lt (Nat.lt_of_succ_lt HSZ.out)), hT, HSIM2.out⟩
end Rf
end Go.Proofs.YtlljpjehalodfaaGreat
