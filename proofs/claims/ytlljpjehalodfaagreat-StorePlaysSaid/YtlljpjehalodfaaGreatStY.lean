/- A call of a store: the walk (chapter 14). -/
import Derived.Test.YtlljpjehalodfaaGreatProg
import Derived.Test.YtlljpjehalodfaaGreatStX
namespace Go.Proofs.YtlljpjehalodfaaGreat
open Go.RowKit
namespace St

theorem drop_foot {L : LS} {k : ByteArray} {a : Int} {i : Nat} (h : ({ L with all := a, objs := mdel L.objs k } : LS).foot i) : L.foot i := h
theorem pure_drop (L : LS) (k : ByteArray) (a : Int) : ({ L with all := a, objs := mdel L.objs k } : LS).pure = { L.pure with all := a, objs := mdel L.pure.objs k } := by
  show PS.mk _ _ _ _ _ _ = PS.mk _ _ _ _ _ _
  congr 1
  exact (mdel_map Ob.pure L.objs k).symm
set_option maxRecDepth 100000 in
set_option maxHeartbeats 16000000 in
theorem do_calls (w : World) {L : LS} {n : Nat} {x : Cl} (h : At w L) (hi : Inv L n) (hn : n ≤ 1000000) (hd : Dat w L.gs x.A x.c x.d) (hx : ClOk x) :
    Calls Tryz.prog 11 #[.pointer (some ⟨L.gs, 0, none⟩), x.val] w (RetDo w L x) := by
  have HF := Lib.hid (Fr.start (qF L x) h hd)
  have hgs := h.blk.lt
  have HI := Lib.hid hi
  have HX := Lib.hid hx
  obtain ⟨kind, key, A, c, d, ver, at_, nn, id⟩ := x
  dsimp only [Cl.val, Cl.cells] at *
  have HLE : Hid (w.heap.size + 1 < ((w.alloc (.cells #[.int .i64 kind, .string key, .slice A d.length c, .int .i64 ver, .int .i64 at_, .int .i64 nn, .int .i64 id] 34)).alloc (.cells rep0 43)).heap.size) := Lib.hid HF.out.res.lt
  clear h hd hi hx
  go_enter Tryz.func11, Tryz.ntmps11
  go_upto_region 3 with fail
  unfold rep0 at HF HLE
  generalize (w.alloc (.cells #[.int .i64 kind, .string key, .slice A d.length c, .int .i64 ver, .int .i64 at_, .int .i64 nn, .int .i64 id] 34)).alloc (.cells #[.int .i64 0, .slice none 0 0, .int .i64 0, .int .i64 0, .int .i64 0, .slice none 0 0, .bool false] 43) = w1 at *
  generalize hg4 : w.heap.size + 1 = g4 at *
  generalize hg3 : w.heap.size = g3 at *
  have hle := HLE.out
  have k0 : w1.cell? ⟨g3, 0, none⟩ = some (.int .i64 kind) := HF.out.call.cell 0
  have k1 : w1.cell? ⟨g3, 1, none⟩ = some (.string key) := HF.out.call.cell 1
  have k2 : w1.cell? ⟨g3, 2, none⟩ = some (.slice A d.length c) := HF.out.call.cell 2
  have k3 : w1.cell? ⟨g3, 3, none⟩ = some (.int .i64 ver) := HF.out.call.cell 3
  have k4 : w1.cell? ⟨g3, 4, none⟩ = some (.int .i64 at_) := HF.out.call.cell 4
  have k5 : w1.cell? ⟨g3, 5, none⟩ = some (.int .i64 nn) := HF.out.call.cell 5
  have k6 : w1.cell? ⟨g3, 6, none⟩ = some (.int .i64 id) := HF.out.call.cell 6
  by_cases hk1 : kind = 1
  · have b1 := eqt hk1
    have HKK := Lib.hid hk1
    clear hk1
    obtain ⟨r, hr⟩ : ∃ r, L.pure.put ⟨kind, key, d, ver, at_, nn, id⟩ = r := ⟨_, rfl⟩
    have HR : Hid (L.pure.step ⟨kind, key, d, ver, at_, nn, id⟩ = r) := Lib.hid (by rw [← hr, kind_step]; dsimp only; exact if_pos (.inl HKK.out))
    have hc := put_mid HF.out.at_ HI.out hn HF.out.dat HX.out (by have := HKK.out; unfold Quiet; dsimp only; omega)
    unfold Cl.val Cl.cells Cl.pure at hc
    dsimp only at hc hr
    rw [hr] at hc
    have HC := Lib.hid hc
    clear hc hr
    go_wp2_with fail
    refine HC.out.mono ?_
    rintro e w9 ⟨v, L', rfl, hm⟩
    have HM := Lib.hid hm
    obtain ⟨A9, c9, A8, c8, rfl, -, -⟩ := hm.rep
    have HF9 := Lib.hid (HF.out.turnG HM.out.at_ HM.out.keep (fun _ h => h.1) (fun _ _ h => h) HM.out.gs)
    have q0 : w9.cell? ⟨g4, 0, none⟩ = some (.int .i64 0) := HF9.out.res.cell 0
    have p0 : w9.frozen? ⟨g4, 0, none⟩ = false := HF9.out.res.frozen 0
    have q1 : w9.cell? ⟨g4, 1, none⟩ = some (.slice none 0 0) := HF9.out.res.cell 1
    have p1 : w9.frozen? ⟨g4, 1, none⟩ = false := HF9.out.res.frozen 1
    have q2 : w9.cell? ⟨g4, 2, none⟩ = some (.int .i64 0) := HF9.out.res.cell 2
    have p2 : w9.frozen? ⟨g4, 2, none⟩ = false := HF9.out.res.frozen 2
    have q3 : w9.cell? ⟨g4, 3, none⟩ = some (.int .i64 0) := HF9.out.res.cell 3
    have p3 : w9.frozen? ⟨g4, 3, none⟩ = false := HF9.out.res.frozen 3
    have q4 : w9.cell? ⟨g4, 4, none⟩ = some (.int .i64 0) := HF9.out.res.cell 4
    have p4 : w9.frozen? ⟨g4, 4, none⟩ = false := HF9.out.res.frozen 4
    have q5 : w9.cell? ⟨g4, 5, none⟩ = some (.slice none 0 0) := HF9.out.res.cell 5
    have p5 : w9.frozen? ⟨g4, 5, none⟩ = false := HF9.out.res.frozen 5
    have q6 : w9.cell? ⟨g4, 6, none⟩ = some (.bool false) := HF9.out.res.cell 6
    have p6 : w9.frozen? ⟨g4, 6, none⟩ = false := HF9.out.res.frozen 6
    go_wp2
    obtain ⟨hw, hA, hK⟩ := HF9.out.fin (.int .i64 r.2.err) (.slice A9 r.2.d.length c9) (.int .i64 r.2.ver) (.int .i64 r.2.born) (.int .i64 r.2.id) (.slice A8 r.2.list.length c8) (.bool r.2.more)
    unfold set7 at hw hA hK
    refine bodyPost_ret (results_cell_row rfl _ _ g4 43 #[.int .i64 r.2.err, .slice A9 r.2.d.length c9, .int .i64 r.2.ver, .int .i64 r.2.born, .int .i64 r.2.id, .slice A8 r.2.list.length c8, .bool r.2.more] (0, 0) _ rfl hw Tryz.underlying43 rfl (by kernel_rfl)) rfl ?_
    refine ⟨L', _, rfl, ?_, ?_, hA, hK, HM.out.gs, fun i hi => (HM.out.foot i hi).imp (fun h => h) (fun h => by omega), HM.out.same, HM.out.prov.mono (by omega)⟩
    · show RepAt _ _ _ (L.pure.step ⟨kind, key, d, ver, at_, nn, id⟩).2
      rw [HR.out]
      exact HM.out.rep.mono set7_keep (by omega) (by omega)
    · show L'.pure = (L.pure.step ⟨kind, key, d, ver, at_, nn, id⟩).1
      rw [HR.out]
      exact HM.out.pure
  have b1 := eqf hk1
  by_cases hk2 : kind = 2
  · have b2 := eqt hk2
    have HKK := Lib.hid hk2
    clear hk2
    obtain ⟨r, hr⟩ : ∃ r, L.pure.put ⟨kind, key, d, ver, at_, nn, id⟩ = r := ⟨_, rfl⟩
    have HR : Hid (L.pure.step ⟨kind, key, d, ver, at_, nn, id⟩ = r) := Lib.hid (by rw [← hr, kind_step]; dsimp only; exact if_pos (.inr HKK.out))
    have hc := put_mid HF.out.at_ HI.out hn HF.out.dat HX.out (by have := HKK.out; unfold Quiet; dsimp only; omega)
    unfold Cl.val Cl.cells Cl.pure at hc
    dsimp only at hc hr
    rw [hr] at hc
    have HC := Lib.hid hc
    clear hc hr
    go_wp2_with fail
    refine HC.out.mono ?_
    rintro e w9 ⟨v, L', rfl, hm⟩
    have HM := Lib.hid hm
    obtain ⟨A9, c9, A8, c8, rfl, -, -⟩ := hm.rep
    have HF9 := Lib.hid (HF.out.turnG HM.out.at_ HM.out.keep (fun _ h => h.1) (fun _ _ h => h) HM.out.gs)
    have q0 : w9.cell? ⟨g4, 0, none⟩ = some (.int .i64 0) := HF9.out.res.cell 0
    have p0 : w9.frozen? ⟨g4, 0, none⟩ = false := HF9.out.res.frozen 0
    have q1 : w9.cell? ⟨g4, 1, none⟩ = some (.slice none 0 0) := HF9.out.res.cell 1
    have p1 : w9.frozen? ⟨g4, 1, none⟩ = false := HF9.out.res.frozen 1
    have q2 : w9.cell? ⟨g4, 2, none⟩ = some (.int .i64 0) := HF9.out.res.cell 2
    have p2 : w9.frozen? ⟨g4, 2, none⟩ = false := HF9.out.res.frozen 2
    have q3 : w9.cell? ⟨g4, 3, none⟩ = some (.int .i64 0) := HF9.out.res.cell 3
    have p3 : w9.frozen? ⟨g4, 3, none⟩ = false := HF9.out.res.frozen 3
    have q4 : w9.cell? ⟨g4, 4, none⟩ = some (.int .i64 0) := HF9.out.res.cell 4
    have p4 : w9.frozen? ⟨g4, 4, none⟩ = false := HF9.out.res.frozen 4
    have q5 : w9.cell? ⟨g4, 5, none⟩ = some (.slice none 0 0) := HF9.out.res.cell 5
    have p5 : w9.frozen? ⟨g4, 5, none⟩ = false := HF9.out.res.frozen 5
    have q6 : w9.cell? ⟨g4, 6, none⟩ = some (.bool false) := HF9.out.res.cell 6
    have p6 : w9.frozen? ⟨g4, 6, none⟩ = false := HF9.out.res.frozen 6
    go_wp2
    obtain ⟨hw, hA, hK⟩ := HF9.out.fin (.int .i64 r.2.err) (.slice A9 r.2.d.length c9) (.int .i64 r.2.ver) (.int .i64 r.2.born) (.int .i64 r.2.id) (.slice A8 r.2.list.length c8) (.bool r.2.more)
    unfold set7 at hw hA hK
    refine bodyPost_ret (results_cell_row rfl _ _ g4 43 #[.int .i64 r.2.err, .slice A9 r.2.d.length c9, .int .i64 r.2.ver, .int .i64 r.2.born, .int .i64 r.2.id, .slice A8 r.2.list.length c8, .bool r.2.more] (0, 0) _ rfl hw Tryz.underlying43 rfl (by kernel_rfl)) rfl ?_
    refine ⟨L', _, rfl, ?_, ?_, hA, hK, HM.out.gs, fun i hi => (HM.out.foot i hi).imp (fun h => h) (fun h => by omega), HM.out.same, HM.out.prov.mono (by omega)⟩
    · show RepAt _ _ _ (L.pure.step ⟨kind, key, d, ver, at_, nn, id⟩).2
      rw [HR.out]
      exact HM.out.rep.mono set7_keep (by omega) (by omega)
    · show L'.pure = (L.pure.step ⟨kind, key, d, ver, at_, nn, id⟩).1
      rw [HR.out]
      exact HM.out.pure
  have b2 := eqf hk2
  by_cases hk3 : kind = 3
  · have b3 := eqt hk3
    have HKK := Lib.hid hk3
    clear hk3
    obtain ⟨r, hr⟩ : ∃ r, (L.pure, L.pure.get ⟨kind, key, d, ver, at_, nn, id⟩) = r := ⟨_, rfl⟩
    have HR : Hid (L.pure.step ⟨kind, key, d, ver, at_, nn, id⟩ = r) := Lib.hid (by rw [← hr, kind_step]; dsimp only; rw [if_neg (by omega), if_pos (.inl HKK.out)])
    have hc := get_mid HF.out.at_ HI.out HF.out.dat HX.out
    unfold Cl.val Cl.cells Cl.pure at hc
    dsimp only at hc hr
    rw [hr] at hc
    have HC := Lib.hid hc
    clear hc hr
    go_wp2_with fail
    refine HC.out.mono ?_
    rintro e w9 ⟨v, L', rfl, hm⟩
    have HM := Lib.hid hm
    obtain ⟨A9, c9, A8, c8, rfl, -, -⟩ := hm.rep
    have HF9 := Lib.hid (HF.out.turnG HM.out.at_ HM.out.keep (fun _ h => h.1) (fun _ _ h => h) HM.out.gs)
    have q0 : w9.cell? ⟨g4, 0, none⟩ = some (.int .i64 0) := HF9.out.res.cell 0
    have p0 : w9.frozen? ⟨g4, 0, none⟩ = false := HF9.out.res.frozen 0
    have q1 : w9.cell? ⟨g4, 1, none⟩ = some (.slice none 0 0) := HF9.out.res.cell 1
    have p1 : w9.frozen? ⟨g4, 1, none⟩ = false := HF9.out.res.frozen 1
    have q2 : w9.cell? ⟨g4, 2, none⟩ = some (.int .i64 0) := HF9.out.res.cell 2
    have p2 : w9.frozen? ⟨g4, 2, none⟩ = false := HF9.out.res.frozen 2
    have q3 : w9.cell? ⟨g4, 3, none⟩ = some (.int .i64 0) := HF9.out.res.cell 3
    have p3 : w9.frozen? ⟨g4, 3, none⟩ = false := HF9.out.res.frozen 3
    have q4 : w9.cell? ⟨g4, 4, none⟩ = some (.int .i64 0) := HF9.out.res.cell 4
    have p4 : w9.frozen? ⟨g4, 4, none⟩ = false := HF9.out.res.frozen 4
    have q5 : w9.cell? ⟨g4, 5, none⟩ = some (.slice none 0 0) := HF9.out.res.cell 5
    have p5 : w9.frozen? ⟨g4, 5, none⟩ = false := HF9.out.res.frozen 5
    have q6 : w9.cell? ⟨g4, 6, none⟩ = some (.bool false) := HF9.out.res.cell 6
    have p6 : w9.frozen? ⟨g4, 6, none⟩ = false := HF9.out.res.frozen 6
    go_wp2
    obtain ⟨hw, hA, hK⟩ := HF9.out.fin (.int .i64 r.2.err) (.slice A9 r.2.d.length c9) (.int .i64 r.2.ver) (.int .i64 r.2.born) (.int .i64 r.2.id) (.slice A8 r.2.list.length c8) (.bool r.2.more)
    unfold set7 at hw hA hK
    refine bodyPost_ret (results_cell_row rfl _ _ g4 43 #[.int .i64 r.2.err, .slice A9 r.2.d.length c9, .int .i64 r.2.ver, .int .i64 r.2.born, .int .i64 r.2.id, .slice A8 r.2.list.length c8, .bool r.2.more] (0, 0) _ rfl hw Tryz.underlying43 rfl (by kernel_rfl)) rfl ?_
    refine ⟨L', _, rfl, ?_, ?_, hA, hK, HM.out.gs, fun i hi => (HM.out.foot i hi).imp (fun h => h) (fun h => by omega), HM.out.same, HM.out.prov.mono (by omega)⟩
    · show RepAt _ _ _ (L.pure.step ⟨kind, key, d, ver, at_, nn, id⟩).2
      rw [HR.out]
      exact HM.out.rep.mono set7_keep (by omega) (by omega)
    · show L'.pure = (L.pure.step ⟨kind, key, d, ver, at_, nn, id⟩).1
      rw [HR.out]
      exact HM.out.pure
  have b3 := eqf hk3
  by_cases hk4 : kind = 4
  · have b4 := eqt hk4
    have HKK := Lib.hid hk4
    clear hk4
    obtain ⟨r, hr⟩ : ∃ r, (L.pure, L.pure.get ⟨kind, key, d, ver, at_, nn, id⟩) = r := ⟨_, rfl⟩
    have HR : Hid (L.pure.step ⟨kind, key, d, ver, at_, nn, id⟩ = r) := Lib.hid (by rw [← hr, kind_step]; dsimp only; rw [if_neg (by omega), if_pos (.inr HKK.out)])
    have hc := get_mid HF.out.at_ HI.out HF.out.dat HX.out
    unfold Cl.val Cl.cells Cl.pure at hc
    dsimp only at hc hr
    rw [hr] at hc
    have HC := Lib.hid hc
    clear hc hr
    go_wp2_with fail
    refine HC.out.mono ?_
    rintro e w9 ⟨v, L', rfl, hm⟩
    have HM := Lib.hid hm
    obtain ⟨A9, c9, A8, c8, rfl, -, -⟩ := hm.rep
    have HF9 := Lib.hid (HF.out.turnG HM.out.at_ HM.out.keep (fun _ h => h.1) (fun _ _ h => h) HM.out.gs)
    have q0 : w9.cell? ⟨g4, 0, none⟩ = some (.int .i64 0) := HF9.out.res.cell 0
    have p0 : w9.frozen? ⟨g4, 0, none⟩ = false := HF9.out.res.frozen 0
    have q1 : w9.cell? ⟨g4, 1, none⟩ = some (.slice none 0 0) := HF9.out.res.cell 1
    have p1 : w9.frozen? ⟨g4, 1, none⟩ = false := HF9.out.res.frozen 1
    have q2 : w9.cell? ⟨g4, 2, none⟩ = some (.int .i64 0) := HF9.out.res.cell 2
    have p2 : w9.frozen? ⟨g4, 2, none⟩ = false := HF9.out.res.frozen 2
    have q3 : w9.cell? ⟨g4, 3, none⟩ = some (.int .i64 0) := HF9.out.res.cell 3
    have p3 : w9.frozen? ⟨g4, 3, none⟩ = false := HF9.out.res.frozen 3
    have q4 : w9.cell? ⟨g4, 4, none⟩ = some (.int .i64 0) := HF9.out.res.cell 4
    have p4 : w9.frozen? ⟨g4, 4, none⟩ = false := HF9.out.res.frozen 4
    have q5 : w9.cell? ⟨g4, 5, none⟩ = some (.slice none 0 0) := HF9.out.res.cell 5
    have p5 : w9.frozen? ⟨g4, 5, none⟩ = false := HF9.out.res.frozen 5
    have q6 : w9.cell? ⟨g4, 6, none⟩ = some (.bool false) := HF9.out.res.cell 6
    have p6 : w9.frozen? ⟨g4, 6, none⟩ = false := HF9.out.res.frozen 6
    go_wp2
    obtain ⟨hw, hA, hK⟩ := HF9.out.fin (.int .i64 r.2.err) (.slice A9 r.2.d.length c9) (.int .i64 r.2.ver) (.int .i64 r.2.born) (.int .i64 r.2.id) (.slice A8 r.2.list.length c8) (.bool r.2.more)
    unfold set7 at hw hA hK
    refine bodyPost_ret (results_cell_row rfl _ _ g4 43 #[.int .i64 r.2.err, .slice A9 r.2.d.length c9, .int .i64 r.2.ver, .int .i64 r.2.born, .int .i64 r.2.id, .slice A8 r.2.list.length c8, .bool r.2.more] (0, 0) _ rfl hw Tryz.underlying43 rfl (by kernel_rfl)) rfl ?_
    refine ⟨L', _, rfl, ?_, ?_, hA, hK, HM.out.gs, fun i hi => (HM.out.foot i hi).imp (fun h => h) (fun h => by omega), HM.out.same, HM.out.prov.mono (by omega)⟩
    · show RepAt _ _ _ (L.pure.step ⟨kind, key, d, ver, at_, nn, id⟩).2
      rw [HR.out]
      exact HM.out.rep.mono set7_keep (by omega) (by omega)
    · show L'.pure = (L.pure.step ⟨kind, key, d, ver, at_, nn, id⟩).1
      rw [HR.out]
      exact HM.out.pure
  have b4 := eqf hk4
  by_cases hk5 : kind = 5
  · have b5 := eqt hk5
    have HKK := Lib.hid hk5
    clear hk5
    obtain ⟨r, hr⟩ : ∃ r, (L.pure, L.pure.list ⟨kind, key, d, ver, at_, nn, id⟩) = r := ⟨_, rfl⟩
    have HR : Hid (L.pure.step ⟨kind, key, d, ver, at_, nn, id⟩ = r) := Lib.hid (by rw [← hr, kind_step]; dsimp only; rw [if_neg (by omega), if_neg (by omega), if_pos HKK.out])
    have hc := list_mid HF.out.at_ HI.out hn HF.out.dat
    unfold Cl.val Cl.cells Cl.pure at hc
    dsimp only at hc hr
    rw [hr] at hc
    have HC := Lib.hid hc
    clear hc hr
    go_wp2_with fail
    refine HC.out.mono ?_
    rintro e w9 ⟨v, L', rfl, hm⟩
    have HM := Lib.hid hm
    obtain ⟨A9, c9, A8, c8, rfl, -, -⟩ := hm.rep
    have HF9 := Lib.hid (HF.out.turnG HM.out.at_ HM.out.keep (fun _ h => h.1) (fun _ _ h => h) HM.out.gs)
    have q0 : w9.cell? ⟨g4, 0, none⟩ = some (.int .i64 0) := HF9.out.res.cell 0
    have p0 : w9.frozen? ⟨g4, 0, none⟩ = false := HF9.out.res.frozen 0
    have q1 : w9.cell? ⟨g4, 1, none⟩ = some (.slice none 0 0) := HF9.out.res.cell 1
    have p1 : w9.frozen? ⟨g4, 1, none⟩ = false := HF9.out.res.frozen 1
    have q2 : w9.cell? ⟨g4, 2, none⟩ = some (.int .i64 0) := HF9.out.res.cell 2
    have p2 : w9.frozen? ⟨g4, 2, none⟩ = false := HF9.out.res.frozen 2
    have q3 : w9.cell? ⟨g4, 3, none⟩ = some (.int .i64 0) := HF9.out.res.cell 3
    have p3 : w9.frozen? ⟨g4, 3, none⟩ = false := HF9.out.res.frozen 3
    have q4 : w9.cell? ⟨g4, 4, none⟩ = some (.int .i64 0) := HF9.out.res.cell 4
    have p4 : w9.frozen? ⟨g4, 4, none⟩ = false := HF9.out.res.frozen 4
    have q5 : w9.cell? ⟨g4, 5, none⟩ = some (.slice none 0 0) := HF9.out.res.cell 5
    have p5 : w9.frozen? ⟨g4, 5, none⟩ = false := HF9.out.res.frozen 5
    have q6 : w9.cell? ⟨g4, 6, none⟩ = some (.bool false) := HF9.out.res.cell 6
    have p6 : w9.frozen? ⟨g4, 6, none⟩ = false := HF9.out.res.frozen 6
    go_wp2
    obtain ⟨hw, hA, hK⟩ := HF9.out.fin (.int .i64 r.2.err) (.slice A9 r.2.d.length c9) (.int .i64 r.2.ver) (.int .i64 r.2.born) (.int .i64 r.2.id) (.slice A8 r.2.list.length c8) (.bool r.2.more)
    unfold set7 at hw hA hK
    refine bodyPost_ret (results_cell_row rfl _ _ g4 43 #[.int .i64 r.2.err, .slice A9 r.2.d.length c9, .int .i64 r.2.ver, .int .i64 r.2.born, .int .i64 r.2.id, .slice A8 r.2.list.length c8, .bool r.2.more] (0, 0) _ rfl hw Tryz.underlying43 rfl (by kernel_rfl)) rfl ?_
    refine ⟨L', _, rfl, ?_, ?_, hA, hK, HM.out.gs, fun i hi => (HM.out.foot i hi).imp (fun h => h) (fun h => by omega), HM.out.same, HM.out.prov.mono (by omega)⟩
    · show RepAt _ _ _ (L.pure.step ⟨kind, key, d, ver, at_, nn, id⟩).2
      rw [HR.out]
      exact HM.out.rep.mono set7_keep (by omega) (by omega)
    · show L'.pure = (L.pure.step ⟨kind, key, d, ver, at_, nn, id⟩).1
      rw [HR.out]
      exact HM.out.pure
  have b5 := eqf hk5
  by_cases hk11 : kind = 11
  · have b11 := eqt hk11
    have HKK := Lib.hid hk11
    clear hk11
    obtain ⟨r, hr⟩ : ∃ r, (L.pure, L.pure.opened ⟨kind, key, d, ver, at_, nn, id⟩) = r := ⟨_, rfl⟩
    have HR : Hid (L.pure.step ⟨kind, key, d, ver, at_, nn, id⟩ = r) := Lib.hid (by rw [← hr, kind_step]; dsimp only; rw [if_neg (by omega), if_neg (by omega), if_neg (by omega), if_pos HKK.out])
    have hc := opened_mid HF.out.at_ HI.out hn HF.out.dat
    unfold Cl.val Cl.cells Cl.pure at hc
    dsimp only at hc hr
    rw [hr] at hc
    have HC := Lib.hid hc
    clear hc hr
    go_wp2_with fail
    refine HC.out.mono ?_
    rintro e w9 ⟨v, L', rfl, hm⟩
    have HM := Lib.hid hm
    obtain ⟨A9, c9, A8, c8, rfl, -, -⟩ := hm.rep
    have HF9 := Lib.hid (HF.out.turnG HM.out.at_ HM.out.keep (fun _ h => h.1) (fun _ _ h => h) HM.out.gs)
    have q0 : w9.cell? ⟨g4, 0, none⟩ = some (.int .i64 0) := HF9.out.res.cell 0
    have p0 : w9.frozen? ⟨g4, 0, none⟩ = false := HF9.out.res.frozen 0
    have q1 : w9.cell? ⟨g4, 1, none⟩ = some (.slice none 0 0) := HF9.out.res.cell 1
    have p1 : w9.frozen? ⟨g4, 1, none⟩ = false := HF9.out.res.frozen 1
    have q2 : w9.cell? ⟨g4, 2, none⟩ = some (.int .i64 0) := HF9.out.res.cell 2
    have p2 : w9.frozen? ⟨g4, 2, none⟩ = false := HF9.out.res.frozen 2
    have q3 : w9.cell? ⟨g4, 3, none⟩ = some (.int .i64 0) := HF9.out.res.cell 3
    have p3 : w9.frozen? ⟨g4, 3, none⟩ = false := HF9.out.res.frozen 3
    have q4 : w9.cell? ⟨g4, 4, none⟩ = some (.int .i64 0) := HF9.out.res.cell 4
    have p4 : w9.frozen? ⟨g4, 4, none⟩ = false := HF9.out.res.frozen 4
    have q5 : w9.cell? ⟨g4, 5, none⟩ = some (.slice none 0 0) := HF9.out.res.cell 5
    have p5 : w9.frozen? ⟨g4, 5, none⟩ = false := HF9.out.res.frozen 5
    have q6 : w9.cell? ⟨g4, 6, none⟩ = some (.bool false) := HF9.out.res.cell 6
    have p6 : w9.frozen? ⟨g4, 6, none⟩ = false := HF9.out.res.frozen 6
    go_wp2
    obtain ⟨hw, hA, hK⟩ := HF9.out.fin (.int .i64 r.2.err) (.slice A9 r.2.d.length c9) (.int .i64 r.2.ver) (.int .i64 r.2.born) (.int .i64 r.2.id) (.slice A8 r.2.list.length c8) (.bool r.2.more)
    unfold set7 at hw hA hK
    refine bodyPost_ret (results_cell_row rfl _ _ g4 43 #[.int .i64 r.2.err, .slice A9 r.2.d.length c9, .int .i64 r.2.ver, .int .i64 r.2.born, .int .i64 r.2.id, .slice A8 r.2.list.length c8, .bool r.2.more] (0, 0) _ rfl hw Tryz.underlying43 rfl (by kernel_rfl)) rfl ?_
    refine ⟨L', _, rfl, ?_, ?_, hA, hK, HM.out.gs, fun i hi => (HM.out.foot i hi).imp (fun h => h) (fun h => by omega), HM.out.same, HM.out.prov.mono (by omega)⟩
    · show RepAt _ _ _ (L.pure.step ⟨kind, key, d, ver, at_, nn, id⟩).2
      rw [HR.out]
      exact HM.out.rep.mono set7_keep (by omega) (by omega)
    · show L'.pure = (L.pure.step ⟨kind, key, d, ver, at_, nn, id⟩).1
      rw [HR.out]
      exact HM.out.pure
  have b11 := eqf hk11
  by_cases hk7 : kind = 7
  · have b7 := eqt hk7
    have HKK := Lib.hid hk7
    clear hk7
    obtain ⟨r, hr⟩ : ∃ r, L.pure.create ⟨kind, key, d, ver, at_, nn, id⟩ = r := ⟨_, rfl⟩
    have HR : Hid (L.pure.step ⟨kind, key, d, ver, at_, nn, id⟩ = r) := Lib.hid (by rw [← hr, kind_step]; dsimp only; rw [if_neg (by omega), if_neg (by omega), if_neg (by omega), if_neg (by omega), if_pos HKK.out])
    have hc := create_mid HF.out.at_ HI.out hn HF.out.dat HX.out (by have := HKK.out; unfold Quiet; dsimp only; omega)
    unfold Cl.val Cl.cells Cl.pure at hc
    dsimp only at hc hr
    rw [hr] at hc
    have HC := Lib.hid hc
    clear hc hr
    go_wp2_with fail
    refine HC.out.mono ?_
    rintro e w9 ⟨v, L', rfl, hm⟩
    have HM := Lib.hid hm
    obtain ⟨A9, c9, A8, c8, rfl, -, -⟩ := hm.rep
    have HF9 := Lib.hid (HF.out.turnG HM.out.at_ HM.out.keep (fun _ h => h.1) (fun _ _ h => h) HM.out.gs)
    have q0 : w9.cell? ⟨g4, 0, none⟩ = some (.int .i64 0) := HF9.out.res.cell 0
    have p0 : w9.frozen? ⟨g4, 0, none⟩ = false := HF9.out.res.frozen 0
    have q1 : w9.cell? ⟨g4, 1, none⟩ = some (.slice none 0 0) := HF9.out.res.cell 1
    have p1 : w9.frozen? ⟨g4, 1, none⟩ = false := HF9.out.res.frozen 1
    have q2 : w9.cell? ⟨g4, 2, none⟩ = some (.int .i64 0) := HF9.out.res.cell 2
    have p2 : w9.frozen? ⟨g4, 2, none⟩ = false := HF9.out.res.frozen 2
    have q3 : w9.cell? ⟨g4, 3, none⟩ = some (.int .i64 0) := HF9.out.res.cell 3
    have p3 : w9.frozen? ⟨g4, 3, none⟩ = false := HF9.out.res.frozen 3
    have q4 : w9.cell? ⟨g4, 4, none⟩ = some (.int .i64 0) := HF9.out.res.cell 4
    have p4 : w9.frozen? ⟨g4, 4, none⟩ = false := HF9.out.res.frozen 4
    have q5 : w9.cell? ⟨g4, 5, none⟩ = some (.slice none 0 0) := HF9.out.res.cell 5
    have p5 : w9.frozen? ⟨g4, 5, none⟩ = false := HF9.out.res.frozen 5
    have q6 : w9.cell? ⟨g4, 6, none⟩ = some (.bool false) := HF9.out.res.cell 6
    have p6 : w9.frozen? ⟨g4, 6, none⟩ = false := HF9.out.res.frozen 6
    go_wp2
    obtain ⟨hw, hA, hK⟩ := HF9.out.fin (.int .i64 r.2.err) (.slice A9 r.2.d.length c9) (.int .i64 r.2.ver) (.int .i64 r.2.born) (.int .i64 r.2.id) (.slice A8 r.2.list.length c8) (.bool r.2.more)
    unfold set7 at hw hA hK
    refine bodyPost_ret (results_cell_row rfl _ _ g4 43 #[.int .i64 r.2.err, .slice A9 r.2.d.length c9, .int .i64 r.2.ver, .int .i64 r.2.born, .int .i64 r.2.id, .slice A8 r.2.list.length c8, .bool r.2.more] (0, 0) _ rfl hw Tryz.underlying43 rfl (by kernel_rfl)) rfl ?_
    refine ⟨L', _, rfl, ?_, ?_, hA, hK, HM.out.gs, fun i hi => (HM.out.foot i hi).imp (fun h => h) (fun h => by omega), HM.out.same, HM.out.prov.mono (by omega)⟩
    · show RepAt _ _ _ (L.pure.step ⟨kind, key, d, ver, at_, nn, id⟩).2
      rw [HR.out]
      exact HM.out.rep.mono set7_keep (by omega) (by omega)
    · show L'.pure = (L.pure.step ⟨kind, key, d, ver, at_, nn, id⟩).1
      rw [HR.out]
      exact HM.out.pure
  have b7 := eqf hk7
  by_cases hk6 : kind = 6
  · have b6 := eqt hk6
    have HKK := Lib.hid hk6
    clear hk6
    have HU := Lib.hid Tryz.underlying48
    have HOK : Hid ((kS).ok key) := Lib.hid HX.out.key
    have hq0 : (mget L.objs key).isSome = true → mget L.objs key = some ((mget L.objs key).getD ob0) := fun h => by cases hm : mget L.objs key with | none => rw [hm] at h; cases h | some o => rfl
    have hq1 : (mget L.objs key).isSome = false → mget L.objs key = none := fun h => by cases hm : mget L.objs key with | none => rfl | some o => rw [hm] at h; cases h
    have HE0 := elimO L.objs key
    have hod : (mget L.objs key).isSome = true → ((mget L.objs key).getD ob0).d.length ≤ L.tot := fun h => by
      have h1 := msum_mem (f := fun o : Ob => o.d.length) (mget_mem (hq0 h))
      unfold LS.tot
      dsimp only at h1
      omega
    generalize hqq : (mget L.objs key).isSome = q at *
    generalize (mget L.objs key).getD ob0 = V at *
    have HQ := Lib.hid hqq
    have HE : Hid ((mget L.objs key).elim zO evO = .agg #[.slice V.A V.d.length V.c, .int .i64 V.ver, .int .i64 V.born]) := Lib.hid HE0
    have HQ0 := Lib.hid hq0
    have HQ1 := Lib.hid hq1
    have HOD := Lib.hid hod
    clear hqq hq0 hq1 HE0 hod
    go_upto_region 17 with fail
    have Hk : Hid (∀ W, Below w1.heap.size w1 W → W.cell? ⟨L.gs, 0, none⟩ = some (.map (some L.bo)) ∧ W.cell? ⟨g3, 1, none⟩ = some (.string key) ∧ (Instr.lookup 48 (.map (some L.bo)) (.string key) true).run Tryz.prog W = .ok (.tuple #[.agg #[.slice V.A V.d.length V.c, .int .i64 V.ver, .int .i64 V.born], .bool q]) W) := Lib.hid fun W hW => ⟨(HF.out.below hW).at_.c_bo, (HF.out.below hW).call.cell 1, (HF.out.below hW).at_.mo.ask_at HU.out (zeroO _) HOK.out HE.out HQ.out⟩
    refine wp_region_T 99 (fun w' => w'.cell? ⟨L.gs, 0, none⟩ = some (.map (some L.bo)) ∧ w'.cell? ⟨g3, 1, none⟩ = some (.string key) ∧ (Instr.lookup 48 (.map (some L.bo)) (.string key) true).run Tryz.prog w' = .ok (.tuple #[.agg #[.slice V.A V.d.length V.c, .int .i64 V.ver, .int .i64 V.born], .bool q]) w') (by kernel_rfl) (Hk.out _ (below_drewN_ (Below.refl _ _) 1)) (fun hHeld => ?_)
    refine wpAnyT_take (i := 0) (oi := _) (v := ?_) rfl (by kernel_rfl) (fun _ _ _ h => h) (Or.inl ⟨by kernel_rfl, ?_⟩) (by assumption) ?_; rotate_left; (focus (intro w hSw; (try dsimp only at hSw); go_simp; (try with_reducible rfl))); (try simp only [Act.put, List.getElem_toArray, List.getElem_cons_zero, List.setIfInBounds_toArray, List.set_cons_zero, List.set_cons_succ])
    refine wpAnyT_take (i := 1) (oi := _) (v := ?_) rfl (by kernel_rfl) (fun _ _ _ h => h) (Or.inl ⟨by kernel_rfl, ?_⟩) (by assumption) ?_; rotate_left; (focus (intro w hSw; (try dsimp only at hSw); go_simp; (try with_reducible rfl))); (try simp only [Act.put, List.getElem_toArray, List.getElem_cons_zero, List.getElem_cons_succ, List.setIfInBounds_toArray, List.set_cons_zero, List.set_cons_succ])
    refine wpAnyT_take (i := 2) (oi := _) (v := ?_) rfl (by kernel_rfl) (fun _ _ _ h => h) (Or.inl ⟨by kernel_rfl, ?_⟩) (by assumption) ?_; rotate_left; (focus (intro w hSw; (try dsimp only at hSw); go_simp; (try with_reducible rfl))); (try simp only [Act.put, List.getElem_toArray, List.getElem_cons_zero, List.getElem_cons_succ, List.setIfInBounds_toArray, List.set_cons_zero, List.set_cons_succ])
    refine wpAnyT_take (i := 3) (oi := _) (v := ?_) rfl (by kernel_rfl) (fun _ _ _ h => h) (Or.inl ⟨by kernel_rfl, ?_⟩) (by assumption) ?_; rotate_left; (focus (intro w hSw; (try dsimp only at hSw); go_simp; (try with_reducible rfl))); (try simp only [Act.put, List.getElem_toArray, List.getElem_cons_zero, List.getElem_cons_succ, List.setIfInBounds_toArray, List.set_cons_zero, List.set_cons_succ])
    refine wpAnyT_take (i := 4) (oi := _) (v := ?_) rfl (by kernel_rfl) (fun _ _ _ h => h) (Or.inl ⟨by kernel_rfl, ?_⟩) (by assumption) ?_; rotate_left; (focus (intro w hSw; (try dsimp only at hSw); go_simp; (try with_reducible rfl))); (try simp only [Act.put, List.getElem_toArray, List.getElem_cons_zero, List.getElem_cons_succ, List.setIfInBounds_toArray, List.set_cons_zero, List.set_cons_succ])
    refine wpAnyT_take (i := 5) (oi := _) (v := ?_) rfl (by kernel_rfl) (fun _ _ _ h => h) (Or.inl ⟨by kernel_rfl, ?_⟩) (by assumption) ?_; rotate_left; (focus (intro w hSw; (try dsimp only at hSw); go_simp; (try with_reducible rfl))); (try simp only [Act.put, List.getElem_toArray, List.getElem_cons_zero, List.getElem_cons_succ, List.setIfInBounds_toArray, List.set_cons_zero, List.set_cons_succ])
    refine wpAnyT_take (i := 6) (oi := _) (v := ?_) rfl (by kernel_rfl) (fun _ _ _ h => h) (Or.inl ⟨by kernel_rfl, ?_⟩) (by assumption) ?_; rotate_left; (focus (intro w hSw; (try dsimp only at hSw); go_simp; (try with_reducible rfl))); (try simp only [Act.put, List.getElem_toArray, List.getElem_cons_zero, List.getElem_cons_succ, List.setIfInBounds_toArray, List.set_cons_zero, List.set_cons_succ])
    refine wpAnyT_take (i := 7) (oi := _) (v := ?_) rfl (by kernel_rfl) (fun _ _ _ h => h) (Or.inl ⟨by kernel_rfl, ?_⟩) (by assumption) ?_; rotate_left; (focus (intro w hSw; (try dsimp only at hSw); go_simp; (try with_reducible rfl))); (try simp only [Act.put, List.getElem_toArray, List.getElem_cons_zero, List.getElem_cons_succ, List.setIfInBounds_toArray, List.set_cons_zero, List.set_cons_succ])
    refine wpAnyT_take (i := 8) (oi := _) (v := ?_) rfl (by kernel_rfl) (fun _ _ _ h => h) (Or.inl ⟨by kernel_rfl, ?_⟩) (by assumption) ?_; rotate_left; (focus (intro w hSw; (try dsimp only at hSw); go_simp; (try with_reducible rfl))); (try simp only [Act.put, List.getElem_toArray, List.getElem_cons_zero, List.getElem_cons_succ, List.setIfInBounds_toArray, List.set_cons_zero, List.set_cons_succ])
    refine wpAnyT_take (i := 9) (oi := _) (v := ?_) rfl (by kernel_rfl) (fun _ _ _ h => h) (Or.inl ⟨by kernel_rfl, ?_⟩) (by assumption) ?_; rotate_left; (focus (intro w hSw; (try dsimp only at hSw); go_simp; (try with_reducible rfl))); (try simp only [Act.put, List.getElem_toArray, List.getElem_cons_zero, List.getElem_cons_succ, List.setIfInBounds_toArray, List.set_cons_zero, List.set_cons_succ])
    refine wpAnyT_one (i := 10) (by kernel_rfl) rfl (fun K hK => ?_); go_simp
    have hH2 := Hk.out _ ((below_drewN_ (Below.refl w1.heap.size w1) 1).alloc (Nat.le_refl _) (.cells #[.slice none 0 0, .int .i64 0, .int .i64 0] 53))
    refine hK.out _ _ (fun _ => hH2) ?_
    clear hK K
    (try simp only [Act.put, List.getElem_toArray, List.getElem_cons_zero, List.getElem_cons_succ, List.setIfInBounds_toArray, List.set_cons_zero, List.set_cons_succ])
    refine wpAnyT_one (i := 11) (by kernel_rfl) rfl (fun K hK => ?_); go_simp
    have hb3 : Below w1.heap.size w1 (w1.alloc (.cells #[.slice V.A V.d.length V.c, .int .i64 V.ver, .int .i64 V.born] 53)).drew := below_drewN_ ((Below.refl _ _).alloc (Nat.le_refl _) _) 1
    have hH3 := Hk.out _ hb3
    refine hK.out _ _ (fun _ => hH3) ?_
    clear hK K
    (try simp only [Act.put, List.getElem_toArray, List.getElem_cons_zero, List.getElem_cons_succ, List.setIfInBounds_toArray, List.set_cons_zero, List.set_cons_succ])
    refine wpAnyT_take (i := 12) (oi := _) (v := ?_) rfl (by kernel_rfl) (fun _ _ _ h => h) (Or.inl ⟨by kernel_rfl, ?_⟩) (by assumption) ?_; rotate_left; (focus (intro w hSw; (try dsimp only at hSw); go_simp; (try with_reducible rfl))); (try simp only [Act.put, List.getElem_toArray, List.getElem_cons_zero, List.getElem_cons_succ, List.setIfInBounds_toArray, List.set_cons_zero, List.set_cons_succ])
    refine wpAnyT_done (by kernel_rfl) ?_ _
    have HF2 := Lib.hid (HF.out.below hb3)
    clear hH2 hHeld
    have HB2 : Hid (Blk (w1.alloc (.cells #[.slice V.A V.d.length V.c, .int .i64 V.ver, .int .i64 V.born] 53)).drew w1.heap.size 53 #[.slice V.A V.d.length V.c, .int .i64 V.ver, .int .i64 V.born]) := Lib.hid (Blk.new _ _ _)
    clear hb3 hH3 Hk
    generalize (w1.alloc (.cells #[.slice V.A V.d.length V.c, .int .i64 V.ver, .int .i64 V.born] 53)).drew = w2 at *
    generalize w1.heap.size = g5 at *
    cases q with
    | false =>
      have HR : Hid (L.pure.step ⟨kind, key, d, ver, at_, nn, id⟩ = (L.pure, bad 7)) := Lib.hid (by
        rw [kind_step]; dsimp only
        rw [if_neg (by omega), if_neg (by omega), if_neg (by omega), if_neg (by omega), if_neg (by omega), if_pos HKK.out]
        unfold PS.drop
        dsimp only
        rw [pure_get, HQ1.out rfl]; rfl)
      have q0 : w2.cell? ⟨g4, 0, none⟩ = some (.int .i64 0) := HF2.out.res.cell 0
      have p0 : w2.frozen? ⟨g4, 0, none⟩ = false := HF2.out.res.frozen 0
      have q1 : w2.cell? ⟨g4, 1, none⟩ = some (.slice none 0 0) := HF2.out.res.cell 1
      have p1 : w2.frozen? ⟨g4, 1, none⟩ = false := HF2.out.res.frozen 1
      have q2 : w2.cell? ⟨g4, 2, none⟩ = some (.int .i64 0) := HF2.out.res.cell 2
      have p2 : w2.frozen? ⟨g4, 2, none⟩ = false := HF2.out.res.frozen 2
      have q3 : w2.cell? ⟨g4, 3, none⟩ = some (.int .i64 0) := HF2.out.res.cell 3
      have p3 : w2.frozen? ⟨g4, 3, none⟩ = false := HF2.out.res.frozen 3
      have q4 : w2.cell? ⟨g4, 4, none⟩ = some (.int .i64 0) := HF2.out.res.cell 4
      have p4 : w2.frozen? ⟨g4, 4, none⟩ = false := HF2.out.res.frozen 4
      have q5 : w2.cell? ⟨g4, 5, none⟩ = some (.slice none 0 0) := HF2.out.res.cell 5
      have p5 : w2.frozen? ⟨g4, 5, none⟩ = false := HF2.out.res.frozen 5
      have q6 : w2.cell? ⟨g4, 6, none⟩ = some (.bool false) := HF2.out.res.cell 6
      have p6 : w2.frozen? ⟨g4, 6, none⟩ = false := HF2.out.res.frozen 6
      go_wp2
      obtain ⟨hw, hA, hK⟩ := HF2.out.fin (.int .i64 7) (.slice none 0 0) (.int .i64 0) (.int .i64 0) (.int .i64 0) (.slice none 0 0) (.bool false)
      unfold set7 at hw hA hK
      refine bodyPost_ret (results_cell_row rfl _ _ g4 43 #[.int .i64 7, .slice none 0 0, .int .i64 0, .int .i64 0, .int .i64 0, .slice none 0 0, .bool false] (0, 0) _ rfl hw Tryz.underlying43 rfl (by kernel_rfl)) rfl ?_
      refine ⟨L, _, rfl, ?_, ?_, hA, hK, rfl, fun i hi => .inl (hi), fun _ => rfl, Prov.refl _ _⟩
      · show RepAt _ _ _ (L.pure.step ⟨kind, key, d, ver, at_, nn, id⟩).2
        rw [HR.out]
        exact rep_plain 7 0 0 0
      · show L.pure = (L.pure.step ⟨kind, key, d, ver, at_, nn, id⟩).1
        exact (rfl : L.pure = _).trans (congrArg Prod.fst HR.out).symm
    | true =>
      have HR : Hid (L.pure.step ⟨kind, key, d, ver, at_, nn, id⟩ = ({ L.pure with all := L.pure.all - (V.d.length : Int), objs := mdel L.pure.objs key }, bad 0)) := Lib.hid (by
        rw [kind_step]; dsimp only
        rw [if_neg (by omega), if_neg (by omega), if_neg (by omega), if_neg (by omega), if_neg (by omega), if_pos HKK.out]
        unfold PS.drop
        dsimp only
        rw [pure_get, HQ0.out rfl]; rfl)
      have hod := HOD.out rfl
      have hall := HI.out.all
      have hbig := HI.out.big
      have r1 : IntKind.i64.wrap (L.all - (V.d.length : Int)) = L.all - (V.d.length : Int) := by rw [IntKind.wrap_i64]; omega
      clear hod hall hbig
      go_upto_region 20 with fail
      have hHA : w2.drew.cell? ⟨L.gs, 5, none⟩ = some (.int .i64 L.all) ∧ w2.drew.cell? ⟨g5, 0, none⟩ = some (.slice V.A V.d.length V.c) := ⟨HF2.out.at_.c_all, HB2.out.cell 0⟩
      have f5 : w2.drew.frozen? ⟨L.gs, 5, none⟩ = false := HF2.out.at_.blk.frozen 5
      refine wp_region_T 10 (fun w' => w'.cell? ⟨L.gs, 5, none⟩ = some (.int .i64 L.all) ∧ w'.cell? ⟨g5, 0, none⟩ = some (.slice V.A V.d.length V.c)) (by kernel_rfl) hHA (fun hHeld => ?_)
      refine wpAnyT_take (i := 0) (oi := _) (v := ?_) rfl (by kernel_rfl) (fun _ _ _ h => h) (Or.inl ⟨by kernel_rfl, ?_⟩) (by assumption) ?_; rotate_left; (focus (intro w hSw; (try dsimp only at hSw); go_simp; (try with_reducible rfl))); (try simp only [Act.put, List.getElem_toArray, List.getElem_cons_zero, List.setIfInBounds_toArray, List.set_cons_zero, List.set_cons_succ])
      refine wpAnyT_take (i := 1) (oi := _) (v := ?_) rfl (by kernel_rfl) (fun _ _ _ h => h) (Or.inl ⟨by kernel_rfl, ?_⟩) (by assumption) ?_; rotate_left; (focus (intro w hSw; (try dsimp only at hSw); go_simp; (try with_reducible rfl))); (try simp only [Act.put, List.getElem_toArray, List.getElem_cons_zero, List.getElem_cons_succ, List.setIfInBounds_toArray, List.set_cons_zero, List.set_cons_succ])
      refine wpAnyT_take (i := 2) (oi := _) (v := ?_) rfl (by kernel_rfl) (fun _ _ _ h => h) (Or.inl ⟨by kernel_rfl, ?_⟩) (by assumption) ?_; rotate_left; (focus (intro w hSw; (try dsimp only at hSw); go_simp; (try with_reducible rfl))); (try simp only [Act.put, List.getElem_toArray, List.getElem_cons_zero, List.getElem_cons_succ, List.setIfInBounds_toArray, List.set_cons_zero, List.set_cons_succ])
      refine wpAnyT_take (i := 3) (oi := _) (v := ?_) rfl (by kernel_rfl) (fun _ _ _ h => h) (Or.inl ⟨by kernel_rfl, ?_⟩) (by assumption) ?_; rotate_left; (focus (intro w hSw; (try dsimp only at hSw); go_simp; (try with_reducible rfl))); (try simp only [Act.put, List.getElem_toArray, List.getElem_cons_zero, List.getElem_cons_succ, List.setIfInBounds_toArray, List.set_cons_zero, List.set_cons_succ])
      refine wpAnyT_take (i := 4) (oi := _) (v := ?_) rfl (by kernel_rfl) (fun _ _ _ h => h) (Or.inl ⟨by kernel_rfl, ?_⟩) (by assumption) ?_; rotate_left; (focus (intro w hSw; (try dsimp only at hSw); go_simp; (try with_reducible rfl))); (try simp only [Act.put, List.getElem_toArray, List.getElem_cons_zero, List.getElem_cons_succ, List.setIfInBounds_toArray, List.set_cons_zero, List.set_cons_succ])
      refine wpAnyT_take (i := 5) (oi := _) (v := ?_) rfl (by kernel_rfl) (fun _ _ _ h => h) (Or.inl ⟨by kernel_rfl, ?_⟩) (by assumption) ?_; rotate_left; (focus (intro w hSw; (try dsimp only at hSw); go_simp; (try with_reducible rfl))); (try simp only [Act.put, List.getElem_toArray, List.getElem_cons_zero, List.getElem_cons_succ, List.setIfInBounds_toArray, List.set_cons_zero, List.set_cons_succ])
      refine wpAnyT_take (i := 6) (oi := _) (v := ?_) rfl (by kernel_rfl) (fun _ _ _ h => h) (Or.inl ⟨by kernel_rfl, ?_⟩) (by assumption) ?_; rotate_left; (focus (intro w hSw; (try dsimp only at hSw); go_simp; (try with_reducible rfl))); (try simp only [Act.put, List.getElem_toArray, List.getElem_cons_zero, List.getElem_cons_succ, List.setIfInBounds_toArray, List.set_cons_zero, List.set_cons_succ])
      refine wpAnyT_take (i := 7) (oi := _) (v := ?_) rfl (by kernel_rfl) (fun _ _ _ h => h) (Or.inl ⟨by kernel_rfl, ?_⟩) (by assumption) ?_; rotate_left; (focus (intro w hSw; (try dsimp only at hSw); go_simp; (try with_reducible rfl))); (try simp only [Act.put, List.getElem_toArray, List.getElem_cons_zero, List.getElem_cons_succ, List.setIfInBounds_toArray, List.set_cons_zero, List.set_cons_succ])
      refine wpAnyT_one (i := 8) (by kernel_rfl) rfl (fun K hK => ?_); go_simp; refine hK.out _ _ (fun _ => hHeld) ?_; clear hK K; (try simp only [Act.put, List.getElem_toArray, List.getElem_cons_zero, List.getElem_cons_succ, List.setIfInBounds_toArray, List.set_cons_zero, List.set_cons_succ])
      refine wpAnyT_one (i := 9) (by kernel_rfl) rfl (fun K hK => ?_); go_simp; refine hK.out _ _ (fun _ => hHeld) ?_; clear hK K; (try simp only [Act.put, List.getElem_toArray, List.getElem_cons_zero, List.getElem_cons_succ, List.setIfInBounds_toArray, List.set_cons_zero, List.set_cons_succ])
      refine wpAnyT_one (i := 10) (by kernel_rfl) rfl (fun K hK => ?_); go_simp
      refine hK.out _ _ (fun h => absurd rfl h) (wpAnyT_done (by kernel_rfl) ?_ _)
      clear hK K
      have hk3 : Keep L.foot w2 (w2.drew.setCell ⟨L.gs, 5, none⟩ (.int .i64 (L.all - (V.d.length : Int)))) := ((Keep.refl _ _).drewN 1).setCell (.inl (.inl rfl)) _
      have HF3 := Lib.hid (HF2.out.turnTo (L' := { L with all := L.all - (V.d.length : Int) }) ((HF2.out.at_.drewN 1).set rfl rfl rfl rfl rfl rfl) hk3 (fun _ _ h => ⟨h, by have := HKK.out; unfold Quiet; dsimp only; omega⟩) rfl)
      have e3 : (w2.drewN 1).setCell ⟨L.gs, 5, none⟩ (.int .i64 (L.all - (V.d.length : Int))) = (w2.setCell ⟨L.gs, 5, none⟩ (.int .i64 (L.all - (V.d.length : Int)))).drew := rfl
      rw [e3] at HF3
      clear hk3 hHA f5 hHeld HF2 HB2 e3
      generalize (w2.setCell ⟨L.gs, 5, none⟩ (.int .i64 (L.all - (V.d.length : Int)))).drew = w3 at *
      go_upto_region 21 with fail
      have HF4 := Lib.hid (HF3.out.below (below_drewN_ (Below.refl w3.heap.size w3) 1))
      have e4 : w3.drewN 1 = w3.drew := rfl
      rw [e4] at HF4
      have hHB : w3.drew.cell? ⟨L.gs, 0, none⟩ = some (.map (some L.bo)) ∧ w3.drew.cell? ⟨g3, 1, none⟩ = some (.string key) := ⟨HF4.out.at_.c_bo, HF4.out.call.cell 1⟩
      refine wp_region_T 99 (fun w' => w'.cell? ⟨L.gs, 0, none⟩ = some (.map (some L.bo)) ∧ w'.cell? ⟨g3, 1, none⟩ = some (.string key)) (by kernel_rfl) hHB (fun hHeld => ?_)
      refine wpAnyT_take (i := 0) (oi := _) (v := ?_) rfl (by kernel_rfl) (fun _ _ _ h => h) (Or.inl ⟨by kernel_rfl, ?_⟩) (by assumption) ?_; rotate_left; (focus (intro w hSw; (try dsimp only at hSw); go_simp; (try with_reducible rfl))); (try simp only [Act.put, List.getElem_toArray, List.getElem_cons_zero, List.setIfInBounds_toArray, List.set_cons_zero, List.set_cons_succ])
      refine wpAnyT_take (i := 1) (oi := _) (v := ?_) rfl (by kernel_rfl) (fun _ _ _ h => h) (Or.inl ⟨by kernel_rfl, ?_⟩) (by assumption) ?_; rotate_left; (focus (intro w hSw; (try dsimp only at hSw); go_simp; (try with_reducible rfl))); (try simp only [Act.put, List.getElem_toArray, List.getElem_cons_zero, List.getElem_cons_succ, List.setIfInBounds_toArray, List.set_cons_zero, List.set_cons_succ])
      refine wpAnyT_take (i := 2) (oi := _) (v := ?_) rfl (by kernel_rfl) (fun _ _ _ h => h) (Or.inl ⟨by kernel_rfl, ?_⟩) (by assumption) ?_; rotate_left; (focus (intro w hSw; (try dsimp only at hSw); go_simp; (try with_reducible rfl))); (try simp only [Act.put, List.getElem_toArray, List.getElem_cons_zero, List.getElem_cons_succ, List.setIfInBounds_toArray, List.set_cons_zero, List.set_cons_succ])
      refine wpAnyT_take (i := 3) (oi := _) (v := ?_) rfl (by kernel_rfl) (fun _ _ _ h => h) (Or.inl ⟨by kernel_rfl, ?_⟩) (by assumption) ?_; rotate_left; (focus (intro w hSw; (try dsimp only at hSw); go_simp; (try with_reducible rfl))); (try simp only [Act.put, List.getElem_toArray, List.getElem_cons_zero, List.getElem_cons_succ, List.setIfInBounds_toArray, List.set_cons_zero, List.set_cons_succ])
      refine wpAnyT_take (i := 4) (oi := _) (v := ?_) rfl (by kernel_rfl) (fun _ _ _ h => h) (Or.inl ⟨by kernel_rfl, ?_⟩) (by assumption) ?_; rotate_left; (focus (intro w hSw; (try dsimp only at hSw); go_simp; (try with_reducible rfl))); (try simp only [Act.put, List.getElem_toArray, List.getElem_cons_zero, List.getElem_cons_succ, List.setIfInBounds_toArray, List.set_cons_zero, List.set_cons_succ])
      refine wpAnyT_take (i := 5) (oi := _) (v := ?_) rfl (by kernel_rfl) (fun _ _ _ h => h) (Or.inl ⟨by kernel_rfl, ?_⟩) (by assumption) ?_; rotate_left; (focus (intro w hSw; (try dsimp only at hSw); go_simp; (try with_reducible rfl))); (try simp only [Act.put, List.getElem_toArray, List.getElem_cons_zero, List.getElem_cons_succ, List.setIfInBounds_toArray, List.set_cons_zero, List.set_cons_succ])
      obtain ⟨w5, hrun, hm5, hg5, hs5⟩ := HF4.out.at_.mo.del_run HU.out HOK.out 0
      have hrun' : (Builtin.delete_ #[48, 9] 0 #[.map (some L.bo), .string key]).run Tryz.prog w3.drew = .ok (.tuple #[]) w5 := hrun
      have hA5 : At w5 { L with all := L.all - (V.d.length : Int), objs := mdel L.objs key } := HF4.out.at_.objs hg5 hm5 fun p hp => HF4.out.at_.objs_keep hg5 p (mdel_sub hp)
      have hk5 : Keep L.foot w3.drew w5 := Keep.of_grown hg5 fun i e => by injection e with e; exact .inr (.inl e)
      have HF5 := Lib.hid (HF4.out.turnTo hA5 hk5 (fun _ _ h => ⟨h, by have := HKK.out; unfold Quiet; dsimp only; omega⟩) rfl)
      have hH5 : w5.cell? ⟨L.gs, 0, none⟩ = some (.map (some L.bo)) ∧ w5.cell? ⟨g3, 1, none⟩ = some (.string key) := ⟨HF5.out.at_.c_bo, HF5.out.call.cell 1⟩
      refine wpAnyT_one (i := 6) (by kernel_rfl) rfl (fun K hK => ?_); go_simp
      refine hK.out _ _ (fun _ => hH5) (wpAnyT_done (by kernel_rfl) ?_ _)
      clear hK K hH5
      clear hrun hrun' hm5 hg5 hs5 hA5 hk5 HF3 HF4 e4 hHB hHeld
      have q0 : w5.cell? ⟨g4, 0, none⟩ = some (.int .i64 0) := HF5.out.res.cell 0
      have p0 : w5.frozen? ⟨g4, 0, none⟩ = false := HF5.out.res.frozen 0
      have q1 : w5.cell? ⟨g4, 1, none⟩ = some (.slice none 0 0) := HF5.out.res.cell 1
      have p1 : w5.frozen? ⟨g4, 1, none⟩ = false := HF5.out.res.frozen 1
      have q2 : w5.cell? ⟨g4, 2, none⟩ = some (.int .i64 0) := HF5.out.res.cell 2
      have p2 : w5.frozen? ⟨g4, 2, none⟩ = false := HF5.out.res.frozen 2
      have q3 : w5.cell? ⟨g4, 3, none⟩ = some (.int .i64 0) := HF5.out.res.cell 3
      have p3 : w5.frozen? ⟨g4, 3, none⟩ = false := HF5.out.res.frozen 3
      have q4 : w5.cell? ⟨g4, 4, none⟩ = some (.int .i64 0) := HF5.out.res.cell 4
      have p4 : w5.frozen? ⟨g4, 4, none⟩ = false := HF5.out.res.frozen 4
      have q5 : w5.cell? ⟨g4, 5, none⟩ = some (.slice none 0 0) := HF5.out.res.cell 5
      have p5 : w5.frozen? ⟨g4, 5, none⟩ = false := HF5.out.res.frozen 5
      have q6 : w5.cell? ⟨g4, 6, none⟩ = some (.bool false) := HF5.out.res.cell 6
      have p6 : w5.frozen? ⟨g4, 6, none⟩ = false := HF5.out.res.frozen 6
      go_wp2
      obtain ⟨hw, hA, hK⟩ := HF5.out.fin (.int .i64 0) (.slice none 0 0) (.int .i64 0) (.int .i64 0) (.int .i64 0) (.slice none 0 0) (.bool false)
      unfold set7 at hw hA hK
      refine bodyPost_ret (results_cell_row rfl _ _ g4 43 #[.int .i64 0, .slice none 0 0, .int .i64 0, .int .i64 0, .int .i64 0, .slice none 0 0, .bool false] (0, 0) _ rfl hw Tryz.underlying43 rfl (by kernel_rfl)) rfl ?_
      refine ⟨({ L with all := L.all - (V.d.length : Int), objs := mdel L.objs key } : LS), _, rfl, ?_, ?_, hA, hK, rfl, fun i hi => .inl (hi), fun h => absurd h (by have := HKK.out; unfold Quiet; dsimp only; omega), Prov.sub (fun _ h => mdel_sub h) (fun _ h => h)⟩
      · show RepAt _ _ _ (L.pure.step ⟨kind, key, d, ver, at_, nn, id⟩).2
        rw [HR.out]
        exact rep_plain 0 0 0 0
      · show ({ L with all := L.all - (V.d.length : Int), objs := mdel L.objs key } : LS).pure = (L.pure.step ⟨kind, key, d, ver, at_, nn, id⟩).1
        exact (pure_drop L key _ : ({ L with all := L.all - (V.d.length : Int), objs := mdel L.objs key } : LS).pure = _).trans (congrArg Prod.fst HR.out).symm
  have b6 := eqf hk6
  by_cases hk8 : kind = 8
  · have b8 := eqt hk8
    have HKK := Lib.hid hk8
    clear hk8
    have HU := Lib.hid Tryz.underlying49
    have HOK : Hid ((kI).ok id) := Lib.hid HX.out.id
    cases hm : mget L.ups id with
    | none =>
      have HE : Hid ((mget L.ups id).elim zU evU = .agg #[.string ⟨#[]⟩, .int .i64 0, .map none]) := Lib.hid (by rw [hm]; rfl)
      have HQ : Hid ((mget L.ups id).isSome = false) := Lib.hid (by rw [hm]; rfl)
      have HR : Hid (L.pure.step ⟨kind, key, d, ver, at_, nn, id⟩ = (L.pure, bad 7)) := Lib.hid (by
        rw [kind_step]; dsimp only
        rw [if_neg (by omega), if_neg (by omega), if_neg (by omega), if_neg (by omega), if_neg (by omega), if_neg (by omega), if_pos (.inl HKK.out)]
        unfold PS.upload
        dsimp only
        rw [pure_up, hm]; rfl)
      clear hm
      go_upto_region 26 with fail
      have Hk : Hid (∀ W, Below w1.heap.size w1 W → W.cell? ⟨L.gs, 1, none⟩ = some (.map (some L.bu)) ∧ W.cell? ⟨g3, 6, none⟩ = some (.int .i64 id) ∧ (Instr.lookup 49 (.map (some L.bu)) (.int .i64 id) true).run Tryz.prog W = .ok (.tuple #[.agg #[.string ⟨#[]⟩, .int .i64 0, .map none], .bool false]) W) := Lib.hid fun W hW => ⟨(HF.out.below hW).at_.c_bu, (HF.out.below hW).call.cell 6, (HF.out.below hW).at_.mu.ask_at HU.out (zeroU _) HOK.out HE.out HQ.out⟩
      refine wp_region_T 99 (fun w' => w'.cell? ⟨L.gs, 1, none⟩ = some (.map (some L.bu)) ∧ w'.cell? ⟨g3, 6, none⟩ = some (.int .i64 id) ∧ (Instr.lookup 49 (.map (some L.bu)) (.int .i64 id) true).run Tryz.prog w' = .ok (.tuple #[.agg #[.string ⟨#[]⟩, .int .i64 0, .map none], .bool false]) w') (by kernel_rfl) (Hk.out _ (below_drewN_ (Below.refl _ _) 1)) (fun hHeld => ?_)
      refine wpAnyT_take (i := 0) (oi := _) (v := ?_) rfl (by kernel_rfl) (fun _ _ _ h => h) (Or.inl ⟨by kernel_rfl, ?_⟩) (by assumption) ?_; rotate_left; (focus (intro w hSw; (try dsimp only at hSw); go_simp; (try with_reducible rfl))); (try simp only [Act.put, List.getElem_toArray, List.getElem_cons_zero, List.setIfInBounds_toArray, List.set_cons_zero, List.set_cons_succ])
      refine wpAnyT_take (i := 1) (oi := _) (v := ?_) rfl (by kernel_rfl) (fun _ _ _ h => h) (Or.inl ⟨by kernel_rfl, ?_⟩) (by assumption) ?_; rotate_left; (focus (intro w hSw; (try dsimp only at hSw); go_simp; (try with_reducible rfl))); (try simp only [Act.put, List.getElem_toArray, List.getElem_cons_zero, List.getElem_cons_succ, List.setIfInBounds_toArray, List.set_cons_zero, List.set_cons_succ])
      refine wpAnyT_take (i := 2) (oi := _) (v := ?_) rfl (by kernel_rfl) (fun _ _ _ h => h) (Or.inl ⟨by kernel_rfl, ?_⟩) (by assumption) ?_; rotate_left; (focus (intro w hSw; (try dsimp only at hSw); go_simp; (try with_reducible rfl))); (try simp only [Act.put, List.getElem_toArray, List.getElem_cons_zero, List.getElem_cons_succ, List.setIfInBounds_toArray, List.set_cons_zero, List.set_cons_succ])
      refine wpAnyT_take (i := 3) (oi := _) (v := ?_) rfl (by kernel_rfl) (fun _ _ _ h => h) (Or.inl ⟨by kernel_rfl, ?_⟩) (by assumption) ?_; rotate_left; (focus (intro w hSw; (try dsimp only at hSw); go_simp; (try with_reducible rfl))); (try simp only [Act.put, List.getElem_toArray, List.getElem_cons_zero, List.getElem_cons_succ, List.setIfInBounds_toArray, List.set_cons_zero, List.set_cons_succ])
      refine wpAnyT_take (i := 4) (oi := _) (v := ?_) rfl (by kernel_rfl) (fun _ _ _ h => h) (Or.inl ⟨by kernel_rfl, ?_⟩) (by assumption) ?_; rotate_left; (focus (intro w hSw; (try dsimp only at hSw); go_simp; (try with_reducible rfl))); (try simp only [Act.put, List.getElem_toArray, List.getElem_cons_zero, List.getElem_cons_succ, List.setIfInBounds_toArray, List.set_cons_zero, List.set_cons_succ])
      refine wpAnyT_take (i := 5) (oi := _) (v := ?_) rfl (by kernel_rfl) (fun _ _ _ h => h) (Or.inl ⟨by kernel_rfl, ?_⟩) (by assumption) ?_; rotate_left; (focus (intro w hSw; (try dsimp only at hSw); go_simp; (try with_reducible rfl))); (try simp only [Act.put, List.getElem_toArray, List.getElem_cons_zero, List.getElem_cons_succ, List.setIfInBounds_toArray, List.set_cons_zero, List.set_cons_succ])
      refine wpAnyT_take (i := 6) (oi := _) (v := ?_) rfl (by kernel_rfl) (fun _ _ _ h => h) (Or.inl ⟨by kernel_rfl, ?_⟩) (by assumption) ?_; rotate_left; (focus (intro w hSw; (try dsimp only at hSw); go_simp; (try with_reducible rfl))); (try simp only [Act.put, List.getElem_toArray, List.getElem_cons_zero, List.getElem_cons_succ, List.setIfInBounds_toArray, List.set_cons_zero, List.set_cons_succ])
      refine wpAnyT_take (i := 7) (oi := _) (v := ?_) rfl (by kernel_rfl) (fun _ _ _ h => h) (Or.inl ⟨by kernel_rfl, ?_⟩) (by assumption) ?_; rotate_left; (focus (intro w hSw; (try dsimp only at hSw); go_simp; (try with_reducible rfl))); (try simp only [Act.put, List.getElem_toArray, List.getElem_cons_zero, List.getElem_cons_succ, List.setIfInBounds_toArray, List.set_cons_zero, List.set_cons_succ])
      refine wpAnyT_take (i := 8) (oi := _) (v := ?_) rfl (by kernel_rfl) (fun _ _ _ h => h) (Or.inl ⟨by kernel_rfl, ?_⟩) (by assumption) ?_; rotate_left; (focus (intro w hSw; (try dsimp only at hSw); go_simp; (try with_reducible rfl))); (try simp only [Act.put, List.getElem_toArray, List.getElem_cons_zero, List.getElem_cons_succ, List.setIfInBounds_toArray, List.set_cons_zero, List.set_cons_succ])
      refine wpAnyT_take (i := 9) (oi := _) (v := ?_) rfl (by kernel_rfl) (fun _ _ _ h => h) (Or.inl ⟨by kernel_rfl, ?_⟩) (by assumption) ?_; rotate_left; (focus (intro w hSw; (try dsimp only at hSw); go_simp; (try with_reducible rfl))); (try simp only [Act.put, List.getElem_toArray, List.getElem_cons_zero, List.getElem_cons_succ, List.setIfInBounds_toArray, List.set_cons_zero, List.set_cons_succ])
      refine wpAnyT_one (i := 10) (by kernel_rfl) rfl (fun K hK => ?_); go_simp
      have hH2 := Hk.out _ ((below_drewN_ (Below.refl w1.heap.size w1) 1).alloc (Nat.le_refl _) (.cells #[.string ⟨#[]⟩, .int .i64 0, .map none] 57))
      refine hK.out _ _ (fun _ => hH2) ?_
      clear hK K
      (try simp only [Act.put, List.getElem_toArray, List.getElem_cons_zero, List.getElem_cons_succ, List.setIfInBounds_toArray, List.set_cons_zero, List.set_cons_succ])
      refine wpAnyT_one (i := 11) (by kernel_rfl) rfl (fun K hK => ?_); go_simp
      have hb3 : Below w1.heap.size w1 (w1.alloc (.cells #[.string ⟨#[]⟩, .int .i64 0, .map none] 57)).drew := below_drewN_ ((Below.refl _ _).alloc (Nat.le_refl _) _) 1
      have hH3 := Hk.out _ hb3
      refine hK.out _ _ (fun _ => hH3) ?_
      clear hK K
      (try simp only [Act.put, List.getElem_toArray, List.getElem_cons_zero, List.getElem_cons_succ, List.setIfInBounds_toArray, List.set_cons_zero, List.set_cons_succ])
      refine wpAnyT_take (i := 12) (oi := _) (v := ?_) rfl (by kernel_rfl) (fun _ _ _ h => h) (Or.inl ⟨by kernel_rfl, ?_⟩) (by assumption) ?_; rotate_left; (focus (intro w hSw; (try dsimp only at hSw); go_simp; (try with_reducible rfl))); (try simp only [Act.put, List.getElem_toArray, List.getElem_cons_zero, List.getElem_cons_succ, List.setIfInBounds_toArray, List.set_cons_zero, List.set_cons_succ])
      refine wpAnyT_done (by kernel_rfl) ?_ _
      have HF2 := Lib.hid (HF.out.below hb3)
      clear hH2 hHeld
      clear hb3 hH3 Hk
      generalize (w1.alloc (.cells #[.string ⟨#[]⟩, .int .i64 0, .map none] 57)).drew = w2 at *
      have q0 : w2.cell? ⟨g4, 0, none⟩ = some (.int .i64 0) := HF2.out.res.cell 0
      have p0 : w2.frozen? ⟨g4, 0, none⟩ = false := HF2.out.res.frozen 0
      have q1 : w2.cell? ⟨g4, 1, none⟩ = some (.slice none 0 0) := HF2.out.res.cell 1
      have p1 : w2.frozen? ⟨g4, 1, none⟩ = false := HF2.out.res.frozen 1
      have q2 : w2.cell? ⟨g4, 2, none⟩ = some (.int .i64 0) := HF2.out.res.cell 2
      have p2 : w2.frozen? ⟨g4, 2, none⟩ = false := HF2.out.res.frozen 2
      have q3 : w2.cell? ⟨g4, 3, none⟩ = some (.int .i64 0) := HF2.out.res.cell 3
      have p3 : w2.frozen? ⟨g4, 3, none⟩ = false := HF2.out.res.frozen 3
      have q4 : w2.cell? ⟨g4, 4, none⟩ = some (.int .i64 0) := HF2.out.res.cell 4
      have p4 : w2.frozen? ⟨g4, 4, none⟩ = false := HF2.out.res.frozen 4
      have q5 : w2.cell? ⟨g4, 5, none⟩ = some (.slice none 0 0) := HF2.out.res.cell 5
      have p5 : w2.frozen? ⟨g4, 5, none⟩ = false := HF2.out.res.frozen 5
      have q6 : w2.cell? ⟨g4, 6, none⟩ = some (.bool false) := HF2.out.res.cell 6
      have p6 : w2.frozen? ⟨g4, 6, none⟩ = false := HF2.out.res.frozen 6
      go_wp2
      obtain ⟨hw, hA, hK⟩ := HF2.out.fin (.int .i64 7) (.slice none 0 0) (.int .i64 0) (.int .i64 0) (.int .i64 0) (.slice none 0 0) (.bool false)
      unfold set7 at hw hA hK
      refine bodyPost_ret (results_cell_row rfl _ _ g4 43 #[.int .i64 7, .slice none 0 0, .int .i64 0, .int .i64 0, .int .i64 0, .slice none 0 0, .bool false] (0, 0) _ rfl hw Tryz.underlying43 rfl (by kernel_rfl)) rfl ?_
      refine ⟨L, _, rfl, ?_, ?_, hA, hK, rfl, fun i hi => .inl (hi), fun _ => rfl, Prov.refl _ _⟩
      · show RepAt _ _ _ (L.pure.step ⟨kind, key, d, ver, at_, nn, id⟩).2
        rw [HR.out]
        exact rep_plain 7 0 0 0
      · show L.pure = (L.pure.step ⟨kind, key, d, ver, at_, nn, id⟩).1
        exact (rfl : L.pure = _).trans (congrArg Prod.fst HR.out).symm
    | some u =>
      have HE : Hid ((mget L.ups id).elim zU evU = .agg #[.string u.key, .int .i64 u.born, .map (some u.b)]) := Lib.hid (by rw [hm]; rfl)
      have HQ : Hid ((mget L.ups id).isSome = true) := Lib.hid (by rw [hm]; rfl)
      have HUU := Lib.hid hm
      clear hm
      go_upto_region 26 with fail
      have Hk : Hid (∀ W, Below w1.heap.size w1 W → W.cell? ⟨L.gs, 1, none⟩ = some (.map (some L.bu)) ∧ W.cell? ⟨g3, 6, none⟩ = some (.int .i64 id) ∧ (Instr.lookup 49 (.map (some L.bu)) (.int .i64 id) true).run Tryz.prog W = .ok (.tuple #[.agg #[.string u.key, .int .i64 u.born, .map (some u.b)], .bool true]) W) := Lib.hid fun W hW => ⟨(HF.out.below hW).at_.c_bu, (HF.out.below hW).call.cell 6, (HF.out.below hW).at_.mu.ask_at HU.out (zeroU _) HOK.out HE.out HQ.out⟩
      refine wp_region_T 99 (fun w' => w'.cell? ⟨L.gs, 1, none⟩ = some (.map (some L.bu)) ∧ w'.cell? ⟨g3, 6, none⟩ = some (.int .i64 id) ∧ (Instr.lookup 49 (.map (some L.bu)) (.int .i64 id) true).run Tryz.prog w' = .ok (.tuple #[.agg #[.string u.key, .int .i64 u.born, .map (some u.b)], .bool true]) w') (by kernel_rfl) (Hk.out _ (below_drewN_ (Below.refl _ _) 1)) (fun hHeld => ?_)
      refine wpAnyT_take (i := 0) (oi := _) (v := ?_) rfl (by kernel_rfl) (fun _ _ _ h => h) (Or.inl ⟨by kernel_rfl, ?_⟩) (by assumption) ?_; rotate_left; (focus (intro w hSw; (try dsimp only at hSw); go_simp; (try with_reducible rfl))); (try simp only [Act.put, List.getElem_toArray, List.getElem_cons_zero, List.setIfInBounds_toArray, List.set_cons_zero, List.set_cons_succ])
      refine wpAnyT_take (i := 1) (oi := _) (v := ?_) rfl (by kernel_rfl) (fun _ _ _ h => h) (Or.inl ⟨by kernel_rfl, ?_⟩) (by assumption) ?_; rotate_left; (focus (intro w hSw; (try dsimp only at hSw); go_simp; (try with_reducible rfl))); (try simp only [Act.put, List.getElem_toArray, List.getElem_cons_zero, List.getElem_cons_succ, List.setIfInBounds_toArray, List.set_cons_zero, List.set_cons_succ])
      refine wpAnyT_take (i := 2) (oi := _) (v := ?_) rfl (by kernel_rfl) (fun _ _ _ h => h) (Or.inl ⟨by kernel_rfl, ?_⟩) (by assumption) ?_; rotate_left; (focus (intro w hSw; (try dsimp only at hSw); go_simp; (try with_reducible rfl))); (try simp only [Act.put, List.getElem_toArray, List.getElem_cons_zero, List.getElem_cons_succ, List.setIfInBounds_toArray, List.set_cons_zero, List.set_cons_succ])
      refine wpAnyT_take (i := 3) (oi := _) (v := ?_) rfl (by kernel_rfl) (fun _ _ _ h => h) (Or.inl ⟨by kernel_rfl, ?_⟩) (by assumption) ?_; rotate_left; (focus (intro w hSw; (try dsimp only at hSw); go_simp; (try with_reducible rfl))); (try simp only [Act.put, List.getElem_toArray, List.getElem_cons_zero, List.getElem_cons_succ, List.setIfInBounds_toArray, List.set_cons_zero, List.set_cons_succ])
      refine wpAnyT_take (i := 4) (oi := _) (v := ?_) rfl (by kernel_rfl) (fun _ _ _ h => h) (Or.inl ⟨by kernel_rfl, ?_⟩) (by assumption) ?_; rotate_left; (focus (intro w hSw; (try dsimp only at hSw); go_simp; (try with_reducible rfl))); (try simp only [Act.put, List.getElem_toArray, List.getElem_cons_zero, List.getElem_cons_succ, List.setIfInBounds_toArray, List.set_cons_zero, List.set_cons_succ])
      refine wpAnyT_take (i := 5) (oi := _) (v := ?_) rfl (by kernel_rfl) (fun _ _ _ h => h) (Or.inl ⟨by kernel_rfl, ?_⟩) (by assumption) ?_; rotate_left; (focus (intro w hSw; (try dsimp only at hSw); go_simp; (try with_reducible rfl))); (try simp only [Act.put, List.getElem_toArray, List.getElem_cons_zero, List.getElem_cons_succ, List.setIfInBounds_toArray, List.set_cons_zero, List.set_cons_succ])
      refine wpAnyT_take (i := 6) (oi := _) (v := ?_) rfl (by kernel_rfl) (fun _ _ _ h => h) (Or.inl ⟨by kernel_rfl, ?_⟩) (by assumption) ?_; rotate_left; (focus (intro w hSw; (try dsimp only at hSw); go_simp; (try with_reducible rfl))); (try simp only [Act.put, List.getElem_toArray, List.getElem_cons_zero, List.getElem_cons_succ, List.setIfInBounds_toArray, List.set_cons_zero, List.set_cons_succ])
      refine wpAnyT_take (i := 7) (oi := _) (v := ?_) rfl (by kernel_rfl) (fun _ _ _ h => h) (Or.inl ⟨by kernel_rfl, ?_⟩) (by assumption) ?_; rotate_left; (focus (intro w hSw; (try dsimp only at hSw); go_simp; (try with_reducible rfl))); (try simp only [Act.put, List.getElem_toArray, List.getElem_cons_zero, List.getElem_cons_succ, List.setIfInBounds_toArray, List.set_cons_zero, List.set_cons_succ])
      refine wpAnyT_take (i := 8) (oi := _) (v := ?_) rfl (by kernel_rfl) (fun _ _ _ h => h) (Or.inl ⟨by kernel_rfl, ?_⟩) (by assumption) ?_; rotate_left; (focus (intro w hSw; (try dsimp only at hSw); go_simp; (try with_reducible rfl))); (try simp only [Act.put, List.getElem_toArray, List.getElem_cons_zero, List.getElem_cons_succ, List.setIfInBounds_toArray, List.set_cons_zero, List.set_cons_succ])
      refine wpAnyT_take (i := 9) (oi := _) (v := ?_) rfl (by kernel_rfl) (fun _ _ _ h => h) (Or.inl ⟨by kernel_rfl, ?_⟩) (by assumption) ?_; rotate_left; (focus (intro w hSw; (try dsimp only at hSw); go_simp; (try with_reducible rfl))); (try simp only [Act.put, List.getElem_toArray, List.getElem_cons_zero, List.getElem_cons_succ, List.setIfInBounds_toArray, List.set_cons_zero, List.set_cons_succ])
      refine wpAnyT_one (i := 10) (by kernel_rfl) rfl (fun K hK => ?_); go_simp
      have hH2 := Hk.out _ ((below_drewN_ (Below.refl w1.heap.size w1) 1).alloc (Nat.le_refl _) (.cells #[.string ⟨#[]⟩, .int .i64 0, .map none] 57))
      refine hK.out _ _ (fun _ => hH2) ?_
      clear hK K
      (try simp only [Act.put, List.getElem_toArray, List.getElem_cons_zero, List.getElem_cons_succ, List.setIfInBounds_toArray, List.set_cons_zero, List.set_cons_succ])
      refine wpAnyT_one (i := 11) (by kernel_rfl) rfl (fun K hK => ?_); go_simp
      have hb3 : Below w1.heap.size w1 (w1.alloc (.cells #[.string u.key, .int .i64 u.born, .map (some u.b)] 57)).drew := below_drewN_ ((Below.refl _ _).alloc (Nat.le_refl _) _) 1
      have hH3 := Hk.out _ hb3
      refine hK.out _ _ (fun _ => hH3) ?_
      clear hK K
      (try simp only [Act.put, List.getElem_toArray, List.getElem_cons_zero, List.getElem_cons_succ, List.setIfInBounds_toArray, List.set_cons_zero, List.set_cons_succ])
      refine wpAnyT_take (i := 12) (oi := _) (v := ?_) rfl (by kernel_rfl) (fun _ _ _ h => h) (Or.inl ⟨by kernel_rfl, ?_⟩) (by assumption) ?_; rotate_left; (focus (intro w hSw; (try dsimp only at hSw); go_simp; (try with_reducible rfl))); (try simp only [Act.put, List.getElem_toArray, List.getElem_cons_zero, List.getElem_cons_succ, List.setIfInBounds_toArray, List.set_cons_zero, List.set_cons_succ])
      refine wpAnyT_done (by kernel_rfl) ?_ _
      have HF2 := Lib.hid (HF.out.below hb3)
      clear hH2 hHeld
      have HB2 : Hid (Blk (w1.alloc (.cells #[.string u.key, .int .i64 u.born, .map (some u.b)] 57)).drew w1.heap.size 57 #[.string u.key, .int .i64 u.born, .map (some u.b)]) := Lib.hid (Blk.new _ _ _)
      have hle2 : g4 < (w1.alloc (.cells #[.string u.key, .int .i64 u.born, .map (some u.b)] 57)).drew.heap.size := HF2.out.res.lt
      clear hb3 hH3 Hk k0 k1 k2 k3 k4 k5 k6
      generalize (w1.alloc (.cells #[.string u.key, .int .i64 u.born, .map (some u.b)] 57)).drew = w2 at *
      generalize w1.heap.size = g5 at *
      have k0 : w2.cell? ⟨g3, 0, none⟩ = some (.int .i64 kind) := HF2.out.call.cell 0
      have k1 : w2.cell? ⟨g3, 1, none⟩ = some (.string key) := HF2.out.call.cell 1
      have k2 : w2.cell? ⟨g3, 2, none⟩ = some (.slice A d.length c) := HF2.out.call.cell 2
      have k3 : w2.cell? ⟨g3, 3, none⟩ = some (.int .i64 ver) := HF2.out.call.cell 3
      have k4 : w2.cell? ⟨g3, 4, none⟩ = some (.int .i64 at_) := HF2.out.call.cell 4
      have k5 : w2.cell? ⟨g3, 5, none⟩ = some (.int .i64 nn) := HF2.out.call.cell 5
      have k6 : w2.cell? ⟨g3, 6, none⟩ = some (.int .i64 id) := HF2.out.call.cell 6
      have u0 : w2.cell? ⟨g5, 0, none⟩ = some (.string u.key) := HB2.out.cell 0
      have u1 : w2.cell? ⟨g5, 1, none⟩ = some (.int .i64 u.born) := HB2.out.cell 1
      have u2 : w2.cell? ⟨g5, 2, none⟩ = some (.map (some u.b)) := HB2.out.cell 2
      obtain ⟨r, hr⟩ : ∃ r, L.pure.part u.pure ⟨kind, key, d, ver, at_, nn, id⟩ = r := ⟨_, rfl⟩
      have HR : Hid (L.pure.step ⟨kind, key, d, ver, at_, nn, id⟩ = r) := Lib.hid (by rw [← hr, kind_step]; dsimp only; rw [if_neg (by omega), if_neg (by omega), if_neg (by omega), if_neg (by omega), if_neg (by omega), if_neg (by omega), if_pos (.inl HKK.out)]; unfold PS.upload; dsimp only; rw [pure_up, HUU.out]; exact if_pos HKK.out)
      have hc := part_mid HF2.out.at_ HI.out hn HF2.out.dat HX.out (by have := HKK.out; unfold Quiet; dsimp only; omega) HUU.out
      unfold Cl.val Cl.cells Cl.pure at hc
      dsimp only at hc hr
      rw [hr] at hc
      have HC := Lib.hid hc
      clear hc hr
      go_wp2_with fail
      refine HC.out.mono ?_
      rintro e w9 ⟨v, L', rfl, hm⟩
      have HM := Lib.hid hm
      obtain ⟨A9, c9, A8, c8, rfl, -, -⟩ := hm.rep
      have HF9 := Lib.hid (HF2.out.turnG HM.out.at_ HM.out.keep (fun _ h => h.1) (fun _ _ h => h) HM.out.gs)
      have q0 : w9.cell? ⟨g4, 0, none⟩ = some (.int .i64 0) := HF9.out.res.cell 0
      have p0 : w9.frozen? ⟨g4, 0, none⟩ = false := HF9.out.res.frozen 0
      have q1 : w9.cell? ⟨g4, 1, none⟩ = some (.slice none 0 0) := HF9.out.res.cell 1
      have p1 : w9.frozen? ⟨g4, 1, none⟩ = false := HF9.out.res.frozen 1
      have q2 : w9.cell? ⟨g4, 2, none⟩ = some (.int .i64 0) := HF9.out.res.cell 2
      have p2 : w9.frozen? ⟨g4, 2, none⟩ = false := HF9.out.res.frozen 2
      have q3 : w9.cell? ⟨g4, 3, none⟩ = some (.int .i64 0) := HF9.out.res.cell 3
      have p3 : w9.frozen? ⟨g4, 3, none⟩ = false := HF9.out.res.frozen 3
      have q4 : w9.cell? ⟨g4, 4, none⟩ = some (.int .i64 0) := HF9.out.res.cell 4
      have p4 : w9.frozen? ⟨g4, 4, none⟩ = false := HF9.out.res.frozen 4
      have q5 : w9.cell? ⟨g4, 5, none⟩ = some (.slice none 0 0) := HF9.out.res.cell 5
      have p5 : w9.frozen? ⟨g4, 5, none⟩ = false := HF9.out.res.frozen 5
      have q6 : w9.cell? ⟨g4, 6, none⟩ = some (.bool false) := HF9.out.res.cell 6
      have p6 : w9.frozen? ⟨g4, 6, none⟩ = false := HF9.out.res.frozen 6
      go_wp2
      obtain ⟨hw, hA, hK⟩ := HF9.out.fin (.int .i64 r.2.err) (.slice A9 r.2.d.length c9) (.int .i64 r.2.ver) (.int .i64 r.2.born) (.int .i64 r.2.id) (.slice A8 r.2.list.length c8) (.bool r.2.more)
      unfold set7 at hw hA hK
      refine bodyPost_ret (results_cell_row rfl _ _ g4 43 #[.int .i64 r.2.err, .slice A9 r.2.d.length c9, .int .i64 r.2.ver, .int .i64 r.2.born, .int .i64 r.2.id, .slice A8 r.2.list.length c8, .bool r.2.more] (0, 0) _ rfl hw Tryz.underlying43 rfl (by kernel_rfl)) rfl ?_
      refine ⟨L', _, rfl, ?_, ?_, hA, hK, HM.out.gs, fun i hi => (HM.out.foot i hi).imp (fun h => h) (fun h => by omega), HM.out.same, HM.out.prov.mono (by omega)⟩
      · show RepAt _ _ _ (L.pure.step ⟨kind, key, d, ver, at_, nn, id⟩).2
        rw [HR.out]
        exact HM.out.rep.mono set7_keep (by omega) (by omega)
      · show L'.pure = (L.pure.step ⟨kind, key, d, ver, at_, nn, id⟩).1
        rw [HR.out]
        exact HM.out.pure
  have b8 := eqf hk8
  by_cases hk9 : kind = 9
  · have b9 := eqt hk9
    have HKK := Lib.hid hk9
    clear hk9
    have HU := Lib.hid Tryz.underlying49
    have HOK : Hid ((kI).ok id) := Lib.hid HX.out.id
    cases hm : mget L.ups id with
    | none =>
      have HE : Hid ((mget L.ups id).elim zU evU = .agg #[.string ⟨#[]⟩, .int .i64 0, .map none]) := Lib.hid (by rw [hm]; rfl)
      have HQ : Hid ((mget L.ups id).isSome = false) := Lib.hid (by rw [hm]; rfl)
      have HR : Hid (L.pure.step ⟨kind, key, d, ver, at_, nn, id⟩ = (L.pure, bad 7)) := Lib.hid (by
        rw [kind_step]; dsimp only
        rw [if_neg (by omega), if_neg (by omega), if_neg (by omega), if_neg (by omega), if_neg (by omega), if_neg (by omega), if_pos (.inr (.inl HKK.out))]
        unfold PS.upload
        dsimp only
        rw [pure_up, hm]; rfl)
      clear hm
      go_upto_region 26 with fail
      have Hk : Hid (∀ W, Below w1.heap.size w1 W → W.cell? ⟨L.gs, 1, none⟩ = some (.map (some L.bu)) ∧ W.cell? ⟨g3, 6, none⟩ = some (.int .i64 id) ∧ (Instr.lookup 49 (.map (some L.bu)) (.int .i64 id) true).run Tryz.prog W = .ok (.tuple #[.agg #[.string ⟨#[]⟩, .int .i64 0, .map none], .bool false]) W) := Lib.hid fun W hW => ⟨(HF.out.below hW).at_.c_bu, (HF.out.below hW).call.cell 6, (HF.out.below hW).at_.mu.ask_at HU.out (zeroU _) HOK.out HE.out HQ.out⟩
      refine wp_region_T 99 (fun w' => w'.cell? ⟨L.gs, 1, none⟩ = some (.map (some L.bu)) ∧ w'.cell? ⟨g3, 6, none⟩ = some (.int .i64 id) ∧ (Instr.lookup 49 (.map (some L.bu)) (.int .i64 id) true).run Tryz.prog w' = .ok (.tuple #[.agg #[.string ⟨#[]⟩, .int .i64 0, .map none], .bool false]) w') (by kernel_rfl) (Hk.out _ (below_drewN_ (Below.refl _ _) 1)) (fun hHeld => ?_)
      refine wpAnyT_take (i := 0) (oi := _) (v := ?_) rfl (by kernel_rfl) (fun _ _ _ h => h) (Or.inl ⟨by kernel_rfl, ?_⟩) (by assumption) ?_; rotate_left; (focus (intro w hSw; (try dsimp only at hSw); go_simp; (try with_reducible rfl))); (try simp only [Act.put, List.getElem_toArray, List.getElem_cons_zero, List.setIfInBounds_toArray, List.set_cons_zero, List.set_cons_succ])
      refine wpAnyT_take (i := 1) (oi := _) (v := ?_) rfl (by kernel_rfl) (fun _ _ _ h => h) (Or.inl ⟨by kernel_rfl, ?_⟩) (by assumption) ?_; rotate_left; (focus (intro w hSw; (try dsimp only at hSw); go_simp; (try with_reducible rfl))); (try simp only [Act.put, List.getElem_toArray, List.getElem_cons_zero, List.getElem_cons_succ, List.setIfInBounds_toArray, List.set_cons_zero, List.set_cons_succ])
      refine wpAnyT_take (i := 2) (oi := _) (v := ?_) rfl (by kernel_rfl) (fun _ _ _ h => h) (Or.inl ⟨by kernel_rfl, ?_⟩) (by assumption) ?_; rotate_left; (focus (intro w hSw; (try dsimp only at hSw); go_simp; (try with_reducible rfl))); (try simp only [Act.put, List.getElem_toArray, List.getElem_cons_zero, List.getElem_cons_succ, List.setIfInBounds_toArray, List.set_cons_zero, List.set_cons_succ])
      refine wpAnyT_take (i := 3) (oi := _) (v := ?_) rfl (by kernel_rfl) (fun _ _ _ h => h) (Or.inl ⟨by kernel_rfl, ?_⟩) (by assumption) ?_; rotate_left; (focus (intro w hSw; (try dsimp only at hSw); go_simp; (try with_reducible rfl))); (try simp only [Act.put, List.getElem_toArray, List.getElem_cons_zero, List.getElem_cons_succ, List.setIfInBounds_toArray, List.set_cons_zero, List.set_cons_succ])
      refine wpAnyT_take (i := 4) (oi := _) (v := ?_) rfl (by kernel_rfl) (fun _ _ _ h => h) (Or.inl ⟨by kernel_rfl, ?_⟩) (by assumption) ?_; rotate_left; (focus (intro w hSw; (try dsimp only at hSw); go_simp; (try with_reducible rfl))); (try simp only [Act.put, List.getElem_toArray, List.getElem_cons_zero, List.getElem_cons_succ, List.setIfInBounds_toArray, List.set_cons_zero, List.set_cons_succ])
      refine wpAnyT_take (i := 5) (oi := _) (v := ?_) rfl (by kernel_rfl) (fun _ _ _ h => h) (Or.inl ⟨by kernel_rfl, ?_⟩) (by assumption) ?_; rotate_left; (focus (intro w hSw; (try dsimp only at hSw); go_simp; (try with_reducible rfl))); (try simp only [Act.put, List.getElem_toArray, List.getElem_cons_zero, List.getElem_cons_succ, List.setIfInBounds_toArray, List.set_cons_zero, List.set_cons_succ])
      refine wpAnyT_take (i := 6) (oi := _) (v := ?_) rfl (by kernel_rfl) (fun _ _ _ h => h) (Or.inl ⟨by kernel_rfl, ?_⟩) (by assumption) ?_; rotate_left; (focus (intro w hSw; (try dsimp only at hSw); go_simp; (try with_reducible rfl))); (try simp only [Act.put, List.getElem_toArray, List.getElem_cons_zero, List.getElem_cons_succ, List.setIfInBounds_toArray, List.set_cons_zero, List.set_cons_succ])
      refine wpAnyT_take (i := 7) (oi := _) (v := ?_) rfl (by kernel_rfl) (fun _ _ _ h => h) (Or.inl ⟨by kernel_rfl, ?_⟩) (by assumption) ?_; rotate_left; (focus (intro w hSw; (try dsimp only at hSw); go_simp; (try with_reducible rfl))); (try simp only [Act.put, List.getElem_toArray, List.getElem_cons_zero, List.getElem_cons_succ, List.setIfInBounds_toArray, List.set_cons_zero, List.set_cons_succ])
      refine wpAnyT_take (i := 8) (oi := _) (v := ?_) rfl (by kernel_rfl) (fun _ _ _ h => h) (Or.inl ⟨by kernel_rfl, ?_⟩) (by assumption) ?_; rotate_left; (focus (intro w hSw; (try dsimp only at hSw); go_simp; (try with_reducible rfl))); (try simp only [Act.put, List.getElem_toArray, List.getElem_cons_zero, List.getElem_cons_succ, List.setIfInBounds_toArray, List.set_cons_zero, List.set_cons_succ])
      refine wpAnyT_take (i := 9) (oi := _) (v := ?_) rfl (by kernel_rfl) (fun _ _ _ h => h) (Or.inl ⟨by kernel_rfl, ?_⟩) (by assumption) ?_; rotate_left; (focus (intro w hSw; (try dsimp only at hSw); go_simp; (try with_reducible rfl))); (try simp only [Act.put, List.getElem_toArray, List.getElem_cons_zero, List.getElem_cons_succ, List.setIfInBounds_toArray, List.set_cons_zero, List.set_cons_succ])
      refine wpAnyT_one (i := 10) (by kernel_rfl) rfl (fun K hK => ?_); go_simp
      have hH2 := Hk.out _ ((below_drewN_ (Below.refl w1.heap.size w1) 1).alloc (Nat.le_refl _) (.cells #[.string ⟨#[]⟩, .int .i64 0, .map none] 57))
      refine hK.out _ _ (fun _ => hH2) ?_
      clear hK K
      (try simp only [Act.put, List.getElem_toArray, List.getElem_cons_zero, List.getElem_cons_succ, List.setIfInBounds_toArray, List.set_cons_zero, List.set_cons_succ])
      refine wpAnyT_one (i := 11) (by kernel_rfl) rfl (fun K hK => ?_); go_simp
      have hb3 : Below w1.heap.size w1 (w1.alloc (.cells #[.string ⟨#[]⟩, .int .i64 0, .map none] 57)).drew := below_drewN_ ((Below.refl _ _).alloc (Nat.le_refl _) _) 1
      have hH3 := Hk.out _ hb3
      refine hK.out _ _ (fun _ => hH3) ?_
      clear hK K
      (try simp only [Act.put, List.getElem_toArray, List.getElem_cons_zero, List.getElem_cons_succ, List.setIfInBounds_toArray, List.set_cons_zero, List.set_cons_succ])
      refine wpAnyT_take (i := 12) (oi := _) (v := ?_) rfl (by kernel_rfl) (fun _ _ _ h => h) (Or.inl ⟨by kernel_rfl, ?_⟩) (by assumption) ?_; rotate_left; (focus (intro w hSw; (try dsimp only at hSw); go_simp; (try with_reducible rfl))); (try simp only [Act.put, List.getElem_toArray, List.getElem_cons_zero, List.getElem_cons_succ, List.setIfInBounds_toArray, List.set_cons_zero, List.set_cons_succ])
      refine wpAnyT_done (by kernel_rfl) ?_ _
      have HF2 := Lib.hid (HF.out.below hb3)
      clear hH2 hHeld
      clear hb3 hH3 Hk
      generalize (w1.alloc (.cells #[.string ⟨#[]⟩, .int .i64 0, .map none] 57)).drew = w2 at *
      have q0 : w2.cell? ⟨g4, 0, none⟩ = some (.int .i64 0) := HF2.out.res.cell 0
      have p0 : w2.frozen? ⟨g4, 0, none⟩ = false := HF2.out.res.frozen 0
      have q1 : w2.cell? ⟨g4, 1, none⟩ = some (.slice none 0 0) := HF2.out.res.cell 1
      have p1 : w2.frozen? ⟨g4, 1, none⟩ = false := HF2.out.res.frozen 1
      have q2 : w2.cell? ⟨g4, 2, none⟩ = some (.int .i64 0) := HF2.out.res.cell 2
      have p2 : w2.frozen? ⟨g4, 2, none⟩ = false := HF2.out.res.frozen 2
      have q3 : w2.cell? ⟨g4, 3, none⟩ = some (.int .i64 0) := HF2.out.res.cell 3
      have p3 : w2.frozen? ⟨g4, 3, none⟩ = false := HF2.out.res.frozen 3
      have q4 : w2.cell? ⟨g4, 4, none⟩ = some (.int .i64 0) := HF2.out.res.cell 4
      have p4 : w2.frozen? ⟨g4, 4, none⟩ = false := HF2.out.res.frozen 4
      have q5 : w2.cell? ⟨g4, 5, none⟩ = some (.slice none 0 0) := HF2.out.res.cell 5
      have p5 : w2.frozen? ⟨g4, 5, none⟩ = false := HF2.out.res.frozen 5
      have q6 : w2.cell? ⟨g4, 6, none⟩ = some (.bool false) := HF2.out.res.cell 6
      have p6 : w2.frozen? ⟨g4, 6, none⟩ = false := HF2.out.res.frozen 6
      go_wp2
      obtain ⟨hw, hA, hK⟩ := HF2.out.fin (.int .i64 7) (.slice none 0 0) (.int .i64 0) (.int .i64 0) (.int .i64 0) (.slice none 0 0) (.bool false)
      unfold set7 at hw hA hK
      refine bodyPost_ret (results_cell_row rfl _ _ g4 43 #[.int .i64 7, .slice none 0 0, .int .i64 0, .int .i64 0, .int .i64 0, .slice none 0 0, .bool false] (0, 0) _ rfl hw Tryz.underlying43 rfl (by kernel_rfl)) rfl ?_
      refine ⟨L, _, rfl, ?_, ?_, hA, hK, rfl, fun i hi => .inl (hi), fun _ => rfl, Prov.refl _ _⟩
      · show RepAt _ _ _ (L.pure.step ⟨kind, key, d, ver, at_, nn, id⟩).2
        rw [HR.out]
        exact rep_plain 7 0 0 0
      · show L.pure = (L.pure.step ⟨kind, key, d, ver, at_, nn, id⟩).1
        exact (rfl : L.pure = _).trans (congrArg Prod.fst HR.out).symm
    | some u =>
      have HE : Hid ((mget L.ups id).elim zU evU = .agg #[.string u.key, .int .i64 u.born, .map (some u.b)]) := Lib.hid (by rw [hm]; rfl)
      have HQ : Hid ((mget L.ups id).isSome = true) := Lib.hid (by rw [hm]; rfl)
      have HUU := Lib.hid hm
      clear hm
      go_upto_region 26 with fail
      have Hk : Hid (∀ W, Below w1.heap.size w1 W → W.cell? ⟨L.gs, 1, none⟩ = some (.map (some L.bu)) ∧ W.cell? ⟨g3, 6, none⟩ = some (.int .i64 id) ∧ (Instr.lookup 49 (.map (some L.bu)) (.int .i64 id) true).run Tryz.prog W = .ok (.tuple #[.agg #[.string u.key, .int .i64 u.born, .map (some u.b)], .bool true]) W) := Lib.hid fun W hW => ⟨(HF.out.below hW).at_.c_bu, (HF.out.below hW).call.cell 6, (HF.out.below hW).at_.mu.ask_at HU.out (zeroU _) HOK.out HE.out HQ.out⟩
      refine wp_region_T 99 (fun w' => w'.cell? ⟨L.gs, 1, none⟩ = some (.map (some L.bu)) ∧ w'.cell? ⟨g3, 6, none⟩ = some (.int .i64 id) ∧ (Instr.lookup 49 (.map (some L.bu)) (.int .i64 id) true).run Tryz.prog w' = .ok (.tuple #[.agg #[.string u.key, .int .i64 u.born, .map (some u.b)], .bool true]) w') (by kernel_rfl) (Hk.out _ (below_drewN_ (Below.refl _ _) 1)) (fun hHeld => ?_)
      refine wpAnyT_take (i := 0) (oi := _) (v := ?_) rfl (by kernel_rfl) (fun _ _ _ h => h) (Or.inl ⟨by kernel_rfl, ?_⟩) (by assumption) ?_; rotate_left; (focus (intro w hSw; (try dsimp only at hSw); go_simp; (try with_reducible rfl))); (try simp only [Act.put, List.getElem_toArray, List.getElem_cons_zero, List.setIfInBounds_toArray, List.set_cons_zero, List.set_cons_succ])
      refine wpAnyT_take (i := 1) (oi := _) (v := ?_) rfl (by kernel_rfl) (fun _ _ _ h => h) (Or.inl ⟨by kernel_rfl, ?_⟩) (by assumption) ?_; rotate_left; (focus (intro w hSw; (try dsimp only at hSw); go_simp; (try with_reducible rfl))); (try simp only [Act.put, List.getElem_toArray, List.getElem_cons_zero, List.getElem_cons_succ, List.setIfInBounds_toArray, List.set_cons_zero, List.set_cons_succ])
      refine wpAnyT_take (i := 2) (oi := _) (v := ?_) rfl (by kernel_rfl) (fun _ _ _ h => h) (Or.inl ⟨by kernel_rfl, ?_⟩) (by assumption) ?_; rotate_left; (focus (intro w hSw; (try dsimp only at hSw); go_simp; (try with_reducible rfl))); (try simp only [Act.put, List.getElem_toArray, List.getElem_cons_zero, List.getElem_cons_succ, List.setIfInBounds_toArray, List.set_cons_zero, List.set_cons_succ])
      refine wpAnyT_take (i := 3) (oi := _) (v := ?_) rfl (by kernel_rfl) (fun _ _ _ h => h) (Or.inl ⟨by kernel_rfl, ?_⟩) (by assumption) ?_; rotate_left; (focus (intro w hSw; (try dsimp only at hSw); go_simp; (try with_reducible rfl))); (try simp only [Act.put, List.getElem_toArray, List.getElem_cons_zero, List.getElem_cons_succ, List.setIfInBounds_toArray, List.set_cons_zero, List.set_cons_succ])
      refine wpAnyT_take (i := 4) (oi := _) (v := ?_) rfl (by kernel_rfl) (fun _ _ _ h => h) (Or.inl ⟨by kernel_rfl, ?_⟩) (by assumption) ?_; rotate_left; (focus (intro w hSw; (try dsimp only at hSw); go_simp; (try with_reducible rfl))); (try simp only [Act.put, List.getElem_toArray, List.getElem_cons_zero, List.getElem_cons_succ, List.setIfInBounds_toArray, List.set_cons_zero, List.set_cons_succ])
      refine wpAnyT_take (i := 5) (oi := _) (v := ?_) rfl (by kernel_rfl) (fun _ _ _ h => h) (Or.inl ⟨by kernel_rfl, ?_⟩) (by assumption) ?_; rotate_left; (focus (intro w hSw; (try dsimp only at hSw); go_simp; (try with_reducible rfl))); (try simp only [Act.put, List.getElem_toArray, List.getElem_cons_zero, List.getElem_cons_succ, List.setIfInBounds_toArray, List.set_cons_zero, List.set_cons_succ])
      refine wpAnyT_take (i := 6) (oi := _) (v := ?_) rfl (by kernel_rfl) (fun _ _ _ h => h) (Or.inl ⟨by kernel_rfl, ?_⟩) (by assumption) ?_; rotate_left; (focus (intro w hSw; (try dsimp only at hSw); go_simp; (try with_reducible rfl))); (try simp only [Act.put, List.getElem_toArray, List.getElem_cons_zero, List.getElem_cons_succ, List.setIfInBounds_toArray, List.set_cons_zero, List.set_cons_succ])
      refine wpAnyT_take (i := 7) (oi := _) (v := ?_) rfl (by kernel_rfl) (fun _ _ _ h => h) (Or.inl ⟨by kernel_rfl, ?_⟩) (by assumption) ?_; rotate_left; (focus (intro w hSw; (try dsimp only at hSw); go_simp; (try with_reducible rfl))); (try simp only [Act.put, List.getElem_toArray, List.getElem_cons_zero, List.getElem_cons_succ, List.setIfInBounds_toArray, List.set_cons_zero, List.set_cons_succ])
      refine wpAnyT_take (i := 8) (oi := _) (v := ?_) rfl (by kernel_rfl) (fun _ _ _ h => h) (Or.inl ⟨by kernel_rfl, ?_⟩) (by assumption) ?_; rotate_left; (focus (intro w hSw; (try dsimp only at hSw); go_simp; (try with_reducible rfl))); (try simp only [Act.put, List.getElem_toArray, List.getElem_cons_zero, List.getElem_cons_succ, List.setIfInBounds_toArray, List.set_cons_zero, List.set_cons_succ])
      refine wpAnyT_take (i := 9) (oi := _) (v := ?_) rfl (by kernel_rfl) (fun _ _ _ h => h) (Or.inl ⟨by kernel_rfl, ?_⟩) (by assumption) ?_; rotate_left; (focus (intro w hSw; (try dsimp only at hSw); go_simp; (try with_reducible rfl))); (try simp only [Act.put, List.getElem_toArray, List.getElem_cons_zero, List.getElem_cons_succ, List.setIfInBounds_toArray, List.set_cons_zero, List.set_cons_succ])
      refine wpAnyT_one (i := 10) (by kernel_rfl) rfl (fun K hK => ?_); go_simp
      have hH2 := Hk.out _ ((below_drewN_ (Below.refl w1.heap.size w1) 1).alloc (Nat.le_refl _) (.cells #[.string ⟨#[]⟩, .int .i64 0, .map none] 57))
      refine hK.out _ _ (fun _ => hH2) ?_
      clear hK K
      (try simp only [Act.put, List.getElem_toArray, List.getElem_cons_zero, List.getElem_cons_succ, List.setIfInBounds_toArray, List.set_cons_zero, List.set_cons_succ])
      refine wpAnyT_one (i := 11) (by kernel_rfl) rfl (fun K hK => ?_); go_simp
      have hb3 : Below w1.heap.size w1 (w1.alloc (.cells #[.string u.key, .int .i64 u.born, .map (some u.b)] 57)).drew := below_drewN_ ((Below.refl _ _).alloc (Nat.le_refl _) _) 1
      have hH3 := Hk.out _ hb3
      refine hK.out _ _ (fun _ => hH3) ?_
      clear hK K
      (try simp only [Act.put, List.getElem_toArray, List.getElem_cons_zero, List.getElem_cons_succ, List.setIfInBounds_toArray, List.set_cons_zero, List.set_cons_succ])
      refine wpAnyT_take (i := 12) (oi := _) (v := ?_) rfl (by kernel_rfl) (fun _ _ _ h => h) (Or.inl ⟨by kernel_rfl, ?_⟩) (by assumption) ?_; rotate_left; (focus (intro w hSw; (try dsimp only at hSw); go_simp; (try with_reducible rfl))); (try simp only [Act.put, List.getElem_toArray, List.getElem_cons_zero, List.getElem_cons_succ, List.setIfInBounds_toArray, List.set_cons_zero, List.set_cons_succ])
      refine wpAnyT_done (by kernel_rfl) ?_ _
      have HF2 := Lib.hid (HF.out.below hb3)
      clear hH2 hHeld
      have HB2 : Hid (Blk (w1.alloc (.cells #[.string u.key, .int .i64 u.born, .map (some u.b)] 57)).drew w1.heap.size 57 #[.string u.key, .int .i64 u.born, .map (some u.b)]) := Lib.hid (Blk.new _ _ _)
      have hle2 : g4 < (w1.alloc (.cells #[.string u.key, .int .i64 u.born, .map (some u.b)] 57)).drew.heap.size := HF2.out.res.lt
      clear hb3 hH3 Hk k0 k1 k2 k3 k4 k5 k6
      generalize (w1.alloc (.cells #[.string u.key, .int .i64 u.born, .map (some u.b)] 57)).drew = w2 at *
      generalize w1.heap.size = g5 at *
      have k0 : w2.cell? ⟨g3, 0, none⟩ = some (.int .i64 kind) := HF2.out.call.cell 0
      have k1 : w2.cell? ⟨g3, 1, none⟩ = some (.string key) := HF2.out.call.cell 1
      have k2 : w2.cell? ⟨g3, 2, none⟩ = some (.slice A d.length c) := HF2.out.call.cell 2
      have k3 : w2.cell? ⟨g3, 3, none⟩ = some (.int .i64 ver) := HF2.out.call.cell 3
      have k4 : w2.cell? ⟨g3, 4, none⟩ = some (.int .i64 at_) := HF2.out.call.cell 4
      have k5 : w2.cell? ⟨g3, 5, none⟩ = some (.int .i64 nn) := HF2.out.call.cell 5
      have k6 : w2.cell? ⟨g3, 6, none⟩ = some (.int .i64 id) := HF2.out.call.cell 6
      have u0 : w2.cell? ⟨g5, 0, none⟩ = some (.string u.key) := HB2.out.cell 0
      have u1 : w2.cell? ⟨g5, 1, none⟩ = some (.int .i64 u.born) := HB2.out.cell 1
      have u2 : w2.cell? ⟨g5, 2, none⟩ = some (.map (some u.b)) := HB2.out.cell 2
      obtain ⟨r, hr⟩ : ∃ r, L.pure.complete u.pure ⟨kind, key, d, ver, at_, nn, id⟩ = r := ⟨_, rfl⟩
      have HR : Hid (L.pure.step ⟨kind, key, d, ver, at_, nn, id⟩ = r) := Lib.hid (by rw [← hr, kind_step]; dsimp only; rw [if_neg (by omega), if_neg (by omega), if_neg (by omega), if_neg (by omega), if_neg (by omega), if_neg (by omega), if_pos (.inr (.inl HKK.out))]; unfold PS.upload; dsimp only; rw [pure_up, HUU.out]; exact (if_neg (by omega)).trans (if_pos HKK.out))
      have hc := complete_mid HF2.out.at_ HI.out hn HF2.out.dat HX.out (by have := HKK.out; unfold Quiet; dsimp only; omega) HUU.out
      unfold Cl.val Cl.cells Cl.pure at hc
      dsimp only at hc hr
      rw [hr] at hc
      have HC := Lib.hid hc
      clear hc hr
      go_wp2_with fail
      refine HC.out.mono ?_
      rintro e w9 ⟨v, L', rfl, hm⟩
      have HM := Lib.hid hm
      obtain ⟨A9, c9, A8, c8, rfl, -, -⟩ := hm.rep
      have HF9 := Lib.hid (HF2.out.turnG HM.out.at_ HM.out.keep (fun _ h => h.1) (fun _ _ h => h) HM.out.gs)
      have q0 : w9.cell? ⟨g4, 0, none⟩ = some (.int .i64 0) := HF9.out.res.cell 0
      have p0 : w9.frozen? ⟨g4, 0, none⟩ = false := HF9.out.res.frozen 0
      have q1 : w9.cell? ⟨g4, 1, none⟩ = some (.slice none 0 0) := HF9.out.res.cell 1
      have p1 : w9.frozen? ⟨g4, 1, none⟩ = false := HF9.out.res.frozen 1
      have q2 : w9.cell? ⟨g4, 2, none⟩ = some (.int .i64 0) := HF9.out.res.cell 2
      have p2 : w9.frozen? ⟨g4, 2, none⟩ = false := HF9.out.res.frozen 2
      have q3 : w9.cell? ⟨g4, 3, none⟩ = some (.int .i64 0) := HF9.out.res.cell 3
      have p3 : w9.frozen? ⟨g4, 3, none⟩ = false := HF9.out.res.frozen 3
      have q4 : w9.cell? ⟨g4, 4, none⟩ = some (.int .i64 0) := HF9.out.res.cell 4
      have p4 : w9.frozen? ⟨g4, 4, none⟩ = false := HF9.out.res.frozen 4
      have q5 : w9.cell? ⟨g4, 5, none⟩ = some (.slice none 0 0) := HF9.out.res.cell 5
      have p5 : w9.frozen? ⟨g4, 5, none⟩ = false := HF9.out.res.frozen 5
      have q6 : w9.cell? ⟨g4, 6, none⟩ = some (.bool false) := HF9.out.res.cell 6
      have p6 : w9.frozen? ⟨g4, 6, none⟩ = false := HF9.out.res.frozen 6
      go_wp2
      obtain ⟨hw, hA, hK⟩ := HF9.out.fin (.int .i64 r.2.err) (.slice A9 r.2.d.length c9) (.int .i64 r.2.ver) (.int .i64 r.2.born) (.int .i64 r.2.id) (.slice A8 r.2.list.length c8) (.bool r.2.more)
      unfold set7 at hw hA hK
      refine bodyPost_ret (results_cell_row rfl _ _ g4 43 #[.int .i64 r.2.err, .slice A9 r.2.d.length c9, .int .i64 r.2.ver, .int .i64 r.2.born, .int .i64 r.2.id, .slice A8 r.2.list.length c8, .bool r.2.more] (0, 0) _ rfl hw Tryz.underlying43 rfl (by kernel_rfl)) rfl ?_
      refine ⟨L', _, rfl, ?_, ?_, hA, hK, HM.out.gs, fun i hi => (HM.out.foot i hi).imp (fun h => h) (fun h => by omega), HM.out.same, HM.out.prov.mono (by omega)⟩
      · show RepAt _ _ _ (L.pure.step ⟨kind, key, d, ver, at_, nn, id⟩).2
        rw [HR.out]
        exact HM.out.rep.mono set7_keep (by omega) (by omega)
      · show L'.pure = (L.pure.step ⟨kind, key, d, ver, at_, nn, id⟩).1
        rw [HR.out]
        exact HM.out.pure
  have b9 := eqf hk9
  by_cases hk10 : kind = 10
  · have b10 := eqt hk10
    have HKK := Lib.hid hk10
    clear hk10
    have HU := Lib.hid Tryz.underlying49
    have HOK : Hid ((kI).ok id) := Lib.hid HX.out.id
    cases hm : mget L.ups id with
    | none =>
      have HE : Hid ((mget L.ups id).elim zU evU = .agg #[.string ⟨#[]⟩, .int .i64 0, .map none]) := Lib.hid (by rw [hm]; rfl)
      have HQ : Hid ((mget L.ups id).isSome = false) := Lib.hid (by rw [hm]; rfl)
      have HR : Hid (L.pure.step ⟨kind, key, d, ver, at_, nn, id⟩ = (L.pure, bad 7)) := Lib.hid (by
        rw [kind_step]; dsimp only
        rw [if_neg (by omega), if_neg (by omega), if_neg (by omega), if_neg (by omega), if_neg (by omega), if_neg (by omega), if_pos (.inr (.inr HKK.out))]
        unfold PS.upload
        dsimp only
        rw [pure_up, hm]; rfl)
      clear hm
      go_upto_region 26 with fail
      have Hk : Hid (∀ W, Below w1.heap.size w1 W → W.cell? ⟨L.gs, 1, none⟩ = some (.map (some L.bu)) ∧ W.cell? ⟨g3, 6, none⟩ = some (.int .i64 id) ∧ (Instr.lookup 49 (.map (some L.bu)) (.int .i64 id) true).run Tryz.prog W = .ok (.tuple #[.agg #[.string ⟨#[]⟩, .int .i64 0, .map none], .bool false]) W) := Lib.hid fun W hW => ⟨(HF.out.below hW).at_.c_bu, (HF.out.below hW).call.cell 6, (HF.out.below hW).at_.mu.ask_at HU.out (zeroU _) HOK.out HE.out HQ.out⟩
      refine wp_region_T 99 (fun w' => w'.cell? ⟨L.gs, 1, none⟩ = some (.map (some L.bu)) ∧ w'.cell? ⟨g3, 6, none⟩ = some (.int .i64 id) ∧ (Instr.lookup 49 (.map (some L.bu)) (.int .i64 id) true).run Tryz.prog w' = .ok (.tuple #[.agg #[.string ⟨#[]⟩, .int .i64 0, .map none], .bool false]) w') (by kernel_rfl) (Hk.out _ (below_drewN_ (Below.refl _ _) 1)) (fun hHeld => ?_)
      refine wpAnyT_take (i := 0) (oi := _) (v := ?_) rfl (by kernel_rfl) (fun _ _ _ h => h) (Or.inl ⟨by kernel_rfl, ?_⟩) (by assumption) ?_; rotate_left; (focus (intro w hSw; (try dsimp only at hSw); go_simp; (try with_reducible rfl))); (try simp only [Act.put, List.getElem_toArray, List.getElem_cons_zero, List.setIfInBounds_toArray, List.set_cons_zero, List.set_cons_succ])
      refine wpAnyT_take (i := 1) (oi := _) (v := ?_) rfl (by kernel_rfl) (fun _ _ _ h => h) (Or.inl ⟨by kernel_rfl, ?_⟩) (by assumption) ?_; rotate_left; (focus (intro w hSw; (try dsimp only at hSw); go_simp; (try with_reducible rfl))); (try simp only [Act.put, List.getElem_toArray, List.getElem_cons_zero, List.getElem_cons_succ, List.setIfInBounds_toArray, List.set_cons_zero, List.set_cons_succ])
      refine wpAnyT_take (i := 2) (oi := _) (v := ?_) rfl (by kernel_rfl) (fun _ _ _ h => h) (Or.inl ⟨by kernel_rfl, ?_⟩) (by assumption) ?_; rotate_left; (focus (intro w hSw; (try dsimp only at hSw); go_simp; (try with_reducible rfl))); (try simp only [Act.put, List.getElem_toArray, List.getElem_cons_zero, List.getElem_cons_succ, List.setIfInBounds_toArray, List.set_cons_zero, List.set_cons_succ])
      refine wpAnyT_take (i := 3) (oi := _) (v := ?_) rfl (by kernel_rfl) (fun _ _ _ h => h) (Or.inl ⟨by kernel_rfl, ?_⟩) (by assumption) ?_; rotate_left; (focus (intro w hSw; (try dsimp only at hSw); go_simp; (try with_reducible rfl))); (try simp only [Act.put, List.getElem_toArray, List.getElem_cons_zero, List.getElem_cons_succ, List.setIfInBounds_toArray, List.set_cons_zero, List.set_cons_succ])
      refine wpAnyT_take (i := 4) (oi := _) (v := ?_) rfl (by kernel_rfl) (fun _ _ _ h => h) (Or.inl ⟨by kernel_rfl, ?_⟩) (by assumption) ?_; rotate_left; (focus (intro w hSw; (try dsimp only at hSw); go_simp; (try with_reducible rfl))); (try simp only [Act.put, List.getElem_toArray, List.getElem_cons_zero, List.getElem_cons_succ, List.setIfInBounds_toArray, List.set_cons_zero, List.set_cons_succ])
      refine wpAnyT_take (i := 5) (oi := _) (v := ?_) rfl (by kernel_rfl) (fun _ _ _ h => h) (Or.inl ⟨by kernel_rfl, ?_⟩) (by assumption) ?_; rotate_left; (focus (intro w hSw; (try dsimp only at hSw); go_simp; (try with_reducible rfl))); (try simp only [Act.put, List.getElem_toArray, List.getElem_cons_zero, List.getElem_cons_succ, List.setIfInBounds_toArray, List.set_cons_zero, List.set_cons_succ])
      refine wpAnyT_take (i := 6) (oi := _) (v := ?_) rfl (by kernel_rfl) (fun _ _ _ h => h) (Or.inl ⟨by kernel_rfl, ?_⟩) (by assumption) ?_; rotate_left; (focus (intro w hSw; (try dsimp only at hSw); go_simp; (try with_reducible rfl))); (try simp only [Act.put, List.getElem_toArray, List.getElem_cons_zero, List.getElem_cons_succ, List.setIfInBounds_toArray, List.set_cons_zero, List.set_cons_succ])
      refine wpAnyT_take (i := 7) (oi := _) (v := ?_) rfl (by kernel_rfl) (fun _ _ _ h => h) (Or.inl ⟨by kernel_rfl, ?_⟩) (by assumption) ?_; rotate_left; (focus (intro w hSw; (try dsimp only at hSw); go_simp; (try with_reducible rfl))); (try simp only [Act.put, List.getElem_toArray, List.getElem_cons_zero, List.getElem_cons_succ, List.setIfInBounds_toArray, List.set_cons_zero, List.set_cons_succ])
      refine wpAnyT_take (i := 8) (oi := _) (v := ?_) rfl (by kernel_rfl) (fun _ _ _ h => h) (Or.inl ⟨by kernel_rfl, ?_⟩) (by assumption) ?_; rotate_left; (focus (intro w hSw; (try dsimp only at hSw); go_simp; (try with_reducible rfl))); (try simp only [Act.put, List.getElem_toArray, List.getElem_cons_zero, List.getElem_cons_succ, List.setIfInBounds_toArray, List.set_cons_zero, List.set_cons_succ])
      refine wpAnyT_take (i := 9) (oi := _) (v := ?_) rfl (by kernel_rfl) (fun _ _ _ h => h) (Or.inl ⟨by kernel_rfl, ?_⟩) (by assumption) ?_; rotate_left; (focus (intro w hSw; (try dsimp only at hSw); go_simp; (try with_reducible rfl))); (try simp only [Act.put, List.getElem_toArray, List.getElem_cons_zero, List.getElem_cons_succ, List.setIfInBounds_toArray, List.set_cons_zero, List.set_cons_succ])
      refine wpAnyT_one (i := 10) (by kernel_rfl) rfl (fun K hK => ?_); go_simp
      have hH2 := Hk.out _ ((below_drewN_ (Below.refl w1.heap.size w1) 1).alloc (Nat.le_refl _) (.cells #[.string ⟨#[]⟩, .int .i64 0, .map none] 57))
      refine hK.out _ _ (fun _ => hH2) ?_
      clear hK K
      (try simp only [Act.put, List.getElem_toArray, List.getElem_cons_zero, List.getElem_cons_succ, List.setIfInBounds_toArray, List.set_cons_zero, List.set_cons_succ])
      refine wpAnyT_one (i := 11) (by kernel_rfl) rfl (fun K hK => ?_); go_simp
      have hb3 : Below w1.heap.size w1 (w1.alloc (.cells #[.string ⟨#[]⟩, .int .i64 0, .map none] 57)).drew := below_drewN_ ((Below.refl _ _).alloc (Nat.le_refl _) _) 1
      have hH3 := Hk.out _ hb3
      refine hK.out _ _ (fun _ => hH3) ?_
      clear hK K
      (try simp only [Act.put, List.getElem_toArray, List.getElem_cons_zero, List.getElem_cons_succ, List.setIfInBounds_toArray, List.set_cons_zero, List.set_cons_succ])
      refine wpAnyT_take (i := 12) (oi := _) (v := ?_) rfl (by kernel_rfl) (fun _ _ _ h => h) (Or.inl ⟨by kernel_rfl, ?_⟩) (by assumption) ?_; rotate_left; (focus (intro w hSw; (try dsimp only at hSw); go_simp; (try with_reducible rfl))); (try simp only [Act.put, List.getElem_toArray, List.getElem_cons_zero, List.getElem_cons_succ, List.setIfInBounds_toArray, List.set_cons_zero, List.set_cons_succ])
      refine wpAnyT_done (by kernel_rfl) ?_ _
      have HF2 := Lib.hid (HF.out.below hb3)
      clear hH2 hHeld
      clear hb3 hH3 Hk
      generalize (w1.alloc (.cells #[.string ⟨#[]⟩, .int .i64 0, .map none] 57)).drew = w2 at *
      have q0 : w2.cell? ⟨g4, 0, none⟩ = some (.int .i64 0) := HF2.out.res.cell 0
      have p0 : w2.frozen? ⟨g4, 0, none⟩ = false := HF2.out.res.frozen 0
      have q1 : w2.cell? ⟨g4, 1, none⟩ = some (.slice none 0 0) := HF2.out.res.cell 1
      have p1 : w2.frozen? ⟨g4, 1, none⟩ = false := HF2.out.res.frozen 1
      have q2 : w2.cell? ⟨g4, 2, none⟩ = some (.int .i64 0) := HF2.out.res.cell 2
      have p2 : w2.frozen? ⟨g4, 2, none⟩ = false := HF2.out.res.frozen 2
      have q3 : w2.cell? ⟨g4, 3, none⟩ = some (.int .i64 0) := HF2.out.res.cell 3
      have p3 : w2.frozen? ⟨g4, 3, none⟩ = false := HF2.out.res.frozen 3
      have q4 : w2.cell? ⟨g4, 4, none⟩ = some (.int .i64 0) := HF2.out.res.cell 4
      have p4 : w2.frozen? ⟨g4, 4, none⟩ = false := HF2.out.res.frozen 4
      have q5 : w2.cell? ⟨g4, 5, none⟩ = some (.slice none 0 0) := HF2.out.res.cell 5
      have p5 : w2.frozen? ⟨g4, 5, none⟩ = false := HF2.out.res.frozen 5
      have q6 : w2.cell? ⟨g4, 6, none⟩ = some (.bool false) := HF2.out.res.cell 6
      have p6 : w2.frozen? ⟨g4, 6, none⟩ = false := HF2.out.res.frozen 6
      go_wp2
      obtain ⟨hw, hA, hK⟩ := HF2.out.fin (.int .i64 7) (.slice none 0 0) (.int .i64 0) (.int .i64 0) (.int .i64 0) (.slice none 0 0) (.bool false)
      unfold set7 at hw hA hK
      refine bodyPost_ret (results_cell_row rfl _ _ g4 43 #[.int .i64 7, .slice none 0 0, .int .i64 0, .int .i64 0, .int .i64 0, .slice none 0 0, .bool false] (0, 0) _ rfl hw Tryz.underlying43 rfl (by kernel_rfl)) rfl ?_
      refine ⟨L, _, rfl, ?_, ?_, hA, hK, rfl, fun i hi => .inl (hi), fun _ => rfl, Prov.refl _ _⟩
      · show RepAt _ _ _ (L.pure.step ⟨kind, key, d, ver, at_, nn, id⟩).2
        rw [HR.out]
        exact rep_plain 7 0 0 0
      · show L.pure = (L.pure.step ⟨kind, key, d, ver, at_, nn, id⟩).1
        exact (rfl : L.pure = _).trans (congrArg Prod.fst HR.out).symm
    | some u =>
      have HE : Hid ((mget L.ups id).elim zU evU = .agg #[.string u.key, .int .i64 u.born, .map (some u.b)]) := Lib.hid (by rw [hm]; rfl)
      have HQ : Hid ((mget L.ups id).isSome = true) := Lib.hid (by rw [hm]; rfl)
      have HUU := Lib.hid hm
      clear hm
      go_upto_region 26 with fail
      have Hk : Hid (∀ W, Below w1.heap.size w1 W → W.cell? ⟨L.gs, 1, none⟩ = some (.map (some L.bu)) ∧ W.cell? ⟨g3, 6, none⟩ = some (.int .i64 id) ∧ (Instr.lookup 49 (.map (some L.bu)) (.int .i64 id) true).run Tryz.prog W = .ok (.tuple #[.agg #[.string u.key, .int .i64 u.born, .map (some u.b)], .bool true]) W) := Lib.hid fun W hW => ⟨(HF.out.below hW).at_.c_bu, (HF.out.below hW).call.cell 6, (HF.out.below hW).at_.mu.ask_at HU.out (zeroU _) HOK.out HE.out HQ.out⟩
      refine wp_region_T 99 (fun w' => w'.cell? ⟨L.gs, 1, none⟩ = some (.map (some L.bu)) ∧ w'.cell? ⟨g3, 6, none⟩ = some (.int .i64 id) ∧ (Instr.lookup 49 (.map (some L.bu)) (.int .i64 id) true).run Tryz.prog w' = .ok (.tuple #[.agg #[.string u.key, .int .i64 u.born, .map (some u.b)], .bool true]) w') (by kernel_rfl) (Hk.out _ (below_drewN_ (Below.refl _ _) 1)) (fun hHeld => ?_)
      refine wpAnyT_take (i := 0) (oi := _) (v := ?_) rfl (by kernel_rfl) (fun _ _ _ h => h) (Or.inl ⟨by kernel_rfl, ?_⟩) (by assumption) ?_; rotate_left; (focus (intro w hSw; (try dsimp only at hSw); go_simp; (try with_reducible rfl))); (try simp only [Act.put, List.getElem_toArray, List.getElem_cons_zero, List.setIfInBounds_toArray, List.set_cons_zero, List.set_cons_succ])
      refine wpAnyT_take (i := 1) (oi := _) (v := ?_) rfl (by kernel_rfl) (fun _ _ _ h => h) (Or.inl ⟨by kernel_rfl, ?_⟩) (by assumption) ?_; rotate_left; (focus (intro w hSw; (try dsimp only at hSw); go_simp; (try with_reducible rfl))); (try simp only [Act.put, List.getElem_toArray, List.getElem_cons_zero, List.getElem_cons_succ, List.setIfInBounds_toArray, List.set_cons_zero, List.set_cons_succ])
      refine wpAnyT_take (i := 2) (oi := _) (v := ?_) rfl (by kernel_rfl) (fun _ _ _ h => h) (Or.inl ⟨by kernel_rfl, ?_⟩) (by assumption) ?_; rotate_left; (focus (intro w hSw; (try dsimp only at hSw); go_simp; (try with_reducible rfl))); (try simp only [Act.put, List.getElem_toArray, List.getElem_cons_zero, List.getElem_cons_succ, List.setIfInBounds_toArray, List.set_cons_zero, List.set_cons_succ])
      refine wpAnyT_take (i := 3) (oi := _) (v := ?_) rfl (by kernel_rfl) (fun _ _ _ h => h) (Or.inl ⟨by kernel_rfl, ?_⟩) (by assumption) ?_; rotate_left; (focus (intro w hSw; (try dsimp only at hSw); go_simp; (try with_reducible rfl))); (try simp only [Act.put, List.getElem_toArray, List.getElem_cons_zero, List.getElem_cons_succ, List.setIfInBounds_toArray, List.set_cons_zero, List.set_cons_succ])
      refine wpAnyT_take (i := 4) (oi := _) (v := ?_) rfl (by kernel_rfl) (fun _ _ _ h => h) (Or.inl ⟨by kernel_rfl, ?_⟩) (by assumption) ?_; rotate_left; (focus (intro w hSw; (try dsimp only at hSw); go_simp; (try with_reducible rfl))); (try simp only [Act.put, List.getElem_toArray, List.getElem_cons_zero, List.getElem_cons_succ, List.setIfInBounds_toArray, List.set_cons_zero, List.set_cons_succ])
      refine wpAnyT_take (i := 5) (oi := _) (v := ?_) rfl (by kernel_rfl) (fun _ _ _ h => h) (Or.inl ⟨by kernel_rfl, ?_⟩) (by assumption) ?_; rotate_left; (focus (intro w hSw; (try dsimp only at hSw); go_simp; (try with_reducible rfl))); (try simp only [Act.put, List.getElem_toArray, List.getElem_cons_zero, List.getElem_cons_succ, List.setIfInBounds_toArray, List.set_cons_zero, List.set_cons_succ])
      refine wpAnyT_take (i := 6) (oi := _) (v := ?_) rfl (by kernel_rfl) (fun _ _ _ h => h) (Or.inl ⟨by kernel_rfl, ?_⟩) (by assumption) ?_; rotate_left; (focus (intro w hSw; (try dsimp only at hSw); go_simp; (try with_reducible rfl))); (try simp only [Act.put, List.getElem_toArray, List.getElem_cons_zero, List.getElem_cons_succ, List.setIfInBounds_toArray, List.set_cons_zero, List.set_cons_succ])
      refine wpAnyT_take (i := 7) (oi := _) (v := ?_) rfl (by kernel_rfl) (fun _ _ _ h => h) (Or.inl ⟨by kernel_rfl, ?_⟩) (by assumption) ?_; rotate_left; (focus (intro w hSw; (try dsimp only at hSw); go_simp; (try with_reducible rfl))); (try simp only [Act.put, List.getElem_toArray, List.getElem_cons_zero, List.getElem_cons_succ, List.setIfInBounds_toArray, List.set_cons_zero, List.set_cons_succ])
      refine wpAnyT_take (i := 8) (oi := _) (v := ?_) rfl (by kernel_rfl) (fun _ _ _ h => h) (Or.inl ⟨by kernel_rfl, ?_⟩) (by assumption) ?_; rotate_left; (focus (intro w hSw; (try dsimp only at hSw); go_simp; (try with_reducible rfl))); (try simp only [Act.put, List.getElem_toArray, List.getElem_cons_zero, List.getElem_cons_succ, List.setIfInBounds_toArray, List.set_cons_zero, List.set_cons_succ])
      refine wpAnyT_take (i := 9) (oi := _) (v := ?_) rfl (by kernel_rfl) (fun _ _ _ h => h) (Or.inl ⟨by kernel_rfl, ?_⟩) (by assumption) ?_; rotate_left; (focus (intro w hSw; (try dsimp only at hSw); go_simp; (try with_reducible rfl))); (try simp only [Act.put, List.getElem_toArray, List.getElem_cons_zero, List.getElem_cons_succ, List.setIfInBounds_toArray, List.set_cons_zero, List.set_cons_succ])
      refine wpAnyT_one (i := 10) (by kernel_rfl) rfl (fun K hK => ?_); go_simp
      have hH2 := Hk.out _ ((below_drewN_ (Below.refl w1.heap.size w1) 1).alloc (Nat.le_refl _) (.cells #[.string ⟨#[]⟩, .int .i64 0, .map none] 57))
      refine hK.out _ _ (fun _ => hH2) ?_
      clear hK K
      (try simp only [Act.put, List.getElem_toArray, List.getElem_cons_zero, List.getElem_cons_succ, List.setIfInBounds_toArray, List.set_cons_zero, List.set_cons_succ])
      refine wpAnyT_one (i := 11) (by kernel_rfl) rfl (fun K hK => ?_); go_simp
      have hb3 : Below w1.heap.size w1 (w1.alloc (.cells #[.string u.key, .int .i64 u.born, .map (some u.b)] 57)).drew := below_drewN_ ((Below.refl _ _).alloc (Nat.le_refl _) _) 1
      have hH3 := Hk.out _ hb3
      refine hK.out _ _ (fun _ => hH3) ?_
      clear hK K
      (try simp only [Act.put, List.getElem_toArray, List.getElem_cons_zero, List.getElem_cons_succ, List.setIfInBounds_toArray, List.set_cons_zero, List.set_cons_succ])
      refine wpAnyT_take (i := 12) (oi := _) (v := ?_) rfl (by kernel_rfl) (fun _ _ _ h => h) (Or.inl ⟨by kernel_rfl, ?_⟩) (by assumption) ?_; rotate_left; (focus (intro w hSw; (try dsimp only at hSw); go_simp; (try with_reducible rfl))); (try simp only [Act.put, List.getElem_toArray, List.getElem_cons_zero, List.getElem_cons_succ, List.setIfInBounds_toArray, List.set_cons_zero, List.set_cons_succ])
      refine wpAnyT_done (by kernel_rfl) ?_ _
      have HF2 := Lib.hid (HF.out.below hb3)
      clear hH2 hHeld
      have HB2 : Hid (Blk (w1.alloc (.cells #[.string u.key, .int .i64 u.born, .map (some u.b)] 57)).drew w1.heap.size 57 #[.string u.key, .int .i64 u.born, .map (some u.b)]) := Lib.hid (Blk.new _ _ _)
      have hle2 : g4 < (w1.alloc (.cells #[.string u.key, .int .i64 u.born, .map (some u.b)] 57)).drew.heap.size := HF2.out.res.lt
      clear hb3 hH3 Hk k0 k1 k2 k3 k4 k5 k6
      generalize (w1.alloc (.cells #[.string u.key, .int .i64 u.born, .map (some u.b)] 57)).drew = w2 at *
      generalize w1.heap.size = g5 at *
      have k0 : w2.cell? ⟨g3, 0, none⟩ = some (.int .i64 kind) := HF2.out.call.cell 0
      have k1 : w2.cell? ⟨g3, 1, none⟩ = some (.string key) := HF2.out.call.cell 1
      have k2 : w2.cell? ⟨g3, 2, none⟩ = some (.slice A d.length c) := HF2.out.call.cell 2
      have k3 : w2.cell? ⟨g3, 3, none⟩ = some (.int .i64 ver) := HF2.out.call.cell 3
      have k4 : w2.cell? ⟨g3, 4, none⟩ = some (.int .i64 at_) := HF2.out.call.cell 4
      have k5 : w2.cell? ⟨g3, 5, none⟩ = some (.int .i64 nn) := HF2.out.call.cell 5
      have k6 : w2.cell? ⟨g3, 6, none⟩ = some (.int .i64 id) := HF2.out.call.cell 6
      have u0 : w2.cell? ⟨g5, 0, none⟩ = some (.string u.key) := HB2.out.cell 0
      have u1 : w2.cell? ⟨g5, 1, none⟩ = some (.int .i64 u.born) := HB2.out.cell 1
      have u2 : w2.cell? ⟨g5, 2, none⟩ = some (.map (some u.b)) := HB2.out.cell 2
      have HR : Hid (L.pure.step ⟨kind, key, d, ver, at_, nn, id⟩ = (L.pure.closed id u.pure, bad 0)) := Lib.hid (by
        rw [kind_step]; dsimp only
        rw [if_neg (by omega), if_neg (by omega), if_neg (by omega), if_neg (by omega), if_neg (by omega), if_neg (by omega), if_pos (.inr (.inr HKK.out))]; unfold PS.upload; dsimp only; rw [pure_up, HUU.out]; exact (if_neg (by omega)).trans (if_neg (by omega)))
      go_wp2_with fail
      refine (close_calls w2 HF2.out.at_ HI.out hn HUU.out HOK.out).mono ?_
      rintro e w3 ⟨rfl, hA3, hK3⟩
      have HF3 := Lib.hid (HF2.out.turnTo hA3 hK3 (fun _ _ h => ⟨h, by have := HKK.out; unfold Quiet; dsimp only; omega⟩) rfl)
      clear hA3 hK3 HF2 HB2 k0 k1 k2 k3 k4 k5 k6 u0 u1 u2
      have q0 : w3.cell? ⟨g4, 0, none⟩ = some (.int .i64 0) := HF3.out.res.cell 0
      have p0 : w3.frozen? ⟨g4, 0, none⟩ = false := HF3.out.res.frozen 0
      have q1 : w3.cell? ⟨g4, 1, none⟩ = some (.slice none 0 0) := HF3.out.res.cell 1
      have p1 : w3.frozen? ⟨g4, 1, none⟩ = false := HF3.out.res.frozen 1
      have q2 : w3.cell? ⟨g4, 2, none⟩ = some (.int .i64 0) := HF3.out.res.cell 2
      have p2 : w3.frozen? ⟨g4, 2, none⟩ = false := HF3.out.res.frozen 2
      have q3 : w3.cell? ⟨g4, 3, none⟩ = some (.int .i64 0) := HF3.out.res.cell 3
      have p3 : w3.frozen? ⟨g4, 3, none⟩ = false := HF3.out.res.frozen 3
      have q4 : w3.cell? ⟨g4, 4, none⟩ = some (.int .i64 0) := HF3.out.res.cell 4
      have p4 : w3.frozen? ⟨g4, 4, none⟩ = false := HF3.out.res.frozen 4
      have q5 : w3.cell? ⟨g4, 5, none⟩ = some (.slice none 0 0) := HF3.out.res.cell 5
      have p5 : w3.frozen? ⟨g4, 5, none⟩ = false := HF3.out.res.frozen 5
      have q6 : w3.cell? ⟨g4, 6, none⟩ = some (.bool false) := HF3.out.res.cell 6
      have p6 : w3.frozen? ⟨g4, 6, none⟩ = false := HF3.out.res.frozen 6
      go_wp2
      obtain ⟨hw, hA, hK⟩ := HF3.out.fin (.int .i64 0) (.slice none 0 0) (.int .i64 0) (.int .i64 0) (.int .i64 0) (.slice none 0 0) (.bool false)
      unfold set7 at hw hA hK
      refine bodyPost_ret (results_cell_row rfl _ _ g4 43 #[.int .i64 0, .slice none 0 0, .int .i64 0, .int .i64 0, .int .i64 0, .slice none 0 0, .bool false] (0, 0) _ rfl hw Tryz.underlying43 rfl (by kernel_rfl)) rfl ?_
      refine ⟨(L.closed id u), _, rfl, ?_, ?_, hA, hK, rfl, fun i hi => .inl (closed_foot (u := u) hi), fun h => absurd h (by have := HKK.out; unfold Quiet; dsimp only; omega), Prov.sub (fun _ h => h) (fun _ h => mdel_sub h)⟩
      · show RepAt _ _ _ (L.pure.step ⟨kind, key, d, ver, at_, nn, id⟩).2
        rw [HR.out]
        exact rep_plain 0 0 0 0
      · show (L.closed id u).pure = (L.pure.step ⟨kind, key, d, ver, at_, nn, id⟩).1
        exact (pure_closed L id u : (L.closed id u).pure = _).trans (congrArg Prod.fst HR.out).symm
  have b10 := eqf hk10
  have HR : Hid (L.pure.step ⟨kind, key, d, ver, at_, nn, id⟩ = (L.pure, bad 1)) := Lib.hid (by
    rw [kind_step]; dsimp only
    rw [if_neg (by omega), if_neg (by omega), if_neg (by omega), if_neg (by omega), if_neg (by omega), if_neg (by omega), if_neg (by omega)])
  have q0 : w1.cell? ⟨g4, 0, none⟩ = some (.int .i64 0) := HF.out.res.cell 0
  have p0 : w1.frozen? ⟨g4, 0, none⟩ = false := HF.out.res.frozen 0
  have q1 : w1.cell? ⟨g4, 1, none⟩ = some (.slice none 0 0) := HF.out.res.cell 1
  have p1 : w1.frozen? ⟨g4, 1, none⟩ = false := HF.out.res.frozen 1
  have q2 : w1.cell? ⟨g4, 2, none⟩ = some (.int .i64 0) := HF.out.res.cell 2
  have p2 : w1.frozen? ⟨g4, 2, none⟩ = false := HF.out.res.frozen 2
  have q3 : w1.cell? ⟨g4, 3, none⟩ = some (.int .i64 0) := HF.out.res.cell 3
  have p3 : w1.frozen? ⟨g4, 3, none⟩ = false := HF.out.res.frozen 3
  have q4 : w1.cell? ⟨g4, 4, none⟩ = some (.int .i64 0) := HF.out.res.cell 4
  have p4 : w1.frozen? ⟨g4, 4, none⟩ = false := HF.out.res.frozen 4
  have q5 : w1.cell? ⟨g4, 5, none⟩ = some (.slice none 0 0) := HF.out.res.cell 5
  have p5 : w1.frozen? ⟨g4, 5, none⟩ = false := HF.out.res.frozen 5
  have q6 : w1.cell? ⟨g4, 6, none⟩ = some (.bool false) := HF.out.res.cell 6
  have p6 : w1.frozen? ⟨g4, 6, none⟩ = false := HF.out.res.frozen 6
  go_wp2
  obtain ⟨hw, hA, hK⟩ := HF.out.fin (.int .i64 1) (.slice none 0 0) (.int .i64 0) (.int .i64 0) (.int .i64 0) (.slice none 0 0) (.bool false)
  unfold set7 at hw hA hK
  refine bodyPost_ret (results_cell_row rfl _ _ g4 43 #[.int .i64 1, .slice none 0 0, .int .i64 0, .int .i64 0, .int .i64 0, .slice none 0 0, .bool false] (0, 0) _ rfl hw Tryz.underlying43 rfl (by kernel_rfl)) rfl ?_
  refine ⟨L, _, rfl, ?_, ?_, hA, hK, rfl, fun i hi => .inl (hi), fun _ => rfl, Prov.refl _ _⟩
  · show RepAt _ _ _ (L.pure.step ⟨kind, key, d, ver, at_, nn, id⟩).2
    rw [HR.out]
    exact rep_plain 1 0 0 0
  · show L.pure = (L.pure.step ⟨kind, key, d, ver, at_, nn, id⟩).1
    exact (rfl : L.pure = _).trans (congrArg Prod.fst HR.out).symm
end St
end Go.Proofs.YtlljpjehalodfaaGreat
