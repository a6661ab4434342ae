/- An upload closed (chapter 14). -/
import Derived.Test.YtlljpjehalodfaaGreatProg
import Derived.Test.YtlljpjehalodfaaGreatStD
import Derived.Test.YtlljpjehalodfaaGreatTail
namespace Go.Proofs.YtlljpjehalodfaaGreat
open Go.RowKit
namespace St

/-- The uploads turn. -/
theorem At.ups {w w' : World} {L : LS} (h : At w L) (hg : w.grownBy w' (some L.bu)) {l : List (Int × Up)} (hm : MapAt kI evU w' L.bu l) (hd : ∀ p ∈ l, p ∈ L.ups) : At w' { L with ups := l } := by
  have hk : Keep L.foot w w' := Keep.of_grown hg fun i e => by injection e with e; exact .inr (.inr (.inl e))
  exact ⟨h.blk.grown hg (fun e => by injection e with e; exact h.gs_bu e), h.mo.kept hg (fun e => by injection e with e; exact h.ne e), hm, fun p hp => h.dat (h.od p hp) hk, fun p hp => (h.um p (hd p hp)).kept hg (fun e => by injection e with e; exact (h.ub p (hd p hp)).2 e), fun p hp q hq => h.dat (h.ud p (hd p hp) q hq) hk, h.ne, fun p hp => h.ub p (hd p hp), fun p hp q hq => h.one p (hd p hp) q (hd q hq), fun p hp => h.uk p (hd p hp)⟩
def LS.closed (L : LS) (id : Int) (u : Up) : LS := { L with all := L.all - (psum u : Int), ups := mdel L.ups id }
set_option maxRecDepth 100000 in
set_option maxHeartbeats 3200000 in
theorem close_calls (w : World) {L : LS} {n : Nat} {id : Int} {u : Up} (h : At w L) (hi : Inv L n) (hn : n ≤ 1000000) (hu : mget L.ups id = some u) (hid : (Lit.int .i64 id).wf = true) :
    Calls Tryz.prog 22 #[.pointer (some ⟨L.gs, 0, none⟩), .int .i64 id] w fun e w' => e = .returned (.tuple #[]) ∧ At w' (L.closed id u) ∧ Keep L.foot w w' := by
  have HA := Lib.hid h
  have HU := Lib.hid Tryz.underlying49
  have HOK : Hid ((kI).ok id) := Lib.hid hid
  have hm := mget_mem hu
  have HE : Hid ((mget L.ups id).elim zU evU = .agg #[.string u.key, .int .i64 u.born, .map (some u.b)]) := Lib.hid (by rw [hu]; rfl)
  have HZ : Hid (∀ W, Below w.heap.size w W → Calls Tryz.prog 51 #[.agg #[.string u.key, .int .i64 u.born, .map (some u.b)]] W fun e w' => e = .returned (.int .i64 (psum u : Nat)) ∧ Below W.heap.size W w') := Lib.hid fun W hW =>
    size_calls W ((h.um _ hm).below hW (h.um _ hm).lt_) (hi.pd _ hm) (Nat.le_trans (hi.pn _ hm) hn) u.key u.born
  have hp9 : psum u ≤ L.tot := by
    have : psum u ≤ msum psum L.ups := msum_mem hm
    unfold LS.tot; omega
  have hall := hi.all
  have hbig := hi.big
  have r1 : IntKind.i64.wrap (L.all - (psum u : Int)) = L.all - (psum u : Int) := by rw [IntKind.wrap_i64]; omega
  have HMD : Hid (L.closed id u = { L with all := L.all - (psum u : Int), ups := mdel L.ups id }) := Lib.hid rfl
  have hgs := h.blk.lt
  have Hkeep : Hid (∀ W, Below w.heap.size w W → W.cell? ⟨L.gs, 5, none⟩ = some (.int .i64 L.all) ∧ W.cell? ⟨L.gs, 1, none⟩ = some (.map (some L.bu)) ∧ (Instr.lookup 49 (.map (some L.bu)) (.int .i64 id) false).run Tryz.prog W = .ok (.agg #[.string u.key, .int .i64 u.born, .map (some u.b)]) W) := Lib.hid fun W hW => ⟨(h.below hW).c_all, (h.below hW).c_bu, (h.below hW).mu.get_at HU.out (zeroU _) HOK.out HE.out⟩
  generalize L.closed id u = L' at *
  generalize psum u = s at *
  clear h hall hbig hp9 hi
  go_enter Tryz.func22, Tryz.ntmps22
  go_upto_region 0 with fail
  refine wp_region_T 14 (fun w' => w'.cell? ⟨L.gs, 5, none⟩ = some (.int .i64 L.all) ∧ w'.cell? ⟨L.gs, 1, none⟩ = some (.map (some L.bu)) ∧ (Instr.lookup 49 (.map (some L.bu)) (.int .i64 id) false).run Tryz.prog w' = .ok (.agg #[.string u.key, .int .i64 u.born, .map (some u.b)]) w') (by kernel_rfl) (Hkeep.out _ (below_drewN_ (Below.refl _ _) 1)) (fun hHeld => ?_)
  refine wpAnyT_take (i := 0) (oi := _) (v := .pointer (some ⟨L.gs, 0, none⟩)) rfl (by kernel_rfl) (fun _ _ _ h => h) (Or.inl ⟨by kernel_rfl, by (intro w hSw; (try dsimp only at hSw); go_simp)⟩) (by assumption) ?_; (try simp only [Act.put, List.getElem_toArray, List.getElem_cons_zero, List.setIfInBounds_toArray, List.set_cons_zero, List.set_cons_succ])
  refine wpAnyT_take (i := 1) (oi := _) (v := .pointer (some ⟨L.gs, 0, none⟩)) rfl (by kernel_rfl) (fun _ _ _ h => h) (Or.inl ⟨by kernel_rfl, by (intro w hSw; (try dsimp only at hSw); go_simp)⟩) (by assumption) ?_; (try simp only [Act.put, List.getElem_toArray, List.getElem_cons_zero, List.getElem_cons_succ, List.setIfInBounds_toArray, List.set_cons_zero, List.set_cons_succ])
  refine wpAnyT_take (i := 2) (oi := _) (v := .pointer (some ⟨L.gs, 5, none⟩)) rfl (by kernel_rfl) (fun _ _ _ h => h) (Or.inl ⟨by kernel_rfl, by (intro w hSw; (try dsimp only at hSw); go_simp)⟩) (by assumption) ?_; (try simp only [Act.put, List.getElem_toArray, List.getElem_cons_zero, List.getElem_cons_succ, List.setIfInBounds_toArray, List.set_cons_zero, List.set_cons_succ])
  refine wpAnyT_take (i := 3) (oi := _) (v := .int .i64 L.all) rfl (by kernel_rfl) (fun _ _ _ h => h) (Or.inl ⟨by kernel_rfl, by (intro w hSw; (try dsimp only at hSw); go_simp)⟩) (by assumption) ?_; (try simp only [Act.put, List.getElem_toArray, List.getElem_cons_zero, List.getElem_cons_succ, List.setIfInBounds_toArray, List.set_cons_zero, List.set_cons_succ])
  refine wpAnyT_take (i := 4) (oi := _) (v := .pointer (some ⟨L.gs, 0, none⟩)) rfl (by kernel_rfl) (fun _ _ _ h => h) (Or.inl ⟨by kernel_rfl, by (intro w hSw; (try dsimp only at hSw); go_simp)⟩) (by assumption) ?_; (try simp only [Act.put, List.getElem_toArray, List.getElem_cons_zero, List.getElem_cons_succ, List.setIfInBounds_toArray, List.set_cons_zero, List.set_cons_succ])
  refine wpAnyT_take (i := 5) (oi := _) (v := .pointer (some ⟨L.gs, 0, none⟩)) rfl (by kernel_rfl) (fun _ _ _ h => h) (Or.inl ⟨by kernel_rfl, by (intro w hSw; (try dsimp only at hSw); go_simp)⟩) (by assumption) ?_; (try simp only [Act.put, List.getElem_toArray, List.getElem_cons_zero, List.getElem_cons_succ, List.setIfInBounds_toArray, List.set_cons_zero, List.set_cons_succ])
  refine wpAnyT_take (i := 6) (oi := _) (v := .pointer (some ⟨L.gs, 1, none⟩)) rfl (by kernel_rfl) (fun _ _ _ h => h) (Or.inl ⟨by kernel_rfl, by (intro w hSw; (try dsimp only at hSw); go_simp)⟩) (by assumption) ?_; (try simp only [Act.put, List.getElem_toArray, List.getElem_cons_zero, List.getElem_cons_succ, List.setIfInBounds_toArray, List.set_cons_zero, List.set_cons_succ])
  refine wpAnyT_take (i := 7) (oi := _) (v := .map (some L.bu)) rfl (by kernel_rfl) (fun _ _ _ h => h) (Or.inl ⟨by kernel_rfl, by (intro w hSw; (try dsimp only at hSw); go_simp)⟩) (by assumption) ?_; (try simp only [Act.put, List.getElem_toArray, List.getElem_cons_zero, List.getElem_cons_succ, List.setIfInBounds_toArray, List.set_cons_zero, List.set_cons_succ])
  refine wpAnyT_take (i := 8) (oi := _) (v := .int .i64 id) rfl (by kernel_rfl) (fun _ _ _ h => h) (Or.inl ⟨by kernel_rfl, by (intro w hSw; (try dsimp only at hSw); go_simp)⟩) (by assumption) ?_; (try simp only [Act.put, List.getElem_toArray, List.getElem_cons_zero, List.getElem_cons_succ, List.setIfInBounds_toArray, List.set_cons_zero, List.set_cons_succ])
  refine wpAnyT_take (i := 9) (oi := _) (v := .agg #[.string u.key, .int .i64 u.born, .map (some u.b)]) rfl (by kernel_rfl) (fun _ _ _ h => h) (Or.inl ⟨by kernel_rfl, by (intro w hSw; (try dsimp only at hSw); go_simp)⟩) (by assumption) ?_; (try simp only [Act.put, List.getElem_toArray, List.getElem_cons_zero, List.getElem_cons_succ, List.setIfInBounds_toArray, List.set_cons_zero, List.set_cons_succ])
  refine wpAnyT_one (i := 10) (by kernel_rfl) rfl (fun K hK => ?_); go_simp
  refine (HZ.out _ (below_drewN_ (Below.refl _ _) 1)).mono ?_
  rintro e w1 ⟨rfl, hb1⟩
  have hbw : Below w.heap.size w w1 := (below_drewN_ (Below.refl _ _) 1).trans hb1
  have hH1 := Hkeep.out _ hbw
  refine hK.out _ _ (fun _ => hH1) ?_
  clear hK K
  refine wpAnyT_take (i := 11) (oi := _) (v := .int .i64 (L.all - (s : Int))) rfl (by kernel_rfl) (fun _ _ _ h => h) (Or.inl ⟨by kernel_rfl, by (intro w hSw; (try dsimp only at hSw); go_simp)⟩) (by assumption) ?_; (try simp only [Act.put, List.getElem_toArray, List.getElem_cons_zero, List.getElem_cons_succ, List.setIfInBounds_toArray, List.set_cons_zero, List.set_cons_succ])
  refine wpAnyT_one (i := 12) (by kernel_rfl) rfl (fun K hK => ?_); go_simp; refine hK.out _ _ (fun _ => hH1) ?_; clear hK K; (try simp only [Act.put, List.getElem_toArray, List.getElem_cons_zero, List.getElem_cons_succ, List.setIfInBounds_toArray, List.set_cons_zero, List.set_cons_succ])
  refine wpAnyT_one (i := 13) (by kernel_rfl) rfl (fun K hK => ?_); go_simp; refine hK.out _ _ (fun _ => hH1) ?_; clear hK K; (try simp only [Act.put, List.getElem_toArray, List.getElem_cons_zero, List.getElem_cons_succ, List.setIfInBounds_toArray, List.set_cons_zero, List.set_cons_succ])
  have HA1 := Lib.hid (HA.out.below hbw)
  have c5 := HA1.out.c_all
  have f5 := HA1.out.blk.frozen 5
  refine wpAnyT_one (i := 14) (by kernel_rfl) rfl (fun K hK => ?_); go_simp
  refine hK.out _ _ (fun h => absurd rfl h) (wpAnyT_done (by kernel_rfl) ?_ _)
  clear hK K
  have HA2 := Lib.hid (HA1.out.set (i := 5) (u := .int .i64 (L.all - (s : Int))) (L' := { L with all := L.all - (s : Int) }) rfl rfl rfl rfl rfl rfl)
  have HK2 : Hid (Keep L.foot w (w1.setCell ⟨L.gs, 5, none⟩ (.int .i64 (L.all - (s : Int))))) := Lib.hid ((Keep.of_below hbw).setCell (.inl (.inl rfl)) _)
  clear HA1 hH1 hHeld hb1 hbw c5 f5 HZ Hkeep
  generalize w1.setCell ⟨L.gs, 5, none⟩ (.int .i64 (L.all - (s : Int))) = w2 at *
  have c1 : w2.cell? ⟨L.gs, 1, none⟩ = some (.map (some L.bu)) := HA2.out.c_bu
  obtain ⟨w3, hrun, hm3, hg3, hs3⟩ := HA2.out.mu.del_run HU.out HOK.out 0
  have HA3 : Hid (At w3 L') := Lib.hid (by
    rw [HMD.out]
    exact HA2.out.ups hg3 hm3 (fun p hp => mdel_sub hp))
  have HK3 := Lib.hid (HK2.out.trans (Keep.of_grown hg3 fun i e => by injection e with e; exact .inr (.inr (.inl e))))
  have hrun' : (Builtin.delete_ #[49, 3] 0 #[.map (some L.bu), .int .i64 id]).run Tryz.prog w2 = .ok (.tuple #[]) w3 := hrun
  clear hm3 hg3 hs3 hrun
  go_wp2
  go_end0
  exact ⟨rfl, HA3.out, HK3.out⟩
end St
end Go.Proofs.YtlljpjehalodfaaGreat
