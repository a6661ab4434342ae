/- A call of a store under way; an object put (chapter 14). -/
import Derived.Test.YtlljpjehalodfaaGreatProg
import Derived.Test.YtlljpjehalodfaaGreatStG0
namespace Go.Proofs.YtlljpjehalodfaaGreat
open Go.RowKit
namespace St

def putE (L : LS) (x : Cl) : Int :=
  if rightB x.key = false then 1
  else if x.kind = 2 ∧ (decide (x.ver = 0) = (mget L.objs x.key).isSome) then 8
  else if x.kind = 2 ∧ (mget L.objs x.key).isSome = true ∧ ((mget L.objs x.key).getD ob0).ver ≠ x.ver then 8
  else if 262144 < x.d.length then 5
  else if L.crowded x.key = true ∨ 4194304 < L.all - (((mget L.objs x.key).getD ob0).d.length : Int) + (x.d.length : Int) then 9
  else 0
def VerOk (L : LS) (key : ByteArray) (kind ver : Int) : Prop := ¬ (kind = 2 ∧ (decide (ver = 0) = (mget L.objs key).isSome)) ∧ ¬ (kind = 2 ∧ (mget L.objs key).isSome = true ∧ ((mget L.objs key).getD ob0).ver ≠ ver)
theorem VerOk.a {L : LS} {key : ByteArray} {kind ver : Int} (h : VerOk L key kind ver) : ¬ (kind = 2 ∧ (decide (ver = 0) = (mget L.objs key).isSome)) := And.left h
theorem VerOk.b {L : LS} {key : ByteArray} {kind ver : Int} (h : VerOk L key kind ver) : ¬ (kind = 2 ∧ (mget L.objs key).isSome = true ∧ ((mget L.objs key).getD ob0).ver ≠ ver) := And.right h
def RetPut (w : World) (L : LS) (x : Cl) (e : Ending) (w' : World) : Prop :=
  (putE L x ≠ 0 ∧ RetE w L (putE L x) e w') ∨ (putE L x = 0 ∧ ∃ A' c', High w.heap.size A' ∧ RetMake w L (L.made x.key A' c' x.d) e w')
set_option maxRecDepth 100000 in
set_option maxHeartbeats 16000000 in
theorem put_calls (w : World) {L : LS} {n : Nat} {x : Cl} (h : At w L) (hi : Inv L n) (hn : n ≤ 1000000) (hd : Dat w L.gs x.A x.c x.d) (hdl : x.d.length ≤ 140737488355328) (hk : x.key.size ≤ maxLen) :
    Calls Tryz.prog 15 #[.pointer (some ⟨L.gs, 0, none⟩), x.val] w (RetPut w L x) := by
  have HF := Lib.hid (Fr.start L.foot h hd)
  have HI := Lib.hid hi
  have HU := Lib.hid Tryz.underlying48
  have HOK : Hid ((kS).ok x.key) := Lib.hid hk
  have HE := Lib.hid (elimO L.objs x.key)
  have hgs := h.blk.lt
  have HP : Hid (putE L x = putE L x) := Lib.hid rfl
  obtain ⟨kind, key, A, c, d, ver, at_, nn, id⟩ := x
  dsimp only [Cl.val, Cl.cells] at *
  clear h hd hi
  go_enter Tryz.func15, Tryz.ntmps15
  go_upto_region 1 with fail
  generalize hq : (mget L.objs key).isSome = q at *
  generalize ho : (mget L.objs key).getD ob0 = o at *
  have HE2 : Hid ((mget L.objs key).elim zO evO = .agg #[.slice o.A o.d.length o.c, .int .i64 o.ver, .int .i64 o.born]) := Lib.hid HE.out
  have HQ := Lib.hid hq
  unfold rep0 at HF
  generalize (w.alloc (.cells #[.int .i64 kind, .string key, .slice A d.length c, .int .i64 ver, .int .i64 at_, .int .i64 nn, .int .i64 id] 34)).alloc (.cells #[.int .i64 0, .slice none 0 0, .int .i64 0, .int .i64 0, .int .i64 0, .slice none 0 0, .bool false] 43) = w1 at *
  generalize hg4 : w.heap.size + 1 = g4 at *
  generalize hg3 : w.heap.size = g3 at *
  have Hkeep : Hid (∀ W, Below w1.heap.size w1 W → W.cell? ⟨L.gs, 0, none⟩ = some (.map (some L.bo)) ∧ W.cell? ⟨g3, 1, none⟩ = some (.string key) ∧ (Instr.lookup 48 (.map (some L.bo)) (.string key) true).run Tryz.prog W = .ok (.tuple #[.agg #[.slice o.A o.d.length o.c, .int .i64 o.ver, .int .i64 o.born], .bool q]) W) := Lib.hid fun W hW => ⟨(HF.out.below hW).at_.c_bo, (HF.out.below hW).call.cell 1, (HF.out.below hW).at_.mo.ask_at HU.out (zeroO _) HOK.out HE2.out HQ.out⟩
  clear hq HE
  go_region_held3 (fun w' => w'.cell? ⟨L.gs, 0, none⟩ = some (.map (some L.bo)) ∧ w'.cell? ⟨g3, 1, none⟩ = some (.string key) ∧ (Instr.lookup 48 (.map (some L.bo)) (.string key) true).run Tryz.prog w' = .ok (.tuple #[.agg #[.slice o.A o.d.length o.c, .int .i64 o.ver, .int .i64 o.born], .bool q]) w') (exact Hkeep.out _ (by first | exact below_drewN_ (Below.refl _ _) 1 | exact ((below_drewN_ (Below.refl _ _) 1).alloc (Nat.le_refl _) _) | exact (((below_drewN_ (Below.refl _ _) 1).alloc (Nat.le_refl _) _).setCell (Nat.le_refl _) _))) (fail)
  all_goals
    have hb2 : Below w1.heap.size w1 (w1.alloc (.cells #[.slice o.A o.d.length o.c, .int .i64 o.ver, .int .i64 o.born] 53)).drew := below_drewN_ ((Below.refl _ _).alloc (Nat.le_refl _) _) 1
    have HF2 := Lib.hid (HF.out.below hb2)
    have HB2 : Hid (Blk (w1.alloc (.cells #[.slice o.A o.d.length o.c, .int .i64 o.ver, .int .i64 o.born] 53)).drew w1.heap.size 53 #[.slice o.A o.d.length o.c, .int .i64 o.ver, .int .i64 o.born]) := Lib.hid (Blk.new _ _ _)
    clear hb2 HF Hkeep
    generalize (w1.alloc (.cells #[.slice o.A o.d.length o.c, .int .i64 o.ver, .int .i64 o.born] 53)).drew = w2 at *
    generalize w1.heap.size = g5 at *
    have k1 : w2.cell? ⟨g3, 1, none⟩ = some (.string key) := HF2.out.call.cell 1
    go_wp2_with fail
    refine (right_calls w2 key).mono ?_
    rintro e w3 ⟨rfl, hb3⟩
    have HF3 := Lib.hid (HF2.out.below hb3)
    have HB3 := Lib.hid (HB2.out.below hb3 HB2.out.lt)
    clear hb3 HF2 HB2 k1
    have k0 : w3.cell? ⟨g3, 0, none⟩ = some (.int .i64 kind) := HF3.out.call.cell 0
    have k2 : w3.cell? ⟨g3, 2, none⟩ = some (.slice A d.length c) := HF3.out.call.cell 2
    have k3 : w3.cell? ⟨g3, 3, none⟩ = some (.int .i64 ver) := HF3.out.call.cell 3
    have o1 : w3.cell? ⟨g5, 1, none⟩ = some (.int .i64 o.ver) := HB3.out.cell 1
    have q0 : w3.cell? ⟨g4, 0, none⟩ = some (.int .i64 0) := HF3.out.res.cell 0
    have p0 : w3.frozen? ⟨g4, 0, none⟩ = false := HF3.out.res.frozen 0
    have q1 : w3.cell? ⟨g4, 1, none⟩ = some (.slice none 0 0) := HF3.out.res.cell 1
    have p1 : w3.frozen? ⟨g4, 1, none⟩ = false := HF3.out.res.frozen 1
    have q2 : w3.cell? ⟨g4, 2, none⟩ = some (.int .i64 0) := HF3.out.res.cell 2
    have p2 : w3.frozen? ⟨g4, 2, none⟩ = false := HF3.out.res.frozen 2
    have q3 : w3.cell? ⟨g4, 3, none⟩ = some (.int .i64 0) := HF3.out.res.cell 3
    have p3 : w3.frozen? ⟨g4, 3, none⟩ = false := HF3.out.res.frozen 3
    have q4 : w3.cell? ⟨g4, 4, none⟩ = some (.int .i64 0) := HF3.out.res.cell 4
    have p4 : w3.frozen? ⟨g4, 4, none⟩ = false := HF3.out.res.frozen 4
    have q5 : w3.cell? ⟨g4, 5, none⟩ = some (.slice none 0 0) := HF3.out.res.cell 5
    have p5 : w3.frozen? ⟨g4, 5, none⟩ = false := HF3.out.res.frozen 5
    have q6 : w3.cell? ⟨g4, 6, none⟩ = some (.bool false) := HF3.out.res.cell 6
    have p6 : w3.frozen? ⟨g4, 6, none⟩ = false := HF3.out.res.frozen 6
    cases hr : rightB key with
    | false =>
      have HT : Hid (putE L ⟨kind, key, A, c, d, ver, at_, nn, id⟩ = 1) := Lib.hid (by unfold putE; rw [if_pos hr])
      go_wp2
      obtain ⟨hw, hA, hK⟩ := HF3.out.fin (.int .i64 1) (.slice none 0 0) (.int .i64 0) (.int .i64 0) (.int .i64 0) (.slice none 0 0) (.bool false)
      unfold set7 at hw hA hK
      refine bodyPost_ret (results_cell_row rfl _ _ g4 43 #[.int .i64 1, .slice none 0 0, .int .i64 0, .int .i64 0, .int .i64 0, .slice none 0 0, .bool false] (0, 0) _ rfl hw Tryz.underlying43 rfl (by kernel_rfl)) rfl ?_
      exact .inl ⟨by rw [HT.out]; decide, by rw [HT.out]; exact ⟨rfl, hA, hK⟩⟩
    | true =>
      by_cases hkind : kind = 2
      · have b0 := eqt hkind
        subst hkind
        by_cases hv : ver = 0
        · have b1 := eqt hv
          cases q with
          | true =>
            have HT : Hid (putE L ⟨2, key, A, c, d, ver, at_, nn, id⟩ = 8) := Lib.hid (by
              unfold putE; rw [if_neg (by rw [hr]; decide), if_pos ⟨rfl, by rw [HQ.out]; exact decide_eq_true hv⟩])
            go_wp2
            obtain ⟨hw, hA, hK⟩ := HF3.out.fin (.int .i64 8) (.slice none 0 0) (.int .i64 0) (.int .i64 0) (.int .i64 0) (.slice none 0 0) (.bool false)
            unfold set7 at hw hA hK
            refine bodyPost_ret (results_cell_row rfl _ _ g4 43 #[.int .i64 8, .slice none 0 0, .int .i64 0, .int .i64 0, .int .i64 0, .slice none 0 0, .bool false] (0, 0) _ rfl hw Tryz.underlying43 rfl (by kernel_rfl)) rfl ?_
            exact .inl ⟨by rw [HT.out]; decide, by rw [HT.out]; exact ⟨rfl, hA, hK⟩⟩
          | false =>
            have HN : Hid (VerOk L key 2 ver) := Lib.hid (by unfold VerOk; rw [HQ.out]; exact ⟨fun h => (by have := h.2; rw [decide_eq_true hv] at this; cases this), fun h => (by cases h.2.1)⟩)
            clear hv
            by_cases hlong : 262144 < d.length
            · have d1 : decide ((262144 : Int) < (d.length : Int)) = true := dct (by omega)
              have HT : Hid (putE L ⟨2, key, A, c, d, ver, at_, nn, id⟩ = 5) := Lib.hid (by
                unfold putE; rw [if_neg (by rw [hr]; decide), if_neg HN.out.a, if_neg HN.out.b, if_pos hlong])
              go_wp2
              obtain ⟨hw, hA, hK⟩ := HF3.out.fin (.int .i64 5) (.slice none 0 0) (.int .i64 0) (.int .i64 0) (.int .i64 0) (.slice none 0 0) (.bool false)
              unfold set7 at hw hA hK
              refine bodyPost_ret (results_cell_row rfl _ _ g4 43 #[.int .i64 5, .slice none 0 0, .int .i64 0, .int .i64 0, .int .i64 0, .slice none 0 0, .bool false] (0, 0) _ rfl hw Tryz.underlying43 rfl (by kernel_rfl)) rfl ?_
              exact .inl ⟨by rw [HT.out]; decide, by rw [HT.out]; exact ⟨rfl, hA, hK⟩⟩
            · have d1 : decide ((262144 : Int) < (d.length : Int)) = false := dcf (by omega)
              go_upto_region 9 with fail
              have HC : Hid (∀ W, Below w3.heap.size w3 W → Calls Tryz.prog 39 #[.pointer (some ⟨L.gs, 0, none⟩), .string key] W fun e w' => e = .returned (.bool (L.crowded key)) ∧ Below W.heap.size W w') := Lib.hid fun W hW => crowded_calls W (HF3.out.at_.below hW) hk (Nat.le_trans HI.out.on hn)
              have Hk9 : Hid (∀ W, Below w3.heap.size w3 W → W.cell? ⟨g3, 1, none⟩ = some (.string key) ∧ W.cell? ⟨L.gs, 5, none⟩ = some (.int .i64 L.all) ∧ W.cell? ⟨g5, 0, none⟩ = some (.slice o.A o.d.length o.c) ∧ W.cell? ⟨g3, 2, none⟩ = some (.slice A d.length c)) := Lib.hid fun W hW => ⟨(HF3.out.below hW).call.cell 1, (HF3.out.below hW).at_.c_all, (HB3.out.below hW HB3.out.lt).cell 0, (HF3.out.below hW).call.cell 2⟩
              clear k2 k3 o1 q0 q1 q2 q3 q4 q5 q6 p0 p1 p2 p3 p4 p5 p6
              refine wp_region_T 100 (fun w' => w'.cell? ⟨g3, 1, none⟩ = some (.string key) ∧ w'.cell? ⟨L.gs, 5, none⟩ = some (.int .i64 L.all) ∧ w'.cell? ⟨g5, 0, none⟩ = some (.slice o.A o.d.length o.c) ∧ w'.cell? ⟨g3, 2, none⟩ = some (.slice A d.length c)) (by kernel_rfl) (Hk9.out _ (below_drewN_ (Below.refl _ _) 1)) (fun hHeld => ?_)
              refine wpAnyT_take (i := 0) (oi := _) (v := .pointer (some ⟨L.gs, 0, none⟩)) rfl (by kernel_rfl) (fun _ _ _ h => h) (Or.inl ⟨by kernel_rfl, by (intro w hSw; (try dsimp only at hSw); go_simp)⟩) (by assumption) ?_; (try simp only [Act.put, List.getElem_toArray, List.getElem_cons_zero, List.setIfInBounds_toArray, List.set_cons_zero, List.set_cons_succ])
              refine wpAnyT_take (i := 1) (oi := _) (v := .pointer (some ⟨g3, 1, none⟩)) rfl (by kernel_rfl) (fun _ _ _ h => h) (Or.inl ⟨by kernel_rfl, by (intro w hSw; (try dsimp only at hSw); go_simp)⟩) (by assumption) ?_; (try simp only [Act.put, List.getElem_toArray, List.getElem_cons_zero, List.getElem_cons_succ, List.setIfInBounds_toArray, List.set_cons_zero, List.set_cons_succ])
              refine wpAnyT_take (i := 2) (oi := _) (v := .string key) rfl (by kernel_rfl) (fun _ _ _ h => h) (Or.inl ⟨by kernel_rfl, by (intro w hSw; (try dsimp only at hSw); go_simp)⟩) (by assumption) ?_; (try simp only [Act.put, List.getElem_toArray, List.getElem_cons_zero, List.getElem_cons_succ, List.setIfInBounds_toArray, List.set_cons_zero, List.set_cons_succ])
              refine wpAnyT_one (i := 3) (by kernel_rfl) rfl (fun K hK => ?_); go_simp
              refine (HC.out _ (below_drewN_ (Below.refl _ _) 1)).mono ?_
              rintro e w4 ⟨rfl, hb4'⟩
              have hb4 : Below w3.heap.size w3 w4 := (below_drewN_ (Below.refl _ _) 1).trans hb4'
              have hH4 := Hk9.out _ hb4
              refine hK.out _ _ (fun _ => hH4) ?_
              clear hK K hHeld
              have HF4 := Lib.hid (HF3.out.below hb4)
              clear HC Hk9 hb4' hb4 HF3 HB3
              cases hcr : L.crowded key with
              | true =>
                have HT : Hid (putE L ⟨2, key, A, c, d, ver, at_, nn, id⟩ = 9) := Lib.hid (by
                  unfold putE; rw [if_neg (by rw [hr]; decide), if_neg HN.out.a, if_neg HN.out.b, if_neg hlong, if_pos (.inl hcr)])
                refine wpAnyT_take (i := 4) (oi := _) (v := .bool true) rfl (by kernel_rfl) (fun _ _ _ h => h) (Or.inl ⟨by kernel_rfl, by (intro w hSw; (try dsimp only at hSw); go_simp)⟩) (by assumption) ?_; (try simp only [Act.put, List.getElem_toArray, List.getElem_cons_zero, List.getElem_cons_succ, List.setIfInBounds_toArray, List.set_cons_zero, List.set_cons_succ])
                refine wpAnyT_take (i := 5) (oi := _) (v := undef) rfl (by kernel_rfl) (fun _ _ _ h => h) (Or.inr ⟨by kernel_rfl, rfl⟩) (by assumption) ?_; (try simp only [Act.put, List.getElem_toArray, List.getElem_cons_zero, List.getElem_cons_succ, List.setIfInBounds_toArray, List.set_cons_zero, List.set_cons_succ])
                refine wpAnyT_take (i := 6) (oi := _) (v := undef) rfl (by kernel_rfl) (fun _ _ _ h => h) (Or.inr ⟨by kernel_rfl, rfl⟩) (by assumption) ?_; (try simp only [Act.put, List.getElem_toArray, List.getElem_cons_zero, List.getElem_cons_succ, List.setIfInBounds_toArray, List.set_cons_zero, List.set_cons_succ])
                refine wpAnyT_take (i := 7) (oi := _) (v := undef) rfl (by kernel_rfl) (fun _ _ _ h => h) (Or.inr ⟨by kernel_rfl, rfl⟩) (by assumption) ?_; (try simp only [Act.put, List.getElem_toArray, List.getElem_cons_zero, List.getElem_cons_succ, List.setIfInBounds_toArray, List.set_cons_zero, List.set_cons_succ])
                refine wpAnyT_take (i := 8) (oi := _) (v := undef) rfl (by kernel_rfl) (fun _ _ _ h => h) (Or.inr ⟨by kernel_rfl, rfl⟩) (by assumption) ?_; (try simp only [Act.put, List.getElem_toArray, List.getElem_cons_zero, List.getElem_cons_succ, List.setIfInBounds_toArray, List.set_cons_zero, List.set_cons_succ])
                refine wpAnyT_take (i := 9) (oi := _) (v := undef) rfl (by kernel_rfl) (fun _ _ _ h => h) (Or.inr ⟨by kernel_rfl, rfl⟩) (by assumption) ?_; (try simp only [Act.put, List.getElem_toArray, List.getElem_cons_zero, List.getElem_cons_succ, List.setIfInBounds_toArray, List.set_cons_zero, List.set_cons_succ])
                refine wpAnyT_take (i := 10) (oi := _) (v := undef) rfl (by kernel_rfl) (fun _ _ _ h => h) (Or.inr ⟨by kernel_rfl, rfl⟩) (by assumption) ?_; (try simp only [Act.put, List.getElem_toArray, List.getElem_cons_zero, List.getElem_cons_succ, List.setIfInBounds_toArray, List.set_cons_zero, List.set_cons_succ])
                refine wpAnyT_take (i := 11) (oi := _) (v := undef) rfl (by kernel_rfl) (fun _ _ _ h => h) (Or.inr ⟨by kernel_rfl, rfl⟩) (by assumption) ?_; (try simp only [Act.put, List.getElem_toArray, List.getElem_cons_zero, List.getElem_cons_succ, List.setIfInBounds_toArray, List.set_cons_zero, List.set_cons_succ])
                refine wpAnyT_take (i := 12) (oi := _) (v := undef) rfl (by kernel_rfl) (fun _ _ _ h => h) (Or.inr ⟨by kernel_rfl, rfl⟩) (by assumption) ?_; (try simp only [Act.put, List.getElem_toArray, List.getElem_cons_zero, List.getElem_cons_succ, List.setIfInBounds_toArray, List.set_cons_zero, List.set_cons_succ])
                refine wpAnyT_take (i := 13) (oi := _) (v := undef) rfl (by kernel_rfl) (fun _ _ _ h => h) (Or.inr ⟨by kernel_rfl, rfl⟩) (by assumption) ?_; (try simp only [Act.put, List.getElem_toArray, List.getElem_cons_zero, List.getElem_cons_succ, List.setIfInBounds_toArray, List.set_cons_zero, List.set_cons_succ])
                refine wpAnyT_take (i := 14) (oi := _) (v := undef) rfl (by kernel_rfl) (fun _ _ _ h => h) (Or.inr ⟨by kernel_rfl, rfl⟩) (by assumption) ?_; (try simp only [Act.put, List.getElem_toArray, List.getElem_cons_zero, List.getElem_cons_succ, List.setIfInBounds_toArray, List.set_cons_zero, List.set_cons_succ])
                refine wpAnyT_take (i := 15) (oi := _) (v := undef) rfl (by kernel_rfl) (fun _ _ _ h => h) (Or.inr ⟨by kernel_rfl, rfl⟩) (by assumption) ?_; (try simp only [Act.put, List.getElem_toArray, List.getElem_cons_zero, List.getElem_cons_succ, List.setIfInBounds_toArray, List.set_cons_zero, List.set_cons_succ])
                refine wpAnyT_take (i := 16) (oi := _) (v := undef) rfl (by kernel_rfl) (fun _ _ _ h => h) (Or.inr ⟨by kernel_rfl, rfl⟩) (by assumption) ?_; (try simp only [Act.put, List.getElem_toArray, List.getElem_cons_zero, List.getElem_cons_succ, List.setIfInBounds_toArray, List.set_cons_zero, List.set_cons_succ])
                refine wpAnyT_take (i := 17) (oi := _) (v := undef) rfl (by kernel_rfl) (fun _ _ _ h => h) (Or.inr ⟨by kernel_rfl, rfl⟩) (by assumption) ?_; (try simp only [Act.put, List.getElem_toArray, List.getElem_cons_zero, List.getElem_cons_succ, List.setIfInBounds_toArray, List.set_cons_zero, List.set_cons_succ])
                refine wpAnyT_take (i := 18) (oi := _) (v := .bool true) rfl (by kernel_rfl) (fun _ _ _ h => h) (Or.inl ⟨by kernel_rfl, by (intro w hSw; (try dsimp only at hSw); go_simp)⟩) (by assumption) ?_; (try simp only [Act.put, List.getElem_toArray, List.getElem_cons_zero, List.getElem_cons_succ, List.setIfInBounds_toArray, List.set_cons_zero, List.set_cons_succ])
                refine wpAnyT_take (i := 19) (oi := _) (v := .bool true) rfl (by kernel_rfl) (fun _ _ _ h => h) (Or.inl ⟨by kernel_rfl, by (intro w hSw; (try dsimp only at hSw); go_simp)⟩) (by assumption) ?_; (try simp only [Act.put, List.getElem_toArray, List.getElem_cons_zero, List.getElem_cons_succ, List.setIfInBounds_toArray, List.set_cons_zero, List.set_cons_succ])
                refine wpAnyT_done (by kernel_rfl) ?_ _
                have q0 : w4.cell? ⟨g4, 0, none⟩ = some (.int .i64 0) := HF4.out.res.cell 0
                have p0 : w4.frozen? ⟨g4, 0, none⟩ = false := HF4.out.res.frozen 0
                have q1 : w4.cell? ⟨g4, 1, none⟩ = some (.slice none 0 0) := HF4.out.res.cell 1
                have p1 : w4.frozen? ⟨g4, 1, none⟩ = false := HF4.out.res.frozen 1
                have q2 : w4.cell? ⟨g4, 2, none⟩ = some (.int .i64 0) := HF4.out.res.cell 2
                have p2 : w4.frozen? ⟨g4, 2, none⟩ = false := HF4.out.res.frozen 2
                have q3 : w4.cell? ⟨g4, 3, none⟩ = some (.int .i64 0) := HF4.out.res.cell 3
                have p3 : w4.frozen? ⟨g4, 3, none⟩ = false := HF4.out.res.frozen 3
                have q4 : w4.cell? ⟨g4, 4, none⟩ = some (.int .i64 0) := HF4.out.res.cell 4
                have p4 : w4.frozen? ⟨g4, 4, none⟩ = false := HF4.out.res.frozen 4
                have q5 : w4.cell? ⟨g4, 5, none⟩ = some (.slice none 0 0) := HF4.out.res.cell 5
                have p5 : w4.frozen? ⟨g4, 5, none⟩ = false := HF4.out.res.frozen 5
                have q6 : w4.cell? ⟨g4, 6, none⟩ = some (.bool false) := HF4.out.res.cell 6
                have p6 : w4.frozen? ⟨g4, 6, none⟩ = false := HF4.out.res.frozen 6
                go_wp2
                obtain ⟨hw, hA, hK⟩ := HF4.out.fin (.int .i64 9) (.slice none 0 0) (.int .i64 0) (.int .i64 0) (.int .i64 0) (.slice none 0 0) (.bool false)
                unfold set7 at hw hA hK
                refine bodyPost_ret (results_cell_row rfl _ _ g4 43 #[.int .i64 9, .slice none 0 0, .int .i64 0, .int .i64 0, .int .i64 0, .slice none 0 0, .bool false] (0, 0) _ rfl hw Tryz.underlying43 rfl (by kernel_rfl)) rfl ?_
                exact .inl ⟨by rw [HT.out]; decide, by rw [HT.out]; exact ⟨rfl, hA, hK⟩⟩
              | false =>
                have hall := HI.out.all
                have hbig := HI.out.big
                have hol : o.d.length ≤ 262144 := by
                  rw [← ho]
                  cases hm : mget L.objs key with
                  | none => exact Nat.zero_le _
                  | some o => exact HI.out.od _ (mget_mem hm)
                have r1 : IntKind.i64.wrap (L.all - (o.d.length : Int)) = L.all - (o.d.length : Int) := by rw [IntKind.wrap_i64]; omega
                have r2 : IntKind.i64.wrap (L.all - (o.d.length : Int) + (d.length : Int)) = L.all - (o.d.length : Int) + (d.length : Int) := by rw [IntKind.wrap_i64]; omega
                clear hall hbig
                by_cases hfull : 4194304 < L.all - (o.d.length : Int) + (d.length : Int)
                · have d2 : decide ((4194304 : Int) < L.all - (o.d.length : Int) + (d.length : Int)) = true := dct hfull
                  have HT : Hid (putE L ⟨2, key, A, c, d, ver, at_, nn, id⟩ = 9) := Lib.hid (by
                    unfold putE; rw [if_neg (by rw [hr]; decide), if_neg HN.out.a, if_neg HN.out.b, if_neg hlong, if_pos (.inr (by rw [ho]; exact hfull))])
                  refine wpAnyT_take (i := 4) (oi := _) (v := .bool false) rfl (by kernel_rfl) (fun _ _ _ h => h) (Or.inl ⟨by kernel_rfl, by (intro w hSw; (try dsimp only at hSw); go_simp)⟩) (by assumption) ?_; (try simp only [Act.put, List.getElem_toArray, List.getElem_cons_zero, List.getElem_cons_succ, List.setIfInBounds_toArray, List.set_cons_zero, List.set_cons_succ])
                  refine wpAnyT_take (i := 5) (oi := _) (v := .pointer (some ⟨L.gs, 0, none⟩)) rfl (by kernel_rfl) (fun _ _ _ h => h) (Or.inl ⟨by kernel_rfl, by (intro w hSw; (try dsimp only at hSw); go_simp)⟩) (by assumption) ?_; (try simp only [Act.put, List.getElem_toArray, List.getElem_cons_zero, List.getElem_cons_succ, List.setIfInBounds_toArray, List.set_cons_zero, List.set_cons_succ])
                  refine wpAnyT_take (i := 6) (oi := _) (v := .pointer (some ⟨L.gs, 0, none⟩)) rfl (by kernel_rfl) (fun _ _ _ h => h) (Or.inl ⟨by kernel_rfl, by (intro w hSw; (try dsimp only at hSw); go_simp)⟩) (by assumption) ?_; (try simp only [Act.put, List.getElem_toArray, List.getElem_cons_zero, List.getElem_cons_succ, List.setIfInBounds_toArray, List.set_cons_zero, List.set_cons_succ])
                  refine wpAnyT_take (i := 7) (oi := _) (v := .pointer (some ⟨L.gs, 5, none⟩)) rfl (by kernel_rfl) (fun _ _ _ h => h) (Or.inl ⟨by kernel_rfl, by (intro w hSw; (try dsimp only at hSw); go_simp)⟩) (by assumption) ?_; (try simp only [Act.put, List.getElem_toArray, List.getElem_cons_zero, List.getElem_cons_succ, List.setIfInBounds_toArray, List.set_cons_zero, List.set_cons_succ])
                  refine wpAnyT_take (i := 8) (oi := _) (v := .int .i64 L.all) rfl (by kernel_rfl) (fun _ _ _ h => h) (Or.inl ⟨by kernel_rfl, by (intro w hSw; (try dsimp only at hSw); go_simp)⟩) (by assumption) ?_; (try simp only [Act.put, List.getElem_toArray, List.getElem_cons_zero, List.getElem_cons_succ, List.setIfInBounds_toArray, List.set_cons_zero, List.set_cons_succ])
                  refine wpAnyT_take (i := 9) (oi := _) (v := .pointer (some ⟨g5, 0, none⟩)) rfl (by kernel_rfl) (fun _ _ _ h => h) (Or.inl ⟨by kernel_rfl, by (intro w hSw; (try dsimp only at hSw); go_simp)⟩) (by assumption) ?_; (try simp only [Act.put, List.getElem_toArray, List.getElem_cons_zero, List.getElem_cons_succ, List.setIfInBounds_toArray, List.set_cons_zero, List.set_cons_succ])
                  refine wpAnyT_take (i := 10) (oi := _) (v := .slice o.A o.d.length o.c) rfl (by kernel_rfl) (fun _ _ _ h => h) (Or.inl ⟨by kernel_rfl, by (intro w hSw; (try dsimp only at hSw); go_simp)⟩) (by assumption) ?_; (try simp only [Act.put, List.getElem_toArray, List.getElem_cons_zero, List.getElem_cons_succ, List.setIfInBounds_toArray, List.set_cons_zero, List.set_cons_succ])
                  refine wpAnyT_take (i := 11) (oi := _) (v := .int .i64 (o.d.length : Int)) rfl (by kernel_rfl) (fun _ _ _ h => h) (Or.inl ⟨by kernel_rfl, by (intro w hSw; (try dsimp only at hSw); go_simp)⟩) (by assumption) ?_; (try simp only [Act.put, List.getElem_toArray, List.getElem_cons_zero, List.getElem_cons_succ, List.setIfInBounds_toArray, List.set_cons_zero, List.set_cons_succ])
                  refine wpAnyT_take (i := 12) (oi := _) (v := .int .i64 (L.all - (o.d.length : Int))) rfl (by kernel_rfl) (fun _ _ _ h => h) (Or.inl ⟨by kernel_rfl, by (intro w hSw; (try dsimp only at hSw); go_simp)⟩) (by assumption) ?_; (try simp only [Act.put, List.getElem_toArray, List.getElem_cons_zero, List.getElem_cons_succ, List.setIfInBounds_toArray, List.set_cons_zero, List.set_cons_succ])
                  refine wpAnyT_take (i := 13) (oi := _) (v := .pointer (some ⟨g3, 2, none⟩)) rfl (by kernel_rfl) (fun _ _ _ h => h) (Or.inl ⟨by kernel_rfl, by (intro w hSw; (try dsimp only at hSw); go_simp)⟩) (by assumption) ?_; (try simp only [Act.put, List.getElem_toArray, List.getElem_cons_zero, List.getElem_cons_succ, List.setIfInBounds_toArray, List.set_cons_zero, List.set_cons_succ])
                  refine wpAnyT_take (i := 14) (oi := _) (v := .slice A d.length c) rfl (by kernel_rfl) (fun _ _ _ h => h) (Or.inl ⟨by kernel_rfl, by (intro w hSw; (try dsimp only at hSw); go_simp)⟩) (by assumption) ?_; (try simp only [Act.put, List.getElem_toArray, List.getElem_cons_zero, List.getElem_cons_succ, List.setIfInBounds_toArray, List.set_cons_zero, List.set_cons_succ])
                  refine wpAnyT_take (i := 15) (oi := _) (v := .int .i64 (d.length : Int)) rfl (by kernel_rfl) (fun _ _ _ h => h) (Or.inl ⟨by kernel_rfl, by (intro w hSw; (try dsimp only at hSw); go_simp)⟩) (by assumption) ?_; (try simp only [Act.put, List.getElem_toArray, List.getElem_cons_zero, List.getElem_cons_succ, List.setIfInBounds_toArray, List.set_cons_zero, List.set_cons_succ])
                  refine wpAnyT_take (i := 16) (oi := _) (v := .int .i64 (L.all - (o.d.length : Int) + (d.length : Int))) rfl (by kernel_rfl) (fun _ _ _ h => h) (Or.inl ⟨by kernel_rfl, by (intro w hSw; (try dsimp only at hSw); go_simp)⟩) (by assumption) ?_; (try simp only [Act.put, List.getElem_toArray, List.getElem_cons_zero, List.getElem_cons_succ, List.setIfInBounds_toArray, List.set_cons_zero, List.set_cons_succ])
                  refine wpAnyT_take (i := 17) (oi := _) (v := .bool true) rfl (by kernel_rfl) (fun _ _ _ h => h) (Or.inl ⟨by kernel_rfl, by (intro w hSw; (try dsimp only at hSw); go_simp)⟩) (by assumption) ?_; (try simp only [Act.put, List.getElem_toArray, List.getElem_cons_zero, List.getElem_cons_succ, List.setIfInBounds_toArray, List.set_cons_zero, List.set_cons_succ])
                  refine wpAnyT_take (i := 18) (oi := _) (v := .bool true) rfl (by kernel_rfl) (fun _ _ _ h => h) (Or.inl ⟨by kernel_rfl, by (intro w hSw; (try dsimp only at hSw); go_simp)⟩) (by assumption) ?_; (try simp only [Act.put, List.getElem_toArray, List.getElem_cons_zero, List.getElem_cons_succ, List.setIfInBounds_toArray, List.set_cons_zero, List.set_cons_succ])
                  refine wpAnyT_take (i := 19) (oi := _) (v := .bool true) rfl (by kernel_rfl) (fun _ _ _ h => h) (Or.inl ⟨by kernel_rfl, by (intro w hSw; (try dsimp only at hSw); go_simp)⟩) (by assumption) ?_; (try simp only [Act.put, List.getElem_toArray, List.getElem_cons_zero, List.getElem_cons_succ, List.setIfInBounds_toArray, List.set_cons_zero, List.set_cons_succ])
                  refine wpAnyT_done (by kernel_rfl) ?_ _
                  have q0 : w4.cell? ⟨g4, 0, none⟩ = some (.int .i64 0) := HF4.out.res.cell 0
                  have p0 : w4.frozen? ⟨g4, 0, none⟩ = false := HF4.out.res.frozen 0
                  have q1 : w4.cell? ⟨g4, 1, none⟩ = some (.slice none 0 0) := HF4.out.res.cell 1
                  have p1 : w4.frozen? ⟨g4, 1, none⟩ = false := HF4.out.res.frozen 1
                  have q2 : w4.cell? ⟨g4, 2, none⟩ = some (.int .i64 0) := HF4.out.res.cell 2
                  have p2 : w4.frozen? ⟨g4, 2, none⟩ = false := HF4.out.res.frozen 2
                  have q3 : w4.cell? ⟨g4, 3, none⟩ = some (.int .i64 0) := HF4.out.res.cell 3
                  have p3 : w4.frozen? ⟨g4, 3, none⟩ = false := HF4.out.res.frozen 3
                  have q4 : w4.cell? ⟨g4, 4, none⟩ = some (.int .i64 0) := HF4.out.res.cell 4
                  have p4 : w4.frozen? ⟨g4, 4, none⟩ = false := HF4.out.res.frozen 4
                  have q5 : w4.cell? ⟨g4, 5, none⟩ = some (.slice none 0 0) := HF4.out.res.cell 5
                  have p5 : w4.frozen? ⟨g4, 5, none⟩ = false := HF4.out.res.frozen 5
                  have q6 : w4.cell? ⟨g4, 6, none⟩ = some (.bool false) := HF4.out.res.cell 6
                  have p6 : w4.frozen? ⟨g4, 6, none⟩ = false := HF4.out.res.frozen 6
                  go_wp2
                  obtain ⟨hw, hA, hK⟩ := HF4.out.fin (.int .i64 9) (.slice none 0 0) (.int .i64 0) (.int .i64 0) (.int .i64 0) (.slice none 0 0) (.bool false)
                  unfold set7 at hw hA hK
                  refine bodyPost_ret (results_cell_row rfl _ _ g4 43 #[.int .i64 9, .slice none 0 0, .int .i64 0, .int .i64 0, .int .i64 0, .slice none 0 0, .bool false] (0, 0) _ rfl hw Tryz.underlying43 rfl (by kernel_rfl)) rfl ?_
                  exact .inl ⟨by rw [HT.out]; decide, by rw [HT.out]; exact ⟨rfl, hA, hK⟩⟩
                · have d2 : decide ((4194304 : Int) < L.all - (o.d.length : Int) + (d.length : Int)) = false := dcf hfull
                  have HT : Hid (putE L ⟨2, key, A, c, d, ver, at_, nn, id⟩ = 0) := Lib.hid (by
                    unfold putE; rw [if_neg (by rw [hr]; decide), if_neg HN.out.a, if_neg HN.out.b, if_neg hlong, if_neg (fun h => by
                      rcases h with h | h
                      · rw [hcr] at h; cases h
                      · rw [ho] at h; exact hfull h)])
                  refine wpAnyT_take (i := 4) (oi := _) (v := .bool false) rfl (by kernel_rfl) (fun _ _ _ h => h) (Or.inl ⟨by kernel_rfl, by (intro w hSw; (try dsimp only at hSw); go_simp)⟩) (by assumption) ?_; (try simp only [Act.put, List.getElem_toArray, List.getElem_cons_zero, List.getElem_cons_succ, List.setIfInBounds_toArray, List.set_cons_zero, List.set_cons_succ])
                  refine wpAnyT_take (i := 5) (oi := _) (v := .pointer (some ⟨L.gs, 0, none⟩)) rfl (by kernel_rfl) (fun _ _ _ h => h) (Or.inl ⟨by kernel_rfl, by (intro w hSw; (try dsimp only at hSw); go_simp)⟩) (by assumption) ?_; (try simp only [Act.put, List.getElem_toArray, List.getElem_cons_zero, List.getElem_cons_succ, List.setIfInBounds_toArray, List.set_cons_zero, List.set_cons_succ])
                  refine wpAnyT_take (i := 6) (oi := _) (v := .pointer (some ⟨L.gs, 0, none⟩)) rfl (by kernel_rfl) (fun _ _ _ h => h) (Or.inl ⟨by kernel_rfl, by (intro w hSw; (try dsimp only at hSw); go_simp)⟩) (by assumption) ?_; (try simp only [Act.put, List.getElem_toArray, List.getElem_cons_zero, List.getElem_cons_succ, List.setIfInBounds_toArray, List.set_cons_zero, List.set_cons_succ])
                  refine wpAnyT_take (i := 7) (oi := _) (v := .pointer (some ⟨L.gs, 5, none⟩)) rfl (by kernel_rfl) (fun _ _ _ h => h) (Or.inl ⟨by kernel_rfl, by (intro w hSw; (try dsimp only at hSw); go_simp)⟩) (by assumption) ?_; (try simp only [Act.put, List.getElem_toArray, List.getElem_cons_zero, List.getElem_cons_succ, List.setIfInBounds_toArray, List.set_cons_zero, List.set_cons_succ])
                  refine wpAnyT_take (i := 8) (oi := _) (v := .int .i64 L.all) rfl (by kernel_rfl) (fun _ _ _ h => h) (Or.inl ⟨by kernel_rfl, by (intro w hSw; (try dsimp only at hSw); go_simp)⟩) (by assumption) ?_; (try simp only [Act.put, List.getElem_toArray, List.getElem_cons_zero, List.getElem_cons_succ, List.setIfInBounds_toArray, List.set_cons_zero, List.set_cons_succ])
                  refine wpAnyT_take (i := 9) (oi := _) (v := .pointer (some ⟨g5, 0, none⟩)) rfl (by kernel_rfl) (fun _ _ _ h => h) (Or.inl ⟨by kernel_rfl, by (intro w hSw; (try dsimp only at hSw); go_simp)⟩) (by assumption) ?_; (try simp only [Act.put, List.getElem_toArray, List.getElem_cons_zero, List.getElem_cons_succ, List.setIfInBounds_toArray, List.set_cons_zero, List.set_cons_succ])
                  refine wpAnyT_take (i := 10) (oi := _) (v := .slice o.A o.d.length o.c) rfl (by kernel_rfl) (fun _ _ _ h => h) (Or.inl ⟨by kernel_rfl, by (intro w hSw; (try dsimp only at hSw); go_simp)⟩) (by assumption) ?_; (try simp only [Act.put, List.getElem_toArray, List.getElem_cons_zero, List.getElem_cons_succ, List.setIfInBounds_toArray, List.set_cons_zero, List.set_cons_succ])
                  refine wpAnyT_take (i := 11) (oi := _) (v := .int .i64 (o.d.length : Int)) rfl (by kernel_rfl) (fun _ _ _ h => h) (Or.inl ⟨by kernel_rfl, by (intro w hSw; (try dsimp only at hSw); go_simp)⟩) (by assumption) ?_; (try simp only [Act.put, List.getElem_toArray, List.getElem_cons_zero, List.getElem_cons_succ, List.setIfInBounds_toArray, List.set_cons_zero, List.set_cons_succ])
                  refine wpAnyT_take (i := 12) (oi := _) (v := .int .i64 (L.all - (o.d.length : Int))) rfl (by kernel_rfl) (fun _ _ _ h => h) (Or.inl ⟨by kernel_rfl, by (intro w hSw; (try dsimp only at hSw); go_simp)⟩) (by assumption) ?_; (try simp only [Act.put, List.getElem_toArray, List.getElem_cons_zero, List.getElem_cons_succ, List.setIfInBounds_toArray, List.set_cons_zero, List.set_cons_succ])
                  refine wpAnyT_take (i := 13) (oi := _) (v := .pointer (some ⟨g3, 2, none⟩)) rfl (by kernel_rfl) (fun _ _ _ h => h) (Or.inl ⟨by kernel_rfl, by (intro w hSw; (try dsimp only at hSw); go_simp)⟩) (by assumption) ?_; (try simp only [Act.put, List.getElem_toArray, List.getElem_cons_zero, List.getElem_cons_succ, List.setIfInBounds_toArray, List.set_cons_zero, List.set_cons_succ])
                  refine wpAnyT_take (i := 14) (oi := _) (v := .slice A d.length c) rfl (by kernel_rfl) (fun _ _ _ h => h) (Or.inl ⟨by kernel_rfl, by (intro w hSw; (try dsimp only at hSw); go_simp)⟩) (by assumption) ?_; (try simp only [Act.put, List.getElem_toArray, List.getElem_cons_zero, List.getElem_cons_succ, List.setIfInBounds_toArray, List.set_cons_zero, List.set_cons_succ])
                  refine wpAnyT_take (i := 15) (oi := _) (v := .int .i64 (d.length : Int)) rfl (by kernel_rfl) (fun _ _ _ h => h) (Or.inl ⟨by kernel_rfl, by (intro w hSw; (try dsimp only at hSw); go_simp)⟩) (by assumption) ?_; (try simp only [Act.put, List.getElem_toArray, List.getElem_cons_zero, List.getElem_cons_succ, List.setIfInBounds_toArray, List.set_cons_zero, List.set_cons_succ])
                  refine wpAnyT_take (i := 16) (oi := _) (v := .int .i64 (L.all - (o.d.length : Int) + (d.length : Int))) rfl (by kernel_rfl) (fun _ _ _ h => h) (Or.inl ⟨by kernel_rfl, by (intro w hSw; (try dsimp only at hSw); go_simp)⟩) (by assumption) ?_; (try simp only [Act.put, List.getElem_toArray, List.getElem_cons_zero, List.getElem_cons_succ, List.setIfInBounds_toArray, List.set_cons_zero, List.set_cons_succ])
                  refine wpAnyT_take (i := 17) (oi := _) (v := .bool false) rfl (by kernel_rfl) (fun _ _ _ h => h) (Or.inl ⟨by kernel_rfl, by (intro w hSw; (try dsimp only at hSw); go_simp)⟩) (by assumption) ?_; (try simp only [Act.put, List.getElem_toArray, List.getElem_cons_zero, List.getElem_cons_succ, List.setIfInBounds_toArray, List.set_cons_zero, List.set_cons_succ])
                  refine wpAnyT_take (i := 18) (oi := _) (v := .bool false) rfl (by kernel_rfl) (fun _ _ _ h => h) (Or.inl ⟨by kernel_rfl, by (intro w hSw; (try dsimp only at hSw); go_simp)⟩) (by assumption) ?_; (try simp only [Act.put, List.getElem_toArray, List.getElem_cons_zero, List.getElem_cons_succ, List.setIfInBounds_toArray, List.set_cons_zero, List.set_cons_succ])
                  refine wpAnyT_take (i := 19) (oi := _) (v := .bool false) rfl (by kernel_rfl) (fun _ _ _ h => h) (Or.inl ⟨by kernel_rfl, by (intro w hSw; (try dsimp only at hSw); go_simp)⟩) (by assumption) ?_; (try simp only [Act.put, List.getElem_toArray, List.getElem_cons_zero, List.getElem_cons_succ, List.setIfInBounds_toArray, List.set_cons_zero, List.set_cons_succ])
                  refine wpAnyT_done (by kernel_rfl) ?_ _
                  go_upto_region 11 with fail
                  clear hH4
                  have Hk11 : Hid (∀ W, Below w4.heap.size w4 W → W.cell? ⟨g3, 1, none⟩ = some (.string key) ∧ W.cell? ⟨g3, 2, none⟩ = some (.slice A d.length c)) := Lib.hid fun W hW => ⟨(HF4.out.below hW).call.cell 1, (HF4.out.below hW).call.cell 2⟩
                  refine wp_region_T 7 (fun w' => w'.cell? ⟨g3, 1, none⟩ = some (.string key) ∧ w'.cell? ⟨g3, 2, none⟩ = some (.slice A d.length c)) (by kernel_rfl) (Hk11.out _ (below_drewN_ (Below.refl _ _) 1)) (fun hHeld => ?_)
                  refine wpAnyT_take (i := 0) (oi := _) (v := .pointer (some ⟨L.gs, 0, none⟩)) rfl (by kernel_rfl) (fun _ _ _ h => h) (Or.inl ⟨by kernel_rfl, by (intro w hSw; (try dsimp only at hSw); go_simp)⟩) (by assumption) ?_; (try simp only [Act.put, List.getElem_toArray, List.getElem_cons_zero, List.setIfInBounds_toArray, List.set_cons_zero, List.set_cons_succ])
                  refine wpAnyT_take (i := 1) (oi := _) (v := .pointer (some ⟨g3, 1, none⟩)) rfl (by kernel_rfl) (fun _ _ _ h => h) (Or.inl ⟨by kernel_rfl, by (intro w hSw; (try dsimp only at hSw); go_simp)⟩) (by assumption) ?_; (try simp only [Act.put, List.getElem_toArray, List.getElem_cons_zero, List.getElem_cons_succ, List.setIfInBounds_toArray, List.set_cons_zero, List.set_cons_succ])
                  refine wpAnyT_take (i := 2) (oi := _) (v := .string key) rfl (by kernel_rfl) (fun _ _ _ h => h) (Or.inl ⟨by kernel_rfl, by (intro w hSw; (try dsimp only at hSw); go_simp)⟩) (by assumption) ?_; (try simp only [Act.put, List.getElem_toArray, List.getElem_cons_zero, List.getElem_cons_succ, List.setIfInBounds_toArray, List.set_cons_zero, List.set_cons_succ])
                  refine wpAnyT_take (i := 3) (oi := _) (v := .pointer (some ⟨g3, 2, none⟩)) rfl (by kernel_rfl) (fun _ _ _ h => h) (Or.inl ⟨by kernel_rfl, by (intro w hSw; (try dsimp only at hSw); go_simp)⟩) (by assumption) ?_; (try simp only [Act.put, List.getElem_toArray, List.getElem_cons_zero, List.getElem_cons_succ, List.setIfInBounds_toArray, List.set_cons_zero, List.set_cons_succ])
                  refine wpAnyT_take (i := 4) (oi := _) (v := .slice A d.length c) rfl (by kernel_rfl) (fun _ _ _ h => h) (Or.inl ⟨by kernel_rfl, by (intro w hSw; (try dsimp only at hSw); go_simp)⟩) (by assumption) ?_; (try simp only [Act.put, List.getElem_toArray, List.getElem_cons_zero, List.getElem_cons_succ, List.setIfInBounds_toArray, List.set_cons_zero, List.set_cons_succ])
                  have HFd := Lib.hid (HF4.out.below (below_drewN_ (Below.refl w4.heap.size w4) 1))
                  refine wpAnyT_one (i := 5) (by kernel_rfl) rfl (fun K hK => ?_); go_simp
                  refine (clone_calls _ HFd.out.dat hdl).mono ?_
                  rintro e w5 ⟨A5, c5, rfl, hr5, hb5'⟩
                  have hb5 : Below w4.heap.size w4 w5 := (below_drewN_ (Below.refl _ _) 1).trans hb5'
                  have hH5 := Hk11.out _ hb5
                  have HHI : Hid (High w.heap.size A5) := Lib.hid (High.own hr5 HF4.out.keep.size)
                  have HF5 := Lib.hid (HF4.out.below hb5)
                  have HD5 : Hid (Dat w5 L.gs A5 c5 d) := Lib.hid (Dat.of_own hr5 (HF4.out.at_.blk.lt))
                  have HO5 : Hid (Off g4 A5 d) := Lib.hid (Dat.offg (Dat.of_own hr5 (HF4.out.res.lt)))
                  refine hK.out _ _ (fun _ => hH5) ?_
                  clear hK K hHeld Hk11 HF4 HFd hb5 hb5' hr5
                  refine wpAnyT_one (i := 6) (by kernel_rfl) rfl (fun K hK => ?_); go_simp
                  refine (make_calls w5 HF5.out.at_ HI.out hn HD5.out (by omega) hk).mono ?_
                  rintro e w6 ⟨rfl, hA6, hK6⟩
                  have HF6 := Lib.hid (HF5.out.turn hA6 hK6 (fun _ _ h => h) rfl (by
                    refine ⟨fun p hp => ?_, HF5.out.free.u⟩
                    rcases mput_mem.1 hp with rfl | ⟨hp, _⟩
                    · exact HO5.out
                    · exact HF5.out.free.o p hp))
                  have hH6 : w6.cell? ⟨g3, 1, none⟩ = some (.string key) ∧ w6.cell? ⟨g3, 2, none⟩ = some (.slice A d.length c) := ⟨HF6.out.call.cell 1, HF6.out.call.cell 2⟩
                  refine hK.out _ _ (fun _ => hH6) ?_
                  clear hK K hA6 hK6 HF5 HD5 hH5
                  have q0 : w6.cell? ⟨g4, 0, none⟩ = some (.int .i64 0) := HF6.out.res.cell 0
                  have p0 : w6.frozen? ⟨g4, 0, none⟩ = false := HF6.out.res.frozen 0
                  have q1 : w6.cell? ⟨g4, 1, none⟩ = some (.slice none 0 0) := HF6.out.res.cell 1
                  have p1 : w6.frozen? ⟨g4, 1, none⟩ = false := HF6.out.res.frozen 1
                  have q2 : w6.cell? ⟨g4, 2, none⟩ = some (.int .i64 0) := HF6.out.res.cell 2
                  have p2 : w6.frozen? ⟨g4, 2, none⟩ = false := HF6.out.res.frozen 2
                  have q3 : w6.cell? ⟨g4, 3, none⟩ = some (.int .i64 0) := HF6.out.res.cell 3
                  have p3 : w6.frozen? ⟨g4, 3, none⟩ = false := HF6.out.res.frozen 3
                  have q4 : w6.cell? ⟨g4, 4, none⟩ = some (.int .i64 0) := HF6.out.res.cell 4
                  have p4 : w6.frozen? ⟨g4, 4, none⟩ = false := HF6.out.res.frozen 4
                  have q5 : w6.cell? ⟨g4, 5, none⟩ = some (.slice none 0 0) := HF6.out.res.cell 5
                  have p5 : w6.frozen? ⟨g4, 5, none⟩ = false := HF6.out.res.frozen 5
                  have q6 : w6.cell? ⟨g4, 6, none⟩ = some (.bool false) := HF6.out.res.cell 6
                  have p6 : w6.frozen? ⟨g4, 6, none⟩ = false := HF6.out.res.frozen 6
                  refine wpAnyT_one (i := 7) (by kernel_rfl) rfl (fun K hK => ?_); go_simp
                  refine hK.out _ _ (fun h => absurd rfl h) (wpAnyT_done (by kernel_rfl) ?_ _)
                  clear hK K
                  go_wp2
                  obtain ⟨hw, hA, hK⟩ := HF6.out.fin (.int .i64 0) (.slice none 0 0) (.int .i64 (L.ver + 1)) (.int .i64 L.now) (.int .i64 0) (.slice none 0 0) (.bool false)
                  unfold set7 at hw hA hK
                  refine bodyPost_ret (results_cell_row rfl _ _ g4 43 #[.int .i64 0, .slice none 0 0, .int .i64 (L.ver + 1), .int .i64 L.now, .int .i64 0, .slice none 0 0, .bool false] (0, 0) _ rfl hw Tryz.underlying43 rfl (by kernel_rfl)) rfl ?_
                  exact .inr ⟨HT.out, A5, c5, HHI.out, rfl, hA, hK⟩
        · have b1 := eqf hv
          cases q with
          | true =>
            by_cases hov : o.ver = ver
            · have b2 := nef hov
              have HN : Hid (VerOk L key 2 ver) := Lib.hid (by unfold VerOk; rw [HQ.out, ho]; exact ⟨fun h => (by have := h.2; rw [decide_eq_false hv] at this; cases this), fun h => h.2.2 hov⟩)
              by_cases hlong : 262144 < d.length
              · have d1 : decide ((262144 : Int) < (d.length : Int)) = true := dct (by omega)
                have HT : Hid (putE L ⟨2, key, A, c, d, ver, at_, nn, id⟩ = 5) := Lib.hid (by
                  unfold putE; rw [if_neg (by rw [hr]; decide), if_neg HN.out.a, if_neg HN.out.b, if_pos hlong])
                go_wp2
                obtain ⟨hw, hA, hK⟩ := HF3.out.fin (.int .i64 5) (.slice none 0 0) (.int .i64 0) (.int .i64 0) (.int .i64 0) (.slice none 0 0) (.bool false)
                unfold set7 at hw hA hK
                refine bodyPost_ret (results_cell_row rfl _ _ g4 43 #[.int .i64 5, .slice none 0 0, .int .i64 0, .int .i64 0, .int .i64 0, .slice none 0 0, .bool false] (0, 0) _ rfl hw Tryz.underlying43 rfl (by kernel_rfl)) rfl ?_
                exact .inl ⟨by rw [HT.out]; decide, by rw [HT.out]; exact ⟨rfl, hA, hK⟩⟩
              · have d1 : decide ((262144 : Int) < (d.length : Int)) = false := dcf (by omega)
                go_upto_region 9 with fail
                have HC : Hid (∀ W, Below w3.heap.size w3 W → Calls Tryz.prog 39 #[.pointer (some ⟨L.gs, 0, none⟩), .string key] W fun e w' => e = .returned (.bool (L.crowded key)) ∧ Below W.heap.size W w') := Lib.hid fun W hW => crowded_calls W (HF3.out.at_.below hW) hk (Nat.le_trans HI.out.on hn)
                have Hk9 : Hid (∀ W, Below w3.heap.size w3 W → W.cell? ⟨g3, 1, none⟩ = some (.string key) ∧ W.cell? ⟨L.gs, 5, none⟩ = some (.int .i64 L.all) ∧ W.cell? ⟨g5, 0, none⟩ = some (.slice o.A o.d.length o.c) ∧ W.cell? ⟨g3, 2, none⟩ = some (.slice A d.length c)) := Lib.hid fun W hW => ⟨(HF3.out.below hW).call.cell 1, (HF3.out.below hW).at_.c_all, (HB3.out.below hW HB3.out.lt).cell 0, (HF3.out.below hW).call.cell 2⟩
                clear k2 k3 o1 q0 q1 q2 q3 q4 q5 q6 p0 p1 p2 p3 p4 p5 p6
                refine wp_region_T 100 (fun w' => w'.cell? ⟨g3, 1, none⟩ = some (.string key) ∧ w'.cell? ⟨L.gs, 5, none⟩ = some (.int .i64 L.all) ∧ w'.cell? ⟨g5, 0, none⟩ = some (.slice o.A o.d.length o.c) ∧ w'.cell? ⟨g3, 2, none⟩ = some (.slice A d.length c)) (by kernel_rfl) (Hk9.out _ (below_drewN_ (Below.refl _ _) 1)) (fun hHeld => ?_)
                refine wpAnyT_take (i := 0) (oi := _) (v := .pointer (some ⟨L.gs, 0, none⟩)) rfl (by kernel_rfl) (fun _ _ _ h => h) (Or.inl ⟨by kernel_rfl, by (intro w hSw; (try dsimp only at hSw); go_simp)⟩) (by assumption) ?_; (try simp only [Act.put, List.getElem_toArray, List.getElem_cons_zero, List.setIfInBounds_toArray, List.set_cons_zero, List.set_cons_succ])
                refine wpAnyT_take (i := 1) (oi := _) (v := .pointer (some ⟨g3, 1, none⟩)) rfl (by kernel_rfl) (fun _ _ _ h => h) (Or.inl ⟨by kernel_rfl, by (intro w hSw; (try dsimp only at hSw); go_simp)⟩) (by assumption) ?_; (try simp only [Act.put, List.getElem_toArray, List.getElem_cons_zero, List.getElem_cons_succ, List.setIfInBounds_toArray, List.set_cons_zero, List.set_cons_succ])
                refine wpAnyT_take (i := 2) (oi := _) (v := .string key) rfl (by kernel_rfl) (fun _ _ _ h => h) (Or.inl ⟨by kernel_rfl, by (intro w hSw; (try dsimp only at hSw); go_simp)⟩) (by assumption) ?_; (try simp only [Act.put, List.getElem_toArray, List.getElem_cons_zero, List.getElem_cons_succ, List.setIfInBounds_toArray, List.set_cons_zero, List.set_cons_succ])
                refine wpAnyT_one (i := 3) (by kernel_rfl) rfl (fun K hK => ?_); go_simp
                refine (HC.out _ (below_drewN_ (Below.refl _ _) 1)).mono ?_
                rintro e w4 ⟨rfl, hb4'⟩
                have hb4 : Below w3.heap.size w3 w4 := (below_drewN_ (Below.refl _ _) 1).trans hb4'
                have hH4 := Hk9.out _ hb4
                refine hK.out _ _ (fun _ => hH4) ?_
                clear hK K hHeld
                have HF4 := Lib.hid (HF3.out.below hb4)
                clear HC Hk9 hb4' hb4 HF3 HB3
                cases hcr : L.crowded key with
                | true =>
                  have HT : Hid (putE L ⟨2, key, A, c, d, ver, at_, nn, id⟩ = 9) := Lib.hid (by
                    unfold putE; rw [if_neg (by rw [hr]; decide), if_neg HN.out.a, if_neg HN.out.b, if_neg hlong, if_pos (.inl hcr)])
                  refine wpAnyT_take (i := 4) (oi := _) (v := .bool true) rfl (by kernel_rfl) (fun _ _ _ h => h) (Or.inl ⟨by kernel_rfl, by (intro w hSw; (try dsimp only at hSw); go_simp)⟩) (by assumption) ?_; (try simp only [Act.put, List.getElem_toArray, List.getElem_cons_zero, List.getElem_cons_succ, List.setIfInBounds_toArray, List.set_cons_zero, List.set_cons_succ])
                  refine wpAnyT_take (i := 5) (oi := _) (v := undef) rfl (by kernel_rfl) (fun _ _ _ h => h) (Or.inr ⟨by kernel_rfl, rfl⟩) (by assumption) ?_; (try simp only [Act.put, List.getElem_toArray, List.getElem_cons_zero, List.getElem_cons_succ, List.setIfInBounds_toArray, List.set_cons_zero, List.set_cons_succ])
                  refine wpAnyT_take (i := 6) (oi := _) (v := undef) rfl (by kernel_rfl) (fun _ _ _ h => h) (Or.inr ⟨by kernel_rfl, rfl⟩) (by assumption) ?_; (try simp only [Act.put, List.getElem_toArray, List.getElem_cons_zero, List.getElem_cons_succ, List.setIfInBounds_toArray, List.set_cons_zero, List.set_cons_succ])
                  refine wpAnyT_take (i := 7) (oi := _) (v := undef) rfl (by kernel_rfl) (fun _ _ _ h => h) (Or.inr ⟨by kernel_rfl, rfl⟩) (by assumption) ?_; (try simp only [Act.put, List.getElem_toArray, List.getElem_cons_zero, List.getElem_cons_succ, List.setIfInBounds_toArray, List.set_cons_zero, List.set_cons_succ])
                  refine wpAnyT_take (i := 8) (oi := _) (v := undef) rfl (by kernel_rfl) (fun _ _ _ h => h) (Or.inr ⟨by kernel_rfl, rfl⟩) (by assumption) ?_; (try simp only [Act.put, List.getElem_toArray, List.getElem_cons_zero, List.getElem_cons_succ, List.setIfInBounds_toArray, List.set_cons_zero, List.set_cons_succ])
                  refine wpAnyT_take (i := 9) (oi := _) (v := undef) rfl (by kernel_rfl) (fun _ _ _ h => h) (Or.inr ⟨by kernel_rfl, rfl⟩) (by assumption) ?_; (try simp only [Act.put, List.getElem_toArray, List.getElem_cons_zero, List.getElem_cons_succ, List.setIfInBounds_toArray, List.set_cons_zero, List.set_cons_succ])
                  refine wpAnyT_take (i := 10) (oi := _) (v := undef) rfl (by kernel_rfl) (fun _ _ _ h => h) (Or.inr ⟨by kernel_rfl, rfl⟩) (by assumption) ?_; (try simp only [Act.put, List.getElem_toArray, List.getElem_cons_zero, List.getElem_cons_succ, List.setIfInBounds_toArray, List.set_cons_zero, List.set_cons_succ])
                  refine wpAnyT_take (i := 11) (oi := _) (v := undef) rfl (by kernel_rfl) (fun _ _ _ h => h) (Or.inr ⟨by kernel_rfl, rfl⟩) (by assumption) ?_; (try simp only [Act.put, List.getElem_toArray, List.getElem_cons_zero, List.getElem_cons_succ, List.setIfInBounds_toArray, List.set_cons_zero, List.set_cons_succ])
                  refine wpAnyT_take (i := 12) (oi := _) (v := undef) rfl (by kernel_rfl) (fun _ _ _ h => h) (Or.inr ⟨by kernel_rfl, rfl⟩) (by assumption) ?_; (try simp only [Act.put, List.getElem_toArray, List.getElem_cons_zero, List.getElem_cons_succ, List.setIfInBounds_toArray, List.set_cons_zero, List.set_cons_succ])
                  refine wpAnyT_take (i := 13) (oi := _) (v := undef) rfl (by kernel_rfl) (fun _ _ _ h => h) (Or.inr ⟨by kernel_rfl, rfl⟩) (by assumption) ?_; (try simp only [Act.put, List.getElem_toArray, List.getElem_cons_zero, List.getElem_cons_succ, List.setIfInBounds_toArray, List.set_cons_zero, List.set_cons_succ])
                  refine wpAnyT_take (i := 14) (oi := _) (v := undef) rfl (by kernel_rfl) (fun _ _ _ h => h) (Or.inr ⟨by kernel_rfl, rfl⟩) (by assumption) ?_; (try simp only [Act.put, List.getElem_toArray, List.getElem_cons_zero, List.getElem_cons_succ, List.setIfInBounds_toArray, List.set_cons_zero, List.set_cons_succ])
                  refine wpAnyT_take (i := 15) (oi := _) (v := undef) rfl (by kernel_rfl) (fun _ _ _ h => h) (Or.inr ⟨by kernel_rfl, rfl⟩) (by assumption) ?_; (try simp only [Act.put, List.getElem_toArray, List.getElem_cons_zero, List.getElem_cons_succ, List.setIfInBounds_toArray, List.set_cons_zero, List.set_cons_succ])
                  refine wpAnyT_take (i := 16) (oi := _) (v := undef) rfl (by kernel_rfl) (fun _ _ _ h => h) (Or.inr ⟨by kernel_rfl, rfl⟩) (by assumption) ?_; (try simp only [Act.put, List.getElem_toArray, List.getElem_cons_zero, List.getElem_cons_succ, List.setIfInBounds_toArray, List.set_cons_zero, List.set_cons_succ])
                  refine wpAnyT_take (i := 17) (oi := _) (v := undef) rfl (by kernel_rfl) (fun _ _ _ h => h) (Or.inr ⟨by kernel_rfl, rfl⟩) (by assumption) ?_; (try simp only [Act.put, List.getElem_toArray, List.getElem_cons_zero, List.getElem_cons_succ, List.setIfInBounds_toArray, List.set_cons_zero, List.set_cons_succ])
                  refine wpAnyT_take (i := 18) (oi := _) (v := .bool true) rfl (by kernel_rfl) (fun _ _ _ h => h) (Or.inl ⟨by kernel_rfl, by (intro w hSw; (try dsimp only at hSw); go_simp)⟩) (by assumption) ?_; (try simp only [Act.put, List.getElem_toArray, List.getElem_cons_zero, List.getElem_cons_succ, List.setIfInBounds_toArray, List.set_cons_zero, List.set_cons_succ])
                  refine wpAnyT_take (i := 19) (oi := _) (v := .bool true) rfl (by kernel_rfl) (fun _ _ _ h => h) (Or.inl ⟨by kernel_rfl, by (intro w hSw; (try dsimp only at hSw); go_simp)⟩) (by assumption) ?_; (try simp only [Act.put, List.getElem_toArray, List.getElem_cons_zero, List.getElem_cons_succ, List.setIfInBounds_toArray, List.set_cons_zero, List.set_cons_succ])
                  refine wpAnyT_done (by kernel_rfl) ?_ _
                  have q0 : w4.cell? ⟨g4, 0, none⟩ = some (.int .i64 0) := HF4.out.res.cell 0
                  have p0 : w4.frozen? ⟨g4, 0, none⟩ = false := HF4.out.res.frozen 0
                  have q1 : w4.cell? ⟨g4, 1, none⟩ = some (.slice none 0 0) := HF4.out.res.cell 1
                  have p1 : w4.frozen? ⟨g4, 1, none⟩ = false := HF4.out.res.frozen 1
                  have q2 : w4.cell? ⟨g4, 2, none⟩ = some (.int .i64 0) := HF4.out.res.cell 2
                  have p2 : w4.frozen? ⟨g4, 2, none⟩ = false := HF4.out.res.frozen 2
                  have q3 : w4.cell? ⟨g4, 3, none⟩ = some (.int .i64 0) := HF4.out.res.cell 3
                  have p3 : w4.frozen? ⟨g4, 3, none⟩ = false := HF4.out.res.frozen 3
                  have q4 : w4.cell? ⟨g4, 4, none⟩ = some (.int .i64 0) := HF4.out.res.cell 4
                  have p4 : w4.frozen? ⟨g4, 4, none⟩ = false := HF4.out.res.frozen 4
                  have q5 : w4.cell? ⟨g4, 5, none⟩ = some (.slice none 0 0) := HF4.out.res.cell 5
                  have p5 : w4.frozen? ⟨g4, 5, none⟩ = false := HF4.out.res.frozen 5
                  have q6 : w4.cell? ⟨g4, 6, none⟩ = some (.bool false) := HF4.out.res.cell 6
                  have p6 : w4.frozen? ⟨g4, 6, none⟩ = false := HF4.out.res.frozen 6
                  go_wp2
                  obtain ⟨hw, hA, hK⟩ := HF4.out.fin (.int .i64 9) (.slice none 0 0) (.int .i64 0) (.int .i64 0) (.int .i64 0) (.slice none 0 0) (.bool false)
                  unfold set7 at hw hA hK
                  refine bodyPost_ret (results_cell_row rfl _ _ g4 43 #[.int .i64 9, .slice none 0 0, .int .i64 0, .int .i64 0, .int .i64 0, .slice none 0 0, .bool false] (0, 0) _ rfl hw Tryz.underlying43 rfl (by kernel_rfl)) rfl ?_
                  exact .inl ⟨by rw [HT.out]; decide, by rw [HT.out]; exact ⟨rfl, hA, hK⟩⟩
                | false =>
                  have hall := HI.out.all
                  have hbig := HI.out.big
                  have hol : o.d.length ≤ 262144 := by
                    rw [← ho]
                    cases hm : mget L.objs key with
                    | none => exact Nat.zero_le _
                    | some o => exact HI.out.od _ (mget_mem hm)
                  have r1 : IntKind.i64.wrap (L.all - (o.d.length : Int)) = L.all - (o.d.length : Int) := by rw [IntKind.wrap_i64]; omega
                  have r2 : IntKind.i64.wrap (L.all - (o.d.length : Int) + (d.length : Int)) = L.all - (o.d.length : Int) + (d.length : Int) := by rw [IntKind.wrap_i64]; omega
                  clear hall hbig
                  by_cases hfull : 4194304 < L.all - (o.d.length : Int) + (d.length : Int)
                  · have d2 : decide ((4194304 : Int) < L.all - (o.d.length : Int) + (d.length : Int)) = true := dct hfull
                    have HT : Hid (putE L ⟨2, key, A, c, d, ver, at_, nn, id⟩ = 9) := Lib.hid (by
                      unfold putE; rw [if_neg (by rw [hr]; decide), if_neg HN.out.a, if_neg HN.out.b, if_neg hlong, if_pos (.inr (by rw [ho]; exact hfull))])
                    refine wpAnyT_take (i := 4) (oi := _) (v := .bool false) rfl (by kernel_rfl) (fun _ _ _ h => h) (Or.inl ⟨by kernel_rfl, by (intro w hSw; (try dsimp only at hSw); go_simp)⟩) (by assumption) ?_; (try simp only [Act.put, List.getElem_toArray, List.getElem_cons_zero, List.getElem_cons_succ, List.setIfInBounds_toArray, List.set_cons_zero, List.set_cons_succ])
                    refine wpAnyT_take (i := 5) (oi := _) (v := .pointer (some ⟨L.gs, 0, none⟩)) rfl (by kernel_rfl) (fun _ _ _ h => h) (Or.inl ⟨by kernel_rfl, by (intro w hSw; (try dsimp only at hSw); go_simp)⟩) (by assumption) ?_; (try simp only [Act.put, List.getElem_toArray, List.getElem_cons_zero, List.getElem_cons_succ, List.setIfInBounds_toArray, List.set_cons_zero, List.set_cons_succ])
                    refine wpAnyT_take (i := 6) (oi := _) (v := .pointer (some ⟨L.gs, 0, none⟩)) rfl (by kernel_rfl) (fun _ _ _ h => h) (Or.inl ⟨by kernel_rfl, by (intro w hSw; (try dsimp only at hSw); go_simp)⟩) (by assumption) ?_; (try simp only [Act.put, List.getElem_toArray, List.getElem_cons_zero, List.getElem_cons_succ, List.setIfInBounds_toArray, List.set_cons_zero, List.set_cons_succ])
                    refine wpAnyT_take (i := 7) (oi := _) (v := .pointer (some ⟨L.gs, 5, none⟩)) rfl (by kernel_rfl) (fun _ _ _ h => h) (Or.inl ⟨by kernel_rfl, by (intro w hSw; (try dsimp only at hSw); go_simp)⟩) (by assumption) ?_; (try simp only [Act.put, List.getElem_toArray, List.getElem_cons_zero, List.getElem_cons_succ, List.setIfInBounds_toArray, List.set_cons_zero, List.set_cons_succ])
                    refine wpAnyT_take (i := 8) (oi := _) (v := .int .i64 L.all) rfl (by kernel_rfl) (fun _ _ _ h => h) (Or.inl ⟨by kernel_rfl, by (intro w hSw; (try dsimp only at hSw); go_simp)⟩) (by assumption) ?_; (try simp only [Act.put, List.getElem_toArray, List.getElem_cons_zero, List.getElem_cons_succ, List.setIfInBounds_toArray, List.set_cons_zero, List.set_cons_succ])
                    refine wpAnyT_take (i := 9) (oi := _) (v := .pointer (some ⟨g5, 0, none⟩)) rfl (by kernel_rfl) (fun _ _ _ h => h) (Or.inl ⟨by kernel_rfl, by (intro w hSw; (try dsimp only at hSw); go_simp)⟩) (by assumption) ?_; (try simp only [Act.put, List.getElem_toArray, List.getElem_cons_zero, List.getElem_cons_succ, List.setIfInBounds_toArray, List.set_cons_zero, List.set_cons_succ])
                    refine wpAnyT_take (i := 10) (oi := _) (v := .slice o.A o.d.length o.c) rfl (by kernel_rfl) (fun _ _ _ h => h) (Or.inl ⟨by kernel_rfl, by (intro w hSw; (try dsimp only at hSw); go_simp)⟩) (by assumption) ?_; (try simp only [Act.put, List.getElem_toArray, List.getElem_cons_zero, List.getElem_cons_succ, List.setIfInBounds_toArray, List.set_cons_zero, List.set_cons_succ])
                    refine wpAnyT_take (i := 11) (oi := _) (v := .int .i64 (o.d.length : Int)) rfl (by kernel_rfl) (fun _ _ _ h => h) (Or.inl ⟨by kernel_rfl, by (intro w hSw; (try dsimp only at hSw); go_simp)⟩) (by assumption) ?_; (try simp only [Act.put, List.getElem_toArray, List.getElem_cons_zero, List.getElem_cons_succ, List.setIfInBounds_toArray, List.set_cons_zero, List.set_cons_succ])
                    refine wpAnyT_take (i := 12) (oi := _) (v := .int .i64 (L.all - (o.d.length : Int))) rfl (by kernel_rfl) (fun _ _ _ h => h) (Or.inl ⟨by kernel_rfl, by (intro w hSw; (try dsimp only at hSw); go_simp)⟩) (by assumption) ?_; (try simp only [Act.put, List.getElem_toArray, List.getElem_cons_zero, List.getElem_cons_succ, List.setIfInBounds_toArray, List.set_cons_zero, List.set_cons_succ])
                    refine wpAnyT_take (i := 13) (oi := _) (v := .pointer (some ⟨g3, 2, none⟩)) rfl (by kernel_rfl) (fun _ _ _ h => h) (Or.inl ⟨by kernel_rfl, by (intro w hSw; (try dsimp only at hSw); go_simp)⟩) (by assumption) ?_; (try simp only [Act.put, List.getElem_toArray, List.getElem_cons_zero, List.getElem_cons_succ, List.setIfInBounds_toArray, List.set_cons_zero, List.set_cons_succ])
                    refine wpAnyT_take (i := 14) (oi := _) (v := .slice A d.length c) rfl (by kernel_rfl) (fun _ _ _ h => h) (Or.inl ⟨by kernel_rfl, by (intro w hSw; (try dsimp only at hSw); go_simp)⟩) (by assumption) ?_; (try simp only [Act.put, List.getElem_toArray, List.getElem_cons_zero, List.getElem_cons_succ, List.setIfInBounds_toArray, List.set_cons_zero, List.set_cons_succ])
                    refine wpAnyT_take (i := 15) (oi := _) (v := .int .i64 (d.length : Int)) rfl (by kernel_rfl) (fun _ _ _ h => h) (Or.inl ⟨by kernel_rfl, by (intro w hSw; (try dsimp only at hSw); go_simp)⟩) (by assumption) ?_; (try simp only [Act.put, List.getElem_toArray, List.getElem_cons_zero, List.getElem_cons_succ, List.setIfInBounds_toArray, List.set_cons_zero, List.set_cons_succ])
                    refine wpAnyT_take (i := 16) (oi := _) (v := .int .i64 (L.all - (o.d.length : Int) + (d.length : Int))) rfl (by kernel_rfl) (fun _ _ _ h => h) (Or.inl ⟨by kernel_rfl, by (intro w hSw; (try dsimp only at hSw); go_simp)⟩) (by assumption) ?_; (try simp only [Act.put, List.getElem_toArray, List.getElem_cons_zero, List.getElem_cons_succ, List.setIfInBounds_toArray, List.set_cons_zero, List.set_cons_succ])
                    refine wpAnyT_take (i := 17) (oi := _) (v := .bool true) rfl (by kernel_rfl) (fun _ _ _ h => h) (Or.inl ⟨by kernel_rfl, by (intro w hSw; (try dsimp only at hSw); go_simp)⟩) (by assumption) ?_; (try simp only [Act.put, List.getElem_toArray, List.getElem_cons_zero, List.getElem_cons_succ, List.setIfInBounds_toArray, List.set_cons_zero, List.set_cons_succ])
                    refine wpAnyT_take (i := 18) (oi := _) (v := .bool true) rfl (by kernel_rfl) (fun _ _ _ h => h) (Or.inl ⟨by kernel_rfl, by (intro w hSw; (try dsimp only at hSw); go_simp)⟩) (by assumption) ?_; (try simp only [Act.put, List.getElem_toArray, List.getElem_cons_zero, List.getElem_cons_succ, List.setIfInBounds_toArray, List.set_cons_zero, List.set_cons_succ])
                    refine wpAnyT_take (i := 19) (oi := _) (v := .bool true) rfl (by kernel_rfl) (fun _ _ _ h => h) (Or.inl ⟨by kernel_rfl, by (intro w hSw; (try dsimp only at hSw); go_simp)⟩) (by assumption) ?_; (try simp only [Act.put, List.getElem_toArray, List.getElem_cons_zero, List.getElem_cons_succ, List.setIfInBounds_toArray, List.set_cons_zero, List.set_cons_succ])
                    refine wpAnyT_done (by kernel_rfl) ?_ _
                    have q0 : w4.cell? ⟨g4, 0, none⟩ = some (.int .i64 0) := HF4.out.res.cell 0
                    have p0 : w4.frozen? ⟨g4, 0, none⟩ = false := HF4.out.res.frozen 0
                    have q1 : w4.cell? ⟨g4, 1, none⟩ = some (.slice none 0 0) := HF4.out.res.cell 1
                    have p1 : w4.frozen? ⟨g4, 1, none⟩ = false := HF4.out.res.frozen 1
                    have q2 : w4.cell? ⟨g4, 2, none⟩ = some (.int .i64 0) := HF4.out.res.cell 2
                    have p2 : w4.frozen? ⟨g4, 2, none⟩ = false := HF4.out.res.frozen 2
                    have q3 : w4.cell? ⟨g4, 3, none⟩ = some (.int .i64 0) := HF4.out.res.cell 3
                    have p3 : w4.frozen? ⟨g4, 3, none⟩ = false := HF4.out.res.frozen 3
                    have q4 : w4.cell? ⟨g4, 4, none⟩ = some (.int .i64 0) := HF4.out.res.cell 4
                    have p4 : w4.frozen? ⟨g4, 4, none⟩ = false := HF4.out.res.frozen 4
                    have q5 : w4.cell? ⟨g4, 5, none⟩ = some (.slice none 0 0) := HF4.out.res.cell 5
                    have p5 : w4.frozen? ⟨g4, 5, none⟩ = false := HF4.out.res.frozen 5
                    have q6 : w4.cell? ⟨g4, 6, none⟩ = some (.bool false) := HF4.out.res.cell 6
                    have p6 : w4.frozen? ⟨g4, 6, none⟩ = false := HF4.out.res.frozen 6
                    go_wp2
                    obtain ⟨hw, hA, hK⟩ := HF4.out.fin (.int .i64 9) (.slice none 0 0) (.int .i64 0) (.int .i64 0) (.int .i64 0) (.slice none 0 0) (.bool false)
                    unfold set7 at hw hA hK
                    refine bodyPost_ret (results_cell_row rfl _ _ g4 43 #[.int .i64 9, .slice none 0 0, .int .i64 0, .int .i64 0, .int .i64 0, .slice none 0 0, .bool false] (0, 0) _ rfl hw Tryz.underlying43 rfl (by kernel_rfl)) rfl ?_
                    exact .inl ⟨by rw [HT.out]; decide, by rw [HT.out]; exact ⟨rfl, hA, hK⟩⟩
                  · have d2 : decide ((4194304 : Int) < L.all - (o.d.length : Int) + (d.length : Int)) = false := dcf hfull
                    have HT : Hid (putE L ⟨2, key, A, c, d, ver, at_, nn, id⟩ = 0) := Lib.hid (by
                      unfold putE; rw [if_neg (by rw [hr]; decide), if_neg HN.out.a, if_neg HN.out.b, if_neg hlong, if_neg (fun h => by
                        rcases h with h | h
                        · rw [hcr] at h; cases h
                        · rw [ho] at h; exact hfull h)])
                    refine wpAnyT_take (i := 4) (oi := _) (v := .bool false) rfl (by kernel_rfl) (fun _ _ _ h => h) (Or.inl ⟨by kernel_rfl, by (intro w hSw; (try dsimp only at hSw); go_simp)⟩) (by assumption) ?_; (try simp only [Act.put, List.getElem_toArray, List.getElem_cons_zero, List.getElem_cons_succ, List.setIfInBounds_toArray, List.set_cons_zero, List.set_cons_succ])
                    refine wpAnyT_take (i := 5) (oi := _) (v := .pointer (some ⟨L.gs, 0, none⟩)) rfl (by kernel_rfl) (fun _ _ _ h => h) (Or.inl ⟨by kernel_rfl, by (intro w hSw; (try dsimp only at hSw); go_simp)⟩) (by assumption) ?_; (try simp only [Act.put, List.getElem_toArray, List.getElem_cons_zero, List.getElem_cons_succ, List.setIfInBounds_toArray, List.set_cons_zero, List.set_cons_succ])
                    refine wpAnyT_take (i := 6) (oi := _) (v := .pointer (some ⟨L.gs, 0, none⟩)) rfl (by kernel_rfl) (fun _ _ _ h => h) (Or.inl ⟨by kernel_rfl, by (intro w hSw; (try dsimp only at hSw); go_simp)⟩) (by assumption) ?_; (try simp only [Act.put, List.getElem_toArray, List.getElem_cons_zero, List.getElem_cons_succ, List.setIfInBounds_toArray, List.set_cons_zero, List.set_cons_succ])
                    refine wpAnyT_take (i := 7) (oi := _) (v := .pointer (some ⟨L.gs, 5, none⟩)) rfl (by kernel_rfl) (fun _ _ _ h => h) (Or.inl ⟨by kernel_rfl, by (intro w hSw; (try dsimp only at hSw); go_simp)⟩) (by assumption) ?_; (try simp only [Act.put, List.getElem_toArray, List.getElem_cons_zero, List.getElem_cons_succ, List.setIfInBounds_toArray, List.set_cons_zero, List.set_cons_succ])
                    refine wpAnyT_take (i := 8) (oi := _) (v := .int .i64 L.all) rfl (by kernel_rfl) (fun _ _ _ h => h) (Or.inl ⟨by kernel_rfl, by (intro w hSw; (try dsimp only at hSw); go_simp)⟩) (by assumption) ?_; (try simp only [Act.put, List.getElem_toArray, List.getElem_cons_zero, List.getElem_cons_succ, List.setIfInBounds_toArray, List.set_cons_zero, List.set_cons_succ])
                    refine wpAnyT_take (i := 9) (oi := _) (v := .pointer (some ⟨g5, 0, none⟩)) rfl (by kernel_rfl) (fun _ _ _ h => h) (Or.inl ⟨by kernel_rfl, by (intro w hSw; (try dsimp only at hSw); go_simp)⟩) (by assumption) ?_; (try simp only [Act.put, List.getElem_toArray, List.getElem_cons_zero, List.getElem_cons_succ, List.setIfInBounds_toArray, List.set_cons_zero, List.set_cons_succ])
                    refine wpAnyT_take (i := 10) (oi := _) (v := .slice o.A o.d.length o.c) rfl (by kernel_rfl) (fun _ _ _ h => h) (Or.inl ⟨by kernel_rfl, by (intro w hSw; (try dsimp only at hSw); go_simp)⟩) (by assumption) ?_; (try simp only [Act.put, List.getElem_toArray, List.getElem_cons_zero, List.getElem_cons_succ, List.setIfInBounds_toArray, List.set_cons_zero, List.set_cons_succ])
                    refine wpAnyT_take (i := 11) (oi := _) (v := .int .i64 (o.d.length : Int)) rfl (by kernel_rfl) (fun _ _ _ h => h) (Or.inl ⟨by kernel_rfl, by (intro w hSw; (try dsimp only at hSw); go_simp)⟩) (by assumption) ?_; (try simp only [Act.put, List.getElem_toArray, List.getElem_cons_zero, List.getElem_cons_succ, List.setIfInBounds_toArray, List.set_cons_zero, List.set_cons_succ])
                    refine wpAnyT_take (i := 12) (oi := _) (v := .int .i64 (L.all - (o.d.length : Int))) rfl (by kernel_rfl) (fun _ _ _ h => h) (Or.inl ⟨by kernel_rfl, by (intro w hSw; (try dsimp only at hSw); go_simp)⟩) (by assumption) ?_; (try simp only [Act.put, List.getElem_toArray, List.getElem_cons_zero, List.getElem_cons_succ, List.setIfInBounds_toArray, List.set_cons_zero, List.set_cons_succ])
                    refine wpAnyT_take (i := 13) (oi := _) (v := .pointer (some ⟨g3, 2, none⟩)) rfl (by kernel_rfl) (fun _ _ _ h => h) (Or.inl ⟨by kernel_rfl, by (intro w hSw; (try dsimp only at hSw); go_simp)⟩) (by assumption) ?_; (try simp only [Act.put, List.getElem_toArray, List.getElem_cons_zero, List.getElem_cons_succ, List.setIfInBounds_toArray, List.set_cons_zero, List.set_cons_succ])
                    refine wpAnyT_take (i := 14) (oi := _) (v := .slice A d.length c) rfl (by kernel_rfl) (fun _ _ _ h => h) (Or.inl ⟨by kernel_rfl, by (intro w hSw; (try dsimp only at hSw); go_simp)⟩) (by assumption) ?_; (try simp only [Act.put, List.getElem_toArray, List.getElem_cons_zero, List.getElem_cons_succ, List.setIfInBounds_toArray, List.set_cons_zero, List.set_cons_succ])
                    refine wpAnyT_take (i := 15) (oi := _) (v := .int .i64 (d.length : Int)) rfl (by kernel_rfl) (fun _ _ _ h => h) (Or.inl ⟨by kernel_rfl, by (intro w hSw; (try dsimp only at hSw); go_simp)⟩) (by assumption) ?_; (try simp only [Act.put, List.getElem_toArray, List.getElem_cons_zero, List.getElem_cons_succ, List.setIfInBounds_toArray, List.set_cons_zero, List.set_cons_succ])
                    refine wpAnyT_take (i := 16) (oi := _) (v := .int .i64 (L.all - (o.d.length : Int) + (d.length : Int))) rfl (by kernel_rfl) (fun _ _ _ h => h) (Or.inl ⟨by kernel_rfl, by (intro w hSw; (try dsimp only at hSw); go_simp)⟩) (by assumption) ?_; (try simp only [Act.put, List.getElem_toArray, List.getElem_cons_zero, List.getElem_cons_succ, List.setIfInBounds_toArray, List.set_cons_zero, List.set_cons_succ])
                    refine wpAnyT_take (i := 17) (oi := _) (v := .bool false) rfl (by kernel_rfl) (fun _ _ _ h => h) (Or.inl ⟨by kernel_rfl, by (intro w hSw; (try dsimp only at hSw); go_simp)⟩) (by assumption) ?_; (try simp only [Act.put, List.getElem_toArray, List.getElem_cons_zero, List.getElem_cons_succ, List.setIfInBounds_toArray, List.set_cons_zero, List.set_cons_succ])
                    refine wpAnyT_take (i := 18) (oi := _) (v := .bool false) rfl (by kernel_rfl) (fun _ _ _ h => h) (Or.inl ⟨by kernel_rfl, by (intro w hSw; (try dsimp only at hSw); go_simp)⟩) (by assumption) ?_; (try simp only [Act.put, List.getElem_toArray, List.getElem_cons_zero, List.getElem_cons_succ, List.setIfInBounds_toArray, List.set_cons_zero, List.set_cons_succ])
                    refine wpAnyT_take (i := 19) (oi := _) (v := .bool false) rfl (by kernel_rfl) (fun _ _ _ h => h) (Or.inl ⟨by kernel_rfl, by (intro w hSw; (try dsimp only at hSw); go_simp)⟩) (by assumption) ?_; (try simp only [Act.put, List.getElem_toArray, List.getElem_cons_zero, List.getElem_cons_succ, List.setIfInBounds_toArray, List.set_cons_zero, List.set_cons_succ])
                    refine wpAnyT_done (by kernel_rfl) ?_ _
                    go_upto_region 11 with fail
                    clear hH4
                    have Hk11 : Hid (∀ W, Below w4.heap.size w4 W → W.cell? ⟨g3, 1, none⟩ = some (.string key) ∧ W.cell? ⟨g3, 2, none⟩ = some (.slice A d.length c)) := Lib.hid fun W hW => ⟨(HF4.out.below hW).call.cell 1, (HF4.out.below hW).call.cell 2⟩
                    refine wp_region_T 7 (fun w' => w'.cell? ⟨g3, 1, none⟩ = some (.string key) ∧ w'.cell? ⟨g3, 2, none⟩ = some (.slice A d.length c)) (by kernel_rfl) (Hk11.out _ (below_drewN_ (Below.refl _ _) 1)) (fun hHeld => ?_)
                    refine wpAnyT_take (i := 0) (oi := _) (v := .pointer (some ⟨L.gs, 0, none⟩)) rfl (by kernel_rfl) (fun _ _ _ h => h) (Or.inl ⟨by kernel_rfl, by (intro w hSw; (try dsimp only at hSw); go_simp)⟩) (by assumption) ?_; (try simp only [Act.put, List.getElem_toArray, List.getElem_cons_zero, List.setIfInBounds_toArray, List.set_cons_zero, List.set_cons_succ])
                    refine wpAnyT_take (i := 1) (oi := _) (v := .pointer (some ⟨g3, 1, none⟩)) rfl (by kernel_rfl) (fun _ _ _ h => h) (Or.inl ⟨by kernel_rfl, by (intro w hSw; (try dsimp only at hSw); go_simp)⟩) (by assumption) ?_; (try simp only [Act.put, List.getElem_toArray, List.getElem_cons_zero, List.getElem_cons_succ, List.setIfInBounds_toArray, List.set_cons_zero, List.set_cons_succ])
                    refine wpAnyT_take (i := 2) (oi := _) (v := .string key) rfl (by kernel_rfl) (fun _ _ _ h => h) (Or.inl ⟨by kernel_rfl, by (intro w hSw; (try dsimp only at hSw); go_simp)⟩) (by assumption) ?_; (try simp only [Act.put, List.getElem_toArray, List.getElem_cons_zero, List.getElem_cons_succ, List.setIfInBounds_toArray, List.set_cons_zero, List.set_cons_succ])
                    refine wpAnyT_take (i := 3) (oi := _) (v := .pointer (some ⟨g3, 2, none⟩)) rfl (by kernel_rfl) (fun _ _ _ h => h) (Or.inl ⟨by kernel_rfl, by (intro w hSw; (try dsimp only at hSw); go_simp)⟩) (by assumption) ?_; (try simp only [Act.put, List.getElem_toArray, List.getElem_cons_zero, List.getElem_cons_succ, List.setIfInBounds_toArray, List.set_cons_zero, List.set_cons_succ])
                    refine wpAnyT_take (i := 4) (oi := _) (v := .slice A d.length c) rfl (by kernel_rfl) (fun _ _ _ h => h) (Or.inl ⟨by kernel_rfl, by (intro w hSw; (try dsimp only at hSw); go_simp)⟩) (by assumption) ?_; (try simp only [Act.put, List.getElem_toArray, List.getElem_cons_zero, List.getElem_cons_succ, List.setIfInBounds_toArray, List.set_cons_zero, List.set_cons_succ])
                    have HFd := Lib.hid (HF4.out.below (below_drewN_ (Below.refl w4.heap.size w4) 1))
                    refine wpAnyT_one (i := 5) (by kernel_rfl) rfl (fun K hK => ?_); go_simp
                    refine (clone_calls _ HFd.out.dat hdl).mono ?_
                    rintro e w5 ⟨A5, c5, rfl, hr5, hb5'⟩
                    have hb5 : Below w4.heap.size w4 w5 := (below_drewN_ (Below.refl _ _) 1).trans hb5'
                    have hH5 := Hk11.out _ hb5
                    have HHI : Hid (High w.heap.size A5) := Lib.hid (High.own hr5 HF4.out.keep.size)
                    have HF5 := Lib.hid (HF4.out.below hb5)
                    have HD5 : Hid (Dat w5 L.gs A5 c5 d) := Lib.hid (Dat.of_own hr5 (HF4.out.at_.blk.lt))
                    have HO5 : Hid (Off g4 A5 d) := Lib.hid (Dat.offg (Dat.of_own hr5 (HF4.out.res.lt)))
                    refine hK.out _ _ (fun _ => hH5) ?_
                    clear hK K hHeld Hk11 HF4 HFd hb5 hb5' hr5
                    refine wpAnyT_one (i := 6) (by kernel_rfl) rfl (fun K hK => ?_); go_simp
                    refine (make_calls w5 HF5.out.at_ HI.out hn HD5.out (by omega) hk).mono ?_
                    rintro e w6 ⟨rfl, hA6, hK6⟩
                    have HF6 := Lib.hid (HF5.out.turn hA6 hK6 (fun _ _ h => h) rfl (by
                      refine ⟨fun p hp => ?_, HF5.out.free.u⟩
                      rcases mput_mem.1 hp with rfl | ⟨hp, _⟩
                      · exact HO5.out
                      · exact HF5.out.free.o p hp))
                    have hH6 : w6.cell? ⟨g3, 1, none⟩ = some (.string key) ∧ w6.cell? ⟨g3, 2, none⟩ = some (.slice A d.length c) := ⟨HF6.out.call.cell 1, HF6.out.call.cell 2⟩
                    refine hK.out _ _ (fun _ => hH6) ?_
                    clear hK K hA6 hK6 HF5 HD5 hH5
                    have q0 : w6.cell? ⟨g4, 0, none⟩ = some (.int .i64 0) := HF6.out.res.cell 0
                    have p0 : w6.frozen? ⟨g4, 0, none⟩ = false := HF6.out.res.frozen 0
                    have q1 : w6.cell? ⟨g4, 1, none⟩ = some (.slice none 0 0) := HF6.out.res.cell 1
                    have p1 : w6.frozen? ⟨g4, 1, none⟩ = false := HF6.out.res.frozen 1
                    have q2 : w6.cell? ⟨g4, 2, none⟩ = some (.int .i64 0) := HF6.out.res.cell 2
                    have p2 : w6.frozen? ⟨g4, 2, none⟩ = false := HF6.out.res.frozen 2
                    have q3 : w6.cell? ⟨g4, 3, none⟩ = some (.int .i64 0) := HF6.out.res.cell 3
                    have p3 : w6.frozen? ⟨g4, 3, none⟩ = false := HF6.out.res.frozen 3
                    have q4 : w6.cell? ⟨g4, 4, none⟩ = some (.int .i64 0) := HF6.out.res.cell 4
                    have p4 : w6.frozen? ⟨g4, 4, none⟩ = false := HF6.out.res.frozen 4
                    have q5 : w6.cell? ⟨g4, 5, none⟩ = some (.slice none 0 0) := HF6.out.res.cell 5
                    have p5 : w6.frozen? ⟨g4, 5, none⟩ = false := HF6.out.res.frozen 5
                    have q6 : w6.cell? ⟨g4, 6, none⟩ = some (.bool false) := HF6.out.res.cell 6
                    have p6 : w6.frozen? ⟨g4, 6, none⟩ = false := HF6.out.res.frozen 6
                    refine wpAnyT_one (i := 7) (by kernel_rfl) rfl (fun K hK => ?_); go_simp
                    refine hK.out _ _ (fun h => absurd rfl h) (wpAnyT_done (by kernel_rfl) ?_ _)
                    clear hK K
                    go_wp2
                    obtain ⟨hw, hA, hK⟩ := HF6.out.fin (.int .i64 0) (.slice none 0 0) (.int .i64 (L.ver + 1)) (.int .i64 L.now) (.int .i64 0) (.slice none 0 0) (.bool false)
                    unfold set7 at hw hA hK
                    refine bodyPost_ret (results_cell_row rfl _ _ g4 43 #[.int .i64 0, .slice none 0 0, .int .i64 (L.ver + 1), .int .i64 L.now, .int .i64 0, .slice none 0 0, .bool false] (0, 0) _ rfl hw Tryz.underlying43 rfl (by kernel_rfl)) rfl ?_
                    exact .inr ⟨HT.out, A5, c5, HHI.out, rfl, hA, hK⟩
            · have b2 := net hov
              have HT : Hid (putE L ⟨2, key, A, c, d, ver, at_, nn, id⟩ = 8) := Lib.hid (by
                unfold putE; rw [if_neg (by rw [hr]; decide), if_neg (fun h => by have := h.2; rw [HQ.out, decide_eq_false hv] at this; cases this), if_pos ⟨rfl, HQ.out, by rw [ho]; exact hov⟩])
              go_wp2
              obtain ⟨hw, hA, hK⟩ := HF3.out.fin (.int .i64 8) (.slice none 0 0) (.int .i64 0) (.int .i64 0) (.int .i64 0) (.slice none 0 0) (.bool false)
              unfold set7 at hw hA hK
              refine bodyPost_ret (results_cell_row rfl _ _ g4 43 #[.int .i64 8, .slice none 0 0, .int .i64 0, .int .i64 0, .int .i64 0, .slice none 0 0, .bool false] (0, 0) _ rfl hw Tryz.underlying43 rfl (by kernel_rfl)) rfl ?_
              exact .inl ⟨by rw [HT.out]; decide, by rw [HT.out]; exact ⟨rfl, hA, hK⟩⟩
          | false =>
            have HT : Hid (putE L ⟨2, key, A, c, d, ver, at_, nn, id⟩ = 8) := Lib.hid (by
              unfold putE; rw [if_neg (by rw [hr]; decide), if_pos ⟨rfl, by rw [HQ.out]; exact decide_eq_false hv⟩])
            go_wp2
            obtain ⟨hw, hA, hK⟩ := HF3.out.fin (.int .i64 8) (.slice none 0 0) (.int .i64 0) (.int .i64 0) (.int .i64 0) (.slice none 0 0) (.bool false)
            unfold set7 at hw hA hK
            refine bodyPost_ret (results_cell_row rfl _ _ g4 43 #[.int .i64 8, .slice none 0 0, .int .i64 0, .int .i64 0, .int .i64 0, .slice none 0 0, .bool false] (0, 0) _ rfl hw Tryz.underlying43 rfl (by kernel_rfl)) rfl ?_
            exact .inl ⟨by rw [HT.out]; decide, by rw [HT.out]; exact ⟨rfl, hA, hK⟩⟩
      · have b0 := eqf hkind
        have HN : Hid (VerOk L key kind ver) := Lib.hid ⟨fun h => hkind h.1, fun h => hkind h.1⟩
        by_cases hlong : 262144 < d.length
        · have d1 : decide ((262144 : Int) < (d.length : Int)) = true := dct (by omega)
          have HT : Hid (putE L ⟨kind, key, A, c, d, ver, at_, nn, id⟩ = 5) := Lib.hid (by
            unfold putE; rw [if_neg (by rw [hr]; decide), if_neg HN.out.a, if_neg HN.out.b, if_pos hlong])
          go_wp2
          obtain ⟨hw, hA, hK⟩ := HF3.out.fin (.int .i64 5) (.slice none 0 0) (.int .i64 0) (.int .i64 0) (.int .i64 0) (.slice none 0 0) (.bool false)
          unfold set7 at hw hA hK
          refine bodyPost_ret (results_cell_row rfl _ _ g4 43 #[.int .i64 5, .slice none 0 0, .int .i64 0, .int .i64 0, .int .i64 0, .slice none 0 0, .bool false] (0, 0) _ rfl hw Tryz.underlying43 rfl (by kernel_rfl)) rfl ?_
          exact .inl ⟨by rw [HT.out]; decide, by rw [HT.out]; exact ⟨rfl, hA, hK⟩⟩
        · have d1 : decide ((262144 : Int) < (d.length : Int)) = false := dcf (by omega)
          go_upto_region 9 with fail
          have HC : Hid (∀ W, Below w3.heap.size w3 W → Calls Tryz.prog 39 #[.pointer (some ⟨L.gs, 0, none⟩), .string key] W fun e w' => e = .returned (.bool (L.crowded key)) ∧ Below W.heap.size W w') := Lib.hid fun W hW => crowded_calls W (HF3.out.at_.below hW) hk (Nat.le_trans HI.out.on hn)
          have Hk9 : Hid (∀ W, Below w3.heap.size w3 W → W.cell? ⟨g3, 1, none⟩ = some (.string key) ∧ W.cell? ⟨L.gs, 5, none⟩ = some (.int .i64 L.all) ∧ W.cell? ⟨g5, 0, none⟩ = some (.slice o.A o.d.length o.c) ∧ W.cell? ⟨g3, 2, none⟩ = some (.slice A d.length c)) := Lib.hid fun W hW => ⟨(HF3.out.below hW).call.cell 1, (HF3.out.below hW).at_.c_all, (HB3.out.below hW HB3.out.lt).cell 0, (HF3.out.below hW).call.cell 2⟩
          clear k2 k3 o1 q0 q1 q2 q3 q4 q5 q6 p0 p1 p2 p3 p4 p5 p6
          refine wp_region_T 100 (fun w' => w'.cell? ⟨g3, 1, none⟩ = some (.string key) ∧ w'.cell? ⟨L.gs, 5, none⟩ = some (.int .i64 L.all) ∧ w'.cell? ⟨g5, 0, none⟩ = some (.slice o.A o.d.length o.c) ∧ w'.cell? ⟨g3, 2, none⟩ = some (.slice A d.length c)) (by kernel_rfl) (Hk9.out _ (below_drewN_ (Below.refl _ _) 1)) (fun hHeld => ?_)
          refine wpAnyT_take (i := 0) (oi := _) (v := .pointer (some ⟨L.gs, 0, none⟩)) rfl (by kernel_rfl) (fun _ _ _ h => h) (Or.inl ⟨by kernel_rfl, by (intro w hSw; (try dsimp only at hSw); go_simp)⟩) (by assumption) ?_; (try simp only [Act.put, List.getElem_toArray, List.getElem_cons_zero, List.setIfInBounds_toArray, List.set_cons_zero, List.set_cons_succ])
          refine wpAnyT_take (i := 1) (oi := _) (v := .pointer (some ⟨g3, 1, none⟩)) rfl (by kernel_rfl) (fun _ _ _ h => h) (Or.inl ⟨by kernel_rfl, by (intro w hSw; (try dsimp only at hSw); go_simp)⟩) (by assumption) ?_; (try simp only [Act.put, List.getElem_toArray, List.getElem_cons_zero, List.getElem_cons_succ, List.setIfInBounds_toArray, List.set_cons_zero, List.set_cons_succ])
          refine wpAnyT_take (i := 2) (oi := _) (v := .string key) rfl (by kernel_rfl) (fun _ _ _ h => h) (Or.inl ⟨by kernel_rfl, by (intro w hSw; (try dsimp only at hSw); go_simp)⟩) (by assumption) ?_; (try simp only [Act.put, List.getElem_toArray, List.getElem_cons_zero, List.getElem_cons_succ, List.setIfInBounds_toArray, List.set_cons_zero, List.set_cons_succ])
          refine wpAnyT_one (i := 3) (by kernel_rfl) rfl (fun K hK => ?_); go_simp
          refine (HC.out _ (below_drewN_ (Below.refl _ _) 1)).mono ?_
          rintro e w4 ⟨rfl, hb4'⟩
          have hb4 : Below w3.heap.size w3 w4 := (below_drewN_ (Below.refl _ _) 1).trans hb4'
          have hH4 := Hk9.out _ hb4
          refine hK.out _ _ (fun _ => hH4) ?_
          clear hK K hHeld
          have HF4 := Lib.hid (HF3.out.below hb4)
          clear HC Hk9 hb4' hb4 HF3 HB3
          cases hcr : L.crowded key with
          | true =>
            have HT : Hid (putE L ⟨kind, key, A, c, d, ver, at_, nn, id⟩ = 9) := Lib.hid (by
              unfold putE; rw [if_neg (by rw [hr]; decide), if_neg HN.out.a, if_neg HN.out.b, if_neg hlong, if_pos (.inl hcr)])
            refine wpAnyT_take (i := 4) (oi := _) (v := .bool true) rfl (by kernel_rfl) (fun _ _ _ h => h) (Or.inl ⟨by kernel_rfl, by (intro w hSw; (try dsimp only at hSw); go_simp)⟩) (by assumption) ?_; (try simp only [Act.put, List.getElem_toArray, List.getElem_cons_zero, List.getElem_cons_succ, List.setIfInBounds_toArray, List.set_cons_zero, List.set_cons_succ])
            refine wpAnyT_take (i := 5) (oi := _) (v := undef) rfl (by kernel_rfl) (fun _ _ _ h => h) (Or.inr ⟨by kernel_rfl, rfl⟩) (by assumption) ?_; (try simp only [Act.put, List.getElem_toArray, List.getElem_cons_zero, List.getElem_cons_succ, List.setIfInBounds_toArray, List.set_cons_zero, List.set_cons_succ])
            refine wpAnyT_take (i := 6) (oi := _) (v := undef) rfl (by kernel_rfl) (fun _ _ _ h => h) (Or.inr ⟨by kernel_rfl, rfl⟩) (by assumption) ?_; (try simp only [Act.put, List.getElem_toArray, List.getElem_cons_zero, List.getElem_cons_succ, List.setIfInBounds_toArray, List.set_cons_zero, List.set_cons_succ])
            refine wpAnyT_take (i := 7) (oi := _) (v := undef) rfl (by kernel_rfl) (fun _ _ _ h => h) (Or.inr ⟨by kernel_rfl, rfl⟩) (by assumption) ?_; (try simp only [Act.put, List.getElem_toArray, List.getElem_cons_zero, List.getElem_cons_succ, List.setIfInBounds_toArray, List.set_cons_zero, List.set_cons_succ])
            refine wpAnyT_take (i := 8) (oi := _) (v := undef) rfl (by kernel_rfl) (fun _ _ _ h => h) (Or.inr ⟨by kernel_rfl, rfl⟩) (by assumption) ?_; (try simp only [Act.put, List.getElem_toArray, List.getElem_cons_zero, List.getElem_cons_succ, List.setIfInBounds_toArray, List.set_cons_zero, List.set_cons_succ])
            refine wpAnyT_take (i := 9) (oi := _) (v := undef) rfl (by kernel_rfl) (fun _ _ _ h => h) (Or.inr ⟨by kernel_rfl, rfl⟩) (by assumption) ?_; (try simp only [Act.put, List.getElem_toArray, List.getElem_cons_zero, List.getElem_cons_succ, List.setIfInBounds_toArray, List.set_cons_zero, List.set_cons_succ])
            refine wpAnyT_take (i := 10) (oi := _) (v := undef) rfl (by kernel_rfl) (fun _ _ _ h => h) (Or.inr ⟨by kernel_rfl, rfl⟩) (by assumption) ?_; (try simp only [Act.put, List.getElem_toArray, List.getElem_cons_zero, List.getElem_cons_succ, List.setIfInBounds_toArray, List.set_cons_zero, List.set_cons_succ])
            refine wpAnyT_take (i := 11) (oi := _) (v := undef) rfl (by kernel_rfl) (fun _ _ _ h => h) (Or.inr ⟨by kernel_rfl, rfl⟩) (by assumption) ?_; (try simp only [Act.put, List.getElem_toArray, List.getElem_cons_zero, List.getElem_cons_succ, List.setIfInBounds_toArray, List.set_cons_zero, List.set_cons_succ])
            refine wpAnyT_take (i := 12) (oi := _) (v := undef) rfl (by kernel_rfl) (fun _ _ _ h => h) (Or.inr ⟨by kernel_rfl, rfl⟩) (by assumption) ?_; (try simp only [Act.put, List.getElem_toArray, List.getElem_cons_zero, List.getElem_cons_succ, List.setIfInBounds_toArray, List.set_cons_zero, List.set_cons_succ])
            refine wpAnyT_take (i := 13) (oi := _) (v := undef) rfl (by kernel_rfl) (fun _ _ _ h => h) (Or.inr ⟨by kernel_rfl, rfl⟩) (by assumption) ?_; (try simp only [Act.put, List.getElem_toArray, List.getElem_cons_zero, List.getElem_cons_succ, List.setIfInBounds_toArray, List.set_cons_zero, List.set_cons_succ])
            refine wpAnyT_take (i := 14) (oi := _) (v := undef) rfl (by kernel_rfl) (fun _ _ _ h => h) (Or.inr ⟨by kernel_rfl, rfl⟩) (by assumption) ?_; (try simp only [Act.put, List.getElem_toArray, List.getElem_cons_zero, List.getElem_cons_succ, List.setIfInBounds_toArray, List.set_cons_zero, List.set_cons_succ])
            refine wpAnyT_take (i := 15) (oi := _) (v := undef) rfl (by kernel_rfl) (fun _ _ _ h => h) (Or.inr ⟨by kernel_rfl, rfl⟩) (by assumption) ?_; (try simp only [Act.put, List.getElem_toArray, List.getElem_cons_zero, List.getElem_cons_succ, List.setIfInBounds_toArray, List.set_cons_zero, List.set_cons_succ])
            refine wpAnyT_take (i := 16) (oi := _) (v := undef) rfl (by kernel_rfl) (fun _ _ _ h => h) (Or.inr ⟨by kernel_rfl, rfl⟩) (by assumption) ?_; (try simp only [Act.put, List.getElem_toArray, List.getElem_cons_zero, List.getElem_cons_succ, List.setIfInBounds_toArray, List.set_cons_zero, List.set_cons_succ])
            refine wpAnyT_take (i := 17) (oi := _) (v := undef) rfl (by kernel_rfl) (fun _ _ _ h => h) (Or.inr ⟨by kernel_rfl, rfl⟩) (by assumption) ?_; (try simp only [Act.put, List.getElem_toArray, List.getElem_cons_zero, List.getElem_cons_succ, List.setIfInBounds_toArray, List.set_cons_zero, List.set_cons_succ])
            refine wpAnyT_take (i := 18) (oi := _) (v := .bool true) rfl (by kernel_rfl) (fun _ _ _ h => h) (Or.inl ⟨by kernel_rfl, by (intro w hSw; (try dsimp only at hSw); go_simp)⟩) (by assumption) ?_; (try simp only [Act.put, List.getElem_toArray, List.getElem_cons_zero, List.getElem_cons_succ, List.setIfInBounds_toArray, List.set_cons_zero, List.set_cons_succ])
            refine wpAnyT_take (i := 19) (oi := _) (v := .bool true) rfl (by kernel_rfl) (fun _ _ _ h => h) (Or.inl ⟨by kernel_rfl, by (intro w hSw; (try dsimp only at hSw); go_simp)⟩) (by assumption) ?_; (try simp only [Act.put, List.getElem_toArray, List.getElem_cons_zero, List.getElem_cons_succ, List.setIfInBounds_toArray, List.set_cons_zero, List.set_cons_succ])
            refine wpAnyT_done (by kernel_rfl) ?_ _
            have q0 : w4.cell? ⟨g4, 0, none⟩ = some (.int .i64 0) := HF4.out.res.cell 0
            have p0 : w4.frozen? ⟨g4, 0, none⟩ = false := HF4.out.res.frozen 0
            have q1 : w4.cell? ⟨g4, 1, none⟩ = some (.slice none 0 0) := HF4.out.res.cell 1
            have p1 : w4.frozen? ⟨g4, 1, none⟩ = false := HF4.out.res.frozen 1
            have q2 : w4.cell? ⟨g4, 2, none⟩ = some (.int .i64 0) := HF4.out.res.cell 2
            have p2 : w4.frozen? ⟨g4, 2, none⟩ = false := HF4.out.res.frozen 2
            have q3 : w4.cell? ⟨g4, 3, none⟩ = some (.int .i64 0) := HF4.out.res.cell 3
            have p3 : w4.frozen? ⟨g4, 3, none⟩ = false := HF4.out.res.frozen 3
            have q4 : w4.cell? ⟨g4, 4, none⟩ = some (.int .i64 0) := HF4.out.res.cell 4
            have p4 : w4.frozen? ⟨g4, 4, none⟩ = false := HF4.out.res.frozen 4
            have q5 : w4.cell? ⟨g4, 5, none⟩ = some (.slice none 0 0) := HF4.out.res.cell 5
            have p5 : w4.frozen? ⟨g4, 5, none⟩ = false := HF4.out.res.frozen 5
            have q6 : w4.cell? ⟨g4, 6, none⟩ = some (.bool false) := HF4.out.res.cell 6
            have p6 : w4.frozen? ⟨g4, 6, none⟩ = false := HF4.out.res.frozen 6
            go_wp2
            obtain ⟨hw, hA, hK⟩ := HF4.out.fin (.int .i64 9) (.slice none 0 0) (.int .i64 0) (.int .i64 0) (.int .i64 0) (.slice none 0 0) (.bool false)
            unfold set7 at hw hA hK
            refine bodyPost_ret (results_cell_row rfl _ _ g4 43 #[.int .i64 9, .slice none 0 0, .int .i64 0, .int .i64 0, .int .i64 0, .slice none 0 0, .bool false] (0, 0) _ rfl hw Tryz.underlying43 rfl (by kernel_rfl)) rfl ?_
            exact .inl ⟨by rw [HT.out]; decide, by rw [HT.out]; exact ⟨rfl, hA, hK⟩⟩
          | false =>
            have hall := HI.out.all
            have hbig := HI.out.big
            have hol : o.d.length ≤ 262144 := by
              rw [← ho]
              cases hm : mget L.objs key with
              | none => exact Nat.zero_le _
              | some o => exact HI.out.od _ (mget_mem hm)
            have r1 : IntKind.i64.wrap (L.all - (o.d.length : Int)) = L.all - (o.d.length : Int) := by rw [IntKind.wrap_i64]; omega
            have r2 : IntKind.i64.wrap (L.all - (o.d.length : Int) + (d.length : Int)) = L.all - (o.d.length : Int) + (d.length : Int) := by rw [IntKind.wrap_i64]; omega
            clear hall hbig
            by_cases hfull : 4194304 < L.all - (o.d.length : Int) + (d.length : Int)
            · have d2 : decide ((4194304 : Int) < L.all - (o.d.length : Int) + (d.length : Int)) = true := dct hfull
              have HT : Hid (putE L ⟨kind, key, A, c, d, ver, at_, nn, id⟩ = 9) := Lib.hid (by
                unfold putE; rw [if_neg (by rw [hr]; decide), if_neg HN.out.a, if_neg HN.out.b, if_neg hlong, if_pos (.inr (by rw [ho]; exact hfull))])
              refine wpAnyT_take (i := 4) (oi := _) (v := .bool false) rfl (by kernel_rfl) (fun _ _ _ h => h) (Or.inl ⟨by kernel_rfl, by (intro w hSw; (try dsimp only at hSw); go_simp)⟩) (by assumption) ?_; (try simp only [Act.put, List.getElem_toArray, List.getElem_cons_zero, List.getElem_cons_succ, List.setIfInBounds_toArray, List.set_cons_zero, List.set_cons_succ])
              refine wpAnyT_take (i := 5) (oi := _) (v := .pointer (some ⟨L.gs, 0, none⟩)) rfl (by kernel_rfl) (fun _ _ _ h => h) (Or.inl ⟨by kernel_rfl, by (intro w hSw; (try dsimp only at hSw); go_simp)⟩) (by assumption) ?_; (try simp only [Act.put, List.getElem_toArray, List.getElem_cons_zero, List.getElem_cons_succ, List.setIfInBounds_toArray, List.set_cons_zero, List.set_cons_succ])
              refine wpAnyT_take (i := 6) (oi := _) (v := .pointer (some ⟨L.gs, 0, none⟩)) rfl (by kernel_rfl) (fun _ _ _ h => h) (Or.inl ⟨by kernel_rfl, by (intro w hSw; (try dsimp only at hSw); go_simp)⟩) (by assumption) ?_; (try simp only [Act.put, List.getElem_toArray, List.getElem_cons_zero, List.getElem_cons_succ, List.setIfInBounds_toArray, List.set_cons_zero, List.set_cons_succ])
              refine wpAnyT_take (i := 7) (oi := _) (v := .pointer (some ⟨L.gs, 5, none⟩)) rfl (by kernel_rfl) (fun _ _ _ h => h) (Or.inl ⟨by kernel_rfl, by (intro w hSw; (try dsimp only at hSw); go_simp)⟩) (by assumption) ?_; (try simp only [Act.put, List.getElem_toArray, List.getElem_cons_zero, List.getElem_cons_succ, List.setIfInBounds_toArray, List.set_cons_zero, List.set_cons_succ])
              refine wpAnyT_take (i := 8) (oi := _) (v := .int .i64 L.all) rfl (by kernel_rfl) (fun _ _ _ h => h) (Or.inl ⟨by kernel_rfl, by (intro w hSw; (try dsimp only at hSw); go_simp)⟩) (by assumption) ?_; (try simp only [Act.put, List.getElem_toArray, List.getElem_cons_zero, List.getElem_cons_succ, List.setIfInBounds_toArray, List.set_cons_zero, List.set_cons_succ])
              refine wpAnyT_take (i := 9) (oi := _) (v := .pointer (some ⟨g5, 0, none⟩)) rfl (by kernel_rfl) (fun _ _ _ h => h) (Or.inl ⟨by kernel_rfl, by (intro w hSw; (try dsimp only at hSw); go_simp)⟩) (by assumption) ?_; (try simp only [Act.put, List.getElem_toArray, List.getElem_cons_zero, List.getElem_cons_succ, List.setIfInBounds_toArray, List.set_cons_zero, List.set_cons_succ])
              refine wpAnyT_take (i := 10) (oi := _) (v := .slice o.A o.d.length o.c) rfl (by kernel_rfl) (fun _ _ _ h => h) (Or.inl ⟨by kernel_rfl, by (intro w hSw; (try dsimp only at hSw); go_simp)⟩) (by assumption) ?_; (try simp only [Act.put, List.getElem_toArray, List.getElem_cons_zero, List.getElem_cons_succ, List.setIfInBounds_toArray, List.set_cons_zero, List.set_cons_succ])
              refine wpAnyT_take (i := 11) (oi := _) (v := .int .i64 (o.d.length : Int)) rfl (by kernel_rfl) (fun _ _ _ h => h) (Or.inl ⟨by kernel_rfl, by (intro w hSw; (try dsimp only at hSw); go_simp)⟩) (by assumption) ?_; (try simp only [Act.put, List.getElem_toArray, List.getElem_cons_zero, List.getElem_cons_succ, List.setIfInBounds_toArray, List.set_cons_zero, List.set_cons_succ])
              refine wpAnyT_take (i := 12) (oi := _) (v := .int .i64 (L.all - (o.d.length : Int))) rfl (by kernel_rfl) (fun _ _ _ h => h) (Or.inl ⟨by kernel_rfl, by (intro w hSw; (try dsimp only at hSw); go_simp)⟩) (by assumption) ?_; (try simp only [Act.put, List.getElem_toArray, List.getElem_cons_zero, List.getElem_cons_succ, List.setIfInBounds_toArray, List.set_cons_zero, List.set_cons_succ])
              refine wpAnyT_take (i := 13) (oi := _) (v := .pointer (some ⟨g3, 2, none⟩)) rfl (by kernel_rfl) (fun _ _ _ h => h) (Or.inl ⟨by kernel_rfl, by (intro w hSw; (try dsimp only at hSw); go_simp)⟩) (by assumption) ?_; (try simp only [Act.put, List.getElem_toArray, List.getElem_cons_zero, List.getElem_cons_succ, List.setIfInBounds_toArray, List.set_cons_zero, List.set_cons_succ])
              refine wpAnyT_take (i := 14) (oi := _) (v := .slice A d.length c) rfl (by kernel_rfl) (fun _ _ _ h => h) (Or.inl ⟨by kernel_rfl, by (intro w hSw; (try dsimp only at hSw); go_simp)⟩) (by assumption) ?_; (try simp only [Act.put, List.getElem_toArray, List.getElem_cons_zero, List.getElem_cons_succ, List.setIfInBounds_toArray, List.set_cons_zero, List.set_cons_succ])
              refine wpAnyT_take (i := 15) (oi := _) (v := .int .i64 (d.length : Int)) rfl (by kernel_rfl) (fun _ _ _ h => h) (Or.inl ⟨by kernel_rfl, by (intro w hSw; (try dsimp only at hSw); go_simp)⟩) (by assumption) ?_; (try simp only [Act.put, List.getElem_toArray, List.getElem_cons_zero, List.getElem_cons_succ, List.setIfInBounds_toArray, List.set_cons_zero, List.set_cons_succ])
              refine wpAnyT_take (i := 16) (oi := _) (v := .int .i64 (L.all - (o.d.length : Int) + (d.length : Int))) rfl (by kernel_rfl) (fun _ _ _ h => h) (Or.inl ⟨by kernel_rfl, by (intro w hSw; (try dsimp only at hSw); go_simp)⟩) (by assumption) ?_; (try simp only [Act.put, List.getElem_toArray, List.getElem_cons_zero, List.getElem_cons_succ, List.setIfInBounds_toArray, List.set_cons_zero, List.set_cons_succ])
              refine wpAnyT_take (i := 17) (oi := _) (v := .bool true) rfl (by kernel_rfl) (fun _ _ _ h => h) (Or.inl ⟨by kernel_rfl, by (intro w hSw; (try dsimp only at hSw); go_simp)⟩) (by assumption) ?_; (try simp only [Act.put, List.getElem_toArray, List.getElem_cons_zero, List.getElem_cons_succ, List.setIfInBounds_toArray, List.set_cons_zero, List.set_cons_succ])
              refine wpAnyT_take (i := 18) (oi := _) (v := .bool true) rfl (by kernel_rfl) (fun _ _ _ h => h) (Or.inl ⟨by kernel_rfl, by (intro w hSw; (try dsimp only at hSw); go_simp)⟩) (by assumption) ?_; (try simp only [Act.put, List.getElem_toArray, List.getElem_cons_zero, List.getElem_cons_succ, List.setIfInBounds_toArray, List.set_cons_zero, List.set_cons_succ])
              refine wpAnyT_take (i := 19) (oi := _) (v := .bool true) rfl (by kernel_rfl) (fun _ _ _ h => h) (Or.inl ⟨by kernel_rfl, by (intro w hSw; (try dsimp only at hSw); go_simp)⟩) (by assumption) ?_; (try simp only [Act.put, List.getElem_toArray, List.getElem_cons_zero, List.getElem_cons_succ, List.setIfInBounds_toArray, List.set_cons_zero, List.set_cons_succ])
              refine wpAnyT_done (by kernel_rfl) ?_ _
              have q0 : w4.cell? ⟨g4, 0, none⟩ = some (.int .i64 0) := HF4.out.res.cell 0
              have p0 : w4.frozen? ⟨g4, 0, none⟩ = false := HF4.out.res.frozen 0
              have q1 : w4.cell? ⟨g4, 1, none⟩ = some (.slice none 0 0) := HF4.out.res.cell 1
              have p1 : w4.frozen? ⟨g4, 1, none⟩ = false := HF4.out.res.frozen 1
              have q2 : w4.cell? ⟨g4, 2, none⟩ = some (.int .i64 0) := HF4.out.res.cell 2
              have p2 : w4.frozen? ⟨g4, 2, none⟩ = false := HF4.out.res.frozen 2
              have q3 : w4.cell? ⟨g4, 3, none⟩ = some (.int .i64 0) := HF4.out.res.cell 3
              have p3 : w4.frozen? ⟨g4, 3, none⟩ = false := HF4.out.res.frozen 3
              have q4 : w4.cell? ⟨g4, 4, none⟩ = some (.int .i64 0) := HF4.out.res.cell 4
              have p4 : w4.frozen? ⟨g4, 4, none⟩ = false := HF4.out.res.frozen 4
              have q5 : w4.cell? ⟨g4, 5, none⟩ = some (.slice none 0 0) := HF4.out.res.cell 5
              have p5 : w4.frozen? ⟨g4, 5, none⟩ = false := HF4.out.res.frozen 5
              have q6 : w4.cell? ⟨g4, 6, none⟩ = some (.bool false) := HF4.out.res.cell 6
              have p6 : w4.frozen? ⟨g4, 6, none⟩ = false := HF4.out.res.frozen 6
              go_wp2
              obtain ⟨hw, hA, hK⟩ := HF4.out.fin (.int .i64 9) (.slice none 0 0) (.int .i64 0) (.int .i64 0) (.int .i64 0) (.slice none 0 0) (.bool false)
              unfold set7 at hw hA hK
              refine bodyPost_ret (results_cell_row rfl _ _ g4 43 #[.int .i64 9, .slice none 0 0, .int .i64 0, .int .i64 0, .int .i64 0, .slice none 0 0, .bool false] (0, 0) _ rfl hw Tryz.underlying43 rfl (by kernel_rfl)) rfl ?_
              exact .inl ⟨by rw [HT.out]; decide, by rw [HT.out]; exact ⟨rfl, hA, hK⟩⟩
            · have d2 : decide ((4194304 : Int) < L.all - (o.d.length : Int) + (d.length : Int)) = false := dcf hfull
              have HT : Hid (putE L ⟨kind, key, A, c, d, ver, at_, nn, id⟩ = 0) := Lib.hid (by
                unfold putE; rw [if_neg (by rw [hr]; decide), if_neg HN.out.a, if_neg HN.out.b, if_neg hlong, if_neg (fun h => by
                  rcases h with h | h
                  · rw [hcr] at h; cases h
                  · rw [ho] at h; exact hfull h)])
              refine wpAnyT_take (i := 4) (oi := _) (v := .bool false) rfl (by kernel_rfl) (fun _ _ _ h => h) (Or.inl ⟨by kernel_rfl, by (intro w hSw; (try dsimp only at hSw); go_simp)⟩) (by assumption) ?_; (try simp only [Act.put, List.getElem_toArray, List.getElem_cons_zero, List.getElem_cons_succ, List.setIfInBounds_toArray, List.set_cons_zero, List.set_cons_succ])
              refine wpAnyT_take (i := 5) (oi := _) (v := .pointer (some ⟨L.gs, 0, none⟩)) rfl (by kernel_rfl) (fun _ _ _ h => h) (Or.inl ⟨by kernel_rfl, by (intro w hSw; (try dsimp only at hSw); go_simp)⟩) (by assumption) ?_; (try simp only [Act.put, List.getElem_toArray, List.getElem_cons_zero, List.getElem_cons_succ, List.setIfInBounds_toArray, List.set_cons_zero, List.set_cons_succ])
              refine wpAnyT_take (i := 6) (oi := _) (v := .pointer (some ⟨L.gs, 0, none⟩)) rfl (by kernel_rfl) (fun _ _ _ h => h) (Or.inl ⟨by kernel_rfl, by (intro w hSw; (try dsimp only at hSw); go_simp)⟩) (by assumption) ?_; (try simp only [Act.put, List.getElem_toArray, List.getElem_cons_zero, List.getElem_cons_succ, List.setIfInBounds_toArray, List.set_cons_zero, List.set_cons_succ])
              refine wpAnyT_take (i := 7) (oi := _) (v := .pointer (some ⟨L.gs, 5, none⟩)) rfl (by kernel_rfl) (fun _ _ _ h => h) (Or.inl ⟨by kernel_rfl, by (intro w hSw; (try dsimp only at hSw); go_simp)⟩) (by assumption) ?_; (try simp only [Act.put, List.getElem_toArray, List.getElem_cons_zero, List.getElem_cons_succ, List.setIfInBounds_toArray, List.set_cons_zero, List.set_cons_succ])
              refine wpAnyT_take (i := 8) (oi := _) (v := .int .i64 L.all) rfl (by kernel_rfl) (fun _ _ _ h => h) (Or.inl ⟨by kernel_rfl, by (intro w hSw; (try dsimp only at hSw); go_simp)⟩) (by assumption) ?_; (try simp only [Act.put, List.getElem_toArray, List.getElem_cons_zero, List.getElem_cons_succ, List.setIfInBounds_toArray, List.set_cons_zero, List.set_cons_succ])
              refine wpAnyT_take (i := 9) (oi := _) (v := .pointer (some ⟨g5, 0, none⟩)) rfl (by kernel_rfl) (fun _ _ _ h => h) (Or.inl ⟨by kernel_rfl, by (intro w hSw; (try dsimp only at hSw); go_simp)⟩) (by assumption) ?_; (try simp only [Act.put, List.getElem_toArray, List.getElem_cons_zero, List.getElem_cons_succ, List.setIfInBounds_toArray, List.set_cons_zero, List.set_cons_succ])
              refine wpAnyT_take (i := 10) (oi := _) (v := .slice o.A o.d.length o.c) rfl (by kernel_rfl) (fun _ _ _ h => h) (Or.inl ⟨by kernel_rfl, by (intro w hSw; (try dsimp only at hSw); go_simp)⟩) (by assumption) ?_; (try simp only [Act.put, List.getElem_toArray, List.getElem_cons_zero, List.getElem_cons_succ, List.setIfInBounds_toArray, List.set_cons_zero, List.set_cons_succ])
              refine wpAnyT_take (i := 11) (oi := _) (v := .int .i64 (o.d.length : Int)) rfl (by kernel_rfl) (fun _ _ _ h => h) (Or.inl ⟨by kernel_rfl, by (intro w hSw; (try dsimp only at hSw); go_simp)⟩) (by assumption) ?_; (try simp only [Act.put, List.getElem_toArray, List.getElem_cons_zero, List.getElem_cons_succ, List.setIfInBounds_toArray, List.set_cons_zero, List.set_cons_succ])
              refine wpAnyT_take (i := 12) (oi := _) (v := .int .i64 (L.all - (o.d.length : Int))) rfl (by kernel_rfl) (fun _ _ _ h => h) (Or.inl ⟨by kernel_rfl, by (intro w hSw; (try dsimp only at hSw); go_simp)⟩) (by assumption) ?_; (try simp only [Act.put, List.getElem_toArray, List.getElem_cons_zero, List.getElem_cons_succ, List.setIfInBounds_toArray, List.set_cons_zero, List.set_cons_succ])
              refine wpAnyT_take (i := 13) (oi := _) (v := .pointer (some ⟨g3, 2, none⟩)) rfl (by kernel_rfl) (fun _ _ _ h => h) (Or.inl ⟨by kernel_rfl, by (intro w hSw; (try dsimp only at hSw); go_simp)⟩) (by assumption) ?_; (try simp only [Act.put, List.getElem_toArray, List.getElem_cons_zero, List.getElem_cons_succ, List.setIfInBounds_toArray, List.set_cons_zero, List.set_cons_succ])
              refine wpAnyT_take (i := 14) (oi := _) (v := .slice A d.length c) rfl (by kernel_rfl) (fun _ _ _ h => h) (Or.inl ⟨by kernel_rfl, by (intro w hSw; (try dsimp only at hSw); go_simp)⟩) (by assumption) ?_; (try simp only [Act.put, List.getElem_toArray, List.getElem_cons_zero, List.getElem_cons_succ, List.setIfInBounds_toArray, List.set_cons_zero, List.set_cons_succ])
              refine wpAnyT_take (i := 15) (oi := _) (v := .int .i64 (d.length : Int)) rfl (by kernel_rfl) (fun _ _ _ h => h) (Or.inl ⟨by kernel_rfl, by (intro w hSw; (try dsimp only at hSw); go_simp)⟩) (by assumption) ?_; (try simp only [Act.put, List.getElem_toArray, List.getElem_cons_zero, List.getElem_cons_succ, List.setIfInBounds_toArray, List.set_cons_zero, List.set_cons_succ])
              refine wpAnyT_take (i := 16) (oi := _) (v := .int .i64 (L.all - (o.d.length : Int) + (d.length : Int))) rfl (by kernel_rfl) (fun _ _ _ h => h) (Or.inl ⟨by kernel_rfl, by (intro w hSw; (try dsimp only at hSw); go_simp)⟩) (by assumption) ?_; (try simp only [Act.put, List.getElem_toArray, List.getElem_cons_zero, List.getElem_cons_succ, List.setIfInBounds_toArray, List.set_cons_zero, List.set_cons_succ])
              refine wpAnyT_take (i := 17) (oi := _) (v := .bool false) rfl (by kernel_rfl) (fun _ _ _ h => h) (Or.inl ⟨by kernel_rfl, by (intro w hSw; (try dsimp only at hSw); go_simp)⟩) (by assumption) ?_; (try simp only [Act.put, List.getElem_toArray, List.getElem_cons_zero, List.getElem_cons_succ, List.setIfInBounds_toArray, List.set_cons_zero, List.set_cons_succ])
              refine wpAnyT_take (i := 18) (oi := _) (v := .bool false) rfl (by kernel_rfl) (fun _ _ _ h => h) (Or.inl ⟨by kernel_rfl, by (intro w hSw; (try dsimp only at hSw); go_simp)⟩) (by assumption) ?_; (try simp only [Act.put, List.getElem_toArray, List.getElem_cons_zero, List.getElem_cons_succ, List.setIfInBounds_toArray, List.set_cons_zero, List.set_cons_succ])
              refine wpAnyT_take (i := 19) (oi := _) (v := .bool false) rfl (by kernel_rfl) (fun _ _ _ h => h) (Or.inl ⟨by kernel_rfl, by (intro w hSw; (try dsimp only at hSw); go_simp)⟩) (by assumption) ?_; (try simp only [Act.put, List.getElem_toArray, List.getElem_cons_zero, List.getElem_cons_succ, List.setIfInBounds_toArray, List.set_cons_zero, List.set_cons_succ])
              refine wpAnyT_done (by kernel_rfl) ?_ _
              go_upto_region 11 with fail
              clear hH4
              have Hk11 : Hid (∀ W, Below w4.heap.size w4 W → W.cell? ⟨g3, 1, none⟩ = some (.string key) ∧ W.cell? ⟨g3, 2, none⟩ = some (.slice A d.length c)) := Lib.hid fun W hW => ⟨(HF4.out.below hW).call.cell 1, (HF4.out.below hW).call.cell 2⟩
              refine wp_region_T 7 (fun w' => w'.cell? ⟨g3, 1, none⟩ = some (.string key) ∧ w'.cell? ⟨g3, 2, none⟩ = some (.slice A d.length c)) (by kernel_rfl) (Hk11.out _ (below_drewN_ (Below.refl _ _) 1)) (fun hHeld => ?_)
              refine wpAnyT_take (i := 0) (oi := _) (v := .pointer (some ⟨L.gs, 0, none⟩)) rfl (by kernel_rfl) (fun _ _ _ h => h) (Or.inl ⟨by kernel_rfl, by (intro w hSw; (try dsimp only at hSw); go_simp)⟩) (by assumption) ?_; (try simp only [Act.put, List.getElem_toArray, List.getElem_cons_zero, List.setIfInBounds_toArray, List.set_cons_zero, List.set_cons_succ])
              refine wpAnyT_take (i := 1) (oi := _) (v := .pointer (some ⟨g3, 1, none⟩)) rfl (by kernel_rfl) (fun _ _ _ h => h) (Or.inl ⟨by kernel_rfl, by (intro w hSw; (try dsimp only at hSw); go_simp)⟩) (by assumption) ?_; (try simp only [Act.put, List.getElem_toArray, List.getElem_cons_zero, List.getElem_cons_succ, List.setIfInBounds_toArray, List.set_cons_zero, List.set_cons_succ])
              refine wpAnyT_take (i := 2) (oi := _) (v := .string key) rfl (by kernel_rfl) (fun _ _ _ h => h) (Or.inl ⟨by kernel_rfl, by (intro w hSw; (try dsimp only at hSw); go_simp)⟩) (by assumption) ?_; (try simp only [Act.put, List.getElem_toArray, List.getElem_cons_zero, List.getElem_cons_succ, List.setIfInBounds_toArray, List.set_cons_zero, List.set_cons_succ])
              refine wpAnyT_take (i := 3) (oi := _) (v := .pointer (some ⟨g3, 2, none⟩)) rfl (by kernel_rfl) (fun _ _ _ h => h) (Or.inl ⟨by kernel_rfl, by (intro w hSw; (try dsimp only at hSw); go_simp)⟩) (by assumption) ?_; (try simp only [Act.put, List.getElem_toArray, List.getElem_cons_zero, List.getElem_cons_succ, List.setIfInBounds_toArray, List.set_cons_zero, List.set_cons_succ])
              refine wpAnyT_take (i := 4) (oi := _) (v := .slice A d.length c) rfl (by kernel_rfl) (fun _ _ _ h => h) (Or.inl ⟨by kernel_rfl, by (intro w hSw; (try dsimp only at hSw); go_simp)⟩) (by assumption) ?_; (try simp only [Act.put, List.getElem_toArray, List.getElem_cons_zero, List.getElem_cons_succ, List.setIfInBounds_toArray, List.set_cons_zero, List.set_cons_succ])
              have HFd := Lib.hid (HF4.out.below (below_drewN_ (Below.refl w4.heap.size w4) 1))
              refine wpAnyT_one (i := 5) (by kernel_rfl) rfl (fun K hK => ?_); go_simp
              refine (clone_calls _ HFd.out.dat hdl).mono ?_
              rintro e w5 ⟨A5, c5, rfl, hr5, hb5'⟩
              have hb5 : Below w4.heap.size w4 w5 := (below_drewN_ (Below.refl _ _) 1).trans hb5'
              have hH5 := Hk11.out _ hb5
              have HHI : Hid (High w.heap.size A5) := Lib.hid (High.own hr5 HF4.out.keep.size)
              have HF5 := Lib.hid (HF4.out.below hb5)
              have HD5 : Hid (Dat w5 L.gs A5 c5 d) := Lib.hid (Dat.of_own hr5 (HF4.out.at_.blk.lt))
              have HO5 : Hid (Off g4 A5 d) := Lib.hid (Dat.offg (Dat.of_own hr5 (HF4.out.res.lt)))
              refine hK.out _ _ (fun _ => hH5) ?_
              clear hK K hHeld Hk11 HF4 HFd hb5 hb5' hr5
              refine wpAnyT_one (i := 6) (by kernel_rfl) rfl (fun K hK => ?_); go_simp
              refine (make_calls w5 HF5.out.at_ HI.out hn HD5.out (by omega) hk).mono ?_
              rintro e w6 ⟨rfl, hA6, hK6⟩
              have HF6 := Lib.hid (HF5.out.turn hA6 hK6 (fun _ _ h => h) rfl (by
                refine ⟨fun p hp => ?_, HF5.out.free.u⟩
                rcases mput_mem.1 hp with rfl | ⟨hp, _⟩
                · exact HO5.out
                · exact HF5.out.free.o p hp))
              have hH6 : w6.cell? ⟨g3, 1, none⟩ = some (.string key) ∧ w6.cell? ⟨g3, 2, none⟩ = some (.slice A d.length c) := ⟨HF6.out.call.cell 1, HF6.out.call.cell 2⟩
              refine hK.out _ _ (fun _ => hH6) ?_
              clear hK K hA6 hK6 HF5 HD5 hH5
              have q0 : w6.cell? ⟨g4, 0, none⟩ = some (.int .i64 0) := HF6.out.res.cell 0
              have p0 : w6.frozen? ⟨g4, 0, none⟩ = false := HF6.out.res.frozen 0
              have q1 : w6.cell? ⟨g4, 1, none⟩ = some (.slice none 0 0) := HF6.out.res.cell 1
              have p1 : w6.frozen? ⟨g4, 1, none⟩ = false := HF6.out.res.frozen 1
              have q2 : w6.cell? ⟨g4, 2, none⟩ = some (.int .i64 0) := HF6.out.res.cell 2
              have p2 : w6.frozen? ⟨g4, 2, none⟩ = false := HF6.out.res.frozen 2
              have q3 : w6.cell? ⟨g4, 3, none⟩ = some (.int .i64 0) := HF6.out.res.cell 3
              have p3 : w6.frozen? ⟨g4, 3, none⟩ = false := HF6.out.res.frozen 3
              have q4 : w6.cell? ⟨g4, 4, none⟩ = some (.int .i64 0) := HF6.out.res.cell 4
              have p4 : w6.frozen? ⟨g4, 4, none⟩ = false := HF6.out.res.frozen 4
              have q5 : w6.cell? ⟨g4, 5, none⟩ = some (.slice none 0 0) := HF6.out.res.cell 5
              have p5 : w6.frozen? ⟨g4, 5, none⟩ = false := HF6.out.res.frozen 5
              have q6 : w6.cell? ⟨g4, 6, none⟩ = some (.bool false) := HF6.out.res.cell 6
              have p6 : w6.frozen? ⟨g4, 6, none⟩ = false := HF6.out.res.frozen 6
              refine wpAnyT_one (i := 7) (by kernel_rfl) rfl (fun K hK => ?_); go_simp
              refine hK.out _ _ (fun h => absurd rfl h) (wpAnyT_done (by kernel_rfl) ?_ _)
              clear hK K
              go_wp2
              obtain ⟨hw, hA, hK⟩ := HF6.out.fin (.int .i64 0) (.slice none 0 0) (.int .i64 (L.ver + 1)) (.int .i64 L.now) (.int .i64 0) (.slice none 0 0) (.bool false)
              unfold set7 at hw hA hK
              refine bodyPost_ret (results_cell_row rfl _ _ g4 43 #[.int .i64 0, .slice none 0 0, .int .i64 (L.ver + 1), .int .i64 L.now, .int .i64 0, .slice none 0 0, .bool false] (0, 0) _ rfl hw Tryz.underlying43 rfl (by kernel_rfl)) rfl ?_
              exact .inr ⟨HT.out, A5, c5, HHI.out, rfl, hA, hK⟩
end St
end Go.Proofs.YtlljpjehalodfaaGreat
