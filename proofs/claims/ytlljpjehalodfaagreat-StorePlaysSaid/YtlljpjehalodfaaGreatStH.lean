/- An object got (chapter 14). -/
import Derived.Test.YtlljpjehalodfaaGreatProg
import Derived.Test.YtlljpjehalodfaaGreatStQ
import Derived.Test.YtlljpjehalodfaaGreatStG0
namespace Go.Proofs.YtlljpjehalodfaaGreat
open Go.RowKit
namespace St

def RetGet (w : World) (L : LS) (x : Cl) (e : Ending) (w' : World) : Prop :=
  (L.pure.getE x.pure ≠ 0 ∧ e = .returned (errV (L.pure.getE x.pure)) ∧ At w' L ∧ Keep (fun _ => False) w w') ∨ (L.pure.getE x.pure = 0 ∧ ∃ A c, e = .returned (.agg #[.int .i64 0, .slice A (L.pure.getD x.pure).length c, .int .i64 ((mget L.objs x.key).getD ob0).ver, .int .i64 ((mget L.objs x.key).getD ob0).born, .int .i64 0, .slice none 0 0, .bool false]) ∧ w'.ownsRow w.heap.size 5 1 (.slice A (L.pure.getD x.pure).length c) (L.pure.getD x.pure).length ((L.pure.getD x.pure).map byteV) ∧ At w' L ∧ Keep (fun _ => False) w w')
theorem Keep.own_off {w w' : World} {g base : Nat} {A : Option Addr} {n c : Nat} {e : TypeId} {xs : List Value} (hk : Keep (fun i => i = g) w w') (h : w.ownsRow base e 1 (.slice A n c) n xs) (hg : g < base) : w'.ownsRow base e 1 (.slice A n c) n xs := hk.own h fun i hi e => by omega
set_option maxRecDepth 100000 in
set_option maxHeartbeats 16000000 in
theorem get_calls (w : World) {L : LS} {n : Nat} {x : Cl} (h : At w L) (hi : Inv L n) (hd : Dat w L.gs x.A x.c x.d) (hk : x.key.size ≤ maxLen) :
    Calls Tryz.prog 16 #[.pointer (some ⟨L.gs, 0, none⟩), x.val] w (RetGet w L x) := by
  have HF := Lib.hid (Fr.start (fun _ => False) h hd)
  have HO := Lib.hid hi.od
  have HU := Lib.hid Tryz.underlying48
  have HOK : Hid ((kS).ok x.key) := Lib.hid hk
  have HE := Lib.hid (elimO L.objs x.key)
  have HGE : Hid (L.pure.getE x.pure = if (mget L.objs x.key).isSome = false then 7 else if x.kind = 4 ∧ (x.at_ < 0 ∨ x.n < 0 ∨ (((mget L.objs x.key).getD ob0).d.length : Int) < x.at_ ∨ (((mget L.objs x.key).getD ob0).d.length : Int) - x.at_ < x.n) then 2 else 0) := Lib.hid (by
    unfold PS.getE
    rw [show x.pure.key = x.key from rfl, pure_some, pure_ob]; rfl)
  have HGD : Hid (L.pure.getD x.pure = if x.kind = 4 then midB ((mget L.objs x.key).getD ob0).d x.at_.toNat x.n.toNat else ((mget L.objs x.key).getD ob0).d) := Lib.hid (by
    unfold PS.getD
    rw [show x.pure.key = x.key from rfl, pure_ob]; rfl)
  unfold RetGet
  generalize L.pure.getE x.pure = GE at *
  generalize L.pure.getD x.pure = GD at *
  have hgs := h.blk.lt
  have hol : ((mget L.objs x.key).getD ob0).d.length ≤ 262144 := by
    cases hm : mget L.objs x.key with
    | none => exact Nat.zero_le _
    | some o => exact hi.od _ (mget_mem hm)
  have hod : (mget L.objs x.key).isSome = true → Dat w L.gs ((mget L.objs x.key).getD ob0).A ((mget L.objs x.key).getD ob0).c ((mget L.objs x.key).getD ob0).d := fun hs => by
    cases hm : mget L.objs x.key with
    | none => rw [hm] at hs; cases hs
    | some o => exact h.od _ (mget_mem hm)
  have HOD := Lib.hid hod
  have hsz0 : ∀ v1 v2, w.heap.size ≤ ((w.alloc v1).alloc v2).heap.size ∧ w.heap.size + 1 < ((w.alloc v1).alloc v2).heap.size := fun v1 v2 => by simp; omega
  obtain ⟨kind, key, A, c, d, ver, at_, nn, id⟩ := x
  dsimp only [Cl.val, Cl.cells] at *
  clear h hd hi hod
  go_enter Tryz.func16, Tryz.ntmps16
  go_upto_region 1 with fail
  generalize hq : (mget L.objs key).isSome = q at *
  generalize ho : (mget L.objs key).getD ob0 = o at *
  have HE2 : Hid ((mget L.objs key).elim zO evO = .agg #[.slice o.A o.d.length o.c, .int .i64 o.ver, .int .i64 o.born]) := Lib.hid HE.out
  have HQ := Lib.hid hq
  have HSZ : Hid (w.heap.size ≤ ((w.alloc (.cells #[.int .i64 kind, .string key, .slice A d.length c, .int .i64 ver, .int .i64 at_, .int .i64 nn, .int .i64 id] 34)).alloc (.cells rep0 43)).heap.size ∧ w.heap.size + 1 < ((w.alloc (.cells #[.int .i64 kind, .string key, .slice A d.length c, .int .i64 ver, .int .i64 at_, .int .i64 nn, .int .i64 id] 34)).alloc (.cells rep0 43)).heap.size) := Lib.hid (hsz0 _ _)
  have HBW : Hid (Below w.heap.size w ((w.alloc (.cells #[.int .i64 kind, .string key, .slice A d.length c, .int .i64 ver, .int .i64 at_, .int .i64 nn, .int .i64 id] 34)).alloc (.cells rep0 43))) := Lib.hid (((Below.refl _ _).alloc (Nat.le_refl _) _).alloc (by simp) _)
  have HOD1 : Hid (q = true → Dat ((w.alloc (.cells #[.int .i64 kind, .string key, .slice A d.length c, .int .i64 ver, .int .i64 at_, .int .i64 nn, .int .i64 id] 34)).alloc (.cells rep0 43)) L.gs o.A o.c o.d) := Lib.hid fun hs => (HOD.out hs).below HBW.out
  unfold rep0 at HF HSZ HOD1
  clear HBW hsz0 HOD
  generalize (w.alloc (.cells #[.int .i64 kind, .string key, .slice A d.length c, .int .i64 ver, .int .i64 at_, .int .i64 nn, .int .i64 id] 34)).alloc (.cells #[.int .i64 0, .slice none 0 0, .int .i64 0, .int .i64 0, .int .i64 0, .slice none 0 0, .bool false] 43) = w1 at *
  have HLE1 : Hid (w.heap.size ≤ w1.heap.size) := Lib.hid HSZ.out.1
  have HLT1 : Hid (w.heap.size + 1 < w1.heap.size) := Lib.hid HSZ.out.2
  generalize hg4 : w.heap.size + 1 = g4 at *
  generalize hg3 : w.heap.size = g3 at *
  have Hkeep : Hid (∀ W, Below w1.heap.size w1 W → W.cell? ⟨L.gs, 0, none⟩ = some (.map (some L.bo)) ∧ W.cell? ⟨g3, 1, none⟩ = some (.string key) ∧ (Instr.lookup 48 (.map (some L.bo)) (.string key) true).run Tryz.prog W = .ok (.tuple #[.agg #[.slice o.A o.d.length o.c, .int .i64 o.ver, .int .i64 o.born], .bool q]) W) := Lib.hid fun W hW => ⟨(HF.out.below hW).at_.c_bo, (HF.out.below hW).call.cell 1, (HF.out.below hW).at_.mo.ask_at HU.out (zeroO _) HOK.out HE2.out HQ.out⟩
  clear hq HE
  go_region_held3 (fun w' => w'.cell? ⟨L.gs, 0, none⟩ = some (.map (some L.bo)) ∧ w'.cell? ⟨g3, 1, none⟩ = some (.string key) ∧ (Instr.lookup 48 (.map (some L.bo)) (.string key) true).run Tryz.prog w' = .ok (.tuple #[.agg #[.slice o.A o.d.length o.c, .int .i64 o.ver, .int .i64 o.born], .bool q]) w') (exact Hkeep.out _ (by first | exact below_drewN_ (Below.refl _ _) 1 | exact ((below_drewN_ (Below.refl _ _) 1).alloc (Nat.le_refl _) _) | exact (((below_drewN_ (Below.refl _ _) 1).alloc (Nat.le_refl _) _).setCell (Nat.le_refl _) _))) (fail)
  all_goals
    have hb2 : Below w1.heap.size w1 (w1.alloc (.cells #[.slice o.A o.d.length o.c, .int .i64 o.ver, .int .i64 o.born] 53)).drew := below_drewN_ ((Below.refl _ _).alloc (Nat.le_refl _) _) 1
    have HF2 := Lib.hid (HF.out.below hb2)
    have HB2 : Hid (Blk (w1.alloc (.cells #[.slice o.A o.d.length o.c, .int .i64 o.ver, .int .i64 o.born] 53)).drew w1.heap.size 53 #[.slice o.A o.d.length o.c, .int .i64 o.ver, .int .i64 o.born]) := Lib.hid (Blk.new _ _ _)
    have HOD2 : Hid (q = true → Dat (w1.alloc (.cells #[.slice o.A o.d.length o.c, .int .i64 o.ver, .int .i64 o.born] 53)).drew L.gs o.A o.c o.d) := Lib.hid fun hs => (HOD1.out hs).below hb2
    clear hb2 HF Hkeep HOD1
    have HLE : Hid (g3 ≤ (w1.alloc (.cells #[.slice o.A o.d.length o.c, .int .i64 o.ver, .int .i64 o.born] 53)).drew.heap.size) := Lib.hid (by have := HLE1.out; simp; omega)
    have HLT : Hid (g4 < (w1.alloc (.cells #[.slice o.A o.d.length o.c, .int .i64 o.ver, .int .i64 o.born] 53)).drew.heap.size) := Lib.hid (by have := HLT1.out; simp; omega)
    generalize (w1.alloc (.cells #[.slice o.A o.d.length o.c, .int .i64 o.ver, .int .i64 o.born] 53)).drew = w2 at *
    generalize w1.heap.size = g5 at *
    have k0 : w2.cell? ⟨g3, 0, none⟩ = some (.int .i64 kind) := HF2.out.call.cell 0
    have k4 : w2.cell? ⟨g3, 4, none⟩ = some (.int .i64 at_) := HF2.out.call.cell 4
    have k5 : w2.cell? ⟨g3, 5, none⟩ = some (.int .i64 nn) := HF2.out.call.cell 5
    have o0 : w2.cell? ⟨g5, 0, none⟩ = some (.slice o.A o.d.length o.c) := HB2.out.cell 0
    have q0 : w2.cell? ⟨g4, 0, none⟩ = some (.int .i64 0) := HF2.out.res.cell 0
    have p0 : w2.frozen? ⟨g4, 0, none⟩ = false := HF2.out.res.frozen 0
    have q1 : w2.cell? ⟨g4, 1, none⟩ = some (.slice none 0 0) := HF2.out.res.cell 1
    have p1 : w2.frozen? ⟨g4, 1, none⟩ = false := HF2.out.res.frozen 1
    have q2 : w2.cell? ⟨g4, 2, none⟩ = some (.int .i64 0) := HF2.out.res.cell 2
    have p2 : w2.frozen? ⟨g4, 2, none⟩ = false := HF2.out.res.frozen 2
    have q3 : w2.cell? ⟨g4, 3, none⟩ = some (.int .i64 0) := HF2.out.res.cell 3
    have p3 : w2.frozen? ⟨g4, 3, none⟩ = false := HF2.out.res.frozen 3
    have q4 : w2.cell? ⟨g4, 4, none⟩ = some (.int .i64 0) := HF2.out.res.cell 4
    have p4 : w2.frozen? ⟨g4, 4, none⟩ = false := HF2.out.res.frozen 4
    have q5 : w2.cell? ⟨g4, 5, none⟩ = some (.slice none 0 0) := HF2.out.res.cell 5
    have p5 : w2.frozen? ⟨g4, 5, none⟩ = false := HF2.out.res.frozen 5
    have q6 : w2.cell? ⟨g4, 6, none⟩ = some (.bool false) := HF2.out.res.cell 6
    have p6 : w2.frozen? ⟨g4, 6, none⟩ = false := HF2.out.res.frozen 6
    have Hk9 : Hid (∀ W, Below w2.heap.size w2 W → W.cell? ⟨g5, 1, none⟩ = some (.int .i64 o.ver) ∧ W.cell? ⟨g5, 2, none⟩ = some (.int .i64 o.born)) := Lib.hid fun W hW => ⟨(HB2.out.below hW HB2.out.lt).cell 1, (HB2.out.below hW HB2.out.lt).cell 2⟩
    cases q with
    | false =>
      have HT : Hid (GE = 7) := Lib.hid (by rw [HGE.out, if_pos rfl])
      go_wp2
      obtain ⟨hw, hA, hK⟩ := HF2.out.fin (.int .i64 7) (.slice none 0 0) (.int .i64 0) (.int .i64 0) (.int .i64 0) (.slice none 0 0) (.bool false)
      unfold set7 at hw hA hK
      refine bodyPost_ret (results_cell_row rfl _ _ g4 43 #[.int .i64 7, .slice none 0 0, .int .i64 0, .int .i64 0, .int .i64 0, .slice none 0 0, .bool false] (0, 0) _ rfl hw Tryz.underlying43 rfl (by kernel_rfl)) rfl ?_
      exact .inl ⟨by rw [HT.out]; decide, by rw [HT.out]; exact ⟨rfl, hA, hK⟩⟩
    | true =>
      by_cases hkind : kind = 4
      · have b0 := eqt hkind
        subst hkind
        by_cases h1 : at_ < 0
        · have HT : Hid (GE = 2) := Lib.hid (by rw [HGE.out, if_neg (by decide), if_pos ⟨rfl, .inl h1⟩])
          have d1 := dct h1
          go_wp2
          obtain ⟨hw, hA, hK⟩ := HF2.out.fin (.int .i64 2) (.slice none 0 0) (.int .i64 0) (.int .i64 0) (.int .i64 0) (.slice none 0 0) (.bool false)
          unfold set7 at hw hA hK
          refine bodyPost_ret (results_cell_row rfl _ _ g4 43 #[.int .i64 2, .slice none 0 0, .int .i64 0, .int .i64 0, .int .i64 0, .slice none 0 0, .bool false] (0, 0) _ rfl hw Tryz.underlying43 rfl (by kernel_rfl)) rfl ?_
          exact .inl ⟨by rw [HT.out]; decide, by rw [HT.out]; exact ⟨rfl, hA, hK⟩⟩
        · have d1 := dcf h1
          by_cases h2 : nn < 0
          · have HT : Hid (GE = 2) := Lib.hid (by rw [HGE.out, if_neg (by decide), if_pos ⟨rfl, .inr (.inl h2)⟩])
            have d2 := dct h2
            go_wp2
            obtain ⟨hw, hA, hK⟩ := HF2.out.fin (.int .i64 2) (.slice none 0 0) (.int .i64 0) (.int .i64 0) (.int .i64 0) (.slice none 0 0) (.bool false)
            unfold set7 at hw hA hK
            refine bodyPost_ret (results_cell_row rfl _ _ g4 43 #[.int .i64 2, .slice none 0 0, .int .i64 0, .int .i64 0, .int .i64 0, .slice none 0 0, .bool false] (0, 0) _ rfl hw Tryz.underlying43 rfl (by kernel_rfl)) rfl ?_
            exact .inl ⟨by rw [HT.out]; decide, by rw [HT.out]; exact ⟨rfl, hA, hK⟩⟩
          · have d2 := dcf h2
            by_cases h3 : (o.d.length : Int) < at_
            · have HT : Hid (GE = 2) := Lib.hid (by rw [HGE.out, if_neg (by decide), if_pos ⟨rfl, .inr (.inr (.inl h3))⟩])
              have d3 := dct h3
              go_wp2
              obtain ⟨hw, hA, hK⟩ := HF2.out.fin (.int .i64 2) (.slice none 0 0) (.int .i64 0) (.int .i64 0) (.int .i64 0) (.slice none 0 0) (.bool false)
              unfold set7 at hw hA hK
              refine bodyPost_ret (results_cell_row rfl _ _ g4 43 #[.int .i64 2, .slice none 0 0, .int .i64 0, .int .i64 0, .int .i64 0, .slice none 0 0, .bool false] (0, 0) _ rfl hw Tryz.underlying43 rfl (by kernel_rfl)) rfl ?_
              exact .inl ⟨by rw [HT.out]; decide, by rw [HT.out]; exact ⟨rfl, hA, hK⟩⟩
            · have d3 := dcf h3
              have r1 : IntKind.i64.wrap ((o.d.length : Int) - at_) = (o.d.length : Int) - at_ := by rw [IntKind.wrap_i64]; omega
              by_cases h4 : (o.d.length : Int) - at_ < nn
              · have HT : Hid (GE = 2) := Lib.hid (by rw [HGE.out, if_neg (by decide), if_pos ⟨rfl, .inr (.inr (.inr h4))⟩])
                have d4 := dct h4
                go_wp2
                obtain ⟨hw, hA, hK⟩ := HF2.out.fin (.int .i64 2) (.slice none 0 0) (.int .i64 0) (.int .i64 0) (.int .i64 0) (.slice none 0 0) (.bool false)
                unfold set7 at hw hA hK
                refine bodyPost_ret (results_cell_row rfl _ _ g4 43 #[.int .i64 2, .slice none 0 0, .int .i64 0, .int .i64 0, .int .i64 0, .slice none 0 0, .bool false] (0, 0) _ rfl hw Tryz.underlying43 rfl (by kernel_rfl)) rfl ?_
                exact .inl ⟨by rw [HT.out]; decide, by rw [HT.out]; exact ⟨rfl, hA, hK⟩⟩
              · have d4 := dcf h4
                have HT : Hid (GE = 0) := Lib.hid (by rw [HGE.out, if_neg (by decide), if_neg (by rintro ⟨-, h | h | h | h⟩ <;> contradiction)])
                have HD : Hid (GD = midB o.d at_.toNat nn.toNat) := Lib.hid (by rw [HGD.out, if_pos rfl])
                have r2 : IntKind.i64.wrap (at_ + nn) = at_ + nn := by rw [IntKind.wrap_i64]; omega
                have hat : at_.toNat + nn.toNat ≤ o.d.length := by omega
                have hlen := midB_len hat
                have hdo := HOD2.out rfl
                have hsl : (Instr.slice 32 (.slice o.A o.d.length o.c) (some (.int .i64 at_)) (some (.int .i64 (at_ + nn))) none).run Tryz.prog w2 = .ok (.slice (cutB o.A o.c at_.toNat) nn.toNat (o.c - at_.toNat)) w2 := sliceD w2 o.A o.d.length o.c (by omega) (by omega) (by have := hdo.len; omega)
                have HC9 : Hid (∀ W, Below w2.heap.size w2 W → Calls Tryz.prog 41 #[.slice (cutB o.A o.c at_.toNat) nn.toNat (o.c - at_.toNat)] W fun e w' => ∃ A' c', e = .returned (.slice A' nn.toNat c') ∧ w'.ownsRow W.heap.size 5 1 (.slice A' nn.toNat c') nn.toNat ((midB o.d at_.toNat nn.toNat).map byteV) ∧ Below W.heap.size W w') := Lib.hid fun W hW => by
                  have := clone_calls W ((hdo.cut hat).below hW) (by rw [hlen]; omega)
                  rw [hlen] at this
                  exact this
                have HDL : Hid (GD.length = nn.toNat) := Lib.hid (by rw [HD.out, hlen])
                clear hdo hlen hat
                go_upto_region 9 with fail
                clear k0 k4 k5 o0 q0 q1 q2 q3 q4 q5 q6 p0 p1 p2 p3 p4 p5 p6
                refine wp_region_T 7 (fun w' => w'.cell? ⟨g5, 1, none⟩ = some (.int .i64 o.ver) ∧ w'.cell? ⟨g5, 2, none⟩ = some (.int .i64 o.born)) (by kernel_rfl) (Hk9.out _ (below_drewN_ (Below.refl _ _) 1)) (fun hHeld => ?_)
                refine wpAnyT_take (i := 0) (oi := _) (v := ?_) rfl (by kernel_rfl) (fun _ _ _ h => h) (Or.inl ⟨by kernel_rfl, ?_⟩) (by assumption) ?_; rotate_left; (focus (intro w hSw; (try dsimp only at hSw); go_simp; (try with_reducible rfl))); (try simp only [Act.put, List.getElem_toArray, List.getElem_cons_zero, List.setIfInBounds_toArray, List.set_cons_zero, List.set_cons_succ])
                refine wpAnyT_take (i := 2) (oi := _) (v := ?_) rfl (by kernel_rfl) (fun _ _ _ h => h) (Or.inl ⟨by kernel_rfl, ?_⟩) (by assumption) ?_; rotate_left; (focus (intro w hSw; (try dsimp only at hSw); go_simp; (try with_reducible rfl))); (try simp only [Act.put, List.getElem_toArray, List.getElem_cons_zero, List.getElem_cons_succ, List.setIfInBounds_toArray, List.set_cons_zero, List.set_cons_succ])
                refine wpAnyT_take (i := 3) (oi := _) (v := ?_) rfl (by kernel_rfl) (fun _ _ _ h => h) (Or.inl ⟨by kernel_rfl, ?_⟩) (by assumption) ?_; rotate_left; (focus (intro w hSw; (try dsimp only at hSw); go_simp; (try with_reducible rfl))); (try simp only [Act.put, List.getElem_toArray, List.getElem_cons_zero, List.getElem_cons_succ, List.setIfInBounds_toArray, List.set_cons_zero, List.set_cons_succ])
                refine wpAnyT_take (i := 4) (oi := _) (v := ?_) rfl (by kernel_rfl) (fun _ _ _ h => h) (Or.inl ⟨by kernel_rfl, ?_⟩) (by assumption) ?_; rotate_left; (focus (intro w hSw; (try dsimp only at hSw); go_simp; (try with_reducible rfl))); (try simp only [Act.put, List.getElem_toArray, List.getElem_cons_zero, List.getElem_cons_succ, List.setIfInBounds_toArray, List.set_cons_zero, List.set_cons_succ])
                refine wpAnyT_take (i := 5) (oi := _) (v := ?_) rfl (by kernel_rfl) (fun _ _ _ h => h) (Or.inl ⟨by kernel_rfl, ?_⟩) (by assumption) ?_; rotate_left; (focus (intro w hSw; (try dsimp only at hSw); go_simp; (try with_reducible rfl))); (try simp only [Act.put, List.getElem_toArray, List.getElem_cons_zero, List.getElem_cons_succ, List.setIfInBounds_toArray, List.set_cons_zero, List.set_cons_succ])
                refine wpAnyT_one (i := 1) (by kernel_rfl) rfl (fun K hK => ?_); go_simp
                refine (HC9.out _ (below_drewN_ (Below.refl _ _) 1)).mono ?_
                rintro e w3 ⟨A3, c3, rfl, hr3, hb3'⟩
                have hb3 : Below w2.heap.size w2 w3 := (below_drewN_ (Below.refl _ _) 1).trans hb3'
                have hH3 := Hk9.out _ hb3
                have HF3 := Lib.hid (HF2.out.below hb3)
                have HR3 := Lib.hid (own_base hr3 (by simp : w2.heap.size ≤ _))
                refine hK.out _ _ (fun _ => hH3) ?_
                clear hK K hHeld Hk9 HC9 HF2 hb3 hb3' hr3
                refine wpAnyT_take (i := 6) (oi := _) (v := ?_) rfl (by kernel_rfl) (fun _ _ _ h => h) (Or.inl ⟨by kernel_rfl, ?_⟩) (by assumption) ?_; rotate_left; (focus (intro w hSw; (try dsimp only at hSw); go_simp; (try with_reducible rfl))); (try simp only [Act.put, List.getElem_toArray, List.getElem_cons_zero, List.getElem_cons_succ, List.setIfInBounds_toArray, List.set_cons_zero, List.set_cons_succ])
                have q0 : w3.cell? ⟨g4, 0, none⟩ = some (.int .i64 0) := HF3.out.res.cell 0
                have p0 : w3.frozen? ⟨g4, 0, none⟩ = false := HF3.out.res.frozen 0
                have q1 : w3.cell? ⟨g4, 1, none⟩ = some (.slice none 0 0) := HF3.out.res.cell 1
                have p1 : w3.frozen? ⟨g4, 1, none⟩ = false := HF3.out.res.frozen 1
                have q2 : w3.cell? ⟨g4, 2, none⟩ = some (.int .i64 0) := HF3.out.res.cell 2
                have p2 : w3.frozen? ⟨g4, 2, none⟩ = false := HF3.out.res.frozen 2
                have q3 : w3.cell? ⟨g4, 3, none⟩ = some (.int .i64 0) := HF3.out.res.cell 3
                have p3 : w3.frozen? ⟨g4, 3, none⟩ = false := HF3.out.res.frozen 3
                have q4 : w3.cell? ⟨g4, 4, none⟩ = some (.int .i64 0) := HF3.out.res.cell 4
                have p4 : w3.frozen? ⟨g4, 4, none⟩ = false := HF3.out.res.frozen 4
                have q5 : w3.cell? ⟨g4, 5, none⟩ = some (.slice none 0 0) := HF3.out.res.cell 5
                have p5 : w3.frozen? ⟨g4, 5, none⟩ = false := HF3.out.res.frozen 5
                have q6 : w3.cell? ⟨g4, 6, none⟩ = some (.bool false) := HF3.out.res.cell 6
                have p6 : w3.frozen? ⟨g4, 6, none⟩ = false := HF3.out.res.frozen 6
                refine wpAnyT_one (i := 7) (by kernel_rfl) rfl (fun K hK => ?_); go_simp
                refine hK.out _ _ (fun h => absurd rfl h) (wpAnyT_done (by kernel_rfl) ?_ _)
                clear hK K
                go_wp2
                obtain ⟨hw, hA, hK⟩ := HF3.out.fin (.int .i64 0) (.slice A3 nn.toNat c3) (.int .i64 o.ver) (.int .i64 o.born) (.int .i64 0) (.slice none 0 0) (.bool false)
                unfold set7 at hw hA hK
                refine bodyPost_ret (results_cell_row rfl _ _ g4 43 #[.int .i64 0, .slice A3 nn.toNat c3, .int .i64 o.ver, .int .i64 o.born, .int .i64 0, .slice none 0 0, .bool false] (0, 0) _ rfl hw Tryz.underlying43 rfl (by kernel_rfl)) rfl ?_
                refine .inr ⟨HT.out, A3, c3, ?_, ?_, hA, hK⟩
                · rw [HDL.out]
                · rw [HDL.out, HD.out]
                  exact own_base (set7_keep.own_off HR3.out HLT.out) HLE.out
      · have b0 := eqf hkind
        have HT : Hid (GE = 0) := Lib.hid (by rw [HGE.out, if_neg (by decide), if_neg (fun h => hkind h.1)])
        have HD : Hid (GD = o.d) := Lib.hid (by rw [HGD.out, if_neg hkind])
        have HC9 : Hid (∀ W, Below w2.heap.size w2 W → Calls Tryz.prog 41 #[.slice o.A o.d.length o.c] W fun e w' => ∃ A' c', e = .returned (.slice A' o.d.length c') ∧ w'.ownsRow W.heap.size 5 1 (.slice A' o.d.length c') o.d.length (o.d.map byteV) ∧ Below W.heap.size W w') := Lib.hid fun W hW => clone_calls W ((HOD2.out rfl).below hW) (by omega)
        have HDL : Hid (GD.length = o.d.length) := Lib.hid (by rw [HD.out])
        go_upto_region 9 with fail
        clear k0 k4 k5 o0 q0 q1 q2 q3 q4 q5 q6 p0 p1 p2 p3 p4 p5 p6
        refine wp_region_T 7 (fun w' => w'.cell? ⟨g5, 1, none⟩ = some (.int .i64 o.ver) ∧ w'.cell? ⟨g5, 2, none⟩ = some (.int .i64 o.born)) (by kernel_rfl) (Hk9.out _ (below_drewN_ (Below.refl _ _) 1)) (fun hHeld => ?_)
        refine wpAnyT_take (i := 0) (oi := _) (v := ?_) rfl (by kernel_rfl) (fun _ _ _ h => h) (Or.inl ⟨by kernel_rfl, ?_⟩) (by assumption) ?_; rotate_left; (focus (intro w hSw; (try dsimp only at hSw); go_simp; (try with_reducible rfl))); (try simp only [Act.put, List.getElem_toArray, List.getElem_cons_zero, List.setIfInBounds_toArray, List.set_cons_zero, List.set_cons_succ])
        refine wpAnyT_take (i := 2) (oi := _) (v := ?_) rfl (by kernel_rfl) (fun _ _ _ h => h) (Or.inl ⟨by kernel_rfl, ?_⟩) (by assumption) ?_; rotate_left; (focus (intro w hSw; (try dsimp only at hSw); go_simp; (try with_reducible rfl))); (try simp only [Act.put, List.getElem_toArray, List.getElem_cons_zero, List.getElem_cons_succ, List.setIfInBounds_toArray, List.set_cons_zero, List.set_cons_succ])
        refine wpAnyT_take (i := 3) (oi := _) (v := ?_) rfl (by kernel_rfl) (fun _ _ _ h => h) (Or.inl ⟨by kernel_rfl, ?_⟩) (by assumption) ?_; rotate_left; (focus (intro w hSw; (try dsimp only at hSw); go_simp; (try with_reducible rfl))); (try simp only [Act.put, List.getElem_toArray, List.getElem_cons_zero, List.getElem_cons_succ, List.setIfInBounds_toArray, List.set_cons_zero, List.set_cons_succ])
        refine wpAnyT_take (i := 4) (oi := _) (v := ?_) rfl (by kernel_rfl) (fun _ _ _ h => h) (Or.inl ⟨by kernel_rfl, ?_⟩) (by assumption) ?_; rotate_left; (focus (intro w hSw; (try dsimp only at hSw); go_simp; (try with_reducible rfl))); (try simp only [Act.put, List.getElem_toArray, List.getElem_cons_zero, List.getElem_cons_succ, List.setIfInBounds_toArray, List.set_cons_zero, List.set_cons_succ])
        refine wpAnyT_take (i := 5) (oi := _) (v := ?_) rfl (by kernel_rfl) (fun _ _ _ h => h) (Or.inl ⟨by kernel_rfl, ?_⟩) (by assumption) ?_; rotate_left; (focus (intro w hSw; (try dsimp only at hSw); go_simp; (try with_reducible rfl))); (try simp only [Act.put, List.getElem_toArray, List.getElem_cons_zero, List.getElem_cons_succ, List.setIfInBounds_toArray, List.set_cons_zero, List.set_cons_succ])
        refine wpAnyT_one (i := 1) (by kernel_rfl) rfl (fun K hK => ?_); go_simp
        refine (HC9.out _ (below_drewN_ (Below.refl _ _) 1)).mono ?_
        rintro e w3 ⟨A3, c3, rfl, hr3, hb3'⟩
        have hb3 : Below w2.heap.size w2 w3 := (below_drewN_ (Below.refl _ _) 1).trans hb3'
        have hH3 := Hk9.out _ hb3
        have HF3 := Lib.hid (HF2.out.below hb3)
        have HR3 := Lib.hid (own_base hr3 (by simp : w2.heap.size ≤ _))
        refine hK.out _ _ (fun _ => hH3) ?_
        clear hK K hHeld Hk9 HC9 HF2 hb3 hb3' hr3
        refine wpAnyT_take (i := 6) (oi := _) (v := ?_) rfl (by kernel_rfl) (fun _ _ _ h => h) (Or.inl ⟨by kernel_rfl, ?_⟩) (by assumption) ?_; rotate_left; (focus (intro w hSw; (try dsimp only at hSw); go_simp; (try with_reducible rfl))); (try simp only [Act.put, List.getElem_toArray, List.getElem_cons_zero, List.getElem_cons_succ, List.setIfInBounds_toArray, List.set_cons_zero, List.set_cons_succ])
        have q0 : w3.cell? ⟨g4, 0, none⟩ = some (.int .i64 0) := HF3.out.res.cell 0
        have p0 : w3.frozen? ⟨g4, 0, none⟩ = false := HF3.out.res.frozen 0
        have q1 : w3.cell? ⟨g4, 1, none⟩ = some (.slice none 0 0) := HF3.out.res.cell 1
        have p1 : w3.frozen? ⟨g4, 1, none⟩ = false := HF3.out.res.frozen 1
        have q2 : w3.cell? ⟨g4, 2, none⟩ = some (.int .i64 0) := HF3.out.res.cell 2
        have p2 : w3.frozen? ⟨g4, 2, none⟩ = false := HF3.out.res.frozen 2
        have q3 : w3.cell? ⟨g4, 3, none⟩ = some (.int .i64 0) := HF3.out.res.cell 3
        have p3 : w3.frozen? ⟨g4, 3, none⟩ = false := HF3.out.res.frozen 3
        have q4 : w3.cell? ⟨g4, 4, none⟩ = some (.int .i64 0) := HF3.out.res.cell 4
        have p4 : w3.frozen? ⟨g4, 4, none⟩ = false := HF3.out.res.frozen 4
        have q5 : w3.cell? ⟨g4, 5, none⟩ = some (.slice none 0 0) := HF3.out.res.cell 5
        have p5 : w3.frozen? ⟨g4, 5, none⟩ = false := HF3.out.res.frozen 5
        have q6 : w3.cell? ⟨g4, 6, none⟩ = some (.bool false) := HF3.out.res.cell 6
        have p6 : w3.frozen? ⟨g4, 6, none⟩ = false := HF3.out.res.frozen 6
        refine wpAnyT_one (i := 7) (by kernel_rfl) rfl (fun K hK => ?_); go_simp
        refine hK.out _ _ (fun h => absurd rfl h) (wpAnyT_done (by kernel_rfl) ?_ _)
        clear hK K
        go_wp2
        obtain ⟨hw, hA, hK⟩ := HF3.out.fin (.int .i64 0) (.slice A3 o.d.length c3) (.int .i64 o.ver) (.int .i64 o.born) (.int .i64 0) (.slice none 0 0) (.bool false)
        unfold set7 at hw hA hK
        refine bodyPost_ret (results_cell_row rfl _ _ g4 43 #[.int .i64 0, .slice A3 o.d.length c3, .int .i64 o.ver, .int .i64 o.born, .int .i64 0, .slice none 0 0, .bool false] (0, 0) _ rfl hw Tryz.underlying43 rfl (by kernel_rfl)) rfl ?_
        refine .inr ⟨HT.out, A3, c3, ?_, ?_, hA, hK⟩
        · rw [HDL.out]
        · rw [HDL.out, HD.out]
          exact own_base (set7_keep.own_off HR3.out HLT.out) HLE.out
end St
end Go.Proofs.YtlljpjehalodfaaGreat
