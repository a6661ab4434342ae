/- symMergeCmpFunc at any lists; insertionSortCmpFunc. -/
import Derived.Test.YtophfgijfmdbcaaProg
import Derived.Test.YtophfgijfmdbcaaSrJ
namespace Go.Proofs.Ytophfgijfmdbcaa.Sr
open Go.Proofs.Ytophfgijfmdbcaa.So
open Go.RowKit

theorem run_gtr {P : Program} {o : Oper} {b : Act} (W : World) (x y : Operand) {t t' : TypeId} (ho : o.op = .binOp .gtr t x y t') {u v : Int} (hx : b.eval x = .int .i64 u) (hy : b.eval y = .int .i64 v) (h : v < u) : (execOp b.eval o).run P W = .ok (.value (.bool true)) W := by
  unfold execOp
  simp only [ho, hx, hy]
  simp [go_sem, h]
theorem run_pick {P : Program} {o : Oper} {b : Act} (W : World) (x y : Operand) (ho : o.op = .pick x y (.const (.bool false))) {v : Value} (hx : b.eval x = .bool true) (hy : b.eval y = v) : (execOp b.eval o).run P W = .ok (.value v) W := by
  unfold execOp
  simp only [ho, hx, hy]
  simp [go_sem]
variable {α : Type} [Inhabited α]

theorem sym_calls (c : α → Nat → Value) (h1 : ∀ x j, (c x j).oneCell' = true) (cf : α → α → Int) (gc : FuncId) (hcmp : CmpE c gc cf) (hent : ∀ args W, (callFunc gc args).run Try.prog W = .ok (.enter gc args) W) (hO : Swo (ltc cf)) (N : Nat) (base g cap : Nat) (hd : N ≤ 4398046511104) : ∀ K, SymAt c cf gc N base g cap K
  | 0 => fun w A X Y B a m b hK hX hY => absurd hK (by omega)
  | K + 1 => fun w A X Y B a m b hK hX hY h hN ha hm hb hsX hsY => by
    rcases Nat.lt_or_ge X.length 2 with h2 | h2
    · rcases X with _ | ⟨x, _ | ⟨y, r⟩⟩
      · simp at hX
      · have := symA c h1 cf gc hcmp hent hO N base g cap a b w A Y B x h hN ha (by rw [hb, hm]; rfl) hsY hd
        rw [show ((m : Nat) : Int) = (a : Int) + 1 by rw [hm]; simp]
        exact this
      · exfalso; simp only [List.length_cons] at h2; omega
    · rcases Nat.lt_or_ge Y.length 2 with h3 | h3
      · rcases Y with _ | ⟨y, _ | ⟨z, r⟩⟩
        · simp at hY
        · have := symB c h1 cf gc hcmp hent hO N base g cap a m w A X B y h hN ha hm h2 hsX hd
          rw [show ((b : Nat) : Int) = (m : Int) + 1 by rw [hb]; simp]
          exact this
        · exfalso; simp only [List.length_cons] at h3; omega
      · exact symC c h1 cf gc hcmp hent hO N base g cap K hd (sym_calls c h1 cf gc hcmp hent hO N base g cap hd K) w A X Y B a m b hK h2 h3 h hN ha hm hb hsX hsY

set_option maxRecDepth 100000 in
set_option maxHeartbeats 6400000 in
theorem insert_calls (c : α → Nat → Value) (h1 : ∀ x j, (c x j).oneCell' = true) (cf : α → α → Int) (gc : FuncId) (hcmp : CmpE c gc cf) (hent : ∀ args W, (callFunc gc args).run Try.prog W = .ok (.enter gc args) W) (hO : Swo (ltc cf))
    (N : Nat) (base g cap a b : Nat) (w : World) (A X B : List α) (h : RowE c w base g cap (A ++ (X ++ B))) (hN : (A ++ (X ++ B)).length = N) (ha : a = A.length) (hb : b = a + X.length) (hd : N ≤ 4398046511104) :
    Calls Try.prog 60 #[.slice (some ⟨g, 0, none⟩) N cap, .int .i64 (a : Int), .int .i64 (b : Int), .func (.func gc) #[] #[]] w fun e w' =>
      e = .returned (.tuple #[]) ∧ RowE c w' base g cap (A ++ (isort (ltc cf) X ++ B)) ∧ Only g w w' := by
  have H1 := Lib.hid h1
  have Hcmp : Hid (CmpE c gc cf) := Lib.hid hcmp
  have Hent := Lib.hid hent
  have HN := Lib.hid hN
  have HA := Lib.hid ha
  have HB := Lib.hid hb
  have hbN : b ≤ N := by rw [← hN, hb, ha]; simp only [List.length_append]; omega
  have hab : a ≤ b := by omega
  have HR0 : Hid (RowE c w base g cap (A ++ (isort (ltc cf) (X.take 1) ++ (X.drop 1 ++ B)))) := Lib.hid (by
    have e : isort (ltc cf) (X.take 1) = X.take 1 := by
      rcases X with _ | ⟨x, r⟩
      · rfl
      · exact isort_one x
    rw [e, ← List.append_assoc (X.take 1), List.take_append_drop]
    exact h)
  clear h1 hcmp hent h hN ha hb
  go_enter Try.func60, Try.ntmps60
  go_wp2
  go_loopw [8] (fun vi wr => ∃ i : Nat, vi = .int .i64 (i : Int) ∧ a + 1 ≤ i ∧ i ≤ b + 1 ∧ Hid (RowE c wr base g cap (A ++ (isort (ltc cf) (X.take (i - a)) ++ (X.drop (i - a) ++ B)))) ∧ Only g w wr) (fun vi _ => b + 1 - (intOf vi).toNat)
  case atStart => exact ⟨a + 1, by go_num, Nat.le_refl _, by omega, Lib.hid (by rw [show a + 1 - a = 1 by omega]; exact HR0.out), Only.refl _ _⟩
  case round =>
    obtain ⟨i, rfl, hai, hib, HR1, honly⟩ := hrel
    by_cases hlt : i < b
    · obtain ⟨x, hx⟩ : ∃ x, x = gt X (i - a) := ⟨_, rfl⟩
      have hiX : i - a < X.length := by have := HB.out; omega
      have hT : isort (ltc cf) (X.take (i + 1 - a)) = mg (ltc cf) (isort (ltc cf) (X.take (i - a))) [x] := by
        rw [show i + 1 - a = i - a + 1 by omega, take_gt hiX, isort_snoc, hx]
      have hS := isort_srt hO (X.take (i - a))
      have hSl : (isort (ltc cf) (X.take (i - a))).length = i - a := by rw [isort_len, List.length_take]; omega
      have HR2 := HR1.out
      obtain ⟨R, hR⟩ : ∃ R, R = X.drop (i + 1 - a) ++ B := ⟨_, rfl⟩
      rw [drop_gt hiX, ← hx, show i - a + 1 = i + 1 - a by omega, List.cons_append, ← hR] at HR2
      have HRe := Lib.hid hR
      have HTT := Lib.hid hT
      have HSS := Lib.hid hS
      have HSL := Lib.hid hSl
      have HRR := Lib.hid HR2
      generalize isort (ltc cf) (X.take (i - a)) = S at *
      have HX1 : Hid ((A ++ (S ++ (x :: R))).length = N) := Lib.hid (by
        have hn := HN.out
        rw [hR]
        have hsl := HSL.out
        simp only [List.length_append, List.length_cons, List.length_drop] at hn ⊢
        omega)
      clear hT hS hSl HR2 hx hiX HR1 hR
      go_wp2
      go_loopw [9] (fun vj wx => ∃ j : Nat, vj = .int .i64 (j : Int) ∧ a ≤ j ∧ j ≤ i ∧ Hid (∃ P Q : List α, S = P ++ Q ∧ P.length = j - a ∧ (∀ q ∈ Q, ltc cf x q = true) ∧ RowE c wx base g cap (A ++ (P ++ (x :: (Q ++ R))))) ∧ Only g wr wx) (fun vj _ => (intOf vj).toNat)
      case atStart => exact ⟨i, rfl, by omega, Nat.le_refl _, Lib.hid ⟨S, [], by simp, HSL.out, by simp, by simpa using HRR.out⟩, Only.refl _ _⟩
      case round =>
        obtain ⟨j, rfl, haj, hji, HPQ, honly2⟩ := hrel
        by_cases hja : a < j
        · have hjz : (a : Int) < (j : Int) := by omega
          obtain ⟨dk, hdk⟩ : ∃ dk : List α, Hid (RowE c wr base g cap dk ∧ dk.length = N ∧ gt dk j = x ∧
              (ltc cf x (gt dk (j - 1)) = true → ∃ P Q : List α, S = P ++ Q ∧ P.length = j - 1 - a ∧ (∀ q ∈ Q, ltc cf x q = true) ∧ sw dk j (j - 1) = A ++ (P ++ (x :: (Q ++ R)))) ∧
              (ltc cf x (gt dk (j - 1)) = false → dk = A ++ (mg (ltc cf) S [x] ++ R))) := by
            obtain ⟨P, Q, q1, q2, q3, q4⟩ := HPQ.out
            rcases List.eq_nil_or_concat P with rfl | ⟨P', z, rfl⟩
            · simp at q2; omega
            simp only [List.concat_eq_append] at q1 q2 q4
            have hA := HA.out
            rw [List.length_append, List.length_singleton] at q2
            have e1 : A ++ ((P' ++ [z]) ++ (x :: (Q ++ R))) = (A ++ P') ++ z :: ([] ++ x :: (Q ++ R)) := by simp
            have hz : gt (A ++ ((P' ++ [z]) ++ (x :: (Q ++ R)))) (j - 1) = z := by
              rw [e1]
              conv => lhs; rw [show j - 1 = (A ++ P').length + 0 by rw [List.length_append]; omega]
              rw [gt_app_right]; rfl
            have hxj : gt (A ++ ((P' ++ [z]) ++ (x :: (Q ++ R)))) j = x := by
              have e2 : A ++ ((P' ++ [z]) ++ (x :: (Q ++ R))) = (A ++ (P' ++ [z])) ++ (x :: (Q ++ R)) := by simp
              rw [e2]
              conv => lhs; rw [show j = (A ++ (P' ++ [z])).length + 0 by simp; omega]
              rw [gt_app_right]; rfl
            refine ⟨_, Lib.hid ⟨q4, ?_, hxj, fun ht => ?_, fun ht => ?_⟩⟩
            · have := HX1.out
              rw [q1] at this
              simp only [List.length_append, List.length_cons] at this ⊢
              omega
            · rw [hz] at ht
              refine ⟨P', z :: Q, by rw [q1]; simp, by omega, fun q hq => ?_, ?_⟩
              · rcases List.mem_cons.1 hq with rfl | hq
                · exact ht
                · exact q3 q hq
              · rw [sw_comm _ (show j ≠ j - 1 by omega), e1, sw_mid _ _ _ _ _ (by rw [List.length_append]; omega) (by rw [List.length_append, List.length_nil]; omega)]
                simp
            · rw [hz] at ht
              have hsr := HSS.out
              rw [q1] at hsr
              have hP := (srt_app.1 hsr).1
              rw [q1, mg_one (fun p hp => ?_) q3]
              · simp
              · rcases List.mem_append.1 hp with hp | hp
                · exact hO.neg _ _ _ ht ((srt_app.1 hP).2.2 p hp z (by simp))
                · simp at hp; subst hp; exact ht
          have HR : Hid (RowE c wr base g cap dk) := Lib.hid hdk.out.1
          have hdl : dk.length = N := hdk.out.2.1
          have hpl : j < dk.length := by omega
          have hql : j - 1 < dk.length := by omega
          have kw1 : IntKind.i64.wrap ((j : Int) - 1) = (j : Int) - 1 := IntWalk.i64_in _ (by omega)
          have ia0 := fun W => idx_run (g := g) (cap := cap) (n := N) W (i := j) (by omega) (x := (j : Int)) rfl
          have ia1 := fun W => idx_run (g := g) (cap := cap) (n := N) W (i := j - 1) (by omega) (x := (j : Int) - 1) (by omega)
          clear hdl HPQ
          cases ht : ltc cf x (gt dk (j - 1))
          · have HE := Lib.hid (hdk.out.2.2.2.2 ht)
            have HV : Hid (decide (cf (gt dk j) (gt dk (j - 1)) < 0) = false) := Lib.hid (by rw [hdk.out.2.2.1]; exact ht)
            clear ht
            go_wp2_with fail
            refine wp_cmpG (by kernel_rfl) (by kernel_rfl) c base g cap (dk) (j) (j - 1) (by omega) (by omega) HR.out 58 _ Try.underlying58 (by kernel_rfl)
              (fun i => (#[.int .i64 (j : Int), .int .i64 (a : Int), .bool true, .bool true, .func (.func gc) #[] #[], .slice (some ⟨g, 0, none⟩) N cap, .int .i64 (j : Int), .pointer (some ⟨g, j * 9, none⟩), .agg (nine c (gt dk j)).toArray, .slice (some ⟨g, 0, none⟩) N cap, .int .i64 (j : Int), .int .i64 ((j : Int) - 1), .pointer (some ⟨g, (j - 1) * 9, none⟩), .agg (nine c (gt dk (j - 1))).toArray, .int .i64 (cf (gt dk j) (gt dk (j - 1))), .bool (decide (cf (gt dk j) (gt dk (j - 1)) < 0)), .bool (decide (cf (gt dk j) (gt dk (j - 1)) < 0))] : Array Value).getD i undef) 8 13 14 7 12 4 25 30 26 31 22 _ gc (cf (gt (dk) (j)) (gt (dk) (j - 1))) rfl rfl rfl rfl rfl rfl ⟨_, rfl, rfl⟩ ⟨_, rfl, rfl⟩ ⟨_, rfl, rfl⟩ (by exact ⟨rfl, rfl, rfl, rfl, rfl⟩) (by kernel_rfl) (by decide) 3 21 true (by kernel_rfl) rfl rfl Hent.out (fun W _ => Hcmp.out W _ _) ?_ [(some 18, .int .i64 (j : Int)), (some 19, .int .i64 (a : Int)), (some 20, .bool true), (some 21, .bool true), (some 22, .func (.func gc) #[] #[]), (some 23, .slice (some ⟨g, 0, none⟩) N cap), (some 24, .int .i64 (j : Int)), (some 25, .pointer (some ⟨g, j * 9, none⟩)), (some 26, .agg (nine c (gt dk j)).toArray), (some 27, .slice (some ⟨g, 0, none⟩) N cap), (some 28, .int .i64 (j : Int)), (some 29, .int .i64 ((j : Int) - 1)), (some 30, .pointer (some ⟨g, (j - 1) * 9, none⟩)), (some 31, .agg (nine c (gt dk (j - 1))).toArray), (some 32, .int .i64 (cf (gt dk j) (gt dk (j - 1)))), (some 33, .bool (decide (cf (gt dk j) (gt dk (j - 1)) < 0))), (some 34, .bool (decide (cf (gt dk j) (gt dk (j - 1)) < 0)))] rfl ?_
            · intro i o ho k1 k2 k3 b' W hev hout
              rcases i with _ | _ | _ | _ | _ | _ | _ | _ | _ | _ | _ | _ | _ | _ | _ | _ | _ | i
              · cases ho
                exact run_move W (.tmp 9) rfl ((hout 9 (by kernel_rfl)).trans rfl)
              · cases ho
                exact run_move W (.tmp 1) rfl ((hout 1 (by kernel_rfl)).trans rfl)
              · cases ho
                exact run_gtr W (.tmp 18) (.tmp 19) rfl (hev 0 18 (by kernel_rfl) rfl) (hev 1 19 (by kernel_rfl) rfl) (by omega)
              · cases ho
                exact run_move W (.tmp 20) rfl (hev 2 20 (by kernel_rfl) rfl)
              · cases ho
                exact run_move W (.tmp 3) rfl ((hout 3 (by kernel_rfl)).trans rfl)
              · cases ho
                exact run_move W (.tmp 0) rfl ((hout 0 (by kernel_rfl)).trans rfl)
              · cases ho
                exact run_move W (.tmp 9) rfl ((hout 9 (by kernel_rfl)).trans rfl)
              · cases ho
                exact run_idx W (.tmp 23) (.tmp 24) rfl (hev 5 23 (by kernel_rfl) rfl) (hev 6 24 (by kernel_rfl) rfl) ia0
              · exact absurd rfl k1
              · cases ho
                exact run_move W (.tmp 0) rfl ((hout 0 (by kernel_rfl)).trans rfl)
              · cases ho
                exact run_move W (.tmp 9) rfl ((hout 9 (by kernel_rfl)).trans rfl)
              · cases ho
                exact run_sub W (.tmp 28) (.const (.int .i64 1)) rfl (hev 10 28 (by kernel_rfl) rfl) rfl kw1
              · cases ho
                exact run_idx W (.tmp 27) (.tmp 29) rfl (hev 9 27 (by kernel_rfl) rfl) (hev 11 29 (by kernel_rfl) rfl) ia1
              · exact absurd rfl k2
              · exact absurd rfl k3
              · cases ho
                exact run_lss0 W (.tmp 32) rfl (hev 14 32 (by kernel_rfl) rfl)
              · cases ho
                exact run_pick W (.tmp 21) (.tmp 33) rfl (hev 3 21 (by kernel_rfl) rfl) (hev 15 33 (by kernel_rfl) rfl)
              · cases ho
            · intro w2 hrow hb2
              rw [HV.out]
              have HR3 : Hid (RowE c w2 base g cap (A ++ (isort (ltc cf) (X.take (i + 1 - a)) ++ (X.drop (i + 1 - a) ++ B)))) := Lib.hid (by rw [HTT.out, ← HRe.out, ← HE.out]; exact hrow)
              have hon := (honly.trans honly2).trans (Only.of_below hb2)
              clear hpl hql hrow ia0 ia1 kw1
              simp only [putP, Exit.then, Act.put, List.setIfInBounds_toArray, List.set_cons_zero, List.set_cons_succ]
              go_wp2
              go_roundw
              case rel => exact ⟨i + 1, by go_num, by omega, by omega, HR3, hon⟩
              case measure => simp [intOf]; omega
          · have HE := Lib.hid (hdk.out.2.2.2.1 ht)
            have HV : Hid (decide (cf (gt dk j) (gt dk (j - 1)) < 0) = true) := Lib.hid (by rw [hdk.out.2.2.1]; exact ht)
            have HLn : Hid (dk.length = N) := Lib.hid hdk.out.2.1
            clear ht
            go_wp2_with fail
            refine wp_cmpG (by kernel_rfl) (by kernel_rfl) c base g cap (dk) (j) (j - 1) (by omega) (by omega) HR.out 58 _ Try.underlying58 (by kernel_rfl)
              (fun i => (#[.int .i64 (j : Int), .int .i64 (a : Int), .bool true, .bool true, .func (.func gc) #[] #[], .slice (some ⟨g, 0, none⟩) N cap, .int .i64 (j : Int), .pointer (some ⟨g, j * 9, none⟩), .agg (nine c (gt dk j)).toArray, .slice (some ⟨g, 0, none⟩) N cap, .int .i64 (j : Int), .int .i64 ((j : Int) - 1), .pointer (some ⟨g, (j - 1) * 9, none⟩), .agg (nine c (gt dk (j - 1))).toArray, .int .i64 (cf (gt dk j) (gt dk (j - 1))), .bool (decide (cf (gt dk j) (gt dk (j - 1)) < 0)), .bool (decide (cf (gt dk j) (gt dk (j - 1)) < 0))] : Array Value).getD i undef) 8 13 14 7 12 4 25 30 26 31 22 _ gc (cf (gt (dk) (j)) (gt (dk) (j - 1))) rfl rfl rfl rfl rfl rfl ⟨_, rfl, rfl⟩ ⟨_, rfl, rfl⟩ ⟨_, rfl, rfl⟩ (by exact ⟨rfl, rfl, rfl, rfl, rfl⟩) (by kernel_rfl) (by decide) 3 21 true (by kernel_rfl) rfl rfl Hent.out (fun W _ => Hcmp.out W _ _) ?_ [(some 18, .int .i64 (j : Int)), (some 19, .int .i64 (a : Int)), (some 20, .bool true), (some 21, .bool true), (some 22, .func (.func gc) #[] #[]), (some 23, .slice (some ⟨g, 0, none⟩) N cap), (some 24, .int .i64 (j : Int)), (some 25, .pointer (some ⟨g, j * 9, none⟩)), (some 26, .agg (nine c (gt dk j)).toArray), (some 27, .slice (some ⟨g, 0, none⟩) N cap), (some 28, .int .i64 (j : Int)), (some 29, .int .i64 ((j : Int) - 1)), (some 30, .pointer (some ⟨g, (j - 1) * 9, none⟩)), (some 31, .agg (nine c (gt dk (j - 1))).toArray), (some 32, .int .i64 (cf (gt dk j) (gt dk (j - 1)))), (some 33, .bool (decide (cf (gt dk j) (gt dk (j - 1)) < 0))), (some 34, .bool (decide (cf (gt dk j) (gt dk (j - 1)) < 0)))] rfl ?_
            · intro i o ho k1 k2 k3 b' W hev hout
              rcases i with _ | _ | _ | _ | _ | _ | _ | _ | _ | _ | _ | _ | _ | _ | _ | _ | _ | i
              · cases ho
                exact run_move W (.tmp 9) rfl ((hout 9 (by kernel_rfl)).trans rfl)
              · cases ho
                exact run_move W (.tmp 1) rfl ((hout 1 (by kernel_rfl)).trans rfl)
              · cases ho
                exact run_gtr W (.tmp 18) (.tmp 19) rfl (hev 0 18 (by kernel_rfl) rfl) (hev 1 19 (by kernel_rfl) rfl) (by omega)
              · cases ho
                exact run_move W (.tmp 20) rfl (hev 2 20 (by kernel_rfl) rfl)
              · cases ho
                exact run_move W (.tmp 3) rfl ((hout 3 (by kernel_rfl)).trans rfl)
              · cases ho
                exact run_move W (.tmp 0) rfl ((hout 0 (by kernel_rfl)).trans rfl)
              · cases ho
                exact run_move W (.tmp 9) rfl ((hout 9 (by kernel_rfl)).trans rfl)
              · cases ho
                exact run_idx W (.tmp 23) (.tmp 24) rfl (hev 5 23 (by kernel_rfl) rfl) (hev 6 24 (by kernel_rfl) rfl) ia0
              · exact absurd rfl k1
              · cases ho
                exact run_move W (.tmp 0) rfl ((hout 0 (by kernel_rfl)).trans rfl)
              · cases ho
                exact run_move W (.tmp 9) rfl ((hout 9 (by kernel_rfl)).trans rfl)
              · cases ho
                exact run_sub W (.tmp 28) (.const (.int .i64 1)) rfl (hev 10 28 (by kernel_rfl) rfl) rfl kw1
              · cases ho
                exact run_idx W (.tmp 27) (.tmp 29) rfl (hev 9 27 (by kernel_rfl) rfl) (hev 11 29 (by kernel_rfl) rfl) ia1
              · exact absurd rfl k2
              · exact absurd rfl k3
              · cases ho
                exact run_lss0 W (.tmp 32) rfl (hev 14 32 (by kernel_rfl) rfl)
              · cases ho
                exact run_pick W (.tmp 21) (.tmp 33) rfl (hev 3 21 (by kernel_rfl) rfl) (hev 15 33 (by kernel_rfl) rfl)
              · cases ho
            · intro w2 hrow hb2
              rw [HV.out]
              have hon := honly2.trans (Only.of_below hb2)
              clear hpl hql HR
              have HR : Hid (RowE c w2 base g cap dk) := Lib.hid hrow
              have hpl : j < dk.length := by rw [HLn.out]; omega
              have hql : j - 1 < dk.length := by rw [HLn.out]; omega
              simp only [putP, Exit.then, Act.put, List.setIfInBounds_toArray, List.set_cons_zero, List.set_cons_succ]
              go_wp2_with fail
              refine wp_swap (by kernel_rfl) (by kernel_rfl) c H1.out base g cap (dk) (j) (j - 1) (by omega) (by omega) HR.out 58 _ Try.underlying58 (by kernel_rfl)
                (fun i => (#[.slice (some ⟨g, 0, none⟩) N cap, .int .i64 (j : Int), .slice (some ⟨g, 0, none⟩) N cap, .int .i64 (j : Int), .int .i64 ((j : Int) - 1), .slice (some ⟨g, 0, none⟩) N cap, .int .i64 (j : Int), .int .i64 ((j : Int) - 1), .pointer (some ⟨g, (j - 1) * 9, none⟩), .agg (nine c (gt dk (j - 1))).toArray, .slice (some ⟨g, 0, none⟩) N cap, .int .i64 (j : Int), .pointer (some ⟨g, j * 9, none⟩), .agg (nine c (gt dk j)).toArray, .pointer (some ⟨g, j * 9, none⟩), undef, .pointer (some ⟨g, (j - 1) * 9, none⟩), undef] : Array Value).getD i undef) 9 13 15 17 8 12 14 16 45 49 51 52 46 50 rfl rfl rfl rfl rfl rfl ⟨_, rfl, rfl⟩ ⟨_, rfl, rfl⟩ ⟨_, rfl, rfl, rfl⟩ ⟨_, rfl, rfl, rfl⟩ (by exact ⟨rfl, rfl, rfl, rfl, rfl, rfl⟩) (by kernel_rfl) (by decide) ?_ [(some 37, .slice (some ⟨g, 0, none⟩) N cap), (some 38, .int .i64 (j : Int)), (some 39, .slice (some ⟨g, 0, none⟩) N cap), (some 40, .int .i64 (j : Int)), (some 41, .int .i64 ((j : Int) - 1)), (some 42, .slice (some ⟨g, 0, none⟩) N cap), (some 43, .int .i64 (j : Int)), (some 44, .int .i64 ((j : Int) - 1)), (some 45, .pointer (some ⟨g, (j - 1) * 9, none⟩)), (some 46, .agg (nine c (gt dk (j - 1))).toArray), (some 47, .slice (some ⟨g, 0, none⟩) N cap), (some 48, .int .i64 (j : Int)), (some 49, .pointer (some ⟨g, j * 9, none⟩)), (some 50, .agg (nine c (gt dk j)).toArray), (some 51, .pointer (some ⟨g, j * 9, none⟩)), (none, undef), (some 52, .pointer (some ⟨g, (j - 1) * 9, none⟩)), (none, undef)] rfl ?_ (by exact ⟨by decide, by decide⟩)
              · intro i o ho k1 k2 k3 k4 b' W hev hout
                rcases i with _ | _ | _ | _ | _ | _ | _ | _ | _ | _ | _ | _ | _ | _ | _ | _ | _ | _ | i
                · cases ho
                  exact run_move W (.tmp 0) rfl ((hout 0 (by kernel_rfl)).trans rfl)
                · cases ho
                  exact run_move W (.tmp 9) rfl ((hout 9 (by kernel_rfl)).trans rfl)
                · cases ho
                  exact run_move W (.tmp 0) rfl ((hout 0 (by kernel_rfl)).trans rfl)
                · cases ho
                  exact run_move W (.tmp 9) rfl ((hout 9 (by kernel_rfl)).trans rfl)
                · cases ho
                  exact run_sub W (.tmp 40) (.const (.int .i64 1)) rfl (hev 3 40 (by kernel_rfl) (by decide) (by decide) rfl) rfl kw1
                · cases ho
                  exact run_move W (.tmp 0) rfl ((hout 0 (by kernel_rfl)).trans rfl)
                · cases ho
                  exact run_move W (.tmp 9) rfl ((hout 9 (by kernel_rfl)).trans rfl)
                · cases ho
                  exact run_sub W (.tmp 43) (.const (.int .i64 1)) rfl (hev 6 43 (by kernel_rfl) (by decide) (by decide) rfl) rfl kw1
                · cases ho
                  exact run_idx W (.tmp 42) (.tmp 44) rfl (hev 5 42 (by kernel_rfl) (by decide) (by decide) rfl) (hev 7 44 (by kernel_rfl) (by decide) (by decide) rfl) ia1
                · exact absurd rfl k1
                · cases ho
                  exact run_move W (.tmp 0) rfl ((hout 0 (by kernel_rfl)).trans rfl)
                · cases ho
                  exact run_move W (.tmp 9) rfl ((hout 9 (by kernel_rfl)).trans rfl)
                · cases ho
                  exact run_idx W (.tmp 47) (.tmp 48) rfl (hev 10 47 (by kernel_rfl) (by decide) (by decide) rfl) (hev 11 48 (by kernel_rfl) (by decide) (by decide) rfl) ia0
                · exact absurd rfl k2
                · cases ho
                  exact run_idx W (.tmp 37) (.tmp 38) rfl (hev 0 37 (by kernel_rfl) (by decide) (by decide) rfl) (hev 1 38 (by kernel_rfl) (by decide) (by decide) rfl) ia0
                · exact absurd rfl k3
                · cases ho
                  exact run_idx W (.tmp 39) (.tmp 41) rfl (hev 2 39 (by kernel_rfl) (by decide) (by decide) rfl) (hev 4 41 (by kernel_rfl) (by decide) (by decide) rfl) ia1
                · exact absurd rfl k4
                · cases ho
              · intro w3 hrow3 honly3
                have HPQ2 : Hid (∃ P Q : List α, S = P ++ Q ∧ P.length = j - 1 - a ∧ (∀ q ∈ Q, ltc cf x q = true) ∧ RowE c w3 base g cap (A ++ (P ++ (x :: (Q ++ R))))) := Lib.hid (by
                  obtain ⟨P, Q, q1, q2, q3, q4⟩ := HE.out
                  exact ⟨P, Q, q1, q2, q3, by rw [← q4]; exact hrow3⟩)
                clear hpl hql hrow3 ia0 ia1 kw1
                simp only [putP, Exit.then, Act.put, List.setIfInBounds_toArray, List.set_cons_zero, List.set_cons_succ]
                go_wp2
                go_roundw
                case rel => exact ⟨j - 1, by go_num, by omega, by omega, HPQ2, hon.trans honly3⟩
                case measure => simp [intOf]; omega
        · obtain rfl : j = a := by omega
          have hjz : decide ((j : Int) < (j : Int)) = false := dcf (by omega)
          have hjz2 : ¬ (j : Int) < (j : Int) := by omega
          have HR3 : Hid (RowE c wr base g cap (A ++ (isort (ltc cf) (X.take (i + 1 - j)) ++ (X.drop (i + 1 - j) ++ B)))) := Lib.hid (by
            obtain ⟨P, Q, q1, q2, q3, q4⟩ := HPQ.out
            have hP : P = [] := List.eq_nil_of_length_eq_zero (by omega)
            subst hP
            rw [HTT.out, q1, mg_one (by simp) q3, ← HRe.out]
            simpa using q4)
          clear HPQ
          go_wp2_with fail
          go_quiet (fail)
          go_wp2
          go_roundw
          case rel => exact ⟨i + 1, by go_num, by omega, by omega, HR3, (honly.trans honly2).drewN _⟩
          case measure => simp [intOf]; omega
    · have hib2 : i = b ∨ i = b + 1 := by omega
      have HR3 : Hid (RowE c wr base g cap (A ++ (isort (ltc cf) X ++ B))) := Lib.hid (by
        have := HR1.out
        have hB := HB.out
        rw [List.take_of_length_le (by omega), List.drop_eq_nil_of_le (by omega)] at this
        simpa using this)
      clear HR1 hib2
      go_wp2
      go_end0
      exact ⟨rfl, HR3.out, honly⟩
end Go.Proofs.Ytophfgijfmdbcaa.Sr
