/- symMergeCmpFunc where the right list is of one thing. -/
import Derived.Test.YtophfgijfmdbcaaProg
import Derived.Test.YtophfgijfmdbcaaSrG
namespace Go.Proofs.Ytophfgijfmdbcaa.Sr
open Go.Proofs.Ytophfgijfmdbcaa.So
open Go.RowKit
variable {α : Type} [Inhabited α]

theorem sw_comm (d : List α) {p q : Nat} (h : p ≠ q) : sw d p q = sw d q p := by
  unfold sw
  exact List.set_comm _ _ h

set_option maxRecDepth 100000 in
set_option maxHeartbeats 3200000 in
theorem symB (c : α → Nat → Value) (h1 : ∀ x j, (c x j).oneCell' = true) (cf : α → α → Int) (gc : FuncId) (hcmp : CmpE c gc cf) (hent : ∀ args W, (callFunc gc args).run Try.prog W = .ok (.enter gc args) W) (hO : Swo (ltc cf))
    (N : Nat) (base g cap a m : Nat) (w : World) (A X B : List α) (y : α) (h : RowE c w base g cap (A ++ (X ++ (y :: B)))) (hN : (A ++ (X ++ (y :: B))).length = N) (ha : a = A.length) (hm : m = a + X.length) (hX2 : 2 ≤ X.length) (hX : Srt (ltc cf) X) (hd : N ≤ 4398046511104) :
    Calls Try.prog 61 #[.slice (some ⟨g, 0, none⟩) N cap, .int .i64 (a : Int), .int .i64 (m : Int), .int .i64 ((m : Int) + 1), .func (.func gc) #[] #[]] w fun e w' =>
      e = .returned (.tuple #[]) ∧ RowE c w' base g cap (A ++ (mg (ltc cf) X [y] ++ B)) ∧ Only g w w' := by
  have H1 := Lib.hid h1
  have Hcmp : Hid (CmpE c gc cf) := Lib.hid hcmp
  have Hent := Lib.hid hent
  have HR0 := Lib.hid h
  have HN := Lib.hid hN
  have HA := Lib.hid ha
  have HM := Lib.hid hm
  have hmN : m + 1 ≤ N := by rw [← hN, hm, ha]; simp; omega
  have ham : a + 2 ≤ m := by omega
  have em : ((m : Int) - (a : Int) == 1) = false := eqf (by omega)
  have eb : (m : Int) + 1 - (m : Int) = 1 := by omega
  have e11 : ((1 : Int) == 1) = true := rfl
  have HX := Lib.hid hX
  clear h1 hcmp hent h hN ha hm hX hX2
  go_enter Try.func61, Try.ntmps61
  go_wp2
  go_loopw [14, 15] (fun vi vj wr => ∃ (i j : Nat), vi = .int .i64 (i : Int) ∧ vj = .int .i64 (j : Int) ∧ a ≤ i ∧ i ≤ j ∧ j ≤ m ∧ Hid ((∀ k, a + k < i → ltc cf y (gt X k) = false) ∧ (∀ k, j ≤ a + k → k < X.length → ltc cf y (gt X k) = true)) ∧ Hid (RowE c wr base g cap (A ++ (X ++ (y :: B)))) ∧ Below w.heap.size w wr) (fun vi vj _ => (intOf vj).toNat - (intOf vi).toNat)
  case atStart => exact ⟨a, m, rfl, rfl, Nat.le_refl _, by omega, Nat.le_refl _, Lib.hid ⟨fun k hk => absurd hk (by omega), fun k hk hk2 => absurd hk2 (by have := HM.out; omega)⟩, Lib.hid HR0.out, Below.refl _ _⟩
  case round =>
    obtain ⟨i, j, rfl, rfl, hi, hij, hj, HI, HR, hbel⟩ := hrel
    by_cases hlt : i < j
    · obtain ⟨h, hh⟩ : ∃ h : Nat, h = (i + j) / 2 := ⟨_, rfl⟩
      have eh : ((i : Int) + (j : Int)) / 2 = (h : Int) := by omega
      have hi1 : i ≤ h := by omega
      have hh1 : h < j := by omega
      clear hh
      have HGm : Hid (gt (A ++ (X ++ (y :: B))) m = y) := Lib.hid (by
        have e : A ++ (X ++ (y :: B)) = (A ++ X) ++ (y :: B) := by simp
        have hl : (A ++ X).length = m := by rw [HM.out, HA.out]; simp
        rw [e]
        conv => lhs; rw [show m = (A ++ X).length + 0 by omega]
        rw [gt_app_right]
        rfl)
      have HGh : Hid (gt (A ++ (X ++ (y :: B))) h = gt X (h - a)) := Lib.hid (by
        have hA := HA.out
        have hM := HM.out
        conv => lhs; rw [show h = A.length + (h - a) by omega]
        rw [gt_app_right, gt_app_left (by omega)])
      have HF : Hid (ltc cf y (gt X (h - a)) = false → (∀ k, a + k < h + 1 → ltc cf y (gt X k) = false) ∧ (∀ k, j ≤ a + k → k < X.length → ltc cf y (gt X k) = true)) := Lib.hid fun ht => ⟨fun k hk => hO.neg _ _ _ ht (srt_gt hO HX.out (j := h - a) (by omega) (by have := HM.out; omega)), HI.out.2⟩
      have HT : Hid (ltc cf y (gt X (h - a)) = true → (∀ k, a + k < i → ltc cf y (gt X k) = false) ∧ (∀ k, h ≤ a + k → k < X.length → ltc cf y (gt X k) = true)) := Lib.hid fun ht => ⟨HI.out.1, fun k hk hk2 => hO.lt_le ht (srt_gt hO HX.out (i := h - a) (by omega) hk2)⟩
      generalize gt X (h - a) = xv at *
      have hpl : m < (A ++ (X ++ (y :: B))).length := by rw [HN.out]; omega
      have hql : h < (A ++ (X ++ (y :: B))).length := by rw [HN.out]; omega
      have iah := fun W => idx_run (g := g) (cap := cap) (n := N) W (i := h) (by omega) (x := (h : Int)) rfl
      have iam := fun W => idx_run (g := g) (cap := cap) (n := N) W (i := m) (by omega) (x := (m : Int)) rfl
      go_wp2_with fail
      refine wp_cmp (by kernel_rfl) (by kernel_rfl) c base g cap (A ++ (X ++ (y :: B))) (m) (h) (by omega) (by omega) HR.out 58 _ Try.underlying58 (by kernel_rfl)
        (fun i => (#[.func (.func gc) #[] #[], .slice (some ⟨g, 0, none⟩) N cap, .int .i64 (m : Int), .pointer (some ⟨g, m * 9, none⟩), .agg (nine c (gt (A ++ (X ++ (y :: B))) m)).toArray, .slice (some ⟨g, 0, none⟩) N cap, .int .i64 (h : Int), .pointer (some ⟨g, h * 9, none⟩), .agg (nine c (gt (A ++ (X ++ (y :: B))) h)).toArray, .int .i64 (cf (gt (A ++ (X ++ (y :: B))) m) (gt (A ++ (X ++ (y :: B))) h)), .bool (decide (cf (gt (A ++ (X ++ (y :: B))) m) (gt (A ++ (X ++ (y :: B))) h) < 0)), .bool (!(decide (cf (gt (A ++ (X ++ (y :: B))) m) (gt (A ++ (X ++ (y :: B))) h) < 0)))] : Array Value).getD i undef) 4 8 9 3 7 0 95 99 96 100 92 _ gc (cf (gt (A ++ (X ++ (y :: B))) (m)) (gt (A ++ (X ++ (y :: B))) (h))) rfl rfl rfl rfl rfl rfl ⟨_, rfl, rfl⟩ ⟨_, rfl, rfl⟩ ⟨_, rfl, rfl⟩ (by exact ⟨rfl, rfl, rfl, rfl, rfl⟩) (by kernel_rfl) (by decide) Hent.out (fun W _ => Hcmp.out W _ _) ?_ [(some 92, .func (.func gc) #[] #[]), (some 93, .slice (some ⟨g, 0, none⟩) N cap), (some 94, .int .i64 (m : Int)), (some 95, .pointer (some ⟨g, m * 9, none⟩)), (some 96, .agg (nine c (gt (A ++ (X ++ (y :: B))) m)).toArray), (some 97, .slice (some ⟨g, 0, none⟩) N cap), (some 98, .int .i64 (h : Int)), (some 99, .pointer (some ⟨g, h * 9, none⟩)), (some 100, .agg (nine c (gt (A ++ (X ++ (y :: B))) h)).toArray), (some 101, .int .i64 (cf (gt (A ++ (X ++ (y :: B))) m) (gt (A ++ (X ++ (y :: B))) h))), (some 102, .bool (decide (cf (gt (A ++ (X ++ (y :: B))) m) (gt (A ++ (X ++ (y :: B))) h) < 0))), (some 103, .bool (!(decide (cf (gt (A ++ (X ++ (y :: B))) m) (gt (A ++ (X ++ (y :: B))) h) < 0))))] rfl ?_
      · intro i o ho k1 k2 k3 b' W hev hout
        rcases i with _ | _ | _ | _ | _ | _ | _ | _ | _ | _ | _ | _ | i
        · cases ho
          exact run_move W (.tmp 4) rfl ((hout 4 (by kernel_rfl)).trans rfl)
        · cases ho
          exact run_move W (.tmp 0) rfl ((hout 0 (by kernel_rfl)).trans rfl)
        · cases ho
          exact run_move W (.tmp 2) rfl ((hout 2 (by kernel_rfl)).trans rfl)
        · cases ho
          exact run_idx W (.tmp 93) (.tmp 94) rfl (hev 1 93 (by kernel_rfl) rfl) (hev 2 94 (by kernel_rfl) rfl) iam
        · exact absurd rfl k1
        · cases ho
          exact run_move W (.tmp 0) rfl ((hout 0 (by kernel_rfl)).trans rfl)
        · cases ho
          exact run_move W (.tmp 16) rfl ((hout 16 (by kernel_rfl)).trans rfl)
        · cases ho
          exact run_idx W (.tmp 97) (.tmp 98) rfl (hev 5 97 (by kernel_rfl) rfl) (hev 6 98 (by kernel_rfl) rfl) iah
        · exact absurd rfl k2
        · exact absurd rfl k3
        · cases ho
          exact run_lss0 W (.tmp 101) rfl (hev 9 101 (by kernel_rfl) rfl)
        · cases ho
          exact run_not W (.tmp 102) rfl (hev 10 102 (by kernel_rfl) rfl)
        · cases ho
      · intro w2 hrow hb2
        rw [HGm.out, HGh.out]
        have hbe : Below w.heap.size w w2 := hbel.trans (hb2.mono hbel.size)
        have HRW := Lib.hid hrow
        clear hpl hql iah iam hrow eh
        cases ht : decide (cf y xv < 0)
        · have HI3 := Lib.hid (HF.out ht)
          clear ht HT HF
          simp only [putP, Exit.then, Act.put, List.setIfInBounds_toArray, List.set_cons_zero, List.set_cons_succ, Bool.not_false]
          go_wp2
          go_roundw
          case rel => exact ⟨h + 1, j, by go_num, rfl, by omega, by omega, hj, HI3, HRW, hbe⟩
          case measure => simp [intOf]; omega
        · have HI3 := Lib.hid (HT.out ht)
          clear ht HT HF
          simp only [putP, Exit.then, Act.put, List.setIfInBounds_toArray, List.set_cons_zero, List.set_cons_succ, Bool.not_true]
          go_wp2
          go_roundw
          case rel => exact ⟨i, h, rfl, rfl, hi, hi1, by omega, HI3, HRW, hbe⟩
          case measure => simp [intOf]; omega
    · obtain rfl : i = j := by omega
      have hs0 := hbel.size
      have HT : Hid (A ++ (mg (ltc cf) X [y] ++ B) = A ++ (X.take (i - a) ++ (y :: (X.drop (i - a) ++ B)))) := Lib.hid (by
        have e := mg_one (lt := ltc cf) (P := X.take (i - a)) (Q := X.drop (i - a)) (x := y) (fun p hp => by
          obtain ⟨k, hk, _, rfl⟩ := mem_take hp
          exact HI.out.1 k (by omega)) (fun q hq => by
          obtain ⟨k, hk, hk2, rfl⟩ := mem_drop hq
          exact HI.out.2 k (by omega) hk2)
        rw [List.take_append_drop] at e
        rw [e]
        simp)
      have HXl : Hid (m = a + X.length) := HM
      go_wp2
      go_loopw [17] (fun vk wk => ∃ k : Nat, vk = .int .i64 (k : Int) ∧ i ≤ k ∧ k ≤ m ∧ Hid (RowE c wk base g cap (A ++ (X.take (k - a) ++ (y :: (X.drop (k - a) ++ B))))) ∧ Only g wr wk) (fun vk _ => (intOf vk).toNat)
      case atStart => exact ⟨m, rfl, hj, Nat.le_refl _, Lib.hid (by rw [List.take_of_length_le (by have := HXl.out; omega), List.drop_eq_nil_of_le (by have := HXl.out; omega)]; simpa using HR.out), Only.refl _ _⟩
      case round =>
        obtain ⟨k, rfl, hik, hkm, HR2, honly⟩ := hrel
        by_cases hlt2 : i < k
        · have i2 : (i : Int) < (k : Int) := by omega
          obtain ⟨dk, hdk⟩ : ∃ dk, dk = A ++ (X.take (k - a) ++ (y :: (X.drop (k - a) ++ B))) := ⟨_, rfl⟩
          have hkX : k - 1 - a < X.length := by have := HXl.out; omega
          have hdl : dk.length = N := by
            rw [hdk, ← HN.out]
            simp
            omega
          have Hsw : Hid (sw dk k (k - 1) = A ++ (X.take (k - 1 - a) ++ (y :: (X.drop (k - 1 - a) ++ B)))) := Lib.hid (by
            have e1 : dk = (A ++ X.take (k - 1 - a)) ++ gt X (k - 1 - a) :: ([] ++ y :: (X.drop (k - a) ++ B)) := by
              rw [hdk, show k - a = k - 1 - a + 1 by omega, take_gt hkX]
              simp
            have hA := HA.out
            rw [sw_comm dk (show k ≠ k - 1 by omega), e1, sw_mid _ _ _ _ _ (by rw [List.length_append, List.length_take]; omega) (by rw [List.length_append, List.length_take, List.length_nil]; omega)]
            rw [drop_gt hkX, show k - 1 - a + 1 = k - a by omega]
            simp)
          rw [← hdk] at HR2
          clear hdk hkX
          have HR : Hid (RowE c wr base g cap dk) := HR2
          have kw1 : IntKind.i64.wrap ((k : Int) - 1) = (k : Int) - 1 := IntWalk.i64_in _ (by omega)
          have ia0 := fun W => idx_run (g := g) (cap := cap) (n := N) W (i := k) (by omega) (x := (k : Int)) rfl
          have ia1 := fun W => idx_run (g := g) (cap := cap) (n := N) W (i := k - 1) (by omega) (x := (k : Int) - 1) (by omega)
          have hp2 : k - 1 < dk.length := by omega
          have hp1 : k < dk.length := by omega
          clear hdl
          go_wp2_with fail
          refine wp_swap (by kernel_rfl) (by kernel_rfl) c H1.out base g cap (dk) (k) (k - 1) (by omega) (by omega) HR.out 58 _ Try.underlying58 (by kernel_rfl)
            (fun i => (#[.slice (some ⟨g, 0, none⟩) N cap, .int .i64 (k : Int), .slice (some ⟨g, 0, none⟩) N cap, .int .i64 (k : Int), .int .i64 ((k : Int) - 1), .slice (some ⟨g, 0, none⟩) N cap, .int .i64 (k : Int), .int .i64 ((k : Int) - 1), .pointer (some ⟨g, (k - 1) * 9, none⟩), .agg (nine c (gt dk (k - 1))).toArray, .slice (some ⟨g, 0, none⟩) N cap, .int .i64 (k : Int), .pointer (some ⟨g, k * 9, none⟩), .agg (nine c (gt dk k)).toArray, .pointer (some ⟨g, k * 9, none⟩), undef, .pointer (some ⟨g, (k - 1) * 9, none⟩), undef] : Array Value).getD i undef) 9 13 15 17 8 12 14 16 121 125 127 128 122 126 rfl rfl rfl rfl rfl rfl ⟨_, rfl, rfl⟩ ⟨_, rfl, rfl⟩ ⟨_, rfl, rfl, rfl⟩ ⟨_, rfl, rfl, rfl⟩ (by exact ⟨rfl, rfl, rfl, rfl, rfl, rfl⟩) (by kernel_rfl) (by decide) ?_ [(some 113, .slice (some ⟨g, 0, none⟩) N cap), (some 114, .int .i64 (k : Int)), (some 115, .slice (some ⟨g, 0, none⟩) N cap), (some 116, .int .i64 (k : Int)), (some 117, .int .i64 ((k : Int) - 1)), (some 118, .slice (some ⟨g, 0, none⟩) N cap), (some 119, .int .i64 (k : Int)), (some 120, .int .i64 ((k : Int) - 1)), (some 121, .pointer (some ⟨g, (k - 1) * 9, none⟩)), (some 122, .agg (nine c (gt dk (k - 1))).toArray), (some 123, .slice (some ⟨g, 0, none⟩) N cap), (some 124, .int .i64 (k : Int)), (some 125, .pointer (some ⟨g, k * 9, none⟩)), (some 126, .agg (nine c (gt dk k)).toArray), (some 127, .pointer (some ⟨g, k * 9, none⟩)), (none, undef), (some 128, .pointer (some ⟨g, (k - 1) * 9, none⟩)), (none, undef)] rfl ?_ (by exact ⟨by decide, by decide⟩)
          · intro i o ho k1 k2 k3 k4 b' W hev hout
            rcases i with _ | _ | _ | _ | _ | _ | _ | _ | _ | _ | _ | _ | _ | _ | _ | _ | _ | _ | i
            · cases ho
              exact run_move W (.tmp 0) rfl ((hout 0 (by kernel_rfl)).trans rfl)
            · cases ho
              exact run_move W (.tmp 17) rfl ((hout 17 (by kernel_rfl)).trans rfl)
            · cases ho
              exact run_move W (.tmp 0) rfl ((hout 0 (by kernel_rfl)).trans rfl)
            · cases ho
              exact run_move W (.tmp 17) rfl ((hout 17 (by kernel_rfl)).trans rfl)
            · cases ho
              exact run_sub W (.tmp 116) (.const (.int .i64 1)) rfl (hev 3 116 (by kernel_rfl) (by decide) (by decide) rfl) rfl kw1
            · cases ho
              exact run_move W (.tmp 0) rfl ((hout 0 (by kernel_rfl)).trans rfl)
            · cases ho
              exact run_move W (.tmp 17) rfl ((hout 17 (by kernel_rfl)).trans rfl)
            · cases ho
              exact run_sub W (.tmp 119) (.const (.int .i64 1)) rfl (hev 6 119 (by kernel_rfl) (by decide) (by decide) rfl) rfl kw1
            · cases ho
              exact run_idx W (.tmp 118) (.tmp 120) rfl (hev 5 118 (by kernel_rfl) (by decide) (by decide) rfl) (hev 7 120 (by kernel_rfl) (by decide) (by decide) rfl) ia1
            · exact absurd rfl k1
            · cases ho
              exact run_move W (.tmp 0) rfl ((hout 0 (by kernel_rfl)).trans rfl)
            · cases ho
              exact run_move W (.tmp 17) rfl ((hout 17 (by kernel_rfl)).trans rfl)
            · cases ho
              exact run_idx W (.tmp 123) (.tmp 124) rfl (hev 10 123 (by kernel_rfl) (by decide) (by decide) rfl) (hev 11 124 (by kernel_rfl) (by decide) (by decide) rfl) ia0
            · exact absurd rfl k2
            · cases ho
              exact run_idx W (.tmp 113) (.tmp 114) rfl (hev 0 113 (by kernel_rfl) (by decide) (by decide) rfl) (hev 1 114 (by kernel_rfl) (by decide) (by decide) rfl) ia0
            · exact absurd rfl k3
            · cases ho
              exact run_idx W (.tmp 115) (.tmp 117) rfl (hev 2 115 (by kernel_rfl) (by decide) (by decide) rfl) (hev 4 117 (by kernel_rfl) (by decide) (by decide) rfl) ia1
            · exact absurd rfl k4
            · cases ho
          · intro w3 hrow honly2
            have HR3 : Hid (RowE c w3 base g cap (A ++ (X.take (k - 1 - a) ++ (y :: (X.drop (k - 1 - a) ++ B))))) := Lib.hid (by rw [← Hsw.out]; exact hrow)
            clear hp1 hp2 hrow ia0 ia1
            simp only [putP, Exit.then, Act.put, List.setIfInBounds_toArray, List.set_cons_zero, List.set_cons_succ]
            go_wp2
            go_roundw
            case rel => exact ⟨k - 1, by go_num, by omega, by omega, HR3, honly.trans honly2⟩
            case measure => simp [intOf]; omega
        · obtain rfl : i = k := by omega
          have i2 : ¬ (i : Int) < (i : Int) := by omega
          have HR3 : Hid (RowE c wr base g cap (A ++ (mg (ltc cf) X [y] ++ B))) := Lib.hid (by rw [HT.out]; exact HR2.out)
          go_wp2
          refine bodyPost_ret (results_none rfl _ _ _) rfl ?_
          exact ⟨rfl, HR3.out, (Only.of_below hbel).trans honly⟩
end Go.Proofs.Ytophfgijfmdbcaa.Sr
