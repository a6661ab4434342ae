/- symMergeCmpFunc where the right list is of one thing. symMergeCmpFunc. Regions with guards; the comparison of a loop's head. symMergeCmpFunc at any lists; insertionSortCmpFunc. stableCmpFunc, SortStableFunc: the row is put in order, equals left in their order. -/
import Derived.Test.YtennddlihcamnaaProg
import Derived.Test.YtennddlihcamnaaSrBG

namespace Go.Proofs.Ytennddlihcamnaa.Sr
set_option linter.unusedVariables false
set_option linter.unusedSimpArgs false
open Go.Proofs.Ytennddlihcamnaa.So
open Go.RowKit
variable {α : Type} [Inhabited α]

theorem sw_comm (d : List α) {p q : Nat} (h : p ≠ q) : sw d p q = sw d q p := by
  unfold sw
  exact List.set_comm _ _ h

set_option maxRecDepth 100000 in
set_option maxHeartbeats 3200000 in
theorem symB (c : α → Nat → Value) (h1 : ∀ x j, (c x j).oneCell' = true) (cf : α → α → Int) (gc : FuncId) (hcmp : CmpE c gc cf) (hent : ∀ args W, (callFunc gc args).run Try.prog W = .ok (.enter gc args) W) (hO : Swo (ltc cf))
    (N : Nat) (base g cap a m : Nat) (w : World) (A X B : List α) (y : α) (h : RowE c w base g cap (A ++ (X ++ (y :: B)))) (hN : (A ++ (X ++ (y :: B))).length = N) (ha : a = A.length) (hm : m = a + X.length) (hX2 : 2 ≤ X.length) (hX : Srt (ltc cf) X) (hd : N ≤ 4398046511104) :
    Calls Try.prog 69 #[.slice (some ⟨g, 0, none⟩) N cap, .int .i64 (a : Int), .int .i64 (m : Int), .int .i64 ((m : Int) + 1), .func (.func gc) #[] #[]] w fun e w' =>
      e = .returned (.tuple #[]) ∧ RowE c w' base g cap (A ++ (mg (ltc cf) X [y] ++ B)) ∧ Only g w w' := by
  have H1 := Lib.hid h1
  have Hcmp : Hid (CmpE c gc cf) := Lib.hid hcmp
  have Hent := Lib.hid hent
  have HR0 := Lib.hid h
  have HN := Lib.hid hN
  have HA := Lib.hid ha
  have HM := Lib.hid hm
  have hmN : m + 1 ≤ N := by rw [← hN, hm, ha]; simp; omega
  have ham : a + 2 ≤ m := by omega
  have em : ((m : Int) - (a : Int) == 1) = false := eqf (by omega)
  have eb : (m : Int) + 1 - (m : Int) = 1 := by omega
  have e11 : ((1 : Int) == 1) = true := rfl
  have HX := Lib.hid hX
  clear h1 hcmp hent h hN ha hm hX hX2
  go_enter Try.func69, Try.ntmps69
  go_wp2
  go_loopw [14, 15] (fun vi vj wr => ∃ (i j : Nat), vi = .int .i64 (i : Int) ∧ vj = .int .i64 (j : Int) ∧ a ≤ i ∧ i ≤ j ∧ j ≤ m ∧ Hid ((∀ k, a + k < i → ltc cf y (gt X k) = false) ∧ (∀ k, j ≤ a + k → k < X.length → ltc cf y (gt X k) = true)) ∧ Hid (RowE c wr base g cap (A ++ (X ++ (y :: B)))) ∧ Below w.heap.size w wr) (fun vi vj _ => (intOf vj).toNat - (intOf vi).toNat)
  case atStart => exact ⟨a, m, rfl, rfl, Nat.le_refl _, by omega, Nat.le_refl _, Lib.hid ⟨fun k hk => absurd hk (by omega), fun k hk hk2 => absurd hk2 (by have := HM.out; omega)⟩, Lib.hid HR0.out, Below.refl _ _⟩
  case round =>
    obtain ⟨i, j, rfl, rfl, hi, hij, hj, HI, HR, hbel⟩ := hrel
    by_cases hlt : i < j
    · obtain ⟨h, hh⟩ : ∃ h : Nat, h = (i + j) / 2 := ⟨_, rfl⟩
      have eh : ((i : Int) + (j : Int)) / 2 = (h : Int) := by omega
      have hi1 : i ≤ h := by omega
      have hh1 : h < j := by omega
      clear hh
      have HGm : Hid (gt (A ++ (X ++ (y :: B))) m = y) := Lib.hid (by
        have e : A ++ (X ++ (y :: B)) = (A ++ X) ++ (y :: B) := by simp
        have hl : (A ++ X).length = m := by rw [HM.out, HA.out]; simp
        rw [e]
        conv => lhs; rw [show m = (A ++ X).length + 0 by omega]
        rw [gt_app_right]
        rfl)
      have HGh : Hid (gt (A ++ (X ++ (y :: B))) h = gt X (h - a)) := Lib.hid (by
        have hA := HA.out
        have hM := HM.out
        conv => lhs; rw [show h = A.length + (h - a) by omega]
        rw [gt_app_right, gt_app_left (by omega)])
      have HF : Hid (ltc cf y (gt X (h - a)) = false → (∀ k, a + k < h + 1 → ltc cf y (gt X k) = false) ∧ (∀ k, j ≤ a + k → k < X.length → ltc cf y (gt X k) = true)) := Lib.hid fun ht => ⟨fun k hk => hO.neg _ _ _ ht (srt_gt hO HX.out (j := h - a) (by omega) (by have := HM.out; omega)), HI.out.2⟩
      have HT : Hid (ltc cf y (gt X (h - a)) = true → (∀ k, a + k < i → ltc cf y (gt X k) = false) ∧ (∀ k, h ≤ a + k → k < X.length → ltc cf y (gt X k) = true)) := Lib.hid fun ht => ⟨HI.out.1, fun k hk hk2 => hO.lt_le ht (srt_gt hO HX.out (i := h - a) (by omega) hk2)⟩
      generalize gt X (h - a) = xv at *
      have hpl : m < (A ++ (X ++ (y :: B))).length := by rw [HN.out]; omega
      have hql : h < (A ++ (X ++ (y :: B))).length := by rw [HN.out]; omega
      have iah := fun W => idx_run (g := g) (cap := cap) (n := N) W (i := h) (by omega) (x := (h : Int)) rfl
      have iam := fun W => idx_run (g := g) (cap := cap) (n := N) W (i := m) (by omega) (x := (m : Int)) rfl
      go_wp2_with fail
      refine wp_cmp (by kernel_rfl) (by kernel_rfl) c base g cap (A ++ (X ++ (y :: B))) (m) (h) (by omega) (by omega) HR.out 37 _ Try.underlying37 (by kernel_rfl)
        (fun i => (#[.func (.func gc) #[] #[], .slice (some ⟨g, 0, none⟩) N cap, .int .i64 (m : Int), .pointer (some ⟨g, m * 9, none⟩), .agg (nine c (gt (A ++ (X ++ (y :: B))) m)).toArray, .slice (some ⟨g, 0, none⟩) N cap, .int .i64 (h : Int), .pointer (some ⟨g, h * 9, none⟩), .agg (nine c (gt (A ++ (X ++ (y :: B))) h)).toArray, .int .i64 (cf (gt (A ++ (X ++ (y :: B))) m) (gt (A ++ (X ++ (y :: B))) h)), .bool (decide (cf (gt (A ++ (X ++ (y :: B))) m) (gt (A ++ (X ++ (y :: B))) h) < 0)), .bool (!(decide (cf (gt (A ++ (X ++ (y :: B))) m) (gt (A ++ (X ++ (y :: B))) h) < 0)))] : Array Value).getD i undef) 4 8 9 3 7 0 95 99 96 100 92 _ gc (cf (gt (A ++ (X ++ (y :: B))) (m)) (gt (A ++ (X ++ (y :: B))) (h))) rfl rfl rfl rfl rfl rfl ⟨_, rfl, rfl⟩ ⟨_, rfl, rfl⟩ ⟨_, rfl, rfl⟩ (by exact ⟨rfl, rfl, rfl, rfl, rfl⟩) (by kernel_rfl) (by decide) Hent.out (fun W _ => Hcmp.out W _ _) ?_ [(some 92, .func (.func gc) #[] #[]), (some 93, .slice (some ⟨g, 0, none⟩) N cap), (some 94, .int .i64 (m : Int)), (some 95, .pointer (some ⟨g, m * 9, none⟩)), (some 96, .agg (nine c (gt (A ++ (X ++ (y :: B))) m)).toArray), (some 97, .slice (some ⟨g, 0, none⟩) N cap), (some 98, .int .i64 (h : Int)), (some 99, .pointer (some ⟨g, h * 9, none⟩)), (some 100, .agg (nine c (gt (A ++ (X ++ (y :: B))) h)).toArray), (some 101, .int .i64 (cf (gt (A ++ (X ++ (y :: B))) m) (gt (A ++ (X ++ (y :: B))) h))), (some 102, .bool (decide (cf (gt (A ++ (X ++ (y :: B))) m) (gt (A ++ (X ++ (y :: B))) h) < 0))), (some 103, .bool (!(decide (cf (gt (A ++ (X ++ (y :: B))) m) (gt (A ++ (X ++ (y :: B))) h) < 0))))] rfl ?_
      · intro i o ho k1 k2 k3 b' W hev hout
        rcases i with _ | _ | _ | _ | _ | _ | _ | _ | _ | _ | _ | _ | i
        · cases ho
          exact run_move W (.tmp 4) rfl ((hout 4 (by kernel_rfl)).trans rfl)
        · cases ho
          exact run_move W (.tmp 0) rfl ((hout 0 (by kernel_rfl)).trans rfl)
        · cases ho
          exact run_move W (.tmp 2) rfl ((hout 2 (by kernel_rfl)).trans rfl)
        · cases ho
          exact run_idx W (.tmp 93) (.tmp 94) rfl (hev 1 93 (by kernel_rfl) rfl) (hev 2 94 (by kernel_rfl) rfl) iam
        · exact absurd rfl k1
        · cases ho
          exact run_move W (.tmp 0) rfl ((hout 0 (by kernel_rfl)).trans rfl)
        · cases ho
          exact run_move W (.tmp 16) rfl ((hout 16 (by kernel_rfl)).trans rfl)
        · cases ho
          exact run_idx W (.tmp 97) (.tmp 98) rfl (hev 5 97 (by kernel_rfl) rfl) (hev 6 98 (by kernel_rfl) rfl) iah
        · exact absurd rfl k2
        · exact absurd rfl k3
        · cases ho
          exact run_lss0 W (.tmp 101) rfl (hev 9 101 (by kernel_rfl) rfl)
        · cases ho
          exact run_not W (.tmp 102) rfl (hev 10 102 (by kernel_rfl) rfl)
        · cases ho
      · intro w2 hrow hb2
        rw [HGm.out, HGh.out]
        have hbe : Below w.heap.size w w2 := hbel.trans (hb2.mono hbel.size)
        have HRW := Lib.hid hrow
        clear hpl hql iah iam hrow eh
        cases ht : decide (cf y xv < 0)
        · have HI3 := Lib.hid (HF.out ht)
          clear ht HT HF
          simp only [putP, Exit.then, Act.put, List.setIfInBounds_toArray, List.set_cons_zero, List.set_cons_succ, Bool.not_false]
          go_wp2
          go_roundw
          case rel => exact ⟨h + 1, j, by go_num, rfl, by omega, by omega, hj, HI3, HRW, hbe⟩
          case measure => simp [intOf]; omega
        · have HI3 := Lib.hid (HT.out ht)
          clear ht HT HF
          simp only [putP, Exit.then, Act.put, List.setIfInBounds_toArray, List.set_cons_zero, List.set_cons_succ, Bool.not_true]
          go_wp2
          go_roundw
          case rel => exact ⟨i, h, rfl, rfl, hi, hi1, by omega, HI3, HRW, hbe⟩
          case measure => simp [intOf]; omega
    · obtain rfl : i = j := by omega
      have hs0 := hbel.size
      have HT : Hid (A ++ (mg (ltc cf) X [y] ++ B) = A ++ (X.take (i - a) ++ (y :: (X.drop (i - a) ++ B)))) := Lib.hid (by
        have e := mg_one (lt := ltc cf) (P := X.take (i - a)) (Q := X.drop (i - a)) (x := y) (fun p hp => by
          obtain ⟨k, hk, _, rfl⟩ := mem_take hp
          exact HI.out.1 k (by omega)) (fun q hq => by
          obtain ⟨k, hk, hk2, rfl⟩ := mem_drop hq
          exact HI.out.2 k (by omega) hk2)
        rw [List.take_append_drop] at e
        rw [e]
        simp)
      have HXl : Hid (m = a + X.length) := HM
      go_wp2
      go_loopw [17] (fun vk wk => ∃ k : Nat, vk = .int .i64 (k : Int) ∧ i ≤ k ∧ k ≤ m ∧ Hid (RowE c wk base g cap (A ++ (X.take (k - a) ++ (y :: (X.drop (k - a) ++ B))))) ∧ Only g wr wk) (fun vk _ => (intOf vk).toNat)
      case atStart => exact ⟨m, rfl, hj, Nat.le_refl _, Lib.hid (by rw [List.take_of_length_le (by have := HXl.out; omega), List.drop_eq_nil_of_le (by have := HXl.out; omega)]; simpa using HR.out), Only.refl _ _⟩
      case round =>
        obtain ⟨k, rfl, hik, hkm, HR2, honly⟩ := hrel
        by_cases hlt2 : i < k
        · have i2 : (i : Int) < (k : Int) := by omega
          obtain ⟨dk, hdk⟩ : ∃ dk, dk = A ++ (X.take (k - a) ++ (y :: (X.drop (k - a) ++ B))) := ⟨_, rfl⟩
          have hkX : k - 1 - a < X.length := by have := HXl.out; omega
          have hdl : dk.length = N := by
            rw [hdk, ← HN.out]
            simp
            omega
          have Hsw : Hid (sw dk k (k - 1) = A ++ (X.take (k - 1 - a) ++ (y :: (X.drop (k - 1 - a) ++ B)))) := Lib.hid (by
            have e1 : dk = (A ++ X.take (k - 1 - a)) ++ gt X (k - 1 - a) :: ([] ++ y :: (X.drop (k - a) ++ B)) := by
              rw [hdk, show k - a = k - 1 - a + 1 by omega, take_gt hkX]
              simp
            have hA := HA.out
            rw [sw_comm dk (show k ≠ k - 1 by omega), e1, sw_mid _ _ _ _ _ (by rw [List.length_append, List.length_take]; omega) (by rw [List.length_append, List.length_take, List.length_nil]; omega)]
            rw [drop_gt hkX, show k - 1 - a + 1 = k - a by omega]
            simp)
          rw [← hdk] at HR2
          clear hdk hkX
          have HR : Hid (RowE c wr base g cap dk) := HR2
          have kw1 : IntKind.i64.wrap ((k : Int) - 1) = (k : Int) - 1 := IntWalk.i64_in _ (by omega)
          have ia0 := fun W => idx_run (g := g) (cap := cap) (n := N) W (i := k) (by omega) (x := (k : Int)) rfl
          have ia1 := fun W => idx_run (g := g) (cap := cap) (n := N) W (i := k - 1) (by omega) (x := (k : Int) - 1) (by omega)
          have hp2 : k - 1 < dk.length := by omega
          have hp1 : k < dk.length := by omega
          clear hdl
          go_wp2_with fail
          refine wp_swap (by kernel_rfl) (by kernel_rfl) c H1.out base g cap (dk) (k) (k - 1) (by omega) (by omega) HR.out 37 _ Try.underlying37 (by kernel_rfl)
            (fun i => (#[.slice (some ⟨g, 0, none⟩) N cap, .int .i64 (k : Int), .slice (some ⟨g, 0, none⟩) N cap, .int .i64 (k : Int), .int .i64 ((k : Int) - 1), .slice (some ⟨g, 0, none⟩) N cap, .int .i64 (k : Int), .int .i64 ((k : Int) - 1), .pointer (some ⟨g, (k - 1) * 9, none⟩), .agg (nine c (gt dk (k - 1))).toArray, .slice (some ⟨g, 0, none⟩) N cap, .int .i64 (k : Int), .pointer (some ⟨g, k * 9, none⟩), .agg (nine c (gt dk k)).toArray, .pointer (some ⟨g, k * 9, none⟩), undef, .pointer (some ⟨g, (k - 1) * 9, none⟩), undef] : Array Value).getD i undef) 9 13 15 17 8 12 14 16 121 125 127 128 122 126 rfl rfl rfl rfl rfl rfl ⟨_, rfl, rfl⟩ ⟨_, rfl, rfl⟩ ⟨_, rfl, rfl, rfl⟩ ⟨_, rfl, rfl, rfl⟩ (by exact ⟨rfl, rfl, rfl, rfl, rfl, rfl⟩) (by kernel_rfl) (by decide) ?_ [(some 113, .slice (some ⟨g, 0, none⟩) N cap), (some 114, .int .i64 (k : Int)), (some 115, .slice (some ⟨g, 0, none⟩) N cap), (some 116, .int .i64 (k : Int)), (some 117, .int .i64 ((k : Int) - 1)), (some 118, .slice (some ⟨g, 0, none⟩) N cap), (some 119, .int .i64 (k : Int)), (some 120, .int .i64 ((k : Int) - 1)), (some 121, .pointer (some ⟨g, (k - 1) * 9, none⟩)), (some 122, .agg (nine c (gt dk (k - 1))).toArray), (some 123, .slice (some ⟨g, 0, none⟩) N cap), (some 124, .int .i64 (k : Int)), (some 125, .pointer (some ⟨g, k * 9, none⟩)), (some 126, .agg (nine c (gt dk k)).toArray), (some 127, .pointer (some ⟨g, k * 9, none⟩)), (none, undef), (some 128, .pointer (some ⟨g, (k - 1) * 9, none⟩)), (none, undef)] rfl ?_ (by exact ⟨by decide, by decide⟩)
          · intro i o ho k1 k2 k3 k4 b' W hev hout
            rcases i with _ | _ | _ | _ | _ | _ | _ | _ | _ | _ | _ | _ | _ | _ | _ | _ | _ | _ | i
            · cases ho
              exact run_move W (.tmp 0) rfl ((hout 0 (by kernel_rfl)).trans rfl)
            · cases ho
              exact run_move W (.tmp 17) rfl ((hout 17 (by kernel_rfl)).trans rfl)
            · cases ho
              exact run_move W (.tmp 0) rfl ((hout 0 (by kernel_rfl)).trans rfl)
            · cases ho
              exact run_move W (.tmp 17) rfl ((hout 17 (by kernel_rfl)).trans rfl)
            · cases ho
              exact run_sub W (.tmp 116) (.const (.int .i64 1)) rfl (hev 3 116 (by kernel_rfl) (by decide) (by decide) rfl) rfl kw1
            · cases ho
              exact run_move W (.tmp 0) rfl ((hout 0 (by kernel_rfl)).trans rfl)
            · cases ho
              exact run_move W (.tmp 17) rfl ((hout 17 (by kernel_rfl)).trans rfl)
            · cases ho
              exact run_sub W (.tmp 119) (.const (.int .i64 1)) rfl (hev 6 119 (by kernel_rfl) (by decide) (by decide) rfl) rfl kw1
            · cases ho
              exact run_idx W (.tmp 118) (.tmp 120) rfl (hev 5 118 (by kernel_rfl) (by decide) (by decide) rfl) (hev 7 120 (by kernel_rfl) (by decide) (by decide) rfl) ia1
            · exact absurd rfl k1
            · cases ho
              exact run_move W (.tmp 0) rfl ((hout 0 (by kernel_rfl)).trans rfl)
            · cases ho
              exact run_move W (.tmp 17) rfl ((hout 17 (by kernel_rfl)).trans rfl)
            · cases ho
              exact run_idx W (.tmp 123) (.tmp 124) rfl (hev 10 123 (by kernel_rfl) (by decide) (by decide) rfl) (hev 11 124 (by kernel_rfl) (by decide) (by decide) rfl) ia0
            · exact absurd rfl k2
            · cases ho
              exact run_idx W (.tmp 113) (.tmp 114) rfl (hev 0 113 (by kernel_rfl) (by decide) (by decide) rfl) (hev 1 114 (by kernel_rfl) (by decide) (by decide) rfl) ia0
            · exact absurd rfl k3
            · cases ho
              exact run_idx W (.tmp 115) (.tmp 117) rfl (hev 2 115 (by kernel_rfl) (by decide) (by decide) rfl) (hev 4 117 (by kernel_rfl) (by decide) (by decide) rfl) ia1
            · exact absurd rfl k4
            · cases ho
          · intro w3 hrow honly2
            have HR3 : Hid (RowE c w3 base g cap (A ++ (X.take (k - 1 - a) ++ (y :: (X.drop (k - 1 - a) ++ B))))) := Lib.hid (by rw [← Hsw.out]; exact hrow)
            clear hp1 hp2 hrow ia0 ia1
            simp only [putP, Exit.then, Act.put, List.setIfInBounds_toArray, List.set_cons_zero, List.set_cons_succ]
            go_wp2
            go_roundw
            case rel => exact ⟨k - 1, by go_num, by omega, by omega, HR3, honly.trans honly2⟩
            case measure => simp [intOf]; omega
        · obtain rfl : i = k := by omega
          have i2 : ¬ (i : Int) < (i : Int) := by omega
          have HR3 : Hid (RowE c wr base g cap (A ++ (mg (ltc cf) X [y] ++ B))) := Lib.hid (by rw [HT.out]; exact HR2.out)
          go_wp2
          refine bodyPost_ret (results_none rfl _ _ _) rfl ?_
          exact ⟨rfl, HR3.out, (Only.of_below hbel).trans honly⟩
end Go.Proofs.Ytennddlihcamnaa.Sr

namespace Go.Proofs.Ytennddlihcamnaa.Sr
set_option linter.unusedVariables false
set_option linter.unusedSimpArgs false
open Go.Proofs.Ytennddlihcamnaa.So
open Go.RowKit
variable {α : Type} [Inhabited α]

omit [Inhabited α] in
theorem srt_take {lt : α → α → Bool} {X : List α} (h : Srt lt X) (k : Nat) : Srt lt (X.take k) := List.Pairwise.sublist (List.take_sublist _ _) h
omit [Inhabited α] in
theorem srt_drop {lt : α → α → Bool} {X : List α} (h : Srt lt X) (k : Nat) : Srt lt (X.drop k) := List.Pairwise.sublist (List.drop_sublist _ _) h

/-- The place where both lists are parted: what the halving search finds. -/
theorem part_mg {lt : α → α → Bool} (hO : Swo lt) {X Y : List α} (hX : Srt lt X) (hY : Srt lt Y) (s t : Nat) (hs : s ≤ X.length) (ht : t ≤ Y.length)
    (h1 : s = 0 ∨ Y.length ≤ t ∨ lt (gt Y t) (gt X (s - 1)) = false) (h2 : X.length ≤ s ∨ t = 0 ∨ lt (gt Y (t - 1)) (gt X s) = true) :
    mg lt X Y = mg lt (X.take s) (Y.take t) ++ mg lt (X.drop s) (Y.drop t) := by
  have e := mg_split (lt := lt) (X.take s) (Y.take t) (X.drop s) (Y.drop t) (fun x hx y hy => by
    obtain ⟨i, hi, hi2, rfl⟩ := mem_take hx
    obtain ⟨j, hj, hj2, rfl⟩ := mem_drop hy
    rcases h1 with h | h | h
    · omega
    · omega
    · exact hO.neg _ _ _ (hO.neg _ _ _ (srt_gt hO hY (i := t) (by omega) hj2) h) (srt_gt hO hX (i := i) (j := s - 1) (by omega) (by omega))) (fun x hx y hy => by
    obtain ⟨i, hi, hi2, rfl⟩ := mem_drop hx
    obtain ⟨j, hj, hj2, rfl⟩ := mem_take hy
    rcases h2 with h | h | h
    · omega
    · omega
    · exact hO.le_lt (srt_gt hO hY (i := j) (j := t - 1) (by omega) (by omega)) (hO.lt_le h (srt_gt hO hX (i := s) (by omega) hi2)))
  rw [List.take_append_drop, List.take_append_drop] at e
  exact e

/-- The contract, at lists of at most K things together. -/
def SymAt (c : α → Nat → Value) (cf : α → α → Int) (gc : FuncId) (N base g cap K : Nat) : Prop :=
  ∀ (w : World) (A X Y B : List α) (a m b : Nat), X.length + Y.length ≤ K → 0 < X.length → 0 < Y.length → RowE c w base g cap (A ++ (X ++ (Y ++ B))) → (A ++ (X ++ (Y ++ B))).length = N → a = A.length → m = a + X.length → b = m + Y.length → Srt (ltc cf) X → Srt (ltc cf) Y →
    Calls Try.prog 69 #[.slice (some ⟨g, 0, none⟩) N cap, .int .i64 (a : Int), .int .i64 (m : Int), .int .i64 (b : Int), .func (.func gc) #[] #[]] w fun e w' =>
      e = .returned (.tuple #[]) ∧ RowE c w' base g cap (A ++ (mg (ltc cf) X Y ++ B)) ∧ Only g w w'

set_option maxRecDepth 100000 in
set_option maxHeartbeats 6400000 in
theorem symC (c : α → Nat → Value) (h1 : ∀ x j, (c x j).oneCell' = true) (cf : α → α → Int) (gc : FuncId) (hcmp : CmpE c gc cf) (hent : ∀ args W, (callFunc gc args).run Try.prog W = .ok (.enter gc args) W) (hO : Swo (ltc cf))
    (N : Nat) (base g cap K : Nat) (hd : N ≤ 4398046511104) (ih : SymAt c cf gc N base g cap K) (w : World) (A X Y B : List α) (a m b : Nat) (hK : X.length + Y.length ≤ K + 1) (hX2 : 2 ≤ X.length) (hY2 : 2 ≤ Y.length) (h : RowE c w base g cap (A ++ (X ++ (Y ++ B)))) (hN : (A ++ (X ++ (Y ++ B))).length = N) (ha : a = A.length) (hm : m = a + X.length) (hb : b = m + Y.length) (hX : Srt (ltc cf) X) (hY : Srt (ltc cf) Y) :
    Calls Try.prog 69 #[.slice (some ⟨g, 0, none⟩) N cap, .int .i64 (a : Int), .int .i64 (m : Int), .int .i64 (b : Int), .func (.func gc) #[] #[]] w fun e w' =>
      e = .returned (.tuple #[]) ∧ RowE c w' base g cap (A ++ (mg (ltc cf) X Y ++ B)) ∧ Only g w w' := by
  have H1 := Lib.hid h1
  have Hcmp : Hid (CmpE c gc cf) := Lib.hid hcmp
  have Hent := Lib.hid hent
  have HR0 := Lib.hid h
  have HN := Lib.hid hN
  have HA := Lib.hid ha
  have HM := Lib.hid hm
  have HB := Lib.hid hb
  have HK := Lib.hid hK
  have HI := Lib.hid ih
  have hbN : b ≤ N := by rw [← hN, hb, hm, ha]; simp; omega
  have ham : a + 2 ≤ m := by omega
  have hmb : m + 2 ≤ b := by omega
  have em : ((m : Int) - (a : Int) == 1) = false := eqf (by omega)
  have eb : ((b : Int) - (m : Int) == 1) = false := eqf (by omega)
  obtain ⟨mid, hmid⟩ : ∃ mid : Nat, mid = (a + b) / 2 := ⟨_, rfl⟩
  have emid : ((a : Int) + (b : Int)) / 2 = (mid : Int) := by omega
  have hm1 : a + b < 2 * mid + 2 := by omega
  have hm2 : 2 * mid ≤ a + b := by omega
  have HX := Lib.hid hX
  have HY := Lib.hid hY
  clear h1 hcmp hent h hN ha hm hb hX hY hX2 hY2 hK ih hmid
  go_enter Try.func69, Try.ntmps69
  go_upto_if 140 with (fail)
  go_cut [20, 21] (fun vs vr wx => ∃ lo hi : Nat, vs = .int .i64 (lo : Int) ∧ vr = .int .i64 (hi : Int) ∧ lo ≤ hi ∧ a ≤ lo ∧ hi ≤ m ∧ hi ≤ mid ∧ mid + m ≤ lo + b ∧ Hid ((lo = a ∨ lo + b = mid + m) ∧ (hi = m ∨ hi = mid)) ∧ wx = w)
  case first =>
    by_cases hmm : mid < m
    · have i1 : (mid : Int) < (m : Int) := by omega
      have e1 : (mid : Int) + (m : Int) - (b : Int) = ((mid + m - b : Nat) : Int) := by omega
      go_wp2
      go_meet
      case rel => exact ⟨mid + m - b, mid, by first | rfl | (rw [e1]), rfl, by omega, by omega, by omega, Nat.le_refl _, by omega, Lib.hid ⟨.inr (by omega), .inr rfl⟩, rfl⟩
    · have i1 : ¬ (mid : Int) < (m : Int) := by omega
      go_wp2
      go_meet
      case rel => exact ⟨a, m, rfl, rfl, by omega, Nat.le_refl _, Nat.le_refl _, by omega, by omega, Lib.hid ⟨.inl rfl, .inl rfl⟩, rfl⟩
  case rest =>
    obtain ⟨lo, hi, rfl, rfl, hlh, halo, hhm, hhmid, hlob, HLH, rfl⟩ := hcut
    obtain ⟨p, hp⟩ : ∃ p : Nat, p + 1 = mid + m := ⟨mid + m - 1, by omega⟩
    have ep : (mid : Int) + (m : Int) - 1 = (p : Int) := by omega
    have hp1 : p + 1 ≤ mid + m := by omega
    have hp2 : mid + m ≤ p + 1 := by omega
    clear hp
    go_wp2
    go_loopw [20, 21] (fun vi vj wr => ∃ (i j : Nat), vi = .int .i64 (i : Int) ∧ vj = .int .i64 (j : Int) ∧ lo ≤ i ∧ i ≤ j ∧ j ≤ hi ∧ Hid ((i = lo ∨ ltc cf (gt Y (p + 1 - i - m)) (gt X (i - 1 - a)) = false) ∧ (j = hi ∨ ltc cf (gt Y (p - j - m)) (gt X (j - a)) = true)) ∧ Hid (RowE c wr base g cap (A ++ (X ++ (Y ++ B)))) ∧ Below wc.heap.size wc wr) (fun vi vj _ => (intOf vj).toNat - (intOf vi).toNat)
    case atStart => exact ⟨lo, hi, rfl, rfl, Nat.le_refl _, hlh, Nat.le_refl _, Lib.hid ⟨.inl rfl, .inl rfl⟩, Lib.hid HR0.out, Below.refl _ _⟩
    case round =>
      obtain ⟨i, j, rfl, rfl, hi0, hij, hj, HIJ, HR, hbel⟩ := hrel
      by_cases hlt : i < j
      · obtain ⟨h, hh⟩ : ∃ h : Nat, h = (i + j) / 2 := ⟨_, rfl⟩
        have eh : ((i : Int) + (j : Int)) / 2 = (h : Int) := by omega
        have hi1 : i ≤ h := by omega
        have hh1 : h < j := by omega
        clear hh
        have hph : h ≤ p := by omega
        have HGp : Hid (gt (A ++ (X ++ (Y ++ B))) (p - h) = gt Y (p - h - m)) := Lib.hid (by
          have hA := HA.out
          have hM := HM.out
          have hB := HB.out
          have e : A ++ (X ++ (Y ++ B)) = (A ++ X) ++ (Y ++ B) := by simp
          rw [e]
          conv => lhs; rw [show p - h = (A ++ X).length + (p - h - m) by rw [List.length_append]; omega]
          rw [gt_app_right, gt_app_left (by omega)])
        have HGh : Hid (gt (A ++ (X ++ (Y ++ B))) h = gt X (h - a)) := Lib.hid (by
          have hA := HA.out
          have hM := HM.out
          conv => lhs; rw [show h = A.length + (h - a) by omega]
          rw [gt_app_right, gt_app_left (by omega)])
        have HF : Hid (ltc cf (gt Y (p - h - m)) (gt X (h - a)) = false → ltc cf (gt Y (p + 1 - (h + 1) - m)) (gt X (h + 1 - 1 - a)) = false) := Lib.hid fun ht => by
          rw [show p + 1 - (h + 1) - m = p - h - m by omega, show h + 1 - 1 - a = h - a by omega]; exact ht
        have HT : Hid (ltc cf (gt Y (p - h - m)) (gt X (h - a)) = true → ltc cf (gt Y (p - h - m)) (gt X (h - a)) = true) := Lib.hid fun ht => ht
        obtain ⟨yv, hyv⟩ : ∃ yv, gt Y (p - h - m) = yv := ⟨_, rfl⟩
        obtain ⟨xv, hxv⟩ : ∃ xv, gt X (h - a) = xv := ⟨_, rfl⟩
        have HYX := Lib.hid (And.intro hyv hxv)
        rw [hyv] at HGp
        rw [hxv] at HGh
        clear hyv hxv
        have hpl : p - h < (A ++ (X ++ (Y ++ B))).length := by rw [HN.out]; omega
        have hql : h < (A ++ (X ++ (Y ++ B))).length := by rw [HN.out]; omega
        have kw1 : IntKind.i64.wrap ((p : Int) - (h : Int)) = (p : Int) - (h : Int) := IntWalk.i64_in _ (by omega)
        have iah := fun W => idx_run (g := g) (cap := cap) (n := N) W (i := h) (by omega) (x := (h : Int)) rfl
        have iap := fun W => idx_run (g := g) (cap := cap) (n := N) W (i := p - h) (by omega) (x := (p : Int) - (h : Int)) (by omega)
        go_wp2_with fail
        refine wp_cmp (by kernel_rfl) (by kernel_rfl) c base g cap (A ++ (X ++ (Y ++ B))) (p - h) (h) (by omega) (by omega) HR.out 37 _ Try.underlying37 (by kernel_rfl)
          (fun i => (#[.func (.func gc) #[] #[], .slice (some ⟨g, 0, none⟩) N cap, .int .i64 (p : Int), .int .i64 (h : Int), .int .i64 ((p : Int) - (h : Int)), .pointer (some ⟨g, (p - h) * 9, none⟩), .agg (nine c (gt (A ++ (X ++ (Y ++ B))) (p - h))).toArray, .slice (some ⟨g, 0, none⟩) N cap, .int .i64 (h : Int), .pointer (some ⟨g, h * 9, none⟩), .agg (nine c (gt (A ++ (X ++ (Y ++ B))) h)).toArray, .int .i64 (cf (gt (A ++ (X ++ (Y ++ B))) (p - h)) (gt (A ++ (X ++ (Y ++ B))) h)), .bool (decide (cf (gt (A ++ (X ++ (Y ++ B))) (p - h)) (gt (A ++ (X ++ (Y ++ B))) h) < 0)), .bool (!(decide (cf (gt (A ++ (X ++ (Y ++ B))) (p - h)) (gt (A ++ (X ++ (Y ++ B))) h) < 0)))] : Array Value).getD i undef) 6 10 11 5 9 0 163 167 164 168 158 _ gc (cf (gt (A ++ (X ++ (Y ++ B))) (p - h)) (gt (A ++ (X ++ (Y ++ B))) (h))) rfl rfl rfl rfl rfl rfl ⟨_, rfl, rfl⟩ ⟨_, rfl, rfl⟩ ⟨_, rfl, rfl⟩ (by exact ⟨rfl, rfl, rfl, rfl, rfl⟩) (by kernel_rfl) (by decide) Hent.out (fun W _ => Hcmp.out W _ _) ?_ [(some 158, .func (.func gc) #[] #[]), (some 159, .slice (some ⟨g, 0, none⟩) N cap), (some 160, .int .i64 (p : Int)), (some 161, .int .i64 (h : Int)), (some 162, .int .i64 ((p : Int) - (h : Int))), (some 163, .pointer (some ⟨g, (p - h) * 9, none⟩)), (some 164, .agg (nine c (gt (A ++ (X ++ (Y ++ B))) (p - h))).toArray), (some 165, .slice (some ⟨g, 0, none⟩) N cap), (some 166, .int .i64 (h : Int)), (some 167, .pointer (some ⟨g, h * 9, none⟩)), (some 168, .agg (nine c (gt (A ++ (X ++ (Y ++ B))) h)).toArray), (some 169, .int .i64 (cf (gt (A ++ (X ++ (Y ++ B))) (p - h)) (gt (A ++ (X ++ (Y ++ B))) h))), (some 170, .bool (decide (cf (gt (A ++ (X ++ (Y ++ B))) (p - h)) (gt (A ++ (X ++ (Y ++ B))) h) < 0))), (some 171, .bool (!(decide (cf (gt (A ++ (X ++ (Y ++ B))) (p - h)) (gt (A ++ (X ++ (Y ++ B))) h) < 0))))] rfl ?_
        · intro i o ho k1 k2 k3 b' W hev hout
          rcases i with _ | _ | _ | _ | _ | _ | _ | _ | _ | _ | _ | _ | _ | _ | i
          · cases ho
            exact run_move W (.tmp 4) rfl ((hout 4 (by kernel_rfl)).trans rfl)
          · cases ho
            exact run_move W (.tmp 0) rfl ((hout 0 (by kernel_rfl)).trans rfl)
          · cases ho
            exact run_move W (.tmp 22) rfl ((hout 22 (by kernel_rfl)).trans rfl)
          · cases ho
            exact run_move W (.tmp 23) rfl ((hout 23 (by kernel_rfl)).trans rfl)
          · cases ho
            exact run_sub W (.tmp 160) (.tmp 161) rfl (hev 2 160 (by kernel_rfl) rfl) (hev 3 161 (by kernel_rfl) rfl) kw1
          · cases ho
            exact run_idx W (.tmp 159) (.tmp 162) rfl (hev 1 159 (by kernel_rfl) rfl) (hev 4 162 (by kernel_rfl) rfl) iap
          · exact absurd rfl k1
          · cases ho
            exact run_move W (.tmp 0) rfl ((hout 0 (by kernel_rfl)).trans rfl)
          · cases ho
            exact run_move W (.tmp 23) rfl ((hout 23 (by kernel_rfl)).trans rfl)
          · cases ho
            exact run_idx W (.tmp 165) (.tmp 166) rfl (hev 7 165 (by kernel_rfl) rfl) (hev 8 166 (by kernel_rfl) rfl) iah
          · exact absurd rfl k2
          · exact absurd rfl k3
          · cases ho
            exact run_lss0 W (.tmp 169) rfl (hev 11 169 (by kernel_rfl) rfl)
          · cases ho
            exact run_not W (.tmp 170) rfl (hev 12 170 (by kernel_rfl) rfl)
          · cases ho
        · intro w2 hrow hb2
          rw [HGp.out, HGh.out]
          have hbe : Below wc.heap.size wc w2 := hbel.trans (hb2.mono hbel.size)
          have HRW := Lib.hid hrow
          clear hpl hql iah iap hrow eh kw1
          cases ht : decide (cf yv xv < 0)
          · have HI3 : Hid ((h + 1 = lo ∨ ltc cf (gt Y (p + 1 - (h + 1) - m)) (gt X (h + 1 - 1 - a)) = false) ∧ (j = hi ∨ ltc cf (gt Y (p - j - m)) (gt X (j - a)) = true)) := Lib.hid ⟨.inr (HF.out (by rw [HYX.out.1, HYX.out.2]; exact ht)), HIJ.out.2⟩
            clear ht HT HF
            simp only [putP, Exit.then, Act.put, List.setIfInBounds_toArray, List.set_cons_zero, List.set_cons_succ, Bool.not_false]
            go_wp2
            go_roundw
            case rel => exact ⟨h + 1, j, by go_num, rfl, by omega, by omega, hj, HI3, HRW, hbe⟩
            case measure => simp [intOf]; omega
          · have HI3 : Hid ((i = lo ∨ ltc cf (gt Y (p + 1 - i - m)) (gt X (i - 1 - a)) = false) ∧ (h = hi ∨ ltc cf (gt Y (p - h - m)) (gt X (h - a)) = true)) := Lib.hid ⟨HIJ.out.1, .inr (by rw [HYX.out.1, HYX.out.2]; exact ht)⟩
            clear ht HT HF
            simp only [putP, Exit.then, Act.put, List.setIfInBounds_toArray, List.set_cons_zero, List.set_cons_succ, Bool.not_true]
            go_wp2
            go_roundw
            case rel => exact ⟨i, h, rfl, rfl, hi0, hi1, by omega, HI3, HRW, hbe⟩
            case measure => simp [intOf]; omega
      · obtain rfl : i = j := by omega
        have hs0 := hbel.size
        obtain ⟨en, hen⟩ : ∃ en : Nat, en + i = mid + m := ⟨mid + m - i, by omega⟩
        have een : (mid : Int) + (m : Int) - (i : Int) = (en : Int) := by omega
        have hen1 : en + i ≤ mid + m := by omega
        have hen2 : mid + m ≤ en + i := by omega
        clear hen
        have HMG : Hid (mg (ltc cf) X Y = mg (ltc cf) (X.take (i - a)) (Y.take (mid - i)) ++ mg (ltc cf) (X.drop (i - a)) (Y.drop (mid - i))) := Lib.hid (by
          have hA := HA.out
          have hM := HM.out
          have hB := HB.out
          obtain ⟨q1, q2⟩ := HLH.out
          obtain ⟨r1, r2⟩ := HIJ.out
          refine part_mg hO HX.out HY.out (i - a) (mid - i) (by omega) (by omega) ?_ ?_
          · rcases r1 with r1 | r1
            · rcases q1 with q1 | q1
              · left; omega
              · right; left; omega
            · by_cases hia : i = a
              · left; omega
              · right; right
                rw [show p + 1 - i - m = mid - i by omega, show i - 1 - a = i - a - 1 by omega] at r1
                exact r1
          · rcases r2 with r2 | r2
            · rcases q2 with q2 | q2
              · left; omega
              · right; left; omega
            · by_cases hia : mid = i
              · right; left; omega
              · right; right
                rw [show p - i - m = mid - i - 1 by omega] at r2
                exact r2)
        have HL : Hid ((X.take (i - a)).length = i - a ∧ (X.drop (i - a)).length = m - i ∧ (Y.take (mid - i)).length = mid - i ∧ (Y.drop (mid - i)).length = b - en) := Lib.hid (by
          have hM := HM.out
          have hB := HB.out
          refine ⟨?_, ?_, ?_, ?_⟩
          · rw [List.length_take]; omega
          · rw [List.length_drop]; omega
          · rw [List.length_take]; omega
          · rw [List.length_drop]; omega)
        have HXS := Lib.hid (And.intro (srt_take HX.out (i - a)) (srt_drop HX.out (i - a)))
        have HYS := Lib.hid (And.intro (srt_take HY.out (mid - i)) (srt_drop HY.out (mid - i)))
        have HR4 : Hid (RowE c wr base g cap (A ++ (X.take (i - a) ++ (X.drop (i - a) ++ (Y.take (mid - i) ++ (Y.drop (mid - i) ++ B)))))) := Lib.hid (by
          rw [← List.append_assoc (X.take (i - a)), List.take_append_drop, ← List.append_assoc (Y.take (mid - i)), List.take_append_drop]
          exact HR.out)
        have HN4 : Hid ((A ++ (X.take (i - a) ++ (X.drop (i - a) ++ (Y.take (mid - i) ++ (Y.drop (mid - i) ++ B))))).length = N) := Lib.hid (by
          rw [← List.append_assoc (X.take (i - a)), List.take_append_drop, ← List.append_assoc (Y.take (mid - i)), List.take_append_drop]
          exact HN.out)
        generalize X.take (i - a) = X1 at *
        generalize X.drop (i - a) = X2 at *
        generalize Y.take (mid - i) = Y1 at *
        generalize Y.drop (mid - i) = Y2 at *
        clear HR HIJ
        have Hen : Hid (en + i = mid + m) := Lib.hid (by omega)
        have HROT : Hid (i < m → i < mid → Calls Try.prog 82 #[.slice (some ⟨g, 0, none⟩) N cap, .int .i64 (i : Int), .int .i64 (m : Int), .int .i64 (en : Int), .func (.func gc) #[] #[]] wr fun e w' =>
            e = .returned (.tuple #[]) ∧ RowE c w' base g cap (A ++ (X1 ++ (Y1 ++ (X2 ++ (Y2 ++ B))))) ∧ Only g wr w') := Lib.hid fun q1 q2 => by
          have hL := HL.out
          have hA := HA.out
          have hE := Hen.out
          have := rotate_calls c H1.out N base g cap i m en (.func (.func gc) #[] #[]) wr (A ++ X1) X2 Y1 (Y2 ++ B) (by rw [List.append_assoc]; exact HR4.out) (by rw [List.append_assoc]; exact HN4.out) (by rw [List.length_append]; omega) (by omega) (by omega) (by omega) (by omega) hd
          rwa [List.append_assoc] at this
        have HE0 : Hid ((m ≤ i ∨ mid ≤ i) → RowE c wr base g cap (A ++ (X1 ++ (Y1 ++ (X2 ++ (Y2 ++ B)))))) := Lib.hid fun q => by
          have hL := HL.out
          have := HR4.out
          rcases q with q | q
          · have hX0 : X2 = [] := List.eq_nil_of_length_eq_zero (by omega)
            rw [hX0] at this ⊢
            exact this
          · have hY0 : Y1 = [] := List.eq_nil_of_length_eq_zero (by omega)
            rw [hY0] at this ⊢
            exact this
        have HN5 : Hid ((A ++ (X1 ++ (Y1 ++ (X2 ++ (Y2 ++ B))))).length = N) := Lib.hid (by
          have := HN4.out
          simp only [List.length_append] at this ⊢
          omega)
        have HS1 : Hid (∀ W, RowE c W base g cap (A ++ (X1 ++ (Y1 ++ (X2 ++ (Y2 ++ B))))) → a < i → i < mid → Calls Try.prog 69 #[.slice (some ⟨g, 0, none⟩) N cap, .int .i64 (a : Int), .int .i64 (i : Int), .int .i64 (mid : Int), .func (.func gc) #[] #[]] W fun e w' =>
            e = .returned (.tuple #[]) ∧ RowE c w' base g cap (A ++ (mg (ltc cf) X1 Y1 ++ (X2 ++ (Y2 ++ B)))) ∧ Only g W w') := Lib.hid fun W hW q1 q2 => by
          have hL := HL.out
          have hA := HA.out
          have hM := HM.out
          have hB := HB.out
          have hK := HK.out
          exact HI.out W A X1 Y1 (X2 ++ (Y2 ++ B)) a i mid (by omega) (by omega) (by omega) hW HN5.out hA (by omega) (by omega) HXS.out.1 HYS.out.1
        have HE1 : Hid (∀ W, RowE c W base g cap (A ++ (X1 ++ (Y1 ++ (X2 ++ (Y2 ++ B))))) → (i ≤ a ∨ mid ≤ i) → RowE c W base g cap (A ++ (mg (ltc cf) X1 Y1 ++ (X2 ++ (Y2 ++ B))))) := Lib.hid fun W hW q => by
          have hL := HL.out
          rcases q with q | q
          · have hX0 : X1 = [] := List.eq_nil_of_length_eq_zero (by omega)
            rw [hX0] at hW ⊢
            rw [mg_nil_l]
            exact hW
          · have hY0 : Y1 = [] := List.eq_nil_of_length_eq_zero (by omega)
            rw [hY0] at hW ⊢
            rw [mg_nil]
            exact hW
        have HS2 : Hid (∀ W, RowE c W base g cap (A ++ (mg (ltc cf) X1 Y1 ++ (X2 ++ (Y2 ++ B)))) → i < m → en < b → Calls Try.prog 69 #[.slice (some ⟨g, 0, none⟩) N cap, .int .i64 (mid : Int), .int .i64 (en : Int), .int .i64 (b : Int), .func (.func gc) #[] #[]] W fun e w' =>
            e = .returned (.tuple #[]) ∧ RowE c w' base g cap (A ++ (mg (ltc cf) X Y ++ B)) ∧ Only g W w') := Lib.hid fun W hW q1 q2 => by
          have hL := HL.out
          have hA := HA.out
          have hM := HM.out
          have hB := HB.out
          have hK := HK.out
          have hE := Hen.out
          have hml := mg_len (lt := ltc cf) X1 Y1
          have hN6 : ((A ++ mg (ltc cf) X1 Y1) ++ (X2 ++ (Y2 ++ B))).length = N := by
            have := HN5.out
            simp only [List.length_append] at this ⊢
            omega
          have := HI.out W (A ++ mg (ltc cf) X1 Y1) X2 Y2 B mid en b (by omega) (by omega) (by omega) (by rw [List.append_assoc]; exact hW) hN6 (by rw [List.length_append]; omega) (by omega) (by omega) HXS.out.2 HYS.out.2
          rw [HMG.out, List.append_assoc (mg (ltc cf) X1 Y1)]
          rwa [List.append_assoc] at this
        have HE2 : Hid (∀ W, RowE c W base g cap (A ++ (mg (ltc cf) X1 Y1 ++ (X2 ++ (Y2 ++ B)))) → (m ≤ i ∨ b ≤ en) → RowE c W base g cap (A ++ (mg (ltc cf) X Y ++ B))) := Lib.hid fun W hW q => by
          have hL := HL.out
          have hE := Hen.out
          rw [HMG.out, List.append_assoc (mg (ltc cf) X1 Y1)]
          rcases q with q | q
          · have hX0 : X2 = [] := List.eq_nil_of_length_eq_zero (by omega)
            rw [hX0] at hW ⊢
            rw [mg_nil_l]
            exact hW
          · have hY0 : Y2 = [] := List.eq_nil_of_length_eq_zero (by omega)
            rw [hY0] at hW ⊢
            rw [mg_nil]
            exact hW
        clear HR4 HN4 HMG HXS HYS HL HX HY HN5
        rcases Nat.lt_or_ge i m with p1 | p1 <;> rcases Nat.lt_or_ge i mid with p2 | p2 <;> rcases Nat.lt_or_ge a i with p3 | p3 <;> rcases Nat.lt_or_ge en b with p4 | p4
        · have i1 : (i : Int) < (m : Int) := by omega
          have d2 : decide ((m : Int) < (en : Int)) = true := dct (by omega)
          have i3 : (a : Int) < (i : Int) := by omega
          have d4 : decide ((i : Int) < (mid : Int)) = true := dct (by omega)
          have i5 : (mid : Int) < (en : Int) := by omega
          have d6 : decide ((en : Int) < (b : Int)) = true := dct (by omega)
          have HC0 := Lib.hid (HROT.out p1 p2)
          go_wp2_with fail
          refine HC0.out.mono ?_
          rintro e w2 ⟨rfl, hr2, ho2⟩
          have HR5 := Lib.hid hr2
          have HC1 := Lib.hid (HS1.out _ HR5.out p3 p2)
          go_wp2_with fail
          refine HC1.out.mono ?_
          rintro e w3 ⟨rfl, hr3, ho3⟩
          have HR6 := Lib.hid hr3
          have ho23 := ho2.trans ho3
          have HC2 := Lib.hid (HS2.out _ HR6.out p1 p4)
          go_wp2_with fail
          refine HC2.out.mono ?_
          rintro e w4 ⟨rfl, hr4, ho4⟩
          have HR7 := Lib.hid hr4
          have ho24 := ho23.trans ho4
          go_wp2
          go_end0
          exact ⟨rfl, HR7.out, (Only.of_below hbel).trans ho24⟩
        · have i1 : (i : Int) < (m : Int) := by omega
          have d2 : decide ((m : Int) < (en : Int)) = true := dct (by omega)
          have i3 : (a : Int) < (i : Int) := by omega
          have d4 : decide ((i : Int) < (mid : Int)) = true := dct (by omega)
          have i5 : (mid : Int) < (en : Int) := by omega
          have d6 : decide ((en : Int) < (b : Int)) = false := dcf (by omega)
          have HC0 := Lib.hid (HROT.out p1 p2)
          go_wp2_with fail
          refine HC0.out.mono ?_
          rintro e w2 ⟨rfl, hr2, ho2⟩
          have HR5 := Lib.hid hr2
          have HC1 := Lib.hid (HS1.out _ HR5.out p3 p2)
          go_wp2_with fail
          refine HC1.out.mono ?_
          rintro e w3 ⟨rfl, hr3, ho3⟩
          have HR6 := Lib.hid hr3
          have ho23 := ho2.trans ho3
          have HR7 := Lib.hid (HE2.out _ HR6.out (by omega))
          have ho24 := ho23
          go_wp2
          go_end0
          exact ⟨rfl, HR7.out, (Only.of_below hbel).trans ho24⟩
        · have i1 : (i : Int) < (m : Int) := by omega
          have d2 : decide ((m : Int) < (en : Int)) = true := dct (by omega)
          have i3 : ¬ (a : Int) < (i : Int) := by omega
          have d4 : decide ((i : Int) < (mid : Int)) = true := dct (by omega)
          have i5 : (mid : Int) < (en : Int) := by omega
          have d6 : decide ((en : Int) < (b : Int)) = true := dct (by omega)
          have HC0 := Lib.hid (HROT.out p1 p2)
          go_wp2_with fail
          refine HC0.out.mono ?_
          rintro e w2 ⟨rfl, hr2, ho2⟩
          have HR5 := Lib.hid hr2
          have HR6 := Lib.hid (HE1.out _ HR5.out (by omega))
          have ho23 := ho2
          have HC2 := Lib.hid (HS2.out _ HR6.out p1 p4)
          go_wp2_with fail
          refine HC2.out.mono ?_
          rintro e w4 ⟨rfl, hr4, ho4⟩
          have HR7 := Lib.hid hr4
          have ho24 := ho23.trans ho4
          go_wp2
          go_end0
          exact ⟨rfl, HR7.out, (Only.of_below hbel).trans ho24⟩
        · have i1 : (i : Int) < (m : Int) := by omega
          have d2 : decide ((m : Int) < (en : Int)) = true := dct (by omega)
          have i3 : ¬ (a : Int) < (i : Int) := by omega
          have d4 : decide ((i : Int) < (mid : Int)) = true := dct (by omega)
          have i5 : (mid : Int) < (en : Int) := by omega
          have d6 : decide ((en : Int) < (b : Int)) = false := dcf (by omega)
          have HC0 := Lib.hid (HROT.out p1 p2)
          go_wp2_with fail
          refine HC0.out.mono ?_
          rintro e w2 ⟨rfl, hr2, ho2⟩
          have HR5 := Lib.hid hr2
          have HR6 := Lib.hid (HE1.out _ HR5.out (by omega))
          have ho23 := ho2
          have HR7 := Lib.hid (HE2.out _ HR6.out (by omega))
          have ho24 := ho23
          go_wp2
          go_end0
          exact ⟨rfl, HR7.out, (Only.of_below hbel).trans ho24⟩
        · have i1 : (i : Int) < (m : Int) := by omega
          have d2 : decide ((m : Int) < (en : Int)) = false := dcf (by omega)
          have i3 : (a : Int) < (i : Int) := by omega
          have d4 : decide ((i : Int) < (mid : Int)) = false := dcf (by omega)
          have i5 : (mid : Int) < (en : Int) := by omega
          have d6 : decide ((en : Int) < (b : Int)) = true := dct (by omega)
          have HR5 := Lib.hid (HE0.out (by omega))
          have ho2 := Only.refl g wr
          have HR6 := Lib.hid (HE1.out _ HR5.out (by omega))
          have ho23 := ho2
          have HC2 := Lib.hid (HS2.out _ HR6.out p1 p4)
          go_wp2_with fail
          refine HC2.out.mono ?_
          rintro e w4 ⟨rfl, hr4, ho4⟩
          have HR7 := Lib.hid hr4
          have ho24 := ho23.trans ho4
          go_wp2
          go_end0
          exact ⟨rfl, HR7.out, (Only.of_below hbel).trans ho24⟩
        · exfalso; omega
        · exfalso; omega
        · exfalso; omega
        · have i1 : ¬ (i : Int) < (m : Int) := by omega
          have d2 : decide ((m : Int) < (en : Int)) = true := dct (by omega)
          have i3 : (a : Int) < (i : Int) := by omega
          have d4 : decide ((i : Int) < (mid : Int)) = true := dct (by omega)
          have i5 : ¬ (mid : Int) < (en : Int) := by omega
          have d6 : decide ((en : Int) < (b : Int)) = true := dct (by omega)
          have HR5 := Lib.hid (HE0.out (by omega))
          have ho2 := Only.refl g wr
          have HC1 := Lib.hid (HS1.out _ HR5.out p3 p2)
          go_wp2_with fail
          refine HC1.out.mono ?_
          rintro e w3 ⟨rfl, hr3, ho3⟩
          have HR6 := Lib.hid hr3
          have ho23 := ho2.trans ho3
          have HR7 := Lib.hid (HE2.out _ HR6.out (by omega))
          have ho24 := ho23
          go_wp2
          go_end0
          exact ⟨rfl, HR7.out, (Only.of_below hbel).trans ho24⟩
        · exfalso; omega
        · exfalso; omega
        · exfalso; omega
        · have i1 : ¬ (i : Int) < (m : Int) := by omega
          have d2 : decide ((m : Int) < (en : Int)) = false := dcf (by omega)
          have i3 : (a : Int) < (i : Int) := by omega
          have d4 : decide ((i : Int) < (mid : Int)) = false := dcf (by omega)
          have i5 : ¬ (mid : Int) < (en : Int) := by omega
          have d6 : decide ((en : Int) < (b : Int)) = true := dct (by omega)
          have HR5 := Lib.hid (HE0.out (by omega))
          have ho2 := Only.refl g wr
          have HR6 := Lib.hid (HE1.out _ HR5.out (by omega))
          have ho23 := ho2
          have HR7 := Lib.hid (HE2.out _ HR6.out (by omega))
          have ho24 := ho23
          go_wp2
          go_end0
          exact ⟨rfl, HR7.out, (Only.of_below hbel).trans ho24⟩
        · exfalso; omega
        · exfalso; omega
        · exfalso; omega
end Go.Proofs.Ytennddlihcamnaa.Sr

namespace Go.Proofs.Ytennddlihcamnaa.Sr
set_option linter.unusedVariables false
set_option linter.unusedSimpArgs false
open Go.Proofs.Ytennddlihcamnaa.So
open Go.RowKit
section
variable {P : Program} {ops : Array Oper} {Q : Exit → Act → World → Prop}
/-- What the kernel sees of a region at once: no guards, each operation's edges go back, no two operations write one temporary, all of it in the frame. -/
def growableG (ops : Array Oper) (n : Nat) : Bool :=
  (List.range ops.size).all fun i => match ops[i]? with
    | none => true
    | some o => (o.after.all fun e => !Region.binds .any e || decide (e.on < i)) && (match o.dst with | none => true | some d => decide (d < n)) &&
      (List.range ops.size).all fun j => j == i || (match o.dst with | none => true | some d => dstOf ops j != some d)

theorem growableG_spec {n : Nat} (h : growableG ops n = true) {i : Nat} {o : Oper} (ho : ops[i]? = some o) :
    (∀ e ∈ o.after, Region.binds .any e = true → e.on < i) ∧ (∀ d, o.dst = some d → d < n ∧ ∀ j, j < ops.size → j ≠ i → dstOf ops j ≠ some d) := by
  have hi : i < ops.size := by
    rcases Nat.lt_or_ge i ops.size with h1 | h1
    · exact h1
    · rw [Array.getElem?_eq_none h1] at ho; cases ho
  have := List.all_eq_true.1 h i (List.mem_range.2 hi)
  simp only [ho, Bool.and_eq_true] at this
  obtain ⟨⟨h2, h3⟩, h4⟩ := this
  refine ⟨fun e he hb => ?_, fun d hd => ?_⟩
  · rw [Array.all_eq_true_iff_forall_mem] at h2
    simpa [hb] using h2 e he
  · rw [hd] at h3 h4
    refine ⟨by simpa using h3, fun j hj hji => ?_⟩
    have := List.all_eq_true.1 h4 j (List.mem_range.2 hj)
    simpa [hji] using this

/-- A region that draws its order, by a state that each operation carries on: one walk in place of all orders. -/
theorem wp_region_stateG {id : Nat} {a : Act} {w : World} (hm : P.follows .mixedOrders = true) (hg : growableG ops a.tmps.size = true)
    (S : (Nat → Bool) → (Nat → Value) → World → Prop) (h0 : S (fun _ => false) (fun _ => undef) { w with drawn := w.drawn + 1 })
    (hstep : ∀ (i : Nat) (o : Oper), ops[i]? = some o → ∀ (c : Nat → Bool) (vs : Nat → Value) (w' : World) (b : Act), S c vs w' → c i = false →
      (∀ e ∈ o.after, Region.binds .any e = true → c e.on = true) →
      (∀ j d, c j = true → dstOf ops j = some d → b.eval (.tmp d) = vs j) →
      (∀ x, (∀ j, j < ops.size → ∀ d, dstOf ops j = some d → x ≠ .tmp d) → b.eval x = a.eval x) →
      Region.wanted o (yielded ops b.tmps) = true ∧ o.wp P b w' (fun b' w'' => ∃ v, b' = b.put o.dst v ∧ S (fun j => if j = i then true else c j) (fun j => if j = i then v else vs j) w'') Q)
    (hend : ∀ (c : Nat → Bool) (vs : Nat → Value) (w' : World), S c vs w' → (∀ j, j < ops.size → c j = true) → Q .normal (putsIf ops vs (fun _ => true) (List.range ops.size) a) w') :
    (Code.region id ops true).wp P Q a w := by
  refine wp_region_any hm ?_
  refine wpAny_inv (P := P) (Q := Q) (md := .any) (fun listed b w' => listed.size = ops.size ∧ ∃ vs : Nat → Value, b = putsIf ops vs (fun j => listed.getD j false) (List.range ops.size) a ∧ S (fun j => listed.getD j false) vs w') ?_ ?_ ?_ _ _ _ _ ?_ ?_
  · rintro listed b w' ⟨hs, vs, rfl, hS⟩ hr
    have hlisted : ∀ k j, j < k → j < ops.size → listed.getD j false = true := by
      intro k
      induction k with
      | zero => intro j hj; omega
      | succ k ih =>
        intro j hj hjo
        rcases Nat.lt_or_ge j k with h1 | h1
        · exact ih j h1 hjo
        · obtain rfl : j = k := by omega
          cases hb : listed.getD j false
          · exfalso
            have hm : j ∈ Region.ready .any ops listed := by
              have ho : ops[j]? = some ops[j] := Array.getElem?_eq_getElem hjo
              obtain ⟨h2, _⟩ := growableG_spec hg ho
              exact mem_ready_b.2 ⟨hjo, (getD_both (by omega) _ _).trans hb, _, ho, fun e he hbd => ih e.on (h2 e he hbd) (by have := h2 e he hbd; omega)⟩
            rw [hr] at hm
            simp at hm
          · rfl
    have hc : putsIf ops vs (fun j => listed.getD j false) (List.range ops.size) a = putsIf ops vs (fun _ => true) (List.range ops.size) a :=
      (putsIf_congr _ _ fun j hj => ⟨(hlisted (j + 1) j (by omega) (List.mem_range.1 hj)).symm, fun _ => rfl⟩).symm
    rw [hc]
    exact hend _ vs w' hS fun j hj => hlisted (j + 1) j (by omega) hj
  · rintro listed b w' ⟨hs, vs, rfl, hS⟩ i hi
    obtain ⟨hio, hn1, o, ho, hn2⟩ := mem_ready_b.1 hi
    obtain ⟨g2, g3⟩ := growableG_spec hg ho
    have hil : i < listed.size := by omega
    have hdis : ∀ j ∈ List.range ops.size, j ≠ i → ∀ d, dstOf ops i = some d → dstOf ops j ≠ some d := fun j hj hji d hd =>
      (g3 d (by simpa [dstOf, ho] using hd)).2 j (List.mem_range.1 hj) hji
    have hb1 : listed.getD i false = false := (getD_both hil _ _).trans hn1
    have hset : (fun j => (listed.setIfInBounds i true).getD j false) = fun j => if j = i then true else listed.getD j false := by
      funext j
      by_cases hji : j = i
      · subst hji; simp [Array.getD, hil]
      · rw [if_neg hji]; exact getD_set_nb _ _ _ hji
    unfold wpOp
    simp only [ho]
    have hev0 : ∀ j d, listed.getD j false = true → dstOf ops j = some d → (putsIf ops vs (fun j => listed.getD j false) (List.range ops.size) a).eval (.tmp d) = vs j := by
      intro j d hj hd
      have hjo : j < ops.size := by
        rcases Nat.lt_or_ge j ops.size with h | h
        · exact h
        · exfalso
          have : ¬ j < listed.size := by omega
          simp [Array.getD, this] at hj
      have hoe : ops[j]? = some ops[j] := Array.getElem?_eq_getElem hjo
      obtain ⟨_, k3⟩ := growableG_spec hg hoe
      have hd' : ops[j].dst = some d := by simpa [dstOf, hoe] using hd
      exact putsIf_at vs _ hj hd _ _ List.nodup_range (List.mem_range.2 hjo) (fun k hk hkj => (k3 d hd').2 k (List.mem_range.1 hk) hkj) (k3 d hd').1
    obtain ⟨hw, hstp⟩ := hstep i o ho _ vs w' _ hS hb1 hn2 hev0 (fun x hx => putsIf_eval _ _ _ _ fun j hj _ d hd => hx j (List.mem_range.1 hj) d hd)
    rw [if_pos hw]
    refine .inl (Oper.wp_mono ?_ hstp)
    · rintro b' w'' ⟨v, rfl, h1⟩
      refine ⟨by simp [hs], fun j => if j = i then v else vs j, ?_, ?_⟩
      · have hadd := putsIf_add (ops := ops) (vs := vs) (vs' := fun j => if j = i then v else vs j) (c := fun j => listed.getD j false) (c' := fun j => (listed.setIfInBounds i true).getD j false) (i := i)
          hb1 (by simp [Array.getD, hil]) (fun j hji => ⟨getD_set_nb _ _ _ hji, fun _ => by simp [hji]⟩) (List.range ops.size) a List.nodup_range (List.mem_range.2 hio) hdis
        rw [hadd]
        simp [dstOf, ho]
      · rw [hset]; exact h1
  · rintro listed b w' ⟨hs, _⟩
    exact hs
  · have hz : (fun j => (Array.replicate ops.size false).getD j false) = fun _ => false := by
      funext j
      simp [Array.getD]
    refine ⟨by simp, fun _ => undef, ?_, ?_⟩
    · have h0 : ∀ (L : List Nat) (b : Act), putsIf ops (fun _ => undef) (fun _ => false) L b = b := by
        intro L
        induction L with
        | nil => intro b; rfl
        | cons j L ih => intro b; simp only [putsIf]; exact ih b
      rw [hz]
      exact (h0 _ _).symm
    · rw [hz]; exact h0
  · refine Nat.le_trans List.countP_le_length ?_
    simp

theorem wp_region_stepsG {id : Nat} {a : Act} {w : World} (hm : P.follows .mixedOrders = true) (hg : growableG ops a.tmps.size = true)
    (S : (Nat → Bool) → (Nat → Value) → World → Prop) (h0 : S (fun _ => false) (fun _ => undef) { w with drawn := w.drawn + 1 })
    (hstep : ∀ (i : Nat) (o : Oper), ops[i]? = some o → ∀ (c : Nat → Bool) (vs : Nat → Value) (w' : World) (b : Act), S c vs w' → c i = false →
      (∀ j, waits ops i j = true → c j = true) → (∀ j d, c j = true → dstOf ops j = some d → b.eval (.tmp d) = vs j) → (∀ t, outer ops t = true → b.eval (.tmp t) = a.eval (.tmp t)) →
      Region.wanted o (yielded ops b.tmps) = true ∧ o.wp P b w' (fun b' w'' => ∃ v, b' = b.put o.dst v ∧ S (fun j => if j = i then true else c j) (fun j => if j = i then v else vs j) w'') Q)
    (ds : List (Option Tmp)) (hds : (List.range ops.size).map (dstOf ops) = ds)
    (hend : ∀ (c : Nat → Bool) (vs : Nat → Value) (w' : World), S c vs w' → (∀ j, j < ops.size → c j = true) → Q .normal (putL ds vs 0 a) w') :
    (Code.region id ops true).wp P Q a w := by
  have hend' : ∀ (c : Nat → Bool) (vs : Nat → Value) (w' : World), S c vs w' → (∀ j, j < ops.size → c j = true) → Q .normal (putsIf ops vs (fun _ => true) (List.range ops.size) a) w' := fun c vs w' h1 h2 => by
    have := hend c vs w' h1 h2
    rw [List.range_eq_range', putsIf_putL, ← List.range_eq_range', hds]
    exact this
  refine wp_region_stateG hm hg S h0 (fun i o ho c vs w' b hS hci hbd hev hout => hstep i o ho c vs w' b hS hci (fun j hj => ?_) hev (fun t ht => hout _ fun j hj d hd e => ?_)) hend'
  · unfold waits at hj
    rw [ho] at hj
    simp only [Array.any_eq_true] at hj
    obtain ⟨k, hk, h1⟩ := hj
    rw [Bool.and_eq_true, beq_iff_eq] at h1
    have := hbd _ (Array.getElem_mem hk) h1.2
    rwa [h1.1] at this
  · injection e with e
    subst e
    have := List.all_eq_true.1 ht j (List.mem_range.2 hj)
    rw [hd] at this
    simp at this

end
/-- Are all guards the one operation's, with the one answer, and waited for? -/
def guardsB (ops : Array Oper) (gk : Nat) (want : Bool) : Bool := (List.range ops.size).all fun i => match ops[i]? with
  | none => true
  | some o => match o.guard with
    | none => true
    | some (j, b) => j == gk && b == want && waits ops i gk
theorem wanted_of {ops : Array Oper} {gk : Nat} {want : Bool} (hgu : guardsB ops gk want = true) {i : Nat} {o : Oper} (ho : ops[i]? = some o) {b : Act} {tg : Tmp} {v : Value} (hev : waits ops i gk = true → b.eval (.tmp tg) = v) (hgv : v = .bool want) (hgt : dstOf ops gk = some tg) : Region.wanted o (yielded ops b.tmps) = true := by
  have hi : i < ops.size := by
    rcases Nat.lt_or_ge i ops.size with h1 | h1
    · exact h1
    · rw [Array.getElem?_eq_none h1] at ho; cases ho
  have h := List.all_eq_true.1 hgu i (List.mem_range.2 hi)
  simp only [ho] at h
  unfold Region.wanted
  cases hg : o.guard with
  | none => rfl
  | some p =>
    obtain ⟨j, w⟩ := p
    simp only [hg, Bool.and_eq_true, beq_iff_eq] at h
    obtain ⟨⟨rfl, rfl⟩, h3⟩ := h
    have he := hev h3
    rw [hgv] at he
    have hd : (ops[j]?).bind (·.dst) = some tg := hgt
    have ht : b.tmps[tg]? = some (.bool w) := by
      simp only [Act.eval] at he
      rw [Array.getD_eq_getD_getElem?] at he
      cases hq : b.tmps[tg]? with
      | none => rw [hq] at he; simp [undef] at he
      | some z => rw [hq] at he; simp at he; rw [he]
    simp [yielded, hd, ht]
variable {α : Type} [Inhabited α]

theorem wp_cmpG {P : Program} {ops : Array Oper} {Q : Exit → Act → World → Prop} {id : Nat} {a : Act} {w : World} (hm : P.follows .mixedOrders = true) (hg : growableG ops a.tmps.size = true)
    (c : α → Nat → Value) (base g cap : Nat) (d : List α) (p q : Nat) (hp : p < d.length) (hq : q < d.length) (hmem : RowE c w base g cap d)
    (ET : TypeId) (fs : Array Field) (hu : P.underlying ET = some (.struct fs)) (hi9 : (P.info? ET).map (·.size) = some 9)
    (val : Nat → Value) (l1 l2 k a1 a2 f : Nat) (ta1 ta2 tl1 tl2 tf : Tmp) (ts : Array TypeId) (gc : FuncId) (r : Int)
    (hv1 : val l1 = .agg (nine c (gt d p)).toArray) (hv2 : val l2 = .agg (nine c (gt d q)).toArray)
    (hva1 : val a1 = .pointer (some ⟨g, p * 9, none⟩)) (hva2 : val a2 = .pointer (some ⟨g, q * 9, none⟩)) (hvf : val f = .func (.func gc) #[] #[]) (hvk : val k = .int .i64 r)
    (hl1 : ∃ o, ops[l1]? = some o ∧ o.op = .load ET (.tmp ta1)) (hl2 : ∃ o, ops[l2]? = some o ∧ o.op = .load ET (.tmp ta2))
    (hk : ∃ o, ops[k]? = some o ∧ o.op = .call { callee := .value (.tmp tf), args := #[.tmp tl1, .tmp tl2], argTypes := ts })
    (hd : dstOf ops a1 = some ta1 ∧ dstOf ops a2 = some ta2 ∧ dstOf ops l1 = some tl1 ∧ dstOf ops l2 = some tl2 ∧ dstOf ops f = some tf)
    (hw : (waits ops l1 a1 && waits ops l2 a2 && waits ops k l1 && waits ops k l2 && waits ops k f) = true)
    (hne : [l1, l2, k].Nodup) (gk : Nat) (tg : Tmp) (want : Bool) (hgu : guardsB ops gk want = true) (hgt : dstOf ops gk = some tg) (hgv : val gk = .bool want)
    (hent : ∀ args W, (callFunc gc args).run P W = .ok (.enter gc args) W)
    (hcmp : ∀ W, Below w.heap.size w W → Calls P gc #[.agg (nine c (gt d p)).toArray, .agg (nine c (gt d q)).toArray] W fun e W' => e = .returned (.int .i64 r) ∧ Below W.heap.size W W')
    (hpure : ∀ (i : Nat) (o : Oper), ops[i]? = some o → i ≠ l1 → i ≠ l2 → i ≠ k → ∀ (b : Act) (W : World), (∀ j t, waits ops i j = true → dstOf ops j = some t → b.eval (.tmp t) = val j) → (∀ t, outer ops t = true → b.eval (.tmp t) = a.eval (.tmp t)) →
      (execOp b.eval o).run P W = .ok (.value (val i)) W)
    (pv : List (Option Tmp × Value)) (hpv : (List.range ops.size).map (fun i => (dstOf ops i, val i)) = pv)
    (hend : ∀ (w' : World), RowE c w' base g cap d → Below w.heap.size w w' → Q .normal (putP pv a) w') :
    (Code.region id ops true).wp P Q a w := by
  simp only [Bool.and_eq_true] at hw
  obtain ⟨⟨⟨⟨w1, w2⟩, w3⟩, w4⟩, w5⟩ := hw
  obtain ⟨d1, d2, d3, d4, d5⟩ := hd
  simp only [List.nodup_cons, List.mem_cons, not_or, List.not_mem_nil, not_false_eq_true, and_true, List.nodup_nil] at hne
  obtain ⟨⟨x1, x2⟩, x3⟩ := hne
  have h9 : ∀ x : α, (nine c x).length = 9 := fun _ => rfl
  have step : ∀ {cc : Nat → Bool} {vs : Nat → Value} {W W' : World} (i : Nat), CmS val w cc vs W → Below W.heap.size W W' → CmS val w (fun j => if j = i then true else cc j) (fun j => if j = i then val i else vs j) W' := fun {cc vs W W'} i hS hb => by
    refine ⟨fun j hj => ?_, hS.below.trans (hb.mono hS.below.size)⟩
    by_cases e : j = i
    · subst e; simp
    · simp only [if_neg e] at hj ⊢; exact hS.vals j hj
  refine wp_region_stepsG hm hg (CmS val w) ⟨fun i hi => (by cases hi), below_drewN_ (Below.refl _ _) 1⟩ ?_ _ rfl ?_
  · intro i o ho cc vs W b hS hci hbd hev hout
    have hvl : ∀ j t, cc j = true → dstOf ops j = some t → b.eval (.tmp t) = val j := fun j t hj ht => (hev j t hj ht).trans (hS.vals j hj)
    have hmW : RowE c W base g cap d := hmem.below hS.below
    refine ⟨wanted_of hgu ho (fun hw0 => hvl gk tg (hbd gk hw0) hgt) hgv hgt, ?_⟩
    by_cases e1 : i = l1
    · subst e1
      obtain ⟨o', ho', hop⟩ := hl1
      obtain rfl : o = o' := by rw [ho] at ho'; exact Option.some.inj ho'
      refine wp_load_mid ET (.tmp ta1) hop g (p * 9) ((hvl a1 ta1 (hbd a1 w1) d1).trans hva1) (nine c (gt d p)) _ (hmW.range hp) hu rfl (by rw [h9]; exact hi9) ⟨_, rfl, ?_⟩
      rw [← hv1]
      exact step _ hS (Below.refl _ _)
    by_cases e2 : i = l2
    · subst e2
      obtain ⟨o', ho', hop⟩ := hl2
      obtain rfl : o = o' := by rw [ho] at ho'; exact Option.some.inj ho'
      refine wp_load_mid ET (.tmp ta2) hop g (q * 9) ((hvl a2 ta2 (hbd a2 w2) d2).trans hva2) (nine c (gt d q)) _ (hmW.range hq) hu rfl (by rw [h9]; exact hi9) ⟨_, rfl, ?_⟩
      rw [← hv2]
      exact step _ hS (Below.refl _ _)
    by_cases e3 : i = k
    · subst e3
      obtain ⟨o', ho', hop⟩ := hk
      obtain rfl : o = o' := by rw [ho] at ho'; exact Option.some.inj ho'
      have hx := (hvl l1 tl1 (hbd l1 w3) d3).trans hv1
      have hy := (hvl l2 tl2 (hbd l2 w4) d4).trans hv2
      have hf := (hvl f tf (hbd f w5) d5).trans hvf
      refine wp_of_call (f := gc) (args := #[.agg (nine c (gt d p)).toArray, .agg (nine c (gt d q)).toArray]) (w' := W) ?_ ((hcmp W hS.below).mono ?_)
      · unfold execOp
        simp only [hop, resolve, invoke, hx, hy, hf, Deferred.ofValue, List.map_toArray, List.map_cons, List.map_nil, Array.empty_append, Array.append_empty, hent, Sem.run_bind, Sem.run_pure, Result.andThen_ok]
      · rintro e w'' ⟨rfl, hb⟩
        refine ⟨_, rfl, _, rfl, ?_⟩
        rw [← hvk]
        exact step _ hS hb
    · exact wp_of_run _ (hpure i o ho e1 e2 e3 b W (fun j t hj ht => hvl j t (hbd j hj) ht) hout) ⟨_, rfl, step _ hS (Below.refl _ _)⟩
  · intro cc vs W hS hall
    have := hend W (hmem.below hS.below) hS.below
    rw [← hpv, List.range_eq_range', ← putL_putP ops vs val] at this
    · rw [List.range_eq_range']; exact this
    · exact fun i _ hi => .inr (hS.vals i (hall i (by omega)))
end Go.Proofs.Ytennddlihcamnaa.Sr

namespace Go.Proofs.Ytennddlihcamnaa.Sr
set_option linter.unusedVariables false
set_option linter.unusedSimpArgs false
open Go.Proofs.Ytennddlihcamnaa.So
open Go.RowKit

theorem run_gtr {P : Program} {o : Oper} {b : Act} (W : World) (x y : Operand) {t t' : TypeId} (ho : o.op = .binOp .gtr t x y t') {u v : Int} (hx : b.eval x = .int .i64 u) (hy : b.eval y = .int .i64 v) (h : v < u) : (execOp b.eval o).run P W = .ok (.value (.bool true)) W := by
  unfold execOp
  simp only [ho, hx, hy]
  simp [go_sem, h]
theorem run_pick {P : Program} {o : Oper} {b : Act} (W : World) (x y : Operand) (ho : o.op = .pick x y (.const (.bool false))) {v : Value} (hx : b.eval x = .bool true) (hy : b.eval y = v) : (execOp b.eval o).run P W = .ok (.value v) W := by
  unfold execOp
  simp only [ho, hx, hy]
  simp [go_sem]
variable {α : Type} [Inhabited α]

theorem sym_calls (c : α → Nat → Value) (h1 : ∀ x j, (c x j).oneCell' = true) (cf : α → α → Int) (gc : FuncId) (hcmp : CmpE c gc cf) (hent : ∀ args W, (callFunc gc args).run Try.prog W = .ok (.enter gc args) W) (hO : Swo (ltc cf)) (N : Nat) (base g cap : Nat) (hd : N ≤ 4398046511104) : ∀ K, SymAt c cf gc N base g cap K
  | 0 => fun w A X Y B a m b hK hX hY => absurd hK (by omega)
  | K + 1 => fun w A X Y B a m b hK hX hY h hN ha hm hb hsX hsY => by
    rcases Nat.lt_or_ge X.length 2 with h2 | h2
    · rcases X with _ | ⟨x, _ | ⟨y, r⟩⟩
      · simp at hX
      · have := symA c h1 cf gc hcmp hent hO N base g cap a b w A Y B x h hN ha (by rw [hb, hm]; rfl) hsY hd
        rw [show ((m : Nat) : Int) = (a : Int) + 1 by rw [hm]; simp]
        exact this
      · exfalso; simp only [List.length_cons] at h2; omega
    · rcases Nat.lt_or_ge Y.length 2 with h3 | h3
      · rcases Y with _ | ⟨y, _ | ⟨z, r⟩⟩
        · simp at hY
        · have := symB c h1 cf gc hcmp hent hO N base g cap a m w A X B y h hN ha hm h2 hsX hd
          rw [show ((b : Nat) : Int) = (m : Int) + 1 by rw [hb]; simp]
          exact this
        · exfalso; simp only [List.length_cons] at h3; omega
      · exact symC c h1 cf gc hcmp hent hO N base g cap K hd (sym_calls c h1 cf gc hcmp hent hO N base g cap hd K) w A X Y B a m b hK h2 h3 h hN ha hm hb hsX hsY

set_option maxRecDepth 100000 in
set_option maxHeartbeats 6400000 in
theorem insert_calls (c : α → Nat → Value) (h1 : ∀ x j, (c x j).oneCell' = true) (cf : α → α → Int) (gc : FuncId) (hcmp : CmpE c gc cf) (hent : ∀ args W, (callFunc gc args).run Try.prog W = .ok (.enter gc args) W) (hO : Swo (ltc cf))
    (N : Nat) (base g cap a b : Nat) (w : World) (A X B : List α) (h : RowE c w base g cap (A ++ (X ++ B))) (hN : (A ++ (X ++ B)).length = N) (ha : a = A.length) (hb : b = a + X.length) (hd : N ≤ 4398046511104) :
    Calls Try.prog 68 #[.slice (some ⟨g, 0, none⟩) N cap, .int .i64 (a : Int), .int .i64 (b : Int), .func (.func gc) #[] #[]] w fun e w' =>
      e = .returned (.tuple #[]) ∧ RowE c w' base g cap (A ++ (isort (ltc cf) X ++ B)) ∧ Only g w w' := by
  have H1 := Lib.hid h1
  have Hcmp : Hid (CmpE c gc cf) := Lib.hid hcmp
  have Hent := Lib.hid hent
  have HN := Lib.hid hN
  have HA := Lib.hid ha
  have HB := Lib.hid hb
  have hbN : b ≤ N := by rw [← hN, hb, ha]; simp only [List.length_append]; omega
  have hab : a ≤ b := by omega
  have HR0 : Hid (RowE c w base g cap (A ++ (isort (ltc cf) (X.take 1) ++ (X.drop 1 ++ B)))) := Lib.hid (by
    have e : isort (ltc cf) (X.take 1) = X.take 1 := by
      rcases X with _ | ⟨x, r⟩
      · rfl
      · exact isort_one x
    rw [e, ← List.append_assoc (X.take 1), List.take_append_drop]
    exact h)
  clear h1 hcmp hent h hN ha hb
  go_enter Try.func68, Try.ntmps68
  go_wp2
  go_loopw [8] (fun vi wr => ∃ i : Nat, vi = .int .i64 (i : Int) ∧ a + 1 ≤ i ∧ i ≤ b + 1 ∧ Hid (RowE c wr base g cap (A ++ (isort (ltc cf) (X.take (i - a)) ++ (X.drop (i - a) ++ B)))) ∧ Only g w wr) (fun vi _ => b + 1 - (intOf vi).toNat)
  case atStart => exact ⟨a + 1, by go_num, Nat.le_refl _, by omega, Lib.hid (by rw [show a + 1 - a = 1 by omega]; exact HR0.out), Only.refl _ _⟩
  case round =>
    obtain ⟨i, rfl, hai, hib, HR1, honly⟩ := hrel
    by_cases hlt : i < b
    · obtain ⟨x, hx⟩ : ∃ x, x = gt X (i - a) := ⟨_, rfl⟩
      have hiX : i - a < X.length := by have := HB.out; omega
      have hT : isort (ltc cf) (X.take (i + 1 - a)) = mg (ltc cf) (isort (ltc cf) (X.take (i - a))) [x] := by
        rw [show i + 1 - a = i - a + 1 by omega, take_gt hiX, isort_snoc, hx]
      have hS := isort_srt hO (X.take (i - a))
      have hSl : (isort (ltc cf) (X.take (i - a))).length = i - a := by rw [isort_len, List.length_take]; omega
      have HR2 := HR1.out
      obtain ⟨R, hR⟩ : ∃ R, R = X.drop (i + 1 - a) ++ B := ⟨_, rfl⟩
      rw [drop_gt hiX, ← hx, show i - a + 1 = i + 1 - a by omega, List.cons_append, ← hR] at HR2
      have HRe := Lib.hid hR
      have HTT := Lib.hid hT
      have HSS := Lib.hid hS
      have HSL := Lib.hid hSl
      have HRR := Lib.hid HR2
      generalize isort (ltc cf) (X.take (i - a)) = S at *
      have HX1 : Hid ((A ++ (S ++ (x :: R))).length = N) := Lib.hid (by
        have hn := HN.out
        rw [hR]
        have hsl := HSL.out
        simp only [List.length_append, List.length_cons, List.length_drop] at hn ⊢
        omega)
      clear hT hS hSl HR2 hx hiX HR1 hR
      go_wp2
      go_loopw [9] (fun vj wx => ∃ j : Nat, vj = .int .i64 (j : Int) ∧ a ≤ j ∧ j ≤ i ∧ Hid (∃ P Q : List α, S = P ++ Q ∧ P.length = j - a ∧ (∀ q ∈ Q, ltc cf x q = true) ∧ RowE c wx base g cap (A ++ (P ++ (x :: (Q ++ R))))) ∧ Only g wr wx) (fun vj _ => (intOf vj).toNat)
      case atStart => exact ⟨i, rfl, by omega, Nat.le_refl _, Lib.hid ⟨S, [], by simp, HSL.out, by simp, by simpa using HRR.out⟩, Only.refl _ _⟩
      case round =>
        obtain ⟨j, rfl, haj, hji, HPQ, honly2⟩ := hrel
        by_cases hja : a < j
        · have hjz : (a : Int) < (j : Int) := by omega
          obtain ⟨dk, hdk⟩ : ∃ dk : List α, Hid (RowE c wr base g cap dk ∧ dk.length = N ∧ gt dk j = x ∧
              (ltc cf x (gt dk (j - 1)) = true → ∃ P Q : List α, S = P ++ Q ∧ P.length = j - 1 - a ∧ (∀ q ∈ Q, ltc cf x q = true) ∧ sw dk j (j - 1) = A ++ (P ++ (x :: (Q ++ R)))) ∧
              (ltc cf x (gt dk (j - 1)) = false → dk = A ++ (mg (ltc cf) S [x] ++ R))) := by
            obtain ⟨P, Q, q1, q2, q3, q4⟩ := HPQ.out
            rcases List.eq_nil_or_concat P with rfl | ⟨P', z, rfl⟩
            · simp at q2; omega
            simp only [List.concat_eq_append] at q1 q2 q4
            have hA := HA.out
            rw [List.length_append, List.length_singleton] at q2
            have e1 : A ++ ((P' ++ [z]) ++ (x :: (Q ++ R))) = (A ++ P') ++ z :: ([] ++ x :: (Q ++ R)) := by simp
            have hz : gt (A ++ ((P' ++ [z]) ++ (x :: (Q ++ R)))) (j - 1) = z := by
              rw [e1]
              conv => lhs; rw [show j - 1 = (A ++ P').length + 0 by rw [List.length_append]; omega]
              rw [gt_app_right]; rfl
            have hxj : gt (A ++ ((P' ++ [z]) ++ (x :: (Q ++ R)))) j = x := by
              have e2 : A ++ ((P' ++ [z]) ++ (x :: (Q ++ R))) = (A ++ (P' ++ [z])) ++ (x :: (Q ++ R)) := by simp
              rw [e2]
              conv => lhs; rw [show j = (A ++ (P' ++ [z])).length + 0 by simp; omega]
              rw [gt_app_right]; rfl
            refine ⟨_, Lib.hid ⟨q4, ?_, hxj, fun ht => ?_, fun ht => ?_⟩⟩
            · have := HX1.out
              rw [q1] at this
              simp only [List.length_append, List.length_cons] at this ⊢
              omega
            · rw [hz] at ht
              refine ⟨P', z :: Q, by rw [q1]; simp, by omega, fun q hq => ?_, ?_⟩
              · rcases List.mem_cons.1 hq with rfl | hq
                · exact ht
                · exact q3 q hq
              · rw [sw_comm _ (show j ≠ j - 1 by omega), e1, sw_mid _ _ _ _ _ (by rw [List.length_append]; omega) (by rw [List.length_append, List.length_nil]; omega)]
                simp
            · rw [hz] at ht
              have hsr := HSS.out
              rw [q1] at hsr
              have hP := (srt_app.1 hsr).1
              rw [q1, mg_one (fun p hp => ?_) q3]
              · simp
              · rcases List.mem_append.1 hp with hp | hp
                · exact hO.neg _ _ _ ht ((srt_app.1 hP).2.2 p hp z (by simp))
                · simp at hp; subst hp; exact ht
          have HR : Hid (RowE c wr base g cap dk) := Lib.hid hdk.out.1
          have hdl : dk.length = N := hdk.out.2.1
          have hpl : j < dk.length := by omega
          have hql : j - 1 < dk.length := by omega
          have kw1 : IntKind.i64.wrap ((j : Int) - 1) = (j : Int) - 1 := IntWalk.i64_in _ (by omega)
          have ia0 := fun W => idx_run (g := g) (cap := cap) (n := N) W (i := j) (by omega) (x := (j : Int)) rfl
          have ia1 := fun W => idx_run (g := g) (cap := cap) (n := N) W (i := j - 1) (by omega) (x := (j : Int) - 1) (by omega)
          clear hdl HPQ
          cases ht : ltc cf x (gt dk (j - 1))
          · have HE := Lib.hid (hdk.out.2.2.2.2 ht)
            have HV : Hid (decide (cf (gt dk j) (gt dk (j - 1)) < 0) = false) := Lib.hid (by rw [hdk.out.2.2.1]; exact ht)
            clear ht
            go_wp2_with fail
            refine wp_cmpG (by kernel_rfl) (by kernel_rfl) c base g cap (dk) (j) (j - 1) (by omega) (by omega) HR.out 37 _ Try.underlying37 (by kernel_rfl)
              (fun i => (#[.int .i64 (j : Int), .int .i64 (a : Int), .bool true, .bool true, .func (.func gc) #[] #[], .slice (some ⟨g, 0, none⟩) N cap, .int .i64 (j : Int), .pointer (some ⟨g, j * 9, none⟩), .agg (nine c (gt dk j)).toArray, .slice (some ⟨g, 0, none⟩) N cap, .int .i64 (j : Int), .int .i64 ((j : Int) - 1), .pointer (some ⟨g, (j - 1) * 9, none⟩), .agg (nine c (gt dk (j - 1))).toArray, .int .i64 (cf (gt dk j) (gt dk (j - 1))), .bool (decide (cf (gt dk j) (gt dk (j - 1)) < 0)), .bool (decide (cf (gt dk j) (gt dk (j - 1)) < 0))] : Array Value).getD i undef) 8 13 14 7 12 4 25 30 26 31 22 _ gc (cf (gt (dk) (j)) (gt (dk) (j - 1))) rfl rfl rfl rfl rfl rfl ⟨_, rfl, rfl⟩ ⟨_, rfl, rfl⟩ ⟨_, rfl, rfl⟩ (by exact ⟨rfl, rfl, rfl, rfl, rfl⟩) (by kernel_rfl) (by decide) 3 21 true (by kernel_rfl) rfl rfl Hent.out (fun W _ => Hcmp.out W _ _) ?_ [(some 18, .int .i64 (j : Int)), (some 19, .int .i64 (a : Int)), (some 20, .bool true), (some 21, .bool true), (some 22, .func (.func gc) #[] #[]), (some 23, .slice (some ⟨g, 0, none⟩) N cap), (some 24, .int .i64 (j : Int)), (some 25, .pointer (some ⟨g, j * 9, none⟩)), (some 26, .agg (nine c (gt dk j)).toArray), (some 27, .slice (some ⟨g, 0, none⟩) N cap), (some 28, .int .i64 (j : Int)), (some 29, .int .i64 ((j : Int) - 1)), (some 30, .pointer (some ⟨g, (j - 1) * 9, none⟩)), (some 31, .agg (nine c (gt dk (j - 1))).toArray), (some 32, .int .i64 (cf (gt dk j) (gt dk (j - 1)))), (some 33, .bool (decide (cf (gt dk j) (gt dk (j - 1)) < 0))), (some 34, .bool (decide (cf (gt dk j) (gt dk (j - 1)) < 0)))] rfl ?_
            · intro i o ho k1 k2 k3 b' W hev hout
              rcases i with _ | _ | _ | _ | _ | _ | _ | _ | _ | _ | _ | _ | _ | _ | _ | _ | _ | i
              · cases ho
                exact run_move W (.tmp 9) rfl ((hout 9 (by kernel_rfl)).trans rfl)
              · cases ho
                exact run_move W (.tmp 1) rfl ((hout 1 (by kernel_rfl)).trans rfl)
              · cases ho
                exact run_gtr W (.tmp 18) (.tmp 19) rfl (hev 0 18 (by kernel_rfl) rfl) (hev 1 19 (by kernel_rfl) rfl) (by omega)
              · cases ho
                exact run_move W (.tmp 20) rfl (hev 2 20 (by kernel_rfl) rfl)
              · cases ho
                exact run_move W (.tmp 3) rfl ((hout 3 (by kernel_rfl)).trans rfl)
              · cases ho
                exact run_move W (.tmp 0) rfl ((hout 0 (by kernel_rfl)).trans rfl)
              · cases ho
                exact run_move W (.tmp 9) rfl ((hout 9 (by kernel_rfl)).trans rfl)
              · cases ho
                exact run_idx W (.tmp 23) (.tmp 24) rfl (hev 5 23 (by kernel_rfl) rfl) (hev 6 24 (by kernel_rfl) rfl) ia0
              · exact absurd rfl k1
              · cases ho
                exact run_move W (.tmp 0) rfl ((hout 0 (by kernel_rfl)).trans rfl)
              · cases ho
                exact run_move W (.tmp 9) rfl ((hout 9 (by kernel_rfl)).trans rfl)
              · cases ho
                exact run_sub W (.tmp 28) (.const (.int .i64 1)) rfl (hev 10 28 (by kernel_rfl) rfl) rfl kw1
              · cases ho
                exact run_idx W (.tmp 27) (.tmp 29) rfl (hev 9 27 (by kernel_rfl) rfl) (hev 11 29 (by kernel_rfl) rfl) ia1
              · exact absurd rfl k2
              · exact absurd rfl k3
              · cases ho
                exact run_lss0 W (.tmp 32) rfl (hev 14 32 (by kernel_rfl) rfl)
              · cases ho
                exact run_pick W (.tmp 21) (.tmp 33) rfl (hev 3 21 (by kernel_rfl) rfl) (hev 15 33 (by kernel_rfl) rfl)
              · cases ho
            · intro w2 hrow hb2
              rw [HV.out]
              have HR3 : Hid (RowE c w2 base g cap (A ++ (isort (ltc cf) (X.take (i + 1 - a)) ++ (X.drop (i + 1 - a) ++ B)))) := Lib.hid (by rw [HTT.out, ← HRe.out, ← HE.out]; exact hrow)
              have hon := (honly.trans honly2).trans (Only.of_below hb2)
              clear hpl hql hrow ia0 ia1 kw1
              simp only [putP, Exit.then, Act.put, List.setIfInBounds_toArray, List.set_cons_zero, List.set_cons_succ]
              go_wp2
              go_roundw
              case rel => exact ⟨i + 1, by go_num, by omega, by omega, HR3, hon⟩
              case measure => simp [intOf]; omega
          · have HE := Lib.hid (hdk.out.2.2.2.1 ht)
            have HV : Hid (decide (cf (gt dk j) (gt dk (j - 1)) < 0) = true) := Lib.hid (by rw [hdk.out.2.2.1]; exact ht)
            have HLn : Hid (dk.length = N) := Lib.hid hdk.out.2.1
            clear ht
            go_wp2_with fail
            refine wp_cmpG (by kernel_rfl) (by kernel_rfl) c base g cap (dk) (j) (j - 1) (by omega) (by omega) HR.out 37 _ Try.underlying37 (by kernel_rfl)
              (fun i => (#[.int .i64 (j : Int), .int .i64 (a : Int), .bool true, .bool true, .func (.func gc) #[] #[], .slice (some ⟨g, 0, none⟩) N cap, .int .i64 (j : Int), .pointer (some ⟨g, j * 9, none⟩), .agg (nine c (gt dk j)).toArray, .slice (some ⟨g, 0, none⟩) N cap, .int .i64 (j : Int), .int .i64 ((j : Int) - 1), .pointer (some ⟨g, (j - 1) * 9, none⟩), .agg (nine c (gt dk (j - 1))).toArray, .int .i64 (cf (gt dk j) (gt dk (j - 1))), .bool (decide (cf (gt dk j) (gt dk (j - 1)) < 0)), .bool (decide (cf (gt dk j) (gt dk (j - 1)) < 0))] : Array Value).getD i undef) 8 13 14 7 12 4 25 30 26 31 22 _ gc (cf (gt (dk) (j)) (gt (dk) (j - 1))) rfl rfl rfl rfl rfl rfl ⟨_, rfl, rfl⟩ ⟨_, rfl, rfl⟩ ⟨_, rfl, rfl⟩ (by exact ⟨rfl, rfl, rfl, rfl, rfl⟩) (by kernel_rfl) (by decide) 3 21 true (by kernel_rfl) rfl rfl Hent.out (fun W _ => Hcmp.out W _ _) ?_ [(some 18, .int .i64 (j : Int)), (some 19, .int .i64 (a : Int)), (some 20, .bool true), (some 21, .bool true), (some 22, .func (.func gc) #[] #[]), (some 23, .slice (some ⟨g, 0, none⟩) N cap), (some 24, .int .i64 (j : Int)), (some 25, .pointer (some ⟨g, j * 9, none⟩)), (some 26, .agg (nine c (gt dk j)).toArray), (some 27, .slice (some ⟨g, 0, none⟩) N cap), (some 28, .int .i64 (j : Int)), (some 29, .int .i64 ((j : Int) - 1)), (some 30, .pointer (some ⟨g, (j - 1) * 9, none⟩)), (some 31, .agg (nine c (gt dk (j - 1))).toArray), (some 32, .int .i64 (cf (gt dk j) (gt dk (j - 1)))), (some 33, .bool (decide (cf (gt dk j) (gt dk (j - 1)) < 0))), (some 34, .bool (decide (cf (gt dk j) (gt dk (j - 1)) < 0)))] rfl ?_
            · intro i o ho k1 k2 k3 b' W hev hout
              rcases i with _ | _ | _ | _ | _ | _ | _ | _ | _ | _ | _ | _ | _ | _ | _ | _ | _ | i
              · cases ho
                exact run_move W (.tmp 9) rfl ((hout 9 (by kernel_rfl)).trans rfl)
              · cases ho
                exact run_move W (.tmp 1) rfl ((hout 1 (by kernel_rfl)).trans rfl)
              · cases ho
                exact run_gtr W (.tmp 18) (.tmp 19) rfl (hev 0 18 (by kernel_rfl) rfl) (hev 1 19 (by kernel_rfl) rfl) (by omega)
              · cases ho
                exact run_move W (.tmp 20) rfl (hev 2 20 (by kernel_rfl) rfl)
              · cases ho
                exact run_move W (.tmp 3) rfl ((hout 3 (by kernel_rfl)).trans rfl)
              · cases ho
                exact run_move W (.tmp 0) rfl ((hout 0 (by kernel_rfl)).trans rfl)
              · cases ho
                exact run_move W (.tmp 9) rfl ((hout 9 (by kernel_rfl)).trans rfl)
              · cases ho
                exact run_idx W (.tmp 23) (.tmp 24) rfl (hev 5 23 (by kernel_rfl) rfl) (hev 6 24 (by kernel_rfl) rfl) ia0
              · exact absurd rfl k1
              · cases ho
                exact run_move W (.tmp 0) rfl ((hout 0 (by kernel_rfl)).trans rfl)
              · cases ho
                exact run_move W (.tmp 9) rfl ((hout 9 (by kernel_rfl)).trans rfl)
              · cases ho
                exact run_sub W (.tmp 28) (.const (.int .i64 1)) rfl (hev 10 28 (by kernel_rfl) rfl) rfl kw1
              · cases ho
                exact run_idx W (.tmp 27) (.tmp 29) rfl (hev 9 27 (by kernel_rfl) rfl) (hev 11 29 (by kernel_rfl) rfl) ia1
              · exact absurd rfl k2
              · exact absurd rfl k3
              · cases ho
                exact run_lss0 W (.tmp 32) rfl (hev 14 32 (by kernel_rfl) rfl)
              · cases ho
                exact run_pick W (.tmp 21) (.tmp 33) rfl (hev 3 21 (by kernel_rfl) rfl) (hev 15 33 (by kernel_rfl) rfl)
              · cases ho
            · intro w2 hrow hb2
              rw [HV.out]
              have hon := honly2.trans (Only.of_below hb2)
              clear hpl hql HR
              have HR : Hid (RowE c w2 base g cap dk) := Lib.hid hrow
              have hpl : j < dk.length := by rw [HLn.out]; omega
              have hql : j - 1 < dk.length := by rw [HLn.out]; omega
              simp only [putP, Exit.then, Act.put, List.setIfInBounds_toArray, List.set_cons_zero, List.set_cons_succ]
              go_wp2_with fail
              refine wp_swap (by kernel_rfl) (by kernel_rfl) c H1.out base g cap (dk) (j) (j - 1) (by omega) (by omega) HR.out 37 _ Try.underlying37 (by kernel_rfl)
                (fun i => (#[.slice (some ⟨g, 0, none⟩) N cap, .int .i64 (j : Int), .slice (some ⟨g, 0, none⟩) N cap, .int .i64 (j : Int), .int .i64 ((j : Int) - 1), .slice (some ⟨g, 0, none⟩) N cap, .int .i64 (j : Int), .int .i64 ((j : Int) - 1), .pointer (some ⟨g, (j - 1) * 9, none⟩), .agg (nine c (gt dk (j - 1))).toArray, .slice (some ⟨g, 0, none⟩) N cap, .int .i64 (j : Int), .pointer (some ⟨g, j * 9, none⟩), .agg (nine c (gt dk j)).toArray, .pointer (some ⟨g, j * 9, none⟩), undef, .pointer (some ⟨g, (j - 1) * 9, none⟩), undef] : Array Value).getD i undef) 9 13 15 17 8 12 14 16 45 49 51 52 46 50 rfl rfl rfl rfl rfl rfl ⟨_, rfl, rfl⟩ ⟨_, rfl, rfl⟩ ⟨_, rfl, rfl, rfl⟩ ⟨_, rfl, rfl, rfl⟩ (by exact ⟨rfl, rfl, rfl, rfl, rfl, rfl⟩) (by kernel_rfl) (by decide) ?_ [(some 37, .slice (some ⟨g, 0, none⟩) N cap), (some 38, .int .i64 (j : Int)), (some 39, .slice (some ⟨g, 0, none⟩) N cap), (some 40, .int .i64 (j : Int)), (some 41, .int .i64 ((j : Int) - 1)), (some 42, .slice (some ⟨g, 0, none⟩) N cap), (some 43, .int .i64 (j : Int)), (some 44, .int .i64 ((j : Int) - 1)), (some 45, .pointer (some ⟨g, (j - 1) * 9, none⟩)), (some 46, .agg (nine c (gt dk (j - 1))).toArray), (some 47, .slice (some ⟨g, 0, none⟩) N cap), (some 48, .int .i64 (j : Int)), (some 49, .pointer (some ⟨g, j * 9, none⟩)), (some 50, .agg (nine c (gt dk j)).toArray), (some 51, .pointer (some ⟨g, j * 9, none⟩)), (none, undef), (some 52, .pointer (some ⟨g, (j - 1) * 9, none⟩)), (none, undef)] rfl ?_ (by exact ⟨by decide, by decide⟩)
              · intro i o ho k1 k2 k3 k4 b' W hev hout
                rcases i with _ | _ | _ | _ | _ | _ | _ | _ | _ | _ | _ | _ | _ | _ | _ | _ | _ | _ | i
                · cases ho
                  exact run_move W (.tmp 0) rfl ((hout 0 (by kernel_rfl)).trans rfl)
                · cases ho
                  exact run_move W (.tmp 9) rfl ((hout 9 (by kernel_rfl)).trans rfl)
                · cases ho
                  exact run_move W (.tmp 0) rfl ((hout 0 (by kernel_rfl)).trans rfl)
                · cases ho
                  exact run_move W (.tmp 9) rfl ((hout 9 (by kernel_rfl)).trans rfl)
                · cases ho
                  exact run_sub W (.tmp 40) (.const (.int .i64 1)) rfl (hev 3 40 (by kernel_rfl) (by decide) (by decide) rfl) rfl kw1
                · cases ho
                  exact run_move W (.tmp 0) rfl ((hout 0 (by kernel_rfl)).trans rfl)
                · cases ho
                  exact run_move W (.tmp 9) rfl ((hout 9 (by kernel_rfl)).trans rfl)
                · cases ho
                  exact run_sub W (.tmp 43) (.const (.int .i64 1)) rfl (hev 6 43 (by kernel_rfl) (by decide) (by decide) rfl) rfl kw1
                · cases ho
                  exact run_idx W (.tmp 42) (.tmp 44) rfl (hev 5 42 (by kernel_rfl) (by decide) (by decide) rfl) (hev 7 44 (by kernel_rfl) (by decide) (by decide) rfl) ia1
                · exact absurd rfl k1
                · cases ho
                  exact run_move W (.tmp 0) rfl ((hout 0 (by kernel_rfl)).trans rfl)
                · cases ho
                  exact run_move W (.tmp 9) rfl ((hout 9 (by kernel_rfl)).trans rfl)
                · cases ho
                  exact run_idx W (.tmp 47) (.tmp 48) rfl (hev 10 47 (by kernel_rfl) (by decide) (by decide) rfl) (hev 11 48 (by kernel_rfl) (by decide) (by decide) rfl) ia0
                · exact absurd rfl k2
                · cases ho
                  exact run_idx W (.tmp 37) (.tmp 38) rfl (hev 0 37 (by kernel_rfl) (by decide) (by decide) rfl) (hev 1 38 (by kernel_rfl) (by decide) (by decide) rfl) ia0
                · exact absurd rfl k3
                · cases ho
                  exact run_idx W (.tmp 39) (.tmp 41) rfl (hev 2 39 (by kernel_rfl) (by decide) (by decide) rfl) (hev 4 41 (by kernel_rfl) (by decide) (by decide) rfl) ia1
                · exact absurd rfl k4
                · cases ho
              · intro w3 hrow3 honly3
                have HPQ2 : Hid (∃ P Q : List α, S = P ++ Q ∧ P.length = j - 1 - a ∧ (∀ q ∈ Q, ltc cf x q = true) ∧ RowE c w3 base g cap (A ++ (P ++ (x :: (Q ++ R))))) := Lib.hid (by
                  obtain ⟨P, Q, q1, q2, q3, q4⟩ := HE.out
                  exact ⟨P, Q, q1, q2, q3, by rw [← q4]; exact hrow3⟩)
                clear hpl hql hrow3 ia0 ia1 kw1
                simp only [putP, Exit.then, Act.put, List.setIfInBounds_toArray, List.set_cons_zero, List.set_cons_succ]
                go_wp2
                go_roundw
                case rel => exact ⟨j - 1, by go_num, by omega, by omega, HPQ2, hon.trans honly3⟩
                case measure => simp [intOf]; omega
        · obtain rfl : j = a := by omega
          have hjz : decide ((j : Int) < (j : Int)) = false := dcf (by omega)
          have hjz2 : ¬ (j : Int) < (j : Int) := by omega
          have HR3 : Hid (RowE c wr base g cap (A ++ (isort (ltc cf) (X.take (i + 1 - j)) ++ (X.drop (i + 1 - j) ++ B)))) := Lib.hid (by
            obtain ⟨P, Q, q1, q2, q3, q4⟩ := HPQ.out
            have hP : P = [] := List.eq_nil_of_length_eq_zero (by omega)
            subst hP
            rw [HTT.out, q1, mg_one (by simp) q3, ← HRe.out]
            simpa using q4)
          clear HPQ
          go_wp2_with fail
          go_quiet (fail)
          go_wp2
          go_roundw
          case rel => exact ⟨i + 1, by go_num, by omega, by omega, HR3, (honly.trans honly2).drewN _⟩
          case measure => simp [intOf]; omega
    · have hib2 : i = b ∨ i = b + 1 := by omega
      have HR3 : Hid (RowE c wr base g cap (A ++ (isort (ltc cf) X ++ B))) := Lib.hid (by
        have := HR1.out
        have hB := HB.out
        rw [List.take_of_length_le (by omega), List.drop_eq_nil_of_le (by omega)] at this
        simpa using this)
      clear HR1 hib2
      go_wp2
      go_end0
      exact ⟨rfl, HR3.out, honly⟩
end Go.Proofs.Ytennddlihcamnaa.Sr

namespace Go.Proofs.Ytennddlihcamnaa.Sr
set_option linter.unusedVariables false
set_option linter.unusedSimpArgs false
open Go.Proofs.Ytennddlihcamnaa.So
open Go.RowKit
variable {α : Type} [Inhabited α]

/-- Up to place a the chunks of length s are made; behind it the chunks of length r stand. -/
def Part (lt : α → α → Bool) (s r : Nat) (D0 d : List α) (a : Nat) : Prop := ∃ P : List α, P.length = a ∧ a ≤ D0.length ∧ d = P ++ (if r = 0 then D0.drop a else chunk lt r (D0.drop a)) ∧ chunk lt s D0 = P ++ chunk lt s (D0.drop a)

set_option maxRecDepth 100000 in
set_option maxHeartbeats 6400000 in
theorem stable_calls (c : α → Nat → Value) (h1 : ∀ x j, (c x j).oneCell' = true) (cf : α → α → Int) (gc : FuncId) (hcmp : CmpE c gc cf) (hent : ∀ args W, (callFunc gc args).run Try.prog W = .ok (.enter gc args) W) (hO : Swo (ltc cf))
    (N : Nat) (base g cap : Nat) (w : World) (D0 : List α) (h : RowE c w base g cap D0) (hN : D0.length = N) (hd : N ≤ 1099511627776) :
    Calls Try.prog 54 #[.slice (some ⟨g, 0, none⟩) N cap, .int .i64 (N : Int), .func (.func gc) #[] #[]] w fun e w' =>
      e = .returned (.tuple #[]) ∧ RowE c w' base g cap (isort (ltc cf) D0) ∧ Only g w w' := by
  have HINS : Hid (∀ (W : World) (A X B : List α) (a b : Nat), RowE c W base g cap (A ++ (X ++ B)) → (A ++ (X ++ B)).length = N → a = A.length → b = a + X.length → Calls Try.prog 68 #[.slice (some ⟨g, 0, none⟩) N cap, .int .i64 (a : Int), .int .i64 (b : Int), .func (.func gc) #[] #[]] W fun e w' =>
      e = .returned (.tuple #[]) ∧ RowE c w' base g cap (A ++ (isort (ltc cf) X ++ B)) ∧ Only g W w') := Lib.hid fun W A X B a b k1 k2 k3 k4 => insert_calls c h1 cf gc hcmp hent hO N base g cap a b W A X B k1 k2 k3 k4 (by omega)
  have HSYM : Hid (∀ K, SymAt c cf gc N base g cap K) := Lib.hid (sym_calls c h1 cf gc hcmp hent hO N base g cap (by omega))
  have HN := Lib.hid hN
  have HR0 : Hid (∃ d, RowE c w base g cap d ∧ Part (ltc cf) 20 0 D0 d 0) := Lib.hid ⟨D0, h, [], rfl, Nat.zero_le _, by simp, by simp⟩
  clear h1 hcmp hent h hN
  go_enter Try.func54, Try.ntmps54
  go_wp2
  go_loopw [7, 8] (fun va vb wr => ∃ a : Nat, va = .int .i64 (a : Int) ∧ vb = .int .i64 ((a : Int) + 20) ∧ a ≤ N ∧ Hid (∃ d, RowE c wr base g cap d ∧ Part (ltc cf) 20 0 D0 d a) ∧ Only g w wr) (fun va _ _ => N - (intOf va).toNat)
  case atStart => exact ⟨0, rfl, by first | rfl | go_num, Nat.zero_le _, HR0, Only.refl _ _⟩
  case round =>
    obtain ⟨a, rfl, rfl, haN, HP, honly⟩ := hrel
    by_cases hlt : a + 20 ≤ N
    · have i1 : (a : Int) + 20 ≤ (N : Int) := by omega
      have hc : Calls Try.prog 68 #[.slice (some ⟨g, 0, none⟩) N cap, .int .i64 (a : Int), .int .i64 ((a : Int) + 20), .func (.func gc) #[] #[]] wr fun e w' =>
          e = .returned (.tuple #[]) ∧ (∃ d, RowE c w' base g cap d ∧ Part (ltc cf) 20 0 D0 d (a + 20)) ∧ Only g wr w' := by
        obtain ⟨d, hr, P, p1, p2, p3, p4⟩ := HP.out
        have hNN := HN.out
        rw [if_pos rfl] at p3
        have hD : (D0.drop a).length = N - a := by rw [List.length_drop, hNN]
        have e : d = P ++ ((D0.drop a).take 20 ++ D0.drop (a + 20)) := by
          rw [p3, ← List.drop_drop, List.take_append_drop]
        have hc := HINS.out wr P ((D0.drop a).take 20) (D0.drop (a + 20)) a (a + 20) (by rw [← e]; exact hr) (by simp only [List.length_append, List.length_take, List.length_drop]; omega) p1.symm (by rw [List.length_take]; omega)
        rw [show ((a + 20 : Nat) : Int) = (a : Int) + 20 by omega] at hc
        refine hc.mono ?_
        rintro e w' ⟨rfl, h2, h3⟩
        refine ⟨rfl, ⟨_, h2, P ++ isort (ltc cf) ((D0.drop a).take 20), ?_, by omega, by rw [if_pos rfl]; simp, ?_⟩, h3⟩
        · rw [List.length_append, isort_len, List.length_take]; omega
        · rw [p4, chunk_big (by omega) (by omega), List.drop_drop]
          simp
      have HC := Lib.hid hc
      clear hc HP
      go_wp2_with fail
      refine HC.out.mono ?_
      rintro e w1 ⟨rfl, hp1, ho1⟩
      have HP1 := Lib.hid hp1
      clear hp1
      go_wp2
      go_roundw
      case rel => exact ⟨a + 20, by go_num, by go_num, hlt, HP1, honly.trans ho1⟩
      case measure => simp [intOf]; omega
    · have i1 : ¬ (a : Int) + 20 ≤ (N : Int) := by omega
      have hc : Calls Try.prog 68 #[.slice (some ⟨g, 0, none⟩) N cap, .int .i64 (a : Int), .int .i64 (N : Int), .func (.func gc) #[] #[]] wr fun e w' =>
          e = .returned (.tuple #[]) ∧ RowE c w' base g cap (chunk (ltc cf) 20 D0) ∧ Only g wr w' := by
        obtain ⟨d, hr, P, p1, p2, p3, p4⟩ := HP.out
        have hNN := HN.out
        rw [if_pos rfl] at p3
        have hD : (D0.drop a).length = N - a := by rw [List.length_drop, hNN]
        have hc := HINS.out wr P (D0.drop a) [] a N (by rw [List.append_nil, ← p3]; exact hr) (by simp only [List.length_append, List.length_drop, List.length_nil]; omega) p1.symm (by omega)
        refine hc.mono ?_
        rintro e w' ⟨rfl, h2, h3⟩
        refine ⟨rfl, ?_, h3⟩
        rw [p4, chunk_small (by omega)]
        rwa [List.append_nil] at h2
      have HC := Lib.hid hc
      clear hc HP
      go_wp2_with fail
      refine HC.out.mono ?_
      rintro e w1 ⟨rfl, hp1, ho1⟩
      have HP1 := Lib.hid hp1
      have ho01 := honly.trans ho1
      clear hp1 HC honly ho1 i1 hlt
      go_wp2
      go_loopw [6] (fun vs wx => ∃ s : Nat, vs = .int .i64 (s : Int) ∧ 20 ≤ s ∧ s ≤ 2 * N + 20 ∧ Hid (RowE c wx base g cap (chunk (ltc cf) s D0)) ∧ Only g w wx) (fun vs _ => N - (intOf vs).toNat)
      case atStart => exact ⟨20, rfl, Nat.le_refl _, by omega, HP1, ho01⟩
      case round =>
        obtain ⟨s, rfl, hs20, hsN, HR, honly⟩ := hrel
        by_cases hlt : s < N
        · have i2 : (s : Int) < (N : Int) := by omega
          have HRP : Hid (∃ d, RowE c wr base g cap d ∧ Part (ltc cf) (2 * s) s D0 d 0) := Lib.hid ⟨_, HR.out, [], rfl, Nat.zero_le _, by rw [if_neg (by omega)]; simp, by simp⟩
          go_wp2
          go_loopw [7, 8] (fun va vb wy => ∃ a : Nat, va = .int .i64 (a : Int) ∧ vb = .int .i64 ((a : Int) + 2 * (s : Int)) ∧ a ≤ N ∧ Hid (∃ d, RowE c wy base g cap d ∧ Part (ltc cf) (2 * s) s D0 d a) ∧ Only g w wy) (fun va _ _ => N - (intOf va).toNat)
          case atStart => exact ⟨0, rfl, by first | rfl | go_num, Nat.zero_le _, HRP, honly⟩
          case round =>
            obtain ⟨a, rfl, rfl, haN, HP, honly3⟩ := hrel
            by_cases hlt3 : a + 2 * s ≤ N
            · have i3 : (a : Int) + 2 * (s : Int) ≤ (N : Int) := by omega
              have hc : Calls Try.prog 69 #[.slice (some ⟨g, 0, none⟩) N cap, .int .i64 (a : Int), .int .i64 ((a : Int) + (s : Int)), .int .i64 ((a : Int) + 2 * (s : Int)), .func (.func gc) #[] #[]] wr fun e w' =>
                  e = .returned (.tuple #[]) ∧ (∃ d, RowE c w' base g cap d ∧ Part (ltc cf) (2 * s) s D0 d (a + 2 * s)) ∧ Only g wr w' := by
                obtain ⟨d, hr, P, p1, p2, p3, p4⟩ := HP.out
                have hNN := HN.out
                rw [if_neg (by omega)] at p3
                have hD : (D0.drop a).length = N - a := by rw [List.length_drop, hNN]
                have hD2 : ((D0.drop a).drop s).length = N - a - s := by rw [List.length_drop, hD]
                rw [chunk_big (by omega) (by omega), chunk_big (s := s) (l := (D0.drop a).drop s) (by omega) (by omega)] at p3
                have hl1 : (isort (ltc cf) ((D0.drop a).take s)).length = s := by rw [isort_len, List.length_take]; omega
                have hl2 : (isort (ltc cf) (((D0.drop a).drop s).take s)).length = s := by rw [isort_len, List.length_take]; omega
                have hc := HSYM.out (s + s) wr P (isort (ltc cf) ((D0.drop a).take s)) (isort (ltc cf) (((D0.drop a).drop s).take s)) (chunk (ltc cf) s (((D0.drop a).drop s).drop s)) a (a + s) (a + 2 * s) (by omega) (by omega) (by omega) (by rw [← p3]; exact hr) (by
                  simp only [List.length_append, hl1, hl2, chunk_len (show 0 < s by omega), List.length_drop]
                  omega) p1.symm (by omega) (by omega) (isort_srt hO _) (isort_srt hO _)
                rw [show ((a + s : Nat) : Int) = (a : Int) + (s : Int) by omega, show ((a + 2 * s : Nat) : Int) = (a : Int) + 2 * (s : Int) by omega] at hc
                refine hc.mono ?_
                rintro e w' ⟨rfl, h2, h3⟩
                rw [← isort_app hO, ← List.take_add, show s + s = 2 * s by omega] at h2
                refine ⟨rfl, ⟨_, h2, P ++ isort (ltc cf) ((D0.drop a).take (2 * s)), ?_, by omega, ?_, ?_⟩, h3⟩
                · rw [List.length_append, isort_len, List.length_take]; omega
                · rw [if_neg (by omega), List.drop_drop, List.drop_drop, show a + (s + s) = a + 2 * s by omega, List.append_assoc]
                · rw [p4, chunk_big (s := 2 * s) (by omega) (by omega), List.drop_drop, List.append_assoc]
              have HC := Lib.hid hc
              clear hc HP
              go_wp2_with fail
              refine HC.out.mono ?_
              rintro e w1 ⟨rfl, hp1, ho1⟩
              have HP1 := Lib.hid hp1
              clear hp1
              go_wp2
              go_roundw
              case rel => exact ⟨a + 2 * s, by go_num, by go_num, hlt3, HP1, honly3.trans ho1⟩
              case measure => simp [intOf]; omega
            · have i3 : ¬ (a : Int) + 2 * (s : Int) ≤ (N : Int) := by omega
              by_cases hm : a + s < N
              · have i4 : (a : Int) + (s : Int) < (N : Int) := by omega
                have hc : Calls Try.prog 69 #[.slice (some ⟨g, 0, none⟩) N cap, .int .i64 (a : Int), .int .i64 ((a : Int) + (s : Int)), .int .i64 (N : Int), .func (.func gc) #[] #[]] wr fun e w' =>
                    e = .returned (.tuple #[]) ∧ RowE c w' base g cap (chunk (ltc cf) (2 * s) D0) ∧ Only g wr w' := by
                  obtain ⟨d, hr, P, p1, p2, p3, p4⟩ := HP.out
                  have hNN := HN.out
                  rw [if_neg (by omega)] at p3
                  have hD : (D0.drop a).length = N - a := by rw [List.length_drop, hNN]
                  have hD2 : ((D0.drop a).drop s).length = N - a - s := by rw [List.length_drop, hD]
                  rw [chunk_big (by omega) (by omega), chunk_small (s := s) (l := (D0.drop a).drop s) (by omega)] at p3
                  have hl1 : (isort (ltc cf) ((D0.drop a).take s)).length = s := by rw [isort_len, List.length_take]; omega
                  have hl2 : (isort (ltc cf) ((D0.drop a).drop s)).length = N - a - s := by rw [isort_len, hD2]
                  have hc := HSYM.out (s + (N - a - s)) wr P (isort (ltc cf) ((D0.drop a).take s)) (isort (ltc cf) ((D0.drop a).drop s)) [] a (a + s) N (by omega) (by omega) (by omega) (by rw [List.append_nil, ← p3]; exact hr) (by
                    simp only [List.length_append, hl1, hl2, List.length_nil]
                    omega) p1.symm (by omega) (by omega) (isort_srt hO _) (isort_srt hO _)
                  rw [show ((a + s : Nat) : Int) = (a : Int) + (s : Int) by omega] at hc
                  refine hc.mono ?_
                  rintro e w' ⟨rfl, h2, h3⟩
                  rw [← isort_app hO, List.take_append_drop, List.append_nil] at h2
                  refine ⟨rfl, ?_, h3⟩
                  rw [p4, chunk_small (s := 2 * s) (by omega)]
                  exact h2
                have HC := Lib.hid hc
                clear hc HP HR HRP
                go_wp2_with fail
                refine HC.out.mono ?_
                rintro e w1 ⟨rfl, hp1, ho1⟩
                have HP1 := Lib.hid hp1
                clear hp1
                go_wp2
                go_roundw
                case rel => exact ⟨2 * s, by go_num, by omega, by omega, HP1, honly3.trans ho1⟩
                case measure => simp [intOf]; omega
              · have i4 : ¬ (a : Int) + (s : Int) < (N : Int) := by omega
                have HP1 : Hid (RowE c wr base g cap (chunk (ltc cf) (2 * s) D0)) := Lib.hid (by
                  obtain ⟨d, hr, P, p1, p2, p3, p4⟩ := HP.out
                  have hNN := HN.out
                  rw [if_neg (by omega)] at p3
                  have hD : (D0.drop a).length = N - a := by rw [List.length_drop, hNN]
                  rw [p4, chunk_small (s := 2 * s) (by omega)]
                  rw [chunk_small (s := s) (by omega)] at p3
                  rw [← p3]; exact hr)
                clear HP HR HRP
                go_wp2
                go_roundw
                case rel => exact ⟨2 * s, by go_num, by omega, by omega, HP1, honly3⟩
                case measure => simp [intOf]; omega
        · have i2 : ¬ (s : Int) < (N : Int) := by omega
          have HE : Hid (RowE c wr base g cap (isort (ltc cf) D0)) := Lib.hid (by rw [← chunk_small (s := s) (by rw [HN.out]; omega)]; exact HR.out)
          go_wp2
          go_end0
          exact ⟨rfl, HE.out, honly⟩

set_option maxRecDepth 100000 in
theorem sortStable_calls (c : α → Nat → Value) (h1 : ∀ x j, (c x j).oneCell' = true) (cf : α → α → Int) (gc : FuncId) (hcmp : CmpE c gc cf) (hent : ∀ args W, (callFunc gc args).run Try.prog W = .ok (.enter gc args) W) (hO : Swo (ltc cf))
    (N : Nat) (base g cap : Nat) (w : World) (D0 : List α) (h : RowE c w base g cap D0) (hN : D0.length = N) (hd : N ≤ 1099511627776) :
    Calls Try.prog 37 #[.slice (some ⟨g, 0, none⟩) N cap, .func (.func gc) #[] #[]] w fun e w' =>
      e = .returned (.tuple #[]) ∧ RowE c w' base g cap (isort (ltc cf) D0) ∧ Only g w w' := by
  have HC := Lib.hid (stable_calls c h1 cf gc hcmp hent hO N base g cap w D0 h hN hd)
  clear h1 hcmp hent h hN
  go_enter Try.func37, Try.ntmps37
  go_wp2_with fail
  refine HC.out.mono ?_
  rintro e w1 ⟨rfl, hr, ho⟩
  go_wp2
  go_end0
  exact ⟨rfl, hr, ho⟩
end Go.Proofs.Ytennddlihcamnaa.Sr
