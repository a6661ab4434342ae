/- symMergeCmpFunc where the left list is of one thing. -/
import Derived.Test.YtophfgijfmdbcaaProg
import Derived.Test.YtophfgijfmdbcaaSrM
namespace Go.Proofs.Ytophfgijfmdbcaa.Sr
open Go.Proofs.Ytophfgijfmdbcaa.So
open Go.RowKit

theorem run_lss0 {P : Program} {o : Oper} {b : Act} (W : World) (x : Operand) {t t' : TypeId} (ho : o.op = .binOp .lss t x (.const (.int .i64 0)) t') {u : Int} (hx : b.eval x = .int .i64 u) : (execOp b.eval o).run P W = .ok (.value (.bool (decide (u < 0)))) W := by
  have hy : b.eval (.const (.int .i64 0)) = .int .i64 0 := rfl
  unfold execOp
  simp only [ho, hx, hy]
  simp [go_sem]
theorem run_not {P : Program} {o : Oper} {b : Act} (W : World) (x : Operand) {t : TypeId} (ho : o.op = .unOp .not t x) {u : Bool} (hx : b.eval x = .bool u) : (execOp b.eval o).run P W = .ok (.value (.bool (!u))) W := by
  unfold execOp
  simp only [ho, hx]
  simp [go_sem]
variable {α : Type} [Inhabited α]

theorem srt_gt {lt : α → α → Bool} (hO : Swo lt) {Y : List α} (hY : Srt lt Y) {i j : Nat} (hij : i ≤ j) (hj : j < Y.length) : lt (gt Y j) (gt Y i) = false := by
  rcases Nat.lt_or_ge i j with h | h
  · have := List.pairwise_iff_getElem.1 hY i j (by omega) hj h
    rwa [gt_eq, gt_eq] at this
  · obtain rfl : i = j := by omega
    exact hO.irr _
theorem mem_take {Y : List α} {t : Nat} {p : α} (h : p ∈ Y.take t) : ∃ k, k < t ∧ k < Y.length ∧ p = gt Y k := by
  obtain ⟨k, hk, rfl⟩ := List.getElem_of_mem h
  rw [List.length_take] at hk
  exact ⟨k, by omega, by omega, by rw [List.getElem_take, gt_eq]⟩
theorem mem_drop {Y : List α} {t : Nat} {p : α} (h : p ∈ Y.drop t) : ∃ k, t ≤ k ∧ k < Y.length ∧ p = gt Y k := by
  obtain ⟨k, hk, rfl⟩ := List.getElem_of_mem h
  rw [List.length_drop] at hk
  exact ⟨t + k, by omega, by omega, by rw [List.getElem_drop, gt_eq]⟩
theorem drop_gt {Y : List α} {t : Nat} (h : t < Y.length) : Y.drop t = gt Y t :: Y.drop (t + 1) := by rw [List.drop_eq_getElem_cons h, gt_eq h]
theorem take_gt {Y : List α} {t : Nat} (h : t < Y.length) : Y.take (t + 1) = Y.take t ++ [gt Y t] := by rw [List.take_succ_eq_append_getElem h, gt_eq h]

/-- What is asked of the comparison. -/
def CmpE (c : α → Nat → Value) (gc : FuncId) (cf : α → α → Int) : Prop := ∀ (W : World) (x y : α), Calls Try.prog gc #[.agg (nine c x).toArray, .agg (nine c y).toArray] W fun e W' => e = .returned (.int .i64 (cf x y)) ∧ Below W.heap.size W W'
def ltc (cf : α → α → Int) (x y : α) : Bool := decide (cf x y < 0)
theorem half_run (x : Int) (h0 : 0 ≤ x) (h1 : x ≤ 9223372036854775807) : IntKind.u64.wrap x = x := IntWalk.u64_in _ (by omega)

set_option maxRecDepth 100000 in
set_option maxHeartbeats 3200000 in
theorem symA (c : α → Nat → Value) (h1 : ∀ x j, (c x j).oneCell' = true) (cf : α → α → Int) (gc : FuncId) (hcmp : CmpE c gc cf) (hent : ∀ args W, (callFunc gc args).run Try.prog W = .ok (.enter gc args) W) (hO : Swo (ltc cf))
    (N : Nat) (base g cap a b : Nat) (w : World) (A Y B : List α) (x : α) (h : RowE c w base g cap (A ++ (x :: (Y ++ B)))) (hN : (A ++ (x :: (Y ++ B))).length = N) (ha : a = A.length) (hb : b = a + 1 + Y.length) (hY : Srt (ltc cf) Y) (hd : N ≤ 4398046511104) :
    Calls Try.prog 61 #[.slice (some ⟨g, 0, none⟩) N cap, .int .i64 (a : Int), .int .i64 ((a : Int) + 1), .int .i64 (b : Int), .func (.func gc) #[] #[]] w fun e w' =>
      e = .returned (.tuple #[]) ∧ RowE c w' base g cap (A ++ (mg (ltc cf) [x] Y ++ B)) ∧ Only g w w' := by
  have H1 := Lib.hid h1
  have Hcmp : Hid (CmpE c gc cf) := Lib.hid hcmp
  have Hent := Lib.hid hent
  have HR0 := Lib.hid h
  have HN := Lib.hid hN
  have HA := Lib.hid ha
  have HB := Lib.hid hb
  have hbN : b ≤ N := by rw [← hN, hb, ha]; simp; omega
  have hab : a + 1 ≤ b := by omega
  have em : (a : Int) + 1 - (a : Int) = 1 := by omega
  have e11 : ((1 : Int) == 1) = true := rfl
  have HY := Lib.hid hY
  clear h1 hcmp hent h hN ha hb hY
  go_enter Try.func61, Try.ntmps61
  go_wp2
  go_loopw [10, 11] (fun vi vj wr => ∃ (i j : Nat), vi = .int .i64 (i : Int) ∧ vj = .int .i64 (j : Int) ∧ a + 1 ≤ i ∧ i ≤ j ∧ j ≤ b ∧ Hid ((∀ k, a + 1 + k < i → ltc cf (gt Y k) x = true) ∧ (∀ k, j ≤ a + 1 + k → k < Y.length → ltc cf (gt Y k) x = false)) ∧ Hid (RowE c wr base g cap (A ++ (x :: (Y ++ B)))) ∧ Below w.heap.size w wr) (fun vi vj _ => (intOf vj).toNat - (intOf vi).toNat)
  case atStart => exact ⟨a + 1, b, by go_num, rfl, Nat.le_refl _, hab, Nat.le_refl _, Lib.hid ⟨fun k hk => absurd hk (by omega), fun k hk hk2 => absurd hk2 (by have := HB.out; omega)⟩, Lib.hid HR0.out, Below.refl _ _⟩
  case round =>
    obtain ⟨i, j, rfl, rfl, hi, hij, hj, HI, HR, hbel⟩ := hrel
    by_cases hlt : i < j
    · obtain ⟨h, hh⟩ : ∃ h : Nat, h = (i + j) / 2 := ⟨_, rfl⟩
      have eh : ((i : Int) + (j : Int)) / 2 = (h : Int) := by omega
      have hi1 : i ≤ h := by omega
      have hh1 : h < j := by omega
      clear hh
      have HGa : Hid (gt (A ++ (x :: (Y ++ B))) a = x) := Lib.hid (by
        have := gt_app_right (A := A) (B := x :: (Y ++ B)) (i := 0)
        rw [Nat.add_zero, ← HA.out] at this
        exact this)
      have HGh : Hid (gt (A ++ (x :: (Y ++ B))) h = gt Y (h - (a + 1))) := Lib.hid (by
        have e : A ++ (x :: (Y ++ B)) = (A ++ [x]) ++ (Y ++ B) := by simp
        have hl : (A ++ [x]).length = a + 1 := by rw [HA.out]; simp
        rw [e]
        conv => lhs; rw [show h = (A ++ [x]).length + (h - (a + 1)) by omega]
        rw [gt_app_right, gt_app_left (by have := HB.out; omega)])
      have HF : Hid (ltc cf (gt Y (h - (a + 1))) x = false → (∀ k, a + 1 + k < i → ltc cf (gt Y k) x = true) ∧ (∀ k, h ≤ a + 1 + k → k < Y.length → ltc cf (gt Y k) x = false)) := Lib.hid fun ht => ⟨HI.out.1, fun k hk hk2 => hO.neg _ _ _ (srt_gt hO HY.out (i := h - (a + 1)) (by omega) hk2) ht⟩
      have HT : Hid (ltc cf (gt Y (h - (a + 1))) x = true → (∀ k, a + 1 + k < h + 1 → ltc cf (gt Y k) x = true) ∧ (∀ k, j ≤ a + 1 + k → k < Y.length → ltc cf (gt Y k) x = false)) := Lib.hid fun ht => ⟨fun k hk => hO.le_lt (srt_gt hO HY.out (j := h - (a + 1)) (by omega) (by have := HB.out; omega)) ht, HI.out.2⟩
      generalize gt Y (h - (a + 1)) = yv at *
      have hpl : h < (A ++ (x :: (Y ++ B))).length := by rw [HN.out]; omega
      have hql : a < (A ++ (x :: (Y ++ B))).length := by rw [HN.out]; omega
      have iah := fun W => idx_run (g := g) (cap := cap) (n := N) W (i := h) (by omega) (x := (h : Int)) rfl
      have iaa := fun W => idx_run (g := g) (cap := cap) (n := N) W (i := a) (by omega) (x := (a : Int)) rfl
      go_wp2_with fail
      refine wp_cmp (by kernel_rfl) (by kernel_rfl) c base g cap (A ++ (x :: (Y ++ B))) (h) (a) (by omega) (by omega) HR.out 58 _ Try.underlying58 (by kernel_rfl)
        (fun i => (#[.func (.func gc) #[] #[], .slice (some ⟨g, 0, none⟩) N cap, .int .i64 (h : Int), .pointer (some ⟨g, h * 9, none⟩), .agg (nine c (gt (A ++ (x :: (Y ++ B))) h)).toArray, .slice (some ⟨g, 0, none⟩) N cap, .int .i64 (a : Int), .pointer (some ⟨g, a * 9, none⟩), .agg (nine c (gt (A ++ (x :: (Y ++ B))) a)).toArray, .int .i64 (cf (gt (A ++ (x :: (Y ++ B))) h) (gt (A ++ (x :: (Y ++ B))) a)), .bool (decide (cf (gt (A ++ (x :: (Y ++ B))) h) (gt (A ++ (x :: (Y ++ B))) a) < 0))] : Array Value).getD i undef) 4 8 9 3 7 0 43 47 44 48 40 _ gc (cf (gt (A ++ (x :: (Y ++ B))) (h)) (gt (A ++ (x :: (Y ++ B))) (a))) rfl rfl rfl rfl rfl rfl ⟨_, rfl, rfl⟩ ⟨_, rfl, rfl⟩ ⟨_, rfl, rfl⟩ (by exact ⟨rfl, rfl, rfl, rfl, rfl⟩) (by kernel_rfl) (by decide) Hent.out (fun W _ => Hcmp.out W _ _) ?_ [(some 40, .func (.func gc) #[] #[]), (some 41, .slice (some ⟨g, 0, none⟩) N cap), (some 42, .int .i64 (h : Int)), (some 43, .pointer (some ⟨g, h * 9, none⟩)), (some 44, .agg (nine c (gt (A ++ (x :: (Y ++ B))) h)).toArray), (some 45, .slice (some ⟨g, 0, none⟩) N cap), (some 46, .int .i64 (a : Int)), (some 47, .pointer (some ⟨g, a * 9, none⟩)), (some 48, .agg (nine c (gt (A ++ (x :: (Y ++ B))) a)).toArray), (some 49, .int .i64 (cf (gt (A ++ (x :: (Y ++ B))) h) (gt (A ++ (x :: (Y ++ B))) a))), (some 50, .bool (decide (cf (gt (A ++ (x :: (Y ++ B))) h) (gt (A ++ (x :: (Y ++ B))) a) < 0)))] rfl ?_
      · intro i o ho k1 k2 k3 b' W hev hout
        rcases i with _ | _ | _ | _ | _ | _ | _ | _ | _ | _ | _ | i
        · cases ho
          exact run_move W (.tmp 4) rfl ((hout 4 (by kernel_rfl)).trans rfl)
        · cases ho
          exact run_move W (.tmp 0) rfl ((hout 0 (by kernel_rfl)).trans rfl)
        · cases ho
          exact run_move W (.tmp 12) rfl ((hout 12 (by kernel_rfl)).trans rfl)
        · cases ho
          exact run_idx W (.tmp 41) (.tmp 42) rfl (hev 1 41 (by kernel_rfl) rfl) (hev 2 42 (by kernel_rfl) rfl) iah
        · exact absurd rfl k1
        · cases ho
          exact run_move W (.tmp 0) rfl ((hout 0 (by kernel_rfl)).trans rfl)
        · cases ho
          exact run_move W (.tmp 1) rfl ((hout 1 (by kernel_rfl)).trans rfl)
        · cases ho
          exact run_idx W (.tmp 45) (.tmp 46) rfl (hev 5 45 (by kernel_rfl) rfl) (hev 6 46 (by kernel_rfl) rfl) iaa
        · exact absurd rfl k2
        · exact absurd rfl k3
        · cases ho
          exact run_lss0 W (.tmp 49) rfl (hev 9 49 (by kernel_rfl) rfl)
        · cases ho
      · intro w2 hrow hb2
        rw [HGa.out, HGh.out]
        have hbe : Below w.heap.size w w2 := hbel.trans (hb2.mono hbel.size)
        have HRW := Lib.hid hrow
        clear hpl hql iah iaa hrow eh
        cases ht : decide (cf yv x < 0)
        · have HI3 := Lib.hid (HF.out ht)
          clear ht HT HF
          simp only [putP, Exit.then, Act.put, List.setIfInBounds_toArray, List.set_cons_zero, List.set_cons_succ]
          go_wp2
          go_roundw
          case rel => exact ⟨i, h, rfl, rfl, hi, hi1, by omega, HI3, HRW, hbe⟩
          case measure => simp [intOf]; omega
        · have HI3 := Lib.hid (HT.out ht)
          clear ht HT HF
          simp only [putP, Exit.then, Act.put, List.setIfInBounds_toArray, List.set_cons_zero, List.set_cons_succ]
          go_wp2
          go_roundw
          case rel => exact ⟨h + 1, j, by go_num, rfl, by omega, by omega, hj, HI3, HRW, hbe⟩
          case measure => simp [intOf]; omega
    · obtain rfl : i = j := by omega
      have hs0 := hbel.size
      have HT : Hid (A ++ (mg (ltc cf) [x] Y ++ B) = A ++ (Y.take (i - 1 - a) ++ (x :: (Y.drop (i - 1 - a) ++ B)))) := Lib.hid (by
        have e := mg_first (lt := ltc cf) (P := Y.take (i - 1 - a)) (Q := Y.drop (i - 1 - a)) (x := x) (fun p hp => by
          obtain ⟨k, hk, _, rfl⟩ := mem_take hp
          exact HI.out.1 k (by omega)) (fun q hq => by
          obtain ⟨k, hk, hk2, rfl⟩ := mem_drop hq
          exact HI.out.2 k (by omega) hk2)
        rw [List.take_append_drop] at e
        rw [e]
        simp)
      have HYl : Hid (i ≤ a + 1 + Y.length) := Lib.hid (by have := HB.out; omega)
      go_wp2
      go_loopw [13] (fun vk wk => ∃ k : Nat, vk = .int .i64 (k : Int) ∧ a ≤ k ∧ k + 1 ≤ i ∧ Hid (RowE c wk base g cap (A ++ (Y.take (k - a) ++ (x :: (Y.drop (k - a) ++ B))))) ∧ Only g wr wk) (fun vk _ => i - (intOf vk).toNat)
      case atStart => exact ⟨a, rfl, Nat.le_refl _, hi, Lib.hid (by rw [Nat.sub_self]; simpa using HR.out), Only.refl _ _⟩
      case round =>
        obtain ⟨k, rfl, hak, hki, HR2, honly⟩ := hrel
        by_cases hlt2 : k + 1 < i
        · have i2 : (k : Int) < (i : Int) - 1 := by omega
          obtain ⟨dk, hdk⟩ : ∃ dk, dk = A ++ (Y.take (k - a) ++ (x :: (Y.drop (k - a) ++ B))) := ⟨_, rfl⟩
          have hkY : k - a < Y.length := by have := HYl.out; omega
          have hdl : dk.length = N := by
            rw [hdk, ← HN.out]
            simp
            omega
          have Hsw : Hid (sw dk k (k + 1) = A ++ (Y.take (k + 1 - a) ++ (x :: (Y.drop (k + 1 - a) ++ B)))) := Lib.hid (by
            have e1 : dk = (A ++ Y.take (k - a)) ++ x :: ([] ++ gt Y (k - a) :: (Y.drop (k - a + 1) ++ B)) := by
              rw [hdk, drop_gt hkY]
              simp
            have hA := HA.out
            rw [e1, sw_mid _ _ _ _ _ (by rw [List.length_append, List.length_take]; omega) (by rw [List.length_append, List.length_take, List.length_nil]; omega)]
            rw [show k + 1 - a = k - a + 1 by omega, take_gt hkY]
            simp)
          rw [← hdk] at HR2
          clear hdk hkY
          have HR : Hid (RowE c wr base g cap dk) := HR2
          have kw1 : IntKind.i64.wrap ((k : Int) + 1) = (k : Int) + 1 := IntWalk.i64_in _ (by omega)
          have ia0 := fun W => idx_run (g := g) (cap := cap) (n := N) W (i := k) (by omega) (x := (k : Int)) rfl
          have ia1 := fun W => idx_run (g := g) (cap := cap) (n := N) W (i := k + 1) (by omega) (x := (k : Int) + 1) (by omega)
          have hp2 : k + 1 < dk.length := by omega
          have hp1 : k < dk.length := by omega
          clear hdl
          go_wp2_with fail
          refine wp_swap (by kernel_rfl) (by kernel_rfl) c H1.out base g cap (dk) (k) (k + 1) (by omega) (by omega) HR.out 58 _ Try.underlying58 (by kernel_rfl)
            (fun i => (#[.slice (some ⟨g, 0, none⟩) N cap, .int .i64 (k : Int), .slice (some ⟨g, 0, none⟩) N cap, .int .i64 (k : Int), .int .i64 ((k : Int) + 1), .slice (some ⟨g, 0, none⟩) N cap, .int .i64 (k : Int), .int .i64 ((k : Int) + 1), .pointer (some ⟨g, (k + 1) * 9, none⟩), .agg (nine c (gt dk (k + 1))).toArray, .slice (some ⟨g, 0, none⟩) N cap, .int .i64 (k : Int), .pointer (some ⟨g, k * 9, none⟩), .agg (nine c (gt dk k)).toArray, .pointer (some ⟨g, k * 9, none⟩), undef, .pointer (some ⟨g, (k + 1) * 9, none⟩), undef] : Array Value).getD i undef) 9 13 15 17 8 12 14 16 69 73 75 76 70 74 rfl rfl rfl rfl rfl rfl ⟨_, rfl, rfl⟩ ⟨_, rfl, rfl⟩ ⟨_, rfl, rfl, rfl⟩ ⟨_, rfl, rfl, rfl⟩ (by exact ⟨rfl, rfl, rfl, rfl, rfl, rfl⟩) (by kernel_rfl) (by decide) ?_ [(some 61, .slice (some ⟨g, 0, none⟩) N cap), (some 62, .int .i64 (k : Int)), (some 63, .slice (some ⟨g, 0, none⟩) N cap), (some 64, .int .i64 (k : Int)), (some 65, .int .i64 ((k : Int) + 1)), (some 66, .slice (some ⟨g, 0, none⟩) N cap), (some 67, .int .i64 (k : Int)), (some 68, .int .i64 ((k : Int) + 1)), (some 69, .pointer (some ⟨g, (k + 1) * 9, none⟩)), (some 70, .agg (nine c (gt dk (k + 1))).toArray), (some 71, .slice (some ⟨g, 0, none⟩) N cap), (some 72, .int .i64 (k : Int)), (some 73, .pointer (some ⟨g, k * 9, none⟩)), (some 74, .agg (nine c (gt dk k)).toArray), (some 75, .pointer (some ⟨g, k * 9, none⟩)), (none, undef), (some 76, .pointer (some ⟨g, (k + 1) * 9, none⟩)), (none, undef)] rfl ?_ (by exact ⟨by decide, by decide⟩)
          · intro i o ho k1 k2 k3 k4 b' W hev hout
            rcases i with _ | _ | _ | _ | _ | _ | _ | _ | _ | _ | _ | _ | _ | _ | _ | _ | _ | _ | i
            · cases ho
              exact run_move W (.tmp 0) rfl ((hout 0 (by kernel_rfl)).trans rfl)
            · cases ho
              exact run_move W (.tmp 13) rfl ((hout 13 (by kernel_rfl)).trans rfl)
            · cases ho
              exact run_move W (.tmp 0) rfl ((hout 0 (by kernel_rfl)).trans rfl)
            · cases ho
              exact run_move W (.tmp 13) rfl ((hout 13 (by kernel_rfl)).trans rfl)
            · cases ho
              exact run_add W (.tmp 64) (.const (.int .i64 1)) rfl (hev 3 64 (by kernel_rfl) (by decide) (by decide) rfl) rfl kw1
            · cases ho
              exact run_move W (.tmp 0) rfl ((hout 0 (by kernel_rfl)).trans rfl)
            · cases ho
              exact run_move W (.tmp 13) rfl ((hout 13 (by kernel_rfl)).trans rfl)
            · cases ho
              exact run_add W (.tmp 67) (.const (.int .i64 1)) rfl (hev 6 67 (by kernel_rfl) (by decide) (by decide) rfl) rfl kw1
            · cases ho
              exact run_idx W (.tmp 66) (.tmp 68) rfl (hev 5 66 (by kernel_rfl) (by decide) (by decide) rfl) (hev 7 68 (by kernel_rfl) (by decide) (by decide) rfl) ia1
            · exact absurd rfl k1
            · cases ho
              exact run_move W (.tmp 0) rfl ((hout 0 (by kernel_rfl)).trans rfl)
            · cases ho
              exact run_move W (.tmp 13) rfl ((hout 13 (by kernel_rfl)).trans rfl)
            · cases ho
              exact run_idx W (.tmp 71) (.tmp 72) rfl (hev 10 71 (by kernel_rfl) (by decide) (by decide) rfl) (hev 11 72 (by kernel_rfl) (by decide) (by decide) rfl) ia0
            · exact absurd rfl k2
            · cases ho
              exact run_idx W (.tmp 61) (.tmp 62) rfl (hev 0 61 (by kernel_rfl) (by decide) (by decide) rfl) (hev 1 62 (by kernel_rfl) (by decide) (by decide) rfl) ia0
            · exact absurd rfl k3
            · cases ho
              exact run_idx W (.tmp 63) (.tmp 65) rfl (hev 2 63 (by kernel_rfl) (by decide) (by decide) rfl) (hev 4 65 (by kernel_rfl) (by decide) (by decide) rfl) ia1
            · exact absurd rfl k4
            · cases ho
          · intro w3 hrow honly2
            have HR3 : Hid (RowE c w3 base g cap (A ++ (Y.take (k + 1 - a) ++ (x :: (Y.drop (k + 1 - a) ++ B))))) := Lib.hid (by rw [← Hsw.out]; exact hrow)
            clear hp1 hp2 hrow ia0 ia1
            simp only [putP, Exit.then, Act.put, List.setIfInBounds_toArray, List.set_cons_zero, List.set_cons_succ]
            go_wp2
            go_roundw
            case rel => exact ⟨k + 1, by go_num, by omega, by omega, HR3, honly.trans honly2⟩
            case measure => simp [intOf]; omega
        · obtain rfl : i = k + 1 := by omega
          have i2 : ¬ (k : Int) < ((k + 1 : Nat) : Int) - 1 := by omega
          have HR3 : Hid (RowE c wr base g cap (A ++ (mg (ltc cf) [x] Y ++ B))) := Lib.hid (by rw [HT.out, show k + 1 - 1 - a = k - a by omega]; exact HR2.out)
          go_wp2
          refine bodyPost_ret (results_none rfl _ _ _) rfl ?_
          exact ⟨rfl, HR3.out, (Only.of_below hbel).trans honly⟩
end Go.Proofs.Ytophfgijfmdbcaa.Sr
