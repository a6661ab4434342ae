/- rotateCmpFunc. -/
import Derived.Test.YtennddlihcamnaaProg
import Derived.Test.YtennddlihcamnaaSrD
namespace Go.Proofs.Ytennddlihcamnaa.Sr
open Go.Proofs.Ytennddlihcamnaa.So
open Go.RowKit
variable {α : Type} [Inhabited α]

theorem gt_app_right {A B : List α} {i : Nat} : gt (A ++ B) (A.length + i) = gt B i := by
  unfold gt
  rw [List.getD_eq_getElem?_getD, List.getD_eq_getElem?_getD, List.getElem?_append_right (by omega), Nat.add_sub_cancel_left]
theorem gt_app_left {A B : List α} {i : Nat} (h : i < A.length) : gt (A ++ B) i = gt A i := by
  unfold gt
  rw [List.getD_eq_getElem?_getD, List.getD_eq_getElem?_getD, List.getElem?_append_left h]
theorem gt_zero {x : α} {B : List α} : gt (x :: B) 0 = x := rfl
theorem sw_mid (A M B : List α) (x y : α) {p q : Nat} (hp : p = A.length) (hq : q = A.length + 1 + M.length) : sw (A ++ x :: (M ++ y :: B)) p q = A ++ y :: (M ++ x :: B) := by
  subst hp hq
  have g1 : gt (A ++ x :: (M ++ y :: B)) A.length = x := by
    have := gt_app_right (A := A) (B := x :: (M ++ y :: B)) (i := 0)
    exact this
  have g2 : gt (A ++ x :: (M ++ y :: B)) (A.length + 1 + M.length) = y := by
    have e : A ++ x :: (M ++ y :: B) = (A ++ x :: M) ++ y :: B := by simp
    rw [e, show A.length + 1 + M.length = (A ++ x :: M).length + 0 by simp; omega, gt_app_right]
    rfl
  unfold sw
  rw [g1, g2]
  have e1 : (A ++ x :: (M ++ y :: B)).set A.length y = (A ++ y :: M) ++ y :: B := by
    rw [List.set_append_right _ _ (Nat.le_refl _), Nat.sub_self, List.set_cons_zero]
    simp
  rw [e1, List.set_append_right _ _ (by simp; omega), show A.length + 1 + M.length - (A ++ y :: M).length = 0 by simp; omega, List.set_cons_zero]
  simp
theorem swr_lists : ∀ (n : Nat) (A U M V B : List α), U.length = n → V.length = n → ∀ (a b : Nat), a = A.length → b = A.length + n + M.length → swr (A ++ (U ++ (M ++ (V ++ B)))) a b n = A ++ (V ++ (M ++ (U ++ B)))
  | 0, A, U, M, V, B, hU, hV, a, b, _, _ => by
    rw [List.eq_nil_of_length_eq_zero hU, List.eq_nil_of_length_eq_zero hV]
    rfl
  | n + 1, A, U, M, V, B, hU, hV, a, b, ha, hb => by
    rcases List.eq_nil_or_concat U with rfl | ⟨U', u, rfl⟩
    · simp at hU
    rcases List.eq_nil_or_concat V with rfl | ⟨V', v, rfl⟩
    · simp at hV
    simp only [List.concat_eq_append, List.length_append, List.length_singleton] at hU hV ⊢
    have ih := swr_lists n A U' ([u] ++ M) V' ([v] ++ B) (by omega) (by omega) a b ha (by simp; omega)
    have e1 : A ++ ((U' ++ [u]) ++ (M ++ ((V' ++ [v]) ++ B))) = A ++ (U' ++ (([u] ++ M) ++ (V' ++ ([v] ++ B)))) := by simp
    rw [e1, swr_succ, ih]
    have e2 : A ++ (V' ++ (([u] ++ M) ++ (U' ++ ([v] ++ B)))) = (A ++ V') ++ u :: ((M ++ U') ++ v :: B) := by simp
    rw [e2, sw_mid _ _ _ _ _ (by simp; omega) (by simp; omega)]
    simp

theorem swapRange_n (c : α → Nat → Value) (h1 : ∀ x j, (c x j).oneCell' = true) (N : Nat) (base g cap a b n : Nat) (fv : Value) (w : World) (A U M V B : List α) (h : RowE c w base g cap (A ++ (U ++ (M ++ (V ++ B))))) (hN : (A ++ (U ++ (M ++ (V ++ B)))).length = N) (hU : U.length = n) (hV : V.length = n) (ha : a = A.length) (hb : b = A.length + n + M.length) (hd : N ≤ 4398046511104) :
    Calls Try.prog 89 #[.slice (some ⟨g, 0, none⟩) N cap, .int .i64 (a : Int), .int .i64 (b : Int), .int .i64 (n : Int), fv] w fun e w' =>
      e = .returned (.tuple #[]) ∧ RowE c w' base g cap (A ++ (V ++ (M ++ (U ++ B)))) ∧ Only g w w' := by
  subst hN
  have := swapRange_calls c h1 _ base g cap a b n fv w h (by omega) (by simp; omega) hd
  rw [swr_lists n A U M V B hU hV a b ha hb] at this
  exact this

set_option maxRecDepth 100000 in
set_option maxHeartbeats 3200000 in
theorem rotate_calls (c : α → Nat → Value) (h1 : ∀ x j, (c x j).oneCell' = true) (N : Nat) (base g cap a m b : Nat) (fv : Value) (w : World) (A X Y B : List α) (h : RowE c w base g cap (A ++ (X ++ (Y ++ B)))) (hN : (A ++ (X ++ (Y ++ B))).length = N) (ha : a = A.length) (hm : m = a + X.length) (hb : b = m + Y.length) (hX : 0 < X.length) (hY : 0 < Y.length) (hd : N ≤ 4398046511104) :
    Calls Try.prog 82 #[.slice (some ⟨g, 0, none⟩) N cap, .int .i64 (a : Int), .int .i64 (m : Int), .int .i64 (b : Int), fv] w fun e w' =>
      e = .returned (.tuple #[]) ∧ RowE c w' base g cap (A ++ (Y ++ (X ++ B))) ∧ Only g w w' := by
  have H1 := Lib.hid h1
  have hmN : m + Y.length ≤ N := by rw [← hN]; simp; omega
  have HS : Hid (∃ (A' U V B' : List α), A'.length + X.length = m ∧ U.length = X.length ∧ V.length = Y.length ∧ (A' ++ (U ++ (V ++ B'))).length = N ∧ RowE c w base g cap (A' ++ (U ++ (V ++ B'))) ∧ A ++ (Y ++ (X ++ B)) = A' ++ (V ++ (U ++ B'))) := Lib.hid ⟨A, X, Y, B, by omega, rfl, rfl, hN, h, rfl⟩
  obtain ⟨x, hx⟩ : ∃ x, x = X.length := ⟨_, rfl⟩
  obtain ⟨y, hy⟩ : ∃ y, y = Y.length := ⟨_, rfl⟩
  rw [← hx] at HS hX hm
  rw [← hy] at HS hY hb hmN
  have hxa : a ≤ m := by omega
  have ex : (m : Int) - (a : Int) = (x : Int) := by omega
  have ey : (b : Int) - (m : Int) = (y : Int) := by omega
  have hxm : x ≤ m := by omega
  generalize A ++ (Y ++ (X ++ B)) = T at *
  clear h1 h hN hx hy ha hm hb
  go_enter Try.func82, Try.ntmps82
  go_wp2
  go_loopw [10, 11] (fun vi vj wr => ∃ (i j : Nat), vi = .int .i64 (i : Int) ∧ vj = .int .i64 (j : Int) ∧ 1 ≤ i ∧ 1 ≤ j ∧ i ≤ m ∧ m + j ≤ N ∧ Hid (∃ (A' U V B' : List α), A'.length + i = m ∧ U.length = i ∧ V.length = j ∧ (A' ++ (U ++ (V ++ B'))).length = N ∧ RowE c wr base g cap (A' ++ (U ++ (V ++ B'))) ∧ T = A' ++ (V ++ (U ++ B'))) ∧ Only g w wr) (fun vi vj _ => (intOf vi).toNat + (intOf vj).toNat)
  case atStart => exact ⟨x, y, rfl, rfl, hX, hY, hxm, hmN, HS, Only.refl _ _⟩
  case round =>
    obtain ⟨i, j, rfl, rfl, hi1, hj1, him, hjN, HR, honly⟩ := hrel
    clear ex ey HS
    rcases Nat.lt_trichotomy i j with hij | hij | hij
    · -- the left one is shorter
      have hne : ((i : Int) != (j : Int)) = true := net (by omega)
      have hgt : decide ((j : Int) < (i : Int)) = false := dcf (by omega)
      have hgt' : ¬ (j : Int) < (i : Int) := by omega
      have hsr : Calls Try.prog 89 #[.slice (some ⟨g, 0, none⟩) N cap, .int .i64 ((m : Int) - (i : Int)), .int .i64 ((m : Int) + (j : Int) - (i : Int)), .int .i64 (i : Int), fv] wr fun e w' =>
          e = .returned (.tuple #[]) ∧ (∃ (A' U V B' : List α), A'.length + i = m ∧ U.length = i ∧ V.length = j - i ∧ (A' ++ (U ++ (V ++ B'))).length = N ∧ RowE c w' base g cap (A' ++ (U ++ (V ++ B'))) ∧ T = A' ++ (V ++ (U ++ B'))) ∧ Only g wr w' := by
        obtain ⟨A', U, V, B', q1, q2, q3, q4, q5, q6⟩ := HR.out
        have e0 : V = V.take (j - i) ++ V.drop (j - i) := (List.take_append_drop _ _).symm
        have hr : RowE c wr base g cap (A' ++ (U ++ (V.take (j - i) ++ (V.drop (j - i) ++ B')))) := by
          rw [← List.append_assoc (V.take (j - i)), ← e0]; exact q5
        have hl : (A' ++ (U ++ (V.take (j - i) ++ (V.drop (j - i) ++ B')))).length = N := by
          rw [← List.append_assoc (V.take (j - i)), ← e0]; exact q4
        have hc := swapRange_n c H1.out N base g cap (m - i) (m + j - i) i fv wr A' U (V.take (j - i)) (V.drop (j - i)) B' hr hl q2 (by rw [List.length_drop]; omega) (by omega) (by rw [List.length_take]; omega) hd
        rw [show ((m - i : Nat) : Int) = (m : Int) - (i : Int) by omega, show ((m + j - i : Nat) : Int) = (m : Int) + (j : Int) - (i : Int) by omega] at hc
        refine hc.mono ?_
        rintro e w' ⟨rfl, h2, h3⟩
        refine ⟨rfl, ⟨A', V.drop (j - i), V.take (j - i), U ++ B', q1, by rw [List.length_drop]; omega, by rw [List.length_take]; omega, ?_, h2, ?_⟩, h3⟩
        · have := q4
          simp only [List.length_append, List.length_take, List.length_drop] at this ⊢
          omega
        · rw [q6, ← List.append_assoc (V.take (j - i)), ← e0]
      have HC := Lib.hid hsr
      clear hsr HR
      have i9 : (0 : Int) ≤ (i : Int) := by omega
      go_wp2_with fail
      refine HC.out.mono ?_
      rintro e w1 ⟨rfl, hr1, ho1⟩
      have HR1 := Lib.hid hr1
      clear hr1
      go_wp2
      go_roundw
      case rel => exact ⟨i, j - i, rfl, by go_num, hi1, by omega, him, by omega, HR1, honly.trans ho1⟩
      case measure => simp [intOf]; omega
    · -- both are of one length
      subst hij
      have hne : ((i : Int) != (i : Int)) = false := nef rfl
      have hsr : Calls Try.prog 89 #[.slice (some ⟨g, 0, none⟩) N cap, .int .i64 ((m : Int) - (i : Int)), .int .i64 (m : Int), .int .i64 (i : Int), fv] wr fun e w' =>
          e = .returned (.tuple #[]) ∧ RowE c w' base g cap T ∧ Only g wr w' := by
        obtain ⟨A', U, V, B', q1, q2, q3, q4, q5, q6⟩ := HR.out
        have hc := swapRange_n c H1.out N base g cap (m - i) m i fv wr A' U [] V B' (by simpa using q5) (by simpa using q4) q2 q3 (by omega) (by simp; omega) hd
        rw [show ((m - i : Nat) : Int) = (m : Int) - (i : Int) by omega] at hc
        refine hc.mono ?_
        rintro e w' ⟨rfl, h2, h3⟩
        exact ⟨rfl, by rw [q6]; simpa using h2, h3⟩
      have HC := Lib.hid hsr
      clear hsr HR
      go_wp2_with fail
      refine HC.out.mono ?_
      rintro e w1 ⟨rfl, hr1, ho1⟩
      have HR1 := Lib.hid hr1
      clear hr1
      go_wp2
      go_end0
      exact ⟨rfl, HR1.out, honly.trans ho1⟩
    · -- the right one is shorter
      have hne : ((i : Int) != (j : Int)) = true := net (by omega)
      have hgt : (j : Int) < (i : Int) := by omega
      have hsr : Calls Try.prog 89 #[.slice (some ⟨g, 0, none⟩) N cap, .int .i64 ((m : Int) - (i : Int)), .int .i64 (m : Int), .int .i64 (j : Int), fv] wr fun e w' =>
          e = .returned (.tuple #[]) ∧ (∃ (A' U V B' : List α), A'.length + (i - j) = m ∧ U.length = i - j ∧ V.length = j ∧ (A' ++ (U ++ (V ++ B'))).length = N ∧ RowE c w' base g cap (A' ++ (U ++ (V ++ B'))) ∧ T = A' ++ (V ++ (U ++ B'))) ∧ Only g wr w' := by
        obtain ⟨A', U, V, B', q1, q2, q3, q4, q5, q6⟩ := HR.out
        have e0 : U = U.take j ++ U.drop j := (List.take_append_drop _ _).symm
        have hr : RowE c wr base g cap (A' ++ (U.take j ++ (U.drop j ++ (V ++ B')))) := by
          rw [← List.append_assoc (U.take j), ← e0]; exact q5
        have hl : (A' ++ (U.take j ++ (U.drop j ++ (V ++ B')))).length = N := by
          rw [← List.append_assoc (U.take j), ← e0]; exact q4
        have hc := swapRange_n c H1.out N base g cap (m - i) m j fv wr A' (U.take j) (U.drop j) V B' hr hl (by rw [List.length_take]; omega) q3 (by omega) (by rw [List.length_drop]; omega) hd
        rw [show ((m - i : Nat) : Int) = (m : Int) - (i : Int) by omega] at hc
        refine hc.mono ?_
        rintro e w' ⟨rfl, h2, h3⟩
        refine ⟨rfl, ⟨A' ++ V, U.drop j, U.take j, B', by rw [List.length_append]; omega, by rw [List.length_drop]; omega, by rw [List.length_take]; omega, ?_, by rw [List.append_assoc]; exact h2, ?_⟩, h3⟩
        · have := q4
          simp only [List.length_append, List.length_take, List.length_drop] at this ⊢
          omega
        · rw [q6, List.append_assoc]
          congr 2
          rw [← List.append_assoc (U.take j), ← e0]
      have HC := Lib.hid hsr
      clear hsr HR
      go_wp2_with fail
      refine HC.out.mono ?_
      rintro e w1 ⟨rfl, hr1, ho1⟩
      have HR1 := Lib.hid hr1
      clear hr1
      go_wp2
      go_roundw
      case rel => exact ⟨i - j, j, by go_num, rfl, by omega, hj1, by omega, hjN, HR1, honly.trans ho1⟩
      case measure => simp [intOf]; omega
end Go.Proofs.Ytennddlihcamnaa.Sr
