/- The walk of DeltaEven: of a row whose steps are all the same Twice makes noughts from the third on. -/
import Derived.Test.YtpenjandhgcgeaaDelC
import Derived.Test.YtpenjandhgcgeaaOpen
namespace Go.Proofs.Ytpenjandhgcgeaa.lawDeltaEven
open Go.RowKit

def even (f s : Int) (n : Nat) : List Int := (List.range n).map fun i : Nat => f + (i : Int) * s
theorem even_len (f s : Int) (n : Nat) : (even f s n).length = n := by simp [even]
theorem even_get {f s : Int} {n i : Nat} (h : i < n) : (even f s n).getD i 0 = f + (i : Int) * s := by simp [even, List.getD, h]
theorem even_next (f s : Int) (n : Nat) : even f s n ++ [f + (n : Int) * s] = even f s (n + 1) := by simp [even, List.range_succ]
theorem mul_in {s : Int} {i : Nat} (h1 : -1099511627776 ≤ s) (h2 : s ≤ 1099511627776) (hi : i ≤ 300) : -329853488332800 ≤ (i : Int) * s ∧ (i : Int) * s ≤ 329853488332800 := by
  have a1 : (i : Int) * s ≤ (i : Int) * 1099511627776 := Int.mul_le_mul_of_nonneg_left h2 (by omega)
  have a2 : (i : Int) * (-1099511627776) ≤ (i : Int) * s := Int.mul_le_mul_of_nonneg_left h1 (by omega)
  omega
theorem even_in {f s : Int} {n : Nat} (f1 : -1099511627776 ≤ f) (f2 : f ≤ 1099511627776) (h1 : -1099511627776 ≤ s) (h2 : s ≤ 1099511627776) (hn : n ≤ 300) : (even f s n).all inB = true := by
  rw [List.all_eq_true]
  intro x hx
  obtain ⟨i, hi, rfl⟩ := List.mem_map.1 hx
  rw [List.mem_range] at hi
  have := mul_in h1 h2 (show i ≤ 300 by omega)
  rw [inB_iff]; omega
theorem even_two {f s : Int} {n i : Nat} (hi : i < n) (h2 : 2 ≤ i) : (dturn 2 (even f s n)).getD i 0 = 0 := by
  rw [dturn_get (by rw [even_len]; exact hi), dval_22 h2, even_get hi, even_get (by omega), even_get (by omega)]
  have e1 : ((i - 1 : Nat) : Int) = (i : Int) - 1 := by omega
  have e2 : ((i - 2 : Nat) : Int) = (i : Int) - 2 := by omega
  rw [e1, e2, Int.sub_mul, Int.sub_mul]
  omega
theorem even_first {f s : Int} {n : Nat} (h : 0 < n) : (dturn 2 (even f s n)).getD 0 0 = f := by
  rw [dturn_get (by rw [even_len]; exact h), dval_k0, even_get h]; simp
theorem cnt_in (x : Int) : ∃ P : Nat, wrap64 ((IntKind.u64.wrap x).tmod 300) = (P : Int) ∧ P < 300 := by
  have h0 : 0 ≤ IntKind.u64.wrap x := by rw [IntKind.wrap_u64]; omega
  have h3 : (IntKind.u64.wrap x).tmod 300 = IntKind.u64.wrap x % 300 := Int.tmod_eq_emod_of_nonneg h0
  rw [h3]
  refine ⟨(IntKind.u64.wrap x % 300).toNat, ?_, by omega⟩
  unfold wrap64; omega

set_option maxRecDepth 100000 in
set_option maxHeartbeats 1600000 in
theorem body (w : World) (f s x : Int) :
    Calls Try.prog 4 #[.int .i64 f, .int .i64 s, .int .i64 x] w fun e w' => e = .returned (.bool true) ∧ Below w.heap.size w w' := by
  by_cases hn : f < -1099511627776 ∨ (¬ f < -1099511627776 ∧ 1099511627776 < f) ∨ (¬ f < -1099511627776 ∧ ¬ 1099511627776 < f ∧ s < -1099511627776) ∨ (¬ f < -1099511627776 ∧ ¬ 1099511627776 < f ∧ ¬ s < -1099511627776 ∧ 1099511627776 < s)
  · rcases hn with h1 | ⟨h1, h2⟩ | ⟨h1, h2, h3⟩ | ⟨h1, h2, h3, h4⟩
    all_goals
      go_enter Try.func4, Try.ntmps4
      go_wp2_with fail
      refine (lives_calls w).mono ?_
      rintro e w1 ⟨rfl, hbel1⟩
      go_wp2_with fail
      refine (lives_calls w1).mono ?_
      rintro e w2 ⟨rfl, hbel2⟩
      go_wp2
      go_ret
      exact ⟨rfl, hbel1.trans (hbel2.mono hbel1.size)⟩
  · have f1 : -1099511627776 ≤ f := by omega
    have f2 : f ≤ 1099511627776 := by omega
    have s1 : -1099511627776 ≤ s := by omega
    have s2 : s ≤ 1099511627776 := by omega
    have t1 : ¬ f < -1099511627776 := by omega
    have t2 : ¬ 1099511627776 < f := by omega
    have t3 : ¬ s < -1099511627776 := by omega
    have t4 : ¬ 1099511627776 < s := by omega
    clear hn
    obtain ⟨P, hP, hPl⟩ := cnt_in x
    have HP := Lib.hid hP
    clear hP
    go_enter Try.func4, Try.ntmps4
    go_wp2_with fail
    refine (lives_calls w).mono ?_
    rintro e w1 ⟨rfl, hbel1⟩
    go_wp2
    rw [HP.out]
    go_loopw [7, 35] (fun out i wr => ∃ k : Nat, k ≤ P ∧ i = .int .i64 (k : Int) ∧ wr.ownsRow w1.heap.size 2 1 out (even f s k).length ((even f s k).map (Value.int .i64)) ∧ Below w1.heap.size w1 wr) (fun _ i _ => P - (intOf i).toNat)
    case atStart => exact ⟨0, by omega, rfl, World.ownsRow_nil _ _ _ _, Below.refl _ _⟩
    case round =>
      obtain ⟨k, hk, rfl, hown, hbel⟩ := hrel
      by_cases hlt : k < P
      · have hm := mul_in (i := k) s1 s2 (by omega)
        obtain ⟨m1, m2⟩ := hm
        have hnx := Lib.hid (even_next f s k)
        have hl : (even f s k).length ≤ 300 := by rw [even_len]; omega
        have hsz := hbel.size
        generalize even f s k = D at *
        go_wp2_with (at_builtin; go_must (refine wpList_push _ rfl (.tmp 38) (.tmp 44) _ rfl w1.heap.size 2 _ 8 Try.underlying22 Try.infoI64 rfl _ _ _ _ _ rfl rfl hown rfl (by unfold maxLen; omega) (by omega) hsz ?_))
        intro v' w2 hown' hbel' _ _
        have hown2 := own_snocI hown' rfl rfl
        rw [hnx.out] at hown2
        clear hown' hown
        go_wp2
        go_roundw
        case rel => exact ⟨k + 1, by omega, by go_num, hown2, hbel.trans hbel'⟩
        case measure => simp [intOf]; omega
      · obtain rfl : k = P := by omega
        have hdl := Lib.hid (even_len f s k)
        have hd : dcheck (even f s k) ((2 : Nat) : Int) = 0 := dcheck_ok (by omega) (by rw [hdl.out]; omega) (even_in f1 f2 s1 s2 (by omega))
        have hE2 : Hid (∀ i, i < k → 2 ≤ i → (dturn 2 (even f s k)).getD i 0 = 0) := Lib.hid fun i h1 h2 => even_two h1 h2
        have hE0 : Hid (0 < k → (dturn 2 (even f s k)).getD 0 0 = f) := Lib.hid fun h => even_first h
        have hTl := Lib.hid (dturn_len 2 (even f s k))
        obtain ⟨A2, c2, rfl, hc2, hm2, hr2⟩ := own_slice hown
        have hr2' : I64s wr wr.heap.size A2 (even f s k) := hr2
        have ht := turn_calls wr (c := c2) ((2 : Nat) : Int) hr2' (Nat.le_refl _) (by rw [hdl.out]; omega)
        rw [dTurnR_ok hd] at ht
        have HT := Lib.hid ht
        have hsz := hbel.size
        clear hd ht hown hr2 hr2'
        generalize dturn 2 (even f s k) = T at *
        have hTe : (((T.length : Nat) : Int) != (((even f s k).length : Nat) : Int)) = false := nef (by rw [hTl.out])
        have hTk : T.length = k := hTl.out.trans hdl.out
        have HTk := Lib.hid hTk
        have hTk1 : T.length ≤ k := by omega
        clear hTk
        generalize even f s k = D at *
        go_wp2_with fail
        refine HT.out.mono ?_
        rintro e w3 he
        obtain ⟨A3, c3, rfl, -, -, hr3, hbel3, -⟩ := he.opened
        clear he
        dsimp only at hr3 ⊢
        have k3 : Below w.heap.size w w3 := hbel1.trans ((hbel.trans (hbel3.mono hsz)).mono hbel1.size)
        go_wp2
        go_loop [11] (fun i => ∃ j : Nat, 2 ≤ j ∧ i = .int .i64 (j : Int)) (fun i => T.length - (intOf i).toNat)
        case atStart => exact ⟨2, by omega, rfl⟩
        case round =>
          obtain ⟨j, hj, rfl⟩ := hrel
          by_cases hjl : j < T.length
          · obtain ⟨b, off, rfl, _, hcell⟩ := hr3.cell (by omega)
            have c0 := hcell j hjl
            rw [hE2.out j (by omega) hj] at c0
            clear hcell
            go_wp2
            go_round
            case rel => exact ⟨j + 1, by omega, by go_num⟩
            case measure => simp [intOf]; omega
          · by_cases h0 : T.length = 0
            · have q : (((T.length : Nat) : Int) == 0) = true := eqt (by omega)
              clear h0
              go_wp2
              go_ret
              exact ⟨rfl, k3⟩
            · have q : (((T.length : Nat) : Int) == 0) = false := eqf (by omega)
              obtain ⟨b, off, rfl, _, hcell⟩ := hr3.cell (by omega)
              have c0 := hcell 0 (by omega)
              rw [hE0.out (by have := HTk.out; omega), Nat.add_zero] at c0
              have i1 : 0 < T.length := by omega
              clear hcell h0
              go_wp2
              go_ret
              exact ⟨rfl, k3⟩

theorem walk {H : Type} {enc : TypeId × Value → H} {W : World} {base : Nat} {v0 v1 v2 : Value} {d0 d1 d2 : DataW H} {p0 p1 p2 : List MemPlace} (g0 : Arg enc Try.prog W base 2 v0 d0 p0) (g1 : Arg enc Try.prog W base 2 v1 d1 p1) (g2 : Arg enc Try.prog W base 3 v2 d2 p2) :
    Calls Try.prog 4 #[v0, v1, v2] W fun e w' => e = .returned (.bool true) ∧ Below W.heap.size W w' := by
  obtain ⟨x, rfl, -, -⟩ := g0.int Try.underlying2
  obtain ⟨y, rfl, -, -⟩ := g1.int Try.underlying2
  obtain ⟨z, rfl, -, -⟩ := g2.int Try.underlying3
  exact body W x y z
end Go.Proofs.Ytpenjandhgcgeaa.lawDeltaEven
