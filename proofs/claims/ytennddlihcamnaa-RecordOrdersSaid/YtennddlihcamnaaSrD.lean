/- swapRangeCmpFunc. -/
import Derived.Test.YtennddlihcamnaaProg
import Derived.Test.YtennddlihcamnaaSrC
namespace Go.Proofs.Ytennddlihcamnaa.Sr
open Go.Proofs.Ytennddlihcamnaa.So
open Go.RowKit

theorem run_move {P : Program} {o : Oper} {b : Act} (W : World) (x : Operand) (ho : o.op = .move x) {v : Value} (hx : b.eval x = v) : (execOp b.eval o).run P W = .ok (.value v) W := by
  unfold execOp
  simp [ho, hx]
theorem run_add {P : Program} {o : Oper} {b : Act} (W : World) (x y : Operand) {t t' : TypeId} (ho : o.op = .binOp .add t x y t') {u v r : Int} (hx : b.eval x = .int .i64 u) (hy : b.eval y = .int .i64 v) (hr : IntKind.i64.wrap (u + v) = r) : (execOp b.eval o).run P W = .ok (.value (.int .i64 r)) W := by
  unfold execOp
  simp only [ho, hx, hy]
  simp [go_sem, hr]
theorem run_sub {P : Program} {o : Oper} {b : Act} (W : World) (x y : Operand) {t t' : TypeId} (ho : o.op = .binOp .sub t x y t') {u v r : Int} (hx : b.eval x = .int .i64 u) (hy : b.eval y = .int .i64 v) (hr : IntKind.i64.wrap (u - v) = r) : (execOp b.eval o).run P W = .ok (.value (.int .i64 r)) W := by
  unfold execOp
  simp only [ho, hx, hy]
  simp [go_sem, hr]
theorem idx_run {g cap n : Nat} (W : World) {i : Nat} (hi : i < n) {x : Int} (hx : x = (i : Int)) : (Instr.indexAt 33 (.slice (some ⟨g, 0, none⟩) n cap) (.int .i64 x)).run Try.prog W = .ok (.pointer (some ⟨g, i * 9, none⟩)) W := by
  subst hx
  have h1 : (i : Int) < (n : Int) := by omega
  simp [go_sem, h1]
theorem run_idx {o : Oper} {b : Act} (W : World) (x y : Operand) (ho : o.op = .indexAddr 33 x y) {u v r : Value} (hx : b.eval x = u) (hy : b.eval y = v) (hr : ∀ W, (Instr.indexAt 33 u v).run Try.prog W = .ok r W) : (execOp b.eval o).run Try.prog W = .ok (.value r) W := by
  unfold execOp
  simp [ho, hx, hy, hr]
variable {α : Type} [Inhabited α]

set_option maxRecDepth 100000 in
set_option maxHeartbeats 3200000 in
theorem swapRange_calls (c : α → Nat → Value) (h1 : ∀ x j, (c x j).oneCell' = true) (d : List α) (base g cap a b n : Nat) (fv : Value) (w : World) (h : RowE c w base g cap d) (hab : a + n ≤ b) (hb : b + n ≤ d.length) (hd : d.length ≤ 4398046511104) :
    Calls Try.prog 89 #[.slice (some ⟨g, 0, none⟩) d.length cap, .int .i64 (a : Int), .int .i64 (b : Int), .int .i64 (n : Int), fv] w fun e w' =>
      e = .returned (.tuple #[]) ∧ RowE c w' base g cap (swr d a b n) ∧ Only g w w' := by
  have H0 := Lib.hid h
  have H1 := Lib.hid h1
  clear h h1
  go_enter Try.func89, Try.ntmps89
  go_wp2
  go_loopw [10] (fun i wr => ∃ k : Nat, k ≤ n ∧ i = .int .i64 (k : Int) ∧ Hid (RowE c wr base g cap (swr d a b k)) ∧ Only g w wr) (fun i _ => n - (intOf i).toNat)
  case atStart => exact ⟨0, Nat.zero_le _, rfl, Lib.hid H0.out, Only.refl _ _⟩
  case round =>
    obtain ⟨k, hk, rfl, HR, honly⟩ := hrel
    by_cases hlt : k < n
    · have hl : (swr d a b k).length = d.length := swr_len d a b k
      have Hsn : Hid (swr d a b (k + 1) = sw (swr d a b k) (a + k) (b + k)) := Lib.hid (swr_succ d a b k)
      have kw1 : IntKind.i64.wrap ((a : Int) + (k : Int)) = (a : Int) + (k : Int) := IntWalk.i64_in _ (by omega)
      have kw2 : IntKind.i64.wrap ((b : Int) + (k : Int)) = (b : Int) + (k : Int) := IntWalk.i64_in _ (by omega)
      have ia1 := fun W => idx_run (g := g) (cap := cap) (n := d.length) W (i := a + k) (by omega) (x := (a : Int) + (k : Int)) (by omega)
      have ia2 := fun W => idx_run (g := g) (cap := cap) (n := d.length) W (i := b + k) (by omega) (x := (b : Int) + (k : Int)) (by omega)
      have HLn := Lib.hid hl
      have hpl : a + k < (swr d a b k).length := by omega
      have hql : b + k < (swr d a b k).length := by omega
      clear hl
      go_wp2_with fail
      refine wp_swap (by kernel_rfl) (by kernel_rfl) c H1.out base g cap (swr d a b k) (a + k) (b + k) (by omega) (by omega) HR.out 37 _ Try.underlying37 (by kernel_rfl)
        (fun i => (#[.slice (some ⟨g, 0, none⟩) d.length cap, .int .i64 (a : Int), .int .i64 (k : Int), .int .i64 ((a : Int) + (k : Int)), .slice (some ⟨g, 0, none⟩) d.length cap, .int .i64 (b : Int), .int .i64 (k : Int), .int .i64 ((b : Int) + (k : Int)), .slice (some ⟨g, 0, none⟩) d.length cap, .int .i64 (b : Int), .int .i64 (k : Int), .int .i64 ((b : Int) + (k : Int)), .pointer (some ⟨g, (b + k) * 9, none⟩), .agg (nine c (gt (swr d a b k) (b + k))).toArray, .slice (some ⟨g, 0, none⟩) d.length cap, .int .i64 (a : Int), .int .i64 (k : Int), .int .i64 ((a : Int) + (k : Int)), .pointer (some ⟨g, (a + k) * 9, none⟩), .agg (nine c (gt (swr d a b k) (a + k))).toArray, .pointer (some ⟨g, (a + k) * 9, none⟩), undef, .pointer (some ⟨g, (b + k) * 9, none⟩), undef] : Array Value).getD i undef) 13 19 21 23 12 18 20 22 28 34 36 37 29 35 rfl rfl rfl rfl rfl rfl ⟨_, rfl, rfl⟩ ⟨_, rfl, rfl⟩ ⟨_, rfl, rfl, rfl⟩ ⟨_, rfl, rfl, rfl⟩ (by exact ⟨rfl, rfl, rfl, rfl, rfl, rfl⟩) (by kernel_rfl) (by decide) ?_ [(some 16, .slice (some ⟨g, 0, none⟩) d.length cap), (some 17, .int .i64 (a : Int)), (some 18, .int .i64 (k : Int)), (some 19, .int .i64 ((a : Int) + (k : Int))), (some 20, .slice (some ⟨g, 0, none⟩) d.length cap), (some 21, .int .i64 (b : Int)), (some 22, .int .i64 (k : Int)), (some 23, .int .i64 ((b : Int) + (k : Int))), (some 24, .slice (some ⟨g, 0, none⟩) d.length cap), (some 25, .int .i64 (b : Int)), (some 26, .int .i64 (k : Int)), (some 27, .int .i64 ((b : Int) + (k : Int))), (some 28, .pointer (some ⟨g, (b + k) * 9, none⟩)), (some 29, .agg (nine c (gt (swr d a b k) (b + k))).toArray), (some 30, .slice (some ⟨g, 0, none⟩) d.length cap), (some 31, .int .i64 (a : Int)), (some 32, .int .i64 (k : Int)), (some 33, .int .i64 ((a : Int) + (k : Int))), (some 34, .pointer (some ⟨g, (a + k) * 9, none⟩)), (some 35, .agg (nine c (gt (swr d a b k) (a + k))).toArray), (some 36, .pointer (some ⟨g, (a + k) * 9, none⟩)), (none, undef), (some 37, .pointer (some ⟨g, (b + k) * 9, none⟩)), (none, undef)] rfl ?_ (by exact ⟨by decide, by decide⟩)
      · intro i o ho k1 k2 k3 k4 b' W hev hout
        rcases i with _ | _ | _ | _ | _ | _ | _ | _ | _ | _ | _ | _ | _ | _ | _ | _ | _ | _ | _ | _ | _ | _ | _ | _ | i
        · cases ho
          exact run_move W (.tmp 0) rfl ((hout 0 (by kernel_rfl)).trans rfl)
        · cases ho
          exact run_move W (.tmp 1) rfl ((hout 1 (by kernel_rfl)).trans rfl)
        · cases ho
          exact run_move W (.tmp 10) rfl ((hout 10 (by kernel_rfl)).trans rfl)
        · cases ho
          exact run_add W (.tmp 17) (.tmp 18) rfl (hev 1 17 (by kernel_rfl) (by decide) (by decide) rfl) (hev 2 18 (by kernel_rfl) (by decide) (by decide) rfl) kw1
        · cases ho
          exact run_move W (.tmp 0) rfl ((hout 0 (by kernel_rfl)).trans rfl)
        · cases ho
          exact run_move W (.tmp 2) rfl ((hout 2 (by kernel_rfl)).trans rfl)
        · cases ho
          exact run_move W (.tmp 10) rfl ((hout 10 (by kernel_rfl)).trans rfl)
        · cases ho
          exact run_add W (.tmp 21) (.tmp 22) rfl (hev 5 21 (by kernel_rfl) (by decide) (by decide) rfl) (hev 6 22 (by kernel_rfl) (by decide) (by decide) rfl) kw2
        · cases ho
          exact run_move W (.tmp 0) rfl ((hout 0 (by kernel_rfl)).trans rfl)
        · cases ho
          exact run_move W (.tmp 2) rfl ((hout 2 (by kernel_rfl)).trans rfl)
        · cases ho
          exact run_move W (.tmp 10) rfl ((hout 10 (by kernel_rfl)).trans rfl)
        · cases ho
          exact run_add W (.tmp 25) (.tmp 26) rfl (hev 9 25 (by kernel_rfl) (by decide) (by decide) rfl) (hev 10 26 (by kernel_rfl) (by decide) (by decide) rfl) kw2
        · cases ho
          exact run_idx W (.tmp 24) (.tmp 27) rfl (hev 8 24 (by kernel_rfl) (by decide) (by decide) rfl) (hev 11 27 (by kernel_rfl) (by decide) (by decide) rfl) ia2
        · exact absurd rfl k1
        · cases ho
          exact run_move W (.tmp 0) rfl ((hout 0 (by kernel_rfl)).trans rfl)
        · cases ho
          exact run_move W (.tmp 1) rfl ((hout 1 (by kernel_rfl)).trans rfl)
        · cases ho
          exact run_move W (.tmp 10) rfl ((hout 10 (by kernel_rfl)).trans rfl)
        · cases ho
          exact run_add W (.tmp 31) (.tmp 32) rfl (hev 15 31 (by kernel_rfl) (by decide) (by decide) rfl) (hev 16 32 (by kernel_rfl) (by decide) (by decide) rfl) kw1
        · cases ho
          exact run_idx W (.tmp 30) (.tmp 33) rfl (hev 14 30 (by kernel_rfl) (by decide) (by decide) rfl) (hev 17 33 (by kernel_rfl) (by decide) (by decide) rfl) ia1
        · exact absurd rfl k2
        · cases ho
          exact run_idx W (.tmp 16) (.tmp 19) rfl (hev 0 16 (by kernel_rfl) (by decide) (by decide) rfl) (hev 3 19 (by kernel_rfl) (by decide) (by decide) rfl) ia1
        · exact absurd rfl k3
        · cases ho
          exact run_idx W (.tmp 20) (.tmp 23) rfl (hev 4 20 (by kernel_rfl) (by decide) (by decide) rfl) (hev 7 23 (by kernel_rfl) (by decide) (by decide) rfl) ia2
        · exact absurd rfl k4
        · cases ho
      · intro w2 hrow honly2
        clear hpl hql
        simp only [putP]
        go_wp2
        go_roundw
        case rel => exact ⟨k + 1, by omega, by go_num, Lib.hid (by rw [Hsn.out]; exact hrow), honly.trans honly2⟩
        case measure => simp [intOf]; omega
    · obtain rfl : k = n := by omega
      go_wp2
      go_end0
      exact ⟨rfl, HR.out, honly⟩
end Go.Proofs.Ytennddlihcamnaa.Sr
