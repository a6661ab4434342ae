/- Contracts of the package nums (chapter 1) and of its reference: what each computes. -/
import Derived.Test.YtmbnbeihgggkcaaProg
import Derived.Test.YtmbnbeihgggkcaaMem
import Derived.Test.YtmbnbeihgggkcaaBits
namespace Go.Proofs.Ytmbnbeihgggkcaa
open Go.RowKit

/-- The bytes of a number, by division. -/
def putU (n : Nat) : List UInt8 := if h : n < 128 then [UInt8.ofNat n] else UInt8.ofNat (n % 128 + 128) :: putU (n / 128)
termination_by n
decreasing_by omega

theorem putU_lt {n : Nat} (h : n < 128) : putU n = [UInt8.ofNat n] := by rw [putU, dif_pos h]
theorem putU_ge {n : Nat} (h : ¬ n < 128) : putU n = UInt8.ofNat (n % 128 + 128) :: putU (n / 128) := by rw [putU, dif_neg h]
theorem putU_pos (n : Nat) : 1 ≤ (putU n).length := by
  by_cases h : n < 128
  · rw [putU_lt h]; simp
  · rw [putU_ge h]; simp
theorem putU_len (k : Nat) : ∀ n, n < 128 ^ (k + 1) → (putU n).length ≤ k + 1 := by
  induction k with
  | zero => intro n h; rw [putU_lt (by omega)]; simp
  | succ k ih =>
    intro n h
    by_cases hn : n < 128
    · rw [putU_lt hn]; simp
    · rw [putU_ge hn, List.length_cons]
      have := ih (n / 128) (by rw [Nat.pow_succ] at h; omega)
      omega

theorem Try.infoU8 : (Try.prog.info? 5).map (fun i => (i.zero, i.size, i.bytes)) = some (some (.int .u8 0), 1, 1) := by kernel_rfl

theorem putU_step {n m : Nat} {pre : List UInt8} (h : pre ++ putU m = putU n) (hm : ¬ m < 128) : (pre ++ [UInt8.ofNat (m % 128 + 128)]) ++ putU (m / 128) = putU n := by
  rw [putU_ge hm] at h; rw [← h]; simp
theorem putU_end {n m : Nat} {pre : List UInt8} (h : pre ++ putU m = putU n) (hm : m < 128) : pre ++ [UInt8.ofNat m] = putU n := by
  rw [putU_lt hm] at h; exact h
theorem putU_room {n m : Nat} {pre : List UInt8} (h : pre ++ putU m = putU n) (hn : (putU n).length ≤ 10) : pre.length + 1 ≤ 10 := by
  have := congrArg List.length h
  have := putU_pos m
  simp at *; omega

set_option maxRecDepth 100000 in
set_option maxHeartbeats 400000 in
theorem putU_calls (n : Nat) (w : World) (hn : (putU n).length ≤ 10) :
    Calls Try.prog 11 #[.int .u64 (n : Int)] w (RetBytes 5 w (putU n)) := by
  go_enter Try.func11, Try.ntmps11
  go_wp2
  go_loopw [0, 3] (fun x v wr => ∃ (m : Nat) (pre : List UInt8), x = .int .u64 (m : Int) ∧ wr.ownsRow w.heap.size 5 1 v pre.length (pre.map byteV) ∧ pre ++ putU m = putU n ∧ Below w.heap.size w wr) (fun x _ _ => (intOf x).toNat)
  case atStart => exact ⟨n, [], rfl, World.ownsRow_nil _ _ _ _, rfl, Below.refl _ _⟩
  case round =>
    obtain ⟨m, pre, rfl, hown, hpre, hbel⟩ := hrel
    have Hr := putU_room hpre hn
    have Hp := Lib.hid hpre; clear hpre
    by_cases hlt : m < 128
    · go_wp2_with (at_builtin; go_must (refine wpList_push _ rfl (.tmp 14) (.tmp 17) _ rfl w.heap.size 5 _ 1 Try.underlying23 Try.infoU8 rfl _ _ _ _ _ rfl rfl hown rfl (by unfold maxLen; omega) (by omega) hbel.size ?_))
      intro v' w1 hown' hbel' _ _
      have hown2 := own_snoc hown' (u8_nat (by omega))
      rw [putU_end Hp.out hlt] at hown2
      go_wp2
      go_ret
      exact ⟨_, rfl, hown2, hbel.trans hbel'⟩
    · go_wp2_with (at_builtin; go_must (refine wpList_push _ rfl (.tmp 6) (.tmp 10) _ rfl w.heap.size 5 _ 1 Try.underlying23 Try.infoU8 rfl _ _ _ _ _ rfl rfl hown rfl (by unfold maxLen; omega) (by omega) hbel.size ?_))
      intro v' w1 hown' hbel' _ _
      have hown2 := own_snoc hown' (or128 m)
      clear hown' hown
      go_wp2
      go_roundw
      case rel => exact ⟨m / 128, _, by go_num, hown2, putU_step Hp.out hlt, hbel.trans hbel'⟩
      case measure => simp [intOf]; omega
end Go.Proofs.Ytmbnbeihgggkcaa
