/- Plain lemmas on the bitwise operations, as the walk spells them. -/
import Derived.WalkKit
import Derived.WalkSmall
namespace Go.Proofs.YtjbmlhipjceeeaaGreat
set_option linter.unusedVariables false
set_option linter.unusedSimpArgs false
open Go.RowKit

def zigN (m : Int) : Nat := (if m < 0 then 2 * -(m + 1) + 1 else 2 * m).toNat
def zagI (n : Nat) : Int := if n % 2 = 1 then -((n / 2 : Nat) : Int) - 1 else ((n / 2 : Nat) : Int)

theorem zig_neg {m : Int} (h : m < 0) : ((zigN m : Nat) : Int) = 2 * -(m + 1) + 1 := by unfold zigN; rw [if_pos h]; omega
theorem zig_pos {m : Int} (h : 0 ≤ m) : ((zigN m : Nat) : Int) = 2 * m := by unfold zigN; rw [if_neg (by omega)]; omega
theorem zig_lt {m : Int} (h1 : -9223372036854775808 ≤ m) (h2 : m ≤ 9223372036854775807) : zigN m ≤ 18446744073709551615 := by
  unfold zigN; split <;> omega
theorem zag_zig (m : Int) : zagI (zigN m) = m := by
  unfold zagI zigN; split <;> split <;> omega
theorem zag_lo {n : Nat} (h : n ≤ 18446744073709551615) : -9223372036854775808 ≤ zagI n ∧ zagI n ≤ 9223372036854775807 := by
  unfold zagI; split <;> omega
theorem zig_zag (n : Nat) : zigN (zagI n) = n := by
  unfold zagI zigN; split <;> split <;> omega

theorem xor_ones64 (x : BitVec 64) : x ^^^ BitVec.ofInt 64 (-1) = ~~~ x := by
  have : BitVec.ofInt 64 (-1) = BitVec.allOnes 64 := by decide
  rw [this, BitVec.xor_allOnes]
theorem u64_xor_ones (a : Nat) (ha : a < 18446744073709551616) : bits .xor .u64 (a : Int) 18446744073709551615 = ((18446744073709551615 - a : Nat) : Int) := by
  have h1 : (BitVec.ofInt 64 (a : Int)).toNat = a := by
    rw [BitVec.ofInt_natCast, BitVec.toNat_ofNat]; exact Nat.mod_eq_of_lt (by omega)
  have h2 : BitVec.ofInt 64 18446744073709551615 = BitVec.ofInt 64 (-1) := by decide
  show IntKind.u64.wrap ((BitVec.ofInt 64 (a : Int) ^^^ BitVec.ofInt 64 18446744073709551615).toNat : Int) = _
  rw [h2, xor_ones64, BitVec.toNat_not, h1, IntKind.wrap_u64]
  omega
theorem u64_xor_zero (a : Nat) (ha : a < 18446744073709551616) : bits .xor .u64 (a : Int) 0 = (a : Int) := by
  have := u64_xor_nat a 0 ha (by omega)
  simpa using this
theorem i64_xor_ones (a : Nat) (ha : a < 9223372036854775808) : bits .xor .i64 (a : Int) (-1) = -(a : Int) - 1 := by
  have h1 : (BitVec.ofInt 64 (a : Int)).toNat = a := by
    rw [BitVec.ofInt_natCast, BitVec.toNat_ofNat]; exact Nat.mod_eq_of_lt (by omega)
  show IntKind.i64.wrap ((BitVec.ofInt 64 (a : Int) ^^^ BitVec.ofInt 64 (-1)).toNat : Int) = _
  rw [xor_ones64, BitVec.toNat_not, h1, IntKind.wrap_i64]
  omega
theorem i64_xor_zero (a : Nat) (ha : a < 9223372036854775808) : bits .xor .i64 (a : Int) 0 = (a : Int) := by
  have h1 : (BitVec.ofInt 64 (a : Int)).toNat = a := by
    rw [BitVec.ofInt_natCast, BitVec.toNat_ofNat]; exact Nat.mod_eq_of_lt (by omega)
  have h2 : BitVec.ofInt 64 0 = 0#64 := by decide
  show IntKind.i64.wrap ((BitVec.ofInt 64 (a : Int) ^^^ BitVec.ofInt 64 0).toNat : Int) = _
  rw [h2, BitVec.xor_zero, h1, IntKind.wrap_i64]
  omega

theorem zig_bits (m : Int) (h1 : -9223372036854775808 ≤ m) (h2 : m ≤ 9223372036854775807) :
    bits .xor .u64 (IntKind.u64.wrap (IntKind.u64.wrap m * 2)) (IntKind.u64.wrap (m / 9223372036854775808)) = ((zigN m : Nat) : Int) := by
  simp only [IntKind.wrap_u64]
  by_cases hm : m < 0
  · have e1 : (m / 9223372036854775808) % 18446744073709551616 = 18446744073709551615 := by omega
    have e2 : (m % 18446744073709551616 * 2) % 18446744073709551616 = (((2 * m + 18446744073709551616).toNat : Nat) : Int) := by omega
    rw [e1, e2, u64_xor_ones _ (by omega), zig_neg hm]; omega
  · have e1 : (m / 9223372036854775808) % 18446744073709551616 = 0 := by omega
    have e2 : (m % 18446744073709551616 * 2) % 18446744073709551616 = (((2 * m).toNat : Nat) : Int) := by omega
    rw [e1, e2, u64_xor_zero _ (by omega), zig_pos (by omega)]; omega
theorem zag_bits (n : Nat) (h : n ≤ 18446744073709551615) :
    bits .xor .i64 (wrap64 ((n : Int) / 2)) (wrap64 (-wrap64 (bits .and .u64 (n : Int) 1))) = zagI n := by
  rw [and_one_u64 _ (by omega) (by omega)]
  have e0 : wrap64 ((n : Int) / 2) = ((n / 2 : Nat) : Int) := by unfold wrap64; omega
  by_cases hn : n % 2 = 1
  · have e1 : wrap64 (-wrap64 ((n : Int) % 2)) = -1 := by
      have : (n : Int) % 2 = 1 := by omega
      rw [this]; unfold wrap64; omega
    rw [e0, e1, i64_xor_ones _ (by omega)]; unfold zagI; rw [if_pos hn]
  · have e1 : wrap64 (-wrap64 ((n : Int) % 2)) = 0 := by
      have : (n : Int) % 2 = 0 := by omega
      rw [this]; unfold wrap64; omega
    rw [e0, e1, i64_xor_zero _ (by omega)]; unfold zagI; rw [if_neg hn]
theorem zagR_odd (n : Nat) (h : n ≤ 18446744073709551615) (h1 : n % 2 = 1) : wrap64 (wrap64 (-wrap64 (IntKind.u64.wrap ((n : Int) / 2))) - 1) = zagI n := by
  unfold zagI; rw [if_pos h1, IntKind.wrap_u64]; unfold wrap64; omega
theorem zagR_even (n : Nat) (h : n ≤ 18446744073709551615) (h1 : ¬ n % 2 = 1) : wrap64 (IntKind.u64.wrap ((n : Int) / 2)) = zagI n := by
  unfold zagI; rw [if_neg h1, IntKind.wrap_u64]; unfold wrap64; omega

theorem or128 (n : Nat) : bits .or .u8 ((n : Int) % 256) 128 = ((UInt8.ofNat (n % 128 + 128)).toNat : Int) := by
  have h : ∀ r : Fin 256, bits .or .u8 (r.val : Int) 128 = ((r.val % 128 + 128 : Nat) : Int) := by decide +kernel
  have e : ((n : Int) % 256) = (((⟨n % 256, by omega⟩ : Fin 256).val : Nat) : Int) := by simp
  have e2 : n % 256 % 128 = n % 128 := by omega
  rw [e, h, UInt8.toNat_ofNat']
  simp only
  omega
theorem u8_and127 (x : UInt8) : bits .and .u8 (x.toNat : Int) 127 = ((x.toNat % 128 : Nat) : Int) := by
  have h := u8_and_nat x.toNat 127 (UInt8.toNat_lt x) (by omega)
  rw [nat_mask7] at h
  exact h
/-- One byte more of a number: the bits that come are the next ones. -/
theorem or_step (acc j : Nat) (x : UInt8) (hj : j ≤ 9) (ha : acc < 128 ^ j) (h9 : j = 9 → x.toNat % 128 ≤ 1) :
    bits .or .u64 (acc : Int) (IntKind.u64.wrap (IntKind.u64.wrap (bits .and .u8 (x.toNat : Int) 127) * 2 ^ (7 * j))) = ((acc + 128 ^ j * (x.toNat % 128) : Nat) : Int) := by
  rw [u8_and127]
  have e1 : IntKind.u64.wrap ((x.toNat % 128 : Nat) : Int) = ((x.toNat % 128 : Nat) : Int) := by rw [IntKind.wrap_u64]; omega
  have e2 : ((x.toNat % 128 : Nat) : Int) * 2 ^ (7 * j) = ((128 ^ j * (x.toNat % 128) : Nat) : Int) := by
    rw [Int.natCast_mul, Int.mul_comm]
    congr 1
    have : (128 : Nat) ^ j = 2 ^ (7 * j) := by rw [Nat.pow_mul]
    rw [this]; simp
  have e3 : 128 ^ j * (x.toNat % 128) ≤ 9223372036854775808 := by
    rcases Nat.lt_or_ge j 9 with h | h
    · have h1 : 128 ^ j ≤ 128 ^ 8 := Nat.pow_le_pow_right (by omega) (by omega)
      have h2 : 128 ^ j * (x.toNat % 128) ≤ 128 ^ 8 * 127 := Nat.mul_le_mul h1 (by omega)
      omega
    · obtain rfl : j = 9 := by omega
      have := h9 rfl
      omega
  have e5 : acc < 18446744073709551616 := by
    have h1 : 128 ^ j ≤ 128 ^ 9 := Nat.pow_le_pow_right (by omega) hj
    omega
  have e4 : IntKind.u64.wrap ((128 ^ j * (x.toNat % 128) : Nat) : Int) = ((128 ^ j * (x.toNat % 128) : Nat) : Int) := by rw [IntKind.wrap_u64]; omega
  rw [e1, e2, e4, u64_or_nat acc _ e5 (by omega), Nat.or_comm]
  have h7 : (128 : Nat) ^ j = 2 ^ (7 * j) := by rw [Nat.pow_mul]
  rw [nat_join (7 * j) _ acc (by rw [h7]; exact Nat.mul_mod_right _ _) (by rw [← h7]; exact ha), Nat.add_comm]

theorem ret_int {k : IntKind} {a b : Int} (h : a = b) : Ending.returned (.int k a) = .returned (.int k b) := by rw [h]
end Go.Proofs.YtjbmlhipjceeeaaGreat
