/- Plain: sealed texts, and bits that are turned (chapter 3). -/
import Derived.Test.YtnkflgleiofinaaCrcP
namespace Go.Proofs.Ytnkflgleiofinaa

theorem not32 {c : Nat} (h : c < 2 ^ 32) : 4294967295 - c = c ^^^ 4294967295 := by
  apply Nat.eq_of_testBit_eq
  intro i
  have e : (4294967295 : Nat) = 2 ^ 32 - 1 := by decide
  rw [Nat.testBit_xor, e, show 2 ^ 32 - 1 - c = 2 ^ 32 - (c + 1) by omega, Nat.testBit_two_pow_sub_succ h, Nat.testBit_two_pow_sub_one]
  by_cases hi : i < 32
  · simp [hi]
  · have h2 : c.testBit i = false := Nat.testBit_lt_two_pow (Nat.lt_of_lt_of_le h (Nat.pow_le_pow_right (by omega) (by omega)))
    simp [hi, h2]
theorem crcOf_lt (l : List UInt8) : crcOf l < 2 ^ 32 := by unfold crcOf; omega

theorem xor_eq_iff {a b c : Nat} : a ^^^ b = c ↔ b = a ^^^ c := by
  constructor
  · intro h; rw [← h, ← Nat.xor_assoc, Nat.xor_self, Nat.zero_xor]
  · intro h; rw [h, ← Nat.xor_assoc, Nat.xor_self, Nat.zero_xor]
theorem bits_inj {k a b : Nat} (ha : a < 2 ^ 32) (hb : b < 2 ^ 32) (h : bits_ k a = bits_ k b) : a = b := by
  have h1 : bits_ k (a ^^^ b) = 0 := by rw [bits_xor, h, Nat.xor_self]
  have h2 := bits_zero k (Nat.xor_lt_two_pow ha hb) h1
  have := xor_eq_iff.1 h2
  rw [Nat.xor_zero] at this
  exact this.symm

/-- Are the last four bytes the checksum of the others? -/
def sealed (s : List UInt8) : Prop := num (s.drop (s.length - 4)) = crcOf (s.take (s.length - 4))

theorem sealed_iff {s : List UInt8} (h : 4 ≤ s.length) : sealed s ↔ crcRun 4294967295 s = bits_ 32 4294967295 := by
  have hF : (4294967295 : Nat) < 2 ^ 32 := by decide
  have hr := crcRun_lt (s.take (s.length - 4)) hF
  have hl : (s.drop (s.length - 4)).length = 4 := by rw [List.length_drop]; omega
  have hn : num (s.drop (s.length - 4)) < 2 ^ 32 := by have := num_lt (s.drop (s.length - 4)); rw [hl] at this; exact this
  have e : crcRun 4294967295 s = bits_ 32 (crcRun 4294967295 (s.take (s.length - 4)) ^^^ num (s.drop (s.length - 4))) := by
    conv => lhs; rw [← List.take_append_drop (s.length - 4) s]
    rw [crcRun_app, crcRun_bits (s.drop (s.length - 4)), hl]
  unfold sealed crcOf
  rw [e, not32 hr]
  constructor
  · intro h1
    rw [h1, ← Nat.xor_assoc, Nat.xor_self, Nat.zero_xor]
  · intro h1
    exact xor_eq_iff.1 (bits_inj (Nat.xor_lt_two_pow hr hn) hF h1)

/-- Bits turned within 32 bits in a row. -/
theorem burst {s s' : List UInt8} {at_ E : Nat} (h : 4 ≤ s.length) (hl : s'.length = s.length) (ha : at_ ≤ 8 * s.length) (hE : E < 2 ^ 32) (hn : num s' = num s ^^^ (2 ^ at_ * E)) (hs : sealed s) :
    sealed s' ↔ E = 0 := by
  rw [sealed_iff h] at hs
  rw [sealed_iff (by omega), crcRun_bits, hl, hn, ← Nat.xor_assoc, bits_xor, ← crcRun_bits, hs]
  obtain ⟨m, hm⟩ : ∃ m, 8 * s.length = at_ + m := ⟨8 * s.length - at_, by omega⟩
  rw [hm, bits_add, bits_shift]
  constructor
  · intro h1
    have := xor_eq_iff.1 h1
    rw [Nat.xor_self] at this
    exact bits_zero m hE this
  · rintro rfl; rw [bits_0, Nat.xor_zero]

theorem num_app : ∀ l m : List UInt8, num (l ++ m) = num l + 2 ^ (8 * l.length) * num m
  | [], m => by simp [num]
  | x :: l, m => by
    have e : 2 ^ (8 * (l.length + 1)) = 256 * 2 ^ (8 * l.length) := by rw [show 8 * (l.length + 1) = 8 + 8 * l.length by omega, Nat.pow_add]
    simp only [List.cons_append, num, num_app l m, List.length_cons, e]
    rw [Nat.mul_add, ← Nat.mul_assoc, Nat.add_assoc]
theorem xor_low {a b m k : Nat} (ha : a < 2 ^ k) (hb : b < 2 ^ k) : (a ^^^ b) + 2 ^ k * m = (a + 2 ^ k * m) ^^^ b := by
  rw [low_xor k (Nat.xor_lt_two_pow ha hb), low_xor k ha, xor_swap]
/-- One bit turned. -/
theorem num_set : ∀ (s : List UInt8) (j b : Nat) (hj : j < s.length), b < 8 → ∀ y : UInt8, y.toNat = s[j].toNat ^^^ 2 ^ b → num (s.set j y) = num s ^^^ 2 ^ (8 * j + b)
  | [], j, b, hj, _, _, _ => absurd hj (by simp)
  | x :: r, 0, b, hj, hb, y, hy => by
    have hp : 2 ^ b < 2 ^ 8 := Nat.pow_lt_pow_right (by omega) hb
    simp only [List.set_cons_zero, num, Nat.mul_zero, Nat.zero_add]
    simp only [List.getElem_cons_zero] at hy
    rw [hy]
    exact xor_low (k := 8) (UInt8.toNat_lt x) hp
  | x :: r, j + 1, b, hj, hb, y, hy => by
    have ih := num_set r j b (by simpa using hj) hb y (by simpa using hy)
    simp only [List.set_cons_succ, num, ih]
    have hx := UInt8.toNat_lt x
    have e : 2 ^ (8 * (j + 1) + b) = 2 ^ 8 * 2 ^ (8 * j + b) := by rw [← Nat.pow_add]; congr 1; omega
    have e2 : (256 : Nat) = 2 ^ 8 := by decide
    rw [e, e2, low_xor 8 hx, low_xor 8 hx, Nat.xor_assoc]
    congr 1
    exact mul_xor 8 _ _
where
  mul_xor (k a b : Nat) : 2 ^ k * (a ^^^ b) = 2 ^ k * a ^^^ 2 ^ k * b := by
    apply Nat.eq_of_testBit_eq
    intro i
    rw [Nat.testBit_xor, Nat.testBit_two_pow_mul, Nat.testBit_two_pow_mul, Nat.testBit_two_pow_mul, Nat.testBit_xor]
    by_cases h : k ≤ i <;> simp [h]
theorem mul_xor (k a b : Nat) : 2 ^ k * (a ^^^ b) = 2 ^ k * a ^^^ 2 ^ k * b := by
  apply Nat.eq_of_testBit_eq
  intro i
  rw [Nat.testBit_xor, Nat.testBit_two_pow_mul, Nat.testBit_two_pow_mul, Nat.testBit_two_pow_mul, Nat.testBit_xor]
  by_cases h : k ≤ i <;> simp [h]
/-- The lowest i + 1 bits out of the lowest i. -/
theorem mod_step (t i : Nat) : t % 2 ^ (i + 1) = t % 2 ^ i + 2 ^ i * (t / 2 ^ i % 2) := by
  rw [Nat.pow_succ, Nat.mod_mul]
theorem num_step {n0 at_ t i : Nat} (h : t / 2 ^ i % 2 = 1) : (n0 ^^^ (2 ^ at_ * (t % 2 ^ i))) ^^^ 2 ^ (at_ + i) = n0 ^^^ (2 ^ at_ * (t % 2 ^ (i + 1))) := by
  rw [mod_step, h, Nat.mul_one, Nat.xor_assoc]
  congr 1
  have e : t % 2 ^ i + 2 ^ i = t % 2 ^ i ^^^ (2 ^ i * 1) := by
    have := low_xor (m := 1) i (Nat.mod_lt t (Nat.two_pow_pos i))
    rw [← this, Nat.mul_one]
  rw [e, Nat.mul_one, mul_xor, ← Nat.pow_add]
theorem mod_same {t i : Nat} (h : t / 2 ^ i % 2 = 0) : t % 2 ^ (i + 1) = t % 2 ^ i := by rw [mod_step, h]; simp
theorem mod_new {t i : Nat} (h : t / 2 ^ i % 2 = 1) : t % 2 ^ (i + 1) ≠ 0 := by
  rw [mod_step, h]
  have := Nat.two_pow_pos i
  omega

/-- A number as four bytes, the lowest first. -/
def four (n : Nat) : List UInt8 := [UInt8.ofNat n, UInt8.ofNat (n / 256), UInt8.ofNat (n / 65536), UInt8.ofNat (n / 16777216)]
theorem num_four {n : Nat} (h : n < 2 ^ 32) : num (four n) = n := by
  simp only [four, num, UInt8.toNat_ofNat']
  omega
theorem num_inj : ∀ l m : List UInt8, l.length = m.length → num l = num m → l = m
  | [], [], _, _ => rfl
  | [], y :: m, h, _ => absurd h (by simp)
  | x :: l, [], h, _ => absurd h (by simp)
  | x :: l, y :: m, h, hn => by
    simp only [num] at hn
    have hx := UInt8.toNat_lt x
    have hy := UInt8.toNat_lt y
    have h1 : x.toNat = y.toNat := by omega
    have h2 : num l = num m := by omega
    rw [UInt8.toNat_inj.1 h1, num_inj l m (by simpa using h) h2]
def cseal (l : List UInt8) : List UInt8 := l ++ four (crcOf l)
theorem sealed_cseal (l : List UInt8) : sealed (cseal l) := by
  have e : (cseal l).length - 4 = l.length := by simp [cseal, four]
  unfold sealed
  rw [e]
  unfold cseal
  rw [List.drop_left, List.take_left, num_four (crcOf_lt l)]
/-- The text of a sealed one; the error. -/
def copen (s : List UInt8) : List UInt8 × Nat :=
  if s.length < 4 then ([], 3) else if s.drop (s.length - 4) = four (crcOf (s.take (s.length - 4))) then (s.take (s.length - 4), 0) else ([], 6)
theorem four_iff {s : List UInt8} (h : 4 ≤ s.length) : s.drop (s.length - 4) = four (crcOf (s.take (s.length - 4))) ↔ sealed s := by
  constructor
  · intro h1; unfold sealed; rw [h1, num_four (crcOf_lt _)]
  · intro h1
    refine num_inj _ _ (by rw [List.length_drop]; simp [four]; omega) ?_
    rw [num_four (crcOf_lt _)]; exact h1
end Go.Proofs.Ytnkflgleiofinaa
