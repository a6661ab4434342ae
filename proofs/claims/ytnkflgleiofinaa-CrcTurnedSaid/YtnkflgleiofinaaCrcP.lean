/- Plain: the checksum of chapter 3, on natural numbers. No program in sight. -/
import Derived.WalkKit
namespace Go.Proofs.Ytnkflgleiofinaa

def poly : Nat := 3988292384
/-- One bit out of the register. -/
def bit (c : Nat) : Nat := if c % 2 = 1 then c / 2 ^^^ poly else c / 2
def bits_ : Nat → Nat → Nat
  | 0, c => c
  | k + 1, c => bits_ k (bit c)
/-- Little-endian, base 256. -/
def num : List UInt8 → Nat
  | [] => 0
  | x :: r => x.toNat + 256 * num r
/-- A register behind a byte; behind bytes. -/
def crcStep (c x : Nat) : Nat := bits_ 8 (c ^^^ x)
def crcRun (c : Nat) (l : List UInt8) : Nat := l.foldl (fun c x => crcStep c x.toNat) c
theorem crcRun_nil (c : Nat) : crcRun c [] = c := rfl
theorem crcRun_cons (c : Nat) (x : UInt8) (r : List UInt8) : crcRun c (x :: r) = crcRun (crcStep c x.toNat) r := by unfold crcRun; rw [List.foldl_cons]
def crcOf (l : List UInt8) : Nat := 4294967295 - crcRun 4294967295 l

theorem xor_mod2 (a b : Nat) : (a ^^^ b) % 2 = (a % 2 + b % 2) % 2 := by
  have h := Nat.testBit_xor a b 0
  simp only [Nat.testBit_zero] at h
  rcases Nat.mod_two_eq_zero_or_one a with ha | ha <;> rcases Nat.mod_two_eq_zero_or_one b with hb | hb <;> rcases Nat.mod_two_eq_zero_or_one (a ^^^ b) with hc | hc <;> simp [ha, hb, hc] at h ⊢
theorem xor_div2 (a b : Nat) : (a ^^^ b) / 2 = a / 2 ^^^ b / 2 := Nat.xor_div_two
theorem xor_swap (a b c : Nat) : (a ^^^ c) ^^^ b = (a ^^^ b) ^^^ c := by rw [Nat.xor_assoc, Nat.xor_comm c b, Nat.xor_assoc]
theorem bit_xor (a b : Nat) : bit (a ^^^ b) = bit a ^^^ bit b := by
  unfold bit
  rw [xor_mod2, xor_div2]
  rcases Nat.mod_two_eq_zero_or_one a with ha | ha <;> rcases Nat.mod_two_eq_zero_or_one b with hb | hb <;> simp only [ha, hb]
  · simp
  · simp [Nat.xor_assoc]
  · simp [xor_swap]
  · simp only [Nat.reduceAdd, Nat.reduceMod, ↓reduceIte]
    simp only [if_neg (show ¬ (0 : Nat) = 1 by omega)]
    rw [xor_swap (a / 2) (b / 2 ^^^ poly) poly, ← Nat.xor_assoc, Nat.xor_assoc, Nat.xor_self, Nat.xor_zero]
theorem bits_xor (k : Nat) : ∀ a b, bits_ k (a ^^^ b) = bits_ k a ^^^ bits_ k b := by
  induction k with
  | zero => intro a b; rfl
  | succ k ih => intro a b; simp only [bits_, bit_xor, ih]
theorem bits_add (k m : Nat) : ∀ c, bits_ (k + m) c = bits_ m (bits_ k c) := by
  induction k with
  | zero => intro c; simp [bits_]
  | succ k ih => intro c; rw [Nat.succ_add]; simp only [bits_, ih]
theorem bit_double (c : Nat) : bit (2 * c) = c := by unfold bit; rw [if_neg (by omega)]; omega
theorem bits_shift (k : Nat) : ∀ c, bits_ k (2 ^ k * c) = c := by
  induction k with
  | zero => intro c; simp [bits_]
  | succ k ih =>
    intro c
    have e : 2 ^ (k + 1) * c = 2 * (2 ^ k * c) := by rw [Nat.pow_succ, Nat.mul_comm (2 ^ k) 2, Nat.mul_assoc]
    simp only [bits_, e, bit_double, ih]
theorem poly_lt : poly < 2 ^ 32 := by unfold poly; omega
theorem bit_lt {c : Nat} (h : c < 2 ^ 32) : bit c < 2 ^ 32 := by
  unfold bit; split
  · exact Nat.xor_lt_two_pow (by omega) poly_lt
  · omega
theorem bits_lt (k : Nat) : ∀ {c : Nat}, c < 2 ^ 32 → bits_ k c < 2 ^ 32 := by
  induction k with
  | zero => intro c h; exact h
  | succ k ih => intro c h; exact ih (bit_lt h)
theorem bit_zero {c : Nat} (h : c < 2 ^ 32) (h0 : bit c = 0) : c = 0 := by
  unfold bit at h0
  split at h0
  · have : c / 2 = poly := by
      have h1 := congrArg (· ^^^ poly) h0
      simp only [Nat.xor_assoc, Nat.xor_self, Nat.xor_zero, Nat.zero_xor] at h1
      exact h1
    unfold poly at this
    omega
  · omega
theorem bits_zero (k : Nat) : ∀ {c : Nat}, c < 2 ^ 32 → bits_ k c = 0 → c = 0 := by
  induction k with
  | zero => intro c _ h; exact h
  | succ k ih => intro c h h0; exact bit_zero h (ih (bit_lt h) h0)
theorem bits_0 (k : Nat) : bits_ k 0 = 0 := by
  induction k with
  | zero => rfl
  | succ k ih => simp only [bits_]; rw [show bit 0 = 0 from rfl]; exact ih

theorem low_xor {x m : Nat} (k : Nat) (h : x < 2 ^ k) : x + 2 ^ k * m = x ^^^ (2 ^ k * m) := by
  apply Nat.eq_of_testBit_eq
  intro i
  rw [Nat.testBit_xor, Nat.add_comm, Nat.testBit_two_pow_mul_add _ h, Nat.testBit_two_pow_mul]
  by_cases hi : i < k
  · rw [if_pos hi]
    have : ¬ k ≤ i := by omega
    simp [this]
  · rw [if_neg hi]
    have h2 : x.testBit i = false := Nat.testBit_lt_two_pow (Nat.lt_of_lt_of_le h (Nat.pow_le_pow_right (by omega) (by omega)))
    have : k ≤ i := by omega
    simp [this, h2]

theorem crcRun_bits : ∀ (l : List UInt8) (c : Nat), crcRun c l = bits_ (8 * l.length) (c ^^^ num l)
  | [], c => by rw [crcRun_nil]; simp [bits_, num]
  | x :: r, c => by
    rw [crcRun_cons, crcRun_bits r]
    simp only [crcStep, num, List.length_cons]
    have e : 8 * (r.length + 1) = 8 + 8 * r.length := by omega
    rw [e, bits_add]
    congr 1
    have e3 : (256 : Nat) = 2 ^ 8 := by decide
    rw [e3, low_xor 8 (UInt8.toNat_lt x), ← Nat.xor_assoc, bits_xor 8 (c ^^^ x.toNat), bits_shift]
theorem num_lt : ∀ l : List UInt8, num l < 2 ^ (8 * l.length)
  | [] => by simp [num]
  | x :: r => by
    have h1 := num_lt r
    have h2 := UInt8.toNat_lt x
    simp only [num, List.length_cons]
    have e : 2 ^ (8 * (r.length + 1)) = 256 * 2 ^ (8 * r.length) := by rw [show 8 * (r.length + 1) = 8 + 8 * r.length by omega, Nat.pow_add]
    rw [e]; omega
theorem crcRun_app : ∀ (l m : List UInt8) (c : Nat), crcRun c (l ++ m) = crcRun (crcRun c l) m
  | [], m, c => by rw [crcRun_nil, List.nil_append]
  | x :: l, m, c => by rw [List.cons_append, crcRun_cons, crcRun_cons, crcRun_app l m]
theorem crcStep_lt {c x : Nat} (h : c < 2 ^ 32) (hx : x < 256) : crcStep c x < 2 ^ 32 := by
  unfold crcStep
  exact bits_lt 8 (Nat.xor_lt_two_pow h (Nat.lt_of_lt_of_le hx (by decide)))
theorem crcRun_lt : ∀ (l : List UInt8) {c : Nat}, c < 2 ^ 32 → crcRun c l < 2 ^ 32
  | [], _, h => by rw [crcRun_nil]; exact h
  | x :: r, _, h => by rw [crcRun_cons]; exact crcRun_lt r (crcStep_lt h (UInt8.toNat_lt x))

/-! ### four bits at once -/
def row (x : Nat) : Nat :=
  match x with
  | 1 => 498536548 | 2 => 997073096 | 3 => 651767980 | 4 => 1994146192 | 5 => 1802195444 | 6 => 1303535960 | 7 => 1342533948
  | 8 => 3988292384 | 9 => 4027552580 | 10 => 3604390888 | 11 => 3412177804 | 12 => 2607071920 | 13 => 2262029012 | 14 => 2685067896 | 15 => 3183342108
  | _ => 0
def nib (c : Nat) : Nat := c / 16 ^^^ row (c % 16)
theorem nib_bits (c : Nat) : nib c = bits_ 4 c := by
  have h : ∀ r : Fin 16, row r.val = bits_ 4 r.val := by decide
  have e : c = c % 16 ^^^ (2 ^ 4 * (c / 16)) := by
    rw [← low_xor 4 (by omega)]; omega
  have h1 := h ⟨c % 16, by omega⟩
  simp only at h1
  conv => rhs; rw [e]
  rw [bits_xor, bits_shift, ← h1]
  unfold nib
  exact Nat.xor_comm _ _
theorem nib_step (c x : Nat) : nib (nib (c ^^^ x)) = crcStep c x := by
  rw [nib_bits, nib_bits, ← bits_add]; rfl
theorem nib_lt {c : Nat} (h : c < 2 ^ 32) : nib c < 2 ^ 32 := by rw [nib_bits]; exact bits_lt 4 h
end Go.Proofs.Ytnkflgleiofinaa
