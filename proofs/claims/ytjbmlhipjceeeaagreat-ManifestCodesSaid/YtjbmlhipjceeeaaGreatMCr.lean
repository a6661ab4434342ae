/- Contracts of the reference's Same and Twin (chapter 1). Plain: the checksum of chapter 3, on natural numbers. No program in sight. Plain: sealed texts, and bits that are turned (chapter 3). Contracts of the package crc (chapter 3): row, Write, Sum. Slices of structs: how a value lies in cells; a slice that reads as a list of values; an append of one value onto a row of the call's own. Contracts of the package crc (chapter 3): Sum. Contracts of the package crc (chapter 3): lives, Four, Seal of both. -/
import Derived.Test.YtjbmlhipjceeeaaGreatProg
import Derived.Test.YtjbmlhipjceeeaaGreatMem
import Derived.Test.YtjbmlhipjceeeaaGreatBits
import Derived.WalkKit
import Derived.Laws.BitsAllLaws
import Derived.Lib.SlBytesConst

namespace Go.Proofs.YtjbmlhipjceeeaaGreat.Cr
set_option linter.unusedVariables false
set_option linter.unusedSimpArgs false
open Go.RowKit

theorem Tryz.infoU8 : (Tryz.prog.info? 5).map (fun i => (i.zero, i.size, i.bytes)) = some (some (.int .u8 0), 1, 1) := by kernel_rfl

theorem same_calls (w : World) {B1 B2 : Nat} {A1 A2 : Option Addr} {n1 n2 c1 c2 : Nat} {l1 l2 : List UInt8} (h1 : Bytes w B1 A1 n1 l1) (h2 : Bytes w B2 A2 n2 l2) :
    Calls Tryz.prog 18 #[.slice A1 n1 c1, .slice A2 n2 c2] w fun e w' => e = .returned (.bool (l1 == l2)) ∧ w = w' := by
  have k1 := h1.conv Tryz.prog c1 46 5 9 Tryz.underlying46 Tryz.underlying5 Tryz.underlying9
  have k2 := h2.conv Tryz.prog c2 46 5 9 Tryz.underlying46 Tryz.underlying5 Tryz.underlying9
  clear h1 h2
  go_enter Tryz.func18, Tryz.ntmps18
  go_wp2
  go_ret
  exact ⟨rfl, rfl⟩

theorem twin_calls (w : World) {B : Nat} {A : Option Addr} {n c : Nat} {l : List UInt8} (h : Bytes w B A n l) (hB : B ≤ w.heap.size) (hn : n ≤ 140737488355328) :
    Calls Tryz.prog 20 #[.slice A n c] w (RetBytes 5 w l) := by
  go_enter Tryz.func20, Tryz.ntmps20
  go_wp2_with (at_builtin; go_must (refine wpList_append_any _ rfl (.tmp 3) (.tmp 4) _ rfl w.heap.size 5 _ 1 1 Tryz.underlying46 Tryz.infoU8 rfl (by omega) _ _ _ rfl (World.ownsRow_made w #[] 0 (Nat.le_refl _) (Nat.zero_le _) rfl) B A n c (l.map byteV) rfl (h.to ((Below.refl B w).alloc hB _) (Nat.le_refl _)).2 (byteV_one l) (by unfold maxLen; omega) (by omega) (by simp) ?_))
  intro v' w1 hown hbel _ _
  have hown2 : w1.ownsRow w.heap.size 5 1 v' l.length (l.map byteV) := by have hl := h.1; subst hl; simpa using hown
  go_wp2
  go_ret
  exact ⟨_, rfl, hown2, ((Below.refl _ _).alloc (Nat.le_refl _) _).trans hbel⟩

end Go.Proofs.YtjbmlhipjceeeaaGreat.Cr

namespace Go.Proofs.YtjbmlhipjceeeaaGreat.Cr
set_option linter.unusedVariables false
set_option linter.unusedSimpArgs false

def poly : Nat := 3988292384
/-- One bit out of the register. -/
def bit (c : Nat) : Nat := if c % 2 = 1 then c / 2 ^^^ poly else c / 2
def bits_ : Nat → Nat → Nat
  | 0, c => c
  | k + 1, c => bits_ k (bit c)
/-- Little-endian, base 256. -/
def num : List UInt8 → Nat
  | [] => 0
  | x :: r => x.toNat + 256 * num r
/-- A register behind a byte; behind bytes. -/
def crcStep (c x : Nat) : Nat := bits_ 8 (c ^^^ x)
def crcRun (c : Nat) (l : List UInt8) : Nat := l.foldl (fun c x => crcStep c x.toNat) c
theorem crcRun_nil (c : Nat) : crcRun c [] = c := rfl
theorem crcRun_cons (c : Nat) (x : UInt8) (r : List UInt8) : crcRun c (x :: r) = crcRun (crcStep c x.toNat) r := by unfold crcRun; rw [List.foldl_cons]
def crcOf (l : List UInt8) : Nat := 4294967295 - crcRun 4294967295 l

theorem xor_mod2 (a b : Nat) : (a ^^^ b) % 2 = (a % 2 + b % 2) % 2 := by
  have h := Nat.testBit_xor a b 0
  simp only [Nat.testBit_zero] at h
  rcases Nat.mod_two_eq_zero_or_one a with ha | ha <;> rcases Nat.mod_two_eq_zero_or_one b with hb | hb <;> rcases Nat.mod_two_eq_zero_or_one (a ^^^ b) with hc | hc <;> simp [ha, hb, hc] at h ⊢
theorem xor_div2 (a b : Nat) : (a ^^^ b) / 2 = a / 2 ^^^ b / 2 := Nat.xor_div_two
theorem xor_swap (a b c : Nat) : (a ^^^ c) ^^^ b = (a ^^^ b) ^^^ c := by rw [Nat.xor_assoc, Nat.xor_comm c b, Nat.xor_assoc]
theorem bit_xor (a b : Nat) : bit (a ^^^ b) = bit a ^^^ bit b := by
  unfold bit
  rw [xor_mod2, xor_div2]
  rcases Nat.mod_two_eq_zero_or_one a with ha | ha <;> rcases Nat.mod_two_eq_zero_or_one b with hb | hb <;> simp only [ha, hb]
  · simp
  · simp [Nat.xor_assoc]
  · simp [xor_swap]
  · simp only [Nat.reduceAdd, Nat.reduceMod, ↓reduceIte]
    simp only [if_neg (show ¬ (0 : Nat) = 1 by omega)]
    rw [xor_swap (a / 2) (b / 2 ^^^ poly) poly, ← Nat.xor_assoc, Nat.xor_assoc, Nat.xor_self, Nat.xor_zero]
theorem bits_xor (k : Nat) : ∀ a b, bits_ k (a ^^^ b) = bits_ k a ^^^ bits_ k b := by
  induction k with
  | zero => intro a b; rfl
  | succ k ih => intro a b; simp only [bits_, bit_xor, ih]
theorem bits_add (k m : Nat) : ∀ c, bits_ (k + m) c = bits_ m (bits_ k c) := by
  induction k with
  | zero => intro c; simp [bits_]
  | succ k ih => intro c; rw [Nat.succ_add]; simp only [bits_, ih]
theorem bit_double (c : Nat) : bit (2 * c) = c := by unfold bit; rw [if_neg (by omega)]; omega
theorem bits_shift (k : Nat) : ∀ c, bits_ k (2 ^ k * c) = c := by
  induction k with
  | zero => intro c; simp [bits_]
  | succ k ih =>
    intro c
    have e : 2 ^ (k + 1) * c = 2 * (2 ^ k * c) := by rw [Nat.pow_succ, Nat.mul_comm (2 ^ k) 2, Nat.mul_assoc]
    simp only [bits_, e, bit_double, ih]
theorem poly_lt : poly < 2 ^ 32 := by unfold poly; omega
theorem bit_lt {c : Nat} (h : c < 2 ^ 32) : bit c < 2 ^ 32 := by
  unfold bit; split
  · exact Nat.xor_lt_two_pow (by omega) poly_lt
  · omega
theorem bits_lt (k : Nat) : ∀ {c : Nat}, c < 2 ^ 32 → bits_ k c < 2 ^ 32 := by
  induction k with
  | zero => intro c h; exact h
  | succ k ih => intro c h; exact ih (bit_lt h)
theorem bit_zero {c : Nat} (h : c < 2 ^ 32) (h0 : bit c = 0) : c = 0 := by
  unfold bit at h0
  split at h0
  · have : c / 2 = poly := by
      have h1 := congrArg (· ^^^ poly) h0
      simp only [Nat.xor_assoc, Nat.xor_self, Nat.xor_zero, Nat.zero_xor] at h1
      exact h1
    unfold poly at this
    omega
  · omega
theorem bits_zero (k : Nat) : ∀ {c : Nat}, c < 2 ^ 32 → bits_ k c = 0 → c = 0 := by
  induction k with
  | zero => intro c _ h; exact h
  | succ k ih => intro c h h0; exact bit_zero h (ih (bit_lt h) h0)
theorem bits_0 (k : Nat) : bits_ k 0 = 0 := by
  induction k with
  | zero => rfl
  | succ k ih => simp only [bits_]; rw [show bit 0 = 0 from rfl]; exact ih

theorem low_xor {x m : Nat} (k : Nat) (h : x < 2 ^ k) : x + 2 ^ k * m = x ^^^ (2 ^ k * m) := by
  apply Nat.eq_of_testBit_eq
  intro i
  rw [Nat.testBit_xor, Nat.add_comm, Nat.testBit_two_pow_mul_add _ h, Nat.testBit_two_pow_mul]
  by_cases hi : i < k
  · rw [if_pos hi]
    have : ¬ k ≤ i := by omega
    simp [this]
  · rw [if_neg hi]
    have h2 : x.testBit i = false := Nat.testBit_lt_two_pow (Nat.lt_of_lt_of_le h (Nat.pow_le_pow_right (by omega) (by omega)))
    have : k ≤ i := by omega
    simp [this, h2]

theorem crcRun_bits : ∀ (l : List UInt8) (c : Nat), crcRun c l = bits_ (8 * l.length) (c ^^^ num l)
  | [], c => by rw [crcRun_nil]; simp [bits_, num]
  | x :: r, c => by
    rw [crcRun_cons, crcRun_bits r]
    simp only [crcStep, num, List.length_cons]
    have e : 8 * (r.length + 1) = 8 + 8 * r.length := by omega
    rw [e, bits_add]
    congr 1
    have e3 : (256 : Nat) = 2 ^ 8 := by decide
    rw [e3, low_xor 8 (UInt8.toNat_lt x), ← Nat.xor_assoc, bits_xor 8 (c ^^^ x.toNat), bits_shift]
theorem num_lt : ∀ l : List UInt8, num l < 2 ^ (8 * l.length)
  | [] => by simp [num]
  | x :: r => by
    have h1 := num_lt r
    have h2 := UInt8.toNat_lt x
    simp only [num, List.length_cons]
    have e : 2 ^ (8 * (r.length + 1)) = 256 * 2 ^ (8 * r.length) := by rw [show 8 * (r.length + 1) = 8 + 8 * r.length by omega, Nat.pow_add]
    rw [e]; omega
theorem crcRun_app : ∀ (l m : List UInt8) (c : Nat), crcRun c (l ++ m) = crcRun (crcRun c l) m
  | [], m, c => by rw [crcRun_nil, List.nil_append]
  | x :: l, m, c => by rw [List.cons_append, crcRun_cons, crcRun_cons, crcRun_app l m]
theorem crcStep_lt {c x : Nat} (h : c < 2 ^ 32) (hx : x < 256) : crcStep c x < 2 ^ 32 := by
  unfold crcStep
  exact bits_lt 8 (Nat.xor_lt_two_pow h (Nat.lt_of_lt_of_le hx (by decide)))
theorem crcRun_lt : ∀ (l : List UInt8) {c : Nat}, c < 2 ^ 32 → crcRun c l < 2 ^ 32
  | [], _, h => by rw [crcRun_nil]; exact h
  | x :: r, _, h => by rw [crcRun_cons]; exact crcRun_lt r (crcStep_lt h (UInt8.toNat_lt x))

/-! ### four bits at once -/
def row (x : Nat) : Nat :=
  match x with
  | 1 => 498536548 | 2 => 997073096 | 3 => 651767980 | 4 => 1994146192 | 5 => 1802195444 | 6 => 1303535960 | 7 => 1342533948
  | 8 => 3988292384 | 9 => 4027552580 | 10 => 3604390888 | 11 => 3412177804 | 12 => 2607071920 | 13 => 2262029012 | 14 => 2685067896 | 15 => 3183342108
  | _ => 0
def nib (c : Nat) : Nat := c / 16 ^^^ row (c % 16)
theorem nib_bits (c : Nat) : nib c = bits_ 4 c := by
  have h : ∀ r : Fin 16, row r.val = bits_ 4 r.val := by decide
  have e : c = c % 16 ^^^ (2 ^ 4 * (c / 16)) := by
    rw [← low_xor 4 (by omega)]; omega
  have h1 := h ⟨c % 16, by omega⟩
  simp only at h1
  conv => rhs; rw [e]
  rw [bits_xor, bits_shift, ← h1]
  unfold nib
  exact Nat.xor_comm _ _
theorem nib_step (c x : Nat) : nib (nib (c ^^^ x)) = crcStep c x := by
  rw [nib_bits, nib_bits, ← bits_add]; rfl
theorem nib_lt {c : Nat} (h : c < 2 ^ 32) : nib c < 2 ^ 32 := by rw [nib_bits]; exact bits_lt 4 h
end Go.Proofs.YtjbmlhipjceeeaaGreat.Cr

namespace Go.Proofs.YtjbmlhipjceeeaaGreat.Cr
set_option linter.unusedVariables false
set_option linter.unusedSimpArgs false

theorem not32 {c : Nat} (h : c < 2 ^ 32) : 4294967295 - c = c ^^^ 4294967295 := by
  apply Nat.eq_of_testBit_eq
  intro i
  have e : (4294967295 : Nat) = 2 ^ 32 - 1 := by decide
  rw [Nat.testBit_xor, e, show 2 ^ 32 - 1 - c = 2 ^ 32 - (c + 1) by omega, Nat.testBit_two_pow_sub_succ h, Nat.testBit_two_pow_sub_one]
  by_cases hi : i < 32
  · simp [hi]
  · have h2 : c.testBit i = false := Nat.testBit_lt_two_pow (Nat.lt_of_lt_of_le h (Nat.pow_le_pow_right (by omega) (by omega)))
    simp [hi, h2]
theorem crcOf_lt (l : List UInt8) : crcOf l < 2 ^ 32 := by unfold crcOf; omega

theorem xor_eq_iff {a b c : Nat} : a ^^^ b = c ↔ b = a ^^^ c := by
  constructor
  · intro h; rw [← h, ← Nat.xor_assoc, Nat.xor_self, Nat.zero_xor]
  · intro h; rw [h, ← Nat.xor_assoc, Nat.xor_self, Nat.zero_xor]
theorem bits_inj {k a b : Nat} (ha : a < 2 ^ 32) (hb : b < 2 ^ 32) (h : bits_ k a = bits_ k b) : a = b := by
  have h1 : bits_ k (a ^^^ b) = 0 := by rw [bits_xor, h, Nat.xor_self]
  have h2 := bits_zero k (Nat.xor_lt_two_pow ha hb) h1
  have := xor_eq_iff.1 h2
  rw [Nat.xor_zero] at this
  exact this.symm

/-- Are the last four bytes the checksum of the others? -/
def sealed (s : List UInt8) : Prop := num (s.drop (s.length - 4)) = crcOf (s.take (s.length - 4))

theorem sealed_iff {s : List UInt8} (h : 4 ≤ s.length) : sealed s ↔ crcRun 4294967295 s = bits_ 32 4294967295 := by
  have hF : (4294967295 : Nat) < 2 ^ 32 := by decide
  have hr := crcRun_lt (s.take (s.length - 4)) hF
  have hl : (s.drop (s.length - 4)).length = 4 := by rw [List.length_drop]; omega
  have hn : num (s.drop (s.length - 4)) < 2 ^ 32 := by have := num_lt (s.drop (s.length - 4)); rw [hl] at this; exact this
  have e : crcRun 4294967295 s = bits_ 32 (crcRun 4294967295 (s.take (s.length - 4)) ^^^ num (s.drop (s.length - 4))) := by
    conv => lhs; rw [← List.take_append_drop (s.length - 4) s]
    rw [crcRun_app, crcRun_bits (s.drop (s.length - 4)), hl]
  unfold sealed crcOf
  rw [e, not32 hr]
  constructor
  · intro h1
    rw [h1, ← Nat.xor_assoc, Nat.xor_self, Nat.zero_xor]
  · intro h1
    exact xor_eq_iff.1 (bits_inj (Nat.xor_lt_two_pow hr hn) hF h1)

/-- Bits turned within 32 bits in a row. -/
theorem burst {s s' : List UInt8} {at_ E : Nat} (h : 4 ≤ s.length) (hl : s'.length = s.length) (ha : at_ ≤ 8 * s.length) (hE : E < 2 ^ 32) (hn : num s' = num s ^^^ (2 ^ at_ * E)) (hs : sealed s) :
    sealed s' ↔ E = 0 := by
  rw [sealed_iff h] at hs
  rw [sealed_iff (by omega), crcRun_bits, hl, hn, ← Nat.xor_assoc, bits_xor, ← crcRun_bits, hs]
  obtain ⟨m, hm⟩ : ∃ m, 8 * s.length = at_ + m := ⟨8 * s.length - at_, by omega⟩
  rw [hm, bits_add, bits_shift]
  constructor
  · intro h1
    have := xor_eq_iff.1 h1
    rw [Nat.xor_self] at this
    exact bits_zero m hE this
  · rintro rfl; rw [bits_0, Nat.xor_zero]

theorem num_app : ∀ l m : List UInt8, num (l ++ m) = num l + 2 ^ (8 * l.length) * num m
  | [], m => by simp [num]
  | x :: l, m => by
    have e : 2 ^ (8 * (l.length + 1)) = 256 * 2 ^ (8 * l.length) := by rw [show 8 * (l.length + 1) = 8 + 8 * l.length by omega, Nat.pow_add]
    simp only [List.cons_append, num, num_app l m, List.length_cons, e]
    rw [Nat.mul_add, ← Nat.mul_assoc, Nat.add_assoc]
theorem xor_low {a b m k : Nat} (ha : a < 2 ^ k) (hb : b < 2 ^ k) : (a ^^^ b) + 2 ^ k * m = (a + 2 ^ k * m) ^^^ b := by
  rw [low_xor k (Nat.xor_lt_two_pow ha hb), low_xor k ha, xor_swap]
/-- One bit turned. -/
theorem num_set : ∀ (s : List UInt8) (j b : Nat) (hj : j < s.length), b < 8 → ∀ y : UInt8, y.toNat = s[j].toNat ^^^ 2 ^ b → num (s.set j y) = num s ^^^ 2 ^ (8 * j + b)
  | [], j, b, hj, _, _, _ => absurd hj (by simp)
  | x :: r, 0, b, hj, hb, y, hy => by
    have hp : 2 ^ b < 2 ^ 8 := Nat.pow_lt_pow_right (by omega) hb
    simp only [List.set_cons_zero, num, Nat.mul_zero, Nat.zero_add]
    simp only [List.getElem_cons_zero] at hy
    rw [hy]
    exact xor_low (k := 8) (UInt8.toNat_lt x) hp
  | x :: r, j + 1, b, hj, hb, y, hy => by
    have ih := num_set r j b (by simpa using hj) hb y (by simpa using hy)
    simp only [List.set_cons_succ, num, ih]
    have hx := UInt8.toNat_lt x
    have e : 2 ^ (8 * (j + 1) + b) = 2 ^ 8 * 2 ^ (8 * j + b) := by rw [← Nat.pow_add]; congr 1; omega
    have e2 : (256 : Nat) = 2 ^ 8 := by decide
    rw [e, e2, low_xor 8 hx, low_xor 8 hx, Nat.xor_assoc]
    congr 1
    exact mul_xor 8 _ _
where
  mul_xor (k a b : Nat) : 2 ^ k * (a ^^^ b) = 2 ^ k * a ^^^ 2 ^ k * b := by
    apply Nat.eq_of_testBit_eq
    intro i
    rw [Nat.testBit_xor, Nat.testBit_two_pow_mul, Nat.testBit_two_pow_mul, Nat.testBit_two_pow_mul, Nat.testBit_xor]
    by_cases h : k ≤ i <;> simp [h]
theorem mul_xor (k a b : Nat) : 2 ^ k * (a ^^^ b) = 2 ^ k * a ^^^ 2 ^ k * b := by
  apply Nat.eq_of_testBit_eq
  intro i
  rw [Nat.testBit_xor, Nat.testBit_two_pow_mul, Nat.testBit_two_pow_mul, Nat.testBit_two_pow_mul, Nat.testBit_xor]
  by_cases h : k ≤ i <;> simp [h]
/-- The lowest i + 1 bits out of the lowest i. -/
theorem mod_step (t i : Nat) : t % 2 ^ (i + 1) = t % 2 ^ i + 2 ^ i * (t / 2 ^ i % 2) := by
  rw [Nat.pow_succ, Nat.mod_mul]
theorem num_step {n0 at_ t i : Nat} (h : t / 2 ^ i % 2 = 1) : (n0 ^^^ (2 ^ at_ * (t % 2 ^ i))) ^^^ 2 ^ (at_ + i) = n0 ^^^ (2 ^ at_ * (t % 2 ^ (i + 1))) := by
  rw [mod_step, h, Nat.mul_one, Nat.xor_assoc]
  congr 1
  have e : t % 2 ^ i + 2 ^ i = t % 2 ^ i ^^^ (2 ^ i * 1) := by
    have := low_xor (m := 1) i (Nat.mod_lt t (Nat.two_pow_pos i))
    rw [← this, Nat.mul_one]
  rw [e, Nat.mul_one, mul_xor, ← Nat.pow_add]
theorem mod_same {t i : Nat} (h : t / 2 ^ i % 2 = 0) : t % 2 ^ (i + 1) = t % 2 ^ i := by rw [mod_step, h]; simp
theorem mod_new {t i : Nat} (h : t / 2 ^ i % 2 = 1) : t % 2 ^ (i + 1) ≠ 0 := by
  rw [mod_step, h]
  have := Nat.two_pow_pos i
  omega

/-- A number as four bytes, the lowest first. -/
def four (n : Nat) : List UInt8 := [UInt8.ofNat n, UInt8.ofNat (n / 256), UInt8.ofNat (n / 65536), UInt8.ofNat (n / 16777216)]
theorem num_four {n : Nat} (h : n < 2 ^ 32) : num (four n) = n := by
  simp only [four, num, UInt8.toNat_ofNat']
  omega
theorem num_inj : ∀ l m : List UInt8, l.length = m.length → num l = num m → l = m
  | [], [], _, _ => rfl
  | [], y :: m, h, _ => absurd h (by simp)
  | x :: l, [], h, _ => absurd h (by simp)
  | x :: l, y :: m, h, hn => by
    simp only [num] at hn
    have hx := UInt8.toNat_lt x
    have hy := UInt8.toNat_lt y
    have h1 : x.toNat = y.toNat := by omega
    have h2 : num l = num m := by omega
    rw [UInt8.toNat_inj.1 h1, num_inj l m (by simpa using h) h2]
def cseal (l : List UInt8) : List UInt8 := l ++ four (crcOf l)
theorem sealed_cseal (l : List UInt8) : sealed (cseal l) := by
  have e : (cseal l).length - 4 = l.length := by simp [cseal, four]
  unfold sealed
  rw [e]
  unfold cseal
  rw [List.drop_left, List.take_left, num_four (crcOf_lt l)]
/-- The text of a sealed one; the error. -/
def copen (s : List UInt8) : List UInt8 × Nat :=
  if s.length < 4 then ([], 3) else if s.drop (s.length - 4) = four (crcOf (s.take (s.length - 4))) then (s.take (s.length - 4), 0) else ([], 6)
theorem four_iff {s : List UInt8} (h : 4 ≤ s.length) : s.drop (s.length - 4) = four (crcOf (s.take (s.length - 4))) ↔ sealed s := by
  constructor
  · intro h1; unfold sealed; rw [h1, num_four (crcOf_lt _)]
  · intro h1
    refine num_inj _ _ (by rw [List.length_drop]; simp [four]; omega) ?_
    rw [num_four (crcOf_lt _)]; exact h1
end Go.Proofs.YtjbmlhipjceeeaaGreat.Cr

namespace Go.Proofs.YtjbmlhipjceeeaaGreat.Cr
set_option linter.unusedVariables false
set_option linter.unusedSimpArgs false
open Go.RowKit

set_option maxRecDepth 100000 in
set_option maxHeartbeats 400000 in
theorem row_calls (x : Nat) (w : World) (hx : x < 16) :
    Calls Tryz.prog 133 #[.int .u32 (x : Int)] w fun e w' => e = .returned (.int .u32 (row x : Nat)) ∧ w = w' := by
  have h : x = 0 ∨ x = 1 ∨ x = 2 ∨ x = 3 ∨ x = 4 ∨ x = 5 ∨ x = 6 ∨ x = 7 ∨ x = 8 ∨ x = 9 ∨ x = 10 ∨ x = 11 ∨ x = 12 ∨ x = 13 ∨ x = 14 ∨ x = 15 := by omega
  clear hx
  rcases h with rfl | rfl | rfl | rfl | rfl | rfl | rfl | rfl | rfl | rfl | rfl | rfl | rfl | rfl | rfl | rfl
  all_goals
    go_enter Tryz.func133, Tryz.ntmps133
    go_wp2
    go_ret
    exact ⟨rfl, rfl⟩

theorem u32_xor_n (a b : Nat) (ha : a < 4294967296) (hb : b < 4294967296) : bits .xor .u32 (a : Int) (b : Int) = ((a ^^^ b : Nat) : Int) := by
  have hx : a ^^^ b < 2 ^ 32 := Nat.xor_lt_two_pow (by omega) (by omega)
  have h1 : ∀ n : Nat, n < 4294967296 → (BitVec.ofInt 32 (n : Int)).toNat = n := by
    intro n hn
    rw [BitVec.ofInt_natCast, BitVec.toNat_ofNat]; exact Nat.mod_eq_of_lt (by omega)
  show IntKind.u32.wrap ((BitVec.ofInt 32 (a : Int) ^^^ BitVec.ofInt 32 (b : Int)).toNat : Int) = _
  rw [BitVec.toNat_xor, h1 a ha, h1 b hb, IntKind.wrap_u32]
  omega

theorem u32_and15 (a : Nat) (ha : a < 4294967296) : bits .and .u32 (a : Int) 15 = ((a % 16 : Nat) : Int) := by
  have h1 : ∀ n : Nat, n < 4294967296 → (BitVec.ofInt 32 (n : Int)).toNat = n := by
    intro n hn
    rw [BitVec.ofInt_natCast, BitVec.toNat_ofNat]; exact Nat.mod_eq_of_lt (by omega)
  show IntKind.u32.wrap ((BitVec.ofInt 32 (a : Int) &&& BitVec.ofInt 32 ((15 : Nat) : Int)).toNat : Int) = _
  rw [BitVec.toNat_and, h1 a ha, h1 15 (by omega), IntKind.wrap_u32, show (15 : Nat) = 2 ^ 4 - 1 from rfl, Nat.and_two_pow_sub_one_eq_mod]
  omega
theorem u32_not (T : Nat) (h : T ≤ 4294967295) : bits .xor .u32 IntKind.u32.max (T : Int) = ((4294967295 - T : Nat) : Int) := by
  have e : IntKind.u32.max = ((4294967295 : Nat) : Int) := rfl
  rw [e, u32_xor_n _ _ (by omega) (by omega), Nat.xor_comm, ← not32 (by omega)]
/-- The register turned by four bits, as the walk says it. -/
theorem nib_int (c : Nat) (h : c < 4294967296) (e : Int) (he : e = (c : Int) / 16) : bits .xor .u32 e ((row (c % 16) : Nat) : Int) = ((nib c : Nat) : Int) := by
  subst he
  have hr : ∀ r : Fin 16, row r.val < 4294967296 := by decide
  have e1 : (c : Int) / 16 = ((c / 16 : Nat) : Int) := by omega
  have := hr ⟨c % 16, by omega⟩
  rw [e1, u32_xor_n _ _ (by omega) this]; rfl

theorem wr1 {m x : Nat} (hm : m < 4294967296) (hx : x < 256) : bits .xor .u32 (m : Int) ((x : Int) % 4294967296) = ((m ^^^ x : Nat) : Int) := by
  have e : (x : Int) % 4294967296 = (x : Int) := by omega
  rw [e, u32_xor_n _ _ hm (by omega)]
theorem crc_next {m k C : Nat} {l : List UInt8} (hk : k < l.length) (h : crcRun m (l.drop k) = C) : crcRun (nib (nib (m ^^^ l[k].toNat))) (l.drop (k + 1)) = C := by
  rw [nib_step, ← crcRun_cons, ← List.drop_eq_getElem_cons hk]; exact h
theorem crc_next' {m k C : Nat} {l : List UInt8} (hk : k < l.length) (h : crcRun m (l.drop k) = C) : crcRun (crcStep m l[k].toNat) (l.drop (k + 1)) = C := by
  rw [← crcRun_cons, ← List.drop_eq_getElem_cons hk]; exact h
theorem bits_next {m k C : Nat} (hk : k < 8) (h : bits_ (8 - k) m = C) : bits_ (8 - (k + 1)) (bit m) = C := by
  have e : 8 - k = (8 - (k + 1)) + 1 := by omega
  rw [e] at h; exact h
theorem bits_last {m k C : Nat} (hk : 8 ≤ k) (h : bits_ (8 - k) m = C) : C = m := by
  have e : 8 - k = 0 := by omega
  rw [e] at h; exact h.symm
theorem crc_last {m C : Nat} {l : List UInt8} {n : Nat} (hl : l.length = n) (h : crcRun m (l.drop n) = C) : C = m := by
  rw [← hl, List.drop_length, crcRun_nil] at h; exact h.symm
theorem row_calls' (x : Nat) (a : Int) (w : World) (hx : x < 16) (h : a = (x : Int)) :
    Calls Tryz.prog 133 #[.int .u32 a] w fun e w' => e = .returned (.int .u32 (row x : Nat)) ∧ w = w' := by
  subst h; exact row_calls x w hx

/-- A digest's register behind bytes, turned. -/
def wroteN (T : Nat) (l : List UInt8) : Nat := 4294967295 - crcRun (4294967295 - T) l

set_option maxRecDepth 100000 in
set_option maxHeartbeats 800000 in
theorem write_calls (w : World) {g B n c T : Nat} {A : Option Addr} {l : List UInt8} (hb : Blk w g 139 #[.int .u32 (T : Int)]) (h : Bytes w B A n l) (hT : T ≤ 4294967295) (hn : n ≤ 140737488355328) :
    Calls Tryz.prog 109 #[.pointer (some ⟨g, 0, none⟩), .slice A n c] w fun e w' => e = .returned (.tuple #[]) ∧ Blk w' g 139 #[.int .u32 ((wroteN T l : Nat) : Int)] ∧ Only g w w' := by
  have c0 := hb.cell 0
  have f0 := hb.frozen 0
  have hl := h.len
  go_enter Tryz.func109, Tryz.ntmps109
  have h1 : ¬ IntKind.u32.signed = true := by decide
  have h2 := Lib.hid (u32_not T hT)
  go_wp2
  go_loopw [4, 16] (fun c i wr => ∃ (m k : Nat), i = .int .i64 (k : Int) ∧ c = .int .u32 (m : Int) ∧ m < 4294967296 ∧ k ≤ n ∧ Hid (crcRun m (l.drop k) = crcRun (4294967295 - T) l) ∧ wr = w) (fun _ i _ => n - (intOf i).toNat)
  case atStart => exact ⟨4294967295 - T, 0, rfl, by rw [h2.out], by omega, by omega, Lib.hid rfl, rfl⟩
  case round =>
    obtain ⟨m, k, rfl, rfl, hm, hk, hrun, rfl⟩ := hrel
    by_cases hlt : k < n
    · obtain ⟨b, off, rfl, hbB, hcell⟩ := h.cell hlt
      have hck := hcell k hlt
      have hlt' : k < l.length := by omega
      have E1 := Lib.hid (wr1 hm (UInt8.toNat_lt l[k]))
      have hx1 : m ^^^ l[k].toNat < 4294967296 := Nat.xor_lt_two_pow (n := 32) (by omega) (Nat.lt_of_lt_of_le (UInt8.toNat_lt l[k]) (by decide))
      have Hc := Lib.hid (crc_next (m := m) (l := l) hlt' hrun.out)
      go_wp2_with fail
      refine (row_calls' ((m ^^^ l[k].toNat) % 16) _ wr (by omega) (by rw [E1.out, u32_and15 _ hx1])).mono ?_
      rintro en w' ⟨rfl, rfl⟩
      have hn1 : nib (m ^^^ l[k].toNat) < 4294967296 := nib_lt hx1
      have E2 := Lib.hid (nib_int _ hx1 (bits .xor .u32 (m : Int) ((l[k].toNat : Int) % 4294967296) / 16) (by rw [E1.out]))
      go_wp2_with fail
      refine (row_calls' (nib (m ^^^ l[k].toNat) % 16) _ wr (by omega) (by rw [E2.out, u32_and15 _ hn1])).mono ?_
      rintro en w' ⟨rfl, rfl⟩
      have E3 := Lib.hid (nib_int _ hn1 (bits .xor .u32 (bits .xor .u32 (m : Int) ((l[k].toNat : Int) % 4294967296) / 16) ((row ((m ^^^ l[k].toNat) % 16) : Nat) : Int) / 16) (by rw [E2.out]))
      go_wp2
      go_roundw
      case rel => exact ⟨nib (nib (m ^^^ l[k].toNat)), k + 1, by go_num, by rw [E3.out], nib_lt hn1, by omega, Hc, trivial⟩
      case measure => simp [intOf]; omega
    · have hk2 : k = n := by omega
      subst hk2
      have Hf := Lib.hid (crc_last (hl := hl) hrun.out)
      have h3 := Lib.hid (u32_not m (by omega))
      have hg := hb.lt
      go_wp2
      go_end0
      refine ⟨rfl, ?_, (Only.refl g _).setCell (.inl rfl) _⟩
      have h4 := hb.set_ 0 (.int .u32 ((wroteN T l : Nat) : Int))
      have e : wroteN T l = 4294967295 - m := by unfold wroteN; rw [Hf.out]
      rw [h3.out, ← e]
      exact h4

theorem writeNil_calls (w : World) (v : Value) :
    Calls Tryz.prog 109 #[.pointer none, v] w fun e w' => e = .returned (.tuple #[]) ∧ w = w' := by
  go_enter Tryz.func109, Tryz.ntmps109
  go_wp2
  (try simp only [Exit.inBlock, Exit.then])
  refine bodyPost_ret (results_none rfl _ _ _) rfl ?_
  exact ⟨rfl, rfl⟩
theorem dsumNil_calls (w : World) :
    Calls Tryz.prog 110 #[.pointer none] w fun e w' => e = .returned (.int .u32 0) ∧ w = w' := by
  go_enter Tryz.func110, Tryz.ntmps110
  go_wp2
  go_ret
  exact ⟨rfl, rfl⟩
theorem dsum_calls (w : World) {g T : Nat} (hb : Blk w g 139 #[.int .u32 (T : Int)]) :
    Calls Tryz.prog 110 #[.pointer (some ⟨g, 0, none⟩)] w fun e w' => e = .returned (.int .u32 (T : Int)) ∧ w = w' := by
  have c0 := hb.cell 0
  go_enter Tryz.func110, Tryz.ntmps110
  go_wp2
  go_ret
  exact ⟨rfl, rfl⟩

/-- The reference's Step, Sum. -/
theorem bit_odd {c : Nat} (h : c < 4294967296) (ho : c % 2 = 1) : bits .xor .u32 ((c : Int) / 2) 3988292384 = ((bit c : Nat) : Int) := by
  have e1 : (c : Int) / 2 = ((c / 2 : Nat) : Int) := by omega
  have e2 : (3988292384 : Int) = ((3988292384 : Nat) : Int) := rfl
  rw [e1, e2, u32_xor_n _ _ (by omega) (by omega)]
  unfold bit poly; rw [if_pos ho]
theorem bit_even {c : Nat} (ho : ¬ c % 2 = 1) : (c : Int) / 2 = ((bit c : Nat) : Int) := by
  unfold bit; rw [if_neg ho]; omega
set_option maxRecDepth 100000 in
set_option maxHeartbeats 800000 in
theorem step_calls (c : Nat) (x : UInt8) (w : World) (hc : c < 4294967296) :
    Calls Tryz.prog 117 #[.int .u32 (c : Int), .int .u8 (x.toNat : Int)] w fun e w' => e = .returned (.int .u32 ((crcStep c x.toNat : Nat) : Int)) ∧ w = w' := by
  have E1 := Lib.hid (wr1 hc (UInt8.toNat_lt x))
  have hx1 : c ^^^ x.toNat < 4294967296 := Nat.xor_lt_two_pow (n := 32) (by omega) (Nat.lt_of_lt_of_le (UInt8.toNat_lt x) (by decide))
  go_enter Tryz.func117, Tryz.ntmps117
  go_wp2
  go_loop [0, 5] (fun r i => ∃ (m k : Nat), i = .int .i64 (k : Int) ∧ r = .int .u32 (m : Int) ∧ m < 4294967296 ∧ k ≤ 8 ∧ Hid (bits_ (8 - k) m = crcStep c x.toNat)) (fun _ i => 8 - (intOf i).toNat)
  case atStart => exact ⟨c ^^^ x.toNat, 0, rfl, by rw [E1.out], hx1, by omega, Lib.hid rfl⟩
  case round =>
    obtain ⟨m, k, rfl, rfl, hm, hk, hrun⟩ := hrel
    by_cases hlt : k < 8
    · have Hn := Lib.hid (bits_next hlt hrun.out)
      have hbl : bit m < 4294967296 := bit_lt hm
      by_cases ho : m % 2 = 1
      · have E2 := Lib.hid (bit_odd hm ho)
        have q : ((m : Int) % 2 == 1) = true := eqt (by omega)
        clear ho
        go_wp2
        go_round
        case rel => exact ⟨bit m, k + 1, by go_num, by rw [E2.out], hbl, by omega, Hn⟩
        case measure => simp [intOf]; omega
      · have E2 := Lib.hid (bit_even ho)
        have q : ((m : Int) % 2 == 1) = false := eqf (by omega)
        clear ho
        go_wp2
        go_round
        case rel => exact ⟨bit m, k + 1, by go_num, by rw [E2.out], hbl, by omega, Hn⟩
        case measure => simp [intOf]; omega
    · have Hf := Lib.hid (bits_last (by omega) hrun.out)
      go_wp2
      go_ret
      exact ⟨by rw [Hf.out]; rfl, rfl⟩

set_option maxRecDepth 100000 in
set_option maxHeartbeats 800000 in
theorem sumR_calls (w : World) {B n c : Nat} {A : Option Addr} {l : List UInt8} (h : Bytes w B A n l) (hn : n ≤ 140737488355328) :
    Calls Tryz.prog 95 #[.slice A n c] w fun e w' => e = .returned (.int .u32 ((crcOf l : Nat) : Int)) ∧ w = w' := by
  have hl := h.len
  have h1 : ¬ IntKind.u32.signed = true := by decide
  go_enter Tryz.func95, Tryz.ntmps95
  go_wp2
  go_loop [3, 8] (fun r i => ∃ (m k : Nat), i = .int .i64 (k : Int) ∧ r = .int .u32 (m : Int) ∧ m < 4294967296 ∧ k ≤ n ∧ Hid (crcRun m (l.drop k) = crcRun 4294967295 l)) (fun _ i => n - (intOf i).toNat)
  case atStart => exact ⟨4294967295, 0, rfl, rfl, by omega, by omega, Lib.hid rfl⟩
  case round =>
    obtain ⟨m, k, rfl, rfl, hm, hk, hrun⟩ := hrel
    by_cases hlt : k < n
    · obtain ⟨b, off, rfl, hbB, hcell⟩ := h.cell hlt
      have hck := hcell k hlt
      have hlt' : k < l.length := by omega
      have Hc := Lib.hid (crc_next' (m := m) (l := l) hlt' hrun.out)
      go_wp2_with fail
      refine (step_calls m l[k] w hm).mono ?_
      rintro en w' ⟨rfl, rfl⟩
      go_wp2
      go_round
      case rel => exact ⟨crcStep m l[k].toNat, k + 1, by go_num, rfl, crcStep_lt hm (UInt8.toNat_lt _), by omega, Hc⟩
      case measure => simp [intOf]; omega
    · have hk2 : k = n := by omega
      subst hk2
      have Hf := Lib.hid (crc_last (hl := hl) hrun.out)
      have h3 := Lib.hid (u32_not m (by omega))
      go_wp2
      go_ret
      refine ⟨?_, rfl⟩
      rw [h3.out]; unfold crcOf; rw [Hf.out]; rfl
end Go.Proofs.YtjbmlhipjceeeaaGreat.Cr

namespace Go.Proofs.YtjbmlhipjceeeaaGreat.Cr
set_option linter.unusedVariables false
set_option linter.unusedSimpArgs false
open Go.RowKit

/-- How a value of T lies in memory: 'cells w B x cs': the cells cs hold x, and all that they lead to lies below block B. -/
structure Rep (T : Type) where
  size : Nat
  pos : 0 < size
  cells : World → Nat → T → List Value → Prop
  len : ∀ {w : World} {B : Nat} {x : T} {cs : List Value}, cells w B x cs → cs.length = size
  one : ∀ {w : World} {B : Nat} {x : T} {cs : List Value}, cells w B x cs → ∀ u ∈ cs, u.oneCell' = true
  keep : ∀ {w w' : World} {B : Nat} {x : T} {cs : List Value}, cells w B x cs → Below B w w' → cells w' B x cs
  more : ∀ {w : World} {B B' : Nat} {x : T} {cs : List Value}, cells w B x cs → B ≤ B' → cells w B' x cs

/-- Rows of one length, one behind the other. -/
theorem flat_len {α : Type} {s : Nat} : ∀ (css : List (List α)), (∀ c ∈ css, c.length = s) → css.flatten.length = css.length * s
  | [], _ => by simp
  | c :: r, h => by
    have h1 := h c List.mem_cons_self
    have h2 := flat_len r (fun d hd => h d (List.mem_cons_of_mem _ hd))
    simp only [List.flatten_cons, List.length_append, List.length_cons, h1, h2, Nat.succ_mul]
    omega
theorem flat_get {α : Type} {s : Nat} : ∀ (css : List (List α)), (∀ c ∈ css, c.length = s) → ∀ i (hi : i < css.length) j, j < s → css.flatten[i * s + j]? = css[i][j]?
  | [], _, i, hi, _, _ => absurd hi (by simp)
  | c :: r, h, 0, _, j, hj => by
    have h1 := h c List.mem_cons_self
    simp only [List.flatten_cons, Nat.zero_mul, Nat.zero_add, List.getElem_cons_zero]
    rw [List.getElem?_append_left (by omega)]
  | c :: r, h, i + 1, hi, j, hj => by
    have h1 := h c List.mem_cons_self
    have h2 := flat_get r (fun d hd => h d (List.mem_cons_of_mem _ hd)) i (by simpa using hi) j hj
    simp only [List.flatten_cons, List.getElem_cons_succ]
    rw [List.getElem?_append_right (by rw [h1, Nat.succ_mul]; omega), ← h2]
    congr 1
    rw [h1, Nat.succ_mul]; omega

section
variable {T : Type} (R : Rep T)
/-- The cells of a list of values. -/
def Rep.all (w : World) (B : Nat) (l : List T) (css : List (List Value)) : Prop := css.length = l.length ∧ ∀ i (h1 : i < l.length) (h2 : i < css.length), R.cells w B l[i] css[i]
/-- A slice value (address A, as many elements as l has) reads as l. -/
def Sl (w : World) (B : Nat) (A : Option Addr) (l : List T) : Prop := ∃ css, R.all w B l css ∧ Reads w B R.size A l.length css.flatten
/-- A slice value v that the call itself owns holds l; what its cells lead to lies below B. -/
def Own (w : World) (B base : Nat) (e : TypeId) (v : Value) (l : List T) : Prop := ∃ css, R.all w B l css ∧ w.ownsRow base e R.size v l.length css.flatten
end

section
variable {T : Type} {R : Rep T} {w w' : World} {B B' : Nat} {A : Option Addr} {l : List T} {css : List (List Value)}
theorem Rep.all.size (h : R.all w B l css) : ∀ c ∈ css, c.length = R.size := by
  intro c hc
  obtain ⟨i, hi, rfl⟩ := List.getElem_of_mem hc
  exact R.len (h.2 i (by rw [← h.1]; exact hi) hi)
theorem Rep.all.one (h : R.all w B l css) : ∀ u ∈ css.flatten, u.oneCell' = true := by
  intro u hu
  obtain ⟨c, hc, hu⟩ := List.mem_flatten.1 hu
  obtain ⟨i, hi, rfl⟩ := List.getElem_of_mem hc
  exact R.one (h.2 i (by rw [← h.1]; exact hi) hi) u hu
theorem Rep.all.keep (h : R.all w B l css) (hb : Below B w w') : R.all w' B l css := ⟨h.1, fun i h1 h2 => R.keep (h.2 i h1 h2) hb⟩
theorem Rep.all.more (h : R.all w B l css) (hb : B ≤ B') : R.all w B' l css := ⟨h.1, fun i h1 h2 => R.more (h.2 i h1 h2) hb⟩
theorem Rep.all.nil_ : R.all w B [] [] := ⟨rfl, fun i h => absurd h (by simp)⟩
theorem Rep.all.snoc (h : R.all w B l css) {x : T} {cs : List Value} (hx : R.cells w B x cs) : R.all w B (l ++ [x]) (css ++ [cs]) := by
  have hl := h.1
  refine ⟨by simp [h.1], fun i h1 h2 => ?_⟩
  rcases Nat.lt_or_ge i l.length with hi | hi
  · rw [List.getElem_append_left hi, List.getElem_append_left (by omega)]; exact h.2 i hi (by omega)
  · have : i = l.length := by simp at h1; omega
    subst this
    rw [List.getElem_append_right (Nat.le_refl _), List.getElem_append_right (by omega)]
    simpa [hl] using hx
theorem Rep.all.app (h : R.all w B l css) {m : List T} {dss : List (List Value)} (hm : R.all w B m dss) : R.all w B (l ++ m) (css ++ dss) := by
  have hl := h.1
  have hml := hm.1
  refine ⟨by simp [h.1, hm.1], fun i h1 h2 => ?_⟩
  rcases Nat.lt_or_ge i l.length with hi | hi
  · rw [List.getElem_append_left hi, List.getElem_append_left (by omega)]; exact h.2 i hi (by omega)
  · rw [List.getElem_append_right hi, List.getElem_append_right (by omega)]
    have e : i - css.length = i - l.length := by omega
    simp only [e]
    simp only [List.length_append] at h1
    exact hm.2 _ (by omega) (by omega)
theorem Rep.all.take (h : R.all w B l css) (k : Nat) : R.all w B (l.take k) (css.take k) :=
  ⟨by simp [h.1], fun i h1 h2 => by simp only [List.getElem_take]; exact h.2 i _ _⟩
theorem Rep.all.drop (h : R.all w B l css) (k : Nat) : R.all w B (l.drop k) (css.drop k) :=
  ⟨by simp [h.1], fun i h1 h2 => by simp only [List.getElem_drop]; exact h.2 _ _ _⟩
theorem flat_take {α : Type} {s : Nat} : ∀ (css : List (List α)) (_ : ∀ c ∈ css, c.length = s) (k : Nat), css.flatten.take (k * s) = (css.take k).flatten
  | [], _, k => by simp
  | c :: r, h, 0 => by simp
  | c :: r, h, k + 1 => by
    have h1 := h c List.mem_cons_self
    have h2 := flat_take r (fun d hd => h d (List.mem_cons_of_mem _ hd)) k
    simp only [List.flatten_cons, List.take_succ_cons]
    rw [List.take_append, h1, Nat.succ_mul, List.take_of_length_le (by omega), Nat.add_sub_cancel, h2]
theorem flat_drop {α : Type} {s : Nat} : ∀ (css : List (List α)) (_ : ∀ c ∈ css, c.length = s) (k : Nat), css.flatten.drop (k * s) = (css.drop k).flatten
  | [], _, k => by simp
  | c :: r, h, 0 => by simp
  | c :: r, h, k + 1 => by
    have h1 := h c List.mem_cons_self
    have h2 := flat_drop r (fun d hd => h d (List.mem_cons_of_mem _ hd)) k
    simp only [List.flatten_cons, List.drop_succ_cons]
    rw [List.drop_append, h1, Nat.succ_mul, List.drop_of_length_le (by omega), Nat.add_sub_cancel, h2, List.nil_append]

theorem Sl.nil_ : Sl R w B A [] := ⟨[], .nil_, by simpa using (Reads.none_ : Reads w B R.size A 0 [])⟩
theorem Sl.below (h : Sl R w B A l) (hb : Below B w w') : Sl R w' B A l := by
  obtain ⟨css, h1, h2⟩ := h
  exact ⟨css, h1.keep hb, h2.below hb⟩
theorem Sl.more (h : Sl R w B A l) (hb : B ≤ B') : Sl R w B' A l := by
  obtain ⟨css, h1, h2⟩ := h
  exact ⟨css, h1.more hb, h2.more hb⟩
theorem Sl.to (h : Sl R w B A l) (hb : Below B w w') (hB : B ≤ B') : Sl R w' B' A l := (h.below hb).more hB
theorem Sl.drewN (h : Sl R w B A l) (k : Nat) : Sl R (w.drewN k) B A l := h.below (below_drewN_ (Below.refl _ _) k)
theorem Sl.take (h : Sl R w B A l) {k : Nat} (hk : k ≤ l.length) : Sl R w B A (l.take k) := by
  obtain ⟨css, h1, h2⟩ := h
  refine ⟨css.take k, h1.take k, ?_⟩
  rw [← flat_take css h1.size k, List.length_take, Nat.min_eq_left hk]
  exact h2.take hk
theorem Sl.cut (h : Sl R w B A l) {k c : Nat} (hk : k ≤ l.length) (hc : l.length ≤ c) : Sl R w B (if c = k then A else A.map (·.add (k * R.size))) (l.drop k) := by
  obtain ⟨css, h1, h2⟩ := h
  refine ⟨css.drop k, h1.drop k, ?_⟩
  rw [← flat_drop css h1.size k, List.length_drop]
  exact h2.cut hk hc
/-- The cells of one element. -/
theorem Sl.at_ (h : Sl R w B A l) {i : Nat} (hi : i < l.length) : ∃ b off cs, A = some ⟨b, off, none⟩ ∧ b < B ∧ R.cells w B l[i] cs ∧ ∀ j u, cs[j]? = some u → w.cell? ⟨b, off + (i * R.size + j), none⟩ = some u := by
  obtain ⟨css, h1, h2⟩ := h
  have hl := h1.1
  obtain ⟨b, off, e, hb, hc⟩ := h2.2 (by omega)
  have hx := h1.2 i hi (by omega)
  refine ⟨b, off, css[i]'(by omega), e, hb, hx, fun j u hu => hc _ u ?_⟩
  have hj : j < R.size := by
    rcases Nat.lt_or_ge j R.size with h | h
    · exact h
    · rw [List.getElem?_eq_none (by rw [R.len hx]; exact h)] at hu; cases hu
  rw [flat_get css h1.size i (by omega) j hj]; exact hu
theorem Sl.head (h : Sl R w B A l) (hp : 0 < l.length) : ∃ b off, A = some ⟨b, off, none⟩ ∧ b < B := by
  obtain ⟨b, off, _, e, hb, _⟩ := h.at_ hp
  exact ⟨b, off, e, hb⟩

variable {base : Nat} {e : TypeId} {v : Value}
theorem Own.nil_ (w : World) (B base : Nat) (e : TypeId) : Own R w B base e (.slice none 0 0) [] := ⟨[], .nil_, by simpa using World.ownsRow_nil w base e R.size⟩
theorem Own.made (w : World) {B base : Nat} (hb : base ≤ w.heap.size) (e : TypeId) : Own R (w.alloc (.cells #[] e)) B base e (.slice (some ⟨w.heap.size, 0, none⟩) 0 0) [] :=
  ⟨[], .nil_, by simpa using World.ownsRow_made (e := e) (size := R.size) w #[] 0 hb (Nat.zero_le _) (by simp)⟩
theorem Own.opened (h : Own R w B base e v l) (hB : B ≤ w.heap.size) : ∃ A c, v = .slice A l.length c ∧ l.length ≤ c ∧ c ≤ maxLen ∧ Sl R w w.heap.size A l := by
  obtain ⟨css, h1, h2⟩ := h
  obtain ⟨A, c, hv, hc, hm, hr⟩ := own_slice h2
  exact ⟨A, c, hv, hc, hm, css, h1.more hB, hr⟩
/-- Kept where what is below the heap's end stays. -/
theorem Own.below (h : Own R w B base e v l) (hb : Below w.heap.size w w') (hB : B ≤ w.heap.size) : Own R w' B base e v l := by
  obtain ⟨css, h1, h2⟩ := h
  exact ⟨css, h1.keep (hb.mono hB), own_below h2 hb⟩
theorem Own.more (h : Own R w B base e v l) (hB : B ≤ B') : Own R w B' base e v l := by
  obtain ⟨css, h1, h2⟩ := h
  exact ⟨css, h1.more hB, h2⟩
theorem Own.baseLow {base' : Nat} (h : Own R w B base e v l) (hb : base' ≤ base) : Own R w B base' e v l := by
  obtain ⟨css, h1, h2⟩ := h
  exact ⟨css, h1, own_base h2 hb⟩
end

section
variable {P : Program} {T : Type} {R : Rep T} (w : World)
/-- 'out = append(out, x)': x's cells stand in the newest block. -/
theorem wpList_pushR {ops : Array Oper} {rest : List Oper} {o : Oper} {a : Act} {Q : Exit → Act → World → Prop} (hgd : o.guard = none) (s x : Operand) (t : TypeId)
    (ho : o.op = .call { callee := .builtin .append, args := #[s, x], argTypes := #[t, t] })
    (B base : Nat) (e : TypeId) (z : Value) (bytes : Nat) (ht : P.underlying t = some (.slice e)) (hi : (P.info? e).map (fun i => (i.zero, i.size, i.bytes)) = some (some z, R.size, bytes)) (hzs : z.cells.size = R.size)
    (v : Value) (l : List T) (y : T) (cs : Array Value) (te : TypeId) (hs : a.eval s = v) (hx : a.eval x = .slice (some ⟨w.heap.size, 0, none⟩) 1 1) (hown : Own R w B base e v l) (hy : R.cells w B y cs.toList)
    (h63 : l.length + 1 ≤ maxLen) (hbytes : (l.length + 1) * bytes ≤ 140737488355328) (hBb : B ≤ base) (hbase : base ≤ w.heap.size)
    (h : ∀ v' w', Own R w' B base e v' (l ++ [y]) → Below base w w' → (w.alloc (.cells cs te)).grownBy w' v.ownBlock → (v'.ownBlock = v.ownBlock ∨ v'.ownBlock = some (w.heap.size + 1)) → wpList P ops Q rest (a.put o.dst v') w') :
    wpList P ops Q (o :: rest) a (w.alloc (.cells cs te)) := by
  obtain ⟨css, h1, h2⟩ := hown
  have hlen := R.len hy
  have hr : Reads (w.alloc (.cells cs te)) (w.heap.size + 1) R.size (some ⟨w.heap.size, 0, none⟩) 1 cs.toList := Reads.made w cs te (by rw [hlen, Nat.one_mul])
  refine wpList_append_any (w.alloc (.cells cs te)) hgd s x t ho base e z R.size bytes ht hi hzs R.pos v l.length css.flatten hs (h2.alloc _) (w.heap.size + 1) _ 1 1 cs.toList hx hr (R.one hy) h63 hbytes (by simp; omega) ?_
  intro v' w' k1 k2 k3 k4
  have hb : Below base w w' := ((Below.refl base w).alloc hbase _).trans k2
  refine h v' w' ⟨css ++ [cs.toList], (h1.snoc hy).keep (hb.mono hBb), ?_⟩ hb k3 (by simpa using k4)
  simpa using k1
end
end Go.Proofs.YtjbmlhipjceeeaaGreat.Cr

namespace Go.Proofs.YtjbmlhipjceeeaaGreat.Cr
set_option linter.unusedVariables false
set_option linter.unusedSimpArgs false
open Go.RowKit

/-- A slice of bytes as one cell. -/
def bytesRep : Rep (List UInt8) where
  size := 1
  pos := by omega
  cells := fun w B x cs => ∃ A c, cs = [.slice A x.length c] ∧ x.length ≤ c ∧ x.length ≤ 140737488351232 ∧ Bytes w B A x.length x
  len := fun ⟨_, _, h, _⟩ => by rw [h]; rfl
  one := fun ⟨_, _, h, _⟩ u hu => by rw [h] at hu; simp at hu; rw [hu]; rfl
  keep := fun ⟨A, c, h, h1, h2, h3⟩ hb => ⟨A, c, h, h1, h2, h3.below hb⟩
  more := fun ⟨A, c, h, h1, h2, h3⟩ hb => ⟨A, c, h, h1, h2, h3.more hb⟩

/-- One of the slices. -/
theorem bytes_at {w : World} {B : Nat} {A : Option Addr} {L : List (List UInt8)} (h : Sl bytesRep w B A L) {k : Nat} (hk : k < L.length) :
    ∃ b off Ak ck, A = some ⟨b, off, none⟩ ∧ b < B ∧ w.cell? ⟨b, off + k, none⟩ = some (.slice Ak L[k].length ck) ∧ L[k].length ≤ ck ∧ L[k].length ≤ 140737488351232 ∧ Bytes w B Ak L[k].length L[k] := by
  obtain ⟨b, off, cs, e, hb, ⟨Ak, ck, hcs, h1, h2, h3⟩, hc⟩ := h.at_ hk
  refine ⟨b, off, Ak, ck, e, hb, ?_, h1, h2, h3⟩
  have := hc 0 (.slice Ak L[k].length ck) (by rw [hcs]; rfl)
  have e1 : bytesRep.size = 1 := rfl
  rw [e1, Nat.mul_one, Nat.add_zero] at this
  exact this
theorem bytes_one {w : World} {g B : Nat} {t : TypeId} {A : Option Addr} {c : Nat} {l : List UInt8} (hb : Blk w g t #[.slice A l.length c]) (h : Bytes w B A l.length l) (hc : l.length ≤ c) (hm : l.length ≤ 140737488351232) (hg : g < B) :
    Sl bytesRep w B (some ⟨g, 0, none⟩) [l] := by
  refine ⟨[[.slice A l.length c]], ⟨rfl, fun i h1 h2 => ?_⟩, rfl, fun _ => ⟨g, 0, rfl, hg, fun j u hu => ?_⟩⟩
  · obtain rfl : i = 0 := by simp at h1; omega
    exact ⟨A, c, rfl, hc, hm, h⟩
  · simp only [List.flatten_cons, List.flatten_nil, List.append_nil] at hu
    rw [Nat.zero_add, hb.cell j]
    match j, hu with
    | 0, hu => exact hu
    | j + 1, hu => simp at hu

theorem wrote_next {T k : Nat} {L : List (List UInt8)} (hk : k < L.length) (h : T = 4294967295 - crcRun 4294967295 (L.take k).flatten) : wroteN T L[k] = 4294967295 - crcRun 4294967295 (L.take (k + 1)).flatten := by
  have h1 := crcRun_lt (L.take k).flatten (c := 4294967295) (by decide)
  have e : 4294967295 - T = crcRun 4294967295 (L.take k).flatten := by omega
  unfold wroteN
  rw [e, List.take_succ_eq_append_getElem hk, List.flatten_append, crcRun_app]
  simp
theorem wrote_zero (L : List (List UInt8)) : 0 = 4294967295 - crcRun 4294967295 (L.take 0).flatten := by simp [crcRun_nil]
theorem wrote_all {T : Nat} {L : List (List UInt8)} (h : T = 4294967295 - crcRun 4294967295 (L.take L.length).flatten) : T = crcOf L.flatten := by
  rw [h, List.take_length]; rfl

set_option maxRecDepth 100000 in
set_option maxHeartbeats 800000 in
theorem sum_calls (w : World) {B c : Nat} {A : Option Addr} {L : List (List UInt8)} (h : Sl bytesRep w B A L) (hB : B ≤ w.heap.size) (hn : L.length ≤ 140737488355328) :
    Calls Tryz.prog 87 #[.slice A L.length c] w fun e w' => e = .returned (.int .u32 ((crcOf L.flatten : Nat) : Int)) ∧ Below w.heap.size w w' := by
  go_enter Tryz.func87, Tryz.ntmps87
  go_wp2
  go_loopw [8] (fun i wr => ∃ (T k : Nat), i = .int .i64 (k : Int) ∧ T ≤ 4294967295 ∧ k ≤ L.length ∧ Hid (T = 4294967295 - crcRun 4294967295 (L.take k).flatten) ∧ Blk wr w.heap.size 139 #[.int .u32 (T : Int)] ∧ Below w.heap.size w wr) (fun i _ => L.length - (intOf i).toNat)
  case atStart => exact ⟨0, 0, rfl, by omega, by omega, Lib.hid (wrote_zero L), Blk.new w _ _, (Below.refl _ _).alloc (Nat.le_refl _) _⟩
  case round =>
    obtain ⟨T, k, rfl, hT, hk, hrun, hblk, hbel⟩ := hrel
    by_cases hlt : k < L.length
    · have hs := h.below (hbel.mono hB)
      obtain ⟨b, off, Ak, ck, rfl, hbB, hcell, h1, h2, h3⟩ := bytes_at hs hlt
      have Hn := Lib.hid (wrote_next hlt hrun.out)
      have hT' : wroteN T L[k] ≤ 4294967295 := by unfold wroteN; omega
      go_wp2_with fail
      refine (write_calls wr hblk h3 hT (by omega)).mono ?_
      rintro en w1 ⟨rfl, hblk1, ho⟩
      have hbel1 : Below w.heap.size w w1 := hbel.trans (ho.below (Nat.le_refl _) hbel.size)
      go_wp2
      go_roundw
      case rel => exact ⟨wroteN T L[k], k + 1, by go_num, hT', by omega, Hn, hblk1, hbel1⟩
      case measure => simp [intOf]; omega
    · have hk2 : k = L.length := by omega
      subst hk2
      have Hf := Lib.hid (wrote_all hrun.out)
      go_wp2_with fail
      refine (dsum_calls wr hblk).mono ?_
      rintro en w' ⟨rfl, rfl⟩
      go_wp2
      go_ret
      exact ⟨by rw [← Hf.out]; rfl, hbel⟩
end Go.Proofs.YtjbmlhipjceeeaaGreat.Cr

namespace Go.Proofs.YtjbmlhipjceeeaaGreat.Cr
set_option linter.unusedVariables false
set_option linter.unusedSimpArgs false
open Go.RowKit

theorem live_value : crcOf [49, 50, 51, 52, 53, 54, 55, 56, 57] = 3421780262 := by decide +kernel
theorem size_alloc_ (w : World) (o : Obj) : (w.alloc o).heap.size = w.heap.size + 1 := Array.size_push ..
theorem live_q {n : Nat} (h : n = 3421780262) : ((n : Int) == 3421780262) = true := by rw [h]; rfl
theorem bytes_made (w : World) (t : TypeId) (m : Nat × Nat) (l : List UInt8) (cs : Array Value) (n : Nat) (hc : cs.toList = l.map byteV) (hn : l.length = n) : Bytes (w.alloc (.cells cs t m)) (w.heap.size + 1) (some ⟨w.heap.size, 0, none⟩) n l := by
  subst hn
  refine ⟨rfl, by simp, fun _ => ⟨w.heap.size, 0, rfl, by omega, fun j u hu => ?_⟩⟩
  rw [← hc, Array.getElem?_toList] at hu
  rw [Nat.zero_add]
  simp only [World.cell?, World.alloc, Array.getElem?_push_size]
  exact hu

/-- The checksum of one part, as the code writes 'Sum(b)'. -/
theorem sum1_calls (w : World) {B n c : Nat} {A : Option Addr} {l : List UInt8} (h : Bytes w B A n l) (hB : B ≤ w.heap.size) (hn : n ≤ c) (hc : n ≤ 140737488351232) :
    Calls Tryz.prog 87 #[.slice (some ⟨w.heap.size, 0, none⟩) 1 1] (w.alloc (.cells #[.slice A n c] 46)) fun e w' => e = .returned (.int .u32 ((crcOf l : Nat) : Int)) ∧ Below w.heap.size w w' := by
  have hl := h.len
  subst hl
  have hb : Below w.heap.size w (w.alloc (.cells #[.slice A l.length c] 46)) := (Below.refl _ _).alloc (Nat.le_refl _) _
  have hs : (w.alloc (.cells #[.slice A l.length c] 46)).heap.size = w.heap.size + 1 := size_alloc_ w _
  have h1 : Sl bytesRep _ (w.heap.size + 1) (some ⟨w.heap.size, 0, none⟩) [l] := bytes_one (Blk.new w 46 #[.slice A l.length c]) (h.to (hb.mono hB) (by omega)) hn hc (by omega)
  refine (sum_calls (c := 1) _ h1 (by omega) (by simp)).mono ?_
  rintro e w' ⟨rfl, h2⟩
  refine ⟨by simp, hb.trans (h2.mono (by omega))⟩

def liveRow : Array Value := #[.int .u8 49, .int .u8 50, .int .u8 51, .int .u8 52, .int .u8 53, .int .u8 54, .int .u8 55, .int .u8 56, .int .u8 57]
theorem live_sum (w : World) : Calls Tryz.prog 87 #[.slice (some ⟨w.heap.size + 1, 0, none⟩) 1 1] ((w.alloc (.cells liveRow 5 (9, 10))).alloc (.cells #[.slice (some ⟨w.heap.size, 0, none⟩) 9 9] 46)) fun e w' => e = .returned (.int .u32 3421780262) ∧ Below w.heap.size w w' := by
  have hby := bytes_made w 5 (9, 10) [49, 50, 51, 52, 53, 54, 55, 56, 57] liveRow 9 rfl rfl
  have hs : (w.alloc (.cells liveRow 5 (9, 10))).heap.size = w.heap.size + 1 := size_alloc_ w _
  have hb : Below w.heap.size w (w.alloc (.cells liveRow 5 (9, 10))) := (Below.refl _ _).alloc (Nat.le_refl _) _
  have h := sum1_calls (c := 9) (w.alloc (.cells liveRow 5 (9, 10))) hby (by omega) (by omega) (by omega)
  rw [hs, live_value] at h
  refine h.mono ?_
  rintro e w' ⟨rfl, h2⟩
  exact ⟨rfl, hb.trans (h2.mono (by omega))⟩


theorem four_vals {n : Nat} (hn : n < 4294967296) : (four n).map byteV = [.int .u8 ((n : Int) % 256), .int .u8 ((n : Int) / 256 % 256), .int .u8 ((n : Int) / 65536 % 256), .int .u8 ((n : Int) / 16777216)] := by
  simp only [four, List.map_cons, List.map_nil, byteV, UInt8.toNat_ofNat', List.cons.injEq, Value.int.injEq, true_and, and_true]
  omega
set_option maxRecDepth 100000 in
set_option maxHeartbeats 800000 in
theorem four_calls (n : Nat) (w : World) (hn : n < 4294967296) :
    Calls Tryz.prog 94 #[.int .u32 (n : Int)] w (RetBytes 5 w (four n)) := by
  go_enter Tryz.func94, Tryz.ntmps94
  go_wp2
  go_ret
  have hv := four_vals hn
  refine ⟨_, rfl, ?_, (Below.refl _ _).alloc (Nat.le_refl _) _⟩
  rw [hv]
  exact World.ownsRow_lit (size := 1) w #[.int .u8 ((n : Int) % 256), .int .u8 ((n : Int) / 256 % 256), .int .u8 ((n : Int) / 65536 % 256), .int .u8 ((n : Int) / 16777216)] 4 (Nat.le_refl _) (by simp [maxLen]) rfl

/-- 'make([]T, 0, n)' with a variable n. -/
theorem wpList_make_any {P : Program} (w : World) {ops : Array Oper} {rest : List Oper} {o : Oper} {a : Act} {Q : Exit → Act → World → Prop}
    (hg : o.guard = none) (l c : Operand) (t : TypeId) (hop : o.op = Op.makeSlice t l c)
    (base : Nat) (e : TypeId) (z : Value) (size bytes : Nat) (h1 : P.underlying t = some (.slice e)) (hi : (P.info? e).map (fun i => (i.zero, i.size, i.bytes)) = some (some z, size, bytes))
    (kl kc : IntKind) (C : Int) (n : Nat) (hl : a.eval l = .int kl 0) (hc : a.eval c = .int kc C) (hC : C = (n : Int)) (b2 : bytes * n ≤ 281474976710656) (b3 : n ≤ maxLen) (b4 : base ≤ w.heap.size)
    (hK : ∀ w', w'.ownsRow base e size (.slice (some ⟨w.heap.size, 0, none⟩) 0 n) 0 [] → Below w.heap.size w w' → wpList P ops Q rest (a.put o.dst (.slice (some ⟨w.heap.size, 0, none⟩) 0 n)) w') :
    wpList P ops Q (o :: rest) a w := by
  rcases hj : P.info? e with _ | i
  · rw [hj] at hi; cases hi
  · rw [hj] at hi
    simp only [Option.map_some, Option.some.injEq, Prod.mk.injEq] at hi
    obtain ⟨e1, e2, e3⟩ := hi
    refine wpList_make_own w hg l c t hop base e i z size h1 hj e1 e2 kl kc C n hl hc hC (by rw [e3]; exact b2) b3 b4 ?_
    intro w' h3 h4
    exact hK w' h3 ((Below.refl _ _).grown h4 (Nat.le_refl _) (by intro g hg; cases hg))

set_option maxRecDepth 100000 in
set_option maxHeartbeats 800000 in
theorem sealR_calls (w : World) {B n c : Nat} {A : Option Addr} {l : List UInt8} (h : Bytes w B A n l) (hB : B ≤ w.heap.size) (hn : n ≤ 140737488350000) :
    Calls Tryz.prog 58 #[.slice A n c] w (RetBytes 5 w (cseal l)) := by
  have hl := h.len
  subst hl
  go_enter Tryz.func58, Tryz.ntmps58
  go_wp2_with fail
  refine (twin_calls w h hB (by omega)).mono ?_
  rintro e w1 he
  obtain ⟨A1, c1, rfl, hc1, hm1, hb1, hbel1, hown1⟩ := he.opened
  go_wp2_with fail
  refine (sumR_calls w1 (h.below (hbel1.mono hB)) (by omega)).mono ?_
  rintro e w' ⟨rfl, rfl⟩
  go_wp2_with fail
  refine (four_calls (crcOf l) w1 (crcOf_lt l)).mono ?_
  rintro e w2 he2
  obtain ⟨A2, c2, rfl, hc2, hm2, hb2, hbel2, hown2⟩ := he2.opened
  have hown1' := own_below hown1 hbel2
  have s2 := hbel1.size
  have s3 := hbel2.size
  have h5 : l.length + (four (crcOf l)).length ≤ maxLen := by have h4 : (four (crcOf l)).length = 4 := rfl; unfold maxLen; omega
  have h6 : (l.length + (four (crcOf l)).length) * 1 ≤ 140737488355328 := by have h4 : (four (crcOf l)).length = 4 := rfl; omega
  clear he he2
  go_wp2_with (at_builtin; go_must (refine wpList_append_any _ rfl (.tmp 4) (.tmp 7) _ rfl w.heap.size 5 _ 1 1 Tryz.underlying46 Tryz.infoU8 rfl (by omega) _ _ _ rfl hown1' w2.heap.size A2 _ c2 ((four (crcOf l)).map byteV) rfl hb2.2 (byteV_one _) h5 h6 (by omega) ?_))
  intro v' w3 hown3 hbel3 _ _
  have hown4 : w3.ownsRow w.heap.size 5 1 v' (cseal l).length ((cseal l).map byteV) := by unfold cseal; rw [List.length_append, List.map_append]; exact hown3
  have hbel4 : Below w.heap.size w w3 := hbel1.trans ((hbel2.mono (by omega)).trans hbel3)
  clear hown3 hown1 hown1' hown2
  go_wp2
  go_ret
  exact ⟨_, rfl, hown4, hbel4⟩

set_option maxRecDepth 100000 in
set_option maxHeartbeats 800000 in
theorem seal_calls (w : World) {B n c : Nat} {A : Option Addr} {l : List UInt8} (h : Bytes w B A n l) (hB : B ≤ w.heap.size) (hn : n ≤ c) (hc : n ≤ 140737488351232) (hn2 : n ≤ 140737488350000) :
    Calls Tryz.prog 42 #[.slice A n c] w (RetBytes 5 w (cseal l)) := by
  have hl := h.len
  subst hl
  go_enter Tryz.func42, Tryz.ntmps42
  go_wp2_with fail
  refine (sum1_calls w h hB hn hc).mono ?_
  rintro e w1 ⟨rfl, hbel1⟩
  have s1 := hbel1.size
  have h1 := h.below (hbel1.mono hB)
  go_wp2_with (first
    | (at_make; refine wpList_make_any _ rfl _ _ 46 rfl w.heap.size 5 _ 1 1 Tryz.underlying46 Tryz.infoU8 .i64 .i64 _ (l.length + 4) rfl rfl (by omega) (by omega) (by unfold maxLen; omega) (by omega) ?_; intro w2 hown2 hbel2; have h2 := h1.below (hbel2.mono (show B ≤ w1.heap.size by omega)); have s2 := hbel2.size)
    | (at_builtin; go_must (refine wpList_append_sl _ rfl (.tmp 11) (.tmp 12) _ rfl w.heap.size 5 _ 1 1 Tryz.underlying46 Tryz.infoU8 rfl (by omega) _ _ _ rfl hown2 B A l.length c (l.map byteV) rfl h2.2 (byteV_one _) (by unfold maxLen; omega) (by omega) (by omega) ?_)))
  intro A3 c3 w3 k1 k2 _ hbel3 hown3 _ _
  have s3 := hbel3.size
  have hown4 : w3.ownsRow w.heap.size 5 1 (.slice A3 l.length c3) l.length (l.map byteV) := by simpa using hown3
  have hC := crcOf_lt l
  have hv := Lib.hid (four_vals hC)
  have hcs : cseal l = l ++ four (crcOf l) := rfl
  have Hcs := Lib.hid hcs
  clear hcs hown3
  generalize crcOf l = C at *
  have hr := Reads.made (n := 4) (size := 1) w3 #[.int .u8 ((C : Int) % 256), .int .u8 ((C : Int) / 256 % 256), .int .u8 ((C : Int) / 65536 % 256), .int .u8 ((C : Int) / 16777216)] 5 rfl
  have ho := hown4.alloc (.cells #[.int .u8 ((C : Int) % 256), .int .u8 ((C : Int) / 256 % 256), .int .u8 ((C : Int) / 65536 % 256), .int .u8 ((C : Int) / 16777216)] 5)
  have hb4 : Below w.heap.size w (w3.alloc (.cells #[.int .u8 ((C : Int) % 256), .int .u8 ((C : Int) / 256 % 256), .int .u8 ((C : Int) / 65536 % 256), .int .u8 ((C : Int) / 16777216)] 5)) := ((hbel1.trans (hbel2.mono s1)).trans hbel3).alloc (by omega) _
  have s4 := hb4.size
  go_wp2_with (at_builtin; go_must (refine wpList_append_any _ rfl (.tmp 14) (.tmp 26) _ rfl w.heap.size 5 _ 1 1 Tryz.underlying46 Tryz.infoU8 rfl (by omega) _ _ _ rfl ho _ _ _ _ _ rfl hr (by intro u hu; simp at hu; rcases hu with rfl | rfl | rfl | rfl <;> rfl) (by unfold maxLen; omega) (by omega) s4 ?_))
  intro v' w5 hown5 hbel5 _ _
  have hbel6 := hb4.trans hbel5
  clear hown4 ho hr hb4 hown2
  go_wp2
  go_ret
  refine ⟨_, rfl, ?_, hbel6⟩
  rw [Hcs.out, List.length_append, List.map_append, hv.out]
  exact hown5
end Go.Proofs.YtjbmlhipjceeeaaGreat.Cr
