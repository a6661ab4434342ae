/- Labels (chapter 8): a set's text, in plain Lean; plain; Byte of the reference. -/
import Derived.Test.YtjbmlhipjceeeaaMLabB
import Derived.Test.YtjbmlhipjceeeaaMBld
import Derived.Laws.BitsLemmas
namespace Go.Proofs.Ytjbmlhipjceeeaa.Lb
open Go.RowKit

def plainB (c : UInt8) : Bool := decide (32 ≤ c.toNat ∧ c.toNat ≤ 126 ∧ c.toNat ≠ 34 ∧ c.toNat ≠ 92)
def digS : ByteArray := ⟨#[48, 49, 50, 51, 52, 53, 54, 55, 56, 57, 97, 98, 99, 100, 101, 102]⟩
def dig16 (k : Nat) : UInt8 := at8 digS k
def escB (c : UInt8) : List UInt8 := if plainB c = true then [c] else [92, dig16 (c.toNat / 16), dig16 (c.toNat % 16)]
def valT (v : List UInt8) : List UInt8 := v.flatMap escB
def labT (x : Lab) : List UInt8 := x.1.data.toList ++ ([61, 34] ++ (valT x.2.data.toList ++ [34]))
def textK (l : List Lab) (k : Nat) : List UInt8 := (List.range k).flatMap fun i => (if 0 < i then [44] else []) ++ labT (labAt l i)
def textB (l : List Lab) : List UInt8 := 123 :: (textK l l.length ++ [125])
theorem escB_plain {c : UInt8} (h : plainB c = true) : escB c = [c] := by unfold escB; rw [if_pos h]
theorem escB_hex {c : UInt8} (h : plainB c = false) : escB c = [92, dig16 (c.toNat / 16), dig16 (c.toNat % 16)] := by unfold escB; rw [if_neg (by simp [h])]
theorem valT_snoc (v : List UInt8) (c : UInt8) : valT (v ++ [c]) = valT v ++ escB c := by simp [valT]
theorem escB_len (c : UInt8) : (escB c).length ≤ 3 := by unfold escB; split <;> simp
theorem valT_len : ∀ v : List UInt8, (valT v).length ≤ 3 * v.length
  | [] => by simp [valT]
  | c :: r => by
    have h1 := escB_len c
    have h2 := valT_len r
    have e : valT (c :: r) = escB c ++ valT r := by simp [valT]
    rw [e, List.length_append, List.length_cons]; omega
theorem textK_succ (l : List Lab) (k : Nat) : textK l (k + 1) = textK l k ++ ((if 0 < k then [44] else []) ++ labT (labAt l k)) := by
  unfold textK
  rw [List.range_succ, List.flatMap_append]
  simp
theorem textK_0 (l : List Lab) : textK l 0 = [] := rfl
theorem labT_len {x : Lab} (h1 : x.1.size ≤ 8) (h2 : x.2.size ≤ 16) : (labT x).length ≤ 59 := by
  have h3 := valT_len x.2.data.toList
  have e1 := strlen x.1
  have e2 := strlen x.2
  unfold labT
  simp only [List.length_append, List.length_cons, List.length_nil]
  omega
theorem right_at {l : List Lab} (h : rightB l = true) {k : Nat} (hk : k < l.length) : (labAt l k).1.size ≤ 8 ∧ (labAt l k).2.size ≤ 16 ∧ l.length ≤ 4 := by
  have h' := of_decide_eq_true h
  have ho := h'.2 k hk
  have hn := of_decide_eq_true ho.1
  exact ⟨hn.2.1, ho.2.1, h'.1⟩
theorem textK_len {l : List Lab} (h : rightB l = true) : ∀ k, k ≤ l.length → (textK l k).length ≤ 60 * k
  | 0, _ => by simp [textK]
  | k + 1, hk => by
    have h1 := textK_len h k (by omega)
    obtain ⟨h2, h3, _⟩ := right_at h (show k < l.length by omega)
    have h4 := labT_len h2 h3
    rw [textK_succ, List.length_append, List.length_append]
    have h5 : (if 0 < k then ([44] : List UInt8) else []).length ≤ 1 := by split <;> simp
    omega

theorem plain_calls (c : UInt8) (w : World) : Calls Try.prog 82 #[.int .u8 (c.toNat : Int)] w fun e w' => e = .returned (.bool (plainB c)) ∧ w = w' := by
  have hcase : (plainB c = true ∧ 32 ≤ (c.toNat : Int) ∧ (c.toNat : Int) ≤ 126 ∧ ((c.toNat : Int) != 34) = true ∧ ((c.toNat : Int) != 92) = true) ∨
      (plainB c = false ∧ ((c.toNat : Int) < 32 ∨ (32 ≤ (c.toNat : Int) ∧ 126 < (c.toNat : Int)) ∨ (32 ≤ (c.toNat : Int) ∧ (c.toNat : Int) ≤ 126 ∧ ((c.toNat : Int) != 34) = false) ∨ (32 ≤ (c.toNat : Int) ∧ (c.toNat : Int) ≤ 126 ∧ ((c.toNat : Int) != 34) = true ∧ ((c.toNat : Int) != 92) = false))) := by
    have e1 : ((c.toNat : Int) != 34) = true ↔ c.toNat ≠ 34 := by rw [bne_iff_ne]; omega
    have e2 : ((c.toNat : Int) != 34) = false ↔ c.toNat = 34 := by rw [bne_eq_false_iff_eq]; omega
    have e3 : ((c.toNat : Int) != 92) = true ↔ c.toNat ≠ 92 := by rw [bne_iff_ne]; omega
    have e4 : ((c.toNat : Int) != 92) = false ↔ c.toNat = 92 := by rw [bne_eq_false_iff_eq]; omega
    unfold plainB
    rw [decide_eq_true_iff, decide_eq_false_iff_not, e1, e2, e3, e4]
    omega
  rcases hcase with ⟨hl, h1, h2, h3, h4⟩ | ⟨hl, h⟩
  · have HL := Lib.hid hl
    clear hl
    have d1 : decide ((c.toNat : Int) ≤ 126) = true := dct h2
    go_enter Try.func82, Try.ntmps82
    go_wp2
    go_ret
    exact ⟨by rw [HL.out]; rfl, rfl⟩
  · have HL := Lib.hid hl
    clear hl
    rcases h with h1 | ⟨h1, h2⟩ | ⟨h1, h2, h3⟩ | ⟨h1, h2, h3, h4⟩
    all_goals
      try (have d1 : decide ((c.toNat : Int) ≤ 126) = true := dct (by omega))
      try (have d1 : decide ((c.toNat : Int) ≤ 126) = false := dcf (by omega))
      go_enter Try.func82, Try.ntmps82
      go_wp2
      go_ret
      exact ⟨by rw [HL.out]; rfl, rfl⟩

theorem idx_dig (k : Nat) (h : k < 16) (w : World) : (Instr.index 9 (.string ⟨#[48, 49, 50, 51, 52, 53, 54, 55, 56, 57, 97, 98, 99, 100, 101, 102]⟩) (.int .u8 (k : Int))).run Try.prog w = .ok (.int .u8 ((dig16 k).toNat : Int)) w := by
  have : k = 0 ∨ k = 1 ∨ k = 2 ∨ k = 3 ∨ k = 4 ∨ k = 5 ∨ k = 6 ∨ k = 7 ∨ k = 8 ∨ k = 9 ∨ k = 10 ∨ k = 11 ∨ k = 12 ∨ k = 13 ∨ k = 14 ∨ k = 15 := by omega
  clear h
  rcases this with rfl | rfl | rfl | rfl | rfl | rfl | rfl | rfl | rfl | rfl | rfl | rfl | rfl | rfl | rfl | rfl <;> (show _ = _; first | kernel_rfl | rfl)
theorem idx_hi (c : UInt8) (w : World) : (Instr.index 9 (.string ⟨#[48, 49, 50, 51, 52, 53, 54, 55, 56, 57, 97, 98, 99, 100, 101, 102]⟩) (.int .u8 ((c.toNat : Int) / 16))).run Try.prog w = .ok (.int .u8 ((dig16 (c.toNat / 16)).toNat : Int)) w := by
  have := UInt8.toNat_lt c
  exact idx_dig (c.toNat / 16) (by omega) w
theorem idx_lo (c : UInt8) (w : World) : (Instr.index 9 (.string ⟨#[48, 49, 50, 51, 52, 53, 54, 55, 56, 57, 97, 98, 99, 100, 101, 102]⟩) (.int .u8 ((c.toNat : Int) % 16))).run Try.prog w = .ok (.int .u8 ((dig16 (c.toNat % 16)).toNat : Int)) w := idx_dig (c.toNat % 16) (by omega) w
theorem u8_and15n (x : UInt8) : bits .and .u8 (x.toNat : Int) 15 = (x.toNat : Int) % 16 := by
  have h0 := UInt8.toNat_lt x
  show IntKind.u8.wrap ((BitVec.ofInt 8 (x.toNat : Int) &&& BitVec.ofInt 8 ((15 : Nat) : Int)).toNat : Int) = _
  rw [BitVec.toNat_and, BitVec.ofInt_natCast, BitVec.ofInt_natCast, BitVec.toNat_ofNat, BitVec.toNat_ofNat, IntKind.wrap_u8, show (15 % 2 ^ 8 : Nat) = 2 ^ 4 - 1 from rfl, Nat.and_two_pow_sub_one_eq_mod]
  omega
theorem idx_and (c : UInt8) (w : World) : (Instr.index 9 (.string ⟨#[48, 49, 50, 51, 52, 53, 54, 55, 56, 57, 97, 98, 99, 100, 101, 102]⟩) (.int .u8 (bits .and .u8 (c.toNat : Int) 15))).run Try.prog w = .ok (.int .u8 ((dig16 (c.toNat % 16)).toNat : Int)) w := by
  rw [u8_and15n]; exact idx_lo c w
theorem hex_cells (c : UInt8) : (#[.int .u8 92, .int .u8 ((dig16 (c.toNat / 16)).toNat : Int), .int .u8 ((dig16 (c.toNat % 16)).toNat : Int)] : Array Value).toList = ([92, dig16 (c.toNat / 16), dig16 (c.toNat % 16)] : List UInt8).map byteV := rfl
end Go.Proofs.Ytjbmlhipjceeeaa.Lb
