/- Contracts: the reference's PutU, Same, Twin; Zig and Zag of both. -/
import Derived.Test.YtpenjandhgcgeaaNum
namespace Go.Proofs.Ytpenjandhgcgeaa
open Go.RowKit

set_option maxRecDepth 100000 in
set_option maxHeartbeats 400000 in
theorem putURef_calls (n : Nat) (w : World) (hn : (putU n).length ≤ 10) (hn2 : n ≤ 18446744073709551615) :
    Calls Try.prog 27 #[.int .u64 (n : Int)] w (RetBytes 5 w (putU n)) := by
  go_enter Try.func27, Try.ntmps27
  go_wp2
  go_loopw [0, 3] (fun x v wr => ∃ (m : Nat) (pre : List UInt8), m ≤ n ∧ x = .int .u64 (m : Int) ∧ wr.ownsRow w.heap.size 5 1 v pre.length (pre.map byteV) ∧ pre ++ putU m = putU n ∧ Below w.heap.size w wr) (fun x _ _ => (intOf x).toNat)
  case atStart => exact ⟨n, [], Nat.le_refl _, rfl, World.ownsRow_made w #[] 0 (Nat.le_refl _) (Nat.zero_le _) rfl, rfl, (Below.refl _ _).alloc (Nat.le_refl _) _⟩
  case round =>
    obtain ⟨m, pre, hm, rfl, hown, hpre, hbel⟩ := hrel
    have hm2 : m ≤ 18446744073709551615 := by omega
    have hm3 : m ≤ n := hm
    clear hm
    have Hr := putU_room hpre hn
    have Hp := Lib.hid hpre; clear hpre
    by_cases hlt : m < 128
    · go_wp2_with (at_builtin; go_must (refine wpList_push _ rfl (.tmp 17) (.tmp 20) _ rfl w.heap.size 5 _ 1 Try.underlying27 Try.infoU8 rfl _ _ _ _ _ rfl rfl hown rfl (by unfold maxLen; omega) (by omega) hbel.size ?_))
      intro v' w1 hown' hbel' _ _
      have hown2 := own_snoc hown' (u8_nat (by omega))
      rw [putU_end Hp.out hlt] at hown2
      go_wp2
      go_ret
      exact ⟨_, rfl, hown2, hbel.trans hbel'⟩
    · go_wp2_with (at_builtin; go_must (refine wpList_push _ rfl (.tmp 8) (.tmp 13) _ rfl w.heap.size 5 _ 1 Try.underlying27 Try.infoU8 rfl _ _ _ _ _ rfl rfl hown rfl (by unfold maxLen; omega) (by omega) hbel.size ?_))
      intro v' w1 hown' hbel' _ _
      have hown2 := own_snoc (b := UInt8.ofNat (m % 128 + 128)) hown' (by rw [UInt8.toNat_ofNat']; omega)
      clear hown' hown
      go_wp2
      go_roundw
      case rel => exact ⟨m / 128, _, by omega, by go_num, hown2, putU_step Hp.out hlt, hbel.trans hbel'⟩
      case measure => simp [intOf]; omega

theorem same_calls (w : World) {B1 B2 : Nat} {A1 A2 : Option Addr} {n1 n2 c1 c2 : Nat} {l1 l2 : List UInt8} (h1 : Bytes w B1 A1 n1 l1) (h2 : Bytes w B2 A2 n2 l2) :
    Calls Try.prog 15 #[.slice A1 n1 c1, .slice A2 n2 c2] w fun e w' => e = .returned (.bool (l1 == l2)) ∧ w = w' := by
  have k1 := h1.conv Try.prog c1 27 5 9 Try.underlying27 Try.underlying5 Try.underlying9
  have k2 := h2.conv Try.prog c2 27 5 9 Try.underlying27 Try.underlying5 Try.underlying9
  clear h1 h2
  go_enter Try.func15, Try.ntmps15
  go_wp2
  go_ret
  exact ⟨rfl, rfl⟩

theorem twin_calls (w : World) {B : Nat} {A : Option Addr} {n c : Nat} {l : List UInt8} (h : Bytes w B A n l) (hB : B ≤ w.heap.size) (hn : n ≤ 140737488355328) :
    Calls Try.prog 19 #[.slice A n c] w (RetBytes 5 w l) := by
  go_enter Try.func19, Try.ntmps19
  go_wp2_with (at_builtin; go_must (refine wpList_append_any _ rfl (.tmp 3) (.tmp 4) _ rfl w.heap.size 5 _ 1 1 Try.underlying27 Try.infoU8 rfl (by omega) _ _ _ rfl (World.ownsRow_made w #[] 0 (Nat.le_refl _) (Nat.zero_le _) rfl) B A n c (l.map byteV) rfl (h.to ((Below.refl B w).alloc hB _) (Nat.le_refl _)).2 (byteV_one l) (by unfold maxLen; omega) (by omega) (by simp) ?_))
  intro v' w1 hown hbel _ _
  have hown2 : w1.ownsRow w.heap.size 5 1 v' l.length (l.map byteV) := by have hl := h.1; subst hl; simpa using hown
  go_wp2
  go_ret
  exact ⟨_, rfl, hown2, ((Below.refl _ _).alloc (Nat.le_refl _) _).trans hbel⟩

theorem zig_calls (m : Int) (w : World) (h1 : -9223372036854775808 ≤ m) (h2 : m ≤ 9223372036854775807) :
    Calls Try.prog 33 #[.int .i64 m] w fun e w' => e = .returned (.int .u64 (zigN m : Nat)) ∧ w = w' := by
  have hz := Lib.hid (zig_bits m h1 h2)
  go_enter Try.func33, Try.ntmps33
  go_wp2
  go_ret
  exact ⟨ret_int hz.out, rfl⟩
theorem zag_calls (n : Nat) (w : World) (hn : n ≤ 18446744073709551615) :
    Calls Try.prog 34 #[.int .u64 (n : Int)] w fun e w' => e = .returned (.int .i64 (zagI n)) ∧ w = w' := by
  have hz := Lib.hid (zag_bits n hn)
  clear hn
  go_enter Try.func34, Try.ntmps34
  go_wp2
  go_ret
  exact ⟨ret_int hz.out, rfl⟩
theorem zigR_calls (m : Int) (w : World) (h1 : -9223372036854775808 ≤ m) (h2 : m ≤ 9223372036854775807) :
    Calls Try.prog 28 #[.int .i64 m] w fun e w' => e = .returned (.int .u64 (zigN m : Nat)) ∧ w = w' := by
  by_cases hm : m < 0
  all_goals
    go_enter Try.func28, Try.ntmps28
    go_wp2
    go_ret
  · exact ⟨ret_int (zig_neg hm).symm, rfl⟩
  · exact ⟨ret_int (zig_pos (by omega)).symm, rfl⟩
theorem zagR_calls (n : Nat) (w : World) (hn : n ≤ 18446744073709551615) :
    Calls Try.prog 32 #[.int .u64 (n : Int)] w fun e w' => e = .returned (.int .i64 (zagI n)) ∧ w = w' := by
  by_cases hm : n % 2 = 1
  · have hz := Lib.hid (zagR_odd n hn hm)
    have hb : ((n : Int) % 2 == 1) = true := by simp; omega
    clear hn hm
    go_enter Try.func32, Try.ntmps32
    go_wp2
    go_ret
    exact ⟨ret_int hz.out, rfl⟩
  · have hz := Lib.hid (zagR_even n hn hm)
    have hb : ((n : Int) % 2 == 1) = false := by simp; omega
    clear hn hm
    go_enter Try.func32, Try.ntmps32
    go_wp2
    go_ret
    exact ⟨ret_int hz.out, rfl⟩
theorem putI_calls (m : Int) (w : World) (h1 : -9223372036854775808 ≤ m) (h2 : m ≤ 9223372036854775807) (hn : (putU (zigN m)).length ≤ 10) :
    Calls Try.prog 25 #[.int .i64 m] w (RetBytes 5 w (putU (zigN m))) := by
  go_enter Try.func25, Try.ntmps25
  go_wp2_with fail
  refine (zig_calls m w h1 h2).mono ?_
  rintro e w' ⟨rfl, rfl⟩
  go_wp2_with fail
  refine (putU_calls (zigN m) w hn).mono ?_
  rintro e w' ⟨v, rfl, hown, hbel⟩
  go_wp2
  go_ret
  exact ⟨v, rfl, hown, hbel⟩
end Go.Proofs.Ytpenjandhgcgeaa
