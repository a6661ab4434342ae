/- Contracts: the reference's PutU (in a seat without the package nums). -/
import Derived.Test.YtlljpjehalodfaaProg
import Derived.Test.YtlljpjehalodfaaMem
import Derived.Test.YtlljpjehalodfaaBits
import Derived.Test.YtlljpjehalodfaaNumP
namespace Go.Proofs.Ytlljpjehalodfaa
open Go.RowKit

theorem Try.infoU8r : (Try.prog.info? 5).map (fun i => (i.zero, i.size, i.bytes)) = some (some (.int .u8 0), 1, 1) := by kernel_rfl
set_option maxRecDepth 100000 in
set_option maxHeartbeats 400000 in
theorem putURef_calls (n : Nat) (w : World) (hn : (putU n).length ≤ 10) (hn2 : n ≤ 18446744073709551615) :
    Calls Try.prog 34 #[.int .u64 (n : Int)] w (RetBytes 5 w (putU n)) := by
  go_enter Try.func34, Try.ntmps34
  go_wp2
  go_loopw [0, 3] (fun x v wr => ∃ (m : Nat) (pre : List UInt8), m ≤ n ∧ x = .int .u64 (m : Int) ∧ wr.ownsRow w.heap.size 5 1 v pre.length (pre.map byteV) ∧ pre ++ putU m = putU n ∧ Below w.heap.size w wr) (fun x _ _ => (intOf x).toNat)
  case atStart => exact ⟨n, [], Nat.le_refl _, rfl, World.ownsRow_made w #[] 0 (Nat.le_refl _) (Nat.zero_le _) rfl, rfl, (Below.refl _ _).alloc (Nat.le_refl _) _⟩
  case round =>
    obtain ⟨m, pre, hm, rfl, hown, hpre, hbel⟩ := hrel
    have hm2 : m ≤ 18446744073709551615 := by omega
    have hm3 : m ≤ n := hm
    clear hm
    have Hr := putU_room hpre hn
    have Hp := Lib.hid hpre; clear hpre
    by_cases hlt : m < 128
    · go_wp2_with (at_builtin; go_must (refine wpList_push _ rfl (.tmp 17) (.tmp 20) _ rfl w.heap.size 5 _ 1 Try.underlying28 Try.infoU8r rfl _ _ _ _ _ rfl rfl hown rfl (by unfold maxLen; omega) (by omega) hbel.size ?_))
      intro v' w1 hown' hbel' _ _
      have hown2 := own_snoc hown' (u8_nat (by omega))
      rw [putU_end Hp.out hlt] at hown2
      go_wp2
      go_ret
      exact ⟨_, rfl, hown2, hbel.trans hbel'⟩
    · go_wp2_with (at_builtin; go_must (refine wpList_push _ rfl (.tmp 8) (.tmp 13) _ rfl w.heap.size 5 _ 1 Try.underlying28 Try.infoU8r rfl _ _ _ _ _ rfl rfl hown rfl (by unfold maxLen; omega) (by omega) hbel.size ?_))
      intro v' w1 hown' hbel' _ _
      have hown2 := own_snoc (b := UInt8.ofNat (m % 128 + 128)) hown' (by rw [UInt8.toNat_ofNat']; omega)
      clear hown' hown
      go_wp2
      go_roundw
      case rel => exact ⟨m / 128, _, by omega, by go_num, hown2, putU_step Hp.out hlt, hbel.trans hbel'⟩
      case measure => simp [intOf]; omega

end Go.Proofs.Ytlljpjehalodfaa
