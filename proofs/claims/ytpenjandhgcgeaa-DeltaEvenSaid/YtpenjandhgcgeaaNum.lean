/- Contracts of the package nums (chapter 1) and of its reference: what each computes. -/
import Derived.Test.YtpenjandhgcgeaaProg
import Derived.Test.YtpenjandhgcgeaaMem
import Derived.Test.YtpenjandhgcgeaaBits
import Derived.Test.YtpenjandhgcgeaaNumP
namespace Go.Proofs.Ytpenjandhgcgeaa
open Go.RowKit

theorem Try.infoU8 : (Try.prog.info? 5).map (fun i => (i.zero, i.size, i.bytes)) = some (some (.int .u8 0), 1, 1) := by kernel_rfl

set_option maxRecDepth 100000 in
set_option maxHeartbeats 400000 in
theorem putU_calls (n : Nat) (w : World) (hn : (putU n).length ≤ 10) :
    Calls Try.prog 24 #[.int .u64 (n : Int)] w (RetBytes 5 w (putU n)) := by
  go_enter Try.func24, Try.ntmps24
  go_wp2
  go_loopw [0, 3] (fun x v wr => ∃ (m : Nat) (pre : List UInt8), x = .int .u64 (m : Int) ∧ wr.ownsRow w.heap.size 5 1 v pre.length (pre.map byteV) ∧ pre ++ putU m = putU n ∧ Below w.heap.size w wr) (fun x _ _ => (intOf x).toNat)
  case atStart => exact ⟨n, [], rfl, World.ownsRow_nil _ _ _ _, rfl, Below.refl _ _⟩
  case round =>
    obtain ⟨m, pre, rfl, hown, hpre, hbel⟩ := hrel
    have Hr := putU_room hpre hn
    have Hp := Lib.hid hpre; clear hpre
    by_cases hlt : m < 128
    · go_wp2_with (at_builtin; go_must (refine wpList_push _ rfl (.tmp 14) (.tmp 17) _ rfl w.heap.size 5 _ 1 Try.underlying27 Try.infoU8 rfl _ _ _ _ _ rfl rfl hown rfl (by unfold maxLen; omega) (by omega) hbel.size ?_))
      intro v' w1 hown' hbel' _ _
      have hown2 := own_snoc hown' (u8_nat (by omega))
      rw [putU_end Hp.out hlt] at hown2
      go_wp2
      go_ret
      exact ⟨_, rfl, hown2, hbel.trans hbel'⟩
    · go_wp2_with (at_builtin; go_must (refine wpList_push _ rfl (.tmp 6) (.tmp 10) _ rfl w.heap.size 5 _ 1 Try.underlying27 Try.infoU8 rfl _ _ _ _ _ rfl rfl hown rfl (by unfold maxLen; omega) (by omega) hbel.size ?_))
      intro v' w1 hown' hbel' _ _
      have hown2 := own_snoc hown' (or128 m)
      clear hown' hown
      go_wp2
      go_roundw
      case rel => exact ⟨m / 128, _, by go_num, hown2, putU_step Hp.out hlt, hbel.trans hbel'⟩
      case measure => simp [intOf]; omega
end Go.Proofs.Ytpenjandhgcgeaa
