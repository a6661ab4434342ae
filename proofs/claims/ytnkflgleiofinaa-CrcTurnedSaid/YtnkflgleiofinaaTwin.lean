/- Contracts of the reference's Same and Twin (chapter 1). -/
import Derived.Test.YtnkflgleiofinaaProg
import Derived.Test.YtnkflgleiofinaaMem
import Derived.Test.YtnkflgleiofinaaBits
namespace Go.Proofs.Ytnkflgleiofinaa
open Go.RowKit

theorem Try.infoU8 : (Try.prog.info? 5).map (fun i => (i.zero, i.size, i.bytes)) = some (some (.int .u8 0), 1, 1) := by kernel_rfl

theorem same_calls (w : World) {B1 B2 : Nat} {A1 A2 : Option Addr} {n1 n2 c1 c2 : Nat} {l1 l2 : List UInt8} (h1 : Bytes w B1 A1 n1 l1) (h2 : Bytes w B2 A2 n2 l2) :
    Calls Try.prog 16 #[.slice A1 n1 c1, .slice A2 n2 c2] w fun e w' => e = .returned (.bool (l1 == l2)) ∧ w = w' := by
  have k1 := h1.conv Try.prog c1 24 5 9 Try.underlying24 Try.underlying5 Try.underlying9
  have k2 := h2.conv Try.prog c2 24 5 9 Try.underlying24 Try.underlying5 Try.underlying9
  clear h1 h2
  go_enter Try.func16, Try.ntmps16
  go_wp2
  go_ret
  exact ⟨rfl, rfl⟩

theorem twin_calls (w : World) {B : Nat} {A : Option Addr} {n c : Nat} {l : List UInt8} (h : Bytes w B A n l) (hB : B ≤ w.heap.size) (hn : n ≤ 140737488355328) :
    Calls Try.prog 12 #[.slice A n c] w (RetBytes 5 w l) := by
  go_enter Try.func12, Try.ntmps12
  go_wp2_with (at_builtin; go_must (refine wpList_append_any _ rfl (.tmp 3) (.tmp 4) _ rfl w.heap.size 5 _ 1 1 Try.underlying24 Try.infoU8 rfl (by omega) _ _ _ rfl (World.ownsRow_made w #[] 0 (Nat.le_refl _) (Nat.zero_le _) rfl) B A n c (l.map byteV) rfl (h.to ((Below.refl B w).alloc hB _) (Nat.le_refl _)).2 (byteV_one l) (by unfold maxLen; omega) (by omega) (by simp) ?_))
  intro v' w1 hown hbel _ _
  have hown2 : w1.ownsRow w.heap.size 5 1 v' l.length (l.map byteV) := by have hl := h.1; subst hl; simpa using hown
  go_wp2
  go_ret
  exact ⟨_, rfl, hown2, ((Below.refl _ _).alloc (Nat.le_refl _) _).trans hbel⟩

end Go.Proofs.Ytnkflgleiofinaa
