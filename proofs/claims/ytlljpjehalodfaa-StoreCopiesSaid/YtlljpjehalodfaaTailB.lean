/- In a drawn region more may be held from some operation on. -/
import Derived.Test.YtlljpjehalodfaaProg
import Derived.Test.YtlljpjehalodfaaTail
namespace Go.Proofs.Ytlljpjehalodfaa
open Go.RowKit

theorem wpAnyT_more {P : Program} {md : Region.Mode} {ops : Array Oper} {Q : Exit → Act → World → Prop} {S S' : World → Prop} {t : Nat} (h : ∀ v, S' v → S v) : ∀ {n : Nat} {l : Array Bool} {a : Act} {w : World}, wpAnyT P md ops Q S' t n l a w → wpAnyT P md ops Q S t n l a w
  | 0, _, _, _, k => k
  | _ + 1, _, _, _, k => ⟨k.1, fun i hi => wpOp_mono (fun _ _ k' => ⟨fun hne => h _ (k'.1 hne), wpAnyT_more h k'.2⟩) (k.2 i hi)⟩
end Go.Proofs.Ytlljpjehalodfaa
