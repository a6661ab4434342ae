/- Stores into a map at an operation of a drawn region. -/
import Derived.Test.YtlljpjehalodfaaGreatMap
import Derived.Test.YtlljpjehalodfaaGreatTail
namespace Go.Proofs.YtlljpjehalodfaaGreat
open Go.RowKit

section
variable {P : Program} {ops : Array Oper} {Q : Exit → Act → World → Prop} {md : Region.Mode} {S : World → Prop} {T : Nat}
variable {k e t : TypeId} {κ β : Type} [DecidableEq κ] {K : KeyT P k κ} {ev : β → Value} {b : Nat} {l : List (κ × β)} {o : Oper} {a : Act} {w : World}
theorem oper_put (m xo v : Operand) (hop : o.op = Op.mapUpdate t m xo v) (h : MapAt K ev w b l) (ht : P.underlying t = some (.map k e)) (x : κ) (y : β) (hm : a.eval m = .map (some b)) (hxe : a.eval xo = K.val x) (hv : a.eval v = ev y) (hx : K.ok x) (hn : l.length < maxLen) {K' : Act → World → Prop}
    (hK : ∀ w', MapAt K ev w' b (mput K.lt l x y) → w.grownBy w' (some b) → w'.heap.size = w.heap.size → K' (a.put o.dst undef) w') : Oper.wp P o a w K' Q := by
  obtain ⟨w', hrun, r1, r2, r3⟩ := h.put_run ht hx hn y
  unfold Oper.wp
  simp [execOp, hop, hm, hxe, hv, hrun, Result.andThen]
  exact hK w' r1 r2 r3
/-- The store that ends a region. -/
theorem wpAnyT_put {n : Nat} {L : Array Bool} (m xo v : Operand) (hr : Region.ready md ops L = [T]) (ho : ops[T]? = some o) (hg : Region.wanted o (yielded ops a.tmps) = true) (hop : o.op = Op.mapUpdate t m xo v) (h : MapAt K ev w b l) (ht : P.underlying t = some (.map k e)) (x : κ) (y : β) (hm : a.eval m = .map (some b)) (hxe : a.eval xo = K.val x) (hv : a.eval v = ev y) (hx : K.ok x) (hn : l.length < maxLen)
    (hd : Region.ready md ops (L.setIfInBounds T true) = [])
    (hK : ∀ w', MapAt K ev w' b (mput K.lt l x y) → w.grownBy w' (some b) → w'.heap.size = w.heap.size → Q .normal (a.put o.dst undef) w') : wpAnyT P md ops Q S T (n + 1) L a w :=
  wpAnyT_one hr ho fun K' hK' => by
    rw [if_pos hg]
    exact oper_put m xo v hop h ht x y hm hxe hv hx hn fun w' h1 h2 h3 => hK'.out _ _ (fun hne => absurd rfl hne) (wpAnyT_done hd (hK w' h1 h2 h3) _)
end
end Go.Proofs.YtlljpjehalodfaaGreat
