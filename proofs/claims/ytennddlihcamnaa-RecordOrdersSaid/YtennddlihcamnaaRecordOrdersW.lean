/- RecordOrders: the walk. -/
import Derived.Test.YtennddlihcamnaaProg
import Derived.Test.YtennddlihcamnaaRwI
namespace Go.Proofs.Ytennddlihcamnaa.lawRecordOrders
open Go.RowKit Go.Proofs.Ytennddlihcamnaa

set_option maxRecDepth 100000 in
set_option maxHeartbeats 1600000 in
theorem long (w : World) {c n : Nat} {A : Option Addr} (h : 60 < n) :
    Calls Try.prog 6 #[.slice A n c] w fun e w' => e = .returned (.bool true) ∧ Below w.heap.size w w' := by
  have d60 : decide ((60 : Int) < (n : Int)) = true := dct (by omega)
  go_enter Try.func6, Try.ntmps6
  go_wp2_with fail
  refine (lives_calls w).mono ?_
  rintro e w1 ⟨rfl, hb1⟩
  go_wp2_with fail
  refine (lives_calls w1).mono ?_
  rintro e w2 ⟨rfl, hb2⟩
  go_wp2
  go_ret
  exact ⟨rfl, hb1.trans (hb2.mono hb1.size)⟩

theorem walk {H : Type} {enc : TypeId × Value → H} {W : World} {base : Nat} {v0 : Value} {d0 : DataW H} {p0 : List MemPlace} (g0 : Arg enc Try.prog W base 33 v0 d0 p0) :
    Calls Try.prog 6 #[v0] W fun e w' => e = .returned (.bool true) ∧ Below W.heap.size W w' := by
  obtain ⟨A, c, l, rfl, _, _, hR⟩ := arg_rows g0
  by_cases hn : 60 < l.length
  · exact long W hn
  · exact body W hR (Nat.le_refl _) (by omega)
end Go.Proofs.Ytennddlihcamnaa.lawRecordOrders
