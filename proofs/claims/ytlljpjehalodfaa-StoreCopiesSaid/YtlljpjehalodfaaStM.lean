/- The store's predicates on keys and ids (chapter 14). -/
import Derived.Test.YtlljpjehalodfaaProg
import Derived.Test.YtlljpjehalodfaaStG0
import Derived.Test.YtlljpjehalodfaaStL
import Derived.Test.YtlljpjehalodfaaShelf
namespace Go.Proofs.Ytlljpjehalodfaa
open Go.RowKit Go.Lib Go.Shelf
namespace St

theorem opened1_calls (W : World) {g3 : Nat} {x : Cl} (hb : Blk W g3 30 x.cells) (id : Int) : Calls Try.prog 47 #[.int .i64 id, .pointer (some ⟨g3, 0, none⟩)] W fun e w' => e = .returned (.bool (decide (id ≤ x.id))) ∧ w' = W := by
  have c6 : W.cell? ⟨g3, 6, none⟩ = some (.int .i64 x.id) := hb.cell 6
  clear hb
  go_enter Try.func47, Try.ntmps47
  go_wp2
  go_ret
  exact ⟨rfl, rfl⟩
def listP (x : Cl) (k : ByteArray) : Bool := !(Lib.hasPrefix k.data.toList x.key.data.toList) || (Op.bytesLess k.toList x.d || k.toList == x.d)
theorem list1_calls (W : World) {g3 B : Nat} {x : Cl} (hb : Blk W g3 30 x.cells) (hd : Bytes W B x.A x.d.length x.d) (k : ByteArray) : Calls Try.prog 42 #[.string k, .pointer (some ⟨g3, 0, none⟩)] W fun e w' => e = .returned (.bool (listP x k)) ∧ w' = W := by
  have c1 : W.cell? ⟨g3, 1, none⟩ = some (.string x.key) := hb.cell 1
  have c2 : W.cell? ⟨g3, 2, none⟩ = some (.slice x.A x.d.length x.c) := hb.cell 2
  have hcv := hd.conv Try.prog x.c 28 5 9 Try.underlying28 Try.underlying5 Try.underlying9
  have HP := Lib.hid (Try.strings_HasPrefix k x.key W)
  clear hb hd
  cases hh : Lib.hasPrefix k.data.toList x.key.data.toList with
  | false =>
    go_enter Try.func42, Try.ntmps42
    go_wp2_with fail
    refine HP.out.mono ?_
    rintro e w' ⟨rfl, rfl⟩
    rw [hh]
    go_wp2
    go_ret
    exact ⟨by unfold listP; rw [hh]; rfl, rfl⟩
  | true =>
    go_enter Try.func42, Try.ntmps42
    go_wp2_with fail
    refine HP.out.mono ?_
    rintro e w' ⟨rfl, rfl⟩
    rw [hh]
    go_wp2
    go_ret
    exact ⟨by unfold listP; rw [hh]; rfl, rfl⟩
end St
end Go.Proofs.Ytlljpjehalodfaa
