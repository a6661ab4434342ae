/-
  No cell of these rows narrows 'for every input' (looked for: loops, veiled, ifaces, maps, wideKeys, modest, calm, conditions, laid).
  DERIVED. THE GIVEN ROWS OF THIS SEAT. 6 by the template 'for every input the law returns true; each argument reads behind the call as it read before'; 0 by the template 'total and deterministic' (their statements: YtennddlihcamnaaTotals.lean).
  GIVEN WITH THE SEED: the statements are not yours to turn. If you find one false, say at which input.
  Laid BY PROGRAM, IN A SANDBOX (cutbox-rows.mjs): the forced cells as the released guide's own fill.sh prints them over the translation 7266dffed27bf148… (all of the seat's roots in one cut). By AI agents, Wed Nov 11 2026. No macro, syntax, notation, axiom, sorry.
-/
import Derived.Test.YtennddlihcamnaaChecked
import GoSem.Claim
import GoSem.ClaimJoined
import GoSem.ClaimMapViews
import Derived.JoinedTies
import Derived.KernelRfl
namespace Go.Proofs.Ytennddlihcamnaa
/- THE CELL 'sum', in the pinned program and in every row, IS THE sha256 OF THE DUMP (.gsa) THAT YtennddlihcamnaaProg.lean LOADS. Nothing in Lean hashes anything: it is a label: what it is worth is what the hold of that sum in a sandbox is worth. -/
noncomputable def Try.pinned : Pinned := { name := "ytennddlihcamnaa", sum := "7266dffed27bf148088f6aef4cde9b579cdaec31ed1b249d86fa0b9d641dfedf", checked := Try.checked }
namespace Rows
def none {H : Type} : Left H := { results := [], args := [] }

/-- 'entrepotlaw09.RecordChecks': WHATEVER THE INPUT: true; the input reads as it did. -/
def recordChecksSpec : ChangeSpec := { name := "recordChecks", fn := fun _ => fun
  | [d] => { results := [.lit (.bool true)], args := [d] }
  | _ => none }
def recordChecksRow : OpenClaim := { program := "ytennddlihcamnaa", sum := "7266dffed27bf148088f6aef4cde9b579cdaec31ed1b249d86fa0b9d641dfedf", func := "entrepot/entrepotlaw09.RecordChecks", spec := "recordChecks", unfollowed := true, recurses := true, plainKeys := false, apart := false }
def RecordChecksSaid : Prop := recordChecksRow.holds Try.pinned (OpenSpec.ofChange recordChecksSpec)

/-- ITS FALSE NEIGHBOUR: 'it returns false'. Refute it at one input. -/
def recordChecksWrong : ChangeSpec := { name := "recordChecks", fn := fun _ => fun
  | [d] => { results := [.lit (.bool false)], args := [d] }
  | _ => none }
def RecordChecksWrongFalsely : Prop := recordChecksRow.holds Try.pinned (OpenSpec.ofChange recordChecksWrong)

/-- 'entrepotlaw09.RecordRows': WHATEVER THE INPUT: true; the input reads as it did. -/
def recordRowsSpec : ChangeSpec := { name := "recordRows", fn := fun _ => fun
  | [d] => { results := [.lit (.bool true)], args := [d] }
  | _ => none }
def recordRowsRow : OpenClaim := { program := "ytennddlihcamnaa", sum := "7266dffed27bf148088f6aef4cde9b579cdaec31ed1b249d86fa0b9d641dfedf", func := "entrepot/entrepotlaw09.RecordRows", spec := "recordRows", unfollowed := true, recurses := true, plainKeys := false, apart := false }
def RecordRowsSaid : Prop := recordRowsRow.holds Try.pinned (OpenSpec.ofChange recordRowsSpec)

/-- ITS FALSE NEIGHBOUR: 'it returns false'. Refute it at one input. -/
def recordRowsWrong : ChangeSpec := { name := "recordRows", fn := fun _ => fun
  | [d] => { results := [.lit (.bool false)], args := [d] }
  | _ => none }
def RecordRowsWrongFalsely : Prop := recordRowsRow.holds Try.pinned (OpenSpec.ofChange recordRowsWrong)

/-- 'entrepotlaw09.RecordTurns': WHATEVER THE INPUT: true; the input reads as it did. -/
def recordTurnsSpec : ChangeSpec := { name := "recordTurns", fn := fun _ => fun
  | [d1, d2] => { results := [.lit (.bool true)], args := [d1, d2] }
  | _ => none }
def recordTurnsRow : OpenClaim := { program := "ytennddlihcamnaa", sum := "7266dffed27bf148088f6aef4cde9b579cdaec31ed1b249d86fa0b9d641dfedf", func := "entrepot/entrepotlaw09.RecordTurns", spec := "recordTurns", unfollowed := true, recurses := true, plainKeys := false, apart := false }
def RecordTurnsSaid : Prop := recordTurnsRow.holds Try.pinned (OpenSpec.ofChange recordTurnsSpec)

/-- ITS FALSE NEIGHBOUR: 'it returns false'. Refute it at one input. -/
def recordTurnsWrong : ChangeSpec := { name := "recordTurns", fn := fun _ => fun
  | [d1, d2] => { results := [.lit (.bool false)], args := [d1, d2] }
  | _ => none }
def RecordTurnsWrongFalsely : Prop := recordTurnsRow.holds Try.pinned (OpenSpec.ofChange recordTurnsWrong)

/-- 'entrepotlaw09.RecordOrders': WHATEVER THE INPUT: true; the input reads as it did. -/
def recordOrdersSpec : ChangeSpec := { name := "recordOrders", fn := fun _ => fun
  | [d] => { results := [.lit (.bool true)], args := [d] }
  | _ => none }
def recordOrdersRow : OpenClaim := { program := "ytennddlihcamnaa", sum := "7266dffed27bf148088f6aef4cde9b579cdaec31ed1b249d86fa0b9d641dfedf", func := "entrepot/entrepotlaw09.RecordOrders", spec := "recordOrders", unfollowed := true, recurses := true, plainKeys := false, apart := false }
def RecordOrdersSaid : Prop := recordOrdersRow.holds Try.pinned (OpenSpec.ofChange recordOrdersSpec)

/-- ITS FALSE NEIGHBOUR: 'it returns false'. Refute it at one input. -/
def recordOrdersWrong : ChangeSpec := { name := "recordOrders", fn := fun _ => fun
  | [d] => { results := [.lit (.bool false)], args := [d] }
  | _ => none }
def RecordOrdersWrongFalsely : Prop := recordOrdersRow.holds Try.pinned (OpenSpec.ofChange recordOrdersWrong)

/-- 'entrepotlaw09.RecordSplits': WHATEVER THE INPUT: true; the input reads as it did. -/
def recordSplitsSpec : ChangeSpec := { name := "recordSplits", fn := fun _ => fun
  | [d1, d2, d3] => { results := [.lit (.bool true)], args := [d1, d2, d3] }
  | _ => none }
def recordSplitsRow : OpenClaim := { program := "ytennddlihcamnaa", sum := "7266dffed27bf148088f6aef4cde9b579cdaec31ed1b249d86fa0b9d641dfedf", func := "entrepot/entrepotlaw09.RecordSplits", spec := "recordSplits", inPlace := ["internal/abi.NoEscape"], unfollowed := true, recurses := true, plainKeys := false, apart := false }
def RecordSplitsSaid : Prop := recordSplitsRow.holds Try.pinned (OpenSpec.ofChange recordSplitsSpec)

/-- ITS FALSE NEIGHBOUR: 'it returns false'. Refute it at one input. -/
def recordSplitsWrong : ChangeSpec := { name := "recordSplits", fn := fun _ => fun
  | [d1, d2, d3] => { results := [.lit (.bool false)], args := [d1, d2, d3] }
  | _ => none }
def RecordSplitsWrongFalsely : Prop := recordSplitsRow.holds Try.pinned (OpenSpec.ofChange recordSplitsWrong)

/-- 'entrepotlaw09.RecordGathers': WHATEVER THE INPUT: true; the input reads as it did. -/
def recordGathersSpec : ChangeSpec := { name := "recordGathers", fn := fun _ => fun
  | [d1, d2, d3] => { results := [.lit (.bool true)], args := [d1, d2, d3] }
  | _ => none }
def recordGathersRow : OpenClaim := { program := "ytennddlihcamnaa", sum := "7266dffed27bf148088f6aef4cde9b579cdaec31ed1b249d86fa0b9d641dfedf", func := "entrepot/entrepotlaw09.RecordGathers", spec := "recordGathers", inPlace := ["internal/abi.NoEscape"], unfollowed := true, recurses := true, plainKeys := false, apart := false }
def RecordGathersSaid : Prop := recordGathersRow.holds Try.pinned (OpenSpec.ofChange recordGathersSpec)

/-- ITS FALSE NEIGHBOUR: 'it returns false'. Refute it at one input. -/
def recordGathersWrong : ChangeSpec := { name := "recordGathers", fn := fun _ => fun
  | [d1, d2, d3] => { results := [.lit (.bool false)], args := [d1, d2, d3] }
  | _ => none }
def RecordGathersWrongFalsely : Prop := recordGathersRow.holds Try.pinned (OpenSpec.ofChange recordGathersWrong)

/- THE SECOND FORM. 'bulk': how many values and letters a reading holds, each counted each time it is reached (what is shared counts as often as it is met; a slice's spare places count too). A statement '..UptoSaid' is the law's where the arguments, and the package variables that the reading takes, are together of bulk at most 1048576: NARROWER than '..Said'. Prove '..Said' where nothing that the law and all that it calls make is longer than what came in: it says more and counts as full. Else prove '..UptoSaid'. A law counts once. -/
mutual
def uptoBulk {H : Type} : DataW H → Nat
  | .lit (.string bytes) => bytes.length + 1
  | .lit _ => 1
  | .nil => 1
  | .ptr d => uptoBulk d + 1
  | .slice elems spare => uptoBulkAll elems + uptoBulkAll spare + 1
  | .agg parts => uptoBulkAll parts + 1
  | .iface _ d => uptoBulk d + 1
  | .map entries => uptoBulkEntries entries + 1
  | .held _ => 1
def uptoBulkAll {H : Type} : List (DataW H) → Nat
  | [] => 0
  | d :: r => uptoBulk d + uptoBulkAll r
def uptoBulkEntries {H : Type} : List (Lit × DataW H) → Nat
  | [] => 0
  | x :: r => uptoBulkEntry x + uptoBulkEntries r
def uptoBulkEntry {H : Type} : Lit × DataW H → Nat
  | (.string bytes, d) => bytes.length + uptoBulk d + 1
  | (_, d) => uptoBulk d + 1
 end
def uptoSmall : (H : Type) → List (DataW H) → Bool := fun _ ds => decide (uptoBulkAll ds ≤ 1048576)
def OpenSpec.upto (s : _root_.Go.ChangeSpec) : _root_.Go.OpenSpec := { _root_.Go.OpenSpec.ofChange s with cond := some uptoSmall }

/-- 'entrepotlaw09.RecordChecks', WHERE WHAT IT READS IS OF BULK AT MOST 1048576: true; the input reads as it did. -/
def recordChecksUptoRow : OpenClaim := { program := "ytennddlihcamnaa", sum := "7266dffed27bf148088f6aef4cde9b579cdaec31ed1b249d86fa0b9d641dfedf", func := "entrepot/entrepotlaw09.RecordChecks", spec := "recordChecks", unfollowed := true, recurses := true, plainKeys := false, apart := false, narrowed := true }
def RecordChecksUptoSaid : Prop := recordChecksUptoRow.holds Try.pinned (OpenSpec.upto recordChecksSpec)

/-- 'entrepotlaw09.RecordRows', WHERE WHAT IT READS IS OF BULK AT MOST 1048576: true; the input reads as it did. -/
def recordRowsUptoRow : OpenClaim := { program := "ytennddlihcamnaa", sum := "7266dffed27bf148088f6aef4cde9b579cdaec31ed1b249d86fa0b9d641dfedf", func := "entrepot/entrepotlaw09.RecordRows", spec := "recordRows", unfollowed := true, recurses := true, plainKeys := false, apart := false, narrowed := true }
def RecordRowsUptoSaid : Prop := recordRowsUptoRow.holds Try.pinned (OpenSpec.upto recordRowsSpec)

/-- 'entrepotlaw09.RecordTurns', WHERE WHAT IT READS IS OF BULK AT MOST 1048576: true; the input reads as it did. -/
def recordTurnsUptoRow : OpenClaim := { program := "ytennddlihcamnaa", sum := "7266dffed27bf148088f6aef4cde9b579cdaec31ed1b249d86fa0b9d641dfedf", func := "entrepot/entrepotlaw09.RecordTurns", spec := "recordTurns", unfollowed := true, recurses := true, plainKeys := false, apart := false, narrowed := true }
def RecordTurnsUptoSaid : Prop := recordTurnsUptoRow.holds Try.pinned (OpenSpec.upto recordTurnsSpec)

/-- 'entrepotlaw09.RecordOrders', WHERE WHAT IT READS IS OF BULK AT MOST 1048576: true; the input reads as it did. -/
def recordOrdersUptoRow : OpenClaim := { program := "ytennddlihcamnaa", sum := "7266dffed27bf148088f6aef4cde9b579cdaec31ed1b249d86fa0b9d641dfedf", func := "entrepot/entrepotlaw09.RecordOrders", spec := "recordOrders", unfollowed := true, recurses := true, plainKeys := false, apart := false, narrowed := true }
def RecordOrdersUptoSaid : Prop := recordOrdersUptoRow.holds Try.pinned (OpenSpec.upto recordOrdersSpec)

/-- 'entrepotlaw09.RecordSplits', WHERE WHAT IT READS IS OF BULK AT MOST 1048576: true; the input reads as it did. -/
def recordSplitsUptoRow : OpenClaim := { program := "ytennddlihcamnaa", sum := "7266dffed27bf148088f6aef4cde9b579cdaec31ed1b249d86fa0b9d641dfedf", func := "entrepot/entrepotlaw09.RecordSplits", spec := "recordSplits", inPlace := ["internal/abi.NoEscape"], unfollowed := true, recurses := true, plainKeys := false, apart := false, narrowed := true }
def RecordSplitsUptoSaid : Prop := recordSplitsUptoRow.holds Try.pinned (OpenSpec.upto recordSplitsSpec)

/-- 'entrepotlaw09.RecordGathers', WHERE WHAT IT READS IS OF BULK AT MOST 1048576: true; the input reads as it did. -/
def recordGathersUptoRow : OpenClaim := { program := "ytennddlihcamnaa", sum := "7266dffed27bf148088f6aef4cde9b579cdaec31ed1b249d86fa0b9d641dfedf", func := "entrepot/entrepotlaw09.RecordGathers", spec := "recordGathers", inPlace := ["internal/abi.NoEscape"], unfollowed := true, recurses := true, plainKeys := false, apart := false, narrowed := true }
def RecordGathersUptoSaid : Prop := recordGathersUptoRow.holds Try.pinned (OpenSpec.upto recordGathersSpec)

end Rows
end Go.Proofs.Ytennddlihcamnaa
