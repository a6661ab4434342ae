/-
  No cell of these rows narrows 'for every input' (looked for: loops, veiled, ifaces, maps, wideKeys, modest, calm, conditions, laid).
  DERIVED. THE GIVEN ROWS OF THIS SEAT. 4 by the template 'for every input the law returns true; each argument reads behind the call as it read before'; 0 by the template 'total and deterministic' (their statements: YtibnehaibgbliaaGreatTotals.lean).
  GIVEN WITH THE SEED: the statements are not yours to turn. If you find one false, say at which input.
  Laid BY PROGRAM, IN A SANDBOX (cutbox-rows.mjs): the forced cells as the released guide's own fill.sh prints them over the translation 36f573ae5157436f… (all of the seat's roots in one cut). By AI agents, Wed Nov 11 2026. No macro, syntax, notation, axiom, sorry.
-/
import Derived.Test.YtibnehaibgbliaaGreatChecked
import GoSem.Claim
import GoSem.ClaimJoined
import GoSem.ClaimMapViews
import Derived.JoinedTies
import Derived.KernelRfl
namespace Go.Proofs.YtibnehaibgbliaaGreat
/- THE CELL 'sum', in the pinned program and in every row, IS THE sha256 OF THE DUMP (.gsa) THAT YtibnehaibgbliaaGreatProg.lean LOADS. Nothing in Lean hashes anything: it is a label: what it is worth is what the hold of that sum in a sandbox is worth. -/
noncomputable def Tryz.pinned : Pinned := { name := "ytibnehaibgbliaagreat", sum := "36f573ae5157436f29339f500422fb711482f50578a985c8bbc373ef305d06e3", checked := Tryz.checked }
namespace Rows
def none {H : Type} : Left H := { results := [], args := [] }

/-- 'entrepotlaw18.CommitPaces': WHATEVER THE INPUT: true; the input reads as it did. -/
def commitPacesSpec : ChangeSpec := { name := "commitPaces", fn := fun _ => fun
  | [d1, d2, d3] => { results := [.lit (.bool true)], args := [d1, d2, d3] }
  | _ => none }
def commitPacesRow : OpenClaim := { program := "ytibnehaibgbliaagreat", sum := "36f573ae5157436f29339f500422fb711482f50578a985c8bbc373ef305d06e3", func := "entrepot/entrepotlaw18.CommitPaces", spec := "commitPaces", inPlace := ["internal/bytealg.IndexByteString", "internal/bytealg.IndexString", "slices.overlaps[entrepot/api.Mark]", "slices.overlaps[entrepot/api.Owner]"], unfollowed := true, recurses := true, named := ["internal/bytealg.MaxLen"], apart := false }
def CommitPacesSaid : Prop := commitPacesRow.holds Tryz.pinned (OpenSpec.ofChange commitPacesSpec)

/-- ITS FALSE NEIGHBOUR: 'it returns false'. Refute it at one input. -/
def commitPacesWrong : ChangeSpec := { name := "commitPaces", fn := fun _ => fun
  | [d1, d2, d3] => { results := [.lit (.bool false)], args := [d1, d2, d3] }
  | _ => none }
def CommitPacesWrongFalsely : Prop := commitPacesRow.holds Tryz.pinned (OpenSpec.ofChange commitPacesWrong)

/-- 'entrepotlaw18.CommitPlays': WHATEVER THE INPUT: true; the input reads as it did. -/
def commitPlaysSpec : ChangeSpec := { name := "commitPlays", fn := fun _ => fun
  | [d1, d2, d3, d4] => { results := [.lit (.bool true)], args := [d1, d2, d3, d4] }
  | _ => none }
def commitPlaysRow : OpenClaim := { program := "ytibnehaibgbliaagreat", sum := "36f573ae5157436f29339f500422fb711482f50578a985c8bbc373ef305d06e3", func := "entrepot/entrepotlaw18.CommitPlays", spec := "commitPlays", inPlace := ["internal/bytealg.IndexByteString", "internal/bytealg.IndexString", "slices.overlaps[entrepot/api.Mark]", "slices.overlaps[entrepot/api.Owner]"], unfollowed := true, recurses := true, named := ["internal/bytealg.MaxLen"], apart := false }
def CommitPlaysSaid : Prop := commitPlaysRow.holds Tryz.pinned (OpenSpec.ofChange commitPlaysSpec)

/-- ITS FALSE NEIGHBOUR: 'it returns false'. Refute it at one input. -/
def commitPlaysWrong : ChangeSpec := { name := "commitPlays", fn := fun _ => fun
  | [d1, d2, d3, d4] => { results := [.lit (.bool false)], args := [d1, d2, d3, d4] }
  | _ => none }
def CommitPlaysWrongFalsely : Prop := commitPlaysRow.holds Tryz.pinned (OpenSpec.ofChange commitPlaysWrong)

/-- 'entrepotlaw18.CommitOnce': WHATEVER THE INPUT: true; the input reads as it did. -/
def commitOnceSpec : ChangeSpec := { name := "commitOnce", fn := fun _ => fun
  | [d1, d2, d3, d4] => { results := [.lit (.bool true)], args := [d1, d2, d3, d4] }
  | _ => none }
def commitOnceRow : OpenClaim := { program := "ytibnehaibgbliaagreat", sum := "36f573ae5157436f29339f500422fb711482f50578a985c8bbc373ef305d06e3", func := "entrepot/entrepotlaw18.CommitOnce", spec := "commitOnce", inPlace := ["internal/bytealg.IndexByteString", "internal/bytealg.IndexString", "slices.overlaps[entrepot/api.Mark]", "slices.overlaps[entrepot/api.Owner]"], unfollowed := true, recurses := true, named := ["internal/bytealg.MaxLen"], apart := false }
def CommitOnceSaid : Prop := commitOnceRow.holds Tryz.pinned (OpenSpec.ofChange commitOnceSpec)

/-- ITS FALSE NEIGHBOUR: 'it returns false'. Refute it at one input. -/
def commitOnceWrong : ChangeSpec := { name := "commitOnce", fn := fun _ => fun
  | [d1, d2, d3, d4] => { results := [.lit (.bool false)], args := [d1, d2, d3, d4] }
  | _ => none }
def CommitOnceWrongFalsely : Prop := commitOnceRow.holds Tryz.pinned (OpenSpec.ofChange commitOnceWrong)

/-- 'entrepotlaw18.CommitCalm': WHATEVER THE INPUT: true; the input reads as it did. -/
def commitCalmSpec : ChangeSpec := { name := "commitCalm", fn := fun _ => fun
  | [d1, d2, d3] => { results := [.lit (.bool true)], args := [d1, d2, d3] }
  | _ => none }
def commitCalmRow : OpenClaim := { program := "ytibnehaibgbliaagreat", sum := "36f573ae5157436f29339f500422fb711482f50578a985c8bbc373ef305d06e3", func := "entrepot/entrepotlaw18.CommitCalm", spec := "commitCalm", inPlace := ["internal/bytealg.IndexByteString", "internal/bytealg.IndexString", "slices.overlaps[entrepot/api.Mark]", "slices.overlaps[entrepot/api.Owner]"], unfollowed := true, recurses := true, named := ["internal/bytealg.MaxLen"], apart := false }
def CommitCalmSaid : Prop := commitCalmRow.holds Tryz.pinned (OpenSpec.ofChange commitCalmSpec)

/-- ITS FALSE NEIGHBOUR: 'it returns false'. Refute it at one input. -/
def commitCalmWrong : ChangeSpec := { name := "commitCalm", fn := fun _ => fun
  | [d1, d2, d3] => { results := [.lit (.bool false)], args := [d1, d2, d3] }
  | _ => none }
def CommitCalmWrongFalsely : Prop := commitCalmRow.holds Tryz.pinned (OpenSpec.ofChange commitCalmWrong)

/- THE SECOND FORM. 'bulk': how many values and letters a reading holds, each counted each time it is reached (what is shared counts as often as it is met; a slice's spare places count too). A statement '..UptoSaid' is the law's where the arguments, and the package variables that the reading takes, are together of bulk at most 1048576: NARROWER than '..Said'. Prove '..Said' where nothing that the law and all that it calls make is longer than what came in: it says more and counts as full. Else prove '..UptoSaid'. A law counts once. -/
mutual
def uptoBulk {H : Type} : DataW H → Nat
  | .lit (.string bytes) => bytes.length + 1
  | .lit _ => 1
  | .nil => 1
  | .ptr d => uptoBulk d + 1
  | .slice elems spare => uptoBulkAll elems + uptoBulkAll spare + 1
  | .agg parts => uptoBulkAll parts + 1
  | .iface _ d => uptoBulk d + 1
  | .map entries => uptoBulkEntries entries + 1
  | .held _ => 1
def uptoBulkAll {H : Type} : List (DataW H) → Nat
  | [] => 0
  | d :: r => uptoBulk d + uptoBulkAll r
def uptoBulkEntries {H : Type} : List (Lit × DataW H) → Nat
  | [] => 0
  | x :: r => uptoBulkEntry x + uptoBulkEntries r
def uptoBulkEntry {H : Type} : Lit × DataW H → Nat
  | (.string bytes, d) => bytes.length + uptoBulk d + 1
  | (_, d) => uptoBulk d + 1
 end
def uptoSmall : (H : Type) → List (DataW H) → Bool := fun _ ds => decide (uptoBulkAll ds ≤ 1048576)
def OpenSpec.upto (s : _root_.Go.ChangeSpec) : _root_.Go.OpenSpec := { _root_.Go.OpenSpec.ofChange s with cond := some uptoSmall }

/-- 'entrepotlaw18.CommitPaces', WHERE WHAT IT READS IS OF BULK AT MOST 1048576: true; the input reads as it did. -/
def commitPacesUptoRow : OpenClaim := { program := "ytibnehaibgbliaagreat", sum := "36f573ae5157436f29339f500422fb711482f50578a985c8bbc373ef305d06e3", func := "entrepot/entrepotlaw18.CommitPaces", spec := "commitPaces", inPlace := ["internal/bytealg.IndexByteString", "internal/bytealg.IndexString", "slices.overlaps[entrepot/api.Mark]", "slices.overlaps[entrepot/api.Owner]"], unfollowed := true, recurses := true, named := ["internal/bytealg.MaxLen"], apart := false, narrowed := true }
def CommitPacesUptoSaid : Prop := commitPacesUptoRow.holds Tryz.pinned (OpenSpec.upto commitPacesSpec)

/-- 'entrepotlaw18.CommitPlays', WHERE WHAT IT READS IS OF BULK AT MOST 1048576: true; the input reads as it did. -/
def commitPlaysUptoRow : OpenClaim := { program := "ytibnehaibgbliaagreat", sum := "36f573ae5157436f29339f500422fb711482f50578a985c8bbc373ef305d06e3", func := "entrepot/entrepotlaw18.CommitPlays", spec := "commitPlays", inPlace := ["internal/bytealg.IndexByteString", "internal/bytealg.IndexString", "slices.overlaps[entrepot/api.Mark]", "slices.overlaps[entrepot/api.Owner]"], unfollowed := true, recurses := true, named := ["internal/bytealg.MaxLen"], apart := false, narrowed := true }
def CommitPlaysUptoSaid : Prop := commitPlaysUptoRow.holds Tryz.pinned (OpenSpec.upto commitPlaysSpec)

/-- 'entrepotlaw18.CommitOnce', WHERE WHAT IT READS IS OF BULK AT MOST 1048576: true; the input reads as it did. -/
def commitOnceUptoRow : OpenClaim := { program := "ytibnehaibgbliaagreat", sum := "36f573ae5157436f29339f500422fb711482f50578a985c8bbc373ef305d06e3", func := "entrepot/entrepotlaw18.CommitOnce", spec := "commitOnce", inPlace := ["internal/bytealg.IndexByteString", "internal/bytealg.IndexString", "slices.overlaps[entrepot/api.Mark]", "slices.overlaps[entrepot/api.Owner]"], unfollowed := true, recurses := true, named := ["internal/bytealg.MaxLen"], apart := false, narrowed := true }
def CommitOnceUptoSaid : Prop := commitOnceUptoRow.holds Tryz.pinned (OpenSpec.upto commitOnceSpec)

/-- 'entrepotlaw18.CommitCalm', WHERE WHAT IT READS IS OF BULK AT MOST 1048576: true; the input reads as it did. -/
def commitCalmUptoRow : OpenClaim := { program := "ytibnehaibgbliaagreat", sum := "36f573ae5157436f29339f500422fb711482f50578a985c8bbc373ef305d06e3", func := "entrepot/entrepotlaw18.CommitCalm", spec := "commitCalm", inPlace := ["internal/bytealg.IndexByteString", "internal/bytealg.IndexString", "slices.overlaps[entrepot/api.Mark]", "slices.overlaps[entrepot/api.Owner]"], unfollowed := true, recurses := true, named := ["internal/bytealg.MaxLen"], apart := false, narrowed := true }
def CommitCalmUptoSaid : Prop := commitCalmUptoRow.holds Tryz.pinned (OpenSpec.upto commitCalmSpec)

end Rows
end Go.Proofs.YtibnehaibgbliaaGreat
