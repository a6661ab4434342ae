/-
  No cell of these rows narrows 'for every input' (looked for: loops, veiled, ifaces, maps, wideKeys, modest, calm, conditions, laid).
  DERIVED. THE GIVEN ROWS OF THIS SEAT. 5 by the template 'for every input the law returns true; each argument reads behind the call as it read before'; 0 by the template 'total and deterministic' (their statements: YtjbmlhipjceeeaaGreatTotals.lean).
  GIVEN WITH THE SEED: the statements are not yours to turn. If you find one false, say at which input.
  Laid BY PROGRAM, IN A SANDBOX (cutbox-rows.mjs): the forced cells as the released guide's own fill.sh prints them over the translation c91056e96b23ecbe… (all of the seat's roots in one cut). By AI agents, Wed Nov 11 2026. No macro, syntax, notation, axiom, sorry.
-/
import Derived.Test.YtjbmlhipjceeeaaGreatChecked
import GoSem.Claim
import GoSem.ClaimJoined
import GoSem.ClaimMapViews
import Derived.JoinedTies
import Derived.KernelRfl
namespace Go.Proofs.YtjbmlhipjceeeaaGreat
/- THE CELL 'sum', in the pinned program and in every row, IS THE sha256 OF THE DUMP (.gsa) THAT YtjbmlhipjceeeaaGreatProg.lean LOADS. Nothing in Lean hashes anything: it is a label: what it is worth is what the hold of that sum in a sandbox is worth. -/
noncomputable def Tryz.pinned : Pinned := { name := "ytjbmlhipjceeeaagreat", sum := "c91056e96b23ecbef13519bc9a876599a4ef2210edd2fdc5f0b88c9e58d2c47c", checked := Tryz.checked }
namespace Rows
def none {H : Type} : Left H := { results := [], args := [] }

/-- 'entrepotlaw13.ManifestApplies': WHATEVER THE INPUT: true; the input reads as it did. -/
def manifestAppliesSpec : ChangeSpec := { name := "manifestApplies", fn := fun _ => fun
  | [d1, d2] => { results := [.lit (.bool true)], args := [d1, d2] }
  | _ => none }
def manifestAppliesRow : OpenClaim := { program := "ytjbmlhipjceeeaagreat", sum := "c91056e96b23ecbef13519bc9a876599a4ef2210edd2fdc5f0b88c9e58d2c47c", func := "entrepot/entrepotlaw13.ManifestApplies", spec := "manifestApplies", inPlace := ["internal/bytealg.IndexByteString", "internal/bytealg.IndexString", "slices.overlaps[entrepot/api.Mark]", "slices.overlaps[entrepot/api.Owner]"], unfollowed := true, recurses := true, named := ["internal/bytealg.MaxLen"], apart := false }
def ManifestAppliesSaid : Prop := manifestAppliesRow.holds Tryz.pinned (OpenSpec.ofChange manifestAppliesSpec)

/-- ITS FALSE NEIGHBOUR: 'it returns false'. Refute it at one input. -/
def manifestAppliesWrong : ChangeSpec := { name := "manifestApplies", fn := fun _ => fun
  | [d1, d2] => { results := [.lit (.bool false)], args := [d1, d2] }
  | _ => none }
def ManifestAppliesWrongFalsely : Prop := manifestAppliesRow.holds Tryz.pinned (OpenSpec.ofChange manifestAppliesWrong)

/-- 'entrepotlaw13.ManifestCodes': WHATEVER THE INPUT: true; the input reads as it did. -/
def manifestCodesSpec : ChangeSpec := { name := "manifestCodes", fn := fun _ => fun
  | [d] => { results := [.lit (.bool true)], args := [d] }
  | _ => none }
def manifestCodesRow : OpenClaim := { program := "ytjbmlhipjceeeaagreat", sum := "c91056e96b23ecbef13519bc9a876599a4ef2210edd2fdc5f0b88c9e58d2c47c", func := "entrepot/entrepotlaw13.ManifestCodes", spec := "manifestCodes", inPlace := ["internal/bytealg.IndexByteString", "internal/bytealg.IndexString", "slices.overlaps[entrepot/api.Mark]", "slices.overlaps[entrepot/api.Owner]"], unfollowed := true, recurses := true, named := ["internal/bytealg.MaxLen"], apart := false }
def ManifestCodesSaid : Prop := manifestCodesRow.holds Tryz.pinned (OpenSpec.ofChange manifestCodesSpec)

/-- ITS FALSE NEIGHBOUR: 'it returns false'. Refute it at one input. -/
def manifestCodesWrong : ChangeSpec := { name := "manifestCodes", fn := fun _ => fun
  | [d] => { results := [.lit (.bool false)], args := [d] }
  | _ => none }
def ManifestCodesWrongFalsely : Prop := manifestCodesRow.holds Tryz.pinned (OpenSpec.ofChange manifestCodesWrong)

/-- 'entrepotlaw13.ManifestReads': WHATEVER THE INPUT: true; the input reads as it did. -/
def manifestReadsSpec : ChangeSpec := { name := "manifestReads", fn := fun _ => fun
  | [d] => { results := [.lit (.bool true)], args := [d] }
  | _ => none }
def manifestReadsRow : OpenClaim := { program := "ytjbmlhipjceeeaagreat", sum := "c91056e96b23ecbef13519bc9a876599a4ef2210edd2fdc5f0b88c9e58d2c47c", func := "entrepot/entrepotlaw13.ManifestReads", spec := "manifestReads", inPlace := ["internal/bytealg.IndexByteString", "internal/bytealg.IndexString", "slices.overlaps[entrepot/api.Mark]", "slices.overlaps[entrepot/api.Owner]"], unfollowed := true, recurses := true, named := ["internal/bytealg.MaxLen"], apart := false }
def ManifestReadsSaid : Prop := manifestReadsRow.holds Tryz.pinned (OpenSpec.ofChange manifestReadsSpec)

/-- ITS FALSE NEIGHBOUR: 'it returns false'. Refute it at one input. -/
def manifestReadsWrong : ChangeSpec := { name := "manifestReads", fn := fun _ => fun
  | [d] => { results := [.lit (.bool false)], args := [d] }
  | _ => none }
def ManifestReadsWrongFalsely : Prop := manifestReadsRow.holds Tryz.pinned (OpenSpec.ofChange manifestReadsWrong)

/-- 'entrepotlaw13.ManifestBack': WHATEVER THE INPUT: true; the input reads as it did. -/
def manifestBackSpec : ChangeSpec := { name := "manifestBack", fn := fun _ => fun
  | [d1, d2] => { results := [.lit (.bool true)], args := [d1, d2] }
  | _ => none }
def manifestBackRow : OpenClaim := { program := "ytjbmlhipjceeeaagreat", sum := "c91056e96b23ecbef13519bc9a876599a4ef2210edd2fdc5f0b88c9e58d2c47c", func := "entrepot/entrepotlaw13.ManifestBack", spec := "manifestBack", inPlace := ["internal/bytealg.IndexByteString", "internal/bytealg.IndexString", "slices.overlaps[entrepot/api.Mark]", "slices.overlaps[entrepot/api.Owner]"], unfollowed := true, recurses := true, named := ["internal/bytealg.MaxLen"], apart := false }
def ManifestBackSaid : Prop := manifestBackRow.holds Tryz.pinned (OpenSpec.ofChange manifestBackSpec)

/-- ITS FALSE NEIGHBOUR: 'it returns false'. Refute it at one input. -/
def manifestBackWrong : ChangeSpec := { name := "manifestBack", fn := fun _ => fun
  | [d1, d2] => { results := [.lit (.bool false)], args := [d1, d2] }
  | _ => none }
def ManifestBackWrongFalsely : Prop := manifestBackRow.holds Tryz.pinned (OpenSpec.ofChange manifestBackWrong)

/-- 'entrepotlaw13.ManifestChain': WHATEVER THE INPUT: true; the input reads as it did. -/
def manifestChainSpec : ChangeSpec := { name := "manifestChain", fn := fun _ => fun
  | [d] => { results := [.lit (.bool true)], args := [d] }
  | _ => none }
def manifestChainRow : OpenClaim := { program := "ytjbmlhipjceeeaagreat", sum := "c91056e96b23ecbef13519bc9a876599a4ef2210edd2fdc5f0b88c9e58d2c47c", func := "entrepot/entrepotlaw13.ManifestChain", spec := "manifestChain", inPlace := ["internal/bytealg.IndexByteString", "internal/bytealg.IndexString", "slices.overlaps[entrepot/api.Mark]", "slices.overlaps[entrepot/api.Owner]"], unfollowed := true, recurses := true, named := ["internal/bytealg.MaxLen"], apart := false }
def ManifestChainSaid : Prop := manifestChainRow.holds Tryz.pinned (OpenSpec.ofChange manifestChainSpec)

/-- ITS FALSE NEIGHBOUR: 'it returns false'. Refute it at one input. -/
def manifestChainWrong : ChangeSpec := { name := "manifestChain", fn := fun _ => fun
  | [d] => { results := [.lit (.bool false)], args := [d] }
  | _ => none }
def ManifestChainWrongFalsely : Prop := manifestChainRow.holds Tryz.pinned (OpenSpec.ofChange manifestChainWrong)

/- THE SECOND FORM. 'bulk': how many values and letters a reading holds, each counted each time it is reached (what is shared counts as often as it is met; a slice's spare places count too). A statement '..UptoSaid' is the law's where the arguments, and the package variables that the reading takes, are together of bulk at most 1048576: NARROWER than '..Said'. Prove '..Said' where nothing that the law and all that it calls make is longer than what came in: it says more and counts as full. Else prove '..UptoSaid'. A law counts once. -/
mutual
def uptoBulk {H : Type} : DataW H → Nat
  | .lit (.string bytes) => bytes.length + 1
  | .lit _ => 1
  | .nil => 1
  | .ptr d => uptoBulk d + 1
  | .slice elems spare => uptoBulkAll elems + uptoBulkAll spare + 1
  | .agg parts => uptoBulkAll parts + 1
  | .iface _ d => uptoBulk d + 1
  | .map entries => uptoBulkEntries entries + 1
  | .held _ => 1
def uptoBulkAll {H : Type} : List (DataW H) → Nat
  | [] => 0
  | d :: r => uptoBulk d + uptoBulkAll r
def uptoBulkEntries {H : Type} : List (Lit × DataW H) → Nat
  | [] => 0
  | x :: r => uptoBulkEntry x + uptoBulkEntries r
def uptoBulkEntry {H : Type} : Lit × DataW H → Nat
  | (.string bytes, d) => bytes.length + uptoBulk d + 1
  | (_, d) => uptoBulk d + 1
 end
def uptoSmall : (H : Type) → List (DataW H) → Bool := fun _ ds => decide (uptoBulkAll ds ≤ 1048576)
def OpenSpec.upto (s : _root_.Go.ChangeSpec) : _root_.Go.OpenSpec := { _root_.Go.OpenSpec.ofChange s with cond := some uptoSmall }

/-- 'entrepotlaw13.ManifestApplies', WHERE WHAT IT READS IS OF BULK AT MOST 1048576: true; the input reads as it did. -/
def manifestAppliesUptoRow : OpenClaim := { program := "ytjbmlhipjceeeaagreat", sum := "c91056e96b23ecbef13519bc9a876599a4ef2210edd2fdc5f0b88c9e58d2c47c", func := "entrepot/entrepotlaw13.ManifestApplies", spec := "manifestApplies", inPlace := ["internal/bytealg.IndexByteString", "internal/bytealg.IndexString", "slices.overlaps[entrepot/api.Mark]", "slices.overlaps[entrepot/api.Owner]"], unfollowed := true, recurses := true, named := ["internal/bytealg.MaxLen"], apart := false, narrowed := true }
def ManifestAppliesUptoSaid : Prop := manifestAppliesUptoRow.holds Tryz.pinned (OpenSpec.upto manifestAppliesSpec)

/-- 'entrepotlaw13.ManifestCodes', WHERE WHAT IT READS IS OF BULK AT MOST 1048576: true; the input reads as it did. -/
def manifestCodesUptoRow : OpenClaim := { program := "ytjbmlhipjceeeaagreat", sum := "c91056e96b23ecbef13519bc9a876599a4ef2210edd2fdc5f0b88c9e58d2c47c", func := "entrepot/entrepotlaw13.ManifestCodes", spec := "manifestCodes", inPlace := ["internal/bytealg.IndexByteString", "internal/bytealg.IndexString", "slices.overlaps[entrepot/api.Mark]", "slices.overlaps[entrepot/api.Owner]"], unfollowed := true, recurses := true, named := ["internal/bytealg.MaxLen"], apart := false, narrowed := true }
def ManifestCodesUptoSaid : Prop := manifestCodesUptoRow.holds Tryz.pinned (OpenSpec.upto manifestCodesSpec)

/-- 'entrepotlaw13.ManifestReads', WHERE WHAT IT READS IS OF BULK AT MOST 1048576: true; the input reads as it did. -/
def manifestReadsUptoRow : OpenClaim := { program := "ytjbmlhipjceeeaagreat", sum := "c91056e96b23ecbef13519bc9a876599a4ef2210edd2fdc5f0b88c9e58d2c47c", func := "entrepot/entrepotlaw13.ManifestReads", spec := "manifestReads", inPlace := ["internal/bytealg.IndexByteString", "internal/bytealg.IndexString", "slices.overlaps[entrepot/api.Mark]", "slices.overlaps[entrepot/api.Owner]"], unfollowed := true, recurses := true, named := ["internal/bytealg.MaxLen"], apart := false, narrowed := true }
def ManifestReadsUptoSaid : Prop := manifestReadsUptoRow.holds Tryz.pinned (OpenSpec.upto manifestReadsSpec)

/-- 'entrepotlaw13.ManifestBack', WHERE WHAT IT READS IS OF BULK AT MOST 1048576: true; the input reads as it did. -/
def manifestBackUptoRow : OpenClaim := { program := "ytjbmlhipjceeeaagreat", sum := "c91056e96b23ecbef13519bc9a876599a4ef2210edd2fdc5f0b88c9e58d2c47c", func := "entrepot/entrepotlaw13.ManifestBack", spec := "manifestBack", inPlace := ["internal/bytealg.IndexByteString", "internal/bytealg.IndexString", "slices.overlaps[entrepot/api.Mark]", "slices.overlaps[entrepot/api.Owner]"], unfollowed := true, recurses := true, named := ["internal/bytealg.MaxLen"], apart := false, narrowed := true }
def ManifestBackUptoSaid : Prop := manifestBackUptoRow.holds Tryz.pinned (OpenSpec.upto manifestBackSpec)

/-- 'entrepotlaw13.ManifestChain', WHERE WHAT IT READS IS OF BULK AT MOST 1048576: true; the input reads as it did. -/
def manifestChainUptoRow : OpenClaim := { program := "ytjbmlhipjceeeaagreat", sum := "c91056e96b23ecbef13519bc9a876599a4ef2210edd2fdc5f0b88c9e58d2c47c", func := "entrepot/entrepotlaw13.ManifestChain", spec := "manifestChain", inPlace := ["internal/bytealg.IndexByteString", "internal/bytealg.IndexString", "slices.overlaps[entrepot/api.Mark]", "slices.overlaps[entrepot/api.Owner]"], unfollowed := true, recurses := true, named := ["internal/bytealg.MaxLen"], apart := false, narrowed := true }
def ManifestChainUptoSaid : Prop := manifestChainUptoRow.holds Tryz.pinned (OpenSpec.upto manifestChainSpec)

end Rows
end Go.Proofs.YtjbmlhipjceeeaaGreat
