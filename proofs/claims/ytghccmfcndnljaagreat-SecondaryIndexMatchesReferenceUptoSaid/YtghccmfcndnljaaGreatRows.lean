/-
  No cell of these rows narrows 'for every input' (looked for: loops, veiled, ifaces, maps, wideKeys, modest, calm, conditions, laid).
  DERIVED. THE GIVEN ROWS OF THIS SEAT. 2 by the template 'for every input the law returns true; each argument reads behind the call as it read before'; 0 by the template 'total and deterministic' (their statements: YtghccmfcndnljaaGreatTotals.lean).
  GIVEN WITH THE SEED: the statements are not yours to turn. If you find one false, say at which input.
  Laid BY PROGRAM, IN A SANDBOX (cutbox-rows.mjs): the forced cells as the released guide's own fill.sh prints them over the translation 5976e140f6f654fd… (all of the seat's roots in one cut). By AI agents, Wed Nov 11 2026. No macro, syntax, notation, axiom, sorry.
-/
import Derived.Test.YtghccmfcndnljaaGreatChecked
import GoSem.Claim
import GoSem.ClaimJoined
import GoSem.ClaimMapViews
import Derived.JoinedTies
import Derived.KernelRfl
namespace Go.Proofs.YtghccmfcndnljaaGreat
/- THE CELL 'sum', in the pinned program and in every row, IS THE sha256 OF THE DUMP (.gsa) THAT YtghccmfcndnljaaGreatProg.lean LOADS. Nothing in Lean hashes anything: it is a label: what it is worth is what the hold of that sum in a sandbox is worth. -/
noncomputable def Tryz.pinned : Pinned := { name := "ytghccmfcndnljaagreat", sum := "5976e140f6f654fda12956b9aa6323eb1ac56671625ab329493389c0878d7154", checked := Tryz.checked }
namespace Rows
def none {H : Type} : Left H := { results := [], args := [] }

/-- 'stemlaw4.SecondaryBuildMatchesReference': WHATEVER THE INPUT: true; the input reads as it did. -/
def secondaryBuildMatchesReferenceSpec : ChangeSpec := { name := "secondaryBuildMatchesReference", fn := fun _ => fun
  | [d1, d2, d3] => { results := [.lit (.bool true)], args := [d1, d2, d3] }
  | _ => none }
def secondaryBuildMatchesReferenceRow : OpenClaim := { program := "ytghccmfcndnljaagreat", sum := "5976e140f6f654fda12956b9aa6323eb1ac56671625ab329493389c0878d7154", func := "stemma/stemlaw4.SecondaryBuildMatchesReference", spec := "secondaryBuildMatchesReference", inPlace := ["internal/bytealg.abigen_runtime_cmpstring", "slices.overlaps[stemma/secondary.Entry]", "slices.overlaps[stemma/api.Row]", "internal/reflectlite.ValueOf", "internal/reflectlite.Swapper", "(internal/reflectlite.Value).Len"], unfollowed := true, recurses := true, apart := false }
def SecondaryBuildMatchesReferenceSaid : Prop := secondaryBuildMatchesReferenceRow.holds Tryz.pinned (OpenSpec.ofChange secondaryBuildMatchesReferenceSpec)

/-- ITS FALSE NEIGHBOUR: 'it returns false'. Refute it at one input. -/
def secondaryBuildMatchesReferenceWrong : ChangeSpec := { name := "secondaryBuildMatchesReference", fn := fun _ => fun
  | [d1, d2, d3] => { results := [.lit (.bool false)], args := [d1, d2, d3] }
  | _ => none }
def SecondaryBuildMatchesReferenceWrongFalsely : Prop := secondaryBuildMatchesReferenceRow.holds Tryz.pinned (OpenSpec.ofChange secondaryBuildMatchesReferenceWrong)

/-- 'stemlaw4.SecondaryIndexMatchesReference': WHATEVER THE INPUT: true; the input reads as it did. -/
def secondaryIndexMatchesReferenceSpec : ChangeSpec := { name := "secondaryIndexMatchesReference", fn := fun _ => fun
  | [d1, d2, d3, d4] => { results := [.lit (.bool true)], args := [d1, d2, d3, d4] }
  | _ => none }
def secondaryIndexMatchesReferenceRow : OpenClaim := { program := "ytghccmfcndnljaagreat", sum := "5976e140f6f654fda12956b9aa6323eb1ac56671625ab329493389c0878d7154", func := "stemma/stemlaw4.SecondaryIndexMatchesReference", spec := "secondaryIndexMatchesReference", inPlace := ["internal/bytealg.abigen_runtime_cmpstring", "slices.overlaps[stemma/secondary.Entry]", "slices.overlaps[stemma/api.Row]", "internal/reflectlite.ValueOf", "internal/reflectlite.Swapper", "(internal/reflectlite.Value).Len"], unfollowed := true, recurses := true, apart := false }
def SecondaryIndexMatchesReferenceSaid : Prop := secondaryIndexMatchesReferenceRow.holds Tryz.pinned (OpenSpec.ofChange secondaryIndexMatchesReferenceSpec)

/-- ITS FALSE NEIGHBOUR: 'it returns false'. Refute it at one input. -/
def secondaryIndexMatchesReferenceWrong : ChangeSpec := { name := "secondaryIndexMatchesReference", fn := fun _ => fun
  | [d1, d2, d3, d4] => { results := [.lit (.bool false)], args := [d1, d2, d3, d4] }
  | _ => none }
def SecondaryIndexMatchesReferenceWrongFalsely : Prop := secondaryIndexMatchesReferenceRow.holds Tryz.pinned (OpenSpec.ofChange secondaryIndexMatchesReferenceWrong)

/- THE SECOND FORM. 'bulk': how many values and letters a reading holds, each counted each time it is reached (what is shared counts as often as it is met; a slice's spare places count too). A statement '..UptoSaid' is the law's where the arguments, and the package variables that the reading takes, are together of bulk at most 1048576: NARROWER than '..Said'. Prove '..Said' where nothing that the law and all that it calls make is longer than what came in: it says more and counts as full. Else prove '..UptoSaid'. A law counts once. -/
mutual
def uptoBulk {H : Type} : DataW H → Nat
  | .lit (.string bytes) => bytes.length + 1
  | .lit _ => 1
  | .nil => 1
  | .ptr d => uptoBulk d + 1
  | .slice elems spare => uptoBulkAll elems + uptoBulkAll spare + 1
  | .agg parts => uptoBulkAll parts + 1
  | .iface _ d => uptoBulk d + 1
  | .map entries => uptoBulkEntries entries + 1
  | .held _ => 1
def uptoBulkAll {H : Type} : List (DataW H) → Nat
  | [] => 0
  | d :: r => uptoBulk d + uptoBulkAll r
def uptoBulkEntries {H : Type} : List (Lit × DataW H) → Nat
  | [] => 0
  | x :: r => uptoBulkEntry x + uptoBulkEntries r
def uptoBulkEntry {H : Type} : Lit × DataW H → Nat
  | (.string bytes, d) => bytes.length + uptoBulk d + 1
  | (_, d) => uptoBulk d + 1
 end
def uptoSmall : (H : Type) → List (DataW H) → Bool := fun _ ds => decide (uptoBulkAll ds ≤ 1048576)
def OpenSpec.upto (s : _root_.Go.ChangeSpec) : _root_.Go.OpenSpec := { _root_.Go.OpenSpec.ofChange s with cond := some uptoSmall }

/-- 'stemlaw4.SecondaryBuildMatchesReference', WHERE WHAT IT READS IS OF BULK AT MOST 1048576: true; the input reads as it did. -/
def secondaryBuildMatchesReferenceUptoRow : OpenClaim := { program := "ytghccmfcndnljaagreat", sum := "5976e140f6f654fda12956b9aa6323eb1ac56671625ab329493389c0878d7154", func := "stemma/stemlaw4.SecondaryBuildMatchesReference", spec := "secondaryBuildMatchesReference", inPlace := ["internal/bytealg.abigen_runtime_cmpstring", "slices.overlaps[stemma/secondary.Entry]", "slices.overlaps[stemma/api.Row]", "internal/reflectlite.ValueOf", "internal/reflectlite.Swapper", "(internal/reflectlite.Value).Len"], unfollowed := true, recurses := true, apart := false, narrowed := true }
def SecondaryBuildMatchesReferenceUptoSaid : Prop := secondaryBuildMatchesReferenceUptoRow.holds Tryz.pinned (OpenSpec.upto secondaryBuildMatchesReferenceSpec)

/-- 'stemlaw4.SecondaryIndexMatchesReference', WHERE WHAT IT READS IS OF BULK AT MOST 1048576: true; the input reads as it did. -/
def secondaryIndexMatchesReferenceUptoRow : OpenClaim := { program := "ytghccmfcndnljaagreat", sum := "5976e140f6f654fda12956b9aa6323eb1ac56671625ab329493389c0878d7154", func := "stemma/stemlaw4.SecondaryIndexMatchesReference", spec := "secondaryIndexMatchesReference", inPlace := ["internal/bytealg.abigen_runtime_cmpstring", "slices.overlaps[stemma/secondary.Entry]", "slices.overlaps[stemma/api.Row]", "internal/reflectlite.ValueOf", "internal/reflectlite.Swapper", "(internal/reflectlite.Value).Len"], unfollowed := true, recurses := true, apart := false, narrowed := true }
def SecondaryIndexMatchesReferenceUptoSaid : Prop := secondaryIndexMatchesReferenceUptoRow.holds Tryz.pinned (OpenSpec.upto secondaryIndexMatchesReferenceSpec)

end Rows
end Go.Proofs.YtghccmfcndnljaaGreat
