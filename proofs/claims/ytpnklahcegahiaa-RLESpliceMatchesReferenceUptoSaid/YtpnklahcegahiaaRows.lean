/-
  No cell of these rows narrows 'for every input' (looked for: loops, veiled, ifaces, maps, wideKeys, modest, calm, conditions, laid).
  DERIVED. THE GIVEN ROWS OF THIS SEAT. 6 by the template 'for every input the law returns true; each argument reads behind the call as it read before'; 0 by the template 'total and deterministic' (their statements: YtpnklahcegahiaaTotals.lean).
  GIVEN WITH THE SEED: the statements are not yours to turn. If you find one false, say at which input.
  Laid BY PROGRAM, IN A SANDBOX (cutbox-rows.mjs): the forced cells as the released guide's own fill.sh prints them over the translation 187b1e1106a46730… (all of the seat's roots in one cut). By AI agents, Wed Nov 11 2026. No macro, syntax, notation, axiom, sorry.
-/
import Derived.Test.YtpnklahcegahiaaChecked
import GoSem.Claim
import GoSem.ClaimJoined
import GoSem.ClaimMapViews
import Derived.JoinedTies
import Derived.KernelRfl
namespace Go.Proofs.Ytpnklahcegahiaa
/- THE CELL 'sum', in the pinned program and in every row, IS THE sha256 OF THE DUMP (.gsa) THAT YtpnklahcegahiaaProg.lean LOADS. Nothing in Lean hashes anything: it is a label: what it is worth is what the hold of that sum in a sandbox is worth. -/
noncomputable def Try.pinned : Pinned := { name := "ytpnklahcegahiaa", sum := "187b1e1106a4673013dc75aa9ab95204a5fd5c8a79be3105b51dc5b8fad9df56", checked := Try.checked }
namespace Rows
def none {H : Type} : Left H := { results := [], args := [] }

/-- 'stemlaw4.BitmapConstructionMatchesReference': WHATEVER THE INPUT: true; the input reads as it did. -/
def bitmapConstructionMatchesReferenceSpec : ChangeSpec := { name := "bitmapConstructionMatchesReference", fn := fun _ => fun
  | [d1, d2] => { results := [.lit (.bool true)], args := [d1, d2] }
  | _ => none }
def bitmapConstructionMatchesReferenceRow : OpenClaim := { program := "ytpnklahcegahiaa", sum := "187b1e1106a4673013dc75aa9ab95204a5fd5c8a79be3105b51dc5b8fad9df56", func := "stemma/stemlaw4.BitmapConstructionMatchesReference", spec := "bitmapConstructionMatchesReference", apart := false }
def BitmapConstructionMatchesReferenceSaid : Prop := bitmapConstructionMatchesReferenceRow.holds Try.pinned (OpenSpec.ofChange bitmapConstructionMatchesReferenceSpec)

/-- ITS FALSE NEIGHBOUR: 'it returns false'. Refute it at one input. -/
def bitmapConstructionMatchesReferenceWrong : ChangeSpec := { name := "bitmapConstructionMatchesReference", fn := fun _ => fun
  | [d1, d2] => { results := [.lit (.bool false)], args := [d1, d2] }
  | _ => none }
def BitmapConstructionMatchesReferenceWrongFalsely : Prop := bitmapConstructionMatchesReferenceRow.holds Try.pinned (OpenSpec.ofChange bitmapConstructionMatchesReferenceWrong)

/-- 'stemlaw4.BitmapOperationsMatchReference': WHATEVER THE INPUT: true; the input reads as it did. -/
def bitmapOperationsMatchReferenceSpec : ChangeSpec := { name := "bitmapOperationsMatchReference", fn := fun _ => fun
  | [d1, d2] => { results := [.lit (.bool true)], args := [d1, d2] }
  | _ => none }
def bitmapOperationsMatchReferenceRow : OpenClaim := { program := "ytpnklahcegahiaa", sum := "187b1e1106a4673013dc75aa9ab95204a5fd5c8a79be3105b51dc5b8fad9df56", func := "stemma/stemlaw4.BitmapOperationsMatchReference", spec := "bitmapOperationsMatchReference", unfollowed := true, recurses := true, apart := false }
def BitmapOperationsMatchReferenceSaid : Prop := bitmapOperationsMatchReferenceRow.holds Try.pinned (OpenSpec.ofChange bitmapOperationsMatchReferenceSpec)

/-- ITS FALSE NEIGHBOUR: 'it returns false'. Refute it at one input. -/
def bitmapOperationsMatchReferenceWrong : ChangeSpec := { name := "bitmapOperationsMatchReference", fn := fun _ => fun
  | [d1, d2] => { results := [.lit (.bool false)], args := [d1, d2] }
  | _ => none }
def BitmapOperationsMatchReferenceWrongFalsely : Prop := bitmapOperationsMatchReferenceRow.holds Try.pinned (OpenSpec.ofChange bitmapOperationsMatchReferenceWrong)

/-- 'stemlaw4.SlottedPageReadMatchesReference': WHATEVER THE INPUT: true; the input reads as it did. -/
def slottedPageReadMatchesReferenceSpec : ChangeSpec := { name := "slottedPageReadMatchesReference", fn := fun _ => fun
  | [d1, d2] => { results := [.lit (.bool true)], args := [d1, d2] }
  | _ => none }
def slottedPageReadMatchesReferenceRow : OpenClaim := { program := "ytpnklahcegahiaa", sum := "187b1e1106a4673013dc75aa9ab95204a5fd5c8a79be3105b51dc5b8fad9df56", func := "stemma/stemlaw4.SlottedPageReadMatchesReference", spec := "slottedPageReadMatchesReference", apart := false }
def SlottedPageReadMatchesReferenceSaid : Prop := slottedPageReadMatchesReferenceRow.holds Try.pinned (OpenSpec.ofChange slottedPageReadMatchesReferenceSpec)

/-- ITS FALSE NEIGHBOUR: 'it returns false'. Refute it at one input. -/
def slottedPageReadMatchesReferenceWrong : ChangeSpec := { name := "slottedPageReadMatchesReference", fn := fun _ => fun
  | [d1, d2] => { results := [.lit (.bool false)], args := [d1, d2] }
  | _ => none }
def SlottedPageReadMatchesReferenceWrongFalsely : Prop := slottedPageReadMatchesReferenceRow.holds Try.pinned (OpenSpec.ofChange slottedPageReadMatchesReferenceWrong)

/-- 'stemlaw4.EncodingRowMatchesReference': WHATEVER THE INPUT: true; the input reads as it did. -/
def encodingRowMatchesReferenceSpec : ChangeSpec := { name := "encodingRowMatchesReference", fn := fun _ => fun
  | [d1, d2] => { results := [.lit (.bool true)], args := [d1, d2] }
  | _ => none }
def encodingRowMatchesReferenceRow : OpenClaim := { program := "ytpnklahcegahiaa", sum := "187b1e1106a4673013dc75aa9ab95204a5fd5c8a79be3105b51dc5b8fad9df56", func := "stemma/stemlaw4.EncodingRowMatchesReference", spec := "encodingRowMatchesReference", apart := false }
def EncodingRowMatchesReferenceSaid : Prop := encodingRowMatchesReferenceRow.holds Try.pinned (OpenSpec.ofChange encodingRowMatchesReferenceSpec)

/-- ITS FALSE NEIGHBOUR: 'it returns false'. Refute it at one input. -/
def encodingRowMatchesReferenceWrong : ChangeSpec := { name := "encodingRowMatchesReference", fn := fun _ => fun
  | [d1, d2] => { results := [.lit (.bool false)], args := [d1, d2] }
  | _ => none }
def EncodingRowMatchesReferenceWrongFalsely : Prop := encodingRowMatchesReferenceRow.holds Try.pinned (OpenSpec.ofChange encodingRowMatchesReferenceWrong)

/-- 'stemlaw4.SlottedPageUpdateMatchesReference': WHATEVER THE INPUT: true; the input reads as it did. -/
def slottedPageUpdateMatchesReferenceSpec : ChangeSpec := { name := "slottedPageUpdateMatchesReference", fn := fun _ => fun
  | [d1, d2, d3] => { results := [.lit (.bool true)], args := [d1, d2, d3] }
  | _ => none }
def slottedPageUpdateMatchesReferenceRow : OpenClaim := { program := "ytpnklahcegahiaa", sum := "187b1e1106a4673013dc75aa9ab95204a5fd5c8a79be3105b51dc5b8fad9df56", func := "stemma/stemlaw4.SlottedPageUpdateMatchesReference", spec := "slottedPageUpdateMatchesReference", apart := false }
def SlottedPageUpdateMatchesReferenceSaid : Prop := slottedPageUpdateMatchesReferenceRow.holds Try.pinned (OpenSpec.ofChange slottedPageUpdateMatchesReferenceSpec)

/-- ITS FALSE NEIGHBOUR: 'it returns false'. Refute it at one input. -/
def slottedPageUpdateMatchesReferenceWrong : ChangeSpec := { name := "slottedPageUpdateMatchesReference", fn := fun _ => fun
  | [d1, d2, d3] => { results := [.lit (.bool false)], args := [d1, d2, d3] }
  | _ => none }
def SlottedPageUpdateMatchesReferenceWrongFalsely : Prop := slottedPageUpdateMatchesReferenceRow.holds Try.pinned (OpenSpec.ofChange slottedPageUpdateMatchesReferenceWrong)

/-- 'stemlaw4.RLESpliceMatchesReference': WHATEVER THE INPUT: true; the input reads as it did. -/
def rLESpliceMatchesReferenceSpec : ChangeSpec := { name := "rLESpliceMatchesReference", fn := fun _ => fun
  | [d1, d2, d3, d4] => { results := [.lit (.bool true)], args := [d1, d2, d3, d4] }
  | _ => none }
def rLESpliceMatchesReferenceRow : OpenClaim := { program := "ytpnklahcegahiaa", sum := "187b1e1106a4673013dc75aa9ab95204a5fd5c8a79be3105b51dc5b8fad9df56", func := "stemma/stemlaw4.RLESpliceMatchesReference", spec := "rLESpliceMatchesReference", apart := false }
def RLESpliceMatchesReferenceSaid : Prop := rLESpliceMatchesReferenceRow.holds Try.pinned (OpenSpec.ofChange rLESpliceMatchesReferenceSpec)

/-- ITS FALSE NEIGHBOUR: 'it returns false'. Refute it at one input. -/
def rLESpliceMatchesReferenceWrong : ChangeSpec := { name := "rLESpliceMatchesReference", fn := fun _ => fun
  | [d1, d2, d3, d4] => { results := [.lit (.bool false)], args := [d1, d2, d3, d4] }
  | _ => none }
def RLESpliceMatchesReferenceWrongFalsely : Prop := rLESpliceMatchesReferenceRow.holds Try.pinned (OpenSpec.ofChange rLESpliceMatchesReferenceWrong)

/- THE SECOND FORM. 'bulk': how many values and letters a reading holds, each counted each time it is reached (what is shared counts as often as it is met; a slice's spare places count too). A statement '..UptoSaid' is the law's where the arguments, and the package variables that the reading takes, are together of bulk at most 1048576: NARROWER than '..Said'. Prove '..Said' where nothing that the law and all that it calls make is longer than what came in: it says more and counts as full. Else prove '..UptoSaid'. A law counts once. -/
mutual
def uptoBulk {H : Type} : DataW H → Nat
  | .lit (.string bytes) => bytes.length + 1
  | .lit _ => 1
  | .nil => 1
  | .ptr d => uptoBulk d + 1
  | .slice elems spare => uptoBulkAll elems + uptoBulkAll spare + 1
  | .agg parts => uptoBulkAll parts + 1
  | .iface _ d => uptoBulk d + 1
  | .map entries => uptoBulkEntries entries + 1
  | .held _ => 1
def uptoBulkAll {H : Type} : List (DataW H) → Nat
  | [] => 0
  | d :: r => uptoBulk d + uptoBulkAll r
def uptoBulkEntries {H : Type} : List (Lit × DataW H) → Nat
  | [] => 0
  | x :: r => uptoBulkEntry x + uptoBulkEntries r
def uptoBulkEntry {H : Type} : Lit × DataW H → Nat
  | (.string bytes, d) => bytes.length + uptoBulk d + 1
  | (_, d) => uptoBulk d + 1
 end
def uptoSmall : (H : Type) → List (DataW H) → Bool := fun _ ds => decide (uptoBulkAll ds ≤ 1048576)
def OpenSpec.upto (s : _root_.Go.ChangeSpec) : _root_.Go.OpenSpec := { _root_.Go.OpenSpec.ofChange s with cond := some uptoSmall }

/-- 'stemlaw4.BitmapConstructionMatchesReference', WHERE WHAT IT READS IS OF BULK AT MOST 1048576: true; the input reads as it did. -/
def bitmapConstructionMatchesReferenceUptoRow : OpenClaim := { program := "ytpnklahcegahiaa", sum := "187b1e1106a4673013dc75aa9ab95204a5fd5c8a79be3105b51dc5b8fad9df56", func := "stemma/stemlaw4.BitmapConstructionMatchesReference", spec := "bitmapConstructionMatchesReference", apart := false, narrowed := true }
def BitmapConstructionMatchesReferenceUptoSaid : Prop := bitmapConstructionMatchesReferenceUptoRow.holds Try.pinned (OpenSpec.upto bitmapConstructionMatchesReferenceSpec)

/-- 'stemlaw4.BitmapOperationsMatchReference', WHERE WHAT IT READS IS OF BULK AT MOST 1048576: true; the input reads as it did. -/
def bitmapOperationsMatchReferenceUptoRow : OpenClaim := { program := "ytpnklahcegahiaa", sum := "187b1e1106a4673013dc75aa9ab95204a5fd5c8a79be3105b51dc5b8fad9df56", func := "stemma/stemlaw4.BitmapOperationsMatchReference", spec := "bitmapOperationsMatchReference", unfollowed := true, recurses := true, apart := false, narrowed := true }
def BitmapOperationsMatchReferenceUptoSaid : Prop := bitmapOperationsMatchReferenceUptoRow.holds Try.pinned (OpenSpec.upto bitmapOperationsMatchReferenceSpec)

/-- 'stemlaw4.SlottedPageReadMatchesReference', WHERE WHAT IT READS IS OF BULK AT MOST 1048576: true; the input reads as it did. -/
def slottedPageReadMatchesReferenceUptoRow : OpenClaim := { program := "ytpnklahcegahiaa", sum := "187b1e1106a4673013dc75aa9ab95204a5fd5c8a79be3105b51dc5b8fad9df56", func := "stemma/stemlaw4.SlottedPageReadMatchesReference", spec := "slottedPageReadMatchesReference", apart := false, narrowed := true }
def SlottedPageReadMatchesReferenceUptoSaid : Prop := slottedPageReadMatchesReferenceUptoRow.holds Try.pinned (OpenSpec.upto slottedPageReadMatchesReferenceSpec)

/-- 'stemlaw4.EncodingRowMatchesReference', WHERE WHAT IT READS IS OF BULK AT MOST 1048576: true; the input reads as it did. -/
def encodingRowMatchesReferenceUptoRow : OpenClaim := { program := "ytpnklahcegahiaa", sum := "187b1e1106a4673013dc75aa9ab95204a5fd5c8a79be3105b51dc5b8fad9df56", func := "stemma/stemlaw4.EncodingRowMatchesReference", spec := "encodingRowMatchesReference", apart := false, narrowed := true }
def EncodingRowMatchesReferenceUptoSaid : Prop := encodingRowMatchesReferenceUptoRow.holds Try.pinned (OpenSpec.upto encodingRowMatchesReferenceSpec)

/-- 'stemlaw4.SlottedPageUpdateMatchesReference', WHERE WHAT IT READS IS OF BULK AT MOST 1048576: true; the input reads as it did. -/
def slottedPageUpdateMatchesReferenceUptoRow : OpenClaim := { program := "ytpnklahcegahiaa", sum := "187b1e1106a4673013dc75aa9ab95204a5fd5c8a79be3105b51dc5b8fad9df56", func := "stemma/stemlaw4.SlottedPageUpdateMatchesReference", spec := "slottedPageUpdateMatchesReference", apart := false, narrowed := true }
def SlottedPageUpdateMatchesReferenceUptoSaid : Prop := slottedPageUpdateMatchesReferenceUptoRow.holds Try.pinned (OpenSpec.upto slottedPageUpdateMatchesReferenceSpec)

/-- 'stemlaw4.RLESpliceMatchesReference', WHERE WHAT IT READS IS OF BULK AT MOST 1048576: true; the input reads as it did. -/
def rLESpliceMatchesReferenceUptoRow : OpenClaim := { program := "ytpnklahcegahiaa", sum := "187b1e1106a4673013dc75aa9ab95204a5fd5c8a79be3105b51dc5b8fad9df56", func := "stemma/stemlaw4.RLESpliceMatchesReference", spec := "rLESpliceMatchesReference", apart := false, narrowed := true }
def RLESpliceMatchesReferenceUptoSaid : Prop := rLESpliceMatchesReferenceUptoRow.holds Try.pinned (OpenSpec.upto rLESpliceMatchesReferenceSpec)

end Rows
end Go.Proofs.Ytpnklahcegahiaa
