/-
  NARROWER THAN 'FOR EVERY INPUT', by the rows' own cells (each row's printed sentence says how): BitmapReadMatchesReference: laid · EvolutionStepsMatchReference: laid · EncodingInstanceMatchesReference: laid · EncodingChangesMatchReference: laid · RelationMatchesReference: laid.
  DERIVED. THE GIVEN ROWS OF THIS SEAT. 5 by the template 'for every input the law returns true; each argument reads behind the call as it read before'; 0 by the template 'total and deterministic' (their statements: YtpnklahcegahiaaDoorTotals.lean).
  GIVEN WITH THE SEED: the statements are not yours to turn. If you find one false, say at which input.
  Laid BY PROGRAM, IN A SANDBOX (cutbox-rows.mjs): the forced cells as the released guide's own fill.sh prints them over the translation d1e7f24643a44f70… (all of the seat's roots in one cut). By AI agents, Wed Nov 11 2026. No macro, syntax, notation, axiom, sorry.
-/
import Derived.Test.YtpnklahcegahiaaDoorChecked
import GoSem.PinnedTables
import GoSem.Claim
import GoSem.ClaimJoined
import GoSem.ClaimMapViews
import Derived.JoinedTies
import Derived.KernelRfl
namespace Go.Proofs.YtpnklahcegahiaaDoor
/- THE CELL 'sum', in the pinned program and in every row, IS THE sha256 OF THE DUMP (.gsa) THAT YtpnklahcegahiaaDoorProg.lean LOADS. Nothing in Lean hashes anything: it is a label: what it is worth is what the hold of that sum in a sandbox is worth. -/
noncomputable def Tryd.pinned : Pinned := { name := "ytpnklahcegahiaadoor", sum := "d1e7f24643a44f70fc2ddb0f2a481cd5b6b1940b49d9bad3d4913915ea755052", checked := Tryd.checked }
namespace Rows
def none {H : Type} : Left H := { results := [], args := [] }

/- WHAT THE LISTED PACKAGE-LEVEL VARIABLES READ AS WHEN THE CALL BEGINS. Each datum BY PROGRAM (the guide's laid-datum.mjs) off the statement by which the dump's own 'gosem.cut.vars' lays the variable. In a bare row this is a premise. The card (YtpnklahcegahiaaDoorCards.lean) ties it to the program's text. -/
def laid_math_bits_deBruijn64tab {H : Type} : DataW H := .agg [.lit (.int .u8 0), .lit (.int .u8 1), .lit (.int .u8 56), .lit (.int .u8 2), .lit (.int .u8 57), .lit (.int .u8 49), .lit (.int .u8 28), .lit (.int .u8 3), .lit (.int .u8 61), .lit (.int .u8 58), .lit (.int .u8 42), .lit (.int .u8 50), .lit (.int .u8 38), .lit (.int .u8 29), .lit (.int .u8 17), .lit (.int .u8 4), .lit (.int .u8 62), .lit (.int .u8 47), .lit (.int .u8 59), .lit (.int .u8 36), .lit (.int .u8 45), .lit (.int .u8 43), .lit (.int .u8 51), .lit (.int .u8 22), .lit (.int .u8 53), .lit (.int .u8 39), .lit (.int .u8 33), .lit (.int .u8 30), .lit (.int .u8 24), .lit (.int .u8 18), .lit (.int .u8 12), .lit (.int .u8 5), .lit (.int .u8 63), .lit (.int .u8 55), .lit (.int .u8 48), .lit (.int .u8 27), .lit (.int .u8 60), .lit (.int .u8 41), .lit (.int .u8 37), .lit (.int .u8 16), .lit (.int .u8 46), .lit (.int .u8 35), .lit (.int .u8 44), .lit (.int .u8 21), .lit (.int .u8 52), .lit (.int .u8 32), .lit (.int .u8 23), .lit (.int .u8 11), .lit (.int .u8 54), .lit (.int .u8 26), .lit (.int .u8 40), .lit (.int .u8 15), .lit (.int .u8 34), .lit (.int .u8 20), .lit (.int .u8 31), .lit (.int .u8 10), .lit (.int .u8 25), .lit (.int .u8 14), .lit (.int .u8 19), .lit (.int .u8 9), .lit (.int .u8 13), .lit (.int .u8 8), .lit (.int .u8 7), .lit (.int .u8 6)]
def laid_math_bits_deBruijn32tab {H : Type} : DataW H := .agg [.lit (.int .u8 0), .lit (.int .u8 1), .lit (.int .u8 28), .lit (.int .u8 2), .lit (.int .u8 29), .lit (.int .u8 14), .lit (.int .u8 24), .lit (.int .u8 3), .lit (.int .u8 30), .lit (.int .u8 22), .lit (.int .u8 20), .lit (.int .u8 15), .lit (.int .u8 25), .lit (.int .u8 17), .lit (.int .u8 4), .lit (.int .u8 8), .lit (.int .u8 31), .lit (.int .u8 27), .lit (.int .u8 13), .lit (.int .u8 23), .lit (.int .u8 21), .lit (.int .u8 19), .lit (.int .u8 16), .lit (.int .u8 7), .lit (.int .u8 26), .lit (.int .u8 12), .lit (.int .u8 18), .lit (.int .u8 6), .lit (.int .u8 11), .lit (.int .u8 5), .lit (.int .u8 10), .lit (.int .u8 9)]
def laid_internal_strconv_uint64pow10 {H : Type} : DataW H := .agg [.lit (.int .u64 1), .lit (.int .u64 10), .lit (.int .u64 100), .lit (.int .u64 1000), .lit (.int .u64 10000), .lit (.int .u64 100000), .lit (.int .u64 1000000), .lit (.int .u64 10000000), .lit (.int .u64 100000000), .lit (.int .u64 1000000000), .lit (.int .u64 10000000000), .lit (.int .u64 100000000000), .lit (.int .u64 1000000000000), .lit (.int .u64 10000000000000), .lit (.int .u64 100000000000000), .lit (.int .u64 1000000000000000), .lit (.int .u64 10000000000000000), .lit (.int .u64 100000000000000000), .lit (.int .u64 1000000000000000000), .lit (.int .u64 10000000000000000000)]
def laid_unicode_utf8_acceptRanges {H : Type} : DataW H := .agg [.agg [.lit (.int .u8 128), .lit (.int .u8 191)], .agg [.lit (.int .u8 160), .lit (.int .u8 191)], .agg [.lit (.int .u8 128), .lit (.int .u8 159)], .agg [.lit (.int .u8 144), .lit (.int .u8 191)], .agg [.lit (.int .u8 128), .lit (.int .u8 143)], .agg [.lit (.int .u8 0), .lit (.int .u8 0)], .agg [.lit (.int .u8 0), .lit (.int .u8 0)], .agg [.lit (.int .u8 0), .lit (.int .u8 0)], .agg [.lit (.int .u8 0), .lit (.int .u8 0)], .agg [.lit (.int .u8 0), .lit (.int .u8 0)], .agg [.lit (.int .u8 0), .lit (.int .u8 0)], .agg [.lit (.int .u8 0), .lit (.int .u8 0)], .agg [.lit (.int .u8 0), .lit (.int .u8 0)], .agg [.lit (.int .u8 0), .lit (.int .u8 0)], .agg [.lit (.int .u8 0), .lit (.int .u8 0)], .agg [.lit (.int .u8 0), .lit (.int .u8 0)]]
/-- One of Go's own tables, pinned by name: the form's constant. -/
def laid_unicode_utf8_first : DataW Unit := Go.Pinned.utf8First

/-- 'stemlaw4.BitmapReadMatchesReference': WHATEVER THE INPUT: true; the input reads as it did. -/
def bitmapReadMatchesReferenceSpec : ChangeSpec := { name := "bitmapReadMatchesReference", fn := fun _ => fun
  | [d1, d2] => { results := [.lit (.bool true)], args := [d1, d2] }
  | _ => none }
def bitmapReadMatchesReferenceRow : OpenClaim := { program := "ytpnklahcegahiaadoor", sum := "d1e7f24643a44f70fc2ddb0f2a481cd5b6b1940b49d9bad3d4913915ea755052", func := "stemma/stemlaw4.BitmapReadMatchesReference", spec := "bitmapReadMatchesReference", named := ["math/bits.deBruijn64tab"], apart := false, laid := [("math/bits.deBruijn64tab", laid_math_bits_deBruijn64tab)] }
def BitmapReadMatchesReferenceSaid : Prop := bitmapReadMatchesReferenceRow.holds Tryd.pinned (OpenSpec.ofChange bitmapReadMatchesReferenceSpec)

/-- ITS FALSE NEIGHBOUR: 'it returns false'. Refute it at one input. -/
def bitmapReadMatchesReferenceWrong : ChangeSpec := { name := "bitmapReadMatchesReference", fn := fun _ => fun
  | [d1, d2] => { results := [.lit (.bool false)], args := [d1, d2] }
  | _ => none }
def BitmapReadMatchesReferenceWrongFalsely : Prop := bitmapReadMatchesReferenceRow.holds Tryd.pinned (OpenSpec.ofChange bitmapReadMatchesReferenceWrong)

/-- 'stemlaw2.EvolutionStepsMatchReference': WHATEVER THE INPUT: true; the input reads as it did. -/
def evolutionStepsMatchReferenceSpec : ChangeSpec := { name := "evolutionStepsMatchReference", fn := fun _ => fun
  | [d1, d2] => { results := [.lit (.bool true)], args := [d1, d2] }
  | _ => none }
def evolutionStepsMatchReferenceRow : OpenClaim := { program := "ytpnklahcegahiaadoor", sum := "d1e7f24643a44f70fc2ddb0f2a481cd5b6b1940b49d9bad3d4913915ea755052", func := "stemma/stemlaw2.EvolutionStepsMatchReference", spec := "evolutionStepsMatchReference", inPlace := ["internal/abi.NoEscape"], unfollowed := true, recurses := true, named := ["internal/strconv.uint64pow10", "math/bits.deBruijn32tab", "math/bits.deBruijn64tab"], apart := false, laid := [("math/bits.deBruijn32tab", laid_math_bits_deBruijn32tab), ("math/bits.deBruijn64tab", laid_math_bits_deBruijn64tab), ("internal/strconv.uint64pow10", laid_internal_strconv_uint64pow10)] }
def EvolutionStepsMatchReferenceSaid : Prop := evolutionStepsMatchReferenceRow.holds Tryd.pinned (OpenSpec.ofChange evolutionStepsMatchReferenceSpec)

/-- ITS FALSE NEIGHBOUR: 'it returns false'. Refute it at one input. -/
def evolutionStepsMatchReferenceWrong : ChangeSpec := { name := "evolutionStepsMatchReference", fn := fun _ => fun
  | [d1, d2] => { results := [.lit (.bool false)], args := [d1, d2] }
  | _ => none }
def EvolutionStepsMatchReferenceWrongFalsely : Prop := evolutionStepsMatchReferenceRow.holds Tryd.pinned (OpenSpec.ofChange evolutionStepsMatchReferenceWrong)

/-- 'stemlaw4.EncodingInstanceMatchesReference': WHATEVER THE INPUT: true; the input reads as it did. -/
def encodingInstanceMatchesReferenceSpec : ChangeSpec := { name := "encodingInstanceMatchesReference", fn := fun _ => fun
  | [d1, d2] => { results := [.lit (.bool true)], args := [d1, d2] }
  | _ => none }
def encodingInstanceMatchesReferenceRow : OpenClaim := { program := "ytpnklahcegahiaadoor", sum := "d1e7f24643a44f70fc2ddb0f2a481cd5b6b1940b49d9bad3d4913915ea755052", func := "stemma/stemlaw4.EncodingInstanceMatchesReference", spec := "encodingInstanceMatchesReference", inPlace := ["internal/bytealg.IndexByteString", "internal/bytealg.IndexString"], named := ["unicode/utf8.first", "unicode/utf8.acceptRanges", "internal/bytealg.MaxLen"], apart := false, laid := [("unicode/utf8.acceptRanges", laid_unicode_utf8_acceptRanges), ("unicode/utf8.first", laid_unicode_utf8_first)] }
def EncodingInstanceMatchesReferenceSaid : Prop := encodingInstanceMatchesReferenceRow.holds Tryd.pinned (OpenSpec.ofChange encodingInstanceMatchesReferenceSpec)

/-- ITS FALSE NEIGHBOUR: 'it returns false'. Refute it at one input. -/
def encodingInstanceMatchesReferenceWrong : ChangeSpec := { name := "encodingInstanceMatchesReference", fn := fun _ => fun
  | [d1, d2] => { results := [.lit (.bool false)], args := [d1, d2] }
  | _ => none }
def EncodingInstanceMatchesReferenceWrongFalsely : Prop := encodingInstanceMatchesReferenceRow.holds Tryd.pinned (OpenSpec.ofChange encodingInstanceMatchesReferenceWrong)

/-- 'stemlaw4.EncodingChangesMatchReference': WHATEVER THE INPUT: true; the input reads as it did. -/
def encodingChangesMatchReferenceSpec : ChangeSpec := { name := "encodingChangesMatchReference", fn := fun _ => fun
  | [d1, d2] => { results := [.lit (.bool true)], args := [d1, d2] }
  | _ => none }
def encodingChangesMatchReferenceRow : OpenClaim := { program := "ytpnklahcegahiaadoor", sum := "d1e7f24643a44f70fc2ddb0f2a481cd5b6b1940b49d9bad3d4913915ea755052", func := "stemma/stemlaw4.EncodingChangesMatchReference", spec := "encodingChangesMatchReference", inPlace := ["internal/bytealg.IndexByteString", "internal/bytealg.IndexString"], named := ["unicode/utf8.first", "unicode/utf8.acceptRanges", "internal/bytealg.MaxLen"], apart := false, laid := [("unicode/utf8.acceptRanges", laid_unicode_utf8_acceptRanges), ("unicode/utf8.first", laid_unicode_utf8_first)] }
def EncodingChangesMatchReferenceSaid : Prop := encodingChangesMatchReferenceRow.holds Tryd.pinned (OpenSpec.ofChange encodingChangesMatchReferenceSpec)

/-- ITS FALSE NEIGHBOUR: 'it returns false'. Refute it at one input. -/
def encodingChangesMatchReferenceWrong : ChangeSpec := { name := "encodingChangesMatchReference", fn := fun _ => fun
  | [d1, d2] => { results := [.lit (.bool false)], args := [d1, d2] }
  | _ => none }
def EncodingChangesMatchReferenceWrongFalsely : Prop := encodingChangesMatchReferenceRow.holds Tryd.pinned (OpenSpec.ofChange encodingChangesMatchReferenceWrong)

/-- 'stemlaw2.RelationMatchesReference': WHATEVER THE INPUT: true; the input reads as it did. -/
def relationMatchesReferenceSpec : ChangeSpec := { name := "relationMatchesReference", fn := fun _ => fun
  | [d1, d2, d3, d4] => { results := [.lit (.bool true)], args := [d1, d2, d3, d4] }
  | _ => none }
def relationMatchesReferenceRow : OpenClaim := { program := "ytpnklahcegahiaadoor", sum := "d1e7f24643a44f70fc2ddb0f2a481cd5b6b1940b49d9bad3d4913915ea755052", func := "stemma/stemlaw2.RelationMatchesReference", spec := "relationMatchesReference", inPlace := ["internal/bytealg.abigen_runtime_cmpstring", "internal/abi.NoEscape", "slices.overlaps[stemma/api.Row]"], unfollowed := true, recurses := true, named := ["internal/strconv.uint64pow10", "math/bits.deBruijn32tab", "math/bits.deBruijn64tab"], apart := false, laid := [("math/bits.deBruijn32tab", laid_math_bits_deBruijn32tab), ("math/bits.deBruijn64tab", laid_math_bits_deBruijn64tab), ("internal/strconv.uint64pow10", laid_internal_strconv_uint64pow10)] }
def RelationMatchesReferenceSaid : Prop := relationMatchesReferenceRow.holds Tryd.pinned (OpenSpec.ofChange relationMatchesReferenceSpec)

/-- ITS FALSE NEIGHBOUR: 'it returns false'. Refute it at one input. -/
def relationMatchesReferenceWrong : ChangeSpec := { name := "relationMatchesReference", fn := fun _ => fun
  | [d1, d2, d3, d4] => { results := [.lit (.bool false)], args := [d1, d2, d3, d4] }
  | _ => none }
def RelationMatchesReferenceWrongFalsely : Prop := relationMatchesReferenceRow.holds Tryd.pinned (OpenSpec.ofChange relationMatchesReferenceWrong)

/- THE SECOND FORM. 'bulk': how many values and letters a reading holds, each counted each time it is reached (what is shared counts as often as it is met; a slice's spare places count too). A statement '..UptoSaid' is the law's where the arguments, and the package variables that the reading takes, are together of bulk at most 1048576: NARROWER than '..Said'. Prove '..Said' where nothing that the law and all that it calls make is longer than what came in: it says more and counts as full. Else prove '..UptoSaid'. A law counts once. -/
mutual
def uptoBulk {H : Type} : DataW H → Nat
  | .lit (.string bytes) => bytes.length + 1
  | .lit _ => 1
  | .nil => 1
  | .ptr d => uptoBulk d + 1
  | .slice elems spare => uptoBulkAll elems + uptoBulkAll spare + 1
  | .agg parts => uptoBulkAll parts + 1
  | .iface _ d => uptoBulk d + 1
  | .map entries => uptoBulkEntries entries + 1
  | .held _ => 1
def uptoBulkAll {H : Type} : List (DataW H) → Nat
  | [] => 0
  | d :: r => uptoBulk d + uptoBulkAll r
def uptoBulkEntries {H : Type} : List (Lit × DataW H) → Nat
  | [] => 0
  | x :: r => uptoBulkEntry x + uptoBulkEntries r
def uptoBulkEntry {H : Type} : Lit × DataW H → Nat
  | (.string bytes, d) => bytes.length + uptoBulk d + 1
  | (_, d) => uptoBulk d + 1
 end
def uptoSmall : (H : Type) → List (DataW H) → Bool := fun _ ds => decide (uptoBulkAll ds ≤ 1048576)
def OpenSpec.upto (s : _root_.Go.ChangeSpec) : _root_.Go.OpenSpec := { _root_.Go.OpenSpec.ofChange s with cond := some uptoSmall }

/-- 'stemlaw4.BitmapReadMatchesReference', WHERE WHAT IT READS IS OF BULK AT MOST 1048576: true; the input reads as it did. -/
def bitmapReadMatchesReferenceUptoRow : OpenClaim := { program := "ytpnklahcegahiaadoor", sum := "d1e7f24643a44f70fc2ddb0f2a481cd5b6b1940b49d9bad3d4913915ea755052", func := "stemma/stemlaw4.BitmapReadMatchesReference", spec := "bitmapReadMatchesReference", named := ["math/bits.deBruijn64tab"], apart := false, laid := [("math/bits.deBruijn64tab", laid_math_bits_deBruijn64tab)], narrowed := true }
def BitmapReadMatchesReferenceUptoSaid : Prop := bitmapReadMatchesReferenceUptoRow.holds Tryd.pinned (OpenSpec.upto bitmapReadMatchesReferenceSpec)

/-- 'stemlaw2.EvolutionStepsMatchReference', WHERE WHAT IT READS IS OF BULK AT MOST 1048576: true; the input reads as it did. -/
def evolutionStepsMatchReferenceUptoRow : OpenClaim := { program := "ytpnklahcegahiaadoor", sum := "d1e7f24643a44f70fc2ddb0f2a481cd5b6b1940b49d9bad3d4913915ea755052", func := "stemma/stemlaw2.EvolutionStepsMatchReference", spec := "evolutionStepsMatchReference", inPlace := ["internal/abi.NoEscape"], unfollowed := true, recurses := true, named := ["internal/strconv.uint64pow10", "math/bits.deBruijn32tab", "math/bits.deBruijn64tab"], apart := false, laid := [("math/bits.deBruijn32tab", laid_math_bits_deBruijn32tab), ("math/bits.deBruijn64tab", laid_math_bits_deBruijn64tab), ("internal/strconv.uint64pow10", laid_internal_strconv_uint64pow10)], narrowed := true }
def EvolutionStepsMatchReferenceUptoSaid : Prop := evolutionStepsMatchReferenceUptoRow.holds Tryd.pinned (OpenSpec.upto evolutionStepsMatchReferenceSpec)

/-- 'stemlaw4.EncodingInstanceMatchesReference', WHERE WHAT IT READS IS OF BULK AT MOST 1048576: true; the input reads as it did. -/
def encodingInstanceMatchesReferenceUptoRow : OpenClaim := { program := "ytpnklahcegahiaadoor", sum := "d1e7f24643a44f70fc2ddb0f2a481cd5b6b1940b49d9bad3d4913915ea755052", func := "stemma/stemlaw4.EncodingInstanceMatchesReference", spec := "encodingInstanceMatchesReference", inPlace := ["internal/bytealg.IndexByteString", "internal/bytealg.IndexString"], named := ["unicode/utf8.first", "unicode/utf8.acceptRanges", "internal/bytealg.MaxLen"], apart := false, laid := [("unicode/utf8.acceptRanges", laid_unicode_utf8_acceptRanges), ("unicode/utf8.first", laid_unicode_utf8_first)], narrowed := true }
def EncodingInstanceMatchesReferenceUptoSaid : Prop := encodingInstanceMatchesReferenceUptoRow.holds Tryd.pinned (OpenSpec.upto encodingInstanceMatchesReferenceSpec)

/-- 'stemlaw4.EncodingChangesMatchReference', WHERE WHAT IT READS IS OF BULK AT MOST 1048576: true; the input reads as it did. -/
def encodingChangesMatchReferenceUptoRow : OpenClaim := { program := "ytpnklahcegahiaadoor", sum := "d1e7f24643a44f70fc2ddb0f2a481cd5b6b1940b49d9bad3d4913915ea755052", func := "stemma/stemlaw4.EncodingChangesMatchReference", spec := "encodingChangesMatchReference", inPlace := ["internal/bytealg.IndexByteString", "internal/bytealg.IndexString"], named := ["unicode/utf8.first", "unicode/utf8.acceptRanges", "internal/bytealg.MaxLen"], apart := false, laid := [("unicode/utf8.acceptRanges", laid_unicode_utf8_acceptRanges), ("unicode/utf8.first", laid_unicode_utf8_first)], narrowed := true }
def EncodingChangesMatchReferenceUptoSaid : Prop := encodingChangesMatchReferenceUptoRow.holds Tryd.pinned (OpenSpec.upto encodingChangesMatchReferenceSpec)

/-- 'stemlaw2.RelationMatchesReference', WHERE WHAT IT READS IS OF BULK AT MOST 1048576: true; the input reads as it did. -/
def relationMatchesReferenceUptoRow : OpenClaim := { program := "ytpnklahcegahiaadoor", sum := "d1e7f24643a44f70fc2ddb0f2a481cd5b6b1940b49d9bad3d4913915ea755052", func := "stemma/stemlaw2.RelationMatchesReference", spec := "relationMatchesReference", inPlace := ["internal/bytealg.abigen_runtime_cmpstring", "internal/abi.NoEscape", "slices.overlaps[stemma/api.Row]"], unfollowed := true, recurses := true, named := ["internal/strconv.uint64pow10", "math/bits.deBruijn32tab", "math/bits.deBruijn64tab"], apart := false, laid := [("math/bits.deBruijn32tab", laid_math_bits_deBruijn32tab), ("math/bits.deBruijn64tab", laid_math_bits_deBruijn64tab), ("internal/strconv.uint64pow10", laid_internal_strconv_uint64pow10)], narrowed := true }
def RelationMatchesReferenceUptoSaid : Prop := relationMatchesReferenceUptoRow.holds Tryd.pinned (OpenSpec.upto relationMatchesReferenceSpec)

end Rows
end Go.Proofs.YtpnklahcegahiaaDoor
