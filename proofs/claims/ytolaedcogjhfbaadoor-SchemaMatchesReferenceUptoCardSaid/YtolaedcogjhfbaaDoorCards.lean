/-
  DERIVED. GIVEN WITH THE SEED: THE CARDS: each row of YtolaedcogjhfbaaDoorRows.lean that lists a variable, with what it lists TIED to the program's text (the seventh form; the later family's looks); each row that meets fmt, with fmt's text TOLD by the authors' own Lean function (tested against real Go, not proved from fmt's source: count such statements apart). THE CARD IS WHAT COUNTS. Prove the row's statement (the work); the ties are given (YtolaedcogjhfbaaDoorTie.lean); close each card by the builder's one call (the guide's Derived/Test/ToyasCard.lean, 'card_holds'). Laid BY PROGRAM, IN A SANDBOX (cutbox-door.mjs). By AI agents, Wed Nov 11 2026. No macro, syntax, notation, axiom, sorry.
-/
import Derived.Test.YtolaedcogjhfbaaDoorRows
import GoSem.ClaimSeven
namespace Go.Proofs.YtolaedcogjhfbaaDoor
namespace Rows

/-- THE TIED CARD OF 'stemlaw2.SchemaMatchesReference'. -/
def schemaMatchesReferenceCard : Claim7 := { stood := { row := schemaMatchesReferenceRow, standIns := [], harness := (true, "9b4f372d01db950edf1b673392b53d3331c2db74b6f19d639faf895fa3526de5"), looks := false }, kinds := [], alts := [], laidByText := true, laidKinds := [.data, .data, .data, .data, .pinned], laidTests := true, laidLooks := .later }
def SchemaMatchesReferenceCardSaid : Prop := Claim7.holds Tryd.pinned (.plain (OpenSpec.ofChange schemaMatchesReferenceSpec)) schemaMatchesReferenceCard

/-- THE SECOND FORM's CARD OF 'stemlaw2.SchemaMatchesReference'. -/
def schemaMatchesReferenceUptoCard : Claim7 := { stood := { row := schemaMatchesReferenceUptoRow, standIns := [], harness := (true, "9b4f372d01db950edf1b673392b53d3331c2db74b6f19d639faf895fa3526de5"), looks := false }, kinds := [], alts := [], laidByText := true, laidKinds := [.data, .data, .data, .data, .pinned], laidTests := true, laidLooks := .later }
def SchemaMatchesReferenceUptoCardSaid : Prop := Claim7.holds Tryd.pinned (.plain (OpenSpec.upto schemaMatchesReferenceSpec)) schemaMatchesReferenceUptoCard
end Rows
end Go.Proofs.YtolaedcogjhfbaaDoor
