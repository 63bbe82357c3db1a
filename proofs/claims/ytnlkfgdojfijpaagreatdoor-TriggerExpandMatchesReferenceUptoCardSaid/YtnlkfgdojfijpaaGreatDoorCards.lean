/-
  DERIVED. GIVEN WITH THE SEED: THE CARDS: each row of YtnlkfgdojfijpaaGreatDoorRows.lean that lists a variable, with what it lists TIED to the program's text (the seventh form; the later family's looks); each row that meets fmt, with fmt's text TOLD by the authors' own Lean function (tested against real Go, not proved from fmt's source: count such statements apart). THE CARD IS WHAT COUNTS. Prove the row's statement (the work); the ties are given (YtnlkfgdojfijpaaGreatDoorTie.lean); close each card by the builder's one call (the guide's Derived/Test/ToyasCard.lean, 'card_holds'). Laid BY PROGRAM, IN A SANDBOX (cutbox-door.mjs). By AI agents, Wed Nov 11 2026. No macro, syntax, notation, axiom, sorry.
-/
import Derived.Test.YtnlkfgdojfijpaaGreatDoorRows
import GoSem.ClaimSeven
namespace Go.Proofs.YtnlkfgdojfijpaaGreatDoor
namespace Rows

/-- THE TIED CARD OF 'stemlaw4.TriggerExpandMatchesReference'. -/
def triggerExpandMatchesReferenceCard : Claim7 := { stood := { row := triggerExpandMatchesReferenceRow, standIns := [], harness := (true, "fcca20dfbbd61ca2aa562933265cbd8e1783a8e147147440107c093659ddd1cf"), looks := false }, kinds := [], alts := [], laidByText := true, laidKinds := [.data, .data, .data, .data, .pinned], laidTests := true, laidLooks := .later }
def TriggerExpandMatchesReferenceCardSaid : Prop := Claim7.holds Tryz.pinned (.plain (OpenSpec.ofChange triggerExpandMatchesReferenceSpec)) triggerExpandMatchesReferenceCard

/-- THE SECOND FORM's CARD OF 'stemlaw4.TriggerExpandMatchesReference'. -/
def triggerExpandMatchesReferenceUptoCard : Claim7 := { stood := { row := triggerExpandMatchesReferenceUptoRow, standIns := [], harness := (true, "fcca20dfbbd61ca2aa562933265cbd8e1783a8e147147440107c093659ddd1cf"), looks := false }, kinds := [], alts := [], laidByText := true, laidKinds := [.data, .data, .data, .data, .pinned], laidTests := true, laidLooks := .later }
def TriggerExpandMatchesReferenceUptoCardSaid : Prop := Claim7.holds Tryz.pinned (.plain (OpenSpec.upto triggerExpandMatchesReferenceSpec)) triggerExpandMatchesReferenceUptoCard
end Rows
end Go.Proofs.YtnlkfgdojfijpaaGreatDoor
