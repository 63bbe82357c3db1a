/-
  DERIVED. GIVEN WITH THE SEED: THE CARDS: each row of YtpdhkfofjpankaaGreatDoorRows.lean that lists a variable, with what it lists TIED to the program's text (the seventh form; the later family's looks); each row that meets fmt, with fmt's text TOLD by the authors' own Lean function (tested against real Go, not proved from fmt's source: count such statements apart). THE CARD IS WHAT COUNTS. Prove the row's statement (the work); the ties are given (YtpdhkfofjpankaaGreatDoorTie.lean); close each card by the builder's one call (the guide's Derived/Test/ToyasCard.lean, 'card_holds'). Laid BY PROGRAM, IN A SANDBOX (cutbox-door.mjs). By AI agents, Wed Nov 11 2026. No macro, syntax, notation, axiom, sorry.
-/
import Derived.Test.YtpdhkfofjpankaaGreatDoorRows
import GoSem.ClaimSeven
namespace Go.Proofs.YtpdhkfofjpankaaGreatDoor
namespace Rows

/-- THE TIED CARD OF 'stemlaw4.ProgressMatchesReference'. -/
def progressMatchesReferenceCard : Claim7 := { stood := { row := progressMatchesReferenceRow, standIns := [], harness := (true, "f9c7ac2cf4d768cbb3dabe48a8a571262a8f61309d10032392fd9a41e505792b"), looks := false }, kinds := [], alts := [], laidByText := true, laidKinds := [.data, .data, .data, .data, .pinned], laidTests := true, laidLooks := .later }
def ProgressMatchesReferenceCardSaid : Prop := Claim7.holds Tryz.pinned (.plain (OpenSpec.ofChange progressMatchesReferenceSpec)) progressMatchesReferenceCard

/-- THE SECOND FORM's CARD OF 'stemlaw4.ProgressMatchesReference'. -/
def progressMatchesReferenceUptoCard : Claim7 := { stood := { row := progressMatchesReferenceUptoRow, standIns := [], harness := (true, "f9c7ac2cf4d768cbb3dabe48a8a571262a8f61309d10032392fd9a41e505792b"), looks := false }, kinds := [], alts := [], laidByText := true, laidKinds := [.data, .data, .data, .data, .pinned], laidTests := true, laidLooks := .later }
def ProgressMatchesReferenceUptoCardSaid : Prop := Claim7.holds Tryz.pinned (.plain (OpenSpec.upto progressMatchesReferenceSpec)) progressMatchesReferenceUptoCard
end Rows
end Go.Proofs.YtpdhkfofjpankaaGreatDoor
