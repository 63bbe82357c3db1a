/-
  DERIVED. GIVEN WITH THE SEED: THE CARDS: each row of YtjjfjgpjbhjpfaaGreatDoorRows.lean that lists a variable, with what it lists TIED to the program's text (the seventh form; the later family's looks); each row that meets fmt, with fmt's text TOLD by the authors' own Lean function (tested against real Go, not proved from fmt's source: count such statements apart). THE CARD IS WHAT COUNTS. Prove the row's statement (the work); the ties are given (YtjjfjgpjbhjpfaaGreatDoorTie.lean); close each card by the builder's one call (the guide's Derived/Test/ToyasCard.lean, 'card_holds'). Laid BY PROGRAM, IN A SANDBOX (cutbox-door.mjs). By AI agents, Wed Nov 11 2026. No macro, syntax, notation, axiom, sorry.
-/
import Derived.Test.YtjjfjgpjbhjpfaaGreatDoorRows
import GoSem.ClaimSeven
namespace Go.Proofs.YtjjfjgpjbhjpfaaGreatDoor
namespace Rows

/-- THE TIED CARD OF 'stemlaw2.InstanceMatchesReference'. -/
def instanceMatchesReferenceCard : Claim7 := { stood := { row := instanceMatchesReferenceRow, standIns := [], harness := (true, "48ade38d17db03b51745cb75147493e368efed2631ab1e2f706cf8a1f16a80a2"), looks := false }, kinds := [], alts := [], laidByText := true, laidKinds := [.data, .data, .data, .data, .pinned], laidTests := true, laidLooks := .later }
def InstanceMatchesReferenceCardSaid : Prop := Claim7.holds Tryz.pinned (.plain (OpenSpec.ofChange instanceMatchesReferenceSpec)) instanceMatchesReferenceCard

/-- THE TIED CARD OF 'stemlaw4.ViolationsFindMatchesReference'. -/
def violationsFindMatchesReferenceCard : Claim7 := { stood := { row := violationsFindMatchesReferenceRow, standIns := [], harness := (true, "48ade38d17db03b51745cb75147493e368efed2631ab1e2f706cf8a1f16a80a2"), looks := false }, kinds := [], alts := [], laidByText := true, laidKinds := [.data, .data, .data, .data, .pinned], laidTests := true, laidLooks := .later }
def ViolationsFindMatchesReferenceCardSaid : Prop := Claim7.holds Tryz.pinned (.plain (OpenSpec.ofChange violationsFindMatchesReferenceSpec)) violationsFindMatchesReferenceCard

/-- THE TIED CARD OF 'stemlaw2.ChangeCompactMatchesReference'. -/
def changeCompactMatchesReferenceCard : Claim7 := { stood := { row := changeCompactMatchesReferenceRow, standIns := [], harness := (true, "48ade38d17db03b51745cb75147493e368efed2631ab1e2f706cf8a1f16a80a2"), looks := false }, kinds := [], alts := [], laidByText := true, laidKinds := [.data, .data, .data, .data, .pinned], laidTests := true, laidLooks := .later }
def ChangeCompactMatchesReferenceCardSaid : Prop := Claim7.holds Tryz.pinned (.plain (OpenSpec.ofChange changeCompactMatchesReferenceSpec)) changeCompactMatchesReferenceCard

/-- THE SECOND FORM's CARD OF 'stemlaw2.InstanceMatchesReference'. -/
def instanceMatchesReferenceUptoCard : Claim7 := { stood := { row := instanceMatchesReferenceUptoRow, standIns := [], harness := (true, "48ade38d17db03b51745cb75147493e368efed2631ab1e2f706cf8a1f16a80a2"), looks := false }, kinds := [], alts := [], laidByText := true, laidKinds := [.data, .data, .data, .data, .pinned], laidTests := true, laidLooks := .later }
def InstanceMatchesReferenceUptoCardSaid : Prop := Claim7.holds Tryz.pinned (.plain (OpenSpec.upto instanceMatchesReferenceSpec)) instanceMatchesReferenceUptoCard

/-- THE SECOND FORM's CARD OF 'stemlaw4.ViolationsFindMatchesReference'. -/
def violationsFindMatchesReferenceUptoCard : Claim7 := { stood := { row := violationsFindMatchesReferenceUptoRow, standIns := [], harness := (true, "48ade38d17db03b51745cb75147493e368efed2631ab1e2f706cf8a1f16a80a2"), looks := false }, kinds := [], alts := [], laidByText := true, laidKinds := [.data, .data, .data, .data, .pinned], laidTests := true, laidLooks := .later }
def ViolationsFindMatchesReferenceUptoCardSaid : Prop := Claim7.holds Tryz.pinned (.plain (OpenSpec.upto violationsFindMatchesReferenceSpec)) violationsFindMatchesReferenceUptoCard

/-- THE SECOND FORM's CARD OF 'stemlaw2.ChangeCompactMatchesReference'. -/
def changeCompactMatchesReferenceUptoCard : Claim7 := { stood := { row := changeCompactMatchesReferenceUptoRow, standIns := [], harness := (true, "48ade38d17db03b51745cb75147493e368efed2631ab1e2f706cf8a1f16a80a2"), looks := false }, kinds := [], alts := [], laidByText := true, laidKinds := [.data, .data, .data, .data, .pinned], laidTests := true, laidLooks := .later }
def ChangeCompactMatchesReferenceUptoCardSaid : Prop := Claim7.holds Tryz.pinned (.plain (OpenSpec.upto changeCompactMatchesReferenceSpec)) changeCompactMatchesReferenceUptoCard
end Rows
end Go.Proofs.YtjjfjgpjbhjpfaaGreatDoor
