/-
  DERIVED. GIVEN WITH THE SEED: THE CARDS: each row of YtfcdfdnlgfebmaaGreatDoorRows.lean that lists a variable, with what it lists TIED to the program's text (the seventh form; the later family's looks); each row that meets fmt, with fmt's text TOLD by the authors' own Lean function (tested against real Go, not proved from fmt's source: count such statements apart). THE CARD IS WHAT COUNTS. Prove the row's statement (the work); the ties are given (YtfcdfdnlgfebmaaGreatDoorTie.lean); close each card by the builder's one call (the guide's Derived/Test/ToyasCard.lean, 'card_holds'). Laid BY PROGRAM, IN A SANDBOX (cutbox-door.mjs). By AI agents, Wed Nov 11 2026. No macro, syntax, notation, axiom, sorry.
-/
import Derived.Test.YtfcdfdnlgfebmaaGreatDoorRows
import GoSem.ClaimSeven
namespace Go.Proofs.YtfcdfdnlgfebmaaGreatDoor
namespace Rows

/-- THE TIED CARD OF 'stemlaw2.ChangeDiffMatchesReference'. -/
def changeDiffMatchesReferenceCard : Claim7 := { stood := { row := changeDiffMatchesReferenceRow, standIns := [], harness := (true, "bd2cd1ecd25aa2e579a689efc26139464ac90b13543df911fb3a853409c237cc"), looks := false }, kinds := [], alts := [], laidByText := true, laidKinds := [.data, .data, .data, .data, .pinned], laidTests := true, laidLooks := .later }
def ChangeDiffMatchesReferenceCardSaid : Prop := Claim7.holds Tryz.pinned (.plain (OpenSpec.ofChange changeDiffMatchesReferenceSpec)) changeDiffMatchesReferenceCard

/-- THE TIED CARD OF 'stemlaw2.DeltaKeysMatchReference'. -/
def deltaKeysMatchReferenceCard : Claim7 := { stood := { row := deltaKeysMatchReferenceRow, standIns := [], harness := (true, "bd2cd1ecd25aa2e579a689efc26139464ac90b13543df911fb3a853409c237cc"), looks := false }, kinds := [], alts := [], laidByText := true, laidKinds := [.data, .data, .data, .data, .pinned], laidTests := true, laidLooks := .later }
def DeltaKeysMatchReferenceCardSaid : Prop := Claim7.holds Tryz.pinned (.plain (OpenSpec.ofChange deltaKeysMatchReferenceSpec)) deltaKeysMatchReferenceCard

/-- THE TIED CARD OF 'stemlaw2.EvolutionMatchesReference'. -/
def evolutionMatchesReferenceCard : Claim7 := { stood := { row := evolutionMatchesReferenceRow, standIns := [], harness := (true, "bd2cd1ecd25aa2e579a689efc26139464ac90b13543df911fb3a853409c237cc"), looks := false }, kinds := [], alts := [], laidByText := true, laidKinds := [.data, .data, .data, .data, .pinned], laidTests := true, laidLooks := .later }
def EvolutionMatchesReferenceCardSaid : Prop := Claim7.holds Tryz.pinned (.plain (OpenSpec.ofChange evolutionMatchesReferenceSpec)) evolutionMatchesReferenceCard

/-- THE TIED CARD OF 'stemlaw2.ChangeApplyMatchesReference'. -/
def changeApplyMatchesReferenceCard : Claim7 := { stood := { row := changeApplyMatchesReferenceRow, standIns := [], harness := (true, "bd2cd1ecd25aa2e579a689efc26139464ac90b13543df911fb3a853409c237cc"), looks := false }, kinds := [], alts := [], laidByText := true, laidKinds := [.data, .data, .data, .data, .pinned], laidTests := true, laidLooks := .later }
def ChangeApplyMatchesReferenceCardSaid : Prop := Claim7.holds Tryz.pinned (.plain (OpenSpec.ofChange changeApplyMatchesReferenceSpec)) changeApplyMatchesReferenceCard

/-- THE SECOND FORM's CARD OF 'stemlaw2.ChangeDiffMatchesReference'. -/
def changeDiffMatchesReferenceUptoCard : Claim7 := { stood := { row := changeDiffMatchesReferenceUptoRow, standIns := [], harness := (true, "bd2cd1ecd25aa2e579a689efc26139464ac90b13543df911fb3a853409c237cc"), looks := false }, kinds := [], alts := [], laidByText := true, laidKinds := [.data, .data, .data, .data, .pinned], laidTests := true, laidLooks := .later }
def ChangeDiffMatchesReferenceUptoCardSaid : Prop := Claim7.holds Tryz.pinned (.plain (OpenSpec.upto changeDiffMatchesReferenceSpec)) changeDiffMatchesReferenceUptoCard

/-- THE SECOND FORM's CARD OF 'stemlaw2.DeltaKeysMatchReference'. -/
def deltaKeysMatchReferenceUptoCard : Claim7 := { stood := { row := deltaKeysMatchReferenceUptoRow, standIns := [], harness := (true, "bd2cd1ecd25aa2e579a689efc26139464ac90b13543df911fb3a853409c237cc"), looks := false }, kinds := [], alts := [], laidByText := true, laidKinds := [.data, .data, .data, .data, .pinned], laidTests := true, laidLooks := .later }
def DeltaKeysMatchReferenceUptoCardSaid : Prop := Claim7.holds Tryz.pinned (.plain (OpenSpec.upto deltaKeysMatchReferenceSpec)) deltaKeysMatchReferenceUptoCard

/-- THE SECOND FORM's CARD OF 'stemlaw2.EvolutionMatchesReference'. -/
def evolutionMatchesReferenceUptoCard : Claim7 := { stood := { row := evolutionMatchesReferenceUptoRow, standIns := [], harness := (true, "bd2cd1ecd25aa2e579a689efc26139464ac90b13543df911fb3a853409c237cc"), looks := false }, kinds := [], alts := [], laidByText := true, laidKinds := [.data, .data, .data, .data, .pinned], laidTests := true, laidLooks := .later }
def EvolutionMatchesReferenceUptoCardSaid : Prop := Claim7.holds Tryz.pinned (.plain (OpenSpec.upto evolutionMatchesReferenceSpec)) evolutionMatchesReferenceUptoCard

/-- THE SECOND FORM's CARD OF 'stemlaw2.ChangeApplyMatchesReference'. -/
def changeApplyMatchesReferenceUptoCard : Claim7 := { stood := { row := changeApplyMatchesReferenceUptoRow, standIns := [], harness := (true, "bd2cd1ecd25aa2e579a689efc26139464ac90b13543df911fb3a853409c237cc"), looks := false }, kinds := [], alts := [], laidByText := true, laidKinds := [.data, .data, .data, .data, .pinned], laidTests := true, laidLooks := .later }
def ChangeApplyMatchesReferenceUptoCardSaid : Prop := Claim7.holds Tryz.pinned (.plain (OpenSpec.upto changeApplyMatchesReferenceSpec)) changeApplyMatchesReferenceUptoCard
end Rows
end Go.Proofs.YtfcdfdnlgfebmaaGreatDoor
