/-
  DERIVED. GIVEN WITH THE SEED: THE CARDS: each row of YtpnklahcegahiaaDoorRows.lean that lists a variable, with what it lists TIED to the program's text (the seventh form; the later family's looks); each row that meets fmt, with fmt's text TOLD by the authors' own Lean function (tested against real Go, not proved from fmt's source: count such statements apart). THE CARD IS WHAT COUNTS. Prove the row's statement (the work); the ties are given (YtpnklahcegahiaaDoorTie.lean); close each card by the builder's one call (the guide's Derived/Test/ToyasCard.lean, 'card_holds'). Laid BY PROGRAM, IN A SANDBOX (cutbox-door.mjs). By AI agents, Wed Nov 11 2026. No macro, syntax, notation, axiom, sorry.
-/
import Derived.Test.YtpnklahcegahiaaDoorRows
import GoSem.ClaimSeven
namespace Go.Proofs.YtpnklahcegahiaaDoor
namespace Rows

/-- THE TIED CARD OF 'stemlaw4.BitmapReadMatchesReference'. -/
def bitmapReadMatchesReferenceCard : Claim7 := { stood := { row := bitmapReadMatchesReferenceRow, standIns := [], harness := (true, "a054bfd80735fe1c6027636c512c7e18a6b002dc1b4b7da6beaffcd652518a42"), looks := false }, kinds := [], alts := [], laidByText := true, laidKinds := [.data], laidTests := true, laidLooks := .later }
def BitmapReadMatchesReferenceCardSaid : Prop := Claim7.holds Tryd.pinned (.plain (OpenSpec.ofChange bitmapReadMatchesReferenceSpec)) bitmapReadMatchesReferenceCard

/-- THE TIED CARD OF 'stemlaw2.EvolutionStepsMatchReference'. -/
def evolutionStepsMatchReferenceCard : Claim7 := { stood := { row := evolutionStepsMatchReferenceRow, standIns := [], harness := (true, "a054bfd80735fe1c6027636c512c7e18a6b002dc1b4b7da6beaffcd652518a42"), looks := false }, kinds := [], alts := [], laidByText := true, laidKinds := [.data, .data, .data], laidTests := true, laidLooks := .later }
def EvolutionStepsMatchReferenceCardSaid : Prop := Claim7.holds Tryd.pinned (.plain (OpenSpec.ofChange evolutionStepsMatchReferenceSpec)) evolutionStepsMatchReferenceCard

/-- THE TIED CARD OF 'stemlaw4.EncodingInstanceMatchesReference'. -/
def encodingInstanceMatchesReferenceCard : Claim7 := { stood := { row := encodingInstanceMatchesReferenceRow, standIns := [], harness := (true, "a054bfd80735fe1c6027636c512c7e18a6b002dc1b4b7da6beaffcd652518a42"), looks := false }, kinds := [], alts := [], laidByText := true, laidKinds := [.data, .pinned], laidTests := true, laidLooks := .later }
def EncodingInstanceMatchesReferenceCardSaid : Prop := Claim7.holds Tryd.pinned (.plain (OpenSpec.ofChange encodingInstanceMatchesReferenceSpec)) encodingInstanceMatchesReferenceCard

/-- THE TIED CARD OF 'stemlaw4.EncodingChangesMatchReference'. -/
def encodingChangesMatchReferenceCard : Claim7 := { stood := { row := encodingChangesMatchReferenceRow, standIns := [], harness := (true, "a054bfd80735fe1c6027636c512c7e18a6b002dc1b4b7da6beaffcd652518a42"), looks := false }, kinds := [], alts := [], laidByText := true, laidKinds := [.data, .pinned], laidTests := true, laidLooks := .later }
def EncodingChangesMatchReferenceCardSaid : Prop := Claim7.holds Tryd.pinned (.plain (OpenSpec.ofChange encodingChangesMatchReferenceSpec)) encodingChangesMatchReferenceCard

/-- THE TIED CARD OF 'stemlaw2.RelationMatchesReference'. -/
def relationMatchesReferenceCard : Claim7 := { stood := { row := relationMatchesReferenceRow, standIns := [], harness := (true, "a054bfd80735fe1c6027636c512c7e18a6b002dc1b4b7da6beaffcd652518a42"), looks := false }, kinds := [], alts := [], laidByText := true, laidKinds := [.data, .data, .data], laidTests := true, laidLooks := .later }
def RelationMatchesReferenceCardSaid : Prop := Claim7.holds Tryd.pinned (.plain (OpenSpec.ofChange relationMatchesReferenceSpec)) relationMatchesReferenceCard

/-- THE SECOND FORM's CARD OF 'stemlaw4.BitmapReadMatchesReference'. -/
def bitmapReadMatchesReferenceUptoCard : Claim7 := { stood := { row := bitmapReadMatchesReferenceUptoRow, standIns := [], harness := (true, "a054bfd80735fe1c6027636c512c7e18a6b002dc1b4b7da6beaffcd652518a42"), looks := false }, kinds := [], alts := [], laidByText := true, laidKinds := [.data], laidTests := true, laidLooks := .later }
def BitmapReadMatchesReferenceUptoCardSaid : Prop := Claim7.holds Tryd.pinned (.plain (OpenSpec.upto bitmapReadMatchesReferenceSpec)) bitmapReadMatchesReferenceUptoCard

/-- THE SECOND FORM's CARD OF 'stemlaw2.EvolutionStepsMatchReference'. -/
def evolutionStepsMatchReferenceUptoCard : Claim7 := { stood := { row := evolutionStepsMatchReferenceUptoRow, standIns := [], harness := (true, "a054bfd80735fe1c6027636c512c7e18a6b002dc1b4b7da6beaffcd652518a42"), looks := false }, kinds := [], alts := [], laidByText := true, laidKinds := [.data, .data, .data], laidTests := true, laidLooks := .later }
def EvolutionStepsMatchReferenceUptoCardSaid : Prop := Claim7.holds Tryd.pinned (.plain (OpenSpec.upto evolutionStepsMatchReferenceSpec)) evolutionStepsMatchReferenceUptoCard

/-- THE SECOND FORM's CARD OF 'stemlaw4.EncodingInstanceMatchesReference'. -/
def encodingInstanceMatchesReferenceUptoCard : Claim7 := { stood := { row := encodingInstanceMatchesReferenceUptoRow, standIns := [], harness := (true, "a054bfd80735fe1c6027636c512c7e18a6b002dc1b4b7da6beaffcd652518a42"), looks := false }, kinds := [], alts := [], laidByText := true, laidKinds := [.data, .pinned], laidTests := true, laidLooks := .later }
def EncodingInstanceMatchesReferenceUptoCardSaid : Prop := Claim7.holds Tryd.pinned (.plain (OpenSpec.upto encodingInstanceMatchesReferenceSpec)) encodingInstanceMatchesReferenceUptoCard

/-- THE SECOND FORM's CARD OF 'stemlaw4.EncodingChangesMatchReference'. -/
def encodingChangesMatchReferenceUptoCard : Claim7 := { stood := { row := encodingChangesMatchReferenceUptoRow, standIns := [], harness := (true, "a054bfd80735fe1c6027636c512c7e18a6b002dc1b4b7da6beaffcd652518a42"), looks := false }, kinds := [], alts := [], laidByText := true, laidKinds := [.data, .pinned], laidTests := true, laidLooks := .later }
def EncodingChangesMatchReferenceUptoCardSaid : Prop := Claim7.holds Tryd.pinned (.plain (OpenSpec.upto encodingChangesMatchReferenceSpec)) encodingChangesMatchReferenceUptoCard

/-- THE SECOND FORM's CARD OF 'stemlaw2.RelationMatchesReference'. -/
def relationMatchesReferenceUptoCard : Claim7 := { stood := { row := relationMatchesReferenceUptoRow, standIns := [], harness := (true, "a054bfd80735fe1c6027636c512c7e18a6b002dc1b4b7da6beaffcd652518a42"), looks := false }, kinds := [], alts := [], laidByText := true, laidKinds := [.data, .data, .data], laidTests := true, laidLooks := .later }
def RelationMatchesReferenceUptoCardSaid : Prop := Claim7.holds Tryd.pinned (.plain (OpenSpec.upto relationMatchesReferenceSpec)) relationMatchesReferenceUptoCard
end Rows
end Go.Proofs.YtpnklahcegahiaaDoor
