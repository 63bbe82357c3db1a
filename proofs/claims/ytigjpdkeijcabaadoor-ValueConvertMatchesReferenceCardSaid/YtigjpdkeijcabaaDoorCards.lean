/-
  DERIVED. GIVEN WITH THE SEED: THE CARDS: each row of YtigjpdkeijcabaaDoorRows.lean that lists a variable, with what it lists TIED to the program's text (the seventh form; the later family's looks); each row that meets fmt, with fmt's text TOLD by the authors' own Lean function (tested against real Go, not proved from fmt's source: count such statements apart). THE CARD IS WHAT COUNTS. Prove the row's statement (the work); the ties are given (YtigjpdkeijcabaaDoorTie.lean); close each card by the builder's one call (the guide's Derived/Test/ToyasCard.lean, 'card_holds'). Laid BY PROGRAM, IN A SANDBOX (cutbox-door.mjs). By AI agents, Wed Nov 11 2026. No macro, syntax, notation, axiom, sorry.
-/
import Derived.Test.YtigjpdkeijcabaaDoorRows
import GoSem.ClaimSeven
namespace Go.Proofs.YtigjpdkeijcabaaDoor
namespace Rows

/-- THE TIED CARD OF 'stemlaw4.ComplementStoreEncodingMatchesReference'. -/
def complementStoreEncodingMatchesReferenceCard : Claim7 := { stood := { row := complementStoreEncodingMatchesReferenceRow, standIns := [], harness := (true, "cc8913ae4b01af0b760641800b1c9dc8030699ebb4949e512a500cd41a8b4df0"), looks := true }, kinds := [], alts := [], laidByText := true, laidKinds := [.data, .pinned], laidTests := true, laidLooks := .later }
def ComplementStoreEncodingMatchesReferenceCardSaid : Prop := Claim7.holds Tryd.pinned (.plain (OpenSpec.ofChange complementStoreEncodingMatchesReferenceSpec)) complementStoreEncodingMatchesReferenceCard

/-- THE TIED CARD OF 'stemlaw2.ValueConvertMatchesReference'. -/
def valueConvertMatchesReferenceCard : Claim7 := { stood := { row := valueConvertMatchesReferenceRow, standIns := [], harness := (true, "cc8913ae4b01af0b760641800b1c9dc8030699ebb4949e512a500cd41a8b4df0"), looks := true }, kinds := [], alts := [], laidByText := true, laidKinds := [.data, .data, .data, .sentinel, .sentinel], laidTests := true, laidLooks := .later }
def ValueConvertMatchesReferenceCardSaid : Prop := Claim7.holds Tryd.pinned (.plain (OpenSpec.ofChange valueConvertMatchesReferenceSpec)) valueConvertMatchesReferenceCard

/-- THE SECOND FORM's CARD OF 'stemlaw4.ComplementStoreEncodingMatchesReference'. -/
def complementStoreEncodingMatchesReferenceUptoCard : Claim7 := { stood := { row := complementStoreEncodingMatchesReferenceUptoRow, standIns := [], harness := (true, "cc8913ae4b01af0b760641800b1c9dc8030699ebb4949e512a500cd41a8b4df0"), looks := true }, kinds := [], alts := [], laidByText := true, laidKinds := [.data, .pinned], laidTests := true, laidLooks := .later }
def ComplementStoreEncodingMatchesReferenceUptoCardSaid : Prop := Claim7.holds Tryd.pinned (.plain (OpenSpec.upto complementStoreEncodingMatchesReferenceSpec)) complementStoreEncodingMatchesReferenceUptoCard

/-- THE SECOND FORM's CARD OF 'stemlaw2.ValueConvertMatchesReference'. -/
def valueConvertMatchesReferenceUptoCard : Claim7 := { stood := { row := valueConvertMatchesReferenceUptoRow, standIns := [], harness := (true, "cc8913ae4b01af0b760641800b1c9dc8030699ebb4949e512a500cd41a8b4df0"), looks := true }, kinds := [], alts := [], laidByText := true, laidKinds := [.data, .data, .data, .sentinel, .sentinel], laidTests := true, laidLooks := .later }
def ValueConvertMatchesReferenceUptoCardSaid : Prop := Claim7.holds Tryd.pinned (.plain (OpenSpec.upto valueConvertMatchesReferenceSpec)) valueConvertMatchesReferenceUptoCard
end Rows
end Go.Proofs.YtigjpdkeijcabaaDoor
