/-
  DERIVED. GIVEN WITH THE SEED: THE CARDS: each row of YtikmgiapjigghabDoorRows.lean that lists a variable, with what it lists TIED to the program's text (the seventh form; the later family's looks); each row that meets fmt, with fmt's text TOLD by the authors' own Lean function (tested against real Go, not proved from fmt's source: count such statements apart). THE CARD IS WHAT COUNTS. Prove the row's statement (the work); the ties are given (YtikmgiapjigghabDoorTie.lean); close each card by the builder's one call (the guide's Derived/Test/ToyasCard.lean, 'card_holds'). Laid BY PROGRAM, IN A SANDBOX (cutbox-door.mjs). By AI agents, Wed Nov 11 2026. No macro, syntax, notation, axiom, sorry.
-/
import Derived.Test.YtikmgiapjigghabDoorRows
import GoSem.ClaimSeven
namespace Go.Proofs.YtikmgiapjigghabDoor
namespace Rows

/-- THE TIED CARD OF 'palisadelaw.TextPrints'. -/
def textPrintsCard : Claim7 := { stood := { row := textPrintsRow, standIns := [], harness := (true, "6ba3104b3f6789ba76cc14fdce5735c9148ee5b4ee6d508f1c36a238ed8d1c14"), looks := true }, kinds := [], alts := [], laidByText := true, laidKinds := [.data, .data, .data, .sentinel, .sentinel], laidTests := true, laidLooks := .later }
def TextPrintsCardSaid : Prop := Claim7.holds Tryd.pinned (.plain (OpenSpec.ofChange textPrintsSpec)) textPrintsCard

/-- THE TIED CARD OF 'palisadelaw.TextParses'. -/
def textParsesCard : Claim7 := { stood := { row := textParsesRow, standIns := [], harness := (true, "6ba3104b3f6789ba76cc14fdce5735c9148ee5b4ee6d508f1c36a238ed8d1c14"), looks := true }, kinds := [], alts := [], laidByText := true, laidKinds := [.data, .data, .data, .sentinel, .sentinel], laidTests := true, laidLooks := .later }
def TextParsesCardSaid : Prop := Claim7.holds Tryd.pinned (.plain (OpenSpec.ofChange textParsesSpec)) textParsesCard

/-- THE TIED CARD OF 'palisadelaw.TextBack'. -/
def textBackCard : Claim7 := { stood := { row := textBackRow, standIns := [], harness := (true, "6ba3104b3f6789ba76cc14fdce5735c9148ee5b4ee6d508f1c36a238ed8d1c14"), looks := true }, kinds := [], alts := [], laidByText := true, laidKinds := [.data, .data, .data, .sentinel, .sentinel], laidTests := true, laidLooks := .later }
def TextBackCardSaid : Prop := Claim7.holds Tryd.pinned (.plain (OpenSpec.ofChange textBackSpec)) textBackCard

/-- THE SECOND FORM's CARD OF 'palisadelaw.TextPrints'. -/
def textPrintsUptoCard : Claim7 := { stood := { row := textPrintsUptoRow, standIns := [], harness := (true, "6ba3104b3f6789ba76cc14fdce5735c9148ee5b4ee6d508f1c36a238ed8d1c14"), looks := true }, kinds := [], alts := [], laidByText := true, laidKinds := [.data, .data, .data, .sentinel, .sentinel], laidTests := true, laidLooks := .later }
def TextPrintsUptoCardSaid : Prop := Claim7.holds Tryd.pinned (.plain (OpenSpec.upto textPrintsSpec)) textPrintsUptoCard

/-- THE SECOND FORM's CARD OF 'palisadelaw.TextParses'. -/
def textParsesUptoCard : Claim7 := { stood := { row := textParsesUptoRow, standIns := [], harness := (true, "6ba3104b3f6789ba76cc14fdce5735c9148ee5b4ee6d508f1c36a238ed8d1c14"), looks := true }, kinds := [], alts := [], laidByText := true, laidKinds := [.data, .data, .data, .sentinel, .sentinel], laidTests := true, laidLooks := .later }
def TextParsesUptoCardSaid : Prop := Claim7.holds Tryd.pinned (.plain (OpenSpec.upto textParsesSpec)) textParsesUptoCard

/-- THE SECOND FORM's CARD OF 'palisadelaw.TextBack'. -/
def textBackUptoCard : Claim7 := { stood := { row := textBackUptoRow, standIns := [], harness := (true, "6ba3104b3f6789ba76cc14fdce5735c9148ee5b4ee6d508f1c36a238ed8d1c14"), looks := true }, kinds := [], alts := [], laidByText := true, laidKinds := [.data, .data, .data, .sentinel, .sentinel], laidTests := true, laidLooks := .later }
def TextBackUptoCardSaid : Prop := Claim7.holds Tryd.pinned (.plain (OpenSpec.upto textBackSpec)) textBackUptoCard
end Rows
end Go.Proofs.YtikmgiapjigghabDoor
