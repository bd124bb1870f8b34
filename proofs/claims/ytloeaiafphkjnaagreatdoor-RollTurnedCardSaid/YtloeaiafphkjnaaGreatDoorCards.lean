/-
  DERIVED. GIVEN WITH THE SEED: THE CARDS: each row of YtloeaiafphkjnaaGreatDoorRows.lean that lists a variable, with what it lists TIED to the program's text (the seventh form; the later family's looks); each row that meets fmt, with fmt's text TOLD by the authors' own Lean function (tested against real Go, not proved from fmt's source: count such statements apart). THE CARD IS WHAT COUNTS. Prove the row's statement (the work); the ties are given (YtloeaiafphkjnaaGreatDoorTie.lean); close each card by the builder's one call (the guide's Derived/Test/ToyasCard.lean, 'card_holds'). Laid BY PROGRAM, IN A SANDBOX (cutbox-door.mjs). By AI agents, Wed Nov 11 2026. No macro, syntax, notation, axiom, sorry.
-/
import Derived.Test.YtloeaiafphkjnaaGreatDoorRows
import GoSem.ClaimSeven
namespace Go.Proofs.YtloeaiafphkjnaaGreatDoor
namespace Rows

/-- THE TIED CARD OF 'ostiarylaw15.RollLoads'. -/
def rollLoadsCard : Claim7 := { stood := { row := rollLoadsRow, standIns := [], harness := (true, "88741cba73ef2f4ff328854ac273849b5a32cf735307ccd11b9d06dfb55f900e"), looks := true }, kinds := [], alts := [], laidByText := true, laidKinds := [.data, .data, .data, .data, .data, .sentinel, .sentinel, .data, .data, .widerDeep, .widerDeep, .widerDeep, .data, .pinned], laidTests := true, laidLooks := .later }
def RollLoadsCardSaid : Prop := Claim7.holds Tryz.pinned (.plain (OpenSpec.ofChange rollLoadsSpec)) rollLoadsCard

/-- THE TIED CARD OF 'ostiarylaw15.RollLines'. -/
def rollLinesCard : Claim7 := { stood := { row := rollLinesRow, standIns := [], harness := (true, "88741cba73ef2f4ff328854ac273849b5a32cf735307ccd11b9d06dfb55f900e"), looks := true }, kinds := [], alts := [], laidByText := true, laidKinds := [.data, .data, .data, .data, .data, .sentinel, .sentinel, .data, .data, .widerDeep, .widerDeep, .widerDeep, .data, .pinned], laidTests := true, laidLooks := .later }
def RollLinesCardSaid : Prop := Claim7.holds Tryz.pinned (.plain (OpenSpec.ofChange rollLinesSpec)) rollLinesCard

/-- THE TIED CARD OF 'ostiarylaw15.RollTurned'. -/
def rollTurnedCard : Claim7 := { stood := { row := rollTurnedRow, standIns := [], harness := (true, "88741cba73ef2f4ff328854ac273849b5a32cf735307ccd11b9d06dfb55f900e"), looks := true }, kinds := [], alts := [], laidByText := true, laidKinds := [.data, .data, .data, .data, .data, .sentinel, .sentinel, .data, .data, .widerDeep, .widerDeep, .widerDeep, .data, .pinned], laidTests := true, laidLooks := .later }
def RollTurnedCardSaid : Prop := Claim7.holds Tryz.pinned (.plain (OpenSpec.ofChange rollTurnedSpec)) rollTurnedCard

/-- THE TIED CARD OF 'ostiarylaw15.RollDiffs'. -/
def rollDiffsCard : Claim7 := { stood := { row := rollDiffsRow, standIns := [], harness := (true, "88741cba73ef2f4ff328854ac273849b5a32cf735307ccd11b9d06dfb55f900e"), looks := true }, kinds := [], alts := [], laidByText := true, laidKinds := [.data, .data, .data, .data, .data, .sentinel, .sentinel, .data, .data, .widerDeep, .widerDeep, .widerDeep, .data, .pinned], laidTests := true, laidLooks := .later }
def RollDiffsCardSaid : Prop := Claim7.holds Tryz.pinned (.plain (OpenSpec.ofChange rollDiffsSpec)) rollDiffsCard

/-- THE SECOND FORM's CARD OF 'ostiarylaw15.RollLoads'. -/
def rollLoadsUptoCard : Claim7 := { stood := { row := rollLoadsUptoRow, standIns := [], harness := (true, "88741cba73ef2f4ff328854ac273849b5a32cf735307ccd11b9d06dfb55f900e"), looks := true }, kinds := [], alts := [], laidByText := true, laidKinds := [.data, .data, .data, .data, .data, .sentinel, .sentinel, .data, .data, .widerDeep, .widerDeep, .widerDeep, .data, .pinned], laidTests := true, laidLooks := .later }
def RollLoadsUptoCardSaid : Prop := Claim7.holds Tryz.pinned (.plain (OpenSpec.upto rollLoadsSpec)) rollLoadsUptoCard

/-- THE SECOND FORM's CARD OF 'ostiarylaw15.RollLines'. -/
def rollLinesUptoCard : Claim7 := { stood := { row := rollLinesUptoRow, standIns := [], harness := (true, "88741cba73ef2f4ff328854ac273849b5a32cf735307ccd11b9d06dfb55f900e"), looks := true }, kinds := [], alts := [], laidByText := true, laidKinds := [.data, .data, .data, .data, .data, .sentinel, .sentinel, .data, .data, .widerDeep, .widerDeep, .widerDeep, .data, .pinned], laidTests := true, laidLooks := .later }
def RollLinesUptoCardSaid : Prop := Claim7.holds Tryz.pinned (.plain (OpenSpec.upto rollLinesSpec)) rollLinesUptoCard

/-- THE SECOND FORM's CARD OF 'ostiarylaw15.RollTurned'. -/
def rollTurnedUptoCard : Claim7 := { stood := { row := rollTurnedUptoRow, standIns := [], harness := (true, "88741cba73ef2f4ff328854ac273849b5a32cf735307ccd11b9d06dfb55f900e"), looks := true }, kinds := [], alts := [], laidByText := true, laidKinds := [.data, .data, .data, .data, .data, .sentinel, .sentinel, .data, .data, .widerDeep, .widerDeep, .widerDeep, .data, .pinned], laidTests := true, laidLooks := .later }
def RollTurnedUptoCardSaid : Prop := Claim7.holds Tryz.pinned (.plain (OpenSpec.upto rollTurnedSpec)) rollTurnedUptoCard

/-- THE SECOND FORM's CARD OF 'ostiarylaw15.RollDiffs'. -/
def rollDiffsUptoCard : Claim7 := { stood := { row := rollDiffsUptoRow, standIns := [], harness := (true, "88741cba73ef2f4ff328854ac273849b5a32cf735307ccd11b9d06dfb55f900e"), looks := true }, kinds := [], alts := [], laidByText := true, laidKinds := [.data, .data, .data, .data, .data, .sentinel, .sentinel, .data, .data, .widerDeep, .widerDeep, .widerDeep, .data, .pinned], laidTests := true, laidLooks := .later }
def RollDiffsUptoCardSaid : Prop := Claim7.holds Tryz.pinned (.plain (OpenSpec.upto rollDiffsSpec)) rollDiffsUptoCard
end Rows
end Go.Proofs.YtloeaiafphkjnaaGreatDoor
