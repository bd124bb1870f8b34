/-
  DERIVED. GIVEN WITH THE SEED: THE CARDS: each row of YtlhcgofdfhfegaaGreatDoorRows.lean that lists a variable, with what it lists TIED to the program's text (the seventh form; the later family's looks); each row that meets fmt, with fmt's text TOLD by the authors' own Lean function (tested against real Go, not proved from fmt's source: count such statements apart). THE CARD IS WHAT COUNTS. Prove the row's statement (the work); the ties are given (YtlhcgofdfhfegaaGreatDoorTie.lean); close each card by the builder's one call (the guide's Derived/Test/ToyasCard.lean, 'card_holds'). Laid BY PROGRAM, IN A SANDBOX (cutbox-door.mjs). By AI agents, Wed Nov 11 2026. No macro, syntax, notation, axiom, sorry.
-/
import Derived.Test.YtlhcgofdfhfegaaGreatDoorRows
import GoSem.ClaimSeven
namespace Go.Proofs.YtlhcgofdfhfegaaGreatDoor
namespace Rows

/-- THE TIED CARD OF 'ostiarylaw18.TicketBodies'. -/
def ticketBodiesCard : Claim7 := { stood := { row := ticketBodiesRow, standIns := [], harness := (true, "e0dce2eb1901b594f362ea26d6de3c6ff4bc8f1135221719e045a08b7565f548"), looks := false }, kinds := [], alts := [], laidByText := true, laidKinds := [.data, .data, .data, .data, .data, .widerDeep, .widerDeep, .widerDeep, .data], laidTests := true, laidLooks := .later }
def TicketBodiesCardSaid : Prop := Claim7.holds Tryz.pinned (.plain (OpenSpec.ofChange ticketBodiesSpec)) ticketBodiesCard

/-- THE TIED CARD OF 'ostiarylaw18.TicketSplits'. -/
def ticketSplitsCard : Claim7 := { stood := { row := ticketSplitsRow, standIns := [], harness := (true, "e0dce2eb1901b594f362ea26d6de3c6ff4bc8f1135221719e045a08b7565f548"), looks := false }, kinds := [], alts := [], laidByText := true, laidKinds := [.data, .data, .data, .data, .data, .widerDeep, .widerDeep, .widerDeep, .data], laidTests := true, laidLooks := .later }
def TicketSplitsCardSaid : Prop := Claim7.holds Tryz.pinned (.plain (OpenSpec.ofChange ticketSplitsSpec)) ticketSplitsCard

/-- THE TIED CARD OF 'ostiarylaw18.TicketOpens'. -/
def ticketOpensCard : Claim7 := { stood := { row := ticketOpensRow, standIns := [], harness := (true, "e0dce2eb1901b594f362ea26d6de3c6ff4bc8f1135221719e045a08b7565f548"), looks := false }, kinds := [], alts := [], laidByText := true, laidKinds := [.data, .data, .data, .data, .data, .widerDeep, .widerDeep, .widerDeep, .data], laidTests := true, laidLooks := .later }
def TicketOpensCardSaid : Prop := Claim7.holds Tryz.pinned (.plain (OpenSpec.ofChange ticketOpensSpec)) ticketOpensCard

/-- THE TIED CARD OF 'ostiarylaw18.TicketForged'. -/
def ticketForgedCard : Claim7 := { stood := { row := ticketForgedRow, standIns := [], harness := (true, "e0dce2eb1901b594f362ea26d6de3c6ff4bc8f1135221719e045a08b7565f548"), looks := false }, kinds := [], alts := [], laidByText := true, laidKinds := [.data, .data, .data, .data, .data, .widerDeep, .widerDeep, .widerDeep, .data], laidTests := true, laidLooks := .later }
def TicketForgedCardSaid : Prop := Claim7.holds Tryz.pinned (.plain (OpenSpec.ofChange ticketForgedSpec)) ticketForgedCard

/-- THE TIED CARD OF 'ostiarylaw18.TicketNil'. -/
def ticketNilCard : Claim7 := { stood := { row := ticketNilRow, standIns := [], harness := (true, "e0dce2eb1901b594f362ea26d6de3c6ff4bc8f1135221719e045a08b7565f548"), looks := false }, kinds := [], alts := [], laidByText := true, laidKinds := [.data, .data, .data, .data, .data, .widerDeep, .widerDeep, .widerDeep, .data], laidTests := true, laidLooks := .later }
def TicketNilCardSaid : Prop := Claim7.holds Tryz.pinned (.plain (OpenSpec.ofChange ticketNilSpec)) ticketNilCard

/-- THE TIED CARD OF 'ostiarylaw18.TicketPlays'. -/
def ticketPlaysCard : Claim7 := { stood := { row := ticketPlaysRow, standIns := [], harness := (true, "e0dce2eb1901b594f362ea26d6de3c6ff4bc8f1135221719e045a08b7565f548"), looks := false }, kinds := [], alts := [], laidByText := true, laidKinds := [.data, .data, .data, .data, .data, .data, .widerDeep, .widerDeep, .widerDeep, .data], laidTests := true, laidLooks := .later }
def TicketPlaysCardSaid : Prop := Claim7.holds Tryz.pinned (.plain (OpenSpec.ofChange ticketPlaysSpec)) ticketPlaysCard

/-- THE SECOND FORM's CARD OF 'ostiarylaw18.TicketBodies'. -/
def ticketBodiesUptoCard : Claim7 := { stood := { row := ticketBodiesUptoRow, standIns := [], harness := (true, "e0dce2eb1901b594f362ea26d6de3c6ff4bc8f1135221719e045a08b7565f548"), looks := false }, kinds := [], alts := [], laidByText := true, laidKinds := [.data, .data, .data, .data, .data, .widerDeep, .widerDeep, .widerDeep, .data], laidTests := true, laidLooks := .later }
def TicketBodiesUptoCardSaid : Prop := Claim7.holds Tryz.pinned (.plain (OpenSpec.upto ticketBodiesSpec)) ticketBodiesUptoCard

/-- THE SECOND FORM's CARD OF 'ostiarylaw18.TicketSplits'. -/
def ticketSplitsUptoCard : Claim7 := { stood := { row := ticketSplitsUptoRow, standIns := [], harness := (true, "e0dce2eb1901b594f362ea26d6de3c6ff4bc8f1135221719e045a08b7565f548"), looks := false }, kinds := [], alts := [], laidByText := true, laidKinds := [.data, .data, .data, .data, .data, .widerDeep, .widerDeep, .widerDeep, .data], laidTests := true, laidLooks := .later }
def TicketSplitsUptoCardSaid : Prop := Claim7.holds Tryz.pinned (.plain (OpenSpec.upto ticketSplitsSpec)) ticketSplitsUptoCard

/-- THE SECOND FORM's CARD OF 'ostiarylaw18.TicketOpens'. -/
def ticketOpensUptoCard : Claim7 := { stood := { row := ticketOpensUptoRow, standIns := [], harness := (true, "e0dce2eb1901b594f362ea26d6de3c6ff4bc8f1135221719e045a08b7565f548"), looks := false }, kinds := [], alts := [], laidByText := true, laidKinds := [.data, .data, .data, .data, .data, .widerDeep, .widerDeep, .widerDeep, .data], laidTests := true, laidLooks := .later }
def TicketOpensUptoCardSaid : Prop := Claim7.holds Tryz.pinned (.plain (OpenSpec.upto ticketOpensSpec)) ticketOpensUptoCard

/-- THE SECOND FORM's CARD OF 'ostiarylaw18.TicketForged'. -/
def ticketForgedUptoCard : Claim7 := { stood := { row := ticketForgedUptoRow, standIns := [], harness := (true, "e0dce2eb1901b594f362ea26d6de3c6ff4bc8f1135221719e045a08b7565f548"), looks := false }, kinds := [], alts := [], laidByText := true, laidKinds := [.data, .data, .data, .data, .data, .widerDeep, .widerDeep, .widerDeep, .data], laidTests := true, laidLooks := .later }
def TicketForgedUptoCardSaid : Prop := Claim7.holds Tryz.pinned (.plain (OpenSpec.upto ticketForgedSpec)) ticketForgedUptoCard

/-- THE SECOND FORM's CARD OF 'ostiarylaw18.TicketNil'. -/
def ticketNilUptoCard : Claim7 := { stood := { row := ticketNilUptoRow, standIns := [], harness := (true, "e0dce2eb1901b594f362ea26d6de3c6ff4bc8f1135221719e045a08b7565f548"), looks := false }, kinds := [], alts := [], laidByText := true, laidKinds := [.data, .data, .data, .data, .data, .widerDeep, .widerDeep, .widerDeep, .data], laidTests := true, laidLooks := .later }
def TicketNilUptoCardSaid : Prop := Claim7.holds Tryz.pinned (.plain (OpenSpec.upto ticketNilSpec)) ticketNilUptoCard

/-- THE SECOND FORM's CARD OF 'ostiarylaw18.TicketPlays'. -/
def ticketPlaysUptoCard : Claim7 := { stood := { row := ticketPlaysUptoRow, standIns := [], harness := (true, "e0dce2eb1901b594f362ea26d6de3c6ff4bc8f1135221719e045a08b7565f548"), looks := false }, kinds := [], alts := [], laidByText := true, laidKinds := [.data, .data, .data, .data, .data, .data, .widerDeep, .widerDeep, .widerDeep, .data], laidTests := true, laidLooks := .later }
def TicketPlaysUptoCardSaid : Prop := Claim7.holds Tryz.pinned (.plain (OpenSpec.upto ticketPlaysSpec)) ticketPlaysUptoCard
end Rows
end Go.Proofs.YtlhcgofdfhfegaaGreatDoor
