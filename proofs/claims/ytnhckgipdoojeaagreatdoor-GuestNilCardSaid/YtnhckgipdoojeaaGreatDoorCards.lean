/-
  DERIVED. GIVEN WITH THE SEED: THE CARDS: each row of YtnhckgipdoojeaaGreatDoorRows.lean that lists a variable, with what it lists TIED to the program's text (the seventh form; the later family's looks); each row that meets fmt, with fmt's text TOLD by the authors' own Lean function (tested against real Go, not proved from fmt's source: count such statements apart). THE CARD IS WHAT COUNTS. Prove the row's statement (the work); the ties are given (YtnhckgipdoojeaaGreatDoorTie.lean); close each card by the builder's one call (the guide's Derived/Test/ToyasCard.lean, 'card_holds'). Laid BY PROGRAM, IN A SANDBOX (cutbox-door.mjs). By AI agents, Wed Nov 11 2026. No macro, syntax, notation, axiom, sorry.
-/
import Derived.Test.YtnhckgipdoojeaaGreatDoorRows
import GoSem.ClaimSeven
namespace Go.Proofs.YtnhckgipdoojeaaGreatDoor
namespace Rows

/-- THE TIED CARD OF 'ostiarylaw26.GuestNil'. -/
def guestNilCard : Claim7 := { stood := { row := guestNilRow, standIns := [], harness := (true, "e3f3b718f2b5f08af1e86183515f0c9f3d19d489a2cb3dd86e6d9d020df7fe3f"), looks := true }, kinds := [], alts := [], laidByText := true, laidKinds := [.data, .data, .data, .data, .sentinel, .sentinel, .data, .data, .widerDeep, .widerDeep, .widerDeep, .data, .pinned], laidTests := true, laidLooks := .later }
def GuestNilCardSaid : Prop := Claim7.holds Tryz.pinned (.plain (OpenSpec.ofChange guestNilSpec)) guestNilCard

/-- THE TIED CARD OF 'ostiarylaw26.GuestOnce'. -/
def guestOnceCard : Claim7 := { stood := { row := guestOnceRow, standIns := [], harness := (true, "e3f3b718f2b5f08af1e86183515f0c9f3d19d489a2cb3dd86e6d9d020df7fe3f"), looks := true }, kinds := [], alts := [], laidByText := true, laidKinds := [.data, .data, .data, .data, .sentinel, .sentinel, .data, .data, .widerDeep, .widerDeep, .widerDeep, .data, .pinned], laidTests := true, laidLooks := .later }
def GuestOnceCardSaid : Prop := Claim7.holds Tryz.pinned (.plain (OpenSpec.ofChange guestOnceSpec)) guestOnceCard

/-- THE SECOND FORM's CARD OF 'ostiarylaw26.GuestNil'. -/
def guestNilUptoCard : Claim7 := { stood := { row := guestNilUptoRow, standIns := [], harness := (true, "e3f3b718f2b5f08af1e86183515f0c9f3d19d489a2cb3dd86e6d9d020df7fe3f"), looks := true }, kinds := [], alts := [], laidByText := true, laidKinds := [.data, .data, .data, .data, .sentinel, .sentinel, .data, .data, .widerDeep, .widerDeep, .widerDeep, .data, .pinned], laidTests := true, laidLooks := .later }
def GuestNilUptoCardSaid : Prop := Claim7.holds Tryz.pinned (.plain (OpenSpec.upto guestNilSpec)) guestNilUptoCard

/-- THE SECOND FORM's CARD OF 'ostiarylaw26.GuestOnce'. -/
def guestOnceUptoCard : Claim7 := { stood := { row := guestOnceUptoRow, standIns := [], harness := (true, "e3f3b718f2b5f08af1e86183515f0c9f3d19d489a2cb3dd86e6d9d020df7fe3f"), looks := true }, kinds := [], alts := [], laidByText := true, laidKinds := [.data, .data, .data, .data, .sentinel, .sentinel, .data, .data, .widerDeep, .widerDeep, .widerDeep, .data, .pinned], laidTests := true, laidLooks := .later }
def GuestOnceUptoCardSaid : Prop := Claim7.holds Tryz.pinned (.plain (OpenSpec.upto guestOnceSpec)) guestOnceUptoCard
end Rows
end Go.Proofs.YtnhckgipdoojeaaGreatDoor
