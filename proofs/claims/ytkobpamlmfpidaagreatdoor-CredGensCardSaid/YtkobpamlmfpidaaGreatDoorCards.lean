/-
  DERIVED. GIVEN WITH THE SEED: THE CARDS: each row of YtkobpamlmfpidaaGreatDoorRows.lean that lists a variable, with what it lists TIED to the program's text (the seventh form; the later family's looks); each row that meets fmt, with fmt's text TOLD by the authors' own Lean function (tested against real Go, not proved from fmt's source: count such statements apart). THE CARD IS WHAT COUNTS. Prove the row's statement (the work); the ties are given (YtkobpamlmfpidaaGreatDoorTie.lean); close each card by the builder's one call (the guide's Derived/Test/ToyasCard.lean, 'card_holds'). Laid BY PROGRAM, IN A SANDBOX (cutbox-door.mjs). By AI agents, Wed Nov 11 2026. No macro, syntax, notation, axiom, sorry.
-/
import Derived.Test.YtkobpamlmfpidaaGreatDoorRows
import GoSem.ClaimSeven
namespace Go.Proofs.YtkobpamlmfpidaaGreatDoor
namespace Rows

/-- THE TIED CARD OF 'ostiarylaw14.CredGens'. -/
def credGensCard : Claim7 := { stood := { row := credGensRow, standIns := [], harness := (true, "3ce07d1dfa2a19ea5059e2898f7abfd74d19e7ee5a5d430789ce2f70def839cd"), looks := false }, kinds := [], alts := [], laidByText := true, laidKinds := [.widerDeep, .widerDeep, .widerDeep, .data], laidTests := true, laidLooks := .later }
def CredGensCardSaid : Prop := Claim7.holds Tryz.pinned (.plain (OpenSpec.ofChange credGensSpec)) credGensCard

/-- THE TIED CARD OF 'ostiarylaw14.CredPlays'. -/
def credPlaysCard : Claim7 := { stood := { row := credPlaysRow, standIns := [], harness := (true, "3ce07d1dfa2a19ea5059e2898f7abfd74d19e7ee5a5d430789ce2f70def839cd"), looks := false }, kinds := [], alts := [], laidByText := true, laidKinds := [.widerDeep, .widerDeep, .widerDeep, .data], laidTests := true, laidLooks := .later }
def CredPlaysCardSaid : Prop := Claim7.holds Tryz.pinned (.plain (OpenSpec.ofChange credPlaysSpec)) credPlaysCard

/-- THE SECOND FORM's CARD OF 'ostiarylaw14.CredGens'. -/
def credGensUptoCard : Claim7 := { stood := { row := credGensUptoRow, standIns := [], harness := (true, "3ce07d1dfa2a19ea5059e2898f7abfd74d19e7ee5a5d430789ce2f70def839cd"), looks := false }, kinds := [], alts := [], laidByText := true, laidKinds := [.widerDeep, .widerDeep, .widerDeep, .data], laidTests := true, laidLooks := .later }
def CredGensUptoCardSaid : Prop := Claim7.holds Tryz.pinned (.plain (OpenSpec.upto credGensSpec)) credGensUptoCard

/-- THE SECOND FORM's CARD OF 'ostiarylaw14.CredPlays'. -/
def credPlaysUptoCard : Claim7 := { stood := { row := credPlaysUptoRow, standIns := [], harness := (true, "3ce07d1dfa2a19ea5059e2898f7abfd74d19e7ee5a5d430789ce2f70def839cd"), looks := false }, kinds := [], alts := [], laidByText := true, laidKinds := [.widerDeep, .widerDeep, .widerDeep, .data], laidTests := true, laidLooks := .later }
def CredPlaysUptoCardSaid : Prop := Claim7.holds Tryz.pinned (.plain (OpenSpec.upto credPlaysSpec)) credPlaysUptoCard
end Rows
end Go.Proofs.YtkobpamlmfpidaaGreatDoor
