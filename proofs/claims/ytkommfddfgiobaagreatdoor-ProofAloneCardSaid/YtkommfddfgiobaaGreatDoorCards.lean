/-
  DERIVED. GIVEN WITH THE SEED: THE CARDS: each row of YtkommfddfgiobaaGreatDoorRows.lean that lists a variable, with what it lists TIED to the program's text (the seventh form; the later family's looks); each row that meets fmt, with fmt's text TOLD by the authors' own Lean function (tested against real Go, not proved from fmt's source: count such statements apart). THE CARD IS WHAT COUNTS. Prove the row's statement (the work); the ties are given (YtkommfddfgiobaaGreatDoorTie.lean); close each card by the builder's one call (the guide's Derived/Test/ToyasCard.lean, 'card_holds'). Laid BY PROGRAM, IN A SANDBOX (cutbox-door.mjs). By AI agents, Wed Nov 11 2026. No macro, syntax, notation, axiom, sorry.
-/
import Derived.Test.YtkommfddfgiobaaGreatDoorRows
import GoSem.ClaimSeven
namespace Go.Proofs.YtkommfddfgiobaaGreatDoor
namespace Rows

/-- THE TIED CARD OF 'ostiarylaw19.ProofClients'. -/
def proofClientsCard : Claim7 := { stood := { row := proofClientsRow, standIns := [], harness := (true, "dbaf79673db563dbbeb02ace36d6c6098e4ccccdfdd7ce9a01226ee852f46e1e"), looks := false }, kinds := [], alts := [], laidByText := true, laidKinds := [.data, .data, .data, .widerDeep, .widerDeep, .widerDeep, .data], laidTests := true, laidLooks := .later }
def ProofClientsCardSaid : Prop := Claim7.holds Tryz.pinned (.plain (OpenSpec.ofChange proofClientsSpec)) proofClientsCard

/-- THE TIED CARD OF 'ostiarylaw19.ProofKnows'. -/
def proofKnowsCard : Claim7 := { stood := { row := proofKnowsRow, standIns := [], harness := (true, "dbaf79673db563dbbeb02ace36d6c6098e4ccccdfdd7ce9a01226ee852f46e1e"), looks := false }, kinds := [], alts := [], laidByText := true, laidKinds := [.data, .data, .widerDeep, .widerDeep, .widerDeep, .data], laidTests := true, laidLooks := .later }
def ProofKnowsCardSaid : Prop := Claim7.holds Tryz.pinned (.plain (OpenSpec.ofChange proofKnowsSpec)) proofKnowsCard

/-- THE TIED CARD OF 'ostiarylaw19.ProofAlone'. -/
def proofAloneCard : Claim7 := { stood := { row := proofAloneRow, standIns := [], harness := (true, "dbaf79673db563dbbeb02ace36d6c6098e4ccccdfdd7ce9a01226ee852f46e1e"), looks := false }, kinds := [], alts := [], laidByText := true, laidKinds := [.data, .data, .widerDeep, .widerDeep, .widerDeep, .data], laidTests := true, laidLooks := .later }
def ProofAloneCardSaid : Prop := Claim7.holds Tryz.pinned (.plain (OpenSpec.ofChange proofAloneSpec)) proofAloneCard

/-- THE TIED CARD OF 'ostiarylaw17.RingPlays'. -/
def ringPlaysCard : Claim7 := { stood := { row := ringPlaysRow, standIns := [], harness := (true, "dbaf79673db563dbbeb02ace36d6c6098e4ccccdfdd7ce9a01226ee852f46e1e"), looks := false }, kinds := [], alts := [], laidByText := true, laidKinds := [.data, .data, .data, .data, .data, .data], laidTests := true, laidLooks := .later }
def RingPlaysCardSaid : Prop := Claim7.holds Tryz.pinned (.plain (OpenSpec.ofChange ringPlaysSpec)) ringPlaysCard

/-- THE SECOND FORM's CARD OF 'ostiarylaw19.ProofClients'. -/
def proofClientsUptoCard : Claim7 := { stood := { row := proofClientsUptoRow, standIns := [], harness := (true, "dbaf79673db563dbbeb02ace36d6c6098e4ccccdfdd7ce9a01226ee852f46e1e"), looks := false }, kinds := [], alts := [], laidByText := true, laidKinds := [.data, .data, .data, .widerDeep, .widerDeep, .widerDeep, .data], laidTests := true, laidLooks := .later }
def ProofClientsUptoCardSaid : Prop := Claim7.holds Tryz.pinned (.plain (OpenSpec.upto proofClientsSpec)) proofClientsUptoCard

/-- THE SECOND FORM's CARD OF 'ostiarylaw19.ProofKnows'. -/
def proofKnowsUptoCard : Claim7 := { stood := { row := proofKnowsUptoRow, standIns := [], harness := (true, "dbaf79673db563dbbeb02ace36d6c6098e4ccccdfdd7ce9a01226ee852f46e1e"), looks := false }, kinds := [], alts := [], laidByText := true, laidKinds := [.data, .data, .widerDeep, .widerDeep, .widerDeep, .data], laidTests := true, laidLooks := .later }
def ProofKnowsUptoCardSaid : Prop := Claim7.holds Tryz.pinned (.plain (OpenSpec.upto proofKnowsSpec)) proofKnowsUptoCard

/-- THE SECOND FORM's CARD OF 'ostiarylaw19.ProofAlone'. -/
def proofAloneUptoCard : Claim7 := { stood := { row := proofAloneUptoRow, standIns := [], harness := (true, "dbaf79673db563dbbeb02ace36d6c6098e4ccccdfdd7ce9a01226ee852f46e1e"), looks := false }, kinds := [], alts := [], laidByText := true, laidKinds := [.data, .data, .widerDeep, .widerDeep, .widerDeep, .data], laidTests := true, laidLooks := .later }
def ProofAloneUptoCardSaid : Prop := Claim7.holds Tryz.pinned (.plain (OpenSpec.upto proofAloneSpec)) proofAloneUptoCard

/-- THE SECOND FORM's CARD OF 'ostiarylaw17.RingPlays'. -/
def ringPlaysUptoCard : Claim7 := { stood := { row := ringPlaysUptoRow, standIns := [], harness := (true, "dbaf79673db563dbbeb02ace36d6c6098e4ccccdfdd7ce9a01226ee852f46e1e"), looks := false }, kinds := [], alts := [], laidByText := true, laidKinds := [.data, .data, .data, .data, .data, .data], laidTests := true, laidLooks := .later }
def RingPlaysUptoCardSaid : Prop := Claim7.holds Tryz.pinned (.plain (OpenSpec.upto ringPlaysSpec)) ringPlaysUptoCard
end Rows
end Go.Proofs.YtkommfddfgiobaaGreatDoor
