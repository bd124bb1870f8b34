/-
  DERIVED. GIVEN WITH THE SEED: THE CARDS: each row of YthkjfepbmnabkaaDoorRows.lean that lists a variable, with what it lists TIED to the program's text (the seventh form; the later family's looks); each row that meets fmt, with fmt's text TOLD by the authors' own Lean function (tested against real Go, not proved from fmt's source: count such statements apart). THE CARD IS WHAT COUNTS. Prove the row's statement (the work); the ties are given (YthkjfepbmnabkaaDoorTie.lean); close each card by the builder's one call (the guide's Derived/Test/ToyasCard.lean, 'card_holds'). Laid BY PROGRAM, IN A SANDBOX (cutbox-door.mjs). By AI agents, Wed Nov 11 2026. No macro, syntax, notation, axiom, sorry.
-/
import Derived.Test.YthkjfepbmnabkaaDoorRows
import GoSem.ClaimSeven
namespace Go.Proofs.YthkjfepbmnabkaaDoor
namespace Rows

/-- THE TIED CARD OF 'ostiarylaw19.ProofDummies'. -/
def proofDummiesCard : Claim7 := { stood := { row := proofDummiesRow, standIns := [], harness := (true, "1187f747fc85e569e7ee7433a2f9bbd829d9b306e403f363464eb034f74ecf3f"), looks := false }, kinds := [], alts := [], laidByText := true, laidKinds := [.data, .data, .data], laidTests := true, laidLooks := .later }
def ProofDummiesCardSaid : Prop := Claim7.holds Tryd.pinned (.plain (OpenSpec.ofChange proofDummiesSpec)) proofDummiesCard

/-- THE TIED CARD OF 'ostiarylaw14.CredForms'. -/
def credFormsCard : Claim7 := { stood := { row := credFormsRow, standIns := [], harness := (true, "1187f747fc85e569e7ee7433a2f9bbd829d9b306e403f363464eb034f74ecf3f"), looks := false }, kinds := [], alts := [], laidByText := true, laidKinds := [.widerDeep, .widerDeep, .widerDeep, .data], laidTests := true, laidLooks := .later }
def CredFormsCardSaid : Prop := Claim7.holds Tryd.pinned (.plain (OpenSpec.ofChange credFormsSpec)) credFormsCard

/-- THE TIED CARD OF 'ostiarylaw05.BoxHandles'. -/
def boxHandlesCard : Claim7 := { stood := { row := boxHandlesRow, standIns := [], harness := (true, "1187f747fc85e569e7ee7433a2f9bbd829d9b306e403f363464eb034f74ecf3f"), looks := false }, kinds := [], alts := [], laidByText := true, laidKinds := [.data, .data], laidTests := true, laidLooks := .later }
def BoxHandlesCardSaid : Prop := Claim7.holds Tryd.pinned (.plain (OpenSpec.ofChange boxHandlesSpec)) boxHandlesCard

/-- THE TIED CARD OF 'ostiarylaw14.CredMost'. -/
def credMostCard : Claim7 := { stood := { row := credMostRow, standIns := [], harness := (true, "1187f747fc85e569e7ee7433a2f9bbd829d9b306e403f363464eb034f74ecf3f"), looks := false }, kinds := [], alts := [], laidByText := true, laidKinds := [.widerDeep, .widerDeep, .widerDeep, .data], laidTests := true, laidLooks := .later }
def CredMostCardSaid : Prop := Claim7.holds Tryd.pinned (.plain (OpenSpec.ofChange credMostSpec)) credMostCard

/-- THE SECOND FORM's CARD OF 'ostiarylaw19.ProofDummies'. -/
def proofDummiesUptoCard : Claim7 := { stood := { row := proofDummiesUptoRow, standIns := [], harness := (true, "1187f747fc85e569e7ee7433a2f9bbd829d9b306e403f363464eb034f74ecf3f"), looks := false }, kinds := [], alts := [], laidByText := true, laidKinds := [.data, .data, .data], laidTests := true, laidLooks := .later }
def ProofDummiesUptoCardSaid : Prop := Claim7.holds Tryd.pinned (.plain (OpenSpec.upto proofDummiesSpec)) proofDummiesUptoCard

/-- THE SECOND FORM's CARD OF 'ostiarylaw14.CredForms'. -/
def credFormsUptoCard : Claim7 := { stood := { row := credFormsUptoRow, standIns := [], harness := (true, "1187f747fc85e569e7ee7433a2f9bbd829d9b306e403f363464eb034f74ecf3f"), looks := false }, kinds := [], alts := [], laidByText := true, laidKinds := [.widerDeep, .widerDeep, .widerDeep, .data], laidTests := true, laidLooks := .later }
def CredFormsUptoCardSaid : Prop := Claim7.holds Tryd.pinned (.plain (OpenSpec.upto credFormsSpec)) credFormsUptoCard

/-- THE SECOND FORM's CARD OF 'ostiarylaw05.BoxHandles'. -/
def boxHandlesUptoCard : Claim7 := { stood := { row := boxHandlesUptoRow, standIns := [], harness := (true, "1187f747fc85e569e7ee7433a2f9bbd829d9b306e403f363464eb034f74ecf3f"), looks := false }, kinds := [], alts := [], laidByText := true, laidKinds := [.data, .data], laidTests := true, laidLooks := .later }
def BoxHandlesUptoCardSaid : Prop := Claim7.holds Tryd.pinned (.plain (OpenSpec.upto boxHandlesSpec)) boxHandlesUptoCard

/-- THE SECOND FORM's CARD OF 'ostiarylaw14.CredMost'. -/
def credMostUptoCard : Claim7 := { stood := { row := credMostUptoRow, standIns := [], harness := (true, "1187f747fc85e569e7ee7433a2f9bbd829d9b306e403f363464eb034f74ecf3f"), looks := false }, kinds := [], alts := [], laidByText := true, laidKinds := [.widerDeep, .widerDeep, .widerDeep, .data], laidTests := true, laidLooks := .later }
def CredMostUptoCardSaid : Prop := Claim7.holds Tryd.pinned (.plain (OpenSpec.upto credMostSpec)) credMostUptoCard
end Rows
end Go.Proofs.YthkjfepbmnabkaaDoor
