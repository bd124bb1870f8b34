/-
  DERIVED. GIVEN WITH THE SEED: THE CARDS: each row of YteenjgfbbkdlhaaGreatDoorRows.lean that lists a variable, with what it lists TIED to the program's text (the seventh form; the later family's looks); each row that meets fmt, with fmt's text TOLD by the authors' own Lean function (tested against real Go, not proved from fmt's source: count such statements apart). THE CARD IS WHAT COUNTS. Prove the row's statement (the work); the ties are given (YteenjgfbbkdlhaaGreatDoorTie.lean); close each card by the builder's one call (the guide's Derived/Test/ToyasCard.lean, 'card_holds'). Laid BY PROGRAM, IN A SANDBOX (cutbox-door.mjs). By AI agents, Wed Nov 11 2026. No macro, syntax, notation, axiom, sorry.
-/
import Derived.Test.YteenjgfbbkdlhaaGreatDoorRows
import GoSem.ClaimSeven
namespace Go.Proofs.YteenjgfbbkdlhaaGreatDoor
namespace Rows

/-- THE TIED CARD OF 'ostiarylaw24.OrderVerbs'. -/
def orderVerbsCard : Claim7 := { stood := { row := orderVerbsRow, standIns := [], harness := (true, "e6545939ca299f1c3c37d4c72921c1ba6377312b03b9a05919c3368e61feaa34"), looks := true }, kinds := [], alts := [], laidByText := true, laidKinds := [.data, .data, .data, .data, .sentinel, .sentinel, .data, .data, .widerDeep, .widerDeep, .widerDeep, .data, .data, .pinned], laidTests := true, laidLooks := .later }
def OrderVerbsCardSaid : Prop := Claim7.holds Tryz.pinned (.plain (OpenSpec.ofChange orderVerbsSpec)) orderVerbsCard

/-- THE TIED CARD OF 'ostiarylaw24.OrderBare'. -/
def orderBareCard : Claim7 := { stood := { row := orderBareRow, standIns := [], harness := (true, "e6545939ca299f1c3c37d4c72921c1ba6377312b03b9a05919c3368e61feaa34"), looks := true }, kinds := [], alts := [], laidByText := true, laidKinds := [.data, .data, .data, .data, .sentinel, .sentinel, .data, .data, .widerDeep, .widerDeep, .widerDeep, .data, .data, .pinned], laidTests := true, laidLooks := .later }
def OrderBareCardSaid : Prop := Claim7.holds Tryz.pinned (.plain (OpenSpec.ofChange orderBareSpec)) orderBareCard

/-- THE TIED CARD OF 'ostiarylaw24.OrderReads'. -/
def orderReadsCard : Claim7 := { stood := { row := orderReadsRow, standIns := [], harness := (true, "e6545939ca299f1c3c37d4c72921c1ba6377312b03b9a05919c3368e61feaa34"), looks := true }, kinds := [], alts := [], laidByText := true, laidKinds := [.data, .data, .data, .data, .sentinel, .sentinel, .data, .data, .widerDeep, .widerDeep, .widerDeep, .data, .data, .pinned], laidTests := true, laidLooks := .later }
def OrderReadsCardSaid : Prop := Claim7.holds Tryz.pinned (.plain (OpenSpec.ofChange orderReadsSpec)) orderReadsCard

/-- THE TIED CARD OF 'ostiarylaw24.OrderTexts'. -/
def orderTextsCard : Claim7 := { stood := { row := orderTextsRow, standIns := [], harness := (true, "e6545939ca299f1c3c37d4c72921c1ba6377312b03b9a05919c3368e61feaa34"), looks := true }, kinds := [], alts := [], laidByText := true, laidKinds := [.data, .data, .data, .data, .sentinel, .sentinel, .data, .data, .widerDeep, .widerDeep, .widerDeep, .data, .data, .pinned], laidTests := true, laidLooks := .later }
def OrderTextsCardSaid : Prop := Claim7.holds Tryz.pinned (.plain (OpenSpec.ofChange orderTextsSpec)) orderTextsCard

/-- THE SECOND FORM's CARD OF 'ostiarylaw24.OrderVerbs'. -/
def orderVerbsUptoCard : Claim7 := { stood := { row := orderVerbsUptoRow, standIns := [], harness := (true, "e6545939ca299f1c3c37d4c72921c1ba6377312b03b9a05919c3368e61feaa34"), looks := true }, kinds := [], alts := [], laidByText := true, laidKinds := [.data, .data, .data, .data, .sentinel, .sentinel, .data, .data, .widerDeep, .widerDeep, .widerDeep, .data, .data, .pinned], laidTests := true, laidLooks := .later }
def OrderVerbsUptoCardSaid : Prop := Claim7.holds Tryz.pinned (.plain (OpenSpec.upto orderVerbsSpec)) orderVerbsUptoCard

/-- THE SECOND FORM's CARD OF 'ostiarylaw24.OrderBare'. -/
def orderBareUptoCard : Claim7 := { stood := { row := orderBareUptoRow, standIns := [], harness := (true, "e6545939ca299f1c3c37d4c72921c1ba6377312b03b9a05919c3368e61feaa34"), looks := true }, kinds := [], alts := [], laidByText := true, laidKinds := [.data, .data, .data, .data, .sentinel, .sentinel, .data, .data, .widerDeep, .widerDeep, .widerDeep, .data, .data, .pinned], laidTests := true, laidLooks := .later }
def OrderBareUptoCardSaid : Prop := Claim7.holds Tryz.pinned (.plain (OpenSpec.upto orderBareSpec)) orderBareUptoCard

/-- THE SECOND FORM's CARD OF 'ostiarylaw24.OrderReads'. -/
def orderReadsUptoCard : Claim7 := { stood := { row := orderReadsUptoRow, standIns := [], harness := (true, "e6545939ca299f1c3c37d4c72921c1ba6377312b03b9a05919c3368e61feaa34"), looks := true }, kinds := [], alts := [], laidByText := true, laidKinds := [.data, .data, .data, .data, .sentinel, .sentinel, .data, .data, .widerDeep, .widerDeep, .widerDeep, .data, .data, .pinned], laidTests := true, laidLooks := .later }
def OrderReadsUptoCardSaid : Prop := Claim7.holds Tryz.pinned (.plain (OpenSpec.upto orderReadsSpec)) orderReadsUptoCard

/-- THE SECOND FORM's CARD OF 'ostiarylaw24.OrderTexts'. -/
def orderTextsUptoCard : Claim7 := { stood := { row := orderTextsUptoRow, standIns := [], harness := (true, "e6545939ca299f1c3c37d4c72921c1ba6377312b03b9a05919c3368e61feaa34"), looks := true }, kinds := [], alts := [], laidByText := true, laidKinds := [.data, .data, .data, .data, .sentinel, .sentinel, .data, .data, .widerDeep, .widerDeep, .widerDeep, .data, .data, .pinned], laidTests := true, laidLooks := .later }
def OrderTextsUptoCardSaid : Prop := Claim7.holds Tryz.pinned (.plain (OpenSpec.upto orderTextsSpec)) orderTextsUptoCard
end Rows
end Go.Proofs.YteenjgfbbkdlhaaGreatDoor
