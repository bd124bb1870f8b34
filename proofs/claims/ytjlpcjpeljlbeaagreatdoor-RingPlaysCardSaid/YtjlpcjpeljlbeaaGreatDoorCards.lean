/-
  DERIVED. GIVEN WITH THE SEED: THE CARDS: each row of YtjlpcjpeljlbeaaGreatDoorRows.lean that lists a variable, with what it lists TIED to the program's text (the seventh form; the later family's looks); each row that meets fmt, with fmt's text TOLD by the authors' own Lean function (tested against real Go, not proved from fmt's source: count such statements apart). THE CARD IS WHAT COUNTS. Prove the row's statement (the work); the ties are given (YtjlpcjpeljlbeaaGreatDoorTie.lean); close each card by the builder's one call (the guide's Derived/Test/ToyasCard.lean, 'card_holds'). Laid BY PROGRAM, IN A SANDBOX (cutbox-door.mjs). By AI agents, Wed Nov 11 2026. No macro, syntax, notation, axiom, sorry.
-/
import Derived.Test.YtjlpcjpeljlbeaaGreatDoorRows
import GoSem.ClaimSeven
namespace Go.Proofs.YtjlpcjpeljlbeaaGreatDoor
namespace Rows

/-- THE TIED CARD OF 'ostiarylaw14.CredGens'. -/
def credGensCard : Claim7 := { stood := { row := credGensRow, standIns := [], harness := (true, "ad46b15298a74da31f0de830d9ab317ceb9b688b114dbae5c7420ed4804aae7f"), looks := false }, kinds := [], alts := [], laidByText := true, laidKinds := [.widerDeep, .widerDeep, .widerDeep, .data], laidTests := true, laidLooks := .later }
def CredGensCardSaid : Prop := Claim7.holds Tryz.pinned (.plain (OpenSpec.ofChange credGensSpec)) credGensCard

/-- THE TIED CARD OF 'ostiarylaw14.CredPlays'. -/
def credPlaysCard : Claim7 := { stood := { row := credPlaysRow, standIns := [], harness := (true, "ad46b15298a74da31f0de830d9ab317ceb9b688b114dbae5c7420ed4804aae7f"), looks := false }, kinds := [], alts := [], laidByText := true, laidKinds := [.widerDeep, .widerDeep, .widerDeep, .data], laidTests := true, laidLooks := .later }
def CredPlaysCardSaid : Prop := Claim7.holds Tryz.pinned (.plain (OpenSpec.ofChange credPlaysSpec)) credPlaysCard

/-- THE TIED CARD OF 'ostiarylaw17.RingPlays'. -/
def ringPlaysCard : Claim7 := { stood := { row := ringPlaysRow, standIns := [], harness := (true, "ad46b15298a74da31f0de830d9ab317ceb9b688b114dbae5c7420ed4804aae7f"), looks := false }, kinds := [], alts := [], laidByText := true, laidKinds := [.data, .data, .data, .data, .data, .data], laidTests := true, laidLooks := .later }
def RingPlaysCardSaid : Prop := Claim7.holds Tryz.pinned (.plain (OpenSpec.ofChange ringPlaysSpec)) ringPlaysCard

/-- THE TIED CARD OF 'ostiarylaw28.KnowsKeys'. -/
def knowsKeysCard : Claim7 := { stood := { row := knowsKeysRow, standIns := [], harness := (true, "ad46b15298a74da31f0de830d9ab317ceb9b688b114dbae5c7420ed4804aae7f"), looks := false }, kinds := [], alts := [], laidByText := true, laidKinds := [.data, .data], laidTests := true, laidLooks := .later }
def KnowsKeysCardSaid : Prop := Claim7.holds Tryz.pinned (.plain (OpenSpec.ofChange knowsKeysSpec)) knowsKeysCard

/-- THE TIED CARD OF 'ostiarylaw28.KnowsFinds'. -/
def knowsFindsCard : Claim7 := { stood := { row := knowsFindsRow, standIns := [], harness := (true, "ad46b15298a74da31f0de830d9ab317ceb9b688b114dbae5c7420ed4804aae7f"), looks := false }, kinds := [], alts := [], laidByText := true, laidKinds := [.data, .data], laidTests := true, laidLooks := .later }
def KnowsFindsCardSaid : Prop := Claim7.holds Tryz.pinned (.plain (OpenSpec.ofChange knowsFindsSpec)) knowsFindsCard

/-- THE TIED CARD OF 'ostiarylaw28.KnowsNil'. -/
def knowsNilCard : Claim7 := { stood := { row := knowsNilRow, standIns := [], harness := (true, "ad46b15298a74da31f0de830d9ab317ceb9b688b114dbae5c7420ed4804aae7f"), looks := false }, kinds := [], alts := [], laidByText := true, laidKinds := [.data, .data], laidTests := true, laidLooks := .later }
def KnowsNilCardSaid : Prop := Claim7.holds Tryz.pinned (.plain (OpenSpec.ofChange knowsNilSpec)) knowsNilCard

/-- THE TIED CARD OF 'ostiarylaw28.KnowsMore'. -/
def knowsMoreCard : Claim7 := { stood := { row := knowsMoreRow, standIns := [], harness := (true, "ad46b15298a74da31f0de830d9ab317ceb9b688b114dbae5c7420ed4804aae7f"), looks := false }, kinds := [], alts := [], laidByText := true, laidKinds := [.data, .data, .data], laidTests := true, laidLooks := .later }
def KnowsMoreCardSaid : Prop := Claim7.holds Tryz.pinned (.plain (OpenSpec.ofChange knowsMoreSpec)) knowsMoreCard

/-- THE SECOND FORM's CARD OF 'ostiarylaw14.CredGens'. -/
def credGensUptoCard : Claim7 := { stood := { row := credGensUptoRow, standIns := [], harness := (true, "ad46b15298a74da31f0de830d9ab317ceb9b688b114dbae5c7420ed4804aae7f"), looks := false }, kinds := [], alts := [], laidByText := true, laidKinds := [.widerDeep, .widerDeep, .widerDeep, .data], laidTests := true, laidLooks := .later }
def CredGensUptoCardSaid : Prop := Claim7.holds Tryz.pinned (.plain (OpenSpec.upto credGensSpec)) credGensUptoCard

/-- THE SECOND FORM's CARD OF 'ostiarylaw14.CredPlays'. -/
def credPlaysUptoCard : Claim7 := { stood := { row := credPlaysUptoRow, standIns := [], harness := (true, "ad46b15298a74da31f0de830d9ab317ceb9b688b114dbae5c7420ed4804aae7f"), looks := false }, kinds := [], alts := [], laidByText := true, laidKinds := [.widerDeep, .widerDeep, .widerDeep, .data], laidTests := true, laidLooks := .later }
def CredPlaysUptoCardSaid : Prop := Claim7.holds Tryz.pinned (.plain (OpenSpec.upto credPlaysSpec)) credPlaysUptoCard

/-- THE SECOND FORM's CARD OF 'ostiarylaw17.RingPlays'. -/
def ringPlaysUptoCard : Claim7 := { stood := { row := ringPlaysUptoRow, standIns := [], harness := (true, "ad46b15298a74da31f0de830d9ab317ceb9b688b114dbae5c7420ed4804aae7f"), looks := false }, kinds := [], alts := [], laidByText := true, laidKinds := [.data, .data, .data, .data, .data, .data], laidTests := true, laidLooks := .later }
def RingPlaysUptoCardSaid : Prop := Claim7.holds Tryz.pinned (.plain (OpenSpec.upto ringPlaysSpec)) ringPlaysUptoCard

/-- THE SECOND FORM's CARD OF 'ostiarylaw28.KnowsKeys'. -/
def knowsKeysUptoCard : Claim7 := { stood := { row := knowsKeysUptoRow, standIns := [], harness := (true, "ad46b15298a74da31f0de830d9ab317ceb9b688b114dbae5c7420ed4804aae7f"), looks := false }, kinds := [], alts := [], laidByText := true, laidKinds := [.data, .data], laidTests := true, laidLooks := .later }
def KnowsKeysUptoCardSaid : Prop := Claim7.holds Tryz.pinned (.plain (OpenSpec.upto knowsKeysSpec)) knowsKeysUptoCard

/-- THE SECOND FORM's CARD OF 'ostiarylaw28.KnowsFinds'. -/
def knowsFindsUptoCard : Claim7 := { stood := { row := knowsFindsUptoRow, standIns := [], harness := (true, "ad46b15298a74da31f0de830d9ab317ceb9b688b114dbae5c7420ed4804aae7f"), looks := false }, kinds := [], alts := [], laidByText := true, laidKinds := [.data, .data], laidTests := true, laidLooks := .later }
def KnowsFindsUptoCardSaid : Prop := Claim7.holds Tryz.pinned (.plain (OpenSpec.upto knowsFindsSpec)) knowsFindsUptoCard

/-- THE SECOND FORM's CARD OF 'ostiarylaw28.KnowsNil'. -/
def knowsNilUptoCard : Claim7 := { stood := { row := knowsNilUptoRow, standIns := [], harness := (true, "ad46b15298a74da31f0de830d9ab317ceb9b688b114dbae5c7420ed4804aae7f"), looks := false }, kinds := [], alts := [], laidByText := true, laidKinds := [.data, .data], laidTests := true, laidLooks := .later }
def KnowsNilUptoCardSaid : Prop := Claim7.holds Tryz.pinned (.plain (OpenSpec.upto knowsNilSpec)) knowsNilUptoCard

/-- THE SECOND FORM's CARD OF 'ostiarylaw28.KnowsMore'. -/
def knowsMoreUptoCard : Claim7 := { stood := { row := knowsMoreUptoRow, standIns := [], harness := (true, "ad46b15298a74da31f0de830d9ab317ceb9b688b114dbae5c7420ed4804aae7f"), looks := false }, kinds := [], alts := [], laidByText := true, laidKinds := [.data, .data, .data], laidTests := true, laidLooks := .later }
def KnowsMoreUptoCardSaid : Prop := Claim7.holds Tryz.pinned (.plain (OpenSpec.upto knowsMoreSpec)) knowsMoreUptoCard
end Rows
end Go.Proofs.YtjlpcjpeljlbeaaGreatDoor
