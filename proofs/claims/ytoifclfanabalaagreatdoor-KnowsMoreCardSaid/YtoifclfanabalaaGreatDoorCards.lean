/-
  DERIVED. GIVEN WITH THE SEED: THE CARDS: each row of YtoifclfanabalaaGreatDoorRows.lean that lists a variable, with what it lists TIED to the program's text (the seventh form; the later family's looks); each row that meets fmt, with fmt's text TOLD by the authors' own Lean function (tested against real Go, not proved from fmt's source: count such statements apart). THE CARD IS WHAT COUNTS. Prove the row's statement (the work); the ties are given (YtoifclfanabalaaGreatDoorTie.lean); close each card by the builder's one call (the guide's Derived/Test/ToyasCard.lean, 'card_holds'). Laid BY PROGRAM, IN A SANDBOX (cutbox-door.mjs). By AI agents, Wed Nov 11 2026. No macro, syntax, notation, axiom, sorry.
-/
import Derived.Test.YtoifclfanabalaaGreatDoorRows
import GoSem.ClaimSeven
namespace Go.Proofs.YtoifclfanabalaaGreatDoor
namespace Rows

/-- THE TIED CARD OF 'ostiarylaw28.KnowsKeys'. -/
def knowsKeysCard : Claim7 := { stood := { row := knowsKeysRow, standIns := [], harness := (true, "d824295509e793d10da1742f564c872153857c13c09237bc7a21b8b40d0613dc"), looks := false }, kinds := [], alts := [], laidByText := true, laidKinds := [.data, .data], laidTests := true, laidLooks := .later }
def KnowsKeysCardSaid : Prop := Claim7.holds Tryz.pinned (.plain (OpenSpec.ofChange knowsKeysSpec)) knowsKeysCard

/-- THE TIED CARD OF 'ostiarylaw28.KnowsFinds'. -/
def knowsFindsCard : Claim7 := { stood := { row := knowsFindsRow, standIns := [], harness := (true, "d824295509e793d10da1742f564c872153857c13c09237bc7a21b8b40d0613dc"), looks := false }, kinds := [], alts := [], laidByText := true, laidKinds := [.data, .data], laidTests := true, laidLooks := .later }
def KnowsFindsCardSaid : Prop := Claim7.holds Tryz.pinned (.plain (OpenSpec.ofChange knowsFindsSpec)) knowsFindsCard

/-- THE TIED CARD OF 'ostiarylaw28.KnowsNil'. -/
def knowsNilCard : Claim7 := { stood := { row := knowsNilRow, standIns := [], harness := (true, "d824295509e793d10da1742f564c872153857c13c09237bc7a21b8b40d0613dc"), looks := false }, kinds := [], alts := [], laidByText := true, laidKinds := [.data, .data], laidTests := true, laidLooks := .later }
def KnowsNilCardSaid : Prop := Claim7.holds Tryz.pinned (.plain (OpenSpec.ofChange knowsNilSpec)) knowsNilCard

/-- THE TIED CARD OF 'ostiarylaw28.KnowsMore'. -/
def knowsMoreCard : Claim7 := { stood := { row := knowsMoreRow, standIns := [], harness := (true, "d824295509e793d10da1742f564c872153857c13c09237bc7a21b8b40d0613dc"), looks := false }, kinds := [], alts := [], laidByText := true, laidKinds := [.data, .data, .data], laidTests := true, laidLooks := .later }
def KnowsMoreCardSaid : Prop := Claim7.holds Tryz.pinned (.plain (OpenSpec.ofChange knowsMoreSpec)) knowsMoreCard

/-- THE SECOND FORM's CARD OF 'ostiarylaw28.KnowsKeys'. -/
def knowsKeysUptoCard : Claim7 := { stood := { row := knowsKeysUptoRow, standIns := [], harness := (true, "d824295509e793d10da1742f564c872153857c13c09237bc7a21b8b40d0613dc"), looks := false }, kinds := [], alts := [], laidByText := true, laidKinds := [.data, .data], laidTests := true, laidLooks := .later }
def KnowsKeysUptoCardSaid : Prop := Claim7.holds Tryz.pinned (.plain (OpenSpec.upto knowsKeysSpec)) knowsKeysUptoCard

/-- THE SECOND FORM's CARD OF 'ostiarylaw28.KnowsFinds'. -/
def knowsFindsUptoCard : Claim7 := { stood := { row := knowsFindsUptoRow, standIns := [], harness := (true, "d824295509e793d10da1742f564c872153857c13c09237bc7a21b8b40d0613dc"), looks := false }, kinds := [], alts := [], laidByText := true, laidKinds := [.data, .data], laidTests := true, laidLooks := .later }
def KnowsFindsUptoCardSaid : Prop := Claim7.holds Tryz.pinned (.plain (OpenSpec.upto knowsFindsSpec)) knowsFindsUptoCard

/-- THE SECOND FORM's CARD OF 'ostiarylaw28.KnowsNil'. -/
def knowsNilUptoCard : Claim7 := { stood := { row := knowsNilUptoRow, standIns := [], harness := (true, "d824295509e793d10da1742f564c872153857c13c09237bc7a21b8b40d0613dc"), looks := false }, kinds := [], alts := [], laidByText := true, laidKinds := [.data, .data], laidTests := true, laidLooks := .later }
def KnowsNilUptoCardSaid : Prop := Claim7.holds Tryz.pinned (.plain (OpenSpec.upto knowsNilSpec)) knowsNilUptoCard

/-- THE SECOND FORM's CARD OF 'ostiarylaw28.KnowsMore'. -/
def knowsMoreUptoCard : Claim7 := { stood := { row := knowsMoreUptoRow, standIns := [], harness := (true, "d824295509e793d10da1742f564c872153857c13c09237bc7a21b8b40d0613dc"), looks := false }, kinds := [], alts := [], laidByText := true, laidKinds := [.data, .data, .data], laidTests := true, laidLooks := .later }
def KnowsMoreUptoCardSaid : Prop := Claim7.holds Tryz.pinned (.plain (OpenSpec.upto knowsMoreSpec)) knowsMoreUptoCard
end Rows
end Go.Proofs.YtoifclfanabalaaGreatDoor
