/-
  DERIVED. GIVEN WITH THE SEED: THE CARDS: each row of YthkjfepbmnabkaaGreatDoorRows.lean that lists a variable, with what it lists TIED to the program's text (the seventh form; the later family's looks); each row that meets fmt, with fmt's text TOLD by the authors' own Lean function (tested against real Go, not proved from fmt's source: count such statements apart). THE CARD IS WHAT COUNTS. Prove the row's statement (the work); the ties are given (YthkjfepbmnabkaaGreatDoorTie.lean); close each card by the builder's one call (the guide's Derived/Test/ToyasCard.lean, 'card_holds'). Laid BY PROGRAM, IN A SANDBOX (cutbox-door.mjs). By AI agents, Wed Nov 11 2026. No macro, syntax, notation, axiom, sorry.
-/
import Derived.Test.YthkjfepbmnabkaaGreatDoorRows
import GoSem.ClaimSeven
namespace Go.Proofs.YthkjfepbmnabkaaGreatDoor
namespace Rows

/-- THE TIED CARD OF 'ostiarylaw19.ProofDigests'. -/
def proofDigestsCard : Claim7 := { stood := { row := proofDigestsRow, standIns := [], harness := (true, "9611e75a5c2d2c1c3d50062ce5da21099d0e977ec3e0512fa39e84c229dc188c"), looks := false }, kinds := [], alts := [], laidByText := true, laidKinds := [.data, .data, .data, .widerDeep, .widerDeep, .widerDeep, .data], laidTests := true, laidLooks := .later }
def ProofDigestsCardSaid : Prop := Claim7.holds Tryz.pinned (.plain (OpenSpec.ofChange proofDigestsSpec)) proofDigestsCard

/-- THE TIED CARD OF 'ostiarylaw14.CredMakes'. -/
def credMakesCard : Claim7 := { stood := { row := credMakesRow, standIns := [], harness := (true, "9611e75a5c2d2c1c3d50062ce5da21099d0e977ec3e0512fa39e84c229dc188c"), looks := false }, kinds := [], alts := [], laidByText := true, laidKinds := [.data, .data, .data, .widerDeep, .widerDeep, .widerDeep, .data], laidTests := true, laidLooks := .later }
def CredMakesCardSaid : Prop := Claim7.holds Tryz.pinned (.plain (OpenSpec.ofChange credMakesSpec)) credMakesCard

/-- THE TIED CARD OF 'ostiarylaw05.BoxTurns'. -/
def boxTurnsCard : Claim7 := { stood := { row := boxTurnsRow, standIns := [], harness := (true, "9611e75a5c2d2c1c3d50062ce5da21099d0e977ec3e0512fa39e84c229dc188c"), looks := false }, kinds := [], alts := [], laidByText := true, laidKinds := [.data, .data, .data], laidTests := true, laidLooks := .later }
def BoxTurnsCardSaid : Prop := Claim7.holds Tryz.pinned (.plain (OpenSpec.ofChange boxTurnsSpec)) boxTurnsCard

/-- THE TIED CARD OF 'ostiarylaw05.BoxOpaque'. -/
def boxOpaqueCard : Claim7 := { stood := { row := boxOpaqueRow, standIns := [], harness := (true, "9611e75a5c2d2c1c3d50062ce5da21099d0e977ec3e0512fa39e84c229dc188c"), looks := false }, kinds := [], alts := [], laidByText := true, laidKinds := [.data, .data, .data], laidTests := true, laidLooks := .later }
def BoxOpaqueCardSaid : Prop := Claim7.holds Tryz.pinned (.plain (OpenSpec.ofChange boxOpaqueSpec)) boxOpaqueCard

/-- THE TIED CARD OF 'ostiarylaw19.ProofChecks'. -/
def proofChecksCard : Claim7 := { stood := { row := proofChecksRow, standIns := [], harness := (true, "9611e75a5c2d2c1c3d50062ce5da21099d0e977ec3e0512fa39e84c229dc188c"), looks := false }, kinds := [], alts := [], laidByText := true, laidKinds := [.data, .data, .data], laidTests := true, laidLooks := .later }
def ProofChecksCardSaid : Prop := Claim7.holds Tryz.pinned (.plain (OpenSpec.ofChange proofChecksSpec)) proofChecksCard

/-- THE TIED CARD OF 'ostiarylaw05.BoxPlays'. -/
def boxPlaysCard : Claim7 := { stood := { row := boxPlaysRow, standIns := [], harness := (true, "9611e75a5c2d2c1c3d50062ce5da21099d0e977ec3e0512fa39e84c229dc188c"), looks := false }, kinds := [], alts := [], laidByText := true, laidKinds := [.data, .data, .data], laidTests := true, laidLooks := .later }
def BoxPlaysCardSaid : Prop := Claim7.holds Tryz.pinned (.plain (OpenSpec.ofChange boxPlaysSpec)) boxPlaysCard

/-- THE TIED CARD OF 'ostiarylaw05.BoxTerms'. -/
def boxTermsCard : Claim7 := { stood := { row := boxTermsRow, standIns := [], harness := (true, "9611e75a5c2d2c1c3d50062ce5da21099d0e977ec3e0512fa39e84c229dc188c"), looks := false }, kinds := [], alts := [], laidByText := true, laidKinds := [.data, .data, .data], laidTests := true, laidLooks := .later }
def BoxTermsCardSaid : Prop := Claim7.holds Tryz.pinned (.plain (OpenSpec.ofChange boxTermsSpec)) boxTermsCard

/-- THE TIED CARD OF 'ostiarylaw14.CredGens'. -/
def credGensCard : Claim7 := { stood := { row := credGensRow, standIns := [], harness := (true, "9611e75a5c2d2c1c3d50062ce5da21099d0e977ec3e0512fa39e84c229dc188c"), looks := false }, kinds := [], alts := [], laidByText := true, laidKinds := [.widerDeep, .widerDeep, .widerDeep, .data], laidTests := true, laidLooks := .later }
def CredGensCardSaid : Prop := Claim7.holds Tryz.pinned (.plain (OpenSpec.ofChange credGensSpec)) credGensCard

/-- THE SECOND FORM's CARD OF 'ostiarylaw19.ProofDigests'. -/
def proofDigestsUptoCard : Claim7 := { stood := { row := proofDigestsUptoRow, standIns := [], harness := (true, "9611e75a5c2d2c1c3d50062ce5da21099d0e977ec3e0512fa39e84c229dc188c"), looks := false }, kinds := [], alts := [], laidByText := true, laidKinds := [.data, .data, .data, .widerDeep, .widerDeep, .widerDeep, .data], laidTests := true, laidLooks := .later }
def ProofDigestsUptoCardSaid : Prop := Claim7.holds Tryz.pinned (.plain (OpenSpec.upto proofDigestsSpec)) proofDigestsUptoCard

/-- THE SECOND FORM's CARD OF 'ostiarylaw14.CredMakes'. -/
def credMakesUptoCard : Claim7 := { stood := { row := credMakesUptoRow, standIns := [], harness := (true, "9611e75a5c2d2c1c3d50062ce5da21099d0e977ec3e0512fa39e84c229dc188c"), looks := false }, kinds := [], alts := [], laidByText := true, laidKinds := [.data, .data, .data, .widerDeep, .widerDeep, .widerDeep, .data], laidTests := true, laidLooks := .later }
def CredMakesUptoCardSaid : Prop := Claim7.holds Tryz.pinned (.plain (OpenSpec.upto credMakesSpec)) credMakesUptoCard

/-- THE SECOND FORM's CARD OF 'ostiarylaw05.BoxTurns'. -/
def boxTurnsUptoCard : Claim7 := { stood := { row := boxTurnsUptoRow, standIns := [], harness := (true, "9611e75a5c2d2c1c3d50062ce5da21099d0e977ec3e0512fa39e84c229dc188c"), looks := false }, kinds := [], alts := [], laidByText := true, laidKinds := [.data, .data, .data], laidTests := true, laidLooks := .later }
def BoxTurnsUptoCardSaid : Prop := Claim7.holds Tryz.pinned (.plain (OpenSpec.upto boxTurnsSpec)) boxTurnsUptoCard

/-- THE SECOND FORM's CARD OF 'ostiarylaw05.BoxOpaque'. -/
def boxOpaqueUptoCard : Claim7 := { stood := { row := boxOpaqueUptoRow, standIns := [], harness := (true, "9611e75a5c2d2c1c3d50062ce5da21099d0e977ec3e0512fa39e84c229dc188c"), looks := false }, kinds := [], alts := [], laidByText := true, laidKinds := [.data, .data, .data], laidTests := true, laidLooks := .later }
def BoxOpaqueUptoCardSaid : Prop := Claim7.holds Tryz.pinned (.plain (OpenSpec.upto boxOpaqueSpec)) boxOpaqueUptoCard

/-- THE SECOND FORM's CARD OF 'ostiarylaw19.ProofChecks'. -/
def proofChecksUptoCard : Claim7 := { stood := { row := proofChecksUptoRow, standIns := [], harness := (true, "9611e75a5c2d2c1c3d50062ce5da21099d0e977ec3e0512fa39e84c229dc188c"), looks := false }, kinds := [], alts := [], laidByText := true, laidKinds := [.data, .data, .data], laidTests := true, laidLooks := .later }
def ProofChecksUptoCardSaid : Prop := Claim7.holds Tryz.pinned (.plain (OpenSpec.upto proofChecksSpec)) proofChecksUptoCard

/-- THE SECOND FORM's CARD OF 'ostiarylaw05.BoxPlays'. -/
def boxPlaysUptoCard : Claim7 := { stood := { row := boxPlaysUptoRow, standIns := [], harness := (true, "9611e75a5c2d2c1c3d50062ce5da21099d0e977ec3e0512fa39e84c229dc188c"), looks := false }, kinds := [], alts := [], laidByText := true, laidKinds := [.data, .data, .data], laidTests := true, laidLooks := .later }
def BoxPlaysUptoCardSaid : Prop := Claim7.holds Tryz.pinned (.plain (OpenSpec.upto boxPlaysSpec)) boxPlaysUptoCard

/-- THE SECOND FORM's CARD OF 'ostiarylaw05.BoxTerms'. -/
def boxTermsUptoCard : Claim7 := { stood := { row := boxTermsUptoRow, standIns := [], harness := (true, "9611e75a5c2d2c1c3d50062ce5da21099d0e977ec3e0512fa39e84c229dc188c"), looks := false }, kinds := [], alts := [], laidByText := true, laidKinds := [.data, .data, .data], laidTests := true, laidLooks := .later }
def BoxTermsUptoCardSaid : Prop := Claim7.holds Tryz.pinned (.plain (OpenSpec.upto boxTermsSpec)) boxTermsUptoCard

/-- THE SECOND FORM's CARD OF 'ostiarylaw14.CredGens'. -/
def credGensUptoCard : Claim7 := { stood := { row := credGensUptoRow, standIns := [], harness := (true, "9611e75a5c2d2c1c3d50062ce5da21099d0e977ec3e0512fa39e84c229dc188c"), looks := false }, kinds := [], alts := [], laidByText := true, laidKinds := [.widerDeep, .widerDeep, .widerDeep, .data], laidTests := true, laidLooks := .later }
def CredGensUptoCardSaid : Prop := Claim7.holds Tryz.pinned (.plain (OpenSpec.upto credGensSpec)) credGensUptoCard
end Rows
end Go.Proofs.YthkjfepbmnabkaaGreatDoor
