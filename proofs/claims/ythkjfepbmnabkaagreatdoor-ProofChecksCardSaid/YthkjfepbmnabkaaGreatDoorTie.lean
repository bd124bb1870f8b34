/-
  DERIVED. GIVEN WITH THE SEED: THE PROGRAM's TIES (one call each: nine closed facts by the kernel) AND EACH ROW's TIE, after the 31st guide's Derived/Test/Toyas{Tie, Card}.lean. No idea stands in it: it is a product of the set-up. Laid BY PROGRAM, IN A SANDBOX (cutbox-door.mjs). By AI agents, Wed Nov 11 2026. No macro, syntax, notation, axiom, sorry.
-/
import Derived.Test.YthkjfepbmnabkaaGreatDoorRows
import Derived.LaidByTextLater
import Derived.SevenTiedAt
import Derived.LaidSub
import Derived.LaidOnce
namespace Go.Proofs.YthkjfepbmnabkaaGreatDoor
open Go
set_option maxRecDepth 100000
theorem seatTie1 : Tryz.prog.laidByTextLater [("ostiary/ostiaryref01.words", Rows.laid_ostiary_ostiaryref01_words), ("ostiary/sha.first", Rows.laid_ostiary_sha_first), ("ostiary/sha.odd", Rows.laid_ostiary_sha_odd), ("ostiary/name.blanks", Rows.laid_ostiary_name_blanks), ("ostiary/name.nothing", Rows.laid_ostiary_name_nothing), ("ostiary/name.barred", Rows.laid_ostiary_name_barred), ("ostiary/name.forms", Rows.laid_ostiary_name_forms)] [.data, .data, .data, .widerDeep, .widerDeep, .widerDeep, .data] true :=
  Program.laidByTextLater_by_one 68 8 65 (by kernel_rfl) (by kernel_rfl) (by kernel_rfl) (by kernel_rfl) (by kernel_rfl) (by kernel_rfl) (fun _ _ => by kernel_rfl)
theorem noOwnUnsafe : Tryz.pinned.checked.prog.headLifts.contains "ownunsafe" = false := by kernel_rfl
theorem tie : Tryz.prog.laidByTextLater [("ostiary/ostiaryref01.words", Rows.laid_ostiary_ostiaryref01_words), ("ostiary/sha.first", Rows.laid_ostiary_sha_first), ("ostiary/sha.odd", Rows.laid_ostiary_sha_odd), ("ostiary/name.blanks", Rows.laid_ostiary_name_blanks), ("ostiary/name.nothing", Rows.laid_ostiary_name_nothing), ("ostiary/name.barred", Rows.laid_ostiary_name_barred), ("ostiary/name.forms", Rows.laid_ostiary_name_forms)] [.data, .data, .data, .widerDeep, .widerDeep, .widerDeep, .data] true :=
  Program.laidByTextLater.sub seatTie1 ["ostiary/ostiaryref01.words", "ostiary/sha.first", "ostiary/sha.odd", "ostiary/name.blanks", "ostiary/name.nothing", "ostiary/name.barred", "ostiary/name.forms"] (by kernel_rfl) (by kernel_rfl)
theorem proofDigests_row_tie : Rows.proofDigestsRow.laidByTextAt .later Tryz.pinned [.data, .data, .data, .widerDeep, .widerDeep, .widerDeep, .data] true :=
  OpenClaim.laidByTextAt_later rfl rfl tie noOwnUnsafe
theorem credMakes_row_tie : Rows.credMakesRow.laidByTextAt .later Tryz.pinned [.data, .data, .data, .widerDeep, .widerDeep, .widerDeep, .data] true :=
  OpenClaim.laidByTextAt_later rfl rfl tie noOwnUnsafe
theorem tie2 : Tryz.prog.laidByTextLater [("ostiary/ostiaryref01.words", Rows.laid_ostiary_ostiaryref01_words), ("ostiary/sha.first", Rows.laid_ostiary_sha_first), ("ostiary/sha.odd", Rows.laid_ostiary_sha_odd)] [.data, .data, .data] true :=
  Program.laidByTextLater.sub seatTie1 ["ostiary/ostiaryref01.words", "ostiary/sha.first", "ostiary/sha.odd"] (by kernel_rfl) (by kernel_rfl)
theorem boxTurns_row_tie : Rows.boxTurnsRow.laidByTextAt .later Tryz.pinned [.data, .data, .data] true :=
  OpenClaim.laidByTextAt_later rfl rfl tie2 noOwnUnsafe
theorem boxOpaque_row_tie : Rows.boxOpaqueRow.laidByTextAt .later Tryz.pinned [.data, .data, .data] true :=
  OpenClaim.laidByTextAt_later rfl rfl tie2 noOwnUnsafe
theorem proofChecks_row_tie : Rows.proofChecksRow.laidByTextAt .later Tryz.pinned [.data, .data, .data] true :=
  OpenClaim.laidByTextAt_later rfl rfl tie2 noOwnUnsafe
theorem boxPlays_row_tie : Rows.boxPlaysRow.laidByTextAt .later Tryz.pinned [.data, .data, .data] true :=
  OpenClaim.laidByTextAt_later rfl rfl tie2 noOwnUnsafe
theorem boxTerms_row_tie : Rows.boxTermsRow.laidByTextAt .later Tryz.pinned [.data, .data, .data] true :=
  OpenClaim.laidByTextAt_later rfl rfl tie2 noOwnUnsafe
theorem tie3 : Tryz.prog.laidByTextLater [("ostiary/name.blanks", Rows.laid_ostiary_name_blanks), ("ostiary/name.nothing", Rows.laid_ostiary_name_nothing), ("ostiary/name.barred", Rows.laid_ostiary_name_barred), ("ostiary/name.forms", Rows.laid_ostiary_name_forms)] [.widerDeep, .widerDeep, .widerDeep, .data] true :=
  Program.laidByTextLater.sub seatTie1 ["ostiary/name.blanks", "ostiary/name.nothing", "ostiary/name.barred", "ostiary/name.forms"] (by kernel_rfl) (by kernel_rfl)
theorem credGens_row_tie : Rows.credGensRow.laidByTextAt .later Tryz.pinned [.widerDeep, .widerDeep, .widerDeep, .data] true :=
  OpenClaim.laidByTextAt_later rfl rfl tie3 noOwnUnsafe
theorem proofDigestsUpto_row_tie : Rows.proofDigestsUptoRow.laidByTextAt .later Tryz.pinned [.data, .data, .data, .widerDeep, .widerDeep, .widerDeep, .data] true :=
  OpenClaim.laidByTextAt_later rfl rfl tie noOwnUnsafe
theorem credMakesUpto_row_tie : Rows.credMakesUptoRow.laidByTextAt .later Tryz.pinned [.data, .data, .data, .widerDeep, .widerDeep, .widerDeep, .data] true :=
  OpenClaim.laidByTextAt_later rfl rfl tie noOwnUnsafe
theorem boxTurnsUpto_row_tie : Rows.boxTurnsUptoRow.laidByTextAt .later Tryz.pinned [.data, .data, .data] true :=
  OpenClaim.laidByTextAt_later rfl rfl tie2 noOwnUnsafe
theorem boxOpaqueUpto_row_tie : Rows.boxOpaqueUptoRow.laidByTextAt .later Tryz.pinned [.data, .data, .data] true :=
  OpenClaim.laidByTextAt_later rfl rfl tie2 noOwnUnsafe
theorem proofChecksUpto_row_tie : Rows.proofChecksUptoRow.laidByTextAt .later Tryz.pinned [.data, .data, .data] true :=
  OpenClaim.laidByTextAt_later rfl rfl tie2 noOwnUnsafe
theorem boxPlaysUpto_row_tie : Rows.boxPlaysUptoRow.laidByTextAt .later Tryz.pinned [.data, .data, .data] true :=
  OpenClaim.laidByTextAt_later rfl rfl tie2 noOwnUnsafe
theorem boxTermsUpto_row_tie : Rows.boxTermsUptoRow.laidByTextAt .later Tryz.pinned [.data, .data, .data] true :=
  OpenClaim.laidByTextAt_later rfl rfl tie2 noOwnUnsafe
theorem credGensUpto_row_tie : Rows.credGensUptoRow.laidByTextAt .later Tryz.pinned [.widerDeep, .widerDeep, .widerDeep, .data] true :=
  OpenClaim.laidByTextAt_later rfl rfl tie3 noOwnUnsafe
end Go.Proofs.YthkjfepbmnabkaaGreatDoor
