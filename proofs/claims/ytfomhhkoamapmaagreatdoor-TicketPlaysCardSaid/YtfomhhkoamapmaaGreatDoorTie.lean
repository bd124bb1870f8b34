/-
  DERIVED. GIVEN WITH THE SEED: THE PROGRAM's TIES (one call each: nine closed facts by the kernel) AND EACH ROW's TIE, after the 31st guide's Derived/Test/Toyas{Tie, Card}.lean. No idea stands in it: it is a product of the set-up. Laid BY PROGRAM, IN A SANDBOX (cutbox-door.mjs). By AI agents, Wed Nov 11 2026. No macro, syntax, notation, axiom, sorry.
-/
import Derived.Test.YtfomhhkoamapmaaGreatDoorRows
import Derived.LaidByTextLater
import Derived.SevenTiedAt
import Derived.LaidSub
import Derived.LaidOnce
namespace Go.Proofs.YtfomhhkoamapmaaGreatDoor
open Go
set_option maxRecDepth 100000
theorem seatTie1 : Tryz.prog.laidByTextLater [("math/bits.deBruijn32tab", Rows.laid_math_bits_deBruijn32tab), ("math/bits.deBruijn64tab", Rows.laid_math_bits_deBruijn64tab), ("internal/strconv.uint64pow10", Rows.laid_internal_strconv_uint64pow10), ("ostiary/ostiaryref01.words", Rows.laid_ostiary_ostiaryref01_words), ("ostiary/sha.first", Rows.laid_ostiary_sha_first), ("ostiary/sha.odd", Rows.laid_ostiary_sha_odd), ("ostiary/name.blanks", Rows.laid_ostiary_name_blanks), ("ostiary/name.nothing", Rows.laid_ostiary_name_nothing), ("ostiary/name.barred", Rows.laid_ostiary_name_barred), ("ostiary/name.forms", Rows.laid_ostiary_name_forms)] [.data, .data, .data, .data, .data, .data, .widerDeep, .widerDeep, .widerDeep, .data] true :=
  Program.laidByTextLater_by_one 83 8 65 (by kernel_rfl) (by kernel_rfl) (by kernel_rfl) (by kernel_rfl) (by kernel_rfl) (by kernel_rfl) (fun _ _ => by kernel_rfl)
theorem noOwnUnsafe : Tryz.pinned.checked.prog.headLifts.contains "ownunsafe" = false := by kernel_rfl
theorem tie : Tryz.prog.laidByTextLater [("math/bits.deBruijn32tab", Rows.laid_math_bits_deBruijn32tab), ("math/bits.deBruijn64tab", Rows.laid_math_bits_deBruijn64tab), ("internal/strconv.uint64pow10", Rows.laid_internal_strconv_uint64pow10), ("ostiary/ostiaryref01.words", Rows.laid_ostiary_ostiaryref01_words), ("ostiary/sha.first", Rows.laid_ostiary_sha_first), ("ostiary/sha.odd", Rows.laid_ostiary_sha_odd), ("ostiary/name.blanks", Rows.laid_ostiary_name_blanks), ("ostiary/name.nothing", Rows.laid_ostiary_name_nothing), ("ostiary/name.barred", Rows.laid_ostiary_name_barred), ("ostiary/name.forms", Rows.laid_ostiary_name_forms)] [.data, .data, .data, .data, .data, .data, .widerDeep, .widerDeep, .widerDeep, .data] true :=
  Program.laidByTextLater.sub seatTie1 ["math/bits.deBruijn32tab", "math/bits.deBruijn64tab", "internal/strconv.uint64pow10", "ostiary/ostiaryref01.words", "ostiary/sha.first", "ostiary/sha.odd", "ostiary/name.blanks", "ostiary/name.nothing", "ostiary/name.barred", "ostiary/name.forms"] (by kernel_rfl) (by kernel_rfl)
theorem ticketPlays_row_tie : Rows.ticketPlaysRow.laidByTextAt .later Tryz.pinned [.data, .data, .data, .data, .data, .data, .widerDeep, .widerDeep, .widerDeep, .data] true :=
  OpenClaim.laidByTextAt_later rfl rfl tie noOwnUnsafe
theorem ticketPlaysUpto_row_tie : Rows.ticketPlaysUptoRow.laidByTextAt .later Tryz.pinned [.data, .data, .data, .data, .data, .data, .widerDeep, .widerDeep, .widerDeep, .data] true :=
  OpenClaim.laidByTextAt_later rfl rfl tie noOwnUnsafe
end Go.Proofs.YtfomhhkoamapmaaGreatDoor
