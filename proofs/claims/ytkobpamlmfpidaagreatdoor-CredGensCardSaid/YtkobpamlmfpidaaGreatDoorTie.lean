/-
  DERIVED. GIVEN WITH THE SEED: THE PROGRAM's TIES (one call each: nine closed facts by the kernel) AND EACH ROW's TIE, after the 31st guide's Derived/Test/Toyas{Tie, Card}.lean. No idea stands in it: it is a product of the set-up. Laid BY PROGRAM, IN A SANDBOX (cutbox-door.mjs). By AI agents, Wed Nov 11 2026. No macro, syntax, notation, axiom, sorry.
-/
import Derived.Test.YtkobpamlmfpidaaGreatDoorRows
import Derived.LaidByTextLater
import Derived.SevenTiedAt
import Derived.LaidSub
import Derived.LaidOnce
namespace Go.Proofs.YtkobpamlmfpidaaGreatDoor
open Go
set_option maxRecDepth 100000
theorem seatTie1 : Tryz.prog.laidByTextLater [("ostiary/name.blanks", Rows.laid_ostiary_name_blanks), ("ostiary/name.nothing", Rows.laid_ostiary_name_nothing), ("ostiary/name.barred", Rows.laid_ostiary_name_barred), ("ostiary/name.forms", Rows.laid_ostiary_name_forms)] [.widerDeep, .widerDeep, .widerDeep, .data] true :=
  Program.laidByTextLater_by_one 53 8 19 (by kernel_rfl) (by kernel_rfl) (by kernel_rfl) (by kernel_rfl) (by kernel_rfl) (by kernel_rfl) (fun _ _ => by kernel_rfl)
theorem noOwnUnsafe : Tryz.pinned.checked.prog.headLifts.contains "ownunsafe" = false := by kernel_rfl
theorem tie : Tryz.prog.laidByTextLater [("ostiary/name.blanks", Rows.laid_ostiary_name_blanks), ("ostiary/name.nothing", Rows.laid_ostiary_name_nothing), ("ostiary/name.barred", Rows.laid_ostiary_name_barred), ("ostiary/name.forms", Rows.laid_ostiary_name_forms)] [.widerDeep, .widerDeep, .widerDeep, .data] true :=
  Program.laidByTextLater.sub seatTie1 ["ostiary/name.blanks", "ostiary/name.nothing", "ostiary/name.barred", "ostiary/name.forms"] (by kernel_rfl) (by kernel_rfl)
theorem credGens_row_tie : Rows.credGensRow.laidByTextAt .later Tryz.pinned [.widerDeep, .widerDeep, .widerDeep, .data] true :=
  OpenClaim.laidByTextAt_later rfl rfl tie noOwnUnsafe
theorem credPlays_row_tie : Rows.credPlaysRow.laidByTextAt .later Tryz.pinned [.widerDeep, .widerDeep, .widerDeep, .data] true :=
  OpenClaim.laidByTextAt_later rfl rfl tie noOwnUnsafe
theorem credGensUpto_row_tie : Rows.credGensUptoRow.laidByTextAt .later Tryz.pinned [.widerDeep, .widerDeep, .widerDeep, .data] true :=
  OpenClaim.laidByTextAt_later rfl rfl tie noOwnUnsafe
theorem credPlaysUpto_row_tie : Rows.credPlaysUptoRow.laidByTextAt .later Tryz.pinned [.widerDeep, .widerDeep, .widerDeep, .data] true :=
  OpenClaim.laidByTextAt_later rfl rfl tie noOwnUnsafe
end Go.Proofs.YtkobpamlmfpidaaGreatDoor
