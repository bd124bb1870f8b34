/-
  DERIVED. GIVEN WITH THE SEED: THE PROGRAM's TIES (one call each: nine closed facts by the kernel) AND EACH ROW's TIE, after the 31st guide's Derived/Test/Toyas{Tie, Card}.lean. No idea stands in it: it is a product of the set-up. Laid BY PROGRAM, IN A SANDBOX (cutbox-door.mjs). By AI agents, Wed Nov 11 2026. No macro, syntax, notation, axiom, sorry.
-/
import Derived.Test.YtoifclfanabalaaGreatDoorRows
import Derived.LaidByTextLater
import Derived.SevenTiedAt
import Derived.LaidSub
import Derived.LaidOnce
namespace Go.Proofs.YtoifclfanabalaaGreatDoor
open Go
set_option maxRecDepth 100000
theorem seatTie1 : Tryz.prog.laidByTextLater [("ostiary/ostiaryref01.words", Rows.laid_ostiary_ostiaryref01_words), ("ostiary/sha.first", Rows.laid_ostiary_sha_first), ("ostiary/sha.odd", Rows.laid_ostiary_sha_odd)] [.data, .data, .data] true :=
  Program.laidByTextLater_by_one 24 8 65 (by kernel_rfl) (by kernel_rfl) (by kernel_rfl) (by kernel_rfl) (by kernel_rfl) (by kernel_rfl) (fun _ _ => by kernel_rfl)
theorem noOwnUnsafe : Tryz.pinned.checked.prog.headLifts.contains "ownunsafe" = false := by kernel_rfl
theorem tie : Tryz.prog.laidByTextLater [("ostiary/sha.first", Rows.laid_ostiary_sha_first), ("ostiary/sha.odd", Rows.laid_ostiary_sha_odd)] [.data, .data] true :=
  Program.laidByTextLater.sub seatTie1 ["ostiary/sha.first", "ostiary/sha.odd"] (by kernel_rfl) (by kernel_rfl)
theorem knowsKeys_row_tie : Rows.knowsKeysRow.laidByTextAt .later Tryz.pinned [.data, .data] true :=
  OpenClaim.laidByTextAt_later rfl rfl tie noOwnUnsafe
theorem knowsFinds_row_tie : Rows.knowsFindsRow.laidByTextAt .later Tryz.pinned [.data, .data] true :=
  OpenClaim.laidByTextAt_later rfl rfl tie noOwnUnsafe
theorem knowsNil_row_tie : Rows.knowsNilRow.laidByTextAt .later Tryz.pinned [.data, .data] true :=
  OpenClaim.laidByTextAt_later rfl rfl tie noOwnUnsafe
theorem tie2 : Tryz.prog.laidByTextLater [("ostiary/ostiaryref01.words", Rows.laid_ostiary_ostiaryref01_words), ("ostiary/sha.first", Rows.laid_ostiary_sha_first), ("ostiary/sha.odd", Rows.laid_ostiary_sha_odd)] [.data, .data, .data] true :=
  Program.laidByTextLater.sub seatTie1 ["ostiary/ostiaryref01.words", "ostiary/sha.first", "ostiary/sha.odd"] (by kernel_rfl) (by kernel_rfl)
theorem knowsMore_row_tie : Rows.knowsMoreRow.laidByTextAt .later Tryz.pinned [.data, .data, .data] true :=
  OpenClaim.laidByTextAt_later rfl rfl tie2 noOwnUnsafe
theorem knowsKeysUpto_row_tie : Rows.knowsKeysUptoRow.laidByTextAt .later Tryz.pinned [.data, .data] true :=
  OpenClaim.laidByTextAt_later rfl rfl tie noOwnUnsafe
theorem knowsFindsUpto_row_tie : Rows.knowsFindsUptoRow.laidByTextAt .later Tryz.pinned [.data, .data] true :=
  OpenClaim.laidByTextAt_later rfl rfl tie noOwnUnsafe
theorem knowsNilUpto_row_tie : Rows.knowsNilUptoRow.laidByTextAt .later Tryz.pinned [.data, .data] true :=
  OpenClaim.laidByTextAt_later rfl rfl tie noOwnUnsafe
theorem knowsMoreUpto_row_tie : Rows.knowsMoreUptoRow.laidByTextAt .later Tryz.pinned [.data, .data, .data] true :=
  OpenClaim.laidByTextAt_later rfl rfl tie2 noOwnUnsafe
end Go.Proofs.YtoifclfanabalaaGreatDoor
