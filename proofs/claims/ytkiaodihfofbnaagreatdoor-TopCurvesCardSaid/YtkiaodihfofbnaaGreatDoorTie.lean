/-
  DERIVED. GIVEN WITH THE SEED: THE PROGRAM's TIES (one call each: nine closed facts by the kernel) AND EACH ROW's TIE, after the 31st guide's Derived/Test/Toyas{Tie, Card}.lean. No idea stands in it: it is a product of the set-up. Laid BY PROGRAM, IN A SANDBOX (cutbox-door.mjs). By AI agents, Wed Nov 11 2026. No macro, syntax, notation, axiom, sorry.
-/
import Derived.Test.YtkiaodihfofbnaaGreatDoorRows
import Derived.LaidByTextLater
import Derived.SevenTiedAt
import Derived.LaidSub
import Derived.LaidOnce
namespace Go.Proofs.YtkiaodihfofbnaaGreatDoor
open Go
set_option maxRecDepth 100000
theorem seatTie1 : Tryz.prog.laidByTextLater [("chicory/keccak.constants", Rows.laid_chicory_keccak_constants), ("chicory/keccak.offsets", Rows.laid_chicory_keccak_offsets), ("chicory/keccak.way", Rows.laid_chicory_keccak_way)] [.data, .data, .data] true :=
  Program.laidByTextLater_by_one 24 8 25 (by kernel_rfl) (by kernel_rfl) (by kernel_rfl) (by kernel_rfl) (by kernel_rfl) (by kernel_rfl) (fun _ _ => by kernel_rfl)
theorem noOwnUnsafe : Tryz.pinned.checked.prog.headLifts.contains "ownunsafe" = false := by kernel_rfl
theorem tie : Tryz.prog.laidByTextLater [("chicory/keccak.constants", Rows.laid_chicory_keccak_constants), ("chicory/keccak.offsets", Rows.laid_chicory_keccak_offsets), ("chicory/keccak.way", Rows.laid_chicory_keccak_way)] [.data, .data, .data] true :=
  Program.laidByTextLater.sub seatTie1 ["chicory/keccak.constants", "chicory/keccak.offsets", "chicory/keccak.way"] (by kernel_rfl) (by kernel_rfl)
theorem topCurves_row_tie : Rows.topCurvesRow.laidByTextAt .later Tryz.pinned [.data, .data, .data] true :=
  OpenClaim.laidByTextAt_later rfl rfl tie noOwnUnsafe
theorem topCurvesUpto_row_tie : Rows.topCurvesUptoRow.laidByTextAt .later Tryz.pinned [.data, .data, .data] true :=
  OpenClaim.laidByTextAt_later rfl rfl tie noOwnUnsafe
end Go.Proofs.YtkiaodihfofbnaaGreatDoor
