/-
  DERIVED. GIVEN WITH THE SEED: THE PROGRAM's TIES (one call each: nine closed facts by the kernel) AND EACH ROW's TIE, after the 31st guide's Derived/Test/Toyas{Tie, Card}.lean. No idea stands in it: it is a product of the set-up. Laid BY PROGRAM, IN A SANDBOX (cutbox-door.mjs). By AI agents, Wed Nov 11 2026. No macro, syntax, notation, axiom, sorry.
-/
import Derived.Test.YtpmolggmafgeeaaGreatDoorRows
import Derived.LaidByTextLater
import Derived.SevenTiedAt
import Derived.LaidSub
import Derived.LaidOnce
namespace Go.Proofs.YtpmolggmafgeeaaGreatDoor
open Go
set_option maxRecDepth 100000
theorem seatTie1 : Tryz.prog.laidByTextLater [("umbel/sum.steps", Rows.laid_umbel_sum_steps), ("umbel/digest.begin", Rows.laid_umbel_digest_begin), ("umbel/digest.rounds", Rows.laid_umbel_digest_rounds)] [.data, .data, .data] true :=
  Program.laidByTextLater_by_one 24 8 65 (by kernel_rfl) (by kernel_rfl) (by kernel_rfl) (by kernel_rfl) (by kernel_rfl) (by kernel_rfl) (fun _ _ => by kernel_rfl)
theorem noOwnUnsafe : Tryz.pinned.checked.prog.headLifts.contains "ownunsafe" = false := by kernel_rfl
theorem tie : Tryz.prog.laidByTextLater [("umbel/sum.steps", Rows.laid_umbel_sum_steps), ("umbel/digest.begin", Rows.laid_umbel_digest_begin), ("umbel/digest.rounds", Rows.laid_umbel_digest_rounds)] [.data, .data, .data] true :=
  Program.laidByTextLater.sub seatTie1 ["umbel/sum.steps", "umbel/digest.begin", "umbel/digest.rounds"] (by kernel_rfl) (by kernel_rfl)
theorem vacuumBatch_row_tie : Rows.vacuumBatchRow.laidByTextAt .later Tryz.pinned [.data, .data, .data] true :=
  OpenClaim.laidByTextAt_later rfl rfl tie noOwnUnsafe
theorem vacuumBatchUpto_row_tie : Rows.vacuumBatchUptoRow.laidByTextAt .later Tryz.pinned [.data, .data, .data] true :=
  OpenClaim.laidByTextAt_later rfl rfl tie noOwnUnsafe
end Go.Proofs.YtpmolggmafgeeaaGreatDoor
