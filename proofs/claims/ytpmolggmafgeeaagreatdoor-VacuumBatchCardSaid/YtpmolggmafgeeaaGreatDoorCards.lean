/-
  DERIVED. GIVEN WITH THE SEED: THE CARDS: each row of YtpmolggmafgeeaaGreatDoorRows.lean that lists a variable, with what it lists TIED to the program's text (the seventh form; the later family's looks); each row that meets fmt, with fmt's text TOLD by the authors' own Lean function (tested against real Go, not proved from fmt's source: count such statements apart). THE CARD IS WHAT COUNTS. Prove the row's statement (the work); the ties are given (YtpmolggmafgeeaaGreatDoorTie.lean); close each card by the builder's one call (the guide's Derived/Test/ToyasCard.lean, 'card_holds'). Laid BY PROGRAM, IN A SANDBOX (cutbox-door.mjs). By AI agents, Wed Nov 11 2026. No macro, syntax, notation, axiom, sorry.
-/
import Derived.Test.YtpmolggmafgeeaaGreatDoorRows
import GoSem.ClaimSeven
namespace Go.Proofs.YtpmolggmafgeeaaGreatDoor
namespace Rows

/-- THE TIED CARD OF 'umbellaw28.VacuumBatch'. -/
def vacuumBatchCard : Claim7 := { stood := { row := vacuumBatchRow, standIns := [], harness := (true, "f66152be6cef848a0827bdaae17dca9fc2635645ae10bdcfc4448b5bb5591349"), looks := true }, kinds := [], alts := [], laidByText := true, laidKinds := [.data, .data, .data], laidTests := true, laidLooks := .later }
def VacuumBatchCardSaid : Prop := Claim7.holds Tryz.pinned (.plain (OpenSpec.ofChange vacuumBatchSpec)) vacuumBatchCard

/-- THE SECOND FORM's CARD OF 'umbellaw28.VacuumBatch'. -/
def vacuumBatchUptoCard : Claim7 := { stood := { row := vacuumBatchUptoRow, standIns := [], harness := (true, "f66152be6cef848a0827bdaae17dca9fc2635645ae10bdcfc4448b5bb5591349"), looks := true }, kinds := [], alts := [], laidByText := true, laidKinds := [.data, .data, .data], laidTests := true, laidLooks := .later }
def VacuumBatchUptoCardSaid : Prop := Claim7.holds Tryz.pinned (.plain (OpenSpec.upto vacuumBatchSpec)) vacuumBatchUptoCard
end Rows
end Go.Proofs.YtpmolggmafgeeaaGreatDoor
