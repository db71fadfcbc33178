/- VacuumBatch, run by the machine. -/
import Derived.Test.YtpmolggmafgeeaaGreatDoorMachV
namespace Go.Proofs.YtpmolggmafgeeaaGreatDoor
open Go Go.AM
set_option maxRecDepth 1000000
theorem runV : isTrue (call (Cv rulesB) 100000 3 [symV 0] ⟨3, T.build tabs 24 3 1 0⟩) = true := by kernel_rfl
end Go.Proofs.YtpmolggmafgeeaaGreatDoor
