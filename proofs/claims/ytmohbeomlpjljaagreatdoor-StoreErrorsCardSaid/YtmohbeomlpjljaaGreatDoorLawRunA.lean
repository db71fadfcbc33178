/- StoreErrors, run by the machine: case A. -/
import Derived.Test.YtmohbeomlpjljaaGreatDoorMachV
namespace Go.Proofs.YtmohbeomlpjljaaGreatDoor
open Go Go.AM
set_option maxRecDepth 1000000
theorem runA : isTrue (call (Cv rulesA) 100000 3 [symV 0, symV 1, symV 2] ⟨3, T.build tabs 24 3 1 0⟩) = true := by kernel_rfl
end Go.Proofs.YtmohbeomlpjljaaGreatDoor
