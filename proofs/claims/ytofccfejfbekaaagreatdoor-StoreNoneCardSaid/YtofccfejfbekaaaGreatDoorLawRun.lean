/- StoreNone, run by the machine, whatever the key. -/
import Derived.Test.YtofccfejfbekaaaGreatDoorMachW
namespace Go.Proofs.YtofccfejfbekaaaGreatDoor
open Go.AM (call isTrue)
set_option maxRecDepth 1000000
theorem law_run : (fun key : ByteArray => isTrue (call Cw 100000 3 [.string key] ⟨3, Go.AM.T.build tabs 24 3 1 0⟩)) = (fun _ => true) := by kernel_rfl

end Go.Proofs.YtofccfejfbekaaaGreatDoor
