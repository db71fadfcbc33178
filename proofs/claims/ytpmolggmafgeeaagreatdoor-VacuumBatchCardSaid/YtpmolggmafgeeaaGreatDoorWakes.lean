/- wakes, as a closed call of the machine, reckoned once. -/
import Derived.Test.YtpmolggmafgeeaaGreatDoorRowS2
namespace Go.Proofs.YtpmolggmafgeeaaGreatDoor
open Go Go.AM
set_option maxRecDepth 1000000
def wakesRow : Row := ([], .bool true)
theorem wakesRow_ok : rowB Cx2 11 100000 tabs wakesRow = true := by kernel_rfl
end Go.Proofs.YtpmolggmafgeeaaGreatDoor
