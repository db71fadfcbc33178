/- Calls that touch the heap, reckoned by the kernel once. -/
import Derived.Test.YtpmolggmafgeeaaGreatDoorMachW
import Derived.Test.YtpmolggmafgeeaaGreatDoorDict0
namespace Go.Proofs.YtpmolggmafgeeaaGreatDoor
open Go Go.AM
set_option maxRecDepth 1000000
def mUmbelref08PoolFlushAll8S : SRow := ⟨[.pointer (some ⟨11, 0, none⟩)], 899, [(4, db65), (11, db66), (12, db67), (898, db68)], .int .i64 0, [(4, db69), (11, db66), (12, db70), (898, db68)], [db71], [910]⟩
theorem mUmbelref08PoolFlushAll8S_ok : rowS Cw 248 100000 tabs mUmbelref08PoolFlushAll8S = true := by kernel_rfl
end Go.Proofs.YtpmolggmafgeeaaGreatDoor
