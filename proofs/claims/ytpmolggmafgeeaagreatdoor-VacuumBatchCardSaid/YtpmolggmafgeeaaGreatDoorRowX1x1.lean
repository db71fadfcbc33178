/- Calls that touch the heap, reckoned by the kernel once. -/
import Derived.Test.YtpmolggmafgeeaaGreatDoorMachW
import Derived.Test.YtpmolggmafgeeaaGreatDoorDict0
namespace Go.Proofs.YtpmolggmafgeeaaGreatDoor
open Go Go.AM
set_option maxRecDepth 1000000
def mUmbelref08PoolFlushAll5S : SRow := ⟨[.pointer (some ⟨11, 0, none⟩)], 618, [(4, db43), (11, db23), (12, db44), (617, db45)], .int .i64 0, [(4, db46), (11, db23), (12, db47), (617, db45)], [db48], [629]⟩
theorem mUmbelref08PoolFlushAll5S_ok : rowS Cw 248 100000 tabs mUmbelref08PoolFlushAll5S = true := by kernel_rfl
end Go.Proofs.YtpmolggmafgeeaaGreatDoor
