/- Calls that touch the heap, reckoned by the kernel once. -/
import Derived.Test.YtpmolggmafgeeaaGreatDoorMachW
import Derived.Test.YtpmolggmafgeeaaGreatDoorDict0
namespace Go.Proofs.YtpmolggmafgeeaaGreatDoor
open Go Go.AM
set_option maxRecDepth 1000000
def mUmbelref08PoolFlushAll2S : SRow := ⟨[.pointer (some ⟨11, 0, none⟩)], 271, [(4, db22), (11, db23), (12, db24), (270, db25)], .int .i64 0, [(4, db26), (11, db23), (12, db27), (270, db25)], [db28], [282]⟩
theorem mUmbelref08PoolFlushAll2S_ok : rowS Cw 248 100000 tabs mUmbelref08PoolFlushAll2S = true := by kernel_rfl
end Go.Proofs.YtpmolggmafgeeaaGreatDoor
