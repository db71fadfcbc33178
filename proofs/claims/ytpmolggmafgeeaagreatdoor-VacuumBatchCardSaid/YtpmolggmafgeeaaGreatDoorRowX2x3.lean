/- Calls that touch the heap, reckoned by the kernel once. -/
import Derived.Test.YtpmolggmafgeeaaGreatDoorRowS1
import Derived.Test.YtpmolggmafgeeaaGreatDoorDict0
namespace Go.Proofs.YtpmolggmafgeeaaGreatDoor
open Go Go.AM
set_option maxRecDepth 1000000
def mUmbelref27StoreCommit9S : SRow := ⟨[.pointer (some ⟨13, 0, none⟩)], 400, [(4, db51), (11, db23), (12, db72), (13, db73), (227, db41), (228, db39), (229, db40), (230, db42), (392, db55)], .tuple #[.string ds13, .int .i64 0], [(4, db74), (11, db66), (12, db70), (13, db75), (227, db41), (228, db39), (229, db40), (392, db55)], [db76, db61, db62, db64], [784, 808, 814, 898]⟩
theorem mUmbelref27StoreCommit9S_ok : rowS Cx1 80 100000 tabs mUmbelref27StoreCommit9S = true := by kernel_rfl
def mUmbelrigNew0S : SRow := ⟨[.agg #[.int .i64 40, .int .i64 3, .int .i64 2]], 3, [], .tuple #[.pointer (some ⟨14, 0, none⟩), .bool true], [], [db0, db1, db2, db2, db3, db4, db5, db6, db7, db8, db9, db10], [4, 5, 22, 56, 73, 74, 75, 94, 95, 101, 123, 124]⟩
theorem mUmbelrigNew0S_ok : rowS Cx1 4 100000 tabs mUmbelrigNew0S = true := by kernel_rfl
end Go.Proofs.YtpmolggmafgeeaaGreatDoor
