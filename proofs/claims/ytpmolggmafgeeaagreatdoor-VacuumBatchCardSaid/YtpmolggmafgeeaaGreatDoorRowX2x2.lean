/- Calls that touch the heap, reckoned by the kernel once. -/
import Derived.Test.YtpmolggmafgeeaaGreatDoorRowS1
import Derived.Test.YtpmolggmafgeeaaGreatDoorDict0
namespace Go.Proofs.YtpmolggmafgeeaaGreatDoor
open Go Go.AM
set_option maxRecDepth 1000000
def mUmbelref27StoreCommit3S : SRow := ⟨[.pointer (some ⟨13, 0, none⟩)], 54, [(4, db1), (6, db2), (11, db7), (12, db8), (13, db29), (46, db12)], .tuple #[.string ds3, .int .i64 0], [(4, db30), (11, db23), (12, db27), (13, db31), (46, db12)], [db20, db18, db19, db21], [166, 185, 187, 270]⟩
theorem mUmbelref27StoreCommit3S_ok : rowS Cx1 80 100000 tabs mUmbelref27StoreCommit3S = true := by kernel_rfl
def mUmbelref27StoreCommit6S : SRow := ⟨[.pointer (some ⟨13, 0, none⟩)], 227, [(4, db30), (11, db23), (12, db49), (13, db50), (54, db20), (55, db18), (56, db19), (57, db21), (219, db34)], .tuple #[.string ds8, .int .i64 0], [(4, db51), (11, db23), (12, db47), (13, db52), (54, db20), (55, db18), (56, db19), (219, db34)], [db41, db39, db40, db42], [506, 528, 532, 617]⟩
theorem mUmbelref27StoreCommit6S_ok : rowS Cx1 80 100000 tabs mUmbelref27StoreCommit6S = true := by kernel_rfl
end Go.Proofs.YtpmolggmafgeeaaGreatDoor
