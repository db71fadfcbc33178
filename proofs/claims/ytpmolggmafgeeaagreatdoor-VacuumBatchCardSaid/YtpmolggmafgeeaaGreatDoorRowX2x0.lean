/- Calls that touch the heap, reckoned by the kernel once. -/
import Derived.Test.YtpmolggmafgeeaaGreatDoorRowS1
import Derived.Test.YtpmolggmafgeeaaGreatDoorDict0
namespace Go.Proofs.YtpmolggmafgeeaaGreatDoor
open Go Go.AM
set_option maxRecDepth 1000000
def mStoreStoreCommit1S : SRow := ⟨[.pointer (some ⟨10, 0, none⟩)], 50, [(3, db0), (5, db2), (7, db3), (8, db4), (9, db5), (10, db11), (31, db12)], .tuple #[.string ds3, .int .i64 0], [(3, db13), (7, db14), (8, db15), (9, db16), (10, db17), (31, db12)], [db18, db19, db20, db21], [160, 162, 242, 273]⟩
theorem mStoreStoreCommit1S_ok : rowS Cx1 79 100000 tabs mStoreStoreCommit1S = true := by kernel_rfl
def mStoreStoreCommit4S : SRow := ⟨[.pointer (some ⟨10, 0, none⟩)], 223, [(3, db13), (7, db32), (8, db15), (9, db16), (10, db33), (50, db18), (51, db19), (52, db20), (53, db21), (194, db34)], .tuple #[.string ds8, .int .i64 0], [(3, db35), (7, db36), (8, db37), (9, db16), (10, db38), (50, db18), (51, db19), (52, db20), (194, db34)], [db39, db40, db41, db42], [450, 454, 536, 572]⟩
theorem mStoreStoreCommit4S_ok : rowS Cx1 79 100000 tabs mStoreStoreCommit4S = true := by kernel_rfl
end Go.Proofs.YtpmolggmafgeeaaGreatDoor
