/- Calls that touch the heap, reckoned by the kernel once. -/
import Derived.Test.YtpmolggmafgeeaaGreatDoorRowS1
import Derived.Test.YtpmolggmafgeeaaGreatDoorDict0
namespace Go.Proofs.YtpmolggmafgeeaaGreatDoor
open Go Go.AM
set_option maxRecDepth 1000000
def mStoreStoreCommit7S : SRow := ⟨[.pointer (some ⟨10, 0, none⟩)], 396, [(3, db35), (7, db53), (8, db37), (9, db16), (10, db54), (223, db39), (224, db40), (225, db41), (226, db42), (367, db55)], .tuple #[.string ds13, .int .i64 0], [(3, db56), (7, db57), (8, db58), (9, db59), (10, db60), (223, db39), (224, db40), (225, db41), (367, db55)], [db61, db62, db63, db64], [701, 707, 789, 826]⟩
theorem mStoreStoreCommit7S_ok : rowS Cx1 79 100000 tabs mStoreStoreCommit7S = true := by kernel_rfl
end Go.Proofs.YtpmolggmafgeeaaGreatDoor
