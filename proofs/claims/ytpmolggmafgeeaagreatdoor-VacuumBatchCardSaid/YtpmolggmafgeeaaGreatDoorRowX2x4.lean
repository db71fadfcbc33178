/- Calls that touch the heap, reckoned by the kernel once. -/
import Derived.Test.YtpmolggmafgeeaaGreatDoorRowS1
import Derived.Test.YtpmolggmafgeeaaGreatDoorDict0
namespace Go.Proofs.YtpmolggmafgeeaaGreatDoor
open Go Go.AM
set_option maxRecDepth 1000000
def mVacuumOf12S : SRow := ⟨[.pointer (some ⟨10, 0, none⟩), .pointer (some ⟨3, 0, none⟩), .int .i64 3], 404, [(3, db56), (7, db57), (8, db58), (9, db59), (10, db60), (396, db61), (397, db62), (398, db63), (399, db64)], .int .i64 0, [(3, db100), (7, db93), (8, db94), (9, db16), (10, db101), (396, db61), (397, db62), (398, db63)], [db96, db97], [576, 590]⟩
theorem mVacuumOf12S_ok : rowS Cx1 7 100000 tabs mVacuumOf12S = true := by kernel_rfl
def mVacuumOf13S : SRow := ⟨[.pointer none, .pointer (some ⟨3, 0, none⟩), .int .i64 3], 412, [(3, db100), (404, db96)], .int .i64 1, [(3, db100), (404, db96)], [], []⟩
theorem mVacuumOf13S_ok : rowS Cx1 7 100000 tabs mVacuumOf13S = true := by kernel_rfl
def mVacuumOf14S : SRow := ⟨[.pointer (some ⟨10, 0, none⟩), .pointer (some ⟨3, 0, none⟩), .int .i64 0], 412, [(3, db100), (7, db93), (8, db94), (9, db16), (10, db101), (404, db96), (405, db97)], .int .i64 1, [(3, db100), (7, db93), (8, db94), (9, db16), (10, db101), (404, db96), (405, db97)], [], []⟩
theorem mVacuumOf14S_ok : rowS Cx1 7 100000 tabs mVacuumOf14S = true := by kernel_rfl
end Go.Proofs.YtpmolggmafgeeaaGreatDoor
