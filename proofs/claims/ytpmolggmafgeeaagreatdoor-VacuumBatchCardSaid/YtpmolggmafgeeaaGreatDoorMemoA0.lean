/- Closed calls, reckoned by the kernel once. -/
import Derived.Test.YtpmolggmafgeeaaGreatDoorBase
namespace Go.Proofs.YtpmolggmafgeeaaGreatDoor
open Go Go.AM
set_option maxRecDepth 1000000
def mSuperGood0 : Row := ([.agg #[.int .i64 1, .int .i64 1, .int .i64 3, .int .i64 2, .int .i64 0, .int .i64 2]], .bool true)
theorem mSuperGood0_ok : rowB C0 62 3000 noTabs mSuperGood0 = true := by kernel_rfl
def mSuperGood1 : Row := ([.agg #[.int .i64 0, .int .i64 0, .int .i64 0, .int .i64 0, .int .i64 0, .int .i64 0]], .bool false)
theorem mSuperGood1_ok : rowB C0 62 3000 noTabs mSuperGood1 = true := by kernel_rfl
def mSuperGood2 : Row := ([.agg #[.int .i64 2, .int .i64 2, .int .i64 6, .int .i64 4, .int .i64 5, .int .i64 2]], .bool true)
theorem mSuperGood2_ok : rowB C0 62 3000 noTabs mSuperGood2 = true := by kernel_rfl
def mSuperGood3 : Row := ([.agg #[.int .i64 3, .int .i64 3, .int .i64 8, .int .i64 6, .int .i64 7, .int .i64 2]], .bool true)
theorem mSuperGood3_ok : rowB C0 62 3000 noTabs mSuperGood3 = true := by kernel_rfl
end Go.Proofs.YtpmolggmafgeeaaGreatDoor
