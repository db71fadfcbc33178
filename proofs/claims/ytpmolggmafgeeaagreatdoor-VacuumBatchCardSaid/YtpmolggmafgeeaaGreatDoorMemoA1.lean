/- Closed calls, reckoned by the kernel once. -/
import Derived.Test.YtpmolggmafgeeaaGreatDoorBase
namespace Go.Proofs.YtpmolggmafgeeaaGreatDoor
open Go Go.AM
set_option maxRecDepth 1000000
def mSuperGood4 : Row := ([.agg #[.int .i64 4, .int .i64 4, .int .i64 9, .int .i64 5, .int .i64 8, .int .i64 2]], .bool true)
theorem mSuperGood4_ok : rowB C0 62 3000 noTabs mSuperGood4 = true := by kernel_rfl
def mSuperGood5 : Row := ([.agg #[.int .i64 5, .int .i64 5, .int .i64 13, .int .i64 11, .int .i64 12, .int .i64 2]], .bool true)
theorem mSuperGood5_ok : rowB C0 62 3000 noTabs mSuperGood5 = true := by kernel_rfl
def mSuperGood6 : Row := ([.agg #[.int .i64 6, .int .i64 6, .int .i64 5, .int .i64 4, .int .i64 0, .int .i64 2]], .bool true)
theorem mSuperGood6_ok : rowB C0 62 3000 noTabs mSuperGood6 = true := by kernel_rfl
def mSuperGood7 : Row := ([.agg #[.int .i64 2, .int .i64 2, .int .i64 5, .int .i64 3, .int .i64 4, .int .i64 2]], .bool true)
theorem mSuperGood7_ok : rowB C0 62 3000 noTabs mSuperGood7 = true := by kernel_rfl
end Go.Proofs.YtpmolggmafgeeaaGreatDoor
