/- Closed calls, reckoned by the kernel once. -/
import Derived.Test.YtmohbeomlpjljaaGreatDoorMachA
namespace Go.Proofs.YtmohbeomlpjljaaGreatDoor
open Go Go.AM
set_option maxRecDepth 1000000
def mUmbelref23Num1 : Row := ([.string ⟨#[0, 0]⟩], .int .i64 0)
theorem mUmbelref23Num1_ok : rowB Ca 196 3000 tabs mUmbelref23Num1 = true := by kernel_rfl
def mUmbelref23Num2 : Row := ([.string ⟨#[0]⟩], .int .i64 0)
theorem mUmbelref23Num2_ok : rowB Ca 196 3000 tabs mUmbelref23Num2 = true := by kernel_rfl
def mUmbelref23Num3 : Row := ([.string ⟨#[0, 0, 0, 1]⟩], .int .i64 1)
theorem mUmbelref23Num3_ok : rowB Ca 196 3000 tabs mUmbelref23Num3 = true := by kernel_rfl
def mUmbelref23Num4 : Row := ([.string ⟨#[0, 3]⟩], .int .i64 3)
theorem mUmbelref23Num4_ok : rowB Ca 196 3000 tabs mUmbelref23Num4 = true := by kernel_rfl
def mUmbelref23Num5 : Row := ([.string ⟨#[0, 2]⟩], .int .i64 2)
theorem mUmbelref23Num5_ok : rowB Ca 196 3000 tabs mUmbelref23Num5 = true := by kernel_rfl
def mUmbelref23Num6 : Row := ([.string ⟨#[2]⟩], .int .i64 2)
theorem mUmbelref23Num6_ok : rowB Ca 196 3000 tabs mUmbelref23Num6 = true := by kernel_rfl
def mNodeHash0 : Row := ([.agg #[.int .i64 1, .string ⟨#[6, 1]⟩, .bool true, .string ⟨#[49]⟩, .int .i64 0, .slice none 0 0]], .tuple #[.string ⟨#[229, 186, 36, 72, 161, 82, 115, 52, 243, 95, 39, 61, 201, 2, 89, 74, 98, 163, 59, 85, 95, 126, 29, 11, 20, 70, 242, 242, 156, 150, 197, 250]⟩, .bool true])
theorem mNodeHash0_ok : rowB Ca 237 3000 tabs mNodeHash0 = true := by kernel_rfl
end Go.Proofs.YtmohbeomlpjljaaGreatDoor
