/- Closed calls, reckoned by the kernel once. -/
import Derived.Test.YtpmolggmafgeeaaGreatDoorMachA
namespace Go.Proofs.YtpmolggmafgeeaaGreatDoor
open Go Go.AM
set_option maxRecDepth 1000000
def mUmbelref07Get0 : Row := ([.string ⟨#[2, 0, 2, 0, 0, 0, 1, 0, 1, 0, 0, 0, 0, 0, 0, 0, 0, 0, 0, 0, 0, 0, 0, 0, 0, 0, 0, 0, 0, 0, 0, 0, 0, 0, 0, 0, 0, 0, 0, 0, 0, 0, 0, 0, 0, 0, 0, 0, 0, 0, 0, 0, 0, 0, 0, 0, 0, 0, 0, 0, 0, 0, 0, 0, 0, 0, 0, 0, 0, 0, 0, 0, 0, 0, 0, 0, 0, 0, 0, 0, 0, 0, 0, 0, 0, 0, 0, 0, 0, 0, 0, 0, 0, 0, 0, 0, 0, 0, 0, 0, 0, 0, 0, 0, 0, 0, 0, 0, 0, 0, 0, 0, 0, 0, 0, 0, 0, 0, 0, 0, 0, 0, 0, 0, 0, 0, 0, 0, 0, 0, 0, 0, 0, 0, 0, 0, 0, 0, 0, 0, 0, 0, 0, 0, 0, 0, 0, 0, 0, 0, 0, 0, 0, 0, 0, 0, 0, 0, 0, 0, 0, 0, 0, 0, 0, 0, 0, 0, 0, 0, 0, 0, 0, 0, 0, 0, 0, 0, 0, 0, 0, 0, 0, 0, 0, 0, 0, 0, 0, 0, 0, 0, 0, 0, 0, 0, 0, 0, 0, 0, 0, 0, 0, 0, 0, 0, 0, 0, 0, 0, 0, 0, 0, 0, 0, 0, 0, 0, 0, 0, 0, 0, 0, 0, 0, 0, 0, 0, 0, 0, 0, 0, 0, 0, 0, 0, 0, 0, 0, 0, 0, 0, 0, 0, 0, 0, 0, 0, 0, 0, 0, 0, 19, 79, 218, 241]⟩, .int .i64 2], .agg #[.int .i64 2, .int .i64 1, .string ⟨#[0]⟩, .bool true])
theorem mUmbelref07Get0_ok : rowB Ca 188 3000 tabs mUmbelref07Get0 = true := by kernel_rfl
def mUmbelref07Get1 : Row := ([.string ⟨#[1, 0, 3, 0, 0, 0, 2, 0, 5, 1, 2, 97, 1, 48, 0, 0, 0, 0, 0, 0, 0, 0, 0, 0, 0, 0, 0, 0, 0, 0, 0, 0, 0, 0, 0, 0, 0, 0, 0, 0, 0, 0, 0, 0, 0, 0, 0, 0, 0, 0, 0, 0, 0, 0, 0, 0, 0, 0, 0, 0, 0, 0, 0, 0, 0, 0, 0, 0, 0, 0, 0, 0, 0, 0, 0, 0, 0, 0, 0, 0, 0, 0, 0, 0, 0, 0, 0, 0, 0, 0, 0, 0, 0, 0, 0, 0, 0, 0, 0, 0, 0, 0, 0, 0, 0, 0, 0, 0, 0, 0, 0, 0, 0, 0, 0, 0, 0, 0, 0, 0, 0, 0, 0, 0, 0, 0, 0, 0, 0, 0, 0, 0, 0, 0, 0, 0, 0, 0, 0, 0, 0, 0, 0, 0, 0, 0, 0, 0, 0, 0, 0, 0, 0, 0, 0, 0, 0, 0, 0, 0, 0, 0, 0, 0, 0, 0, 0, 0, 0, 0, 0, 0, 0, 0, 0, 0, 0, 0, 0, 0, 0, 0, 0, 0, 0, 0, 0, 0, 0, 0, 0, 0, 0, 0, 0, 0, 0, 0, 0, 0, 0, 0, 0, 0, 0, 0, 0, 0, 0, 0, 0, 0, 0, 0, 0, 0, 0, 0, 0, 0, 0, 0, 0, 0, 0, 0, 0, 0, 0, 0, 0, 0, 0, 0, 0, 0, 0, 0, 0, 0, 0, 0, 0, 0, 0, 0, 0, 0, 0, 0, 0, 0, 217, 58, 50, 65]⟩, .int .i64 3], .agg #[.int .i64 1, .int .i64 2, .string ⟨#[1, 2, 97, 1, 48]⟩, .bool true])
theorem mUmbelref07Get1_ok : rowB Ca 188 3000 tabs mUmbelref07Get1 = true := by kernel_rfl
def mUmbelref07Get2 : Row := ([.string ⟨#[1, 0, 2, 0, 0, 0, 3, 0, 5, 1, 2, 97, 1, 49, 0, 0, 0, 0, 0, 0, 0, 0, 0, 0, 0, 0, 0, 0, 0, 0, 0, 0, 0, 0, 0, 0, 0, 0, 0, 0, 0, 0, 0, 0, 0, 0, 0, 0, 0, 0, 0, 0, 0, 0, 0, 0, 0, 0, 0, 0, 0, 0, 0, 0, 0, 0, 0, 0, 0, 0, 0, 0, 0, 0, 0, 0, 0, 0, 0, 0, 0, 0, 0, 0, 0, 0, 0, 0, 0, 0, 0, 0, 0, 0, 0, 0, 0, 0, 0, 0, 0, 0, 0, 0, 0, 0, 0, 0, 0, 0, 0, 0, 0, 0, 0, 0, 0, 0, 0, 0, 0, 0, 0, 0, 0, 0, 0, 0, 0, 0, 0, 0, 0, 0, 0, 0, 0, 0, 0, 0, 0, 0, 0, 0, 0, 0, 0, 0, 0, 0, 0, 0, 0, 0, 0, 0, 0, 0, 0, 0, 0, 0, 0, 0, 0, 0, 0, 0, 0, 0, 0, 0, 0, 0, 0, 0, 0, 0, 0, 0, 0, 0, 0, 0, 0, 0, 0, 0, 0, 0, 0, 0, 0, 0, 0, 0, 0, 0, 0, 0, 0, 0, 0, 0, 0, 0, 0, 0, 0, 0, 0, 0, 0, 0, 0, 0, 0, 0, 0, 0, 0, 0, 0, 0, 0, 0, 0, 0, 0, 0, 0, 0, 0, 0, 0, 0, 0, 0, 0, 0, 0, 0, 0, 0, 0, 0, 0, 0, 0, 0, 0, 0, 184, 234, 26, 52]⟩, .int .i64 2], .agg #[.int .i64 1, .int .i64 3, .string ⟨#[1, 2, 97, 1, 49]⟩, .bool true])
theorem mUmbelref07Get2_ok : rowB Ca 188 3000 tabs mUmbelref07Get2 = true := by kernel_rfl
def mNodeEncode0 : Row := ([.agg #[.int .i64 1, .string ⟨#[6, 1]⟩, .bool true, .string ⟨#[48]⟩, .int .i64 0, .slice none 0 0]], .tuple #[.string ⟨#[1, 2, 97, 1, 48]⟩, .bool true])
theorem mNodeEncode0_ok : rowB Ca 252 3000 tabs mNodeEncode0 = true := by kernel_rfl
def mNodeEncode1 : Row := ([.agg #[.int .i64 1, .string ⟨#[6, 1]⟩, .bool true, .string ⟨#[49]⟩, .int .i64 0, .slice none 0 0]], .tuple #[.string ⟨#[1, 2, 97, 1, 49]⟩, .bool true])
theorem mNodeEncode1_ok : rowB Ca 252 3000 tabs mNodeEncode1 = true := by kernel_rfl
def mNodeEncode2 : Row := ([.agg #[.int .i64 1, .string ⟨#[6, 1]⟩, .bool true, .string ⟨#[50]⟩, .int .i64 0, .slice none 0 0]], .tuple #[.string ⟨#[1, 2, 97, 1, 50]⟩, .bool true])
theorem mNodeEncode2_ok : rowB Ca 252 3000 tabs mNodeEncode2 = true := by kernel_rfl
def mNodeHash0 : Row := ([.agg #[.int .i64 1, .string ⟨#[6, 1]⟩, .bool true, .string ⟨#[48]⟩, .int .i64 0, .slice none 0 0]], .tuple #[.string ⟨#[106, 168, 229, 25, 125, 162, 129, 90, 230, 94, 135, 174, 245, 174, 96, 247, 81, 99, 0, 214, 21, 94, 252, 246, 26, 54, 174, 73, 182, 250, 227, 54]⟩, .bool true])
theorem mNodeHash0_ok : rowB Ca 284 3000 tabs mNodeHash0 = true := by kernel_rfl
def mNodeHash1 : Row := ([.agg #[.int .i64 1, .string ⟨#[6, 1]⟩, .bool true, .string ⟨#[49]⟩, .int .i64 0, .slice none 0 0]], .tuple #[.string ⟨#[229, 186, 36, 72, 161, 82, 115, 52, 243, 95, 39, 61, 201, 2, 89, 74, 98, 163, 59, 85, 95, 126, 29, 11, 20, 70, 242, 242, 156, 150, 197, 250]⟩, .bool true])
theorem mNodeHash1_ok : rowB Ca 284 3000 tabs mNodeHash1 = true := by kernel_rfl
def mNodeHash2 : Row := ([.agg #[.int .i64 1, .string ⟨#[6, 1]⟩, .bool true, .string ⟨#[50]⟩, .int .i64 0, .slice none 0 0]], .tuple #[.string ⟨#[163, 225, 112, 117, 11, 35, 218, 238, 215, 204, 163, 104, 22, 247, 127, 42, 164, 13, 200, 37, 114, 138, 31, 199, 6, 216, 4, 38, 136, 225, 91, 24]⟩, .bool true])
theorem mNodeHash2_ok : rowB Ca 284 3000 tabs mNodeHash2 = true := by kernel_rfl
def mUmbelref02Key0 : Row := ([.string ⟨#[6, 1]⟩], .agg #[.string ⟨#[97]⟩, .bool true])
theorem mUmbelref02Key0_ok : rowB Ca 312 3000 tabs mUmbelref02Key0 = true := by kernel_rfl
def mNibbleUnpack0 : Row := ([.string ⟨#[2, 97, 1, 48]⟩], .tuple #[.string ⟨#[6, 1]⟩, .int .i64 2, .bool true])
theorem mNibbleUnpack0_ok : rowB Ca 407 3000 tabs mNibbleUnpack0 = true := by kernel_rfl
def mNibbleUnpack1 : Row := ([.string ⟨#[2, 97, 1, 49]⟩], .tuple #[.string ⟨#[6, 1]⟩, .int .i64 2, .bool true])
theorem mNibbleUnpack1_ok : rowB Ca 407 3000 tabs mNibbleUnpack1 = true := by kernel_rfl
def mNibbleUnpack2 : Row := ([.string ⟨#[2, 97, 1, 50]⟩], .tuple #[.string ⟨#[6, 1]⟩, .int .i64 2, .bool true])
theorem mNibbleUnpack2_ok : rowB Ca 407 3000 tabs mNibbleUnpack2 = true := by kernel_rfl
def mUmbelref02Unpack0 : Row := ([.string ⟨#[2, 97, 1, 48]⟩], .agg #[.string ⟨#[6, 1]⟩, .int .i64 2, .bool true])
theorem mUmbelref02Unpack0_ok : rowB Ca 437 3000 tabs mUmbelref02Unpack0 = true := by kernel_rfl
def mUmbelref02Unpack1 : Row := ([.string ⟨#[2, 97, 1, 49]⟩], .agg #[.string ⟨#[6, 1]⟩, .int .i64 2, .bool true])
theorem mUmbelref02Unpack1_ok : rowB Ca 437 3000 tabs mUmbelref02Unpack1 = true := by kernel_rfl
end Go.Proofs.YtpmolggmafgeeaaGreatDoor
