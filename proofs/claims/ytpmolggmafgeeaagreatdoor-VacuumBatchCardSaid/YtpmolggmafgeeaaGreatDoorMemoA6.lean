/- Closed calls, reckoned by the kernel once. -/
import Derived.Test.YtpmolggmafgeeaaGreatDoorBase
namespace Go.Proofs.YtpmolggmafgeeaaGreatDoor
open Go Go.AM
set_option maxRecDepth 1000000
def mDigestOf1 : Row := ([.string ⟨#[0]⟩], .string ⟨#[110, 52, 11, 156, 255, 179, 122, 152, 156, 165, 68, 230, 187, 120, 10, 44, 120, 144, 29, 63, 179, 55, 56, 118, 133, 17, 163, 6, 23, 175, 160, 29]⟩)
theorem mDigestOf1_ok : rowB C0 194 3000 tabs mDigestOf1 = true := by kernel_rfl
def mDigestOf2 : Row := ([.string ⟨#[1, 2, 97, 1, 49]⟩], .string ⟨#[229, 186, 36, 72, 161, 82, 115, 52, 243, 95, 39, 61, 201, 2, 89, 74, 98, 163, 59, 85, 95, 126, 29, 11, 20, 70, 242, 242, 156, 150, 197, 250]⟩)
theorem mDigestOf2_ok : rowB C0 194 3000 tabs mDigestOf2 = true := by kernel_rfl
def mDigestOf3 : Row := ([.string ⟨#[1, 2, 97, 1, 50]⟩], .string ⟨#[163, 225, 112, 117, 11, 35, 218, 238, 215, 204, 163, 104, 22, 247, 127, 42, 164, 13, 200, 37, 114, 138, 31, 199, 6, 216, 4, 38, 136, 225, 91, 24]⟩)
theorem mDigestOf3_ok : rowB C0 194 3000 tabs mDigestOf3 = true := by kernel_rfl
def mUmbelref02Pack0 : Row := ([.string ⟨#[6, 1]⟩], .agg #[.string ⟨#[2, 97]⟩, .bool true])
theorem mUmbelref02Pack0_ok : rowB C0 346 3000 noTabs mUmbelref02Pack0 = true := by kernel_rfl
end Go.Proofs.YtpmolggmafgeeaaGreatDoor
