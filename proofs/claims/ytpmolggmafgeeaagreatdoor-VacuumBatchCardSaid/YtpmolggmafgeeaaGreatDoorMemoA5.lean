/- Closed calls, reckoned by the kernel once. -/
import Derived.Test.YtpmolggmafgeeaaGreatDoorBase
namespace Go.Proofs.YtpmolggmafgeeaaGreatDoor
open Go Go.AM
set_option maxRecDepth 1000000
def mUmbelref02Of0 : Row := ([.string ⟨#[97]⟩], .string ⟨#[6, 1]⟩)
theorem mUmbelref02Of0_ok : rowB C0 315 3000 noTabs mUmbelref02Of0 = true := by kernel_rfl
def mNibbleKey0 : Row := ([.string ⟨#[6, 1]⟩], .tuple #[.string ⟨#[97]⟩, .bool true])
theorem mNibbleKey0_ok : rowB C0 409 3000 noTabs mNibbleKey0 = true := by kernel_rfl
def mNibblePack0 : Row := ([.string ⟨#[6, 1]⟩], .tuple #[.string ⟨#[2, 97]⟩, .bool true])
theorem mNibblePack0_ok : rowB C0 342 3000 noTabs mNibblePack0 = true := by kernel_rfl
def mDigestOf0 : Row := ([.string ⟨#[1, 2, 97, 1, 48]⟩], .string ⟨#[106, 168, 229, 25, 125, 162, 129, 90, 230, 94, 135, 174, 245, 174, 96, 247, 81, 99, 0, 214, 21, 94, 252, 246, 26, 54, 174, 73, 182, 250, 227, 54]⟩)
theorem mDigestOf0_ok : rowB C0 194 3000 tabs mDigestOf0 = true := by kernel_rfl
end Go.Proofs.YtpmolggmafgeeaaGreatDoor
