/- Closed calls, reckoned by the kernel once. -/
import Derived.Test.YtmohbeomlpjljaaGreatDoorBase
namespace Go.Proofs.YtmohbeomlpjljaaGreatDoor
open Go Go.AM
set_option maxRecDepth 1000000
def mNibblePack0 : Row := ([.string ⟨#[6, 1]⟩], .tuple #[.string ⟨#[2, 97]⟩, .bool true])
theorem mNibblePack0_ok : rowB C0 169 3000 noTabs mNibblePack0 = true := by kernel_rfl
end Go.Proofs.YtmohbeomlpjljaaGreatDoor
