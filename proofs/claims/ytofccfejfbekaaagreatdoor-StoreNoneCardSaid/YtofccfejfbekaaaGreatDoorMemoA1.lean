/- Closed calls, reckoned by the kernel once. -/
import Derived.Test.YtofccfejfbekaaaGreatDoorBase
namespace Go.Proofs.YtofccfejfbekaaaGreatDoor
open Go Go.AM
set_option maxRecDepth 1000000
def mNibbleOf0 : Row := ([.string ⟨#[97]⟩], .string ⟨#[6, 1]⟩)
theorem mNibbleOf0_ok : rowB C0 78 3000 noTabs mNibbleOf0 = true := by kernel_rfl
def mNibbleKey0 : Row := ([.string ⟨#[6, 1]⟩], .tuple #[.string ⟨#[97]⟩, .bool true])
theorem mNibbleKey0_ok : rowB C0 259 3000 noTabs mNibbleKey0 = true := by kernel_rfl
def mNibblePack0 : Row := ([.string ⟨#[6, 1]⟩], .tuple #[.string ⟨#[2, 97]⟩, .bool true])
theorem mNibblePack0_ok : rowB C0 107 3000 noTabs mNibblePack0 = true := by kernel_rfl
def mDigestOf0 : Row := ([.string ⟨#[1, 2, 97, 1, 49]⟩], .string ⟨#[229, 186, 36, 72, 161, 82, 115, 52, 243, 95, 39, 61, 201, 2, 89, 74, 98, 163, 59, 85, 95, 126, 29, 11, 20, 70, 242, 242, 156, 150, 197, 250]⟩)
theorem mDigestOf0_ok : rowB C0 174 3000 tabs mDigestOf0 = true := by kernel_rfl
def mDigestOf1 : Row := ([.string ⟨#[0]⟩], .string ⟨#[110, 52, 11, 156, 255, 179, 122, 152, 156, 165, 68, 230, 187, 120, 10, 44, 120, 144, 29, 63, 179, 55, 56, 118, 133, 17, 163, 6, 23, 175, 160, 29]⟩)
theorem mDigestOf1_ok : rowB C0 174 3000 tabs mDigestOf1 = true := by kernel_rfl
def mUmbelref04With0 : Row := ([.string ⟨#[1, 2, 97, 1, 49]⟩, .agg #[.int .u32 1779033703, .int .u32 3144134277, .int .u32 1013904242, .int .u32 2773480762, .int .u32 1359893119, .int .u32 2600822924, .int .u32 528734635, .int .u32 1541459225], .agg #[.int .u32 1116352408, .int .u32 1899447441, .int .u32 3049323471, .int .u32 3921009573, .int .u32 961987163, .int .u32 1508970993, .int .u32 2453635748, .int .u32 2870763221, .int .u32 3624381080, .int .u32 310598401, .int .u32 607225278, .int .u32 1426881987, .int .u32 1925078388, .int .u32 2162078206, .int .u32 2614888103, .int .u32 3248222580, .int .u32 3835390401, .int .u32 4022224774, .int .u32 264347078, .int .u32 604807628, .int .u32 770255983, .int .u32 1249150122, .int .u32 1555081692, .int .u32 1996064986, .int .u32 2554220882, .int .u32 2821834349, .int .u32 2952996808, .int .u32 3210313671, .int .u32 3336571891, .int .u32 3584528711, .int .u32 113926993, .int .u32 338241895, .int .u32 666307205, .int .u32 773529912, .int .u32 1294757372, .int .u32 1396182291, .int .u32 1695183700, .int .u32 1986661051, .int .u32 2177026350, .int .u32 2456956037, .int .u32 2730485921, .int .u32 2820302411, .int .u32 3259730800, .int .u32 3345764771, .int .u32 3516065817, .int .u32 3600352804, .int .u32 4094571909, .int .u32 275423344, .int .u32 430227734, .int .u32 506948616, .int .u32 659060556, .int .u32 883997877, .int .u32 958139571, .int .u32 1322822218, .int .u32 1537002063, .int .u32 1747873779, .int .u32 1955562222, .int .u32 2024104815, .int .u32 2227730452, .int .u32 2361852424, .int .u32 2428436474, .int .u32 2756734187, .int .u32 3204031479, .int .u32 3329325298]], .string ⟨#[229, 186, 36, 72, 161, 82, 115, 52, 243, 95, 39, 61, 201, 2, 89, 74, 98, 163, 59, 85, 95, 126, 29, 11, 20, 70, 242, 242, 156, 150, 197, 250]⟩)
theorem mUmbelref04With0_ok : rowB C0 129 3000 noTabs mUmbelref04With0 = true := by kernel_rfl
end Go.Proofs.YtofccfejfbekaaaGreatDoor
