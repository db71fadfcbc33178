/- Cube roots, reckoned by the kernel. -/
import Derived.Test.YtpmolggmafgeeaaGreatDoorBase
namespace Go.Proofs.YtpmolggmafgeeaaGreatDoor
open Go Go.AM
set_option maxRecDepth 1000000
def cubes10 : List Row := cubes [(137, 666307205), (139, 773529912), (149, 1294757372), (151, 1396182291)]
theorem cubes10_ok : (cubes10.all (rowB C0 394 1000 noTabs)) = true := by kernel_rfl
def cubes11 : List Row := cubes [(157, 1695183700), (163, 1986661051), (167, 2177026350), (173, 2456956037)]
theorem cubes11_ok : (cubes11.all (rowB C0 394 1000 noTabs)) = true := by kernel_rfl
def cubes12 : List Row := cubes [(179, 2730485921), (181, 2820302411), (191, 3259730800), (193, 3345764771)]
theorem cubes12_ok : (cubes12.all (rowB C0 394 1000 noTabs)) = true := by kernel_rfl
def cubes13 : List Row := cubes [(197, 3516065817), (199, 3600352804), (211, 4094571909), (223, 275423344)]
theorem cubes13_ok : (cubes13.all (rowB C0 394 1000 noTabs)) = true := by kernel_rfl
def cubes14 : List Row := cubes [(227, 430227734), (229, 506948616), (233, 659060556), (239, 883997877)]
theorem cubes14_ok : (cubes14.all (rowB C0 394 1000 noTabs)) = true := by kernel_rfl
def cubes15 : List Row := cubes [(241, 958139571), (251, 1322822218), (257, 1537002063), (263, 1747873779)]
theorem cubes15_ok : (cubes15.all (rowB C0 394 1000 noTabs)) = true := by kernel_rfl
def cubes16 : List Row := cubes [(269, 1955562222), (271, 2024104815), (277, 2227730452), (281, 2361852424)]
theorem cubes16_ok : (cubes16.all (rowB C0 394 1000 noTabs)) = true := by kernel_rfl
def cubes17 : List Row := cubes [(283, 2428436474), (293, 2756734187), (307, 3204031479), (311, 3329325298)]
theorem cubes17_ok : (cubes17.all (rowB C0 394 1000 noTabs)) = true := by kernel_rfl
def cubes1 : List Row := cubes10 ++ cubes11 ++ cubes12 ++ cubes13 ++ cubes14 ++ cubes15 ++ cubes16 ++ cubes17
theorem cubes1_ok : (cubes1.all (rowB C0 394 1000 noTabs)) = true := by
  simp only [cubes1, List.all_append, cubes10_ok, cubes11_ok, cubes12_ok, cubes13_ok, cubes14_ok, cubes15_ok, cubes16_ok, cubes17_ok, Bool.and_self]
end Go.Proofs.YtpmolggmafgeeaaGreatDoor
