/- Cube roots, reckoned by the kernel. -/
import Derived.Test.YtpmolggmafgeeaaGreatDoorBase
namespace Go.Proofs.YtpmolggmafgeeaaGreatDoor
open Go Go.AM
set_option maxRecDepth 1000000
def cubes00 : List Row := cubes [(2, 1116352408), (3, 1899447441), (5, 3049323471), (7, 3921009573)]
theorem cubes00_ok : (cubes00.all (rowB C0 394 1000 noTabs)) = true := by kernel_rfl
def cubes01 : List Row := cubes [(11, 961987163), (13, 1508970993), (17, 2453635748), (19, 2870763221)]
theorem cubes01_ok : (cubes01.all (rowB C0 394 1000 noTabs)) = true := by kernel_rfl
def cubes02 : List Row := cubes [(23, 3624381080), (29, 310598401), (31, 607225278), (37, 1426881987)]
theorem cubes02_ok : (cubes02.all (rowB C0 394 1000 noTabs)) = true := by kernel_rfl
def cubes03 : List Row := cubes [(41, 1925078388), (43, 2162078206), (47, 2614888103), (53, 3248222580)]
theorem cubes03_ok : (cubes03.all (rowB C0 394 1000 noTabs)) = true := by kernel_rfl
def cubes04 : List Row := cubes [(59, 3835390401), (61, 4022224774), (67, 264347078), (71, 604807628)]
theorem cubes04_ok : (cubes04.all (rowB C0 394 1000 noTabs)) = true := by kernel_rfl
def cubes05 : List Row := cubes [(73, 770255983), (79, 1249150122), (83, 1555081692), (89, 1996064986)]
theorem cubes05_ok : (cubes05.all (rowB C0 394 1000 noTabs)) = true := by kernel_rfl
def cubes06 : List Row := cubes [(97, 2554220882), (101, 2821834349), (103, 2952996808), (107, 3210313671)]
theorem cubes06_ok : (cubes06.all (rowB C0 394 1000 noTabs)) = true := by kernel_rfl
def cubes07 : List Row := cubes [(109, 3336571891), (113, 3584528711), (127, 113926993), (131, 338241895)]
theorem cubes07_ok : (cubes07.all (rowB C0 394 1000 noTabs)) = true := by kernel_rfl
def cubes0 : List Row := cubes00 ++ cubes01 ++ cubes02 ++ cubes03 ++ cubes04 ++ cubes05 ++ cubes06 ++ cubes07
theorem cubes0_ok : (cubes0.all (rowB C0 394 1000 noTabs)) = true := by
  simp only [cubes0, List.all_append, cubes00_ok, cubes01_ok, cubes02_ok, cubes03_ok, cubes04_ok, cubes05_ok, cubes06_ok, cubes07_ok, Bool.and_self]
end Go.Proofs.YtpmolggmafgeeaaGreatDoor
