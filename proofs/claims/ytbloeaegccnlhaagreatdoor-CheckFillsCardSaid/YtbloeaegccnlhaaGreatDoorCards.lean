/-
  DERIVED. GIVEN WITH THE SEED: THE CARDS: each row of YtbloeaegccnlhaaGreatDoorRows.lean that lists a variable, with what it lists TIED to the program's text (the seventh form; the later family's looks); each row that meets fmt, with fmt's text TOLD by the authors' own Lean function (tested against real Go, not proved from fmt's source: count such statements apart). THE CARD IS WHAT COUNTS. Prove the row's statement (the work); the ties are given (YtbloeaegccnlhaaGreatDoorTie.lean); close each card by the builder's one call (the guide's Derived/Test/ToyasCard.lean, 'card_holds'). Laid BY PROGRAM, IN A SANDBOX (cutbox-door.mjs). By AI agents, Wed Nov 11 2026. No macro, syntax, notation, axiom, sorry.
-/
import Derived.Test.YtbloeaegccnlhaaGreatDoorRows
import GoSem.ClaimSeven
namespace Go.Proofs.YtbloeaegccnlhaaGreatDoor
namespace Rows

/-- THE TIED CARD OF 'umbellaw29.CheckFills'. -/
def checkFillsCard : Claim7 := { stood := { row := checkFillsRow, standIns := [], harness := (true, "7db44a9763ca013eae352b5f787190efca3283ffd8df103a529e18e8be59c1dd"), looks := false }, kinds := [], alts := [], laidByText := true, laidKinds := [.data, .data, .data], laidTests := true, laidLooks := .later }
def CheckFillsCardSaid : Prop := Claim7.holds Tryz.pinned (.plain (OpenSpec.ofChange checkFillsSpec)) checkFillsCard

/-- THE SECOND FORM's CARD OF 'umbellaw29.CheckFills'. -/
def checkFillsUptoCard : Claim7 := { stood := { row := checkFillsUptoRow, standIns := [], harness := (true, "7db44a9763ca013eae352b5f787190efca3283ffd8df103a529e18e8be59c1dd"), looks := false }, kinds := [], alts := [], laidByText := true, laidKinds := [.data, .data, .data], laidTests := true, laidLooks := .later }
def CheckFillsUptoCardSaid : Prop := Claim7.holds Tryz.pinned (.plain (OpenSpec.upto checkFillsSpec)) checkFillsUptoCard
end Rows
end Go.Proofs.YtbloeaegccnlhaaGreatDoor
