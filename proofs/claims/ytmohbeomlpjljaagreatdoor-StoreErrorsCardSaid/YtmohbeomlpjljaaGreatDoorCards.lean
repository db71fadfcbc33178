/-
  DERIVED. GIVEN WITH THE SEED: THE CARDS: each row of YtmohbeomlpjljaaGreatDoorRows.lean that lists a variable, with what it lists TIED to the program's text (the seventh form; the later family's looks); each row that meets fmt, with fmt's text TOLD by the authors' own Lean function (tested against real Go, not proved from fmt's source: count such statements apart). THE CARD IS WHAT COUNTS. Prove the row's statement (the work); the ties are given (YtmohbeomlpjljaaGreatDoorTie.lean); close each card by the builder's one call (the guide's Derived/Test/ToyasCard.lean, 'card_holds'). Laid BY PROGRAM, IN A SANDBOX (cutbox-door.mjs). By AI agents, Wed Nov 11 2026. No macro, syntax, notation, axiom, sorry.
-/
import Derived.Test.YtmohbeomlpjljaaGreatDoorRows
import GoSem.ClaimSeven
namespace Go.Proofs.YtmohbeomlpjljaaGreatDoor
namespace Rows

/-- THE TIED CARD OF 'umbellaw27.StoreErrors'. -/
def storeErrorsCard : Claim7 := { stood := { row := storeErrorsRow, standIns := [], harness := (true, "5bddf1079aa1c72ccea4d87cdf758833cac10469f55fabd48d878eb033f5aa82"), looks := true }, kinds := [], alts := [], laidByText := true, laidKinds := [.data, .data, .data], laidTests := true, laidLooks := .later }
def StoreErrorsCardSaid : Prop := Claim7.holds Tryz.pinned (.plain (OpenSpec.ofChange storeErrorsSpec)) storeErrorsCard

/-- THE SECOND FORM's CARD OF 'umbellaw27.StoreErrors'. -/
def storeErrorsUptoCard : Claim7 := { stood := { row := storeErrorsUptoRow, standIns := [], harness := (true, "5bddf1079aa1c72ccea4d87cdf758833cac10469f55fabd48d878eb033f5aa82"), looks := true }, kinds := [], alts := [], laidByText := true, laidKinds := [.data, .data, .data], laidTests := true, laidLooks := .later }
def StoreErrorsUptoCardSaid : Prop := Claim7.holds Tryz.pinned (.plain (OpenSpec.upto storeErrorsSpec)) storeErrorsUptoCard
end Rows
end Go.Proofs.YtmohbeomlpjljaaGreatDoor
