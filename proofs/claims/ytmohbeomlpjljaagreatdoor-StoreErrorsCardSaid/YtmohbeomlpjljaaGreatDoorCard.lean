/- PROVED HERE: the card of StoreErrors: for all roots, keys and values the law returns true, its arguments read as before; conditions: what the three listed package variables read as (tied to the text by the card). -/
import Derived.Test.YtmohbeomlpjljaaGreatDoorTie
import Derived.Test.YtmohbeomlpjljaaGreatDoorCards
import Derived.SevenTiedAt
import Derived.Test.YtmohbeomlpjljaaGreatDoorRow
namespace Go.Proofs.YtmohbeomlpjljaaGreatDoor
open Go.ChangeShapes Go.WideShapes Go.ChangeAt Go.ChangeMaps Go.RowKit
set_option maxRecDepth 1000000
theorem cWf : OpenClaim.wfByText (OpenSpec.ofChange Rows.storeErrorsSpec) Rows.storeErrorsRow = true := by kernel_rfl
theorem cMain : Tryz.pinned.checked.prog.mainIs = some (true, "5bddf1079aa1c72ccea4d87cdf758833cac10469f55fabd48d878eb033f5aa82".toList) := by kernel_rfl
theorem cNamed : Tryz.prog.funcNamed "umbel/umbellaw27.StoreErrors" = some 3 := by kernel_rfl
theorem cLooks : true = Tryz.pinned.checked.prog.looks [] := by kernel_rfl
theorem cStand : Tryz.prog.wantsStandIn 9 = false := by kernel_rfl
theorem cGoes : false = Rows.storeErrorsRow.goesBy Tryz.pinned.checked.prog := by kernel_rfl
theorem storeErrors_card_holds : Rows.StoreErrorsCardSaid :=
  Claim7.holds_tied_plain_at .later [] [.data, .data, .data] true (true, "5bddf1079aa1c72ccea4d87cdf758833cac10469f55fabd48d878eb033f5aa82") true
    f_holds (fun _ h => by cases h) cWf (fun _ h => by cases h) storeErrors_row_tie rfl ⟨rfl, rfl⟩ cMain rfl
    (fun f fn hf hfn => by
      obtain rfl : f = 3 := Option.some.inj (cNamed.symm.trans hf) |>.symm
      obtain rfl : fn = Tryz.f3 := (Option.some.inj (Tryz.func3.symm.trans hfn)).symm
      exact ⟨cLooks, fun j t ht => by
        rw [Tryz.params3] at ht
        have h3 : t = 9 := by
          rcases j with _ | _ | _ | j
          · simpa using ht.symm
          · simpa using ht.symm
          · simpa using ht.symm
          · simp at ht
        subst h3
        exact cStand⟩)
    cGoes
#print axioms storeErrors_card_holds
end Go.Proofs.YtmohbeomlpjljaaGreatDoor
