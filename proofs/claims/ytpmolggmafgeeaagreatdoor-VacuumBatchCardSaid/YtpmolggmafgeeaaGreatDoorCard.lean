/- PROVED HERE: the card of VacuumBatch: for all numbers of frames the law returns true, its argument reads as before; conditions: what the three listed package variables read as (tied to the text by the card). -/
import Derived.Test.YtpmolggmafgeeaaGreatDoorTie
import Derived.Test.YtpmolggmafgeeaaGreatDoorCards
import Derived.SevenTiedAt
import Derived.Test.YtpmolggmafgeeaaGreatDoorRow
import Derived.Test.YtpmolggmafgeeaaGreatDoorGoes
namespace Go.Proofs.YtpmolggmafgeeaaGreatDoor
open Go.ChangeShapes Go.WideShapes Go.ChangeAt Go.ChangeMaps Go.RowKit
set_option maxRecDepth 1000000
theorem cWf : OpenClaim.wfByText (OpenSpec.ofChange Rows.vacuumBatchSpec) Rows.vacuumBatchRow = true := by kernel_rfl
theorem cMain : Tryz.pinned.checked.prog.mainIs = some (true, "f66152be6cef848a0827bdaae17dca9fc2635645ae10bdcfc4448b5bb5591349".toList) := by kernel_rfl
theorem cNamed : Tryz.prog.funcNamed "umbel/umbellaw28.VacuumBatch" = some 3 := by kernel_rfl
theorem cLooks : true = Tryz.pinned.checked.prog.looks [] := by kernel_rfl
theorem cStand : Tryz.prog.wantsStandIn 5 = false := by kernel_rfl
theorem goes_of {P : Program} {c : OpenClaim} (hs : c.start = .entering) (h : ∀ f, P.goes f = false) : false = c.goesBy P := by
  unfold OpenClaim.goesBy Program.goesAt Program.goesFrom
  rw [hs]
  cases P.funcNamed c.func with
  | none => rfl
  | some f => show false = (P.goes f || false); rw [h f]; rfl
theorem cGoes : false = Rows.vacuumBatchRow.goesBy Tryz.pinned.checked.prog := goes_of rfl noGoAny
theorem vacuumBatch_card_holds : Rows.VacuumBatchCardSaid :=
  Claim7.holds_tied_plain_at .later [] [.data, .data, .data] true (true, "f66152be6cef848a0827bdaae17dca9fc2635645ae10bdcfc4448b5bb5591349") true
    f_holds (fun _ h => by cases h) cWf (fun _ h => by cases h) vacuumBatch_row_tie rfl ⟨rfl, rfl⟩ cMain rfl
    (fun f fn hf hfn => by
      obtain rfl : f = 3 := Option.some.inj (cNamed.symm.trans hf) |>.symm
      obtain rfl : fn = Tryz.f3 := (Option.some.inj (Tryz.func3.symm.trans hfn)).symm
      exact ⟨cLooks, fun j t ht => by
        rw [Tryz.params3] at ht
        have h3 : t = 5 := by
          rcases j with _ | j
          · simpa using ht.symm
          · simp at ht
        subst h3
        exact cStand⟩)
    cGoes
#print axioms vacuumBatch_card_holds
end Go.Proofs.YtpmolggmafgeeaaGreatDoor
