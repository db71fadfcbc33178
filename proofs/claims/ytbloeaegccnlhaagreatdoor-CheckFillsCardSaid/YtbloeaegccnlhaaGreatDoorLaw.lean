/- CheckFills: the walk, the row, the card. -/
import Derived.Test.YtbloeaegccnlhaaGreatDoorRows
import Derived.Test.YtbloeaegccnlhaaGreatDoorTie
import Derived.Test.YtbloeaegccnlhaaGreatDoorCards
import Derived.ProofKit
import Derived.ChangeVars
import Derived.JoinedOf
import Derived.RowKitTokens
import Derived.LaidLaws
import Derived.LaidHandle
import Derived.Lib.LaidTab
import Derived.Stop.Joined
import Derived.SevenTiedAt
import Derived.Test.YtbloeaegccnlhaaGreatDoorFill
import Derived.Test.YtbloeaegccnlhaaGreatDoorWakes
namespace Go.Proofs.YtbloeaegccnlhaaGreatDoor
open Go.ChangeShapes Go.WideShapes Go.ChangeAt Go.RowKit
open Go.AM (crcTab)

set_option maxRecDepth 100000 in
set_option maxHeartbeats 1000000 in
theorem fills_any (a b : Int) (w : World) (hbase : 4 ≤ w.heap.size) (ht : ∃ cs e fr, w.heap[1]? = some (.cells cs e fr) ∧ cs.toList = crcTab) :
    Calls Tryz.prog 3 #[.int .i64 a, .int .i64 b] w fun e w' => e = .returned (.bool true) ∧ Below w.heap.size w w' := by
  go_enter Tryz.func3, Tryz.ntmps3
  go_wp2_with (go_at_call 4; refine (f4_any a b _).mono ?_; rintro e w1 ⟨r1, rfl, hf1, hb1⟩)
  go_wp2_with (go_at_call 5; refine (f5_any a b _).mono ?_; rintro e w2 ⟨r2, rfl, hf2, hb2⟩)
  all_goals
    have hB : Below w.heap.size w w2 := hb1.trans (hb2.mono hb1.size)
    have hw := wakes_any w2 (Nat.le_trans hbase hB.size) (by
      obtain ⟨cs, e, fr, h1, h2⟩ := ht
      exact ⟨cs, e, fr, (hB.block 1 (by omega)).trans h1, h2⟩)
    have hend : ∀ w3, Below w2.heap.size w2 w3 → Below w.heap.size w w3 := fun w3 h => hB.trans (h.mono hB.size)
    have hcases := hf1.cases hf2
    clear hf1 hf2 ht hb1 hb2
    rcases hcases with ⟨o12, o11, hab⟩ | ⟨o12, o11, o22⟩
    · first
        | (refine hw.mono ?_
           rintro e w3 ⟨rfl, hb3⟩
           dsimp only
           go_wp2
           go_ret
           refine ⟨?_, hend _ hb3⟩
           first
             | (simp [o12, o11]; done)
             | (exfalso; rcases hab with h | h <;> exact h (by assumption)))
        | (exfalso; simp_all; done)
    · first
        | (refine hw.mono ?_
           rintro e w3 ⟨rfl, hb3⟩
           dsimp only
           go_wp2
           go_ret
           refine ⟨?_, hend _ hb3⟩
           simp [o12, o11, o22]; done)
        | (exfalso; simp_all; done)
end Go.Proofs.YtbloeaegccnlhaaGreatDoor
