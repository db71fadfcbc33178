/- wakes, as a closed call of the machine. -/
import Derived.Test.YtbloeaegccnlhaaGreatDoorAmSum
import Derived.Test.YtbloeaegccnlhaaGreatDoorAmStart
import Derived.Test.YtbloeaegccnlhaaGreatDoorData
import Derived.Test.YtbloeaegccnlhaaGreatDoorF108
import Derived.KernelRfl
namespace Go.Proofs.YtbloeaegccnlhaaGreatDoor
open Go Go.AM
set_option maxRecDepth 1000000

noncomputable def prf (i : Nat) : Option Prim := bif i.beq 109 then some noEscape else bif i.beq 110 then some (makeNoZero 5) else bif i.beq 87 then some diskData else bif i.beq 108 then some (sumAdd 1) else none
noncomputable def Cw : Ctx := ctx Tryz.prog (T.build prf 24 192 1 0) 4
noncomputable def tabs (i : Nat) : Blk := bif i.beq 1 then .tab crcTab else .dead

theorem wakes_run : isTrue (call Cw 100000 6 [] ⟨4, T.build tabs 24 4 1 0⟩) = true := by kernel_rfl

theorem mixed : Tryz.prog.follows .mixedOrders = true := by kernel_rfl

theorem add_law : AddLaw Tryz.prog 108 1 := fun c hc s hs w hT => add_any c hc s hs w hT

theorem prims (n : Nat) : PrimOk (Cw.from n) := by
  refine PrimOk.of fun g p h => ?_
  have h' : prf g = some p := ctx_prim (P := Tryz.prog) (base := 4) (n := 192) (by decide) h
  unfold prf at h'
  cases h1 : g.beq 109
  · rw [h1] at h'; simp only [cond_false] at h'
    cases h2 : g.beq 110
    · rw [h2] at h'; simp only [cond_false] at h'
      cases h3 : g.beq 87
      · rw [h3] at h'; simp only [cond_false] at h'
        cases h4 : g.beq 108
        · rw [h4] at h'; cases h'
        · rw [h4] at h'; cases h'
          obtain rfl := Nat.eq_of_beq_eq_true h4
          exact sumAdd_at (C := Cw.from n) Tryz.func108 rfl (by kernel_rfl) (by show 1 < 4; decide) add_law
      · rw [h3] at h'; cases h'
        obtain rfl := Nat.eq_of_beq_eq_true h3
        exact diskData_at (C := Cw.from n) Tryz.func87 rfl (by kernel_rfl) data_law
    · rw [h2] at h'; cases h'
      obtain rfl := Nat.eq_of_beq_eq_true h2
      exact makeNoZero_at (C := Cw.from n) (fn := Tryz.f110) (t := 118) Tryz.func110 (by kernel_rfl) (by kernel_rfl) (by kernel_rfl) (by kernel_rfl) (by kernel_rfl)
  · rw [h1] at h'; cases h'
    obtain rfl := Nat.eq_of_beq_eq_true h1
    exact noEscape_at (C := Cw.from n) Tryz.func109 (by kernel_rfl) (by kernel_rfl) (by kernel_rfl) (by kernel_rfl)

theorem wakes_any (w : World) (hbase : 4 ≤ w.heap.size) (ht : ∃ cs e fr, w.heap[1]? = some (.cells cs e fr) ∧ cs.toList = crcTab) :
    Calls Tryz.prog 6 #[] w (fun e w' => e = .returned (.bool true) ∧ Go.RowKit.Below w.heap.size w w') := by
  refine closed_true (C := Cw) (ctx_ok mixed) prims Tryz.func6 (fn := Tryz.f6) rfl (by kernel_rfl) wakes_run (Nat.zero_le _) hbase (by show 4 ≤ 4096; decide) ?_
  intro g hg
  have hg : g < 4 := hg
  by_cases e : g = 1
  · subst e
    obtain ⟨cs, e, fr, h1, h2⟩ := ht
    exact .inr ⟨e, crcTab, cs, fr, rfl, h1, by rfl, h2⟩
  · left
    match g, hg, e with
    | 0, _, _ => rfl
    | 1, _, e => exact absurd rfl e
    | 2, _, _ => rfl
    | 3, _, _ => rfl
#print axioms wakes_any
end Go.Proofs.YtbloeaegccnlhaaGreatDoor
