/- PROVED HERE: the card of CheckFills: for all numbers of used bytes and of sheets the law returns true, its arguments read as before; conditions: what the three listed package variables read as (tied to the text by the card). -/
import Derived.Test.YtbloeaegccnlhaaGreatDoorLaw
namespace Go.Proofs.YtbloeaegccnlhaaGreatDoor
open Go.ChangeShapes Go.WideShapes Go.ChangeAt Go.RowKit
open Go.AM (crcTab)

theorem Tryz.own : ownKnob Tryz.prog.godebug = none := by kernel_rfl
theorem gSteps : Tryz.prog.globalNamed "umbel/sum.steps" = some 1 := by kernel_rfl
theorem tSteps : (Tryz.prog.globals[1]?).map (·.type) = some 241 := by kernel_rfl
theorem gRounds : Tryz.prog.globalNamed "umbel/digest.rounds" = some 3 := by kernel_rfl

def stepsZ : List Int := [0,274646895,549293790,820201905,1098587580,1361435347,1640403810,1905808397,2197175160,2460548119,2722870694,2987750089,3280807620,3553878443,3811616794,4084100981]

theorem var_heap {W : World} {n : String} {g : Nat} {cs : Array Value} (hg : Tryz.prog.globalNamed n = some g) (h : W.var? Tryz.prog n = some cs) : ∃ e fr, W.heap[g]? = some (.cells cs e fr) := by
  simp only [World.var?, hg, Option.bind_some] at h
  split at h
  · rename_i c t fr hc
    cases h
    exact ⟨t, fr, hc⟩
  · cases h

theorem steps_of_laid {W : World} (h : laidMetH Tryz.prog Rows.checkFillsRow.laid W) : 4 ≤ W.heap.size ∧ ∃ cs e fr, W.heap[1]? = some (.cells cs e fr) ∧ cs.toList = crcTab := by
  have h' : laidMet Tryz.prog [("umbel/sum.steps", Rows.laid_umbel_sum_steps), ("umbel/digest.begin", Rows.laid_umbel_digest_begin), ("umbel/digest.rounds", Rows.laid_umbel_digest_rounds)] W := h
  obtain ⟨ps, hv, _⟩ := h'
  obtain ⟨g, t, cs, fuel, p, q, h1, h2, h3, h4, h5, _⟩ := hv
  obtain ⟨g2, t2, cs2, fuel2, p2, q2, k1, k2, k3, k4, k5, _⟩ := h5
  obtain ⟨g3, t3, cs3, fuel3, p3, q3, m1, m2, m3, m4, m5, _⟩ := k5
  obtain rfl : (1 : Nat) = g := Option.some.inj (gSteps.symm.trans h1)
  obtain rfl : (241 : Nat) = t := Option.some.inj (tSteps.symm.trans h2)
  obtain ⟨e3, fr3, hh3⟩ := var_heap gRounds m3
  obtain ⟨e, fr, hh⟩ := var_heap gSteps h3
  have hcs : cs.toList = stepsZ.map fun z => Value.int .u32 z :=
    Lib.cells_of_tab (e := 164) (n := 16) (k := .u32) Tryz.underlying241 Tryz.underlying164 (by kernel_rfl) (by kernel_rfl) h4
  refine ⟨?_, cs, e, fr, hh, hcs.trans rfl⟩
  have := (Array.getElem?_eq_some_iff.1 hh3).1
  omega

def tabOf : DataW Unit → Array Value
  | .agg l => (l.map fun d => match d with | .lit (.int k n) => Value.int k n | _ => undef).toArray
  | _ => #[]

noncomputable def laidWorld (os : Os) : World :=
  let w0 := World.holding Tryz.prog os ⟨#[], #[], []⟩
  let put (h : Array Obj) (g : Nat) (cs : Array Value) : Array Obj := h.modify g fun
    | .cells _ t frozen => .cells cs t frozen
    | o => o
  { w0 with heap := put (put (put w0.heap 0 (tabOf Rows.laid_umbel_digest_begin)) 1 (tabOf Rows.laid_umbel_sum_steps)) 3 (tabOf Rows.laid_umbel_digest_rounds) }
theorem laidWorld_met (os : Os) (args : Array Value) : laidMetH Tryz.prog Rows.checkFillsRow.laid ((laidWorld os).forCall (fun _ _ => 0) ⟨#[], args, []⟩).memory :=
  laidMetH_of_parts (laidMet_of_run' 8 (by kernel_rfl) (by kernel_rfl)) (by kernel_rfl)

set_option maxRecDepth 100000 in
theorem law_lifted (os : Os) (started : os.Started) (H : Type) (enc : TypeId × Value → H) :
    ReturnsInHanded {} Tryz.checked os 3 .any (fun w args => (Rows.checkFillsSpec.pre enc Tryz.prog Tryz.f3 [] false w args ∧ laidMetH Tryz.prog Rows.checkFillsRow.laid w) ∧ sizedMet enc Tryz.prog Tryz.f3 (OpenSpec.ofChange Rows.checkFillsSpec) false w args)
      (Rows.checkFillsSpec.post enc Tryz.prog Tryz.f3 false true false false) := by
  refine returnsInHanded_of_change_and (C := Tryz.checked) (X := fun w _ => laidMetH Tryz.prog Rows.checkFillsRow.laid w) (fun _ _ _ hh h => h.of_heap hh) Tryz.own started (by kernel_rfl) Tryz.func3
    (ChangeSpec.witness_at (enc := enc) (C := Tryz.checked) (os := os) (X := fun w _ => laidMetH Tryz.prog Rows.checkFillsRow.laid w) false (laidWorld os) #[.int .i64 0, .int .i64 0] 8 rfl (by kernel_rfl) (by kernel_rfl) (by kernel_rfl) (by kernel_rfl) (by kernel_rfl) (laidWorld_met os _)) ?_
  intro W base args ds gs before hval0 hW _ _ hL _
  have hval : ∀ (j : Nat) t v, Tryz.f3.params[j]? = some t → args[j]? = some v → Value.okWide Tryz.prog W .any base t v := hval0
  have hW' := hW
  obtain ⟨p, q, hA0, hV0, rfl, hfz, hnd⟩ := hW
  have hA : DataW.TrodAll enc Tryz.prog W 0 (fun _ => true) true Tryz.f3.params.toList args.toList ds p := hA0
  have hV : DataW.TrodVars enc Tryz.prog W (fun _ => true) [] gs q := hV0
  rw [Tryz.params3] at hA hval
  obtain ⟨v0, v1, d0, d1, p0, p1, rfl, rfl, rfl, h0, h1⟩ := trodAll_two hA
  obtain ⟨a, rfl, rfl, rfl, wa⟩ := open_int Tryz.underlying3 (hval 0 3 v0 rfl rfl) h0
  obtain ⟨b, rfl, rfl, rfl, wb⟩ := open_int Tryz.underlying3 (hval 1 3 v1 rfl rfl) h1
  obtain ⟨rfl, rfl⟩ : gs = [] ∧ q = [] := by
    cases gs with
    | nil => exact ⟨rfl, hV⟩
    | cons g r => exact absurd hV (by intro h; cases h)
  obtain ⟨hsz, hst⟩ := steps_of_laid hL
  have e1 : Rows.checkFillsSpec.fn H ([.lit (.int .i64 a), .lit (.int .i64 b)] ++ []) = { results := [.lit (.bool true)], args := [.lit (.int .i64 a), .lit (.int .i64 b)] } := rfl
  refine (fills_any a b W hsz hst).mono fun e W' ⟨he, hw⟩ => ?_
  subst he
  refine ⟨_, rfl, _, _, _, [], [], [], hW', ?_, ?_, ?_, hw.frame _, fun h => by cases h⟩
  · rw [e1]; exact trodAll_mk1 (shut_bool Tryz.underlying4 true)
  · rw [e1]; exact trodAll_mk2 (shut_int Tryz.underlying3 wa) (shut_int Tryz.underlying3 wb)
  · rw [e1]; rfl

theorem f_holds : Rows.CheckFillsSaid :=
  OpenClaim.holds_of_wide 3 Tryz.f3 rfl rfl rfl rfl rfl rfl rfl ⟨rfl, rfl, rfl, rfl, rfl⟩ rfl rfl rfl rfl rfl (by kernel_rfl) Tryz.func3 (by kernel_rfl)
    (of_decide_eq_true (by kernel_rfl)) (by unfold Func.isWrapper; first | (rw [if_pos (by decide +kernel)]; kernel_rfl) | (rw [if_neg (by decide +kernel)]; exact ⟨rfl, rfl⟩))
    (fun os started H enc _ => law_lifted os started H enc)

theorem checkFills_card_holds : Rows.CheckFillsCardSaid :=
  Claim7.holds_tied_plain_at .later [] [.data, .data, .data] true (true, "7db44a9763ca013eae352b5f787190efca3283ffd8df103a529e18e8be59c1dd") false
    f_holds (fun _ h => by cases h) (by kernel_rfl) (fun _ h => by cases h) checkFills_row_tie rfl ⟨rfl, rfl⟩ (by kernel_rfl) rfl
    (fun f fn hf hfn => by
      obtain rfl : f = 3 := Option.some.inj ((show Tryz.prog.funcNamed "umbel/umbellaw29.CheckFills" = some 3 by kernel_rfl).symm.trans hf) |>.symm
      obtain rfl : fn = Tryz.f3 := (Option.some.inj (Tryz.func3.symm.trans hfn)).symm
      exact ⟨by kernel_rfl, fun j t ht => by
        rw [Tryz.params3] at ht
        have h3 : t = 3 := by
          rcases j with _ | _ | j
          · simpa using ht.symm
          · simpa using ht.symm
          · simp at ht
        subst h3
        exact (show Tryz.prog.wantsStandIn 3 = false by kernel_rfl)⟩)
    (by kernel_rfl)
#print axioms checkFills_card_holds
end Go.Proofs.YtbloeaegccnlhaaGreatDoor
