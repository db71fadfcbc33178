/- PROVED HERE: the card of VacuumBatch: for all numbers of frames the law returns true, its argument reads as before; conditions: what the three listed package variables read as (tied to the text by the card). -/
import Derived.Test.YtpmolggmafgeeaaGreatDoorRows
import Derived.Test.YtpmolggmafgeeaaGreatDoorTie
import Derived.Test.YtpmolggmafgeeaaGreatDoorCards
import Derived.ProofKit
import Derived.ChangeVars
import Derived.JoinedOf
import Derived.RowKitTokens
import Derived.LaidLaws
import Derived.LaidHandle
import Derived.Lib.LaidTab
import Derived.Stop.Joined
import Derived.SevenTiedAt
import Derived.ChangeMaps5
import Derived.Test.YtpmolggmafgeeaaGreatDoorLawRun
import Derived.Test.YtpmolggmafgeeaaGreatDoorFacts
namespace Go.Proofs.YtpmolggmafgeeaaGreatDoor
open Go.ChangeShapes Go.WideShapes Go.ChangeAt Go.ChangeMaps Go.RowKit
open Go.AM (crcTab call isTrue closed_true_sym Given)
set_option maxRecDepth 1000000

def Tab (W : World) (g : Nat) (l : List Value) : Prop := ∃ cs e fr, W.heap[g]? = some (.cells cs e fr) ∧ cs.toList = l

/-- the number that came in, as an int, what is left of it by 64, and the frames -/
@[reducible] def symsB (m : Nat) : Go.AM.Syms where
  get := fun k => match k with
    | 0 => .int .u8 m
    | 1 => .int .i64 m
    | 2 => .int .i64 ((m % 64 : Nat) : Int)
    | 3 => .int .i64 ((1 + m % 64 : Nat) : Int)
    | _ => .bool false
  plain := fun k => by
    rcases k with _ | _ | _ | _ | k <;> rfl

theorem rulesB_ok (m : Nat) (hm : m < 256) :
    letI := symsB m
    ∀ u ∈ rulesB, Go.AM.RuleOk Tryz.prog u := by
  letI := symsB m
  have w1 : IntKind.i64.wrap ((m : Nat) : Int) = ((m : Nat) : Int) := Go.AM.i64_in _ (by omega) (by omega)
  have w2 : IntKind.i64.wrap ((1 : Int) + ((m % 64 : Nat) : Int)) = ((1 + m % 64 : Nat) : Int) := by
    rw [Go.AM.i64_in _ (by omega) (by omega)]; omega
  intro u hu
  simp only [rulesB, List.mem_cons, List.not_mem_nil, or_false] at hu
  rcases hu with rfl | rfl | rfl
  · exact Go.AM.rule_conv (k := .u8) (n := m) rfl rfl (by rw [w1]; rfl)
  · exact Go.AM.rule_rem (a := m) (b := 64) rfl rfl (by decide) rfl rfl
  · exact Go.AM.rule_add (a := 1) (b := ((m % 64 : Nat) : Int)) rfl rfl rfl (by rw [w2]; rfl)

theorem law_any (m : Nat) (hm : m < 256) (w : World) (hbase : 3 ≤ w.heap.size) (h0 : Tab w 0 shaB) (h1 : Tab w 1 shaK) (h2 : Tab w 2 crcTab) :
    Calls Tryz.prog 3 #[.int .u8 m] w (fun e w' => e = .returned (.bool true) ∧ Below w.heap.size w w') := by
  letI := symsB m
  exact closed_true_sym (C := Cv rulesB) (Cv_ok (rulesB_ok m hm)) (fun n => Cv_prims rulesB (np := 1 + m % 64) rfl (by omega) (by omega) n) Tryz.func3 (fn := Tryz.f3) rfl (by kernel_rfl) (.cons _ _ _ _ (.sym 0) .nil) runV (Nat.zero_le _) hbase (by show 3 ≤ 4096; decide) (fun g _ => tabs_given h0 h1 h2 g)

theorem Tryz.own : ownKnob Tryz.prog.godebug = none := by kernel_rfl
theorem gSteps : Tryz.prog.globalNamed "umbel/sum.steps" = some 2 := by kernel_rfl
theorem tSteps : (Tryz.prog.globals[2]?).map (·.type) = some 555 := by kernel_rfl
theorem gBegin : Tryz.prog.globalNamed "umbel/digest.begin" = some 0 := by kernel_rfl
theorem tBegin : (Tryz.prog.globals[0]?).map (·.type) = some 430 := by kernel_rfl
theorem gRounds : Tryz.prog.globalNamed "umbel/digest.rounds" = some 1 := by kernel_rfl
theorem tRounds : (Tryz.prog.globals[1]?).map (·.type) = some 489 := by kernel_rfl

def zOf (l : List Value) : List Int := l.map fun | .int _ n => n | _ => 0

theorem var_heap {W : World} {n : String} {g : Nat} {cs : Array Value} (hg : Tryz.prog.globalNamed n = some g) (h : W.var? Tryz.prog n = some cs) : ∃ e fr, W.heap[g]? = some (.cells cs e fr) := by
  simp only [World.var?, hg, Option.bind_some] at h
  split at h
  · rename_i c t fr hc
    cases h
    exact ⟨t, fr, hc⟩
  · cases h

theorem laid_tabs {W : World} (h : laidMetH Tryz.prog Rows.vacuumBatchRow.laid W) : Tab W 0 shaB ∧ Tab W 1 shaK ∧ Tab W 2 crcTab := by
  have h' : laidMet Tryz.prog [("umbel/sum.steps", Rows.laid_umbel_sum_steps), ("umbel/digest.begin", Rows.laid_umbel_digest_begin), ("umbel/digest.rounds", Rows.laid_umbel_digest_rounds)] W := h
  obtain ⟨ps, hv, _⟩ := h'
  obtain ⟨g, t, cs, fuel, p, q, h1, h2, h3, h4, h5, _⟩ := hv
  obtain ⟨g2, t2, cs2, fuel2, p2, q2, k1, k2, k3, k4, k5, _⟩ := h5
  obtain ⟨g3, t3, cs3, fuel3, p3, q3, m1, m2, m3, m4, m5, _⟩ := k5
  obtain rfl : 2 = g := Option.some.inj (gSteps.symm.trans h1)
  obtain rfl : 555 = t := Option.some.inj (tSteps.symm.trans h2)
  obtain rfl : 0 = g2 := Option.some.inj (gBegin.symm.trans k1)
  obtain rfl : 430 = t2 := Option.some.inj (tBegin.symm.trans k2)
  obtain rfl : 1 = g3 := Option.some.inj (gRounds.symm.trans m1)
  obtain rfl : 489 = t3 := Option.some.inj (tRounds.symm.trans m2)
  obtain ⟨e3, fr3, hh3⟩ := var_heap gRounds m3
  obtain ⟨e2, fr2, hh2⟩ := var_heap gBegin k3
  obtain ⟨e, fr, hh⟩ := var_heap gSteps h3
  have c1 : cs.toList = (zOf crcTab).map fun z => Value.int .u32 z :=
    Lib.cells_of_tab (e := 200) (n := 16) (k := .u32) Tryz.underlying555 Tryz.underlying200 (by kernel_rfl) (by kernel_rfl) h4
  have c2 : cs2.toList = (zOf shaB).map fun z => Value.int .u32 z :=
    Lib.cells_of_tab (e := 200) (n := 8) (k := .u32) Tryz.underlying430 Tryz.underlying200 (by kernel_rfl) (by kernel_rfl) k4
  have c3 : cs3.toList = (zOf shaK).map fun z => Value.int .u32 z :=
    Lib.cells_of_tab (e := 200) (n := 64) (k := .u32) Tryz.underlying489 Tryz.underlying200 (by kernel_rfl) (by kernel_rfl) m4
  exact ⟨⟨cs2, e2, fr2, hh2, c2.trans rfl⟩, ⟨cs3, e3, fr3, hh3, c3.trans rfl⟩, ⟨cs, e, fr, hh, c1.trans rfl⟩⟩

def tabOf : DataW Unit → Array Value
  | .agg l => (l.map fun d => match d with | .lit (.int k n) => Value.int k n | _ => undef).toArray
  | _ => #[]

noncomputable def laidWorld (os : Os) : World :=
  let w0 := World.holding Tryz.prog os ⟨#[], #[], []⟩
  let put (h : Array Obj) (g : Nat) (cs : Array Value) : Array Obj := h.modify g fun
    | .cells _ t frozen => .cells cs t frozen
    | o => o
  { w0 with heap := put (put (put w0.heap 0 (tabOf Rows.laid_umbel_digest_begin)) 2 (tabOf Rows.laid_umbel_sum_steps)) 1 (tabOf Rows.laid_umbel_digest_rounds) }
theorem laidWorld_met (os : Os) (args : Array Value) : laidMetH Tryz.prog Rows.vacuumBatchRow.laid ((laidWorld os).forCall (fun _ _ => 0) ⟨#[], args, []⟩).memory :=
  laidMetH_of_parts (laidMet_of_run' 8 (by kernel_rfl) (by kernel_rfl)) (by kernel_rfl)

theorem law_lifted (os : Os) (started : os.Started) (H : Type) (enc : TypeId × Value → H) :
    ReturnsInHanded {} Tryz.checked os 3 .any (fun w args => (Rows.vacuumBatchSpec.pre enc Tryz.prog Tryz.f3 [] false w args ∧ laidMetH Tryz.prog Rows.vacuumBatchRow.laid w) ∧ sizedMet enc Tryz.prog Tryz.f3 (OpenSpec.ofChange Rows.vacuumBatchSpec) false w args)
      (Rows.vacuumBatchSpec.post enc Tryz.prog Tryz.f3 false true false false) := by
  refine returnsInHanded_of_change_and (C := Tryz.checked) (X := fun w _ => laidMetH Tryz.prog Rows.vacuumBatchRow.laid w) (fun _ _ _ hh h => h.of_heap hh) Tryz.own started (by kernel_rfl) Tryz.func3
    (ChangeSpec.witness_at (enc := enc) (C := Tryz.checked) (os := os) (X := fun w _ => laidMetH Tryz.prog Rows.vacuumBatchRow.laid w) false (laidWorld os) #[.int .u8 0] 8 rfl (by kernel_rfl) (by kernel_rfl) (by kernel_rfl) (by kernel_rfl) (by kernel_rfl) (laidWorld_met os _)) ?_
  intro W base args ds gs before hval0 hW _ _ hL _
  have hval : ∀ (j : Nat) t v, Tryz.f3.params[j]? = some t → args[j]? = some v → Value.okWide Tryz.prog W .any base t v := hval0
  have hW' := hW
  obtain ⟨p, q, hA0, hV0, rfl, hfz, hnd⟩ := hW
  have hA : DataW.TrodAll enc Tryz.prog W 0 (fun _ => true) true Tryz.f3.params.toList args.toList ds p := hA0
  have hV : DataW.TrodVars enc Tryz.prog W (fun _ => true) [] gs q := hV0
  rw [Tryz.params3] at hA hval
  obtain ⟨v0, d0, rfl, rfl, h0⟩ := trodAll_one hA
  obtain ⟨a, rfl, rfl, rfl, wa⟩ := open_int Tryz.underlying5 (hval 0 5 v0 rfl rfl) h0
  obtain ⟨m, hm, rfl⟩ : ∃ m : Nat, m < 256 ∧ a = (m : Int) := by
    have h := wa
    unfold Lit.wf at h
    simp only [Bool.and_eq_true, decide_eq_true_eq] at h
    have e1 : IntKind.u8.min = 0 := by rfl
    have e2 : IntKind.u8.max = 255 := by rfl
    rw [e1, e2] at h
    exact ⟨a.toNat, by omega, by omega⟩
  obtain ⟨rfl, rfl⟩ : gs = [] ∧ q = [] := by
    cases gs with
    | nil => exact ⟨rfl, hV⟩
    | cons g r => exact absurd hV (by intro h; cases h)
  obtain ⟨ht0, ht1, ht2⟩ := laid_tabs hL
  have hsz : 3 ≤ W.heap.size := by
    obtain ⟨_, _, _, q0, _⟩ := ht0
    obtain ⟨_, _, _, q1, _⟩ := ht1
    obtain ⟨_, _, _, q2, _⟩ := ht2
    have := (Array.getElem?_eq_some_iff.1 q0).1
    have := (Array.getElem?_eq_some_iff.1 q1).1
    have := (Array.getElem?_eq_some_iff.1 q2).1
    omega
  have e1 : Rows.vacuumBatchSpec.fn H ([.lit (.int .u8 m)] ++ []) = { results := [.lit (.bool true)], args := [.lit (.int .u8 m)] } := rfl
  refine (law_any m hm W hsz ht0 ht1 ht2).mono fun e W' ⟨he, hw⟩ => ?_
  subst he
  refine ⟨_, rfl, _, _, _, [], [], [], hW', ?_, ?_, ?_, hw.frame _, fun h => by cases h⟩
  · rw [e1]; exact trodAll_mk1 (shut_bool Tryz.underlying4 true)
  · rw [e1]; exact trodAll_mk1 (shut_int Tryz.underlying5 wa)
  · rw [e1]; rfl

theorem f_holds : Rows.VacuumBatchSaid :=
  OpenClaim.holds_of_wide 3 Tryz.f3 rfl rfl rfl rfl rfl rfl rfl ⟨rfl, rfl, rfl, rfl, rfl⟩ rfl rfl rfl rfl rfl (by kernel_rfl) Tryz.func3 facts
    (of_decide_eq_true (by kernel_rfl)) (by unfold Func.isWrapper; first | (rw [if_pos (by decide +kernel)]; kernel_rfl) | (rw [if_neg (by decide +kernel)]; exact ⟨rfl, rfl⟩))
    (fun os started H enc _ => law_lifted os started H enc)

end Go.Proofs.YtpmolggmafgeeaaGreatDoor
