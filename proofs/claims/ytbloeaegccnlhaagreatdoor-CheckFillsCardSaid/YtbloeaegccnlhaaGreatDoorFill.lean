/- A part of what there is room for, both ways: the same bits, or no number both times. -/
import Derived.WalkKit
import Derived.WalkSpells
import Derived.WalkLawsBesides
import Derived.Test.YtbloeaegccnlhaaGreatDoorAmStart
import Derived.Laws.FloatArith
import Derived.Test.YtbloeaegccnlhaaGreatDoorProg
namespace Go.Proofs.YtbloeaegccnlhaaGreatDoor
open Go.RowKit
open Go.AM (NaNish nan_cut)

theorem nan_read_of {b : Nat} (h : NaNish b) : ∃ s t, FloatKind.f64.format.read b = .nan s t := by
  have h0 : (FloatKind.f64.format.read b).order (FloatKind.f64.format.read 0) = none := (h 0).1
  have e0 : FloatKind.f64.format.read 0 = .number false 0 (-1074) := by decide +kernel
  rw [e0] at h0
  cases hr : FloatKind.f64.format.read b with
  | nan s t => exact ⟨s, t, rfl⟩
  | infinity s => rw [hr] at h0; cases h0
  | number s m i => rw [hr] at h0; cases h0

theorem order_self (b : Nat) : FloatKind.f64.format.order b b = none ∨ FloatKind.f64.format.order b b = some .eq := by
  show (FloatKind.f64.format.read b).order (FloatKind.f64.format.read b) = none ∨ (FloatKind.f64.format.read b).order (FloatKind.f64.format.read b) = some .eq
  cases FloatKind.f64.format.read b with
  | nan => left; rfl
  | infinity s => right; cases s <;> rfl
  | number s m i =>
    right
    simp only [Ieee.Datum.order]
    simp [compare, compareOfLessAndEq]

section
variable {P : Program} (w : World)
theorem run_float_none (op : BinOp) (t : TypeId) (x y : Nat) (h : floatBits op .f64 x y = none) (hop : op = .mul ∨ op = .quo) :
    (binOp op t (.float .f64 x) (.float .f64 y)).run P w = .ok (.float .f64 ((Question.nanBits .f64 x y).cut (w.tape w.drawn (.nanBits .f64 x y)))) w.drew := by
  rcases hop with rfl | rfl
  · have h' : FloatKind.f64.format.mul x y = none := h
    simp [binOp, Op.floatArith, h', Question.forced]
  · have h' : FloatKind.f64.format.div x y = none := h
    simp [binOp, Op.floatArith, h', Question.forced]
theorem run_float_eql (t : TypeId) (x y : Nat) (o : Option Ordering) (h : FloatKind.f64.format.order x y = o) :
    (binOp .eql t (.float .f64 x) (.float .f64 y)).run P w = .ok (.bool (o == some .eq)) w := by
  subst h
  simp [binOp, Op.floatCmp]
theorem run_float_neq (t : TypeId) (x y : Nat) (o : Option Ordering) (h : FloatKind.f64.format.order x y = o) :
    (binOp .neq t (.float .f64 x) (.float .f64 y)).run P w = .ok (.bool (!(o == some .eq))) w := by
  subst h
  simp [binOp, Op.floatCmp]
  rfl
end

abbrev C243 : Nat := 4642753818981826560
/-- what a part is: its bits, or no number -/
def IsFill (a b : Int) (r : Nat) : Prop :=
  (∃ m, floatBits .mul .f64 C243 (floatOfInt .f64 b) = some m ∧ floatBits .quo .f64 (floatOfInt .f64 a) m = some r) ∨
  (((∃ m, floatBits .mul .f64 C243 (floatOfInt .f64 b) = some m ∧ floatBits .quo .f64 (floatOfInt .f64 a) m = none) ∨ floatBits .mul .f64 C243 (floatOfInt .f64 b) = none) ∧ NaNish r)

theorem quo_nan (x : Nat) {m : Nat} (h : NaNish m) : floatBits .quo .f64 x m = none := by
  obtain ⟨s, t, hr⟩ := nan_read_of h
  show ((FloatKind.f64.format.read x).quotient _ (FloatKind.f64.format.read m)).map _ = none
  rw [hr]
  cases FloatKind.f64.format.read x <;> rfl

set_option maxHeartbeats 400000 in
theorem f4_any (a b : Int) (w : World) :
    Calls Tryz.prog 4 #[.int .i64 a, .int .i64 b] w fun e w' => ∃ r, e = .returned (.float .f64 r) ∧ IsFill a b r ∧ Below w.heap.size w w' := by
  cases hm : floatBits .mul .f64 C243 (floatOfInt .f64 b) with
  | some m =>
    have h1 := fun w : World => run_float_arith (P := Tryz.prog) w .mul 22 .f64 C243 (floatOfInt .f64 b) m hm
    cases hq : floatBits .quo .f64 (floatOfInt .f64 a) m with
    | some r =>
      have h2 := fun w : World => run_float_arith (P := Tryz.prog) w .quo 22 .f64 (floatOfInt .f64 a) m r hq
      go_enter Tryz.func4, Tryz.ntmps4
      go_wp2
      go_ret
      exact ⟨r, rfl, .inl ⟨m, hm, hq⟩, Below.refl _ _⟩
    | none =>
      have h2 := fun w : World => run_float_none (P := Tryz.prog) w .quo 22 (floatOfInt .f64 a) m hq (.inr rfl)
      go_enter Tryz.func4, Tryz.ntmps4
      go_wp2
      go_ret
      exact ⟨_, rfl, .inr ⟨.inl ⟨m, hm, hq⟩, nan_cut _ _ _⟩, ⟨rfl, rfl, rfl, Nat.le_refl _, fun _ _ => rfl⟩⟩
  | none =>
    have h1 := fun w : World => run_float_none (P := Tryz.prog) w .mul 22 C243 (floatOfInt .f64 b) hm (.inl rfl)
    have h2 := fun (w : World) (t : Nat) => run_float_none (P := Tryz.prog) w .quo 22 (floatOfInt .f64 a) _ (quo_nan _ (nan_cut C243 (floatOfInt .f64 b) t)) (.inr rfl)
    go_enter Tryz.func4, Tryz.ntmps4
    go_wp2
    go_ret
    exact ⟨_, rfl, .inr ⟨.inr hm, nan_cut _ _ _⟩, ⟨rfl, rfl, rfl, Nat.le_refl _, fun _ _ => rfl⟩⟩
set_option maxHeartbeats 400000 in
theorem f5_any (a b : Int) (w : World) :
    Calls Tryz.prog 5 #[.int .i64 a, .int .i64 b] w fun e w' => ∃ r, e = .returned (.float .f64 r) ∧ IsFill a b r ∧ Below w.heap.size w w' := by
  cases hm : floatBits .mul .f64 C243 (floatOfInt .f64 b) with
  | some m =>
    have h1 := fun w : World => run_float_arith (P := Tryz.prog) w .mul 22 .f64 C243 (floatOfInt .f64 b) m hm
    cases hq : floatBits .quo .f64 (floatOfInt .f64 a) m with
    | some r =>
      have h2 := fun w : World => run_float_arith (P := Tryz.prog) w .quo 22 .f64 (floatOfInt .f64 a) m r hq
      go_enter Tryz.func5, Tryz.ntmps5
      go_wp2
      go_ret
      exact ⟨r, rfl, .inl ⟨m, hm, hq⟩, Below.refl _ _⟩
    | none =>
      have h2 := fun w : World => run_float_none (P := Tryz.prog) w .quo 22 (floatOfInt .f64 a) m hq (.inr rfl)
      go_enter Tryz.func5, Tryz.ntmps5
      go_wp2
      go_ret
      exact ⟨_, rfl, .inr ⟨.inl ⟨m, hm, hq⟩, nan_cut _ _ _⟩, ⟨rfl, rfl, rfl, Nat.le_refl _, fun _ _ => rfl⟩⟩
  | none =>
    have h1 := fun w : World => run_float_none (P := Tryz.prog) w .mul 22 C243 (floatOfInt .f64 b) hm (.inl rfl)
    have h2 := fun (w : World) (t : Nat) => run_float_none (P := Tryz.prog) w .quo 22 (floatOfInt .f64 a) _ (quo_nan _ (nan_cut C243 (floatOfInt .f64 b) t)) (.inr rfl)
    go_enter Tryz.func5, Tryz.ntmps5
    go_wp2
    go_ret
    exact ⟨_, rfl, .inr ⟨.inr hm, nan_cut _ _ _⟩, ⟨rfl, rfl, rfl, Nat.le_refl _, fun _ _ => rfl⟩⟩

theorem IsFill.cases {a b : Int} {r1 r2 : Nat} (h1 : IsFill a b r1) (h2 : IsFill a b r2) :
    (FloatKind.f64.format.order r1 r2 = some .eq ∧ FloatKind.f64.format.order r1 r1 = some .eq ∧ (b ≠ 0 ∨ a ≠ 0)) ∨
    (FloatKind.f64.format.order r1 r2 = none ∧ FloatKind.f64.format.order r1 r1 = none ∧ FloatKind.f64.format.order r2 r2 = none) := by
  rcases h1 with ⟨m, hm, hq⟩ | ⟨h1, n1⟩
  · rcases h2 with ⟨m', hm', hq'⟩ | ⟨h2, n2⟩
    · rw [hm] at hm'; cases hm'
      rw [hq] at hq'; cases hq'
      rcases order_self r1 with h | h
      · exact .inr ⟨h, h, h⟩
      · refine .inl ⟨h, h, ?_⟩
        by_cases hb : b = 0
        · by_cases ha : a = 0
          · exfalso
            subst ha; subst hb
            have z1 : (floatBits .mul .f64 C243 (floatOfInt .f64 0)).bind (fun m => floatBits .quo .f64 (floatOfInt .f64 0) m) = none := by decide +kernel
            rw [hm, Option.bind_some, hq] at z1; cases z1
          · exact .inr ha
        · exact .inl hb
    · exfalso
      rcases h2 with ⟨m', hm', hq'⟩ | hm'
      · rw [hm] at hm'; cases hm'; rw [hq] at hq'; cases hq'
      · rw [hm] at hm'; cases hm'
  · rcases h2 with ⟨m, hm, hq⟩ | ⟨h2, n2⟩
    · exfalso
      rcases h1 with ⟨m', hm', hq'⟩ | hm'
      · rw [hm] at hm'; cases hm'; rw [hq] at hq'; cases hq'
      · rw [hm] at hm'; cases hm'
    · exact .inr ⟨(n1 _).1, (n1 _).1, (n2 _).1⟩
end Go.Proofs.YtbloeaegccnlhaaGreatDoor
