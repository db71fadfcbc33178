/- AM: the operations that do not look at the heap. -/
import Derived.Test.YtofccfejfbekaaaGreatDoorAmHeap
import Derived.Laws.StructEq
namespace Go.AM
open Go

theorem flats_rel {φ : Phi} : ∀ {l : List Value}, l.all flat = true → VRels φ l l
  | [], _ => .nil
  | v :: l, h => by
    simp only [List.all_cons, Bool.and_eq_true] at h
    exact .cons _ _ _ _ (flat_rel h.1) (flats_rel h.2)

structure COk (C : Ctx) : Prop where
  ty : ∀ t d, C.tyOf t = some d → TI.of C.P t = some d
  fn : ∀ f d, C.fnOf f = some d → FI.of C.P f = some d
  mixed : C.P.follows .mixedOrders = true

theorem TI.of_spec {P : Program} {t : TypeId} {d : TI} (h : TI.of P t = some d) :
    ∃ i, P.info? t = some i ∧ P.underlying t = some d.u ∧ d.size = i.size ∧ (∀ z, d.zero = some z → i.zero = some z ∧ z.cells.toList.all flat = true) ∧ d.bytes = i.bytes ∧
      d.eqG = P.eqGuardType P.depth t ∧ d.stood = P.stoodInHeld t ∧ d.methods = i.methods ∧
      d.agg = (match d.u with | .struct _ | .array _ _ => true | _ => false) := by
  unfold TI.of at h
  split at h
  · rename_i i u hi hu
    simp only [Option.some.injEq] at h; subst h
    refine ⟨i, hi, hu, rfl, ?_, rfl, rfl, rfl, rfl, rfl⟩
    intro z hz
    dsimp only at hz
    split at hz
    · rename_i y hy
      cases hf : y.cells.toList.all flat
      · rw [hf] at hz; cases hz
      · rw [hf] at hz; simp only [cond_true, Option.some.injEq] at hz; subst hz; exact ⟨hy, hf⟩
    · cases hz
  · cases h

section
variable {C : Ctx} (hC : COk C) {t : TypeId} {d : TI} (w : World)
include hC
theorem COk.und (h : C.tyOf t = some d) : C.P.underlying t = some d.u := (TI.of_spec (hC.ty t d h)).choose_spec.2.1
theorem COk.run_und (h : C.tyOf t = some d) : (underlying t).run C.P w = .ok d.u w := run_underlying (hC.und h) w
theorem COk.run_info (h : C.tyOf t = some d) : ∃ i, (typeInfo t).run C.P w = .ok i w ∧ d.size = i.size ∧ (∀ z, d.zero = some z → i.zero = some z ∧ z.cells.toList.all flat = true) ∧ d.bytes = i.bytes ∧ d.methods = i.methods := by
  obtain ⟨i, hi, _, h1, h2, h3, _, _, h4, _⟩ := TI.of_spec (hC.ty t d h)
  refine ⟨i, ?_, h1, h2, h3, h4⟩
  simp [typeInfo, hi]
theorem COk.run_size (h : C.tyOf t = some d) : (sizeOf t).run C.P w = .ok d.size w := by
  obtain ⟨i, hi, h1, _⟩ := hC.run_info w h
  simp [sizeOf, hi, h1]
theorem COk.run_zero (h : C.tyOf t = some d) {z : Value} (hz : d.zero = some z) : (zeroValue t).run C.P w = .ok z w := by
  obtain ⟨i, hi, _, h1, _⟩ := hC.run_info w h
  simp [zeroValue, hi, (h1 z hz).1]
theorem COk.zero_rel (h : C.tyOf t = some d) {z : Value} (hz : d.zero = some z) {φ : Phi} : VRels φ z.cells.toList z.cells.toList := by
  obtain ⟨_, _, _, _, h1, _⟩ := TI.of_spec (hC.ty t d h)
  exact flats_rel (h1 z hz).2
theorem COk.run_agg (h : C.tyOf t = some d) : (isAgg t).run C.P w = .ok d.agg w := by
  have h1 := hC.run_und w h
  obtain ⟨i, _, _, _, _, _, _, _, _, ha⟩ := TI.of_spec (hC.ty t d h)
  simp only [isAgg, Sem.run_bind, h1, Result.andThen_ok]
  rw [ha]
  split <;> simp_all <;> (split <;> simp_all)
end

/-! what the operands are -/
def ERho (φ : Phi) (ρ : Env) (ev : Operand → Value) : Prop := ∀ x v, ρ x = some v → VRel φ v (ev x)

def Yields (P : Program) (ev : Operand → Value) (op : Op) (w : World) (φ : Phi) (v : Value) : Prop :=
  ∀ o : Oper, o.op = op → ∃ v', (execOp ev o).run P w = .ok (.value v') w ∧ VRel φ v v'

theorem partV_rel {φ : Phi} {agg : Bool} {size : Nat} {xs ys : Array Value} (h : VRels φ xs.toList ys.toList) {off : Nat} {v : Value}
    (hv : partV agg size xs off = some v) : ∃ v', partV agg size ys off = some v' ∧ VRel φ v v' := by
  have hl : xs.size = ys.size := by simpa using h.length
  unfold partV at *
  cases agg
  · simp only [cond_false] at hv ⊢
    obtain ⟨v', h1, h2⟩ := h.get off v (by simpa using hv)
    exact ⟨v', by simpa using h1, h2⟩
  · simp only [cond_true] at hv ⊢
    rw [← hl]
    cases hb : Nat.ble (off + size) xs.size
    · rw [hb] at hv; cases hv
    · rw [hb] at hv; simp only [cond_true, Option.some.injEq] at hv ⊢
      subst hv
      refine ⟨_, rfl, ?_⟩
      have e : ∀ zs : Array Value, zs.extract off (off + size) = ⟨(zs.toList.drop off).take size⟩ := by
        intro zs
        apply Array.ext'
        simp [Array.toList_extract, List.extract_eq_take_drop]
      rw [e, e]
      exact .agg _ _ ((h.drop off).take size)

theorem run_part {C : Ctx} (hC : COk C) {t : TypeId} {d : TI} (h : C.tyOf t = some d) (w : World) {cs : Array Value} {off : Nat} {v : Value}
    (hv : partV d.agg d.size cs off = some v) : (part t cs off).run C.P w = .ok v w := by
  unfold part partV at *
  simp only [Sem.run_bind, hC.run_agg w h, Result.andThen_ok]
  cases ha : d.agg
  · rw [ha] at hv; simp only [cond_false] at hv
    simp [hv]
  · rw [ha] at hv; simp only [cond_true] at hv
    cases hb : Nat.ble (off + d.size) cs.size
    · rw [hb] at hv; cases hv
    · rw [hb] at hv; simp only [cond_true, Option.some.injEq] at hv
      simp [hC.run_size w h, hv]

/-! equality -/
theorem eqFields_sound {C : Ctx} (hC : COk C) {φ : Phi} (D : Nat) (eq : TypeId → Value → Value → Option Bool)
    (hq : ∀ t x y x' y' b, eq t x y = some b → VRel φ x x' → VRel φ y y' → ∀ w, (Op.equalIn D t x' y').run C.P w = .ok b w)
    {xs ys xs' ys' : Array Value} (hx : VRels φ xs.toList xs'.toList) (hy : VRels φ ys.toList ys'.toList) (w : World) :
    ∀ (fs : List Field) (b : Bool), eqF C eq xs ys fs = some b → (Op.eqFields D xs' ys' fs).run C.P w = .ok b w := by
  intro fs
  induction fs with
  | nil => intro b h; simp [eqF] at h; subst h; rfl
  | cons f fs ih =>
    intro b h
    unfold eqF at h
    cases hn : (f.name == "_")
    · rw [hn] at h; simp only [cond_false] at h
      split at h
      · cases h
      · rename_i i hi
        split at h
        · rename_i a c ha hc
          obtain ⟨a', ha', hra⟩ := partV_rel hx ha
          obtain ⟨c', hc', hrc⟩ := partV_rel hy hc
          have hne : f.name ≠ "_" := by simpa using hn
          simp only [Op.eqFields, if_pos hne, Sem.run_bind, run_part hC hi w ha', run_part hC hi w hc', Result.andThen_ok]
          split at h
          · rename_i he
            rw [hq _ _ _ _ _ _ he hra hrc w]
            simpa using ih b h
          · rename_i he
            simp only [Option.some.injEq] at h; subst h
            rw [hq _ _ _ _ _ _ he hra hrc w]
            simp
          · cases h
        · cases h
    · rw [hn] at h; cases h

def eqElems (d : Nat) (e : TypeId) (size : Nat) (xs ys : Array Value) : Nat → Nat → Sem Bool
  | 0, _ => pure true
  | n + 1, k => do
    let a ← part e xs (k * size)
    let b ← part e ys (k * size)
    let r ← Op.equalIn d e a b
    if (!r) = true then pure false else eqElems d e size xs ys n (k + 1)

theorem run_equalIn_array {P : Program} (w : World) (d : Nat) (t e : TypeId) (n : Nat) (xs ys : Array Value) (ht : P.underlying t = some (.array n e)) (sz : Nat)
    (hs : (Go.sizeOf e).run P w = Result.ok sz w) :
    (Op.equalIn (d + 1) t (.agg xs) (.agg ys)).run P w = (eqElems d e sz xs ys n 0).run P w := by
  simp only [Op.equalIn, Sem.run_bind, run_underlying ht, Result.andThen_ok, hs]
  rw [Std.Legacy.Range.forIn_eq_forIn_range']
  have hsz : ([:n] : Std.Legacy.Range).size = n := by simp [Std.Legacy.Range.size]
  rw [hsz]
  show (Sem.run P (forIn (List.range' 0 n 1) _ _) w).andThen _ = _
  clear hsz hs ht
  generalize 0 = k
  induction n generalizing w k with
  | zero => simp [eqElems]
  | succ n ih =>
    simp only [List.range'_succ, List.forIn_cons, eqElems, Sem.run_bind, Sem.run_ite]
    generalize (part e xs (k * sz)).run P w = r1
    cases r1 with
    | ok a w1 =>
      simp only [Result.andThen_ok]
      generalize (part e ys (k * sz)).run P w1 = r2
      cases r2 with
      | ok b w2 =>
        simp only [Result.andThen_ok]
        generalize (Op.equalIn d e a b).run P w2 = r3
        cases r3 with
        | ok r w3 =>
          cases r
          · simp only [Result.andThen_ok, Bool.not_false, if_true, Sem.run_pure]
          · simp only [Result.andThen_ok, Bool.not_true, Bool.false_eq_true, if_false, Sem.run_pure]
            exact ih w3 (k + 1)
        | halt x w3 => simp [Result.andThen]
      | halt x w2 => simp [Result.andThen]
    | halt x w1 => simp [Result.andThen]

theorem eqElems_sound {C : Ctx} (hC : COk C) {φ : Phi} (D : Nat) {e : TypeId} {j : TI} (hj : C.tyOf e = some j) (eq : Value → Value → Option Bool)
    (hq : ∀ x y x' y' b, eq x y = some b → VRel φ x x' → VRel φ y y' → ∀ w, (Op.equalIn D e x' y').run C.P w = Result.ok b w)
    {xs ys xs' ys' : Array Value} (hx : VRels φ xs.toList xs'.toList) (hy : VRels φ ys.toList ys'.toList) (w : World) :
    ∀ (n k : Nat) (b : Bool), eqA eq xs ys j.size j.agg n k = some b → (eqElems D e j.size xs' ys' n k).run C.P w = Result.ok b w := by
  intro n
  induction n with
  | zero => intro k b h; simp [eqA] at h; subst h; rfl
  | succ n ih =>
    intro k b h
    unfold eqA at h
    split at h
    · rename_i a c ha hc
      obtain ⟨a', ha', hra⟩ := partV_rel hx ha
      obtain ⟨c', hc', hrc⟩ := partV_rel hy hc
      simp only [eqElems, Sem.run_bind, run_part hC hj w ha', run_part hC hj w hc', Result.andThen_ok]
      split at h
      · rename_i he
        rw [hq _ _ _ _ _ he hra hrc w]
        simpa using ih (k + 1) b h
      · rename_i he
        simp only [Option.some.injEq] at h; subst h
        rw [hq _ _ _ _ _ he hra hrc w]
        simp
      · cases h
    · cases h

theorem eqV_sound {C : Ctx} (hC : COk C) {φ : Phi} : ∀ (d D : Nat), d ≤ D → ∀ (t : TypeId) (x y x' y' : Value) (b : Bool), eqV C d t x y = some b →
    VRel φ x x' → VRel φ y y' → ∀ w, (Op.equalIn D t x' y').run C.P w = Result.ok b w := by
  intro d
  induction d with
  | zero => intro D _ t x y x' y' b h; simp [eqV] at h
  | succ d ih =>
    intro D hD t x y x' y' b h hx hy w
    obtain ⟨D, rfl⟩ : ∃ m, D = m + 1 := ⟨D - 1, by omega⟩
    unfold eqV at h
    split at h
    · cases h
    · rename_i i hi
      have hu := hC.und hi
      have hru := hC.run_und w hi
      split at h <;> rename_i hiu <;> (first | (cases h; done) | skip) <;> rw [hiu] at hu hru
      · cases hx; cases hy
        simp only [Option.some.injEq] at h; subst h
        simp [Op.equalIn, hru]
      · cases hx; cases hy
        split at h
        · rename_i hk
          simp only [Option.some.injEq] at h; subst h; subst hk
          simp [Op.equalIn, hru]
        · cases h
      · cases hx; cases hy
        simp only [Option.some.injEq] at h; subst h
        simp [Op.equalIn, hru]
      · cases hx; simp only [Option.some.injEq] at h; subst h
        cases hy <;> simp [Op.equalIn, hru]
      · cases hx; cases hy; simp only [Option.some.injEq] at h; subst h
        simp [Op.equalIn, hru]
      · rename_i e bb oo bb' oo'
        cases hx with
        | ptr _ _ l hl =>
          cases hy with
          | ptr _ _ l' hl' =>
            split at h
            · rename_i j hj
              cases hc : (Nat.beq bb bb' && !Nat.beq j.size 0)
              · rw [hc] at h; cases h
              · rw [hc] at h; simp only [cond_true, Option.some.injEq] at h; subst h
                simp only [Bool.and_eq_true, Bool.not_eq_true'] at hc
                have hbb := Nat.eq_of_beq_eq_true hc.1; subst hbb
                rw [hl] at hl'; cases hl'
                have hs : j.size ≠ 0 := by intro e0; rw [e0] at hc; simp at hc
                simp only [Op.equalIn, Sem.run_bind, hru, Result.andThen_ok, hC.run_size w hj, Sem.run_ite, if_pos hs]
                simp only [sameAddr, beq_self_eq_true, if_true, Sem.run_pure]
                congr 1
                rw [Bool.eq_iff_iff]; simp
            · cases h
      · cases hx; simp only [Option.some.injEq] at h; subst h
        cases hy <;> simp [Op.equalIn, hru]
      · cases hy; simp only [Option.some.injEq] at h; subst h
        cases hx <;> simp [Op.equalIn, hru]
      · cases hx; simp only [Option.some.injEq] at h; subst h
        cases hy <;> simp [Op.equalIn, hru]
      · cases hy; simp only [Option.some.injEq] at h; subst h
        cases hx <;> simp [Op.equalIn, hru]
      · cases hx; cases hy; simp only [Option.some.injEq] at h; subst h
        simp [Op.equalIn, hru]
      · cases hx; cases hy; simp only [Option.some.injEq] at h; subst h
        simp [Op.equalIn, hru]
      · rename_i fs xs ys
        cases hst : i.stood
        · rw [hst] at h; simp only [cond_false] at h
          cases hx with
          | agg _ xs' hx =>
            cases hy with
            | agg _ ys' hy =>
              have hp : C.P.stoodInHeld t = false := by
                obtain ⟨_, _, _, _, _, _, _, hs, _⟩ := TI.of_spec (hC.ty t i hi)
                rw [← hs]; exact hst
              have hf : C.P.fieldsOf t = fs := by unfold Program.fieldsOf; rw [hu]
              rw [run_equalIn_struct w D t _ _ (by rw [hf]; exact hu) hp, hf]
              exact eqFields_sound hC D _ (fun t x y x' y' b he hx hy w => ih D (by omega) t x y x' y' b he hx hy w) hx hy w _ _ h
        · rw [hst] at h; cases h
      · rename_i n e xs ys
        split at h
        · rename_i j hj
          cases hx with
          | agg _ xs' hx =>
            cases hy with
            | agg _ ys' hy =>
              rw [run_equalIn_array w D t e n _ _ hu j.size (hC.run_size w hj)]
              exact eqElems_sound hC D hj _ (fun x y x' y' b he hx hy w => ih D (by omega) e x y x' y' b he hx hy w) hx hy w _ _ _ h
        · cases h
end Go.AM
