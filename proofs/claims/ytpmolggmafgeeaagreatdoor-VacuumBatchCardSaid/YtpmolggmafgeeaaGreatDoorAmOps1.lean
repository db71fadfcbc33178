/- AM: the operations that do not look at the heap. -/
import Derived.Test.YtpmolggmafgeeaaGreatDoorAmRun
import Derived.Laws.StructEq
namespace Go.AM
open Go
variable [Syms]

theorem flats_rel {φ : Phi} : ∀ {l : List Value}, l.all flat = true → VRels φ l l
  | [], _ => .nil
  | v :: l, h => by
    simp only [List.all_cons, Bool.and_eq_true] at h
    exact .cons _ _ _ _ (flat_rel h.1) (flats_rel h.2)

def den : Value → Value
  | .chan (some k) => Syms.get k
  | v => v
def okR : Value → Bool
  | .chan (some _) | .int _ _ | .string _ | .bool _ => true
  | _ => false
/-- what a rule says is so -/
def RuleOk (P : Program) (u : Rule) : Prop := okR u.r = true ∧ (∀ op, opIx op = u.op → ∀ w, (binOp op u.t (den u.x) (den u.y)).run P w = .ok (den u.r) w) ∧
  (u.op = 100 → ∃ s : ByteArray, den u.x = .string s ∧ den u.r = .int .i64 s.size) ∧
  (u.op = 101 → ∃ (k : IntKind) (n : Int), den u.x = .int k n ∧ den u.r = .int .i64 (IntKind.i64.wrap n))

structure COk (C : Ctx) : Prop where
  ty : ∀ t d, C.tyOf t = some d → TI.of C.P t = some d
  fn : ∀ f d, C.fnOf f = some d → FI.of C.P f = some d
  mixed : C.P.follows .mixedOrders = true
  rules : ∀ u ∈ C.rules, RuleOk C.P u

omit [Syms] in
theorem TI.of_spec {P : Program} {t : TypeId} {d : TI} (h : TI.of P t = some d) :
    ∃ i, P.info? t = some i ∧ P.underlying t = some d.u ∧ d.size = i.size ∧ (∀ z, d.zero = some z → i.zero = some z ∧ z.cells.toList.all flat = true) ∧ d.bytes = i.bytes ∧
      d.eqG = P.eqGuardType P.depth t ∧ d.stood = P.stoodInHeld t ∧ d.methods = i.methods ∧
      d.agg = (match d.u with | .struct _ | .array _ _ => true | _ => false) := by
  unfold TI.of at h
  split at h
  · rename_i i u hi hu
    simp only [Option.some.injEq] at h; subst h
    refine ⟨i, hi, hu, rfl, ?_, rfl, rfl, rfl, rfl, rfl⟩
    intro z hz
    dsimp only at hz
    split at hz
    · rename_i y hy
      cases hf : y.cells.toList.all flat
      · rw [hf] at hz; cases hz
      · rw [hf] at hz; simp only [cond_true, Option.some.injEq] at hz; subst hz; exact ⟨hy, hf⟩
    · cases hz
  · cases h

section
variable {C : Ctx} (hC : COk C) {t : TypeId} {d : TI} (w : World)
include hC
theorem COk.und (h : C.tyOf t = some d) : C.P.underlying t = some d.u := (TI.of_spec (hC.ty t d h)).choose_spec.2.1
theorem COk.run_und (h : C.tyOf t = some d) : (underlying t).run C.P w = .ok d.u w := run_underlying (hC.und h) w
theorem COk.run_info (h : C.tyOf t = some d) : ∃ i, (typeInfo t).run C.P w = .ok i w ∧ d.size = i.size ∧ (∀ z, d.zero = some z → i.zero = some z ∧ z.cells.toList.all flat = true) ∧ d.bytes = i.bytes ∧ d.methods = i.methods := by
  obtain ⟨i, hi, _, h1, h2, h3, _, _, h4, _⟩ := TI.of_spec (hC.ty t d h)
  refine ⟨i, ?_, h1, h2, h3, h4⟩
  simp [typeInfo, hi]
theorem COk.run_size (h : C.tyOf t = some d) : (sizeOf t).run C.P w = .ok d.size w := by
  obtain ⟨i, hi, h1, _⟩ := hC.run_info w h
  simp [sizeOf, hi, h1]
theorem COk.run_zero (h : C.tyOf t = some d) {z : Value} (hz : d.zero = some z) : (zeroValue t).run C.P w = .ok z w := by
  obtain ⟨i, hi, _, h1, _⟩ := hC.run_info w h
  simp [zeroValue, hi, (h1 z hz).1]
theorem COk.zero_rel (h : C.tyOf t = some d) {z : Value} (hz : d.zero = some z) {φ : Phi} : VRels φ z.cells.toList z.cells.toList := by
  obtain ⟨_, _, _, _, h1, _⟩ := TI.of_spec (hC.ty t d h)
  exact flats_rel (h1 z hz).2
theorem COk.run_agg (h : C.tyOf t = some d) : (isAgg t).run C.P w = .ok d.agg w := by
  have h1 := hC.run_und w h
  obtain ⟨i, _, _, _, _, _, _, _, _, ha⟩ := TI.of_spec (hC.ty t d h)
  simp only [isAgg, Sem.run_bind, h1, Result.andThen_ok]
  rw [ha]
  split <;> simp_all <;> (split <;> simp_all)
end

/-! what the operands are -/
def ERho (φ : Phi) (ρ : Env) (ev : Operand → Value) : Prop := ∀ x v, ρ x = some v → VRel φ v (ev x)

def Yields (P : Program) (ev : Operand → Value) (op : Op) (w : World) (φ : Phi) (v : Value) : Prop :=
  ∀ o : Oper, o.op = op → ∃ v', (execOp ev o).run P w = .ok (.value v') w ∧ VRel φ v v'

theorem partV_rel {φ : Phi} {agg : Bool} {size : Nat} {xs ys : Array Value} (h : VRels φ xs.toList ys.toList) {off : Nat} {v : Value}
    (hv : partV agg size xs off = some v) : ∃ v', partV agg size ys off = some v' ∧ VRel φ v v' := by
  have hl : xs.size = ys.size := by simpa using h.length
  unfold partV at *
  cases agg
  · simp only [cond_false] at hv ⊢
    obtain ⟨v', h1, h2⟩ := h.get off v (by simpa using hv)
    exact ⟨v', by simpa using h1, h2⟩
  · simp only [cond_true] at hv ⊢
    rw [← hl]
    cases hb : Nat.ble (off + size) xs.size
    · rw [hb] at hv; cases hv
    · rw [hb] at hv; simp only [cond_true, Option.some.injEq] at hv ⊢
      subst hv
      refine ⟨_, rfl, ?_⟩
      have e : ∀ zs : Array Value, zs.extract off (off + size) = ⟨(zs.toList.drop off).take size⟩ := by
        intro zs
        apply Array.ext'
        simp [Array.toList_extract, List.extract_eq_take_drop]
      rw [e, e]
      exact .agg _ _ ((h.drop off).take size)

theorem run_part {C : Ctx} (hC : COk C) {t : TypeId} {d : TI} (h : C.tyOf t = some d) (w : World) {cs : Array Value} {off : Nat} {v : Value}
    (hv : partV d.agg d.size cs off = some v) : (part t cs off).run C.P w = .ok v w := by
  unfold part partV at *
  simp only [Sem.run_bind, hC.run_agg w h, Result.andThen_ok]
  cases ha : d.agg
  · rw [ha] at hv; simp only [cond_false] at hv
    simp [hv]
  · rw [ha] at hv; simp only [cond_true] at hv
    cases hb : Nat.ble (off + d.size) cs.size
    · rw [hb] at hv; cases hv
    · rw [hb] at hv; simp only [cond_true, Option.some.injEq] at hv
      simp [hC.run_size w h, hv]

/-! equality -/
theorem eqFields_sound {C : Ctx} (hC : COk C) {φ : Phi} (D : Nat) (eq : TypeId → Value → Value → Option Bool)
    (hq : ∀ t x y x' y' b, eq t x y = some b → VRel φ x x' → VRel φ y y' → ∀ w, (Op.equalIn D t x' y').run C.P w = .ok b w)
    {xs ys xs' ys' : Array Value} (hx : VRels φ xs.toList xs'.toList) (hy : VRels φ ys.toList ys'.toList) (w : World) :
    ∀ (fs : List Field) (b : Bool), eqF C eq xs ys fs = some b → (Op.eqFields D xs' ys' fs).run C.P w = .ok b w := by
  intro fs
  induction fs with
  | nil => intro b h; simp [eqF] at h; subst h; rfl
  | cons f fs ih =>
    intro b h
    unfold eqF at h
    cases hn : (f.name == "_")
    · rw [hn] at h; simp only [cond_false] at h
      split at h
      · cases h
      · rename_i i hi
        split at h
        · rename_i a c ha hc
          obtain ⟨a', ha', hra⟩ := partV_rel hx ha
          obtain ⟨c', hc', hrc⟩ := partV_rel hy hc
          have hne : f.name ≠ "_" := by simpa using hn
          simp only [Op.eqFields, if_pos hne, Sem.run_bind, run_part hC hi w ha', run_part hC hi w hc', Result.andThen_ok]
          split at h
          · rename_i he
            rw [hq _ _ _ _ _ _ he hra hrc w]
            simpa using ih b h
          · rename_i he
            simp only [Option.some.injEq] at h; subst h
            rw [hq _ _ _ _ _ _ he hra hrc w]
            simp
          · cases h
        · cases h
    · rw [hn] at h; cases h

def eqElems (d : Nat) (e : TypeId) (size : Nat) (xs ys : Array Value) : Nat → Nat → Sem Bool
  | 0, _ => pure true
  | n + 1, k => do
    let a ← part e xs (k * size)
    let b ← part e ys (k * size)
    let r ← Op.equalIn d e a b
    if (!r) = true then pure false else eqElems d e size xs ys n (k + 1)

omit [Syms] in
theorem run_equalIn_array {P : Program} (w : World) (d : Nat) (t e : TypeId) (n : Nat) (xs ys : Array Value) (ht : P.underlying t = some (.array n e)) (sz : Nat)
    (hs : (Go.sizeOf e).run P w = Result.ok sz w) :
    (Op.equalIn (d + 1) t (.agg xs) (.agg ys)).run P w = (eqElems d e sz xs ys n 0).run P w := by
  simp only [Op.equalIn, Sem.run_bind, run_underlying ht, Result.andThen_ok, hs]
  rw [Std.Legacy.Range.forIn_eq_forIn_range']
  have hsz : ([:n] : Std.Legacy.Range).size = n := by simp [Std.Legacy.Range.size]
  rw [hsz]
  show (Sem.run P (forIn (List.range' 0 n 1) _ _) w).andThen _ = _
  clear hsz hs ht
  generalize 0 = k
  induction n generalizing w k with
  | zero => simp [eqElems]
  | succ n ih =>
    simp only [List.range'_succ, List.forIn_cons, eqElems, Sem.run_bind, Sem.run_ite]
    generalize (part e xs (k * sz)).run P w = r1
    cases r1 with
    | ok a w1 =>
      simp only [Result.andThen_ok]
      generalize (part e ys (k * sz)).run P w1 = r2
      cases r2 with
      | ok b w2 =>
        simp only [Result.andThen_ok]
        generalize (Op.equalIn d e a b).run P w2 = r3
        cases r3 with
        | ok r w3 =>
          cases r
          · simp only [Result.andThen_ok, Bool.not_false, if_true, Sem.run_pure]
          · simp only [Result.andThen_ok, Bool.not_true, Bool.false_eq_true, if_false, Sem.run_pure]
            exact ih w3 (k + 1)
        | halt x w3 => simp [Result.andThen]
      | halt x w2 => simp [Result.andThen]
    | halt x w1 => simp [Result.andThen]

theorem eqElems_sound {C : Ctx} (hC : COk C) {φ : Phi} (D : Nat) {e : TypeId} {j : TI} (hj : C.tyOf e = some j) (eq : Value → Value → Option Bool)
    (hq : ∀ x y x' y' b, eq x y = some b → VRel φ x x' → VRel φ y y' → ∀ w, (Op.equalIn D e x' y').run C.P w = Result.ok b w)
    {xs ys xs' ys' : Array Value} (hx : VRels φ xs.toList xs'.toList) (hy : VRels φ ys.toList ys'.toList) (w : World) :
    ∀ (n k : Nat) (b : Bool), eqA eq xs ys j.size j.agg n k = some b → (eqElems D e j.size xs' ys' n k).run C.P w = Result.ok b w := by
  intro n
  induction n with
  | zero => intro k b h; simp [eqA] at h; subst h; rfl
  | succ n ih =>
    intro k b h
    unfold eqA at h
    split at h
    · rename_i a c ha hc
      obtain ⟨a', ha', hra⟩ := partV_rel hx ha
      obtain ⟨c', hc', hrc⟩ := partV_rel hy hc
      simp only [eqElems, Sem.run_bind, run_part hC hj w ha', run_part hC hj w hc', Result.andThen_ok]
      split at h
      · rename_i he
        rw [hq _ _ _ _ _ he hra hrc w]
        simpa using ih (k + 1) b h
      · rename_i he
        simp only [Option.some.injEq] at h; subst h
        rw [hq _ _ _ _ _ he hra hrc w]
        simp
      · cases h
    · cases h

theorem eqV_sound {C : Ctx} (hC : COk C) {φ : Phi} : ∀ (d D : Nat), d ≤ D → ∀ (t : TypeId) (x y x' y' : Value) (b : Bool), eqV C d t x y = some b →
    VRel φ x x' → VRel φ y y' → ∀ w, (Op.equalIn D t x' y').run C.P w = Result.ok b w := by
  intro d
  induction d with
  | zero => intro D _ t x y x' y' b h; simp [eqV] at h
  | succ d ih =>
    intro D hD t x y x' y' b h hx hy w
    obtain ⟨D, rfl⟩ : ∃ m, D = m + 1 := ⟨D - 1, by omega⟩
    unfold eqV at h
    split at h
    · cases h
    · rename_i i hi
      have hu := hC.und hi
      have hru := hC.run_und w hi
      split at h <;> rename_i hiu <;> (first | (cases h; done) | skip) <;> rw [hiu] at hu hru
      · cases hx; cases hy
        simp only [Option.some.injEq] at h; subst h
        simp [Op.equalIn, hru]
      · cases hx; cases hy
        split at h
        · rename_i hk
          simp only [Option.some.injEq] at h; subst h; subst hk
          simp [Op.equalIn, hru]
        · cases h
      · cases hx; cases hy
        simp only [Option.some.injEq] at h; subst h
        simp [Op.equalIn, hru]
      · cases hx; simp only [Option.some.injEq] at h; subst h
        cases hy <;> simp [Op.equalIn, hru]
      · cases hx; cases hy; simp only [Option.some.injEq] at h; subst h
        simp [Op.equalIn, hru]
      · rename_i e bb oo bb' oo'
        cases hx with
        | ptr _ _ l hl =>
          cases hy with
          | ptr _ _ l' hl' =>
            split at h
            · rename_i j hj
              cases hc : (Nat.beq bb bb' && !Nat.beq j.size 0)
              · rw [hc] at h; cases h
              · rw [hc] at h; simp only [cond_true, Option.some.injEq] at h; subst h
                simp only [Bool.and_eq_true, Bool.not_eq_true'] at hc
                have hbb := Nat.eq_of_beq_eq_true hc.1; subst hbb
                rw [hl] at hl'; cases hl'
                have hs : j.size ≠ 0 := by intro e0; rw [e0] at hc; simp at hc
                simp only [Op.equalIn, Sem.run_bind, hru, Result.andThen_ok, hC.run_size w hj, Sem.run_ite, if_pos hs]
                simp only [sameAddr, beq_self_eq_true, if_true, Sem.run_pure]
                congr 1
                rw [Bool.eq_iff_iff]; simp
            · cases h
      · cases hx; simp only [Option.some.injEq] at h; subst h
        cases hy <;> simp [Op.equalIn, hru]
      · cases hy; simp only [Option.some.injEq] at h; subst h
        cases hx <;> simp [Op.equalIn, hru]
      · cases hx; simp only [Option.some.injEq] at h; subst h
        cases hy <;> simp [Op.equalIn, hru]
      · cases hy; simp only [Option.some.injEq] at h; subst h
        cases hx <;> simp [Op.equalIn, hru]
      · cases hx; cases hy; simp only [Option.some.injEq] at h; subst h
        simp [Op.equalIn, hru]
      · cases hx; cases hy; simp only [Option.some.injEq] at h; subst h
        simp [Op.equalIn, hru]
      · rename_i fs xs ys
        cases hst : i.stood
        · rw [hst] at h; simp only [cond_false] at h
          cases hx with
          | agg _ xs' hx =>
            cases hy with
            | agg _ ys' hy =>
              have hp : C.P.stoodInHeld t = false := by
                obtain ⟨_, _, _, _, _, _, _, hs, _⟩ := TI.of_spec (hC.ty t i hi)
                rw [← hs]; exact hst
              have hf : C.P.fieldsOf t = fs := by unfold Program.fieldsOf; rw [hu]
              rw [run_equalIn_struct w D t _ _ (by rw [hf]; exact hu) hp, hf]
              exact eqFields_sound hC D _ (fun t x y x' y' b he hx hy w => ih D (by omega) t x y x' y' b he hx hy w) hx hy w _ _ h
        · rw [hst] at h; cases h
      · rename_i n e xs ys
        split at h
        · rename_i j hj
          cases hx with
          | agg _ xs' hx =>
            cases hy with
            | agg _ ys' hy =>
              rw [run_equalIn_array w D t e n _ _ hu j.size (hC.run_size w hj)]
              exact eqElems_sound hC D hj _ (fun x y x' y' b he hx hy w => ih D (by omega) e x y x' y' b he hx hy w) hx hy w _ _ _ h
        · cases h
end Go.AM
namespace Go.AM
open Go
variable [Syms]

def Yl (P : Program) (ev : Operand → Value) (op : Op) (w : World) (φ : Phi) (v : Value) : Prop :=
  ∀ o : Oper, o.op = op → ∃ v' w', (execOp ev o).run P w = Result.ok (.value v') w' ∧ VRel φ v v' ∧ (w' = w ∨ w' = w.drew)

/-- by the run of the value alone -/
theorem Yl.of {P : Program} {ev : Operand → Value} {op : Op} {w : World} {φ : Phi} {v : Value} (s : Sem Value)
    (he : ∀ o : Oper, o.op = op → execOp ev o = (do pure (.value (← s)))) {v' : Value} {w' : World} (hs : s.run P w = Result.ok v' w') (hv : VRel φ v v') (hw : w' = w ∨ w' = w.drew) :
    Yl P ev op w φ v := by
  intro o ho
  refine ⟨v', w', ?_, hv, hw⟩
  rw [he o ho]
  simp [hs]

theorem Yl.of' {P : Program} {ev : Operand → Value} {op : Op} {w : World} {φ : Phi} {v : Value} (s : Sem Value)
    (he : ∀ o : Oper, o.op = op → execOp ev o = (do pure (.value (← s)))) {v' : Value} (hs : s.run P w = Result.ok v' w) (hv : VRel φ v v') :
    Yl P ev op w φ v := Yl.of s he hs hv (.inl rfl)

omit [Syms] in
theorem blt_of {a b : Nat} (h : a < b) : Nat.blt a b = true := Nat.ble_eq_true_of_le h
omit [Syms] in
theorem lt_of_blt {a b : Nat} (h : Nat.blt a b = true) : a < b := Nat.le_of_ble_eq_true h

omit [Syms] in
theorem nan_read (b : Nat) (h : 9218868437227405312 < b % 9223372036854775808) : ∃ s t, FloatKind.f64.format.read b = .nan s t := by
  have e1 : Ieee.double.signWeight = 9223372036854775808 := by decide +kernel
  have e2 : Ieee.double.infRung = 9218868437227405312 := by decide +kernel
  have e3 : Ieee.double.binade = 4503599627370496 := by decide +kernel
  refine ⟨b / Ieee.double.signWeight % 2 == 1, b % Ieee.double.signWeight - Ieee.double.infRung, ?_⟩
  show Ieee.double.read b = _
  unfold Ieee.Format.read
  simp only [e1, e2, e3]
  rw [if_neg (by omega), if_neg (by omega), if_neg (by omega)]

omit [Syms] in
theorem nanish (b : Nat) (h : 9218868437227405312 < b % 9223372036854775808) : NaNish b := by
  obtain ⟨s, t, hr⟩ := nan_read b h
  intro y
  constructor
  · show (FloatKind.f64.format.read b).order (FloatKind.f64.format.read y) = none
    rw [hr]; rfl
  · show (FloatKind.f64.format.read y).order (FloatKind.f64.format.read b) = none
    rw [hr]; cases FloatKind.f64.format.read y <;> rfl

omit [Syms] in
theorem nan_cut (x y t : Nat) : NaNish ((Question.nanBits .f64 x y).cut t) := by
  refine nanish _ ?_
  show 9218868437227405312 < ((t % 2) * 2 ^ 63 + 0x7ff0000000000000 + 1 + (t / 2) % (2 ^ 52 - 1)) % 9223372036854775808
  have h1 : t / 2 % (2 ^ 52 - 1) < 2 ^ 52 - 1 := Nat.mod_lt _ (by decide)
  have h2 : t % 2 = 0 ∨ t % 2 = 1 := by omega
  generalize t / 2 % (2 ^ 52 - 1) = r at h1 ⊢
  rcases h2 with e | e <;> rw [e] <;> omega

omit [Syms] in
theorem flatOf_spec {s : Sem Value} {v : Value} (h : flatOf s = some v) : s = .pure v ∧ flat v = true := by
  unfold flatOf at h
  split at h
  · rename_i u
    cases hf : flat u
    · rw [hf] at h; cases h
    · rw [hf] at h; simp only [cond_true, Option.some.injEq] at h; subst h; exact ⟨rfl, hf⟩
  · cases h

omit [Syms] in
theorem floatCmp_nan (op : BinOp) (x y : Nat) (h : FloatKind.f64.format.order x y = none) (b : Value) :
    ((match op with | .eql | .lss | .leq | .gtr | .geq => some (Value.bool false) | .neq => some (.bool true) | _ => none : Option Value) = some b → Op.floatCmp op .f64 x y = .pure b) := by
  intro hb
  cases op <;> simp at hb <;> subst hb <;> simp [Op.floatCmp, h] <;> rfl

theorem floatV_sound {P : Program} {φ : Phi} {op : BinOp} {t : TypeId} {k k' : FloatKind} {a b : Nat} {x' y' : Value} {v : Value} (h : floatV op k a k' b = some v)
    (hx : VRel φ (.float k a) x') (hy : VRel φ (.float k' b) y') (w : World) :
    ∃ v' w', (binOp op t x' y').run P w = Result.ok v' w' ∧ VRel φ v v' ∧ (w' = w ∨ w' = w.drew) := by
  unfold floatV at h
  split at h
  · cases h
  · rename_i hk
    have hk1 : k = k' := by by_cases e : k = k' <;> simp_all
    have hk2 : k = .f64 := by by_cases e : k = .f64 <;> simp_all
    subst hk1; subst hk2
    cases hc : (Nat.blt a NANB && Nat.blt b NANB)
    · rw [hc] at h; simp only [cond_false] at h
      have hn : ∃ x1 y1, x' = .float .f64 x1 ∧ y' = .float .f64 y1 ∧ FloatKind.f64.format.order x1 y1 = none := by
        cases hx with
        | float _ _ hlt =>
          cases hy with
          | float _ _ hlt2 =>
            have e1 : Nat.blt a NANB = true := blt_of hlt
            have e2 : Nat.blt b NANB = true := blt_of hlt2
            rw [e1, e2] at hc; cases hc
          | nan b1 hb1 => exact ⟨_, _, rfl, rfl, (hb1 a).2⟩
        | nan b1 hb1 =>
          cases hy with
          | float => exact ⟨_, _, rfl, rfl, (hb1 _).1⟩
          | nan b2 hb2 => exact ⟨_, _, rfl, rfl, (hb1 _).1⟩
      obtain ⟨x1, y1, rfl, rfl, ho⟩ := hn
      refine ⟨v, w, ?_, ?_, .inl rfl⟩
      · have := floatCmp_nan op x1 y1 ho v h
        have hb : binOp op t (.float .f64 x1) (.float .f64 y1) = Op.floatCmp op .f64 x1 y1 := by cases op <;> first | (simp [binOp]; done) | (simp at h)
        rw [hb, this]; rfl
      · cases op <;> simp at h <;> subst h <;> exact .bool _
    · rw [hc] at h; simp only [cond_true, Bool.and_eq_true] at h hc
      have ha : a < NANB := lt_of_blt hc.1
      have hb : b < NANB := lt_of_blt hc.2
      have hx' : x' = .float .f64 a := by cases hx with | float => rfl | nan => simp [NANB] at ha
      have hy' : y' = .float .f64 b := by cases hy with | float => rfl | nan => simp [NANB] at hb
      subst hx'; subst hy'
      have key : ∀ (r : Option Nat), (match r with | some v => flatOf (.pure (.float .f64 v)) | none => some (.float .f64 NANB)) = some v →
          ∃ v' w', (match r with | some r => (pure (.float .f64 r) : Sem Value) | none => do pure (.float .f64 (← choose (.nanBits .f64 a b)))).run P w = Result.ok v' w' ∧ VRel φ v v' ∧ (w' = w ∨ w' = w.drew) := by
        intro r hr
        cases r with
        | some r =>
          obtain ⟨h1, h2⟩ := flatOf_spec hr
          have : v = .float .f64 r := by injection h1 with h1; exact h1.symm
          subst this
          exact ⟨_, w, rfl, flat_rel h2, .inl rfl⟩
        | none =>
          simp only [Option.some.injEq] at hr; subst hr
          exact ⟨_, _, rfl, .nan _ (nan_cut a b _), .inr rfl⟩
      cases op <;> dsimp only at h
      all_goals first
        | (obtain ⟨v', w', hrun, hr⟩ := key _ h
           refine ⟨v', w', ?_, hr⟩
           simp only [binOp, Op.floatArith, ne_eq, not_true_eq_false, if_false]
           exact hrun)
        | (obtain ⟨h1, h2⟩ := flatOf_spec h
           refine ⟨v, w, ?_, flat_rel h2, .inl rfl⟩
           simp only [binOp, ne_eq, not_true_eq_false, if_false]
           rw [h1]; rfl)
end Go.AM
namespace Go.AM
open Go
variable [Syms]
theorem VRel.nilIface_inv {φ : Phi} {x : Value} (h : VRel φ x .nilIface) (hs : isSym x = false) : x = .nilIface := by
  generalize hv : Value.nilIface = v at h
  cases h <;> first | rfl | cases hv | cases hs
theorem VRel.agg_inv {φ : Phi} {x : Value} {a : Array Value} (h : VRel φ x (.agg a)) (hs : isSym x = false) : ∃ xs, x = .agg xs := by
  generalize hv : Value.agg a = v at h
  cases h <;> first | exact ⟨_, rfl⟩ | cases hv | cases hs


section
variable {C : Ctx} (hC : COk C) {φ : Phi} (w : World)
include hC

theorem guard_run {op : BinOp} {t : TypeId} {xo yo : Operand} {x' y' : Value} {i : TI} (hi : C.tyOf t = some i)
    (hn : ¬ (x' = .nilIface ∧ y' = .nilIface)) (ha : ∀ a b, x' = .agg a → y' = .agg b → i.eqG = false) :
    (eqGuard op t xo yo x' y').run C.P w = Result.ok () w := by
  cases x' with
  | nilIface => cases y' <;> first | (exact absurd ⟨rfl, rfl⟩ hn) | (cases op <;> rfl)
  | agg a =>
    cases y' with
    | agg b =>
      obtain ⟨_, _, _, _, _, _, hg, _⟩ := TI.of_spec (hC.ty t i hi)
      exact run_eqGuard_agg w op t xo yo a b (by rw [← hg]; exact ha a b rfl rfl)
    | _ => cases op <;> rfl
  | _ => cases op <;> rfl

theorem binV_sound {op : BinOp} {t : TypeId} {xo yo : Operand} {x y x' y' v : Value} (h : binV C op t x y = some v) (hx : VRel φ x x') (hy : VRel φ y y') (sx : isSym x = false) (sy : isSym y = false) :
    ∃ v' w', ((do eqGuard op t xo yo x' y'; binOp op t x' y') : Sem Value).run C.P w = Result.ok v' w' ∧ VRel φ v v' ∧ (w' = w ∨ w' = w.drew) := by
  unfold binV at h
  split at h
  · rename_i k a k' b
    cases hx; cases hy
    have hg : eqGuard op t xo yo (.int k a) (.int k' b) = pure () := by cases op <;> rfl
    have key : binOp op t (.int k a) (.int k' b) = .pure v ∧ VRel φ v v := by
      have flatr : ∀ u : Value, (∃ j m, u = .int j m) ∨ (∃ c, u = .bool c) → VRel φ u u := by
        rintro u (⟨j, m, rfl⟩ | ⟨c, rfl⟩)
        · exact .int _ _
        · exact .bool _
      split at h
      · have := shiftV_spec .shl (.inl rfl) k k' a b t v h
        refine ⟨this, flatr v ?_⟩
        unfold shiftV at h
        split at h
        · simp only [Option.some.injEq] at h; exact .inl ⟨_, _, h.symm⟩
        · simp only [Option.some.injEq] at h; exact .inl ⟨_, _, h.symm⟩
        · split at h
          · rename_i hs
            simp only [Option.some.injEq] at h; subst h
            unfold Op.shift at hs
            split at hs
            · cases hs
            · cases hs; exact .inl ⟨_, _, rfl⟩
          · cases h
      · have := shiftV_spec .shr (.inr rfl) k k' a b t v h
        refine ⟨this, flatr v ?_⟩
        unfold shiftV at h
        split at h
        · simp only [Option.some.injEq] at h; exact .inl ⟨_, _, h.symm⟩
        · simp only [Option.some.injEq] at h; exact .inl ⟨_, _, h.symm⟩
        · split at h
          · rename_i hs
            simp only [Option.some.injEq] at h; subst h
            unfold Op.shift at hs
            split at hs
            · cases hs
            · cases hs; exact .inl ⟨_, _, rfl⟩
          · cases h
      · rename_i h1 h2
        split at h
        · rename_i hk; subst hk
          refine ⟨intV_spec op h1 h2 k a b t v h, flatr v ?_⟩
          unfold intV at h
          split at h <;> first
            | (simp only [Option.some.injEq] at h; exact .inl ⟨_, _, h.symm⟩)
            | (simp only [Option.some.injEq] at h; exact .inr ⟨_, h.symm⟩)
            | (rename_i m n; cases hn : Nat.beq n 0 <;> rw [hn] at h <;> simp only [cond_true, cond_false] at h
               · simp only [Option.some.injEq] at h; exact .inl ⟨_, _, h.symm⟩
               · cases h)
            | skip
          split at h
          · rename_i hs
            simp only [Option.some.injEq] at h; subst h
            split at hs
            all_goals first
              | (unfold Op.intBits at hs; cases hs; exact .inl ⟨_, _, rfl⟩)
              | (unfold Op.intDiv at hs; split at hs
                 · cases hs
                 · cases hs; exact .inl ⟨_, _, rfl⟩)
              | (unfold Op.intCmp at hs; split at hs <;> first | (cases hs; exact .inr ⟨_, rfl⟩) | cases hs)
          · cases h
        · cases h
    refine ⟨v, w, ?_, key.2, .inl rfl⟩
    rw [hg, key.1]; rfl
  · rename_i k a k' b
    obtain ⟨v', w', h1, h2⟩ := floatV_sound (P := C.P) (t := t) h hx hy w
    refine ⟨v', w', ?_, h2⟩
    have hg : ∃ k2 b2, x' = .float k2 b2 := by cases hx <;> exact ⟨_, _, rfl⟩
    obtain ⟨k2, b2, rfl⟩ := hg
    have hg : eqGuard op t xo yo (.float k2 b2) y' = pure () := by cases op <;> rfl
    rw [hg]
    exact h1
  · rename_i a b
    cases hx; cases hy
    obtain ⟨h1, h2⟩ := flatOf_spec h
    have hg : eqGuard op t xo yo (.string a) (.string b) = pure () := by cases op <;> rfl
    refine ⟨v, w, ?_, flat_rel h2, .inl rfl⟩
    rw [hg]
    have : binOp op t (.string a) (.string b) = Op.stringOp op a b := by cases op <;> rfl
    rw [this, h1]; rfl
  · rename_i n1 n2 n3
    split at h
    · cases h
    · rename_i i hi
      cases hc : (i.eqG && isAggV x)
      · rw [hc] at h; simp only [cond_false] at h
        have hgd : (∃ b, eqV C 12 t x y = some b) → (eqGuard op t xo yo x' y').run C.P w = Result.ok () w := by
          rintro ⟨b, hb⟩
          refine guard_run hC w hi ?_ ?_
          · rintro ⟨rfl, rfl⟩
            have e1 := hx.nilIface_inv sx; have e2 := hy.nilIface_inv sy
            subst e1; subst e2
            simp [eqV, hi] at hb
          · rintro a b rfl rfl
            obtain ⟨xs, e1⟩ := hx.agg_inv sx
            subst e1
            have hc2 : (i.eqG && true) = false := hc
            simpa using hc2
        have hnum : ∀ o2, (o2 = BinOp.eql ∨ o2 = .neq) → ∀ b, eqV C 12 t x y = some b →
            binOp o2 t x' y' = (match o2 with | .eql => do pure (.bool (← Op.equal t x' y')) | _ => do pure (.bool (!(← Op.equal t x' y')))) := by
          intro o2 ho b hb
          rcases ho with rfl | rfl <;>
          (cases hx <;> cases hy <;> first | rfl | (cases sx; done) | (cases sy; done) | (exfalso; exact n1 _ _ _ _ rfl rfl) | (exfalso; exact n2 _ _ _ _ rfl rfl) | (exfalso; exact n3 _ _ rfl rfl))
        split at h
        · split at h
          · rename_i b hb
            simp only [Option.some.injEq] at h; subst h
            refine ⟨.bool b, w, ?_, .bool b, .inl rfl⟩
            rw [Sem.run_bind, hgd ⟨b, hb⟩, Result.andThen_ok, hnum .eql (.inl rfl) b hb]
            simp only [Sem.run_bind, Op.equal]
            rw [eqV_sound hC 12 Op.maxDepth (by decide) t x y x' y' b hb hx hy w]
            rfl
          · cases h
        · split at h
          · rename_i b hb
            simp only [Option.some.injEq] at h; subst h
            refine ⟨.bool (!b), w, ?_, .bool _, .inl rfl⟩
            rw [Sem.run_bind, hgd ⟨b, hb⟩, Result.andThen_ok, hnum .neq (.inr rfl) b hb]
            simp only [Sem.run_bind, Op.equal]
            rw [eqV_sound hC 12 Op.maxDepth (by decide) t x y x' y' b hb hx hy w]
            rfl
          · cases h
        · cases h
      · rw [hc] at h; cases h
end
end Go.AM
namespace Go.AM
open Go
variable [Syms]

omit [Syms] in
theorem word_lt (f : Ieee.Format) (hf : f = Ieee.single ∨ f = Ieee.double) (neg : Bool) (r : Nat) : f.word neg (min r f.infRung) < NANB := by
  rcases hf with rfl | rfl
  · have e1 : Ieee.single.signWeight = 2147483648 := by decide +kernel
    have e2 : Ieee.single.infRung = 2139095040 := by decide +kernel
    unfold Ieee.Format.word
    rw [e1, e2]
    have : min r 2139095040 ≤ 2139095040 := Nat.min_le_right _ _
    unfold NANB
    split <;> omega
  · have e1 : Ieee.double.signWeight = 9223372036854775808 := by decide +kernel
    have e2 : Ieee.double.infRung = 9218868437227405312 := by decide +kernel
    unfold Ieee.Format.word
    rw [e1, e2]
    have : min r 9218868437227405312 ≤ 9218868437227405312 := Nat.min_le_right _ _
    unfold NANB
    split <;> omega

omit [Syms] in
theorem nearest_lt (k : FloatKind) (n : Int) : k.nearest n < NANB := by
  have hk : k.format = Ieee.single ∨ k.format = Ieee.double := by cases k <;> first | exact .inl rfl | exact .inr rfl
  show k.format.nearest _ _ _ < NANB
  unfold Ieee.Format.nearest
  split
  · have := word_lt k.format hk (decide (n < 0)) 0
    simpa using this
  · exact word_lt k.format hk _ _

omit [Syms] in
theorem natOf_spec {v : Value} {n : Nat} (h : natOf v = some n) : ∃ k, v = .int k (Int.ofNat n) := by
  unfold natOf at h
  split at h
  · simp only [Option.some.injEq] at h; subst h; exact ⟨_, rfl⟩
  · cases h

theorem natOf_rel {φ : Phi} {v v' : Value} {n : Nat} (h : natOf v = some n) (hr : VRel φ v v') : ∃ k, v' = .int k (Int.ofNat n) := by
  obtain ⟨k, rfl⟩ := natOf_spec h
  cases hr; exact ⟨k, rfl⟩

theorem ptr_add {φ : Phi} {b off n : Nat} {l : Loc} (h : φ b = some l) :
    VRel φ (.pointer (some (Addr.add ⟨b, off, none⟩ n))) (.pointer (some (Addr.add ⟨l.c, l.d + off, none⟩ n))) := by
  rw [addr_add, addr_add, Nat.add_assoc]
  exact .ptr b (off + n) l h

theorem boundOf_run {P : Program} {φ : Phi} {m d n : Nat} {o o' : Option Value} (h : boundOf m o d = some n) (hr : ∀ v, o = some v → ∃ v', o' = some v' ∧ VRel φ v v')
    (hn : o = none → o' = none) (code : BoundsCode) (w : World) :
    (o = none ∧ o' = none ∧ n = d) ∨ (∃ v', o' = some v' ∧ n ≤ m ∧ (Instr.sliceBound v' m code).run P w = Result.ok n w) := by
  unfold boundOf at h
  cases o with
  | none => simp only [Option.some.injEq] at h; subst h; exact .inl ⟨rfl, hn rfl, rfl⟩
  | some v =>
    obtain ⟨v', rfl, hv⟩ := hr v rfl
    right
    dsimp only at h
    split at h
    · rename_i k hk
      cases hb : Nat.ble k m
      · rw [hb] at h; cases h
      · rw [hb] at h; simp only [cond_true, Option.some.injEq] at h; subst h
        have hle := Nat.le_of_ble_eq_true hb
        obtain ⟨kk, rfl⟩ := natOf_rel hk hv
        refine ⟨_, rfl, hle, ?_⟩
        have h1 : (0 : Int) ≤ Int.ofNat k ∧ Int.ofNat k ≤ (m : Int) := ⟨Int.natCast_nonneg _, by simpa using hle⟩
        simp only [Instr.sliceBound, asIntOf, Sem.run_bind, Sem.run_pure, Result.andThen_ok, Sem.run_ite, if_pos h1]
        rfl
    · cases h

section
variable {C : Ctx} {φ : Phi} {ρ : Env} {ev : Operand → Value} (w : World)

theorem evL_rel {φ : Phi} {ρ : Env} {ev : Operand → Value} (hρ : ERho φ ρ ev) : ∀ (xs : List Operand) (l : List Value), evL ρ xs = some l → VRels φ l (xs.map ev) := by
  intro xs
  induction xs with
  | nil => intro l h; have h' : some [] = some l := h; cases h'; exact .nil
  | cons x xs ih =>
    intro l h
    have h' : consV (ρ x) (evL ρ xs) = some l := h
    unfold consV at h'
    split at h'
    · rename_i v hv
      obtain ⟨t, ht, rfl⟩ := consO_some h'
      exact .cons _ _ _ _ (hρ x v hv) (ih t ht)
    · cases h'

theorem evO_rel {φ : Phi} {ρ : Env} {ev : Operand → Value} (hρ : ERho φ ρ ev) {x : Option Operand} {o : Option Value} (h : evO ρ x = some o) :
    (∀ v, o = some v → ∃ v', x.map ev = some v' ∧ VRel φ v v') ∧ (o = none → x.map ev = none) := by
  unfold evO at h
  split at h
  · simp only [Option.some.injEq] at h; subst h; exact ⟨fun _ h => (by cases h), fun _ => rfl⟩
  · rename_i x
    split at h
    · rename_i v hv
      simp only [Option.some.injEq] at h; subst h
      exact ⟨fun u hu => ⟨_, rfl, by cases hu; exact hρ x v hv⟩, fun h => by cases h⟩
    · cases h


omit [Syms] in
theorem fieldOf_spec {C : Ctx} {t : TypeId} {f : Nat} {fd : Field} {j : TI} (h : fieldOf C t f = some (fd, j)) :
    ∃ i fs, C.tyOf t = some i ∧ i.u = .struct fs ∧ fs[f]? = some fd ∧ C.tyOf fd.type = some j := by
  unfold fieldOf at h
  split at h
  · rename_i i hi
    split at h
    · rename_i fs hfs
      split at h
      · rename_i fd' hfd
        split at h
        · rename_i j' hj
          simp only [Option.some.injEq, Prod.mk.injEq] at h
          obtain ⟨rfl, rfl⟩ := h
          exact ⟨i, fs, hi, hfs, hfd, hj⟩
        · cases h
      · cases h
    · cases h
  · cases h

theorem yl_move (hρ : ERho φ ρ ev) {x : Operand} {v : Value} (h : ρ x = some v) : Yl C.P ev (.move x) w φ v := by
  rintro ⟨dst, op, type, pos, after, guard⟩ ho; subst ho
  exact ⟨ev x, w, rfl, hρ x v h, .inl rfl⟩
theorem yl_assign (hρ : ERho φ ρ ev) {x : Operand} {v : Value} (h : ρ x = some v) : Yl C.P ev (.assign x) w φ v := by
  rintro ⟨dst, op, type, pos, after, guard⟩ ho; subst ho
  exact ⟨ev x, w, rfl, hρ x v h, .inl rfl⟩

theorem yl_pick (hρ : ERho φ ρ ev) {c a b : Operand} {v : Value} (h : pPick ρ c a b = some v) : Yl C.P ev (.pick c a b) w φ v := by
  unfold pPick at h
  split at h
  · rename_i hc
    have h1 := hρ c _ hc
    generalize he : ev c = u at h1
    cases h1
    refine Yl.of' (do pure (if ← asBool (ev c) then ev a else ev b)) ?_ (v' := ev a) ?_ (hρ a v h)
    · rintro ⟨dst, op, type, pos, after, guard⟩ ho; subst ho
      simp only [execOp, bind_assoc, pure_bind]
    · rw [he]; rfl
  · rename_i hc
    have h1 := hρ c _ hc
    generalize he : ev c = u at h1
    cases h1
    refine Yl.of' (do pure (if ← asBool (ev c) then ev a else ev b)) ?_ (v' := ev b) ?_ (hρ b v h)
    · rintro ⟨dst, op, type, pos, after, guard⟩ ho; subst ho
      simp only [execOp, bind_assoc, pure_bind]
    · rw [he]; rfl
  · cases h

omit [Syms] in
theorem ruleIn_spec {op : Nat} {t : TypeId} {x y v : Value} : ∀ {l : List Rule}, ruleIn op t x y l = some v → ∃ u ∈ l, u.op = op ∧ u.t = t ∧ req u.x x = true ∧ req u.y y = true ∧ v = u.r
  | [], h => by cases h
  | u :: l, h => by
    unfold ruleIn at h
    cases hc : (Nat.beq u.op op && Nat.beq u.t t && req u.x x && req u.y y)
    · rw [hc] at h
      obtain ⟨u', h1, h2⟩ := ruleIn_spec h
      exact ⟨u', List.mem_cons_of_mem _ h1, h2⟩
    · rw [hc] at h; cases h
      simp only [Bool.and_eq_true] at hc
      exact ⟨u, List.mem_cons_self .., Nat.eq_of_beq_eq_true hc.1.1.1, Nat.eq_of_beq_eq_true hc.1.1.2, hc.1.2, hc.2, rfl⟩

def plainV3 : Value → Bool
  | .int _ _ | .string _ | .bool _ => true
  | _ => false

theorem req_plain {φ : Phi} {x a a' : Value} (h : req x a = true) (r : VRel φ a a') : plainV3 a' = true ∧ a' = den x := by
  unfold req at h
  split at h
  · rename_i k j
    obtain rfl := Nat.eq_of_beq_eq_true h
    cases r
    refine ⟨?_, rfl⟩
    have hp := Syms.plain k
    unfold plainV3
    exact hp
  · simp only [Bool.and_eq_true, decide_eq_true_eq] at h
    obtain ⟨rfl, rfl⟩ := h
    cases r; exact ⟨rfl, rfl⟩
  · rename_i s s'
    have e : s = s' := by
      have := of_decide_eq_true h
      cases s; cases s'; simp_all
    subst e
    cases r; exact ⟨rfl, rfl⟩
  · have e := eq_of_beq h
    subst e
    cases r; exact ⟨rfl, rfl⟩
  · cases h
theorem req_den {φ : Phi} {x a a' : Value} (h : req x a = true) (r : VRel φ a a') : a' = den x := (req_plain h r).2
omit [Syms] in
theorem eqGuard_plain {op : BinOp} {t : TypeId} {x y : Operand} {a b : Value} (h : plainV3 a = true) : eqGuard op t x y a b = pure () := by
  cases a <;> first | (cases op <;> cases b <;> rfl) | cases h
theorem okR_rel {φ : Phi} {r : Value} (h : okR r = true) : VRel φ r (den r) := by
  unfold okR at h
  split at h
  · exact .sym _
  · exact .int _ _
  · exact .string _
  · exact .bool _
  · cases h

theorem yl_bin (hC : COk C) (hρ : ERho φ ρ ev) {op : BinOp} {t ty : TypeId} {x y : Operand} {v : Value} (h : pBin C ρ op t x y = some v) : Yl C.P ev (.binOp op t x y ty) w φ v := by
  unfold pBin at h
  split at h
  · rename_i a ha
    split at h
    · rename_i b hb
      cases hs : (isSym a || isSym b)
      · rw [hs] at h; simp only [cond_false] at h
        simp only [Bool.or_eq_false_iff] at hs
        obtain ⟨v', w', h1, h2, h3⟩ := binV_sound hC w (xo := x) (yo := y) h (hρ x a ha) (hρ y b hb) hs.1 hs.2
        refine Yl.of _ ?_ h1 h2 h3
        rintro ⟨dst, op, type, pos, after, guard⟩ ho; subst ho; rfl
      · rw [hs] at h; simp only [cond_true] at h
        cases hz : Nat.beq (opIx op) 0
        · rw [hz] at h; simp only [cond_false] at h
          obtain ⟨u, hu, e1, e2, e3, e4, rfl⟩ := ruleIn_spec h
          obtain ⟨r1, r2, _⟩ := hC.rules u hu
          have d1 := req_den e3 (hρ x a ha)
          have d2 := req_den e4 (hρ y b hb)
          refine Yl.of (do eqGuard op t x y (ev x) (ev y); binOp op t (ev x) (ev y)) ?_ (v' := den u.r) (w' := w) ?_ (okR_rel r1) (.inl rfl)
          · rintro ⟨dst, op, type, pos, after, guard⟩ ho; subst ho; rfl
          · have hg : eqGuard op t x y (ev x) (ev y) = pure () := by
              obtain ⟨p1, _⟩ := req_plain e3 (hρ x a ha)
              exact eqGuard_plain p1
            rw [hg, d1, d2, ← e2]
            exact r2 op e1.symm w
        · rw [hz] at h; cases h
    · cases h
  · cases h

theorem yl_un (hρ : ERho φ ρ ev) {op : UnOp} {t : TypeId} {x : Operand} {v : Value} (h : pUn ρ op x = some v) : Yl C.P ev (.unOp op t x) w φ v := by
  unfold pUn at h
  split at h
  · rename_i k n hx
    have h1 := hρ x _ hx
    generalize he : ev x = u at h1
    cases h1
    obtain ⟨h2, h3⟩ := flatOf_spec h
    refine Yl.of' (Op.unary op (ev x)) ?_ (v' := v) ?_ (flat_rel h3)
    · rintro ⟨dst, op, type, pos, after, guard⟩ ho; subst ho; rfl
    · rw [he, h2]; rfl
  · rename_i b hx
    have h1 := hρ x _ hx
    generalize he : ev x = u at h1
    cases h1
    obtain ⟨h2, h3⟩ := flatOf_spec h
    refine Yl.of' (Op.unary op (ev x)) ?_ (v' := v) ?_ (flat_rel h3)
    · rintro ⟨dst, op, type, pos, after, guard⟩ ho; subst ho; rfl
    · rw [he, h2]; rfl
  · cases h

theorem yl_conv (hC : COk C) (hρ : ERho φ ρ ev) {s d : TypeId} {x : Operand} {v : Value} (h : pConv C ρ s d x = some v) :
    Yl C.P ev (.convert s d x) w φ v := by
  unfold pConv at h
  split at h
  · rename_i si u hs hx
    have h1 := hρ x _ hx
    cases hsy : isSym u
    case true =>
      rw [hsy] at h; simp only [cond_true] at h
      unfold symConv at h
      split at h
      · rename_i i hi
        split at h
        · rename_i hiu
          obtain ⟨ru, hu1, e1, _, e3, _, rfl⟩ := ruleIn_spec h
          obtain ⟨r1, _, _, r4⟩ := hC.rules ru hu1
          obtain ⟨k, n, d1, d2⟩ := r4 e1
          have d0 := req_den e3 h1
          refine Yl.of' (convert s d (ev x)) ?_ (v' := den ru.r) ?_ (okR_rel r1)
          · rintro ⟨dst, op, type, pos, after, guard⟩ ho; subst ho; rfl
          · rw [d0, d1, d2]
            have h2 := hC.run_und w hs
            have h3 := hC.run_und w hi
            rw [hiu] at h3
            simp only [convert, Sem.run_bind, h2, h3, Result.andThen_ok]
            cases si.u <;> rfl
        · cases h
      · cases h
    case false =>
    rw [hsy] at h; simp only [cond_false] at h
    generalize he : ev x = u' at h1
    unfold convV at h
    split at h
    · rename_i i k n hd
      cases h1
      split at h
      · rename_i k' hk
        simp only [Option.some.injEq] at h; subst h
        refine Yl.of' (convert s d (ev x)) ?_ (v' := .int k' (k'.wrap n)) ?_ (by rw [wrapF_eq]; exact .int _ _)
        · rintro ⟨dst, op, type, pos, after, guard⟩ ho; subst ho; rfl
        · rw [he]
          have h2 := hC.run_und w hs
          have h3 := hC.run_und w hd
          rw [hk] at h3
          simp only [convert, Sem.run_bind, h2, h3, Result.andThen_ok]
          cases si.u <;> rfl
      · rename_i k' hk
        simp only [Option.some.injEq] at h; subst h
        refine Yl.of' (convert s d (ev x)) ?_ (v' := .float k' (k'.nearest n)) ?_ (.float _ _ (nearest_lt k' n))
        · rintro ⟨dst, op, type, pos, after, guard⟩ ho; subst ho; rfl
        · rw [he]
          have h2 := hC.run_und w hs
          have h3 := hC.run_und w hd
          rw [hk] at h3
          simp only [convert, Sem.run_bind, h2, h3, Result.andThen_ok]
          cases si.u <;> rfl
      · cases h
    · rename_i i b hd
      cases h1
      split at h
      · rename_i hk
        simp only [Option.some.injEq] at h; subst h
        refine Yl.of' (convert s d (ev x)) ?_ (v' := .string b) ?_ (.string b)
        · rintro ⟨dst, op, type, pos, after, guard⟩ ho; subst ho; rfl
        · rw [he]
          have h2 := hC.run_und w hs
          have h3 := hC.run_und w hd
          rw [hk] at h3
          simp only [convert, Sem.run_bind, h2, h3, Result.andThen_ok]
          cases si.u <;> rfl
      · cases h
    · cases h
  · cases h

theorem yl_nil (hρ : ERho φ ρ ev) {x : Operand} {v : Value} (h : pNil ρ x = some v) : Yl C.P ev (.nilCheck x) w φ v := by
  unfold pNil at h
  split at h <;> first | (cases h; done) | skip
  all_goals
    rename_i hx
    simp only [Option.some.injEq] at h; subst h
    have h1 := hρ x _ hx
    rintro ⟨dst, op, type, pos, after, guard⟩ ho; subst ho
    refine ⟨ev x, w, ?_, h1, .inl rfl⟩
    generalize he : ev x = u at h1
    cases h1 <;> simp only [execOp, he] <;> rfl

theorem yl_fieldAddr (hC : COk C) (hρ : ERho φ ρ ev) {s : TypeId} {x : Operand} {f : Nat} {v : Value} (h : pFieldAddr C ρ s x f = some v) : Yl C.P ev (.fieldAddr s x f) w φ v := by
  unfold pFieldAddr at h
  split at h
  · rename_i fd j a hf hx
    obtain ⟨i, fs, hi, hu, hfd, hj⟩ := fieldOf_spec hf
    cases hz : Nat.beq j.size 0
    · rw [hz] at h; simp only [cond_false, Option.some.injEq] at h; subst h
      have hz' : j.size ≠ 0 := by intro e; rw [e] at hz; simp at hz
      have h1 := hρ x _ hx
      generalize he : ev x = u at h1
      cases h1 with
      | ptr b off l hl =>
        refine Yl.of' (Instr.fieldAt s (ev x) f) ?_ (v' := .pointer (some (Addr.add ⟨l.c, l.d + off, none⟩ fd.offset))) ?_ (ptr_add hl)
        · rintro ⟨dst, op, type, pos, after, guard⟩ ho; subst ho; rfl
        · rw [he]
          have h2 := hC.run_und w hi
          rw [hu] at h2
          simp only [Instr.fieldAt, Sem.run_bind, h2, Result.andThen_ok, hfd, Instr.sureAddr, Sem.run_pure, fieldPlace, hC.run_size w hj, Sem.run_ite, if_neg hz']
    · rw [hz] at h; cases h
  · cases h

theorem yl_field (hC : COk C) (hρ : ERho φ ρ ev) {s : TypeId} {x : Operand} {f : Nat} {v : Value} (h : pField C ρ s x f = some v) : Yl C.P ev (.field s x f) w φ v := by
  unfold pField at h
  split at h
  · rename_i fd j cs hf hx
    obtain ⟨i, fs, hi, hu, hfd, hj⟩ := fieldOf_spec hf
    have h1 := hρ x _ hx
    generalize he : ev x = u at h1
    cases h1 with
    | agg xs xs' hxs =>
      obtain ⟨v', h2, h3⟩ := partV_rel (xs := ⟨xs⟩) (ys := ⟨xs'⟩) hxs h
      refine Yl.of' (Instr.field s (ev x) f) ?_ (v' := v') ?_ h3
      · rintro ⟨dst, op, type, pos, after, guard⟩ ho; subst ho; rfl
      · rw [he]
        have h4 := hC.run_und w hi
        rw [hu] at h4
        simp only [Instr.field, Sem.run_bind, h4, Result.andThen_ok, hfd, asAgg, Sem.run_pure, run_part hC hj w h2]
  · cases h

theorem yl_indexAddr (hC : COk C) (hρ : ERho φ ρ ev) {t : TypeId} {x i : Operand} {v : Value} (h : pIndexAddr C ρ t x i = some v) : Yl C.P ev (.indexAddr t x i) w φ v := by
  unfold pIndexAddr at h
  split at h
  · rename_i a b hx hi
    have h1 := hρ x _ hx
    have h2 := hρ i _ hi
    unfold indexAddrV at h
    split at h
    · rename_i ti n ht hn
      obtain ⟨k, hb⟩ := natOf_rel hn h2
      have hu := hC.run_und w ht
      generalize he : ev x = u at h1
      split at h
      · rename_i len e aa hu2
        cases hlt : Nat.blt n len
        · rw [hlt] at h; cases h
        · rw [hlt] at h; simp only [cond_true] at h
          split at h
          · rename_i j hj
            simp only [Option.some.injEq] at h; subst h
            cases h1 with
            | ptr bb off l hl =>
              refine Yl.of' (Instr.indexAt t (ev x) (ev i)) ?_ (v' := .pointer (some (Addr.add ⟨l.c, l.d + off, none⟩ (n * j.size)))) ?_ (ptr_add hl)
              · rintro ⟨dst, op, type, pos, after, guard⟩ ho; subst ho; rfl
              · rw [he, hb]
                rw [hu2] at hu
                have hnl : (0 : Int) ≤ Int.ofNat n ∧ Int.ofNat n < (len : Int) := ⟨Int.natCast_nonneg _, by have := lt_of_blt hlt; simpa using this⟩
                simp only [Instr.indexAt, asIntOf, Sem.run_bind, Sem.run_pure, Result.andThen_ok, hu, Instr.sureAddr, if_pos hnl, hC.run_size w hj]
                rfl
          · cases h
      · rename_i e aa len cap hu2
        cases hlt : Nat.blt n len
        · rw [hlt] at h; cases h
        · rw [hlt] at h; simp only [cond_true] at h
          split at h
          · rename_i j hj
            simp only [Option.some.injEq] at h; subst h
            have hnl : (0 : Int) ≤ Int.ofNat n ∧ Int.ofNat n < (len : Int) := ⟨Int.natCast_nonneg _, by have := lt_of_blt hlt; simpa using this⟩
            rw [hu2] at hu
            cases h1 with
            | emp _ _ => exact absurd (lt_of_blt hlt) (Nat.not_lt_zero _)
            | slc bb off _ _ l hl hc =>
              refine Yl.of' (Instr.indexAt t (ev x) (ev i)) ?_ (v' := .pointer (some (Addr.add ⟨l.c, l.d + off, none⟩ (n * j.size)))) ?_ (ptr_add hl)
              · rintro ⟨dst, op, type, pos, after, guard⟩ ho; subst ho; rfl
              · rw [he, hb]
                simp only [Instr.indexAt, asIntOf, Sem.run_bind, Sem.run_pure, Result.andThen_ok, hu, if_pos hnl, hC.run_size w hj]
                rfl
            | opn bb off _ c' sz l hl hn' hc =>
              refine Yl.of' (Instr.indexAt t (ev x) (ev i)) ?_ (v' := .pointer (some (Addr.add ⟨l.c, l.d + off, none⟩ (n * j.size)))) ?_ (ptr_add hl)
              · rintro ⟨dst, op, type, pos, after, guard⟩ ho; subst ho; rfl
              · rw [he, hb]
                simp only [Instr.indexAt, asIntOf, Sem.run_bind, Sem.run_pure, Result.andThen_ok, hu, if_pos hnl, hC.run_size w hj]
                rfl
          · cases h
      · cases h
    · cases h
  · cases h

theorem yl_index (hC : COk C) (hρ : ERho φ ρ ev) {t : TypeId} {x i : Operand} {v : Value} (h : pIndex C ρ t x i = some v) : Yl C.P ev (.index t x i) w φ v := by
  unfold pIndex at h
  split at h
  · rename_i a b hx hi
    have h1 := hρ x _ hx
    have h2 := hρ i _ hi
    unfold indexV at h
    split at h
    · rename_i ti n ht hn
      obtain ⟨k, hb⟩ := natOf_rel hn h2
      have hu := hC.run_und w ht
      generalize he : ev x = u at h1
      split at h
      · rename_i len e cs hu2
        cases hlt : Nat.blt n len
        · rw [hlt] at h; cases h
        · rw [hlt] at h; simp only [cond_true] at h
          split at h
          · rename_i j hj
            have hnl : (0 : Int) ≤ Int.ofNat n ∧ Int.ofNat n < (len : Int) := ⟨Int.natCast_nonneg _, by have := lt_of_blt hlt; simpa using this⟩
            rw [hu2] at hu
            cases h1 with
            | agg xs xs' hxs =>
              obtain ⟨v', h3, h4⟩ := partV_rel (xs := ⟨xs⟩) (ys := ⟨xs'⟩) hxs h
              refine Yl.of' (Instr.index t (ev x) (ev i)) ?_ (v' := v') ?_ h4
              · rintro ⟨dst, op, type, pos, after, guard⟩ ho; subst ho; rfl
              · rw [he, hb]
                simp only [Instr.index, asIntOf, Sem.run_bind, Sem.run_pure, Result.andThen_ok, hu, if_pos hnl, hC.run_size w hj]
                exact run_part hC hj w h3
          · cases h
      · rename_i s hu2
        rw [hu2] at hu
        cases h1
        split at h
        · rename_i c hc
          simp only [Option.some.injEq] at h; subst h
          refine Yl.of' (Instr.index t (ev x) (ev i)) ?_ (v' := .int .u8 c.toNat) ?_ (.int _ _)
          · rintro ⟨dst, op, type, pos, after, guard⟩ ho; subst ho; rfl
          · rw [he, hb]
            have h0 : (0 : Int) ≤ Int.ofNat n := Int.natCast_nonneg _
            simp only [Instr.index, asIntOf, Sem.run_bind, Sem.run_pure, Result.andThen_ok, hu, if_pos h0]
            have : (Int.ofNat n).toNat = n := rfl
            rw [this, hc]; rfl
        · cases h
      · cases h
    · cases h
  · cases h
end
end Go.AM
