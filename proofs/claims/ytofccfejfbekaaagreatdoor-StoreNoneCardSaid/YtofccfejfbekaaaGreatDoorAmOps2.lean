/- AM: the operations that do not look at the heap: each does what the model does. -/
import Derived.Test.YtofccfejfbekaaaGreatDoorAmOps1
namespace Go.AM
open Go

def Yl (P : Program) (ev : Operand → Value) (op : Op) (w : World) (φ : Phi) (v : Value) : Prop :=
  ∀ o : Oper, o.op = op → ∃ v' w', (execOp ev o).run P w = Result.ok (.value v') w' ∧ VRel φ v v' ∧ (w' = w ∨ w' = w.drew)

/-- by the run of the value alone -/
theorem Yl.of {P : Program} {ev : Operand → Value} {op : Op} {w : World} {φ : Phi} {v : Value} (s : Sem Value)
    (he : ∀ o : Oper, o.op = op → execOp ev o = (do pure (.value (← s)))) {v' : Value} {w' : World} (hs : s.run P w = Result.ok v' w') (hv : VRel φ v v') (hw : w' = w ∨ w' = w.drew) :
    Yl P ev op w φ v := by
  intro o ho
  refine ⟨v', w', ?_, hv, hw⟩
  rw [he o ho]
  simp [hs]

theorem Yl.of' {P : Program} {ev : Operand → Value} {op : Op} {w : World} {φ : Phi} {v : Value} (s : Sem Value)
    (he : ∀ o : Oper, o.op = op → execOp ev o = (do pure (.value (← s)))) {v' : Value} (hs : s.run P w = Result.ok v' w) (hv : VRel φ v v') :
    Yl P ev op w φ v := Yl.of s he hs hv (.inl rfl)

theorem blt_of {a b : Nat} (h : a < b) : Nat.blt a b = true := Nat.ble_eq_true_of_le h
theorem lt_of_blt {a b : Nat} (h : Nat.blt a b = true) : a < b := Nat.le_of_ble_eq_true h

theorem nan_read (b : Nat) (h : 9218868437227405312 < b % 9223372036854775808) : ∃ s t, FloatKind.f64.format.read b = .nan s t := by
  have e1 : Ieee.double.signWeight = 9223372036854775808 := by decide +kernel
  have e2 : Ieee.double.infRung = 9218868437227405312 := by decide +kernel
  have e3 : Ieee.double.binade = 4503599627370496 := by decide +kernel
  refine ⟨b / Ieee.double.signWeight % 2 == 1, b % Ieee.double.signWeight - Ieee.double.infRung, ?_⟩
  show Ieee.double.read b = _
  unfold Ieee.Format.read
  simp only [e1, e2, e3]
  rw [if_neg (by omega), if_neg (by omega), if_neg (by omega)]

theorem nanish (b : Nat) (h : 9218868437227405312 < b % 9223372036854775808) : NaNish b := by
  obtain ⟨s, t, hr⟩ := nan_read b h
  intro y
  constructor
  · show (FloatKind.f64.format.read b).order (FloatKind.f64.format.read y) = none
    rw [hr]; rfl
  · show (FloatKind.f64.format.read y).order (FloatKind.f64.format.read b) = none
    rw [hr]; cases FloatKind.f64.format.read y <;> rfl

theorem nan_cut (x y t : Nat) : NaNish ((Question.nanBits .f64 x y).cut t) := by
  refine nanish _ ?_
  show 9218868437227405312 < ((t % 2) * 2 ^ 63 + 0x7ff0000000000000 + 1 + (t / 2) % (2 ^ 52 - 1)) % 9223372036854775808
  have h1 : t / 2 % (2 ^ 52 - 1) < 2 ^ 52 - 1 := Nat.mod_lt _ (by decide)
  have h2 : t % 2 = 0 ∨ t % 2 = 1 := by omega
  generalize t / 2 % (2 ^ 52 - 1) = r at h1 ⊢
  rcases h2 with e | e <;> rw [e] <;> omega

theorem flatOf_spec {s : Sem Value} {v : Value} (h : flatOf s = some v) : s = .pure v ∧ flat v = true := by
  unfold flatOf at h
  split at h
  · rename_i u
    cases hf : flat u
    · rw [hf] at h; cases h
    · rw [hf] at h; simp only [cond_true, Option.some.injEq] at h; subst h; exact ⟨rfl, hf⟩
  · cases h

theorem floatCmp_nan (op : BinOp) (x y : Nat) (h : FloatKind.f64.format.order x y = none) (b : Value) :
    ((match op with | .eql | .lss | .leq | .gtr | .geq => some (Value.bool false) | .neq => some (.bool true) | _ => none : Option Value) = some b → Op.floatCmp op .f64 x y = .pure b) := by
  intro hb
  cases op <;> simp at hb <;> subst hb <;> simp [Op.floatCmp, h] <;> rfl

theorem floatV_sound {P : Program} {φ : Phi} {op : BinOp} {t : TypeId} {k k' : FloatKind} {a b : Nat} {x' y' : Value} {v : Value} (h : floatV op k a k' b = some v)
    (hx : VRel φ (.float k a) x') (hy : VRel φ (.float k' b) y') (w : World) :
    ∃ v' w', (binOp op t x' y').run P w = Result.ok v' w' ∧ VRel φ v v' ∧ (w' = w ∨ w' = w.drew) := by
  unfold floatV at h
  split at h
  · cases h
  · rename_i hk
    have hk1 : k = k' := by by_cases e : k = k' <;> simp_all
    have hk2 : k = .f64 := by by_cases e : k = .f64 <;> simp_all
    subst hk1; subst hk2
    cases hc : (Nat.blt a NANB && Nat.blt b NANB)
    · rw [hc] at h; simp only [cond_false] at h
      have hn : ∃ x1 y1, x' = .float .f64 x1 ∧ y' = .float .f64 y1 ∧ FloatKind.f64.format.order x1 y1 = none := by
        cases hx with
        | float _ _ hlt =>
          cases hy with
          | float _ _ hlt2 =>
            have e1 : Nat.blt a NANB = true := blt_of hlt
            have e2 : Nat.blt b NANB = true := blt_of hlt2
            rw [e1, e2] at hc; cases hc
          | nan b1 hb1 => exact ⟨_, _, rfl, rfl, (hb1 a).2⟩
        | nan b1 hb1 =>
          cases hy with
          | float => exact ⟨_, _, rfl, rfl, (hb1 _).1⟩
          | nan b2 hb2 => exact ⟨_, _, rfl, rfl, (hb1 _).1⟩
      obtain ⟨x1, y1, rfl, rfl, ho⟩ := hn
      refine ⟨v, w, ?_, ?_, .inl rfl⟩
      · have := floatCmp_nan op x1 y1 ho v h
        have hb : binOp op t (.float .f64 x1) (.float .f64 y1) = Op.floatCmp op .f64 x1 y1 := by cases op <;> first | (simp [binOp]; done) | (simp at h)
        rw [hb, this]; rfl
      · cases op <;> simp at h <;> subst h <;> exact .bool _
    · rw [hc] at h; simp only [cond_true, Bool.and_eq_true] at h hc
      have ha : a < NANB := lt_of_blt hc.1
      have hb : b < NANB := lt_of_blt hc.2
      have hx' : x' = .float .f64 a := by cases hx with | float => rfl | nan => simp [NANB] at ha
      have hy' : y' = .float .f64 b := by cases hy with | float => rfl | nan => simp [NANB] at hb
      subst hx'; subst hy'
      have key : ∀ (r : Option Nat), (match r with | some v => flatOf (.pure (.float .f64 v)) | none => some (.float .f64 NANB)) = some v →
          ∃ v' w', (match r with | some r => (pure (.float .f64 r) : Sem Value) | none => do pure (.float .f64 (← choose (.nanBits .f64 a b)))).run P w = Result.ok v' w' ∧ VRel φ v v' ∧ (w' = w ∨ w' = w.drew) := by
        intro r hr
        cases r with
        | some r =>
          obtain ⟨h1, h2⟩ := flatOf_spec hr
          have : v = .float .f64 r := by injection h1 with h1; exact h1.symm
          subst this
          exact ⟨_, w, rfl, flat_rel h2, .inl rfl⟩
        | none =>
          simp only [Option.some.injEq] at hr; subst hr
          exact ⟨_, _, rfl, .nan _ (nan_cut a b _), .inr rfl⟩
      cases op <;> dsimp only at h
      all_goals first
        | (obtain ⟨v', w', hrun, hr⟩ := key _ h
           refine ⟨v', w', ?_, hr⟩
           simp only [binOp, Op.floatArith, ne_eq, not_true_eq_false, if_false]
           exact hrun)
        | (obtain ⟨h1, h2⟩ := flatOf_spec h
           refine ⟨v, w, ?_, flat_rel h2, .inl rfl⟩
           simp only [binOp, ne_eq, not_true_eq_false, if_false]
           rw [h1]; rfl)
end Go.AM
