/- AM: the operations that do not look at the heap, on. -/
import Derived.Test.YtofccfejfbekaaaGreatDoorAmOps2
namespace Go.AM
open Go

section
variable {C : Ctx} (hC : COk C) {φ : Phi} (w : World)
include hC

theorem guard_run {op : BinOp} {t : TypeId} {xo yo : Operand} {x' y' : Value} {i : TI} (hi : C.tyOf t = some i)
    (hn : ¬ (x' = .nilIface ∧ y' = .nilIface)) (ha : ∀ a b, x' = .agg a → y' = .agg b → i.eqG = false) :
    (eqGuard op t xo yo x' y').run C.P w = Result.ok () w := by
  cases x' with
  | nilIface => cases y' <;> first | (exact absurd ⟨rfl, rfl⟩ hn) | (cases op <;> rfl)
  | agg a =>
    cases y' with
    | agg b =>
      obtain ⟨_, _, _, _, _, _, hg, _⟩ := TI.of_spec (hC.ty t i hi)
      exact run_eqGuard_agg w op t xo yo a b (by rw [← hg]; exact ha a b rfl rfl)
    | _ => cases op <;> rfl
  | _ => cases op <;> rfl

theorem binV_sound {op : BinOp} {t : TypeId} {xo yo : Operand} {x y x' y' v : Value} (h : binV C op t x y = some v) (hx : VRel φ x x') (hy : VRel φ y y') :
    ∃ v' w', ((do eqGuard op t xo yo x' y'; binOp op t x' y') : Sem Value).run C.P w = Result.ok v' w' ∧ VRel φ v v' ∧ (w' = w ∨ w' = w.drew) := by
  unfold binV at h
  split at h
  · rename_i k a k' b
    cases hx; cases hy
    have hg : eqGuard op t xo yo (.int k a) (.int k' b) = pure () := by cases op <;> rfl
    have key : binOp op t (.int k a) (.int k' b) = .pure v ∧ VRel φ v v := by
      have flatr : ∀ u : Value, (∃ j m, u = .int j m) ∨ (∃ c, u = .bool c) → VRel φ u u := by
        rintro u (⟨j, m, rfl⟩ | ⟨c, rfl⟩)
        · exact .int _ _
        · exact .bool _
      split at h
      · have := shiftV_spec .shl (.inl rfl) k k' a b t v h
        refine ⟨this, flatr v ?_⟩
        unfold shiftV at h
        split at h
        · simp only [Option.some.injEq] at h; exact .inl ⟨_, _, h.symm⟩
        · simp only [Option.some.injEq] at h; exact .inl ⟨_, _, h.symm⟩
        · split at h
          · rename_i hs
            simp only [Option.some.injEq] at h; subst h
            unfold Op.shift at hs
            split at hs
            · cases hs
            · cases hs; exact .inl ⟨_, _, rfl⟩
          · cases h
      · have := shiftV_spec .shr (.inr rfl) k k' a b t v h
        refine ⟨this, flatr v ?_⟩
        unfold shiftV at h
        split at h
        · simp only [Option.some.injEq] at h; exact .inl ⟨_, _, h.symm⟩
        · simp only [Option.some.injEq] at h; exact .inl ⟨_, _, h.symm⟩
        · split at h
          · rename_i hs
            simp only [Option.some.injEq] at h; subst h
            unfold Op.shift at hs
            split at hs
            · cases hs
            · cases hs; exact .inl ⟨_, _, rfl⟩
          · cases h
      · rename_i h1 h2
        split at h
        · rename_i hk; subst hk
          refine ⟨intV_spec op h1 h2 k a b t v h, flatr v ?_⟩
          unfold intV at h
          split at h <;> first
            | (simp only [Option.some.injEq] at h; exact .inl ⟨_, _, h.symm⟩)
            | (simp only [Option.some.injEq] at h; exact .inr ⟨_, h.symm⟩)
            | (rename_i m n; cases hn : Nat.beq n 0 <;> rw [hn] at h <;> simp only [cond_true, cond_false] at h
               · simp only [Option.some.injEq] at h; exact .inl ⟨_, _, h.symm⟩
               · cases h)
            | skip
          split at h
          · rename_i hs
            simp only [Option.some.injEq] at h; subst h
            split at hs
            all_goals first
              | (unfold Op.intBits at hs; cases hs; exact .inl ⟨_, _, rfl⟩)
              | (unfold Op.intDiv at hs; split at hs
                 · cases hs
                 · cases hs; exact .inl ⟨_, _, rfl⟩)
              | (unfold Op.intCmp at hs; split at hs <;> first | (cases hs; exact .inr ⟨_, rfl⟩) | cases hs)
          · cases h
        · cases h
    refine ⟨v, w, ?_, key.2, .inl rfl⟩
    rw [hg, key.1]; rfl
  · rename_i k a k' b
    obtain ⟨v', w', h1, h2⟩ := floatV_sound (P := C.P) (t := t) h hx hy w
    refine ⟨v', w', ?_, h2⟩
    have hg : ∃ k2 b2, x' = .float k2 b2 := by cases hx <;> exact ⟨_, _, rfl⟩
    obtain ⟨k2, b2, rfl⟩ := hg
    have hg : eqGuard op t xo yo (.float k2 b2) y' = pure () := by cases op <;> rfl
    rw [hg]
    exact h1
  · rename_i a b
    cases hx; cases hy
    obtain ⟨h1, h2⟩ := flatOf_spec h
    have hg : eqGuard op t xo yo (.string a) (.string b) = pure () := by cases op <;> rfl
    refine ⟨v, w, ?_, flat_rel h2, .inl rfl⟩
    rw [hg]
    have : binOp op t (.string a) (.string b) = Op.stringOp op a b := by cases op <;> rfl
    rw [this, h1]; rfl
  · rename_i n1 n2 n3
    split at h
    · cases h
    · rename_i i hi
      cases hc : (i.eqG && isAggV x)
      · rw [hc] at h; simp only [cond_false] at h
        have hgd : (∃ b, eqV C 12 t x y = some b) → (eqGuard op t xo yo x' y').run C.P w = Result.ok () w := by
          rintro ⟨b, hb⟩
          refine guard_run hC w hi ?_ ?_
          · rintro ⟨rfl, rfl⟩
            cases hx; cases hy
            simp [eqV, hi] at hb
          · rintro a b rfl rfl
            cases hx
            have hc2 : (i.eqG && true) = false := hc
            simpa using hc2
        have hnum : ∀ o2, (o2 = BinOp.eql ∨ o2 = .neq) → ∀ b, eqV C 12 t x y = some b →
            binOp o2 t x' y' = (match o2 with | .eql => do pure (.bool (← Op.equal t x' y')) | _ => do pure (.bool (!(← Op.equal t x' y')))) := by
          intro o2 ho b hb
          rcases ho with rfl | rfl <;>
          (cases hx <;> cases hy <;> first | rfl | (exfalso; exact n1 _ _ _ _ rfl rfl) | (exfalso; exact n2 _ _ _ _ rfl rfl) | (exfalso; exact n3 _ _ rfl rfl))
        split at h
        · split at h
          · rename_i b hb
            simp only [Option.some.injEq] at h; subst h
            refine ⟨.bool b, w, ?_, .bool b, .inl rfl⟩
            rw [Sem.run_bind, hgd ⟨b, hb⟩, Result.andThen_ok, hnum .eql (.inl rfl) b hb]
            simp only [Sem.run_bind, Op.equal]
            rw [eqV_sound hC 12 Op.maxDepth (by decide) t x y x' y' b hb hx hy w]
            rfl
          · cases h
        · split at h
          · rename_i b hb
            simp only [Option.some.injEq] at h; subst h
            refine ⟨.bool (!b), w, ?_, .bool _, .inl rfl⟩
            rw [Sem.run_bind, hgd ⟨b, hb⟩, Result.andThen_ok, hnum .neq (.inr rfl) b hb]
            simp only [Sem.run_bind, Op.equal]
            rw [eqV_sound hC 12 Op.maxDepth (by decide) t x y x' y' b hb hx hy w]
            rfl
          · cases h
        · cases h
      · rw [hc] at h; cases h
end
end Go.AM
