/- AM: code in order. -/
import Derived.Test.YtmohbeomlpjljaaGreatDoorAmDraw3
namespace Go.AM
open Go
variable [Syms]

/-- a loop under way -/
def wpL (P : Program) (c : Code) (Q : Exit → Act → World → Prop) (a : Act) (w : World) : Prop :=
  ∀ (b : Frame) (k : List Item) (cs : List Frame),
    ∃ e a' w', Q e a' w' ∧ Arrives P (lone (b.at a (.code c :: .inLoop c :: k)) cs w) b k cs e a' w'

omit [Syms] in
theorem wpL.wp {P : Program} {c : Code} {Q : Exit → Act → World → Prop} {a : Act} {w : World} (h : wpL P c Q a w) : (Code.loop c).wp P Q a w := by
  intro b k cs
  obtain ⟨e, a', w', q, r⟩ := h b k cs
  exact ⟨e, a', w', q, .of_steps (.one step_loop) r⟩

omit [Syms] in
theorem wpL.mono {P : Program} {c : Code} {Q Q' : Exit → Act → World → Prop} {a : Act} {w : World} (h : wpL P c Q a w) (hq : ∀ e a w, Q e a w → Q' e a w) : wpL P c Q' a w :=
  fun b k cs => let ⟨e, a', w', q, r⟩ := h b k cs; ⟨e, a', w', hq _ _ _ q, r⟩

omit [Syms] in
theorem wpL.round {P : Program} {c : Code} {Q : Exit → Act → World → Prop} {a : Act} {w : World} (h : c.wp P (Exit.then (wpL P c Q) Q) a w) : wpL P c Q a w := by
  intro b k cs
  obtain ⟨e, a₁, w₁, hq, harr⟩ := h b (.inLoop c :: k) cs
  cases e with
  | normal =>
    obtain ⟨e₂, a₂, w₂, hq₂, harr₂⟩ := hq b k cs
    exact ⟨e₂, a₂, w₂, hq₂, .of_steps (Steps.trans harr (.one step_inLoop)) harr₂⟩
  | exit id => exact ⟨_, a₁, w₁, hq, .pass (x := .inLoop c) rfl (fun _ _ => .inl (by simp)) harr⟩
  | goto l => exact ⟨_, a₁, w₁, hq, .pass (x := .inLoop c) rfl (fun _ _ => .inl (by simp)) harr⟩
  | ret => exact ⟨_, a₁, w₁, hq, .pass (x := .inLoop c) rfl (fun _ _ => .inl (by simp)) harr⟩
  | panic ch => exact ⟨_, a₁, w₁, hq, .pass (x := .inLoop c) rfl (fun _ _ => .inl (by simp)) harr⟩
  | outgrown => exact ⟨_, a₁, w₁, hq, .pass (x := .inLoop c) rfl (fun _ _ => .inl (by simp)) harr⟩

def wpC (P : Program) (c : Code) (Q : Exit → Act → World → Prop) (a : Act) (w : World) : Prop :=
  match c with
  | .loop b => wpL P b Q a w
  | c => c.wp P Q a w

omit [Syms] in
theorem wpC.wp {P : Program} {c : Code} {Q : Exit → Act → World → Prop} {a : Act} {w : World} (h : wpC P c Q a w) : c.wp P Q a w := by
  cases c <;> first | exact h | exact wpL.wp h

def SoundC (C : Ctx) (rec : Code → T Value → Heap → R) : Prop :=
  ∀ c tm H e tm' H', rec c tm H = .ok e tm' H' → ∀ φ a w, HRel C φ H w → TRel φ tm a → wpC C.P c (fun x a' w' => x = e.to ∧ After C φ a w tm' H' a' w') a w

theorem SoundC.sound {C : Ctx} {rec : Code → T Value → Heap → R} (h : SoundC C rec) : Sound C rec :=
  fun c tm H e tm' H' hr φ a w hH hT => (h c tm H e tm' H' hr φ a w hH hT).wp

theorem code_sound {C : Ctx} (hC : COk C) (hP : ∀ n, PrimOk (C.from n)) {rec : Code → T Value → Heap → R} (hS : ∀ n, SoundC (C.from n) rec) : SoundC C (codeF C rec) := by
  intro c tm H e tm' H' h φ a w hH hT
  have hSC : SoundC C rec := hS C.lo
  have hS' := hSC.sound
  have hall : ∀ n, RecOk (C.from n) (callF C rec) := fun n => by
    have := call_sound (hC.from n) (hP n) (hS n).sound
    rw [callF_from] at this; exact this
  have hrec : RecOk C (callF C rec) := hall C.lo
  cases c with
  | skip =>
    have h : R.ok .normal tm H = .ok e tm' H' := h
    cases h
    exact wp_skip ⟨rfl, After.refl hH hT⟩
  | label l =>
    have h : R.ok .normal tm H = .ok e tm' H' := h
    cases h
    exact wp_label ⟨rfl, After.refl hH hT⟩
  | region id ops draw =>
    cases draw with
    | true => exact draw_ok hC hall ops h id hH hT
    | false =>
      have h : opsF C (callF C rec) ops.toList ops.toList tm H = .ok e tm' H' := h
      have he := ops_normal _ _ _ _ _ _ h
      subst he
      refine wp_region ?_
      rw [List.range_eq_range', ← Array.length_toList]
      exact (ops_sound hC hrec ops.toList 0 rfl _ _ _ _ _ h φ a w hH hT _ (fun a' w' ha => ⟨rfl, ha⟩)).2
  | seq x y =>
    have h : (match rec x tm H with | .ok .normal tm H => rec y tm H | r => r) = .ok e tm' H' := h
    refine wp_seq ?_
    split at h
    · rename_i tm1 H1 hx
      refine wp_mono (hS' _ _ _ _ _ _ hx φ a w hH hT) ?_
      rintro e1 a1 w1 ⟨rfl, φ1, hext, hH1, hT1, hd⟩
      refine wp_mono (hS' _ _ _ _ _ _ h φ1 a1 w1 hH1 hT1) ?_
      rintro e2 a2 w2 ⟨rfl, hafter⟩
      exact ⟨rfl, After.trans hext hd hafter⟩
    · rename_i hne
      refine wp_mono (hS' _ _ _ _ _ _ h φ a w hH hT) ?_
      rintro e1 a1 w1 ⟨rfl, hafter⟩
      cases e with
      | normal => exact absurd h (hne _ _)
      | exit i => exact ⟨rfl, hafter⟩
      | ret => exact ⟨rfl, hafter⟩
  | cond c x y =>
    have h : (match evT C.base tm c with | some (.bool true) => rec x tm H | some (.bool false) => rec y tm H | _ => .bad) = .ok e tm' H' := h
    split at h
    · rename_i hc
      have := hT.rho hH _ _ hc
      cases hv : a.eval c with
      | bool t => rw [hv] at this; cases this; exact wp_cond_true hv (hS' _ _ _ _ _ _ h φ a w hH hT)
      | _ => rw [hv] at this; cases this
    · rename_i hc
      have := hT.rho hH _ _ hc
      cases hv : a.eval c with
      | bool t => rw [hv] at this; cases this; exact wp_cond_false hv (hS' _ _ _ _ _ _ h φ a w hH hT)
      | _ => rw [hv] at this; cases this
    · cases h
  | block id b =>
    have h : (match rec b tm H with
      | .ok (.exit i) tm H => bif i.beq id then .ok .normal tm H else .ok (.exit i) tm H
      | r => r) = R.ok e tm' H' := h
    refine wp_block ?_
    split at h
    · rename_i i tm1 H1 hx
      refine wp_mono (hS' _ _ _ _ _ _ hx φ a w hH hT) ?_
      rintro e1 a1 w1 ⟨rfl, hafter⟩
      show (if i = id then _ else _)
      cases hi : i.beq id
      · rw [hi] at h; cases h
        have : i ≠ id := by intro e; subst e; simp at hi
        rw [if_neg this]; exact ⟨rfl, hafter⟩
      · rw [hi] at h; cases h
        have : i = id := Nat.eq_of_beq_eq_true hi
        rw [if_pos this]; exact ⟨rfl, hafter⟩
    · rename_i hne
      refine wp_mono (hS' _ _ _ _ _ _ h φ a w hH hT) ?_
      rintro e1 a1 w1 ⟨rfl, hafter⟩
      cases e with
      | normal => exact ⟨rfl, hafter⟩
      | exit i => exact absurd h (hne _ _ _)
      | ret => exact ⟨rfl, hafter⟩
  | loop b =>
    have h : (match rec b tm H with | .ok .normal tm H => rec (.loop b) tm H | r => r) = .ok e tm' H' := h
    refine wpL.round ?_
    split at h
    · rename_i tm1 H1 hx
      refine wp_mono (hS' _ _ _ _ _ _ hx φ a w hH hT) ?_
      rintro e1 a1 w1 ⟨rfl, φ1, hext, hH1, hT1, hd⟩
      refine wpL.mono (hSC _ _ _ _ _ _ h φ1 a1 w1 hH1 hT1) ?_
      rintro e2 a2 w2 ⟨rfl, hafter⟩
      exact ⟨rfl, After.trans hext hd hafter⟩
    · rename_i hne
      refine wp_mono (hS' _ _ _ _ _ _ h φ a w hH hT) ?_
      rintro e1 a1 w1 ⟨rfl, hafter⟩
      cases e with
      | normal => exact absurd h (hne _ _)
      | exit i => exact ⟨rfl, hafter⟩
      | ret => exact ⟨rfl, hafter⟩
  | exit id =>
    have h : R.ok (.exit id) tm H = .ok e tm' H' := h
    cases h
    exact wp_exit ⟨rfl, After.refl hH hT⟩
  | ret =>
    have h : R.ok .ret tm H = .ok e tm' H' := h
    cases h
    exact wp_ret ⟨rfl, After.refl hH hT⟩
  | _ => cases h

theorem run_sound {C : Ctx} (hC : COk C) (hP : ∀ n, PrimOk (C.from n)) : ∀ m n, SoundC (C.from n) (run C m)
  | 0, n => by intro c tm H e tm' H' h; cases h
  | m + 1, n => by
    have := code_sound (hC.from n) (fun k => hP k) (rec := run C m) (fun k => run_sound hC hP m k)
    rw [codeF_from] at this; exact this

/-- what the machine answers, the program answers -/
theorem call_calls {C : Ctx} (hC : COk C) (hP : ∀ n, PrimOk (C.from n)) (n : Nat) : RecOk C (call C n) :=
  call_sound hC (hP C.lo) (run_sound hC hP n C.lo).sound
end Go.AM
