/- AM: the machine's way through a region, step by step. -/
import Derived.Test.YtofccfejfbekaaaGreatDoorAmOrder
namespace Go.AM
open Go

abbrev St := T Value × Heap

def StepOk (C : Ctx) (rec : Rec) (all : List Oper) (rs : List Rd) (ns : List Nd) (i : Nat) (s s' : St) : Prop :=
  ∃ o, all[i]? = some o ∧
    ((guardOk all s.1 o = some false ∧ s'.1 = put s.1 o.dst undef ∧ s'.2 = s.2) ∨
     (guardOk all s.1 o = some true ∧ ∃ v, s'.1 = put s.1 o.dst v ∧
      ((sort3 C o.op = .p ∧ opP C (evR C.base (looks all o) s.1) o.op = some v ∧ s'.2 = s.2) ∨
       (sort3 C o.op = .r ∧ opR C (evR C.base (looks all o) s.1) s.2 o.op = some v ∧ s'.2 = s.2 ∧ ⟨i, o, s.1, v⟩ ∈ rs) ∨
       (sort3 C o.op = .a ∧ allocB C (evR C.base (looks all o) s.1) s.2 o.op = some (v, s'.2) ∧ ∃ x, s'.2.blk s.2.n = some x ∧ ⟨i, s.2.n, x⟩ ∈ ns) ∨
       (sort3 C o.op = .b ∧ opB C rec (evR C.base (looks all o) s.1) s.2 o.op = some (v, s'.2)))))

def Traced (C : Ctx) (rec : Rec) (all : List Oper) (hs : List Hd) (rs : List Rd) (ns : List Nd) (σ : List Nat) (l : Option Nat) (s s' : St) : Prop :=
  ∃ f : Nat → St, f 0 = s ∧ f σ.length = s' ∧ (∀ (k i : Nat), σ[k]? = some i → StepOk C rec all rs ns i (f k) (f (k + 1))) ∧
    ∀ K : Nat, K ≤ σ.length → (K = σ.length ∨ ∃ i, σ[K]? = some i ∧ isB C all i = true) →
      ∃ h ∈ hs, h.H = (f K).2 ∧ h.c = σ[K]? ∧ ∀ j, h.l = some j → l = some j ∨ ∃ k : Nat, k < K ∧ σ[k]? = some j ∧ isB C all j = true

theorem Traced.cons {C : Ctx} {rec : Rec} {all : List Oper} {hs : List Hd} {rs : List Rd} {ns : List Nd} {i : Nat} {σ : List Nat} {l l1 : Option Nat} {s s1 s' : St}
    (h1 : StepOk C rec all rs ns i s s1) (h2 : Traced C rec all hs rs ns σ l1 s1 s')
    (h3 : (isB C all i = true ∧ l1 = some i ∧ ⟨l, some i, s.2⟩ ∈ hs) ∨ (isB C all i = false ∧ l1 = l)) : Traced C rec all hs rs ns (i :: σ) l s s' := by
  obtain ⟨f, f0, fe, fs, fh⟩ := h2
  refine ⟨fun k => match k with | 0 => s | k + 1 => f k, rfl, fe, ?_, ?_⟩
  · intro k j hk
    cases k with
    | zero => simp at hk; subst hk; show StepOk C rec all rs ns i s (f 0); rw [f0]; exact h1
    | succ k => exact fs k j (by simpa using hk)
  · intro K hK hb
    cases K with
    | zero =>
      rcases hb with hb | ⟨j, hj, hb⟩
      · simp at hb
      · simp at hj; subst hj
        rcases h3 with ⟨_, _, hm⟩ | ⟨h3, _⟩
        · exact ⟨_, hm, rfl, rfl, fun j hj => .inl hj⟩
        · rw [h3] at hb; cases hb
    | succ K =>
      obtain ⟨h, hm, e1, e2, e3⟩ := fh K (by simpa using hK) (by
        rcases hb with hb | ⟨j, hj, hb⟩
        · exact .inl (by simpa using hb)
        · exact .inr ⟨j, by simpa using hj, hb⟩)
      refine ⟨h, hm, e1, by simpa using e2, ?_⟩
      intro j hj
      rcases e3 j hj with e | ⟨k, hk, e4, e5⟩
      · rcases h3 with ⟨g1, g2, _⟩ | ⟨_, g2⟩
        · rw [g2] at e; cases e
          exact .inr ⟨0, by omega, rfl, g1⟩
        · exact .inl (g2 ▸ e)
      · exact .inr ⟨k + 1, by omega, by simpa using e4, e5⟩

theorem isB_sort {C : Ctx} {all : List Oper} {i : Nat} {o : Oper} (h : all[i]? = some o) : (isB C all i = true ↔ sort3 C o.op = .b) ∧ (isAt C all i = true ↔ sort3 C o.op = .a) := by
  unfold isB isAt
  rw [h]; dsimp only
  cases sort3 C o.op <;> simp

theorem drawGo_trace {C : Ctx} {rec : Rec} {all : List Oper} {s' : St} {hs' : List Hd} {rs' : List Rd} {ns' : List Nd} : ∀ (σ : List Nat) tm H l hs rs ns,
    drawGo C rec all σ tm H l hs rs ns = some (s'.1, s'.2, hs', rs', ns') →
    (∀ x ∈ hs, x ∈ hs') ∧ (∀ x ∈ rs, x ∈ rs') ∧ (∀ x ∈ ns, x ∈ ns') ∧ Traced C rec all hs' rs' ns' σ l (tm, H) s'
  | [], tm, H, l, hs, rs, ns, h => by
    simp only [drawGo, Option.some.injEq, Prod.mk.injEq] at h
    obtain ⟨e1, e2, rfl, rfl, rfl⟩ := h
    refine ⟨fun x hx => by simp [hx], fun x hx => hx, fun x hx => hx, fun _ => (tm, H), rfl, by show (tm, H) = s'; rw [e1, e2], ?_, ?_⟩
    · intro k i hk; simp at hk
    · intro K hK _
      exact ⟨⟨l, none, H⟩, by simp, rfl, by simp, fun j hj => .inl hj⟩
  | i :: σ, tm, H, l, hs, rs, ns, h => by
    unfold drawGo at h
    split at h
    · cases h
    · rename_i o ho
      have hB := (isB_sort (C := C) ho).1
      split at h
      · cases h
      · rename_i hg
        cases hb : isB C all i
        · rw [hb] at h; simp only [cond_false] at h
          obtain ⟨a1, a2, a3, a4⟩ := drawGo_trace σ _ _ _ _ _ _ h
          exact ⟨a1, a2, a3, Traced.cons (s1 := (put tm o.dst undef, H)) ⟨o, ho, .inl ⟨hg, rfl, rfl⟩⟩ a4 (.inr ⟨hb, rfl⟩)⟩
        · rw [hb] at h; simp only [cond_true] at h
          obtain ⟨a1, a2, a3, a4⟩ := drawGo_trace σ _ _ _ _ _ _ h
          exact ⟨fun x hx => a1 x (by simp [hx]), a2, a3, Traced.cons (s1 := (put tm o.dst undef, H)) ⟨o, ho, .inl ⟨hg, rfl, rfl⟩⟩ a4 (.inl ⟨hb, rfl, a1 _ (by simp)⟩)⟩
      · rename_i hg
        split at h
        · rename_i hs3
          have hb : isB C all i = false := by cases hb : isB C all i with | false => rfl | true => rw [hB.1 hb] at hs3; cases hs3
          split at h
          · rename_i v hv
            obtain ⟨a1, a2, a3, a4⟩ := drawGo_trace σ _ _ _ _ _ _ h
            exact ⟨a1, a2, a3, Traced.cons (s1 := (put tm o.dst v, H)) ⟨o, ho, .inr ⟨hg, v, rfl, .inl ⟨hs3, hv, rfl⟩⟩⟩ a4 (.inr ⟨hb, rfl⟩)⟩
          · cases h
        · rename_i hs3
          have hb : isB C all i = false := by cases hb : isB C all i with | false => rfl | true => rw [hB.1 hb] at hs3; cases hs3
          split at h
          · rename_i v hv
            obtain ⟨a1, a2, a3, a4⟩ := drawGo_trace σ _ _ _ _ _ _ h
            exact ⟨a1, fun x hx => a2 x (by simp [hx]), a3, Traced.cons (s1 := (put tm o.dst v, H)) ⟨o, ho, .inr ⟨hg, v, rfl, .inr (.inl ⟨hs3, hv, rfl, a2 _ (by simp)⟩)⟩⟩ a4 (.inr ⟨hb, rfl⟩)⟩
          · cases h
        · rename_i hs3
          have hb : isB C all i = false := by cases hb : isB C all i with | false => rfl | true => rw [hB.1 hb] at hs3; cases hs3
          split at h
          · rename_i v H1 hv
            split at h
            · rename_i x hx
              obtain ⟨a1, a2, a3, a4⟩ := drawGo_trace σ _ _ _ _ _ _ h
              exact ⟨a1, a2, fun x hx => a3 x (by simp [hx]), Traced.cons (s1 := (put tm o.dst v, H1)) ⟨o, ho, .inr ⟨hg, v, rfl, .inr (.inr (.inl ⟨hs3, hv, x, hx, a3 _ (by simp)⟩))⟩⟩ a4 (.inr ⟨hb, rfl⟩)⟩
            · cases h
          · cases h
        · rename_i hs3
          have hb : isB C all i = true := hB.2 hs3
          split at h
          · rename_i v H1 hv
            obtain ⟨a1, a2, a3, a4⟩ := drawGo_trace σ _ _ _ _ _ _ h
            exact ⟨fun x hx => a1 x (by simp [hx]), a2, a3, Traced.cons (s1 := (put tm o.dst v, H1)) ⟨o, ho, .inr ⟨hg, v, rfl, .inr (.inr (.inr ⟨hs3, hv⟩))⟩⟩ a4 (.inl ⟨hb, rfl, a1 _ (by simp)⟩)⟩
          · cases h

theorem allocB_new {C : Ctx} {ρ : Env} {H H' : Heap} {o : Op} {v : Value} (h : allocB C ρ H o = some (v, H')) : ∃ b x, H.new x = some (b, H') := by
  have hp : ∀ {x v}, newP H x = some (v, H') → ∃ b x, H.new x = some (b, H') := by
    intro x v h
    obtain ⟨b, h1, _⟩ := newP_spec h
    exact ⟨b, x, h1⟩
  unfold allocB at h
  split at h
  · split at h
    · split at h
      · exact hp h
      · cases h
    · cases h
  · split at h
    · exact hp h
    · cases h
  · repeat' (split at h)
    all_goals first
      | (cases h; done)
      | (rename_i hn; rw [Bool.cond_eq_ite] at h; split at h <;> first
          | (cases h; done)
          | (simp only [Option.some.injEq, Prod.mk.injEq] at h; obtain ⟨rfl, rfl⟩ := h; exact ⟨_, _, hn⟩))
      | (rw [Bool.cond_eq_ite] at h; split at h <;> cases h)
  · split at h
    · rename_i hn
      simp only [Option.some.injEq, Prod.mk.injEq] at h; obtain ⟨rfl, rfl⟩ := h
      exact ⟨_, _, hn⟩
    · cases h
  · repeat' (split at h)
    all_goals first
      | (cases h; done)
      | (rename_i hn; rw [Bool.cond_eq_ite] at h; split at h <;> first
          | (cases h; done)
          | (simp only [Option.some.injEq, Prod.mk.injEq] at h; obtain ⟨rfl, rfl⟩ := h; exact ⟨_, _, hn⟩))
      | (rw [Bool.cond_eq_ite] at h; split at h <;> cases h)
  · cases h

theorem Heap.new_n {H H' : Heap} {x : Blk} {b : Nat} (h : H.new x = some (b, H')) : b = H.n ∧ H'.n = H.n + 1 := by
  unfold Heap.new at h
  cases hb : Nat.blt H.n LIMIT
  · rw [hb] at h; cases h
  · rw [hb] at h; simp only [cond_true, Option.some.injEq, Prod.mk.injEq] at h
    obtain ⟨rfl, rfl⟩ := h
    exact ⟨rfl, rfl⟩

/-- a step that does not write: the heap is as it was, or has a block more -/
theorem StepOk.still {C : Ctx} {rec : Rec} {all : List Oper} {rs : List Rd} {ns : List Nd} {i : Nat} {s s' : St} (h : StepOk C rec all rs ns i s s') (hb : isB C all i = false) :
    s'.2 = s.2 ∨ ∃ b x, s.2.new x = some (b, s'.2) := by
  obtain ⟨o, ho, h⟩ := h
  have hB := (isB_sort (C := C) ho).1
  rcases h with ⟨_, _, h⟩ | ⟨_, v, _, h | h | h | h⟩
  · exact .inl h
  · exact .inl h.2.2
  · exact .inl h.2.2.1
  · exact .inr (allocB_new h.2.1)
  · rw [hB.2 h.1] at hb; cases hb

theorem StepOk.puts {C : Ctx} {rec : Rec} {all : List Oper} {rs : List Rd} {ns : List Nd} {i : Nat} {s s' : St} (h : StepOk C rec all rs ns i s s') :
    ∃ o v, all[i]? = some o ∧ s'.1 = put s.1 o.dst v := by
  obtain ⟨o, ho, h⟩ := h
  rcases h with ⟨_, h, _⟩ | ⟨_, v, h, _⟩
  · exact ⟨o, _, ho, h⟩
  · exact ⟨o, v, ho, h⟩
end Go.AM
