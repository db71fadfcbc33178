/- AM: a region that draws its order. -/
import Derived.Test.YtmohbeomlpjljaaGreatDoorAmOrder
namespace Go.AM
open Go
variable [Syms]

/-! the bound on new blocks -/
theorem BRel.from {C : Ctx} {n : Nat} {φ : Phi} {l : Loc} {x : Blk} {o : Option Obj} (h : BRel C φ l x o) : BRel (C.from n) φ l x o := by
  cases h with
  | dead => exact .dead _
  | cells e vs opn z cs fr hn hl hx hv hz => exact .cells e vs opn z cs fr hn hl hx hv hz
  | tab vs cs e fr hl hv => exact .tab vs cs e fr hl hv
  | map es es' clock h => exact .map es es' clock h
  | iterNil _ _ _ hd => exact .iterNil _ _ _ hd
  | iter m lm since last seen h hd => exact .iter m lm since last seen h hd

theorem BRel.back {C : Ctx} {n : Nat} {φ : Phi} {l : Loc} {x : Blk} {o : Option Obj} (h : BRel (C.from n) φ l x o) : BRel C φ l x o := by
  cases h with
  | dead => exact .dead _
  | cells e vs opn z cs fr hn hl hx hv hz => exact .cells e vs opn z cs fr hn hl hx hv hz
  | tab vs cs e fr hl hv => exact .tab vs cs e fr hl hv
  | map es es' clock h => exact .map es es' clock h
  | iterNil _ _ _ hd => exact .iterNil _ _ _ hd
  | iter m lm since last seen h hd => exact .iter m lm since last seen h hd

theorem HRel.from {C : Ctx} {n : Nat} {φ : Phi} {H : Heap} {w : World} (h : HRel C φ H w) (hn : n ≤ H.n) : HRel (C.from n) φ H w :=
  ⟨h.full, h.small, h.base, ⟨h.low.1, hn⟩, h.dom, fun b l x hl hx => (h.blk b l x hl hx).from, h.sep⟩
theorem HRel.back {C : Ctx} {n : Nat} {φ : Phi} {H : Heap} {w : World} (h : HRel (C.from n) φ H w) (hn : C.lo ≤ n) : HRel C φ H w :=
  ⟨h.full, h.small, h.base, ⟨h.low.1, Nat.le_trans hn h.low.2⟩, h.dom, fun b l x hl hx => (h.blk b l x hl hx).back, h.sep⟩
omit [Syms] in
theorem Ext.back {C : Ctx} {n : Nat} {φ φ' : Phi} {w w' : World} (h : Ext (C.from n) φ w φ' w') (hn : C.lo ≤ n) : Ext C φ w φ' w' :=
  ⟨h.le, ⟨h.fr.os, h.fr.tape, h.fr.output, h.fr.size, h.fr.block⟩, fun b l hl => (h.new b l hl).imp id fun ⟨⟨h1, h2⟩, h3⟩ => ⟨⟨h1, Nat.le_trans hn h2⟩, h3⟩⟩
theorem COk.from {C : Ctx} (h : COk C) (n : Nat) : COk (C.from n) := ⟨h.ty, h.fn, h.mixed, h.rules⟩

/-- a block that the machine has, and that the model makes now -/
theorem HRel.late {C : Ctx} {φ : Phi} {H : Heap} {w : World} (h : HRel C φ H w) {b : Nat} {x : Blk} {o : Obj} {l : Loc} (hc : l.c = w.heap.size) (hn : φ b = none) (hx : H.blk b = some x)
    (hbase : C.base ≤ b) (hlo : C.lo ≤ b) (hb : ∀ φ', Le φ φ' → φ' b = some l → BRel C φ' l x (some o)) :
    ∃ φ', φ' b = some l ∧ (∀ i, i ≠ b → φ' i = φ i) ∧ HRel C φ' H (w.alloc o) ∧ Ext C φ w φ' (w.alloc o) := by
  have hle : Le φ (fun i => if i = b then some l else φ i) := by
    intro i k hk
    show (if i = b then some l else φ i) = _
    rw [if_neg (by intro e; subst e; rw [hn] at hk; cases hk)]; exact hk
  have hbn := Heap.blk_lt h.full hx
  refine ⟨fun i => if i = b then some l else φ i, by simp, fun i hi => by simp [hi], ⟨h.full, h.small, ?_, h.low, ?_, ?_, ?_⟩, hle, ⟨rfl, rfl, rfl, by rw [World.size_alloc]; omega, ?_⟩, ?_⟩
  · intro g hg
    obtain ⟨k, hk, h2⟩ := h.base g hg
    exact ⟨k, hle _ _ hk, h2⟩
  · intro i k hk
    rw [World.size_alloc]
    split at hk
    · cases hk; subst_vars
      have := h.base_le
      exact ⟨by omega, by omega, fun _ => by omega⟩
    · have := h.dom i k hk
      exact ⟨by omega, by omega, this.2.2⟩
  · intro i k y hk hy
    split at hk
    · cases hk; subst_vars
      rw [hx] at hy; cases hy
      rw [hc, heap_push_new]
      exact hb _ hle (by simp)
    · rw [heap_push_old (h.dom i k hk).2.1]
      exact (h.blk i k y hk hy).mono hle
  · intro i j k m y y' hk hm hij hy hy' hly hly'
    by_cases hi : i = b
    · have hj : j ≠ b := by omega
      rw [if_pos hi] at hk; cases hk
      rw [if_neg hj] at hm
      have := (h.dom j m hm).2.1; omega
    · rw [if_neg hi] at hk
      by_cases hj : j = b
      · rw [if_pos hj] at hm; cases hm
        have := (h.dom i k hk).2.1; omega
      · rw [if_neg hj] at hm
        exact h.sep i j k m y y' hk hm hij hy hy' hly hly'
  · intro c hc2 _
    exact heap_push_old hc2
  · intro i k hk
    split at hk
    · cases hk; subst_vars
      exact .inr ⟨⟨hbase, hlo⟩, .inl (by omega)⟩
    · exact .inl hk

def Rel1 (φ : Phi) (x : Option Value) (a : Act) (t : Nat) : Prop :=
  match x with
  | none => a.tmps.size ≤ t
  | some v => ∃ v', a.tmps[t]? = some v' ∧ VRel φ v v'

theorem Rel1.mono {φ φ' : Phi} (hle : Le φ φ') {x : Option Value} {a : Act} {t : Nat} (h : Rel1 φ x a t) : Rel1 φ' x a t := by
  cases x with
  | none => exact h
  | some v => obtain ⟨v', h1, h2⟩ := h; exact ⟨v', h1, h2.mono hle⟩

theorem Rel1.put_ne {φ : Phi} {x : Option Value} {a : Act} {t : Nat} {d : Option Nat} (hd : d ≠ some t) {v : Value} (h : Rel1 φ x a t) : Rel1 φ x (a.put d v) t := by
  cases d with
  | none => exact h
  | some d =>
    have hne : d ≠ t := fun e => hd (e ▸ rfl)
    cases x with
    | none => show (a.tmps.setIfInBounds d v).size ≤ t; simpa [Rel1] using h
    | some u =>
      obtain ⟨v', h1, h2⟩ := h
      exact ⟨v', by show (a.tmps.setIfInBounds d v)[t]? = _; rw [Array.getElem?_setIfInBounds_ne hne]; exact h1, h2⟩

theorem Rel1.put_eq {φ φ' : Phi} {tm : T Value} {a : Act} {t : Nat} {v v' : Value} (h : Rel1 φ (tm.get t) a t) (hv : VRel φ' v v') : Rel1 φ' ((AM.put tm (some t) v).get t) (a.put (some t) v') t := by
  show Rel1 φ' ((tm.mod t v).get t) (a.put (some t) v') t
  rw [T.get_mod_same]
  cases hg : tm.get t with
  | none => rw [hg] at h; show (a.tmps.setIfInBounds t v').size ≤ t; simpa [Rel1] using h
  | some u =>
    rw [hg] at h
    obtain ⟨u', h1, _⟩ := h
    have hlt : t < a.tmps.size := by
      rcases Nat.lt_or_ge t a.tmps.size with h | h
      · exact h
      · rw [Array.getElem?_eq_none h] at h1; cases h1
    exact ⟨v', by show (a.tmps.setIfInBounds t v')[t]? = _; rw [Array.getElem?_setIfInBounds_self, if_pos hlt], hv⟩

theorem evR_rho {C : Ctx} {φ : Phi} {H : Heap} {w : World} {tm : T Value} {a : Act} {L : List Tmp} (hH : HRel C φ H w) (h : ∀ t ∈ L, Rel1 φ (tm.get t) a t) : ERho φ (evR C.base L tm) a.eval := by
  intro x v hx
  cases x with
  | tmp t =>
    have hx' : (bif L.any (fun x => Nat.beq t x) then tm.get t else none) = some v := hx
    cases hL : L.any (fun x => Nat.beq t x)
    · rw [hL] at hx'; cases hx'
    · rw [hL] at hx'; simp only [cond_true] at hx'
      obtain ⟨y, hy, hty⟩ := List.any_eq_true.1 hL
      have := Nat.eq_of_beq_eq_true hty
      subst this
      have := h t hy
      rw [hx'] at this
      obtain ⟨v', h1, h2⟩ := this
      show VRel φ v (a.tmps.getD t undef)
      rw [Array.getD_eq_getD_getElem?, h1]; exact h2
  | const c =>
    have hx' : (bif flat c then some c else none) = some v := hx
    cases hf : flat c
    · rw [hf] at hx'; cases hx'
    · rw [hf] at hx'; simp only [cond_true, Option.some.injEq] at hx'; subst hx'; exact flat_rel hf
  | global g =>
    have hx' : (bif Nat.blt g C.base then some (Value.pointer (some ⟨g, 0, none⟩)) else none) = some v := hx
    cases hb : Nat.blt g C.base
    · rw [hb] at hx'; cases hx'
    · rw [hb] at hx'; simp only [cond_true, Option.some.injEq] at hx'; subst hx'
      obtain ⟨l, hl, hc, hd⟩ := hH.base g (lt_of_blt hb)
      have := VRel.ptr g 0 l hl
      rw [hc, hd] at this; exact this
  | func f =>
    have hx' : some (Value.func (.func f) #[] #[]) = some v := hx
    cases hx'
    exact .func f [] [] [] [] .nil .nil

theorem guard_wanted1 {φ : Phi} {tm : T Value} {a : Act} {ops : Array Oper} {o : Oper} (h : ∀ t ∈ looks ops.toList o, Rel1 φ (tm.get t) a t) {b : Bool} (hg : guardOk ops.toList tm o = some b) :
    Region.wanted o (yielded ops a.tmps) = b := by
  unfold guardOk at hg
  unfold Region.wanted
  split at hg
  · rename_i hn; rw [hn]
    simp only [Option.some.injEq] at hg; subst hg; rfl
  · rename_i j want hn; rw [hn]
    dsimp only
    split at hg
    · rename_i p hp
      split at hg
      · rename_i d hd
        have hp' : ops[j]? = some p := by simpa using hp
        have hl : d ∈ looks ops.toList o := by
          unfold looks
          refine List.mem_append_right _ ?_
          rw [hn]; dsimp only; rw [hp]; dsimp only; rw [hd]; simp
        have hr := h d hl
        split at hg
        · rename_i c hc
          simp only [Option.some.injEq] at hg; subst hg
          rw [hc] at hr
          obtain ⟨v', h1, h2⟩ := hr
          cases h2
          have : yielded ops a.tmps j = some c := by simp [yielded, hp', hd, h1]
          rw [this]; rfl
        · rename_i vs hc
          simp only [Option.some.injEq] at hg; subst hg
          rw [hc] at hr
          obtain ⟨v', h1, h2⟩ := hr
          cases h2
          have : yielded ops a.tmps j = none := by simp [yielded, hp', hd, h1]
          rw [this]; rfl
        · cases hg
      · cases hg
    · cases hg

omit [Syms] in
theorem blkEq_eq {x y : Blk} (h : blkEq x y = true) : x = y := by
  unfold blkEq at h
  split at h
  · simp only [Bool.and_eq_true, beq_iff_eq, decide_eq_true_eq] at h
    obtain ⟨⟨⟨h1, h2⟩, h3⟩, h4⟩ := h
    have := all2_eq (veq_eq 4) h2
    subst h1; subst this; subst h3; subst h4; rfl
  · rfl
  · cases h

/-! what holds between two operations -/
section
variable {C : Ctx} {rec : Rec} {ops : Array Oper} {hs : List Hd} {rs : List Rd} {ns : List Nd} {f : Nat → St} {σ : List Nat} {φ0 : Phi} {a0 : Act} {w0 : World}

structure Inv (C : Ctx) (all : List Oper) (f : Nat → St) (σ : List Nat) (φ0 : Phi) (a0 : Act) (w0 : World) (L : Nat → Prop) (K : Nat) (φ : Phi) (a : Act) (w : World) : Prop where
  closed : Closed all L
  kle : K ≤ σ.length
  kb : K = σ.length ∨ ∃ i, σ[K]? = some i ∧ isB C all i = true
  wr : ∀ (k i : Nat), σ[k]? = some i → isB C all i = true → (L i ↔ k < K)
  tmL : ∀ t, ∀ (k i : Nat) o, σ[k]? = some i → all[i]? = some o → o.dst = some t → L i → Rel1 φ ((f (k + 1)).1.get t) a t
  tm0 : ∀ t, (∀ (i : Nat) o, all[i]? = some o → o.dst = some t → ¬ L i) → Rel1 φ ((f 0).1.get t) a t
  hr : HRel C φ (f K).2 w
  mono : ∀ k k', k ≤ k' → k' ≤ K → (f k).2.n ≤ (f k').2.n
  full : ∀ k, k ≤ K → (f k).2.t.Full (f k).2.n
  low0 : C.base ≤ (f 0).2.n ∧ C.lo ≤ (f 0).2.n
  pend : ∀ (k i : Nat) o, σ[k]? = some i → k < K → ¬ L i → all[i]? = some o → sort3 C o.op = .a → guardOk all (f k).1 o = some true → φ (f k).2.n = none
  defers : a.defers = a0.defers
  ext : Ext C φ0 w0 φ w

omit [Syms] in
/-- the next that writes -/
theorem next_writer (C : Ctx) (all : List Oper) (σ : List Nat) : ∀ (n k : Nat), σ.length - k = n → k ≤ σ.length → ∃ K, k ≤ K ∧ K ≤ σ.length ∧ (K = σ.length ∨ ∃ i, σ[K]? = some i ∧ isB C all i = true) ∧
    ∀ (k' i : Nat), k ≤ k' → k' < K → σ[k']? = some i → isB C all i = false
  | 0, k, hn, hk => ⟨k, Nat.le_refl _, hk, .inl (by omega), fun k' _ _ _ => by omega⟩
  | n + 1, k, hn, hk => by
    have hlt : k < σ.length := by omega
    cases hb : isB C all σ[k]
    · obtain ⟨K, h1, h2, h3, h4⟩ := next_writer C all σ n (k + 1) (by omega) (by omega)
      refine ⟨K, by omega, h2, h3, ?_⟩
      intro k' i hk' hK hi
      by_cases e : k' = k
      · subst e
        rw [List.getElem?_eq_getElem hlt] at hi; cases hi; exact hb
      · exact h4 k' i (by omega) hK hi
    · exact ⟨k, Nat.le_refl _, hk, .inr ⟨σ[k], List.getElem?_eq_getElem hlt, hb⟩, fun k' _ _ _ => by omega⟩

variable (hst : ∀ (k i : Nat), σ[k]? = some i → StepOk C rec ops.toList rs ns i (f k) (f (k + 1)))
include hst

/-- over what does not write the heap's likeness stands -/
theorem segment {k K : Nat} (hK : K ≤ σ.length) (hno : ∀ (k' i : Nat), k ≤ k' → k' < K → σ[k']? = some i → isB C ops.toList i = false) (φ : Phi) (w : World) :
    ∀ n, k + n ≤ K → HRel C φ (f k).2 w → HRel C φ (f (k + n)).2 w ∧ (∀ m m', m ≤ m' → m' ≤ n → (f (k + m)).2.n ≤ (f (k + m')).2.n) ∧ ∀ m, m ≤ n → (f (k + m)).2.t.Full (f (k + m)).2.n := by
  intro n
  induction n with
  | zero =>
    intro _ h
    refine ⟨h, fun m m' h1 h2 => ?_, fun m hm => ?_⟩
    · have : m = m' := by omega
      subst this; exact Nat.le_refl _
    · have : m = 0 := by omega
      subst this; exact h.full
  | succ n ih =>
    intro hn h
    obtain ⟨h1, h2, hfl⟩ := ih (by omega) h
    have hlt : k + n < σ.length := by omega
    have hi : σ[k + n]? = some σ[k + n] := List.getElem?_eq_getElem hlt
    have hs := (hst _ _ hi).still (hno _ _ (by omega) (by omega) hi)
    have key : HRel C φ (f (k + n + 1)).2 w ∧ (f (k + n)).2.n ≤ (f (k + n + 1)).2.n := by
      rcases hs with hs | ⟨b, x, hs⟩
      · rw [hs]; exact ⟨h1, Nat.le_refl _⟩
      · exact ⟨h1.pending hs, by have := (Heap.new_n hs).2; omega⟩
    refine ⟨key.1, ?_, ?_⟩
    rotate_left
    · intro m hm
      by_cases e : m = n + 1
      · subst e; exact key.1.full
      · exact hfl m (by omega)
    intro m m' hm hm'
    by_cases e : m' = n + 1
    · subst e
      by_cases e2 : m = n + 1
      · subst e2; exact Nat.le_refl _
      · exact Nat.le_trans (h2 m n (by omega) (Nat.le_refl _)) key.2
    · exact h2 m m' hm (by omega)

omit [Syms] in
/-- a temporary that none writes on the way -/
theorem get_same {t : Nat} : ∀ (n k : Nat), k + n ≤ σ.length → (∀ (k2 i : Nat) o, k ≤ k2 → k2 < k + n → σ[k2]? = some i → ops.toList[i]? = some o → o.dst ≠ some t) →
    (f (k + n)).1.get t = (f k).1.get t := by
  intro n
  induction n with
  | zero => intro k _ _; rfl
  | succ n ih =>
    intro k hk hno
    have hlt : k + n < σ.length := by omega
    have hi : σ[k + n]? = some σ[k + n] := List.getElem?_eq_getElem hlt
    obtain ⟨o, v, ho, hp⟩ := (hst _ _ hi).puts
    have hd := hno (k + n) _ o (by omega) (by omega) hi ho
    have : (f (k + (n + 1))).1.get t = (f (k + n)).1.get t := by
      show (f (k + n + 1)).1.get t = _
      rw [hp]
      cases hdst : o.dst with
      | none => rfl
      | some d =>
        show ((f (k + n)).1.mod d v).get t = _
        rw [T.get_mod_other]
        intro e; subst e; exact hd hdst
    rw [this]
    exact ih k (by omega) fun k2 i o h1 h2 => hno k2 i o h1 (by omega)

omit [Syms] in
theorem get_between {t k k' : Nat} (h : k ≤ k') (hk : k' ≤ σ.length) (hno : ∀ (k2 i : Nat) o, k ≤ k2 → k2 < k' → σ[k2]? = some i → ops.toList[i]? = some o → o.dst ≠ some t) :
    (f k').1.get t = (f k).1.get t := by
  obtain ⟨n, rfl⟩ := Nat.exists_eq_add_of_le h
  exact get_same hst n k hk hno
end
end Go.AM
