/- AM: a region that draws its order. -/
import Derived.Test.YtpmolggmafgeeaaGreatDoorAmSound
namespace Go.AM
open Go
variable [Syms]

/-! the bound on new blocks -/
theorem BRel.from {C : Ctx} {n : Nat} {φ : Phi} {l : Loc} {x : Blk} {o : Option Obj} (h : BRel C φ l x o) : BRel (C.from n) φ l x o := by
  cases h with
  | dead => exact .dead _
  | cells e vs opn z cs fr hn hl hx hv hz => exact .cells e vs opn z cs fr hn hl hx hv hz
  | tab vs cs e fr hl hv => exact .tab vs cs e fr hl hv
  | map es es' clock h => exact .map es es' clock h
  | iterNil _ _ _ hd => exact .iterNil _ _ _ hd
  | iter m lm since last seen h hd => exact .iter m lm since last seen h hd

theorem BRel.back {C : Ctx} {n : Nat} {φ : Phi} {l : Loc} {x : Blk} {o : Option Obj} (h : BRel (C.from n) φ l x o) : BRel C φ l x o := by
  cases h with
  | dead => exact .dead _
  | cells e vs opn z cs fr hn hl hx hv hz => exact .cells e vs opn z cs fr hn hl hx hv hz
  | tab vs cs e fr hl hv => exact .tab vs cs e fr hl hv
  | map es es' clock h => exact .map es es' clock h
  | iterNil _ _ _ hd => exact .iterNil _ _ _ hd
  | iter m lm since last seen h hd => exact .iter m lm since last seen h hd

theorem HRel.from {C : Ctx} {n : Nat} {φ : Phi} {H : Heap} {w : World} (h : HRel C φ H w) (hn : n ≤ H.n) : HRel (C.from n) φ H w :=
  ⟨h.full, h.small, h.base, ⟨h.low.1, hn⟩, h.dom, fun b l x hl hx => (h.blk b l x hl hx).from, h.sep⟩
theorem HRel.back {C : Ctx} {n : Nat} {φ : Phi} {H : Heap} {w : World} (h : HRel (C.from n) φ H w) (hn : C.lo ≤ n) : HRel C φ H w :=
  ⟨h.full, h.small, h.base, ⟨h.low.1, Nat.le_trans hn h.low.2⟩, h.dom, fun b l x hl hx => (h.blk b l x hl hx).back, h.sep⟩
omit [Syms] in
theorem Ext.back {C : Ctx} {n : Nat} {φ φ' : Phi} {w w' : World} (h : Ext (C.from n) φ w φ' w') (hn : C.lo ≤ n) : Ext C φ w φ' w' :=
  ⟨h.le, ⟨h.fr.os, h.fr.tape, h.fr.output, h.fr.size, h.fr.block⟩, fun b l hl => (h.new b l hl).imp id fun ⟨⟨h1, h2⟩, h3⟩ => ⟨⟨h1, Nat.le_trans hn h2⟩, h3⟩⟩
theorem COk.from {C : Ctx} (h : COk C) (n : Nat) : COk (C.from n) := ⟨h.ty, h.fn, h.mixed, h.rules⟩

/-- a block that the machine has, and that the model makes now -/
theorem HRel.late {C : Ctx} {φ : Phi} {H : Heap} {w : World} (h : HRel C φ H w) {b : Nat} {x : Blk} {o : Obj} {l : Loc} (hc : l.c = w.heap.size) (hn : φ b = none) (hx : H.blk b = some x)
    (hbase : C.base ≤ b) (hlo : C.lo ≤ b) (hb : ∀ φ', Le φ φ' → φ' b = some l → BRel C φ' l x (some o)) :
    ∃ φ', φ' b = some l ∧ (∀ i, i ≠ b → φ' i = φ i) ∧ HRel C φ' H (w.alloc o) ∧ Ext C φ w φ' (w.alloc o) := by
  have hle : Le φ (fun i => if i = b then some l else φ i) := by
    intro i k hk
    show (if i = b then some l else φ i) = _
    rw [if_neg (by intro e; subst e; rw [hn] at hk; cases hk)]; exact hk
  have hbn := Heap.blk_lt h.full hx
  refine ⟨fun i => if i = b then some l else φ i, by simp, fun i hi => by simp [hi], ⟨h.full, h.small, ?_, h.low, ?_, ?_, ?_⟩, hle, ⟨rfl, rfl, rfl, by rw [World.size_alloc]; omega, ?_⟩, ?_⟩
  · intro g hg
    obtain ⟨k, hk, h2⟩ := h.base g hg
    exact ⟨k, hle _ _ hk, h2⟩
  · intro i k hk
    rw [World.size_alloc]
    split at hk
    · cases hk; subst_vars
      have := h.base_le
      exact ⟨by omega, by omega, fun _ => by omega⟩
    · have := h.dom i k hk
      exact ⟨by omega, by omega, this.2.2⟩
  · intro i k y hk hy
    split at hk
    · cases hk; subst_vars
      rw [hx] at hy; cases hy
      rw [hc, heap_push_new]
      exact hb _ hle (by simp)
    · rw [heap_push_old (h.dom i k hk).2.1]
      exact (h.blk i k y hk hy).mono hle
  · intro i j k m y y' hk hm hij hy hy' hly hly'
    by_cases hi : i = b
    · have hj : j ≠ b := by omega
      rw [if_pos hi] at hk; cases hk
      rw [if_neg hj] at hm
      have := (h.dom j m hm).2.1; omega
    · rw [if_neg hi] at hk
      by_cases hj : j = b
      · rw [if_pos hj] at hm; cases hm
        have := (h.dom i k hk).2.1; omega
      · rw [if_neg hj] at hm
        exact h.sep i j k m y y' hk hm hij hy hy' hly hly'
  · intro c hc2 _
    exact heap_push_old hc2
  · intro i k hk
    split at hk
    · cases hk; subst_vars
      exact .inr ⟨⟨hbase, hlo⟩, .inl (by omega)⟩
    · exact .inl hk

def Rel1 (φ : Phi) (x : Option Value) (a : Act) (t : Nat) : Prop :=
  match x with
  | none => a.tmps.size ≤ t
  | some v => ∃ v', a.tmps[t]? = some v' ∧ VRel φ v v'

theorem Rel1.mono {φ φ' : Phi} (hle : Le φ φ') {x : Option Value} {a : Act} {t : Nat} (h : Rel1 φ x a t) : Rel1 φ' x a t := by
  cases x with
  | none => exact h
  | some v => obtain ⟨v', h1, h2⟩ := h; exact ⟨v', h1, h2.mono hle⟩

theorem Rel1.put_ne {φ : Phi} {x : Option Value} {a : Act} {t : Nat} {d : Option Nat} (hd : d ≠ some t) {v : Value} (h : Rel1 φ x a t) : Rel1 φ x (a.put d v) t := by
  cases d with
  | none => exact h
  | some d =>
    have hne : d ≠ t := fun e => hd (e ▸ rfl)
    cases x with
    | none => show (a.tmps.setIfInBounds d v).size ≤ t; simpa [Rel1] using h
    | some u =>
      obtain ⟨v', h1, h2⟩ := h
      exact ⟨v', by show (a.tmps.setIfInBounds d v)[t]? = _; rw [Array.getElem?_setIfInBounds_ne hne]; exact h1, h2⟩

theorem Rel1.put_eq {φ φ' : Phi} {tm : T Value} {a : Act} {t : Nat} {v v' : Value} (h : Rel1 φ (tm.get t) a t) (hv : VRel φ' v v') : Rel1 φ' ((AM.put tm (some t) v).get t) (a.put (some t) v') t := by
  show Rel1 φ' ((tm.mod t v).get t) (a.put (some t) v') t
  rw [T.get_mod_same]
  cases hg : tm.get t with
  | none => rw [hg] at h; show (a.tmps.setIfInBounds t v').size ≤ t; simpa [Rel1] using h
  | some u =>
    rw [hg] at h
    obtain ⟨u', h1, _⟩ := h
    have hlt : t < a.tmps.size := by
      rcases Nat.lt_or_ge t a.tmps.size with h | h
      · exact h
      · rw [Array.getElem?_eq_none h] at h1; cases h1
    exact ⟨v', by show (a.tmps.setIfInBounds t v')[t]? = _; rw [Array.getElem?_setIfInBounds_self, if_pos hlt], hv⟩

theorem evR_rho {C : Ctx} {φ : Phi} {H : Heap} {w : World} {tm : T Value} {a : Act} {L : List Tmp} (hH : HRel C φ H w) (h : ∀ t ∈ L, Rel1 φ (tm.get t) a t) : ERho φ (evR C.base L tm) a.eval := by
  intro x v hx
  cases x with
  | tmp t =>
    have hx' : (bif L.any (fun x => Nat.beq t x) then tm.get t else none) = some v := hx
    cases hL : L.any (fun x => Nat.beq t x)
    · rw [hL] at hx'; cases hx'
    · rw [hL] at hx'; simp only [cond_true] at hx'
      obtain ⟨y, hy, hty⟩ := List.any_eq_true.1 hL
      have := Nat.eq_of_beq_eq_true hty
      subst this
      have := h t hy
      rw [hx'] at this
      obtain ⟨v', h1, h2⟩ := this
      show VRel φ v (a.tmps.getD t undef)
      rw [Array.getD_eq_getD_getElem?, h1]; exact h2
  | const c =>
    have hx' : (bif flat c then some c else none) = some v := hx
    cases hf : flat c
    · rw [hf] at hx'; cases hx'
    · rw [hf] at hx'; simp only [cond_true, Option.some.injEq] at hx'; subst hx'; exact flat_rel hf
  | global g =>
    have hx' : (bif Nat.blt g C.base then some (Value.pointer (some ⟨g, 0, none⟩)) else none) = some v := hx
    cases hb : Nat.blt g C.base
    · rw [hb] at hx'; cases hx'
    · rw [hb] at hx'; simp only [cond_true, Option.some.injEq] at hx'; subst hx'
      obtain ⟨l, hl, hc, hd⟩ := hH.base g (lt_of_blt hb)
      have := VRel.ptr g 0 l hl
      rw [hc, hd] at this; exact this
  | func f =>
    have hx' : some (Value.func (.func f) #[] #[]) = some v := hx
    cases hx'
    exact .func f [] [] [] [] .nil .nil

theorem guard_wanted1 {φ : Phi} {tm : T Value} {a : Act} {ops : Array Oper} {o : Oper} (h : ∀ t ∈ looks ops.toList o, Rel1 φ (tm.get t) a t) {b : Bool} (hg : guardOk ops.toList tm o = some b) :
    Region.wanted o (yielded ops a.tmps) = b := by
  unfold guardOk at hg
  unfold Region.wanted
  split at hg
  · rename_i hn; rw [hn]
    simp only [Option.some.injEq] at hg; subst hg; rfl
  · rename_i j want hn; rw [hn]
    dsimp only
    split at hg
    · rename_i p hp
      split at hg
      · rename_i d hd
        have hp' : ops[j]? = some p := by simpa using hp
        have hl : d ∈ looks ops.toList o := by
          unfold looks
          refine List.mem_append_right _ ?_
          rw [hn]; dsimp only; rw [hp]; dsimp only; rw [hd]; simp
        have hr := h d hl
        split at hg
        · rename_i c hc
          simp only [Option.some.injEq] at hg; subst hg
          rw [hc] at hr
          obtain ⟨v', h1, h2⟩ := hr
          cases h2
          have : yielded ops a.tmps j = some c := by simp [yielded, hp', hd, h1]
          rw [this]; rfl
        · rename_i vs hc
          simp only [Option.some.injEq] at hg; subst hg
          rw [hc] at hr
          obtain ⟨v', h1, h2⟩ := hr
          cases h2
          have : yielded ops a.tmps j = none := by simp [yielded, hp', hd, h1]
          rw [this]; rfl
        · cases hg
      · cases hg
    · cases hg

omit [Syms] in
theorem blkEq_eq {x y : Blk} (h : blkEq x y = true) : x = y := by
  unfold blkEq at h
  split at h
  · simp only [Bool.and_eq_true, beq_iff_eq, decide_eq_true_eq] at h
    obtain ⟨⟨⟨h1, h2⟩, h3⟩, h4⟩ := h
    have := all2_eq (veq_eq 4) h2
    subst h1; subst this; subst h3; subst h4; rfl
  · rfl
  · cases h

/-! what holds between two operations -/
section
variable {C : Ctx} {rec : Rec} {ops : Array Oper} {hs : List Hd} {rs : List Rd} {ns : List Nd} {f : Nat → St} {σ : List Nat} {φ0 : Phi} {a0 : Act} {w0 : World}

structure Inv (C : Ctx) (all : List Oper) (f : Nat → St) (σ : List Nat) (φ0 : Phi) (a0 : Act) (w0 : World) (L : Nat → Prop) (K : Nat) (φ : Phi) (a : Act) (w : World) : Prop where
  closed : Closed all L
  kle : K ≤ σ.length
  kb : K = σ.length ∨ ∃ i, σ[K]? = some i ∧ isB C all i = true
  wr : ∀ (k i : Nat), σ[k]? = some i → isB C all i = true → (L i ↔ k < K)
  tmL : ∀ t, ∀ (k i : Nat) o, σ[k]? = some i → all[i]? = some o → o.dst = some t → L i → Rel1 φ ((f (k + 1)).1.get t) a t
  tm0 : ∀ t, (∀ (i : Nat) o, all[i]? = some o → o.dst = some t → ¬ L i) → Rel1 φ ((f 0).1.get t) a t
  hr : HRel C φ (f K).2 w
  mono : ∀ k k', k ≤ k' → k' ≤ K → (f k).2.n ≤ (f k').2.n
  full : ∀ k, k ≤ K → (f k).2.t.Full (f k).2.n
  low0 : C.base ≤ (f 0).2.n ∧ C.lo ≤ (f 0).2.n
  pend : ∀ (k i : Nat) o, σ[k]? = some i → k < K → ¬ L i → all[i]? = some o → sort3 C o.op = .a → guardOk all (f k).1 o = some true → φ (f k).2.n = none
  defers : a.defers = a0.defers
  ext : Ext C φ0 w0 φ w

omit [Syms] in
/-- the next that writes -/
theorem next_writer (C : Ctx) (all : List Oper) (σ : List Nat) : ∀ (n k : Nat), σ.length - k = n → k ≤ σ.length → ∃ K, k ≤ K ∧ K ≤ σ.length ∧ (K = σ.length ∨ ∃ i, σ[K]? = some i ∧ isB C all i = true) ∧
    ∀ (k' i : Nat), k ≤ k' → k' < K → σ[k']? = some i → isB C all i = false
  | 0, k, hn, hk => ⟨k, Nat.le_refl _, hk, .inl (by omega), fun k' _ _ _ => by omega⟩
  | n + 1, k, hn, hk => by
    have hlt : k < σ.length := by omega
    cases hb : isB C all σ[k]
    · obtain ⟨K, h1, h2, h3, h4⟩ := next_writer C all σ n (k + 1) (by omega) (by omega)
      refine ⟨K, by omega, h2, h3, ?_⟩
      intro k' i hk' hK hi
      by_cases e : k' = k
      · subst e
        rw [List.getElem?_eq_getElem hlt] at hi; cases hi; exact hb
      · exact h4 k' i (by omega) hK hi
    · exact ⟨k, Nat.le_refl _, hk, .inr ⟨σ[k], List.getElem?_eq_getElem hlt, hb⟩, fun k' _ _ _ => by omega⟩

variable (hst : ∀ (k i : Nat), σ[k]? = some i → StepOk C rec ops.toList rs ns i (f k) (f (k + 1)))
include hst

/-- over what does not write the heap's likeness stands -/
theorem segment {k K : Nat} (hK : K ≤ σ.length) (hno : ∀ (k' i : Nat), k ≤ k' → k' < K → σ[k']? = some i → isB C ops.toList i = false) (φ : Phi) (w : World) :
    ∀ n, k + n ≤ K → HRel C φ (f k).2 w → HRel C φ (f (k + n)).2 w ∧ (∀ m m', m ≤ m' → m' ≤ n → (f (k + m)).2.n ≤ (f (k + m')).2.n) ∧ ∀ m, m ≤ n → (f (k + m)).2.t.Full (f (k + m)).2.n := by
  intro n
  induction n with
  | zero =>
    intro _ h
    refine ⟨h, fun m m' h1 h2 => ?_, fun m hm => ?_⟩
    · have : m = m' := by omega
      subst this; exact Nat.le_refl _
    · have : m = 0 := by omega
      subst this; exact h.full
  | succ n ih =>
    intro hn h
    obtain ⟨h1, h2, hfl⟩ := ih (by omega) h
    have hlt : k + n < σ.length := by omega
    have hi : σ[k + n]? = some σ[k + n] := List.getElem?_eq_getElem hlt
    have hs := (hst _ _ hi).still (hno _ _ (by omega) (by omega) hi)
    have key : HRel C φ (f (k + n + 1)).2 w ∧ (f (k + n)).2.n ≤ (f (k + n + 1)).2.n := by
      rcases hs with hs | ⟨b, x, hs⟩
      · rw [hs]; exact ⟨h1, Nat.le_refl _⟩
      · exact ⟨h1.pending hs, by have := (Heap.new_n hs).2; omega⟩
    refine ⟨key.1, ?_, ?_⟩
    rotate_left
    · intro m hm
      by_cases e : m = n + 1
      · subst e; exact key.1.full
      · exact hfl m (by omega)
    intro m m' hm hm'
    by_cases e : m' = n + 1
    · subst e
      by_cases e2 : m = n + 1
      · subst e2; exact Nat.le_refl _
      · exact Nat.le_trans (h2 m n (by omega) (Nat.le_refl _)) key.2
    · exact h2 m m' hm (by omega)

omit [Syms] in
/-- a temporary that none writes on the way -/
theorem get_same {t : Nat} : ∀ (n k : Nat), k + n ≤ σ.length → (∀ (k2 i : Nat) o, k ≤ k2 → k2 < k + n → σ[k2]? = some i → ops.toList[i]? = some o → o.dst ≠ some t) →
    (f (k + n)).1.get t = (f k).1.get t := by
  intro n
  induction n with
  | zero => intro k _ _; rfl
  | succ n ih =>
    intro k hk hno
    have hlt : k + n < σ.length := by omega
    have hi : σ[k + n]? = some σ[k + n] := List.getElem?_eq_getElem hlt
    obtain ⟨o, v, ho, hp⟩ := (hst _ _ hi).puts
    have hd := hno (k + n) _ o (by omega) (by omega) hi ho
    have : (f (k + (n + 1))).1.get t = (f (k + n)).1.get t := by
      show (f (k + n + 1)).1.get t = _
      rw [hp]
      cases hdst : o.dst with
      | none => rfl
      | some d =>
        show ((f (k + n)).1.mod d v).get t = _
        rw [T.get_mod_other]
        intro e; subst e; exact hd hdst
    rw [this]
    exact ih k (by omega) fun k2 i o h1 h2 => hno k2 i o h1 (by omega)

omit [Syms] in
theorem get_between {t k k' : Nat} (h : k ≤ k') (hk : k' ≤ σ.length) (hno : ∀ (k2 i : Nat) o, k ≤ k2 → k2 < k' → σ[k2]? = some i → ops.toList[i]? = some o → o.dst ≠ some t) :
    (f k').1.get t = (f k).1.get t := by
  obtain ⟨n, rfl⟩ := Nat.exists_eq_add_of_le h
  exact get_same hst n k hk hno
end
end Go.AM
namespace Go.AM
open Go
variable [Syms]

/-- what was seen ahead of the run -/
structure Seen (C : Ctx) (rec : Rec) (all : List Oper) (hs : List Hd) (rs : List Rd) (ns : List Nd) (f : Nat → St) (σ : List Nat) : Prop where
  ord : σ = order C (ancs [] all) all
  edges : edgesBack 0 all = true
  calm : calm (ancs [] all) all = true
  chain : chained C (ancs [] all) all none σ = true
  step : ∀ (k i : Nat), σ[k]? = some i → StepOk C rec all rs ns i (f k) (f (k + 1))
  heaps : ∀ K : Nat, K ≤ σ.length → (K = σ.length ∨ ∃ i, σ[K]? = some i ∧ isB C all i = true) →
      ∃ h ∈ hs, h.H = (f K).2 ∧ h.c = σ[K]? ∧ ∀ j, h.l = some j → ∃ k : Nat, k < K ∧ σ[k]? = some j ∧ isB C all j = true
  reads : ∀ r ∈ rs, rdOk C (ancs [] all) all hs r = true
  news : ∀ n ∈ ns, ndOk (ancs [] all) hs n = true

section
variable {C : Ctx} {rec : Rec} {all : List Oper} {hs : List Hd} {rs : List Rd} {ns : List Nd} {f : Nat → St} {σ : List Nat} {φ0 : Phi} {a0 : Act} {w0 : World}
variable {L : Nat → Prop} {K : Nat} {φ : Phi} {a : Act} {w : World}

omit [Syms] in
theorem Seen.mem (S : Seen C rec all hs rs ns f σ) {i : Nat} {o : Oper} (h : all[i]? = some o) : ∃ k : Nat, σ[k]? = some i := by
  have := (mem_order (all := all) C i).2 (List.getElem?_eq_some_iff.1 h).1
  rw [← S.ord] at this
  exact List.getElem?_of_mem this

omit [Syms] in
theorem Seen.inj (S : Seen C rec all hs rs ns f σ) {k k' i : Nat} (h : σ[k]? = some i) (h' : σ[k']? = some i) : k = k' := by
  rw [S.ord] at h h'
  exact order_inj S.edges C h h'

omit [Syms] in
theorem Seen.before (S : Seen C rec all hs rs ns f σ) {k k' i j : Nat} (h : σ[k]? = some i) (h' : σ[k']? = some j) (hb : bit (ancs [] all) i j = true) : k' < k := by
  rw [S.ord] at h h'
  exact order_before S.edges C h h' hb

variable {k i : Nat} {o : Oper}

/-- what it looks at is what the machine had there -/
theorem Inv.looks (I : Inv C all f σ φ0 a0 w0 L K φ a w) (S : Seen C rec all hs rs ns f σ) (hk : σ[k]? = some i) (ho : all[i]? = some o) (hL : ¬ L i) (hr : ∀ j ∈ edgeOf o, L j) :
    ∀ t ∈ looks all o, Rel1 φ ((f k).1.get t) a t := by
  intro t ht
  have hkl := (List.getElem?_eq_some_iff.1 hk).1
  by_cases hx : ∃ (x : Nat) (ox : Oper), all[x]? = some ox ∧ ox.dst = some t
  · obtain ⟨x, ox, hx, hd⟩ := hx
    have huniq : ∀ (i2 : Nat) o2, all[i2]? = some o2 → o2.dst = some t → x = i2 := by
      intro i2 o2 h2 hd2
      rcases calm_spec S.calm hx hd h2 with e | ⟨e, _⟩
      · exact e
      · exact absurd hd2 e
    obtain ⟨kx, hkx⟩ := S.mem hx
    have hzero : ¬ L x → k ≤ kx → Rel1 φ ((f k).1.get t) a t := by
      intro hn hle
      rw [get_between S.step (Nat.zero_le k) (by omega) (t := t) (fun k2 i2 o2 _ h2 h3 h4 h5 => by
        have := huniq i2 o2 h4 h5
        subst this
        have := S.inj hkx h3; omega)]
      refine I.tm0 t fun i2 o2 h4 h5 => ?_
      have := huniq i2 o2 h4 h5
      subst this; exact hn
    rcases calm_spec S.calm hx hd ho with e | ⟨_, e⟩
    · subst e
      have := S.inj hk hkx
      exact hzero hL (by omega)
    · rcases e ht with e | e
      · have hLx := ready_bit S.edges I.closed ho hr e
        have hlt := S.before hk hkx e
        rw [get_between S.step (k := kx + 1) (k' := k) (by omega) (by omega) (t := t) (fun k2 i2 o2 _ h2 h3 h4 h5 => by
          have := huniq i2 o2 h4 h5
          subst this
          have := S.inj hkx h3; omega)]
        exact I.tmL t kx x ox hkx hx hd hLx
      · have hnx : ¬ L x := fun h => hL (closed_bit S.edges I.closed x i h e)
        have hlt := S.before hkx hk e
        exact hzero hnx (by omega)
  · rw [get_between S.step (Nat.zero_le k) (by omega) (t := t) (fun k2 i2 o2 _ _ _ h4 h5 => hx ⟨i2, o2, h4, h5⟩)]
    exact I.tm0 t fun i2 o2 h4 h5 => absurd ⟨i2, o2, h4, h5⟩ hx

/-- the temporaries, one operation on -/
theorem Inv.tmps (I : Inv C all f σ φ0 a0 w0 L K φ a w) (S : Seen C rec all hs rs ns f σ) (hk : σ[k]? = some i) (ho : all[i]? = some o) (hL : ¬ L i) {φ' : Phi} (hle : Le φ φ') {v v' : Value}
    (hput : (f (k + 1)).1 = put (f k).1 o.dst v) (hv : VRel φ' v v') :
    (∀ t, ∀ (k2 i2 : Nat) o2, σ[k2]? = some i2 → all[i2]? = some o2 → o2.dst = some t → (L i2 ∨ i2 = i) → Rel1 φ' ((f (k2 + 1)).1.get t) (a.put o.dst v') t) ∧
    (∀ t, (∀ (i2 : Nat) o2, all[i2]? = some o2 → o2.dst = some t → ¬ (L i2 ∨ i2 = i)) → Rel1 φ' ((f 0).1.get t) (a.put o.dst v') t) := by
  have hkl := (List.getElem?_eq_some_iff.1 hk).1
  refine ⟨?_, ?_⟩
  · intro t k2 i2 o2 hk2 ho2 hd2 hl
    by_cases hd : o.dst = some t
    · have huniq : ∀ (i3 : Nat) o3, all[i3]? = some o3 → o3.dst = some t → i = i3 := by
        intro i3 o3 h2 hd3
        rcases calm_spec S.calm ho hd h2 with e | ⟨e, _⟩
        · exact e
        · exact absurd hd3 e
      have := huniq i2 o2 ho2 hd2
      subst this
      have := S.inj hk hk2
      subst this
      rw [hput, hd]
      refine Rel1.put_eq (φ := φ) ?_ hv
      rw [get_between S.step (Nat.zero_le k) (by omega) (t := t) (fun k3 i3 o3 _ h2 h3 h4 h5 => by
        have := huniq i3 o3 h4 h5
        subst this
        have := S.inj hk h3; omega)]
      refine I.tm0 t fun i3 o3 h4 h5 => ?_
      have := huniq i3 o3 h4 h5
      subst this; exact hL
    · refine Rel1.put_ne hd (Rel1.mono hle ?_)
      rcases hl with hl | hl
      · exact I.tmL t k2 i2 o2 hk2 ho2 hd2 hl
      · subst hl; rw [ho] at ho2; cases ho2; exact absurd hd2 hd
  · intro t hno
    have hd : o.dst ≠ some t := fun hd => hno i o ho hd (.inr rfl)
    exact Rel1.put_ne hd (Rel1.mono hle (I.tm0 t fun i2 o2 h4 h5 h6 => hno i2 o2 h4 h5 (.inl h6)))

theorem Inv.closed' (I : Inv C all f σ φ0 a0 w0 L K φ a w) (ho : all[i]? = some o) (hr : ∀ j ∈ edgeOf o, L j) : Closed all (fun j => L j ∨ j = i) := by
  intro j p hp hj e he
  rcases hj with hj | hj
  · exact .inl (I.closed j p hp hj e he)
  · subst hj; rw [ho] at hp; cases hp; exact .inl (hr e he)

theorem Inv.still (I : Inv C all f σ φ0 a0 w0 L K φ a w) (S : Seen C rec all hs rs ns f σ) (hk : σ[k]? = some i) (ho : all[i]? = some o) (hL : ¬ L i) (hr : ∀ j ∈ edgeOf o, L j) {φ' : Phi} {w' : World} {v v' : Value}
    (hput : (f (k + 1)).1 = put (f k).1 o.dst v) (hv : VRel φ' v v') (hb : isB C all i = false) (hH : HRel C φ' (f K).2 w') (hext : Ext C φ w φ' w')
    (hp : ∀ (k2 i2 : Nat) o2, σ[k2]? = some i2 → k2 < K → ¬ L i2 → i2 ≠ i → all[i2]? = some o2 → sort3 C o2.op = .a → guardOk all (f k2).1 o2 = some true → φ' (f k2).2.n = none) :
    Inv C all f σ φ0 a0 w0 (fun j => L j ∨ j = i) K φ' (a.put o.dst v') w' := by
  obtain ⟨h1, h2⟩ := I.tmps S hk ho hL hext.le hput hv
  refine ⟨I.closed' ho hr, I.kle, I.kb, ?_, h1, h2, hH, I.mono, I.full, I.low0, ?_, (put_defers _ _ _).trans I.defers, I.ext.trans hext⟩
  · intro k2 j hj hjb
    have hne : j ≠ i := by intro e; subst e; rw [hb] at hjb; cases hjb
    rw [← I.wr k2 j hj hjb]
    exact ⟨fun h => h.resolve_right hne, .inl⟩
  · intro k2 i2 o2 h3 h4 h5 h6 h7 h8
    exact hp k2 i2 o2 h3 h4 (fun h => h5 (.inl h)) (fun h => h5 (.inr h)) h6 h7 h8

omit [Syms] in
theorem StepOk.made {i : Nat} {s s' : St} (h : StepOk C rec all rs ns i s s') (ho : all[i]? = some o) (hs3 : sort3 C o.op = .a) (hg : guardOk all s.1 o = some true) : s'.2.n = s.2.n + 1 := by
  obtain ⟨p, hp, h⟩ := h
  rw [ho] at hp; cases hp
  rcases h with ⟨h, _⟩ | ⟨_, v, _, h | h | h | h⟩
  · rw [hg] at h; cases h
  · rw [hs3] at h; cases h.1
  · rw [hs3] at h; cases h.1
  · obtain ⟨b, x, hn⟩ := allocB_new h.2.1
    exact (Heap.new_n hn).2
  · rw [hs3] at h; cases h.1

theorem Inv.write (I : Inv C all f σ φ0 a0 w0 L K φ a w) (S : Seen C rec all hs rs ns f σ) (hk : σ[K]? = some i) (ho : all[i]? = some o) (hL : ¬ L i) (hr : ∀ j ∈ edgeOf o, L j) {φ' : Phi} {w' : World} {v v' : Value}
    (hput : (f (K + 1)).1 = put (f K).1 o.dst v) (hv : VRel φ' v v') (hb : isB C all i = true) (hH : HRel C φ' (f (K + 1)).2 w') (hext : Ext C φ w φ' w')
    (hn : (f K).2.n ≤ (f (K + 1)).2.n) (hp : ∀ b, b < (f K).2.n → φ b = none → φ' b = none) :
    ∃ K', Inv C all f σ φ0 a0 w0 (fun j => L j ∨ j = i) K' φ' (a.put o.dst v') w' := by
  have hkl := (List.getElem?_eq_some_iff.1 hk).1
  obtain ⟨h1, h2⟩ := I.tmps S hk ho hL hext.le hput hv
  obtain ⟨K', hK1, hK2, hK3, hK4⟩ := next_writer C all σ _ (K + 1) rfl (by omega)
  have seg := segment (ops := ⟨all⟩) S.step hK2 hK4 φ' w' (K' - (K + 1)) (by omega) hH
  rw [show K + 1 + (K' - (K + 1)) = K' by omega] at seg
  obtain ⟨hH', hm, hfl⟩ := seg
  have hmono : ∀ k k', k ≤ k' → k' ≤ K' → (f k).2.n ≤ (f k').2.n := by
    intro k k' hle hle'
    by_cases c1 : k' ≤ K
    · exact I.mono k k' hle c1
    · have c2 : ∀ m, K + 1 ≤ m → m ≤ k' → (f m).2.n ≤ (f k').2.n := by
        intro m hm1 hm2
        have := hm (m - (K + 1)) (k' - (K + 1)) (by omega) (by omega)
        rw [show K + 1 + (m - (K + 1)) = m by omega, show K + 1 + (k' - (K + 1)) = k' by omega] at this
        exact this
      by_cases c3 : K + 1 ≤ k
      · exact c2 k c3 hle
      · exact Nat.le_trans (I.mono k K (by omega) (Nat.le_refl _)) (Nat.le_trans hn (c2 (K + 1) (Nat.le_refl _) (by omega)))
  refine ⟨K', I.closed' ho hr, hK2, hK3, ?_, h1, h2, hH', hmono, ?_, I.low0, ?_, (put_defers _ _ _).trans I.defers, I.ext.trans hext⟩
  · intro k2 j hj hjb
    constructor
    · rintro (h | h)
      · have := (I.wr k2 j hj hjb).1 h; omega
      · subst h; have := S.inj hj hk; omega
    · intro hlt
      by_cases c1 : k2 < K
      · exact .inl ((I.wr k2 j hj hjb).2 c1)
      · by_cases c2 : k2 = K
        · subst c2; rw [hk] at hj; cases hj; exact .inr rfl
        · have := hK4 k2 j (by omega) hlt hj
          rw [this] at hjb; cases hjb
  · intro k hle
    by_cases c1 : k ≤ K
    · exact I.full k c1
    · have := hfl (k - (K + 1)) (by omega)
      rw [show K + 1 + (k - (K + 1)) = k by omega] at this
      exact this
  · intro k2 i2 o2 h3 h4 h5 h6 h7 h8
    have hmade := (S.step k2 i2 h3).made h6 h7 h8
    by_cases c1 : k2 < K
    · have := I.mono (k2 + 1) K (by omega) (Nat.le_refl _)
      exact hp _ (by omega) (I.pend k2 i2 o2 h3 c1 (fun h => h5 (.inl h)) h6 h7 h8)
    · by_cases c2 : k2 = K
      · subst c2; rw [hk] at h3; cases h3; exact absurd (.inr rfl) h5
      · have := hmono (K + 1) k2 (by omega) (by omega)
        cases hφ : φ' (f k2).2.n with
        | none => rfl
        | some l => have := (hH.dom _ l hφ).1; omega
end
end Go.AM
namespace Go.AM
open Go
variable [Syms]
omit [Syms] in
theorem tyOf_from (C : Ctx) (n : Nat) : (C.from n).tyOf = C.tyOf := rfl
omit [Syms] in
theorem chkF_from (C : Ctx) (n : Nat) (chk : TypeId → Value → Bool) (cs : Array Value) : ∀ fs, chkF (C.from n) chk cs fs = chkF C chk cs fs
  | [] => rfl
  | f :: fs => by unfold chkF; rw [chkF_from C n chk cs fs]; rfl
omit [Syms] in
theorem eqF_from (C : Ctx) (n : Nat) (eq : TypeId → Value → Value → Option Bool) (xs ys : Array Value) : ∀ fs, eqF (C.from n) eq xs ys fs = eqF C eq xs ys fs
  | [] => rfl
  | f :: fs => by
    have := eqF_from C n eq xs ys fs
    unfold eqF; simp only [this, tyOf_from]
omit [Syms] in
theorem chk_from (C : Ctx) (n : Nat) : ∀ m t v, chkV (C.from n) m t v = chkV C m t v := by
  intro m
  induction m with
  | zero => intro t v; rfl
  | succ m ih =>
    intro t v
    have : chkV (C.from n) m = chkV C m := by funext t v; exact ih t v
    unfold chkV
    simp only [this, chkF_from, tyOf_from]
omit [Syms] in
theorem eqV_from (C : Ctx) (n : Nat) : ∀ m t v x, eqV (C.from n) m t v x = eqV C m t v x := by
  intro m
  induction m with
  | zero => intro t v x; rfl
  | succ m ih =>
    intro t v x
    have : eqV (C.from n) m = eqV C m := by funext t v x; exact ih t v x
    unfold eqV
    simp only [this, eqF_from, tyOf_from]
omit [Syms] in
theorem lookK_from (C : Ctx) (n : Nat) (t k es) : lookK (C.from n) t k es = lookK C t k es := by
  have h1 : keyEq (C.from n) = keyEq C := by
    funext t u k x
    unfold keyEq
    simp only [eqV_from]
  unfold lookK
  rw [h1]
  simp only [chk_from]
  rfl
omit [Syms] in
theorem t1 (C : Ctx) (n : Nat) (H : Heap) (t k x y) : updateB (C.from n) H t k x y = updateB C H t k x y := by
  unfold updateB; simp only [lookK_from]; rfl
omit [Syms] in
theorem t4 (C : Ctx) (n : Nat) (H : Heap) (t k x ) : deleteB (C.from n) H t k x  = deleteB C H t k x  := by
  unfold deleteB; simp only [lookK_from]; rfl
omit [Syms] in
theorem t5 (C : Ctx) (n : Nat) (ρ) (H : Heap) (t k x y) : bUpdate (C.from n) ρ H t k x y = bUpdate C ρ H t k x y := by
  unfold bUpdate; simp only [t1]
omit [Syms] in
theorem t6 (C : Ctx) (n : Nat) (H : Heap) (b args ts) : bBuiltin (C.from n) H b args ts = bBuiltin C H b args ts := by
  unfold bBuiltin; simp only [t4]; rfl
omit [Syms] in
theorem inv_from (C : Ctx) (n : Nat) (rec : Rec) (H : Heap) (x name l) : bInvoke (C.from n) rec H x name l = bInvoke C rec H x name l := rfl
omit [Syms] in
theorem t7 (C : Ctx) (n : Nat) (rec : Rec) (ρ) (H : Heap) (c) : bCall (C.from n) rec ρ H c = bCall C rec ρ H c := by
  unfold bCall; simp only [t6, inv_from]
omit [Syms] in
theorem opB_from (C : Ctx) (n : Nat) (rec : Rec) (ρ) (H : Heap) (o) : opB (C.from n) rec ρ H o = opB C rec ρ H o := by
  unfold opB; simp only [t5, t7]; rfl

omit [Syms] in
theorem places_from (C : Ctx) (n : Nat) : ∀ fs, placesOf (C.from n) fs = placesOf C fs
  | [] => rfl
  | f :: fs => by unfold placesOf; simp only [places_from C n fs, tyOf_from]
omit [Syms] in
theorem binV_from (C : Ctx) (n : Nat) (op t x y) : binV (C.from n) op t x y = binV C op t x y := by
  unfold binV; simp only [eqV_from]; rfl
omit [Syms] in
theorem buildV_from (C : Ctx) (n : Nat) (t ps) : buildV (C.from n) t ps = buildV C t ps := by
  unfold buildV; simp only [places_from]; rfl
omit [Syms] in
theorem pBin_from (C : Ctx) (n : Nat) (ρ op t x y) : pBin (C.from n) ρ op t x y = pBin C ρ op t x y := by
  have e : (C.from n).rules = C.rules := rfl
  unfold pBin; simp only [binV_from, e]
omit [Syms] in
theorem pBuild_from (C : Ctx) (n : Nat) (ρ t ps) : pBuild (C.from n) ρ t ps = pBuild C ρ t ps := by
  unfold pBuild; simp only [buildV_from]
omit [Syms] in
theorem opP_from (C : Ctx) (n : Nat) (ρ o) : opP (C.from n) ρ o = opP C ρ o := by
  unfold opP; simp only [pBin_from, pBuild_from]; rfl
omit [Syms] in
theorem rLookup_from (C : Ctx) (n : Nat) (ρ H t x i ok) : rLookup (C.from n) ρ H t x i ok = rLookup C ρ H t x i ok := by
  unfold rLookup; simp only [lookK_from]; rfl
omit [Syms] in
theorem opR_from (C : Ctx) (n : Nat) (ρ H o) : opR (C.from n) ρ H o = opR C ρ H o := by
  unfold opR; simp only [rLookup_from]; rfl
omit [Syms] in
theorem cls_from (C : Ctx) (n : Nat) : cls (C.from n) = cls C := rfl
omit [Syms] in
theorem sort3_from (C : Ctx) (n : Nat) : sort3 (C.from n) = sort3 C := rfl
omit [Syms] in
theorem opF_from (C : Ctx) (n : Nat) (rec : Rec) : opF (C.from n) rec = opF C rec := by
  funext ρ H o
  unfold opF; simp only [opP_from, opR_from, opB_from, cls_from]
omit [Syms] in
theorem opsF_from (C : Ctx) (n : Nat) (rec : Rec) : opsF (C.from n) rec = opsF C rec := by
  have : opsStep (C.from n) rec = opsStep C rec := by
    funext all o ih tm H
    unfold opsStep; simp only [opF_from]; rfl
  funext all os
  unfold opsF; rw [this]
omit [Syms] in
theorem isB_from (C : Ctx) (n : Nat) : isB (C.from n) = isB C := rfl
omit [Syms] in
theorem isAt_from (C : Ctx) (n : Nat) : isAt (C.from n) = isAt C := rfl
omit [Syms] in
theorem order_from (C : Ctx) (n : Nat) : order (C.from n) = order C := rfl
omit [Syms] in
theorem chained_from (C : Ctx) (n : Nat) (anc all) : ∀ σ l, chained (C.from n) anc all l σ = chained C anc all l σ
  | [], _ => rfl
  | i :: σ, l => by unfold chained; simp only [isB_from, isAt_from, chained_from C n anc all σ]
omit [Syms] in
theorem static_from (C : Ctx) (n : Nat) : static (C.from n) = static C := by
  funext all; unfold static; simp only [chained_from, order_from]
omit [Syms] in
theorem drawGo_from (C : Ctx) (n : Nat) (rec : Rec) (all) : ∀ σ tm H l hs rs ns, drawGo (C.from n) rec all σ tm H l hs rs ns = drawGo C rec all σ tm H l hs rs ns
  | [], _, _, _, _, _, _ => rfl
  | i :: σ, tm, H, l, hs, rs, ns => by
    unfold drawGo; simp only [isB_from, sort3_from, opP_from, opR_from, opB_from, drawGo_from C n rec all σ]; rfl
omit [Syms] in
theorem rdOk_from (C : Ctx) (n : Nat) : rdOk (C.from n) = rdOk C := by
  funext anc all hs r; unfold rdOk; simp only [opR_from]; rfl
omit [Syms] in
theorem drawF_from (C : Ctx) (n : Nat) (rec : Rec) : drawF (C.from n) rec = drawF C rec := by
  funext all tm H; unfold drawF; simp only [static_from, order_from, drawGo_from, rdOk_from]
omit [Syms] in
theorem resL_from (C : Ctx) (n : Nat) (tm H) : ∀ rs, resL (C.from n) tm H rs = resL C tm H rs
  | [] => rfl
  | r :: rs => by unfold resL; simp only [resL_from C n tm H rs]; rfl
omit [Syms] in
theorem callF_from (C : Ctx) (n : Nat) (rec) : callF (C.from n) rec = callF C rec := by
  funext f args H; unfold callF resOf; simp only [resL_from]; rfl
omit [Syms] in
theorem codeF_from (C : Ctx) (n : Nat) (rec) : codeF (C.from n) rec = codeF C rec := by
  funext c tm H; unfold codeF; simp only [callF_from, drawF_from, opsF_from]; rfl
omit [Syms] in
theorem run_from (C : Ctx) (n : Nat) : ∀ k, run (C.from n) k = run C k
  | 0 => rfl
  | k + 1 => by
    show codeF (C.from n) (run (C.from n) k) = codeF C (run C k)
    rw [run_from C n k, codeF_from]
omit [Syms] in
theorem call_from (C : Ctx) (n k : Nat) : call (C.from n) k = call C k := by
  funext f args H; unfold call; rw [run_from, callF_from]
omit [Syms] in
theorem from_from (C : Ctx) (n m : Nat) : (C.from n).from m = C.from m := rfl
omit [Syms] in
theorem from_lo (C : Ctx) : C.from C.lo = C := rfl
end Go.AM
namespace Go.AM
open Go
variable [Syms]

section
variable {C : Ctx} {rec : Rec} {all : List Oper} {hs : List Hd} {rs : List Rd} {ns : List Nd} {f : Nat → St} {σ : List Nat} {φ0 : Phi} {a0 : Act} {w0 : World}
variable {L : Nat → Prop} {K : Nat} {φ : Phi} {a : Act} {w : World} {k i : Nat} {o : Oper}

/-- the heap that stands now, and that what stands next may stand there -/
theorem Inv.now (I : Inv C all f σ φ0 a0 w0 L K φ a w) (S : Seen C rec all hs rs ns f σ) (ho : all[i]? = some o) (hL : ¬ L i) (hr : ∀ j ∈ edgeOf o, L j) :
    ∃ h ∈ hs, h.H = (f K).2 ∧ away (ancs [] all) h i = false := by
  obtain ⟨h, hm, e1, e2, e3⟩ := S.heaps K I.kle I.kb
  refine ⟨h, hm, e1, ?_⟩
  unfold away
  rw [Bool.or_eq_false_iff]
  constructor
  · split
    · rename_i j hj
      rw [hj] at e2
      cases hb : bit (ancs [] all) i j with
      | false => rfl
      | true =>
        have hLj := ready_bit S.edges I.closed ho hr hb
        rcases I.kb with e | ⟨i', h1, h2⟩
        · rw [List.getElem?_eq_none (by omega)] at e2; cases e2
        · rw [h1] at e2; cases e2
          have := (I.wr K j h1 h2).1 hLj; omega
    · rfl
  · split
    · rename_i j hj
      cases hb : bit (ancs [] all) j i with
      | false => rfl
      | true =>
        obtain ⟨k, hk, h1, h2⟩ := e3 j hj
        have hLj := (I.wr k j h1 h2).2 hk
        exact absurd (closed_bit S.edges I.closed j i hLj hb) hL
    · rfl

theorem Inv.step (hC : COk C) (hrec : ∀ n, RecOk (C.from n) rec) {ops : Array Oper} (hall : ops.toList = all) (I : Inv C all f σ φ0 a0 w0 L K φ a w) (S : Seen C rec all hs rs ns f σ)
    (ho : all[i]? = some o) (hL : ¬ L i) (hr : ∀ j ∈ edgeOf o, L j) {Q : Exit → Act → World → Prop} {next : Act → World → Prop}
    (hnext : ∀ K' φ' a' w', Inv C all f σ φ0 a0 w0 (fun j => L j ∨ j = i) K' φ' a' w' → next a' w') : wpOp C.P ops Q i next a w := by
  subst hall
  obtain ⟨k, hk⟩ := S.mem ho
  have hkl := (List.getElem?_eq_some_iff.1 hk).1
  have hlook := I.looks S hk ho hL hr
  have hρ := evR_rho (L := AM.looks ops.toList o) I.hr hlook
  have hi : ops[i]? = some o := by simpa using ho
  have hB := isB_sort (C := C) ho
  have hlisted := fun h => chained_listed S.edges C I.closed σ none S.chain k i hk h (fun j hj => ready_bit S.edges I.closed ho hr hj)
  -- one that writes stands at K
  have hwr : isB C ops.toList i = true → k = K := by
    intro hb
    rcases Nat.lt_trichotomy k K with hlt | e | hlt
    · exact absurd ((I.wr k i hk hb).2 hlt) hL
    · exact e
    · rcases I.kb with e | ⟨i', h1, h2⟩
      · omega
      · have := (hlisted (.inl hb)).2 K i' hlt h1 h2
        have := (I.wr K i' h1 h2).1 this; omega
  have hps : ∀ {φ' : Phi}, φ' = φ → ∀ (k2 i2 : Nat) o2, σ[k2]? = some i2 → k2 < K → ¬ L i2 → i2 ≠ i → ops.toList[i2]? = some o2 → sort3 C o2.op = .a → guardOk ops.toList (f k2).1 o2 = some true → φ' (f k2).2.n = none := by
    rintro φ' rfl k2 i2 o2 h1 h2 h3 _ h5 h6 h7
    exact I.pend k2 i2 o2 h1 h2 h3 h5 h6 h7
  unfold wpOp
  rw [hi]
  dsimp only
  obtain ⟨p, hp, hstep⟩ := S.step k i hk
  rw [ho] at hp; cases hp
  rcases hstep with ⟨hg, hput, hheap⟩ | ⟨hg, v, hput, hstep⟩
  · rw [guard_wanted1 hlook hg]
    simp only [Bool.false_eq_true, if_false]
    cases hb : isB C ops.toList i
    · exact hnext _ _ _ _ (I.still S hk ho hL hr hput (.tuple [] [] .nil) hb I.hr (Ext.refl _ _ _) (hps rfl))
    · have := hwr hb; subst this
      obtain ⟨K', I'⟩ := I.write S hk ho hL hr hput (.tuple [] [] .nil) hb (hheap ▸ I.hr) (Ext.refl _ _ _) (by rw [hheap]; exact Nat.le_refl _) (fun _ _ h => h)
      exact hnext _ _ _ _ I'
  · rw [guard_wanted1 hlook hg]
    simp only [if_true]
    left
    -- what only answers
    have hyl : ∀ {v' : Value}, Yl C.P a.eval o.op w φ v → isB C ops.toList i = false → o.wp C.P a w next Q := by
      intro _ hy hb
      obtain ⟨v', w', h1, h2, h3⟩ := hy o rfl
      unfold Oper.wp
      rw [h1, Oper.upon_value]
      rcases h3 with rfl | rfl
      · exact hnext _ _ _ _ (I.still S hk ho hL hr hput h2 hb I.hr (Ext.refl _ _ _) (hps rfl))
      · exact hnext _ _ _ _ (I.still S hk ho hL hr hput h2 hb I.hr.drew (Ext.drew _ _ _) (hps rfl))
    rcases hstep with ⟨hs3, hv, hheap⟩ | ⟨hs3, hv, hheap, hmem⟩ | ⟨hs3, hv, x, hx, hmem⟩ | ⟨hs3, hv⟩
    · exact hyl (v' := undef) (opP_sound w hC hρ hv) (by cases hb : isB C ops.toList i with | false => rfl | true => rw [hB.1.1 hb] at hs3; cases hs3)
    · have hnow := S.reads _ hmem
      obtain ⟨h, hm, e1, e2⟩ := I.now S ho hL hr
      unfold rdOk at hnow
      rw [List.all_eq_true] at hnow
      have hnow := hnow h hm
      dsimp only at hnow
      rw [e2, e1] at hnow
      simp only [Bool.false_or] at hnow
      split at hnow
      · rename_i v2 hv2
        have := veq_eq 4 _ _ hnow
        subst this
        exact hyl (v' := undef) (opR_sound w hC hρ I.hr hv2) (by cases hb : isB C ops.toList i with | false => rfl | true => rw [hB.1.1 hb] at hs3; cases hs3)
      · cases hnow
    · have hb : isB C ops.toList i = false := by cases hb : isB C ops.toList i with | false => rfl | true => rw [hB.1.1 hb] at hs3; cases hs3
      have hkK : k < K := by
        rcases Nat.lt_trichotomy k K with hlt | e | hlt
        · exact hlt
        · subst e
          rcases I.kb with e | ⟨i', h1, h2⟩
          · omega
          · rw [hk] at h1; cases h1; rw [hb] at h2; cases h2
        · rcases I.kb with e | ⟨i', h1, h2⟩
          · omega
          · have := (hlisted (.inr (hB.2.2 hs3))).2 K i' hlt h1 h2
            have := (I.wr K i' h1 h2).1 this; omega
      obtain ⟨b, y, mk, hnew, rfl, hmk⟩ := allocB_makes hC hρ hv
      obtain ⟨rfl, hn1⟩ := Heap.new_n hnew
      obtain ⟨_, _, _, _, hblk⟩ := Heap.new_spec (I.full k (by omega)) hnew
      have hxy : x = y := by rw [hblk, if_pos rfl] at hx; cases hx; rfl
      subst hxy
      -- the block stands in the heap of now
      have hnow := S.news _ hmem
      obtain ⟨h, hm, e1, e2⟩ := I.now S ho hL hr
      unfold ndOk at hnow
      rw [List.all_eq_true] at hnow
      have hnow := hnow h hm
      dsimp only at hnow
      rw [e2, e1] at hnow
      simp only [Bool.false_or] at hnow
      split at hnow
      · rename_i x2 hx2
        have := blkEq_eq hnow
        subst this
        have hlow := I.mono 0 k (Nat.zero_le _) (by omega)
        have hφ := I.pend k i o hk hkK hL ho hs3 hg
        refine hmk w o a next Q rfl rfl ?_
        rintro v' w' ⟨obj, n, rfl, hob⟩
        have hbase : C.base ≤ (f k).2.n ∧ C.lo ≤ (f k).2.n := by
          have h0 : C.base ≤ (f 0).2.n ∧ C.lo ≤ (f 0).2.n := I.low0
          omega
        obtain ⟨φ', h1, h2, h3, h4⟩ := I.hr.late (l := ⟨w.heap.size, 0, n⟩) (o := obj) rfl hφ hx2 hbase.1 hbase.2 (fun φ' hle hb => (hob φ' _ hle hb).1)
        refine hnext _ _ _ _ (I.still S hk ho hL hr hput (hob φ' _ h4.le h1).2 hb h3 h4 ?_)
        intro k2 i2 o2 g1 g2 g3 g4 g5 g6 g7
        have hne : (f k2).2.n ≠ (f k).2.n := by
          have m1 := (S.step k2 i2 g1).made g5 g6 g7
          rcases Nat.lt_trichotomy k2 k with hlt | e | hlt
          · have := I.mono (k2 + 1) k (by omega) (by omega); omega
          · subst e; rw [hk] at g1; cases g1; exact absurd rfl g4
          · have := I.mono (k + 1) k2 (by omega) (by omega); omega
        rw [h2 _ hne]
        exact I.pend k2 i2 o2 g1 g2 g3 g5 g6 g7
      · cases hnow
    · have hb : isB C ops.toList i = true := hB.1.2 hs3
      have := hwr hb; subst this
      have hv' : opB (C.from (f k).2.n) rec (evR (C.from (f k).2.n).base (AM.looks ops.toList o) (f k).1) (f k).2 o.op = some (v, (f (k + 1)).2) := by rw [opB_from]; exact hv
      refine opB_goes w (hC.from (f k).2.n) (hrec _) hρ (I.hr.from (Nat.le_refl _)) hv' o a next Q rfl rfl ?_
      rintro v' w' ⟨φ', hext, hH', hvr⟩
      have hlo : C.lo ≤ (f k).2.n := I.hr.low.2
      obtain ⟨K', I'⟩ := I.write S hk ho hL hr hput hvr hb (hH'.back hlo) (hext.back hlo) hH'.low.2 (by
        intro b hlt hnone
        cases hφ : φ' b with
        | none => rfl
        | some l =>
          rcases hext.new b l hφ with h | ⟨⟨_, h⟩, _⟩
          · rw [hnone] at h; cases h
          · have : (f k).2.n ≤ b := h
            omega)
      exact hnext _ _ _ _ I'
end
end Go.AM
namespace Go.AM
open Go
variable [Syms]

omit [Syms] in
theorem count_set {l : List Bool} : ∀ {i : Nat}, l[i]? = some false → (l.set i true).count false + 1 = l.count false := by
  induction l with
  | nil => intro i h; simp at h
  | cons b l ih =>
    intro i h
    cases i with
    | zero => simp at h; subst h; simp
    | succ i =>
      have h' : l[i]? = some false := by simpa using h
      have := ih h'
      cases b <;> simp <;> omega

section
variable {C : Ctx} {rec : Rec} {ops : Array Oper} {hs : List Hd} {rs : List Rd} {ns : List Nd} {f : Nat → St} {σ : List Nat} {φ0 : Phi} {a0 : Act} {w0 : World}

omit [Syms] in
theorem edge_mem {o : Oper} {e : Edge} (he : e ∈ o.after) (hb : Region.binds .any e = true) : e.on ∈ edgeOf o := by
  unfold edgeOf
  exact List.mem_map.2 ⟨e, List.mem_filter.2 ⟨by simpa using he, hb⟩, rfl⟩

omit [Syms] in
theorem mem_edge {o : Oper} {j : Nat} (h : j ∈ edgeOf o) : ∃ e ∈ o.after, Region.binds .any e = true ∧ e.on = j := by
  unfold edgeOf at h
  obtain ⟨e, he, rfl⟩ := List.mem_map.1 h
  obtain ⟨h1, h2⟩ := List.mem_filter.1 he
  exact ⟨e, by simpa using h1, h2, rfl⟩

omit [Syms] in
/-- none is ready: all are listed -/
theorem all_listed (hE : edgesBack 0 ops.toList = true) {listed : Array Bool} (hsz : listed.size = ops.size) (h : Region.ready .any ops listed = []) : ∀ i, i < ops.size → listed.getD i false = true := by
  intro i
  induction i using Nat.strongRecOn with
  | _ i ih =>
    intro hi
    cases hl : listed.getD i false with
    | true => rfl
    | false =>
      exfalso
      have : i ∈ Region.ready .any ops listed := by
        rw [mem_ready]
        refine ⟨?_, ops[i], Array.getElem?_eq_getElem hi, ?_⟩
        · have : i < listed.size := by omega
          simp [this] at hl ⊢; exact hl
        · intro e he hb
          have hlt := edgesBack_get ops.toList 0 i ops[i] hE (by simp [hi]) e.on (edge_mem he hb)
          exact ih e.on (by omega) (by omega)
      rw [h] at this; cases this

theorem any_inv (hC : COk C) (hrec : ∀ n, RecOk (C.from n) rec) (S : Seen C rec ops.toList hs rs ns f σ) {Q : Exit → Act → World → Prop}
    (hQ : ∀ L K φ a w, (∀ i, i < ops.size → L i) → Inv C ops.toList f σ φ0 a0 w0 L K φ a w → Q .normal a w) :
    ∀ (fuel : Nat) (listed : Array Bool) K φ a w, listed.size = ops.size → listed.toList.count false ≤ fuel → Inv C ops.toList f σ φ0 a0 w0 (fun i => listed.getD i false = true) K φ a w →
    wpAny C.P .any ops Q fuel listed a w := by
  intro fuel
  induction fuel with
  | zero =>
    intro listed K φ a w hsz hc I
    have hall : ∀ i, i < ops.size → listed.getD i false = true := by
      intro i hi
      have hlt : i < listed.size := by omega
      have h0 : false ∉ listed.toList := by
        rw [← List.count_eq_zero]; omega
      simp [hlt]
      cases hv : listed[i] with
      | true => rfl
      | false => exact absurd (hv ▸ (by simp : listed[i] ∈ listed.toList)) h0
    refine ⟨?_, hQ _ K φ a w hall I⟩
    cases hr : Region.ready .any ops listed with
    | nil => rfl
    | cons i l =>
      have : i ∈ Region.ready .any ops listed := by rw [hr]; simp
      rw [mem_ready] at this
      obtain ⟨h1, o, ho, _⟩ := this
      have hlt : i < ops.size := (Array.getElem?_eq_some_iff.1 ho).1
      have h2 := hall i hlt
      have : i < listed.size := by omega
      simp [this] at h1 h2
      rw [h1] at h2; cases h2
  | succ fuel ih =>
    intro listed K φ a w hsz hc I
    refine ⟨fun hr => hQ _ K φ a w (all_listed S.edges hsz hr) I, ?_⟩
    intro i hi
    rw [mem_ready] at hi
    obtain ⟨h1, o, ho, h2⟩ := hi
    have hlt : i < listed.size := by have := (Array.getElem?_eq_some_iff.1 ho).1; omega
    have hfalse : listed.toList[i]? = some false := by simp [hlt] at h1 ⊢; exact h1
    have hL : ¬ (listed.getD i false = true) := by simp [hlt] at h1 ⊢; exact h1
    refine I.step hC hrec rfl S (by simpa using ho) hL (fun j hj => ?_) ?_
    · obtain ⟨e, he, hb, rfl⟩ := mem_edge hj
      exact h2 e he hb
    · intro K' φ' a' w' I'
      have hcount := count_set hfalse
      refine ih (listed.setIfInBounds i true) K' φ' a' w' (by simpa using hsz) ?_ ?_
      · rw [Array.toList_setIfInBounds]; omega
      · have : (fun j => (listed.setIfInBounds i true).getD j false = true) = fun j => (listed.getD j false = true ∨ j = i) := by
          funext j
          by_cases e : j = i
          · subst e; simp [hlt]
          · simp [Array.getElem?_setIfInBounds_ne (Ne.symm e), e]
        rw [this]; exact I'
end

theorem draw_ok {C : Ctx} (hC : COk C) {rec : Rec} (hrec : ∀ n, RecOk (C.from n) rec) (ops : Array Oper) {tm : T Value} {H : Heap} {e : Ex} {tm' : T Value} {H' : Heap}
    (h : drawF C rec ops.toList tm H = .ok e tm' H') {φ : Phi} {a : Act} {w : World} (id : Nat) (hH : HRel C φ H w) (hT : TRel φ tm a) :
    (Code.region id ops true).wp C.P (fun x a' w' => x = e.to ∧ After C φ a w tm' H' a' w') a w := by
  unfold drawF at h
  dsimp only at h
  cases hst : static C ops.toList
  · rw [hst] at h; cases h
  · rw [hst] at h; simp only [cond_true] at h
    split at h
    · rename_i tm1 H1 hs rs ns hgo
      cases hck : (rs.all (rdOk C (ancs [] ops.toList) ops.toList hs) && ns.all (ndOk (ancs [] ops.toList) hs))
      · rw [hck] at h; cases h
      · rw [hck] at h; simp only [cond_true] at h
        cases h
        simp only [Bool.and_eq_true, List.all_eq_true] at hck
        unfold static at hst
        simp only [Bool.and_eq_true] at hst
        obtain ⟨⟨hE, hcalm⟩, hchain⟩ := hst
        obtain ⟨_, _, _, f, f0, fe, fs, fh⟩ := drawGo_trace (s' := (tm', H')) _ _ _ _ _ _ _ hgo
        have S : Seen C rec ops.toList hs rs ns f (order C (ancs [] ops.toList) ops.toList) := by
          refine ⟨rfl, hE, hcalm, hchain, fs, ?_, hck.1, hck.2⟩
          intro K h1 h2
          obtain ⟨h, hm, e1, e2, e3⟩ := fh K h1 h2
          refine ⟨h, hm, e1, e2, fun j hj => ?_⟩
          rcases e3 j hj with e | e
          · cases e
          · exact e
        refine wp_region_any hC.mixed ?_
        -- the start
        have hH0 : HRel C φ (f 0).2 w.drew := by rw [f0]; exact hH.drew
        obtain ⟨K, hK1, hK2, hK3, hK4⟩ := next_writer C ops.toList (order C (ancs [] ops.toList) ops.toList) _ 0 rfl (Nat.zero_le _)
        have seg := segment (ops := ops) S.step hK2 hK4 φ w.drew K (by omega) hH0
        simp only [Nat.zero_add] at seg
        obtain ⟨hHK, hmono, hfull⟩ := seg
        have hsize : (Array.replicate ops.size false).size = ops.size := by simp
        have hnone : (fun i => (Array.replicate ops.size false).getD i false = true) = fun _ => False := by
          funext i
          simp [Array.getElem?_replicate]
          split <;> rfl
        have I : Inv C ops.toList f (order C (ancs [] ops.toList) ops.toList) φ a w (fun i => (Array.replicate ops.size false).getD i false = true) K φ a w.drew := by
          rw [hnone]
          refine ⟨fun _ _ _ h => h.elim, hK2, hK3, ?_, fun _ _ _ _ _ _ _ h => h.elim, ?_, hHK, ?_, hfull, ?_, ?_, rfl, Ext.drew _ _ _⟩
          · intro k i hk hb
            refine ⟨fun h => h.elim, fun hlt => ?_⟩
            have := hK4 k i (Nat.zero_le _) hlt hk
            rw [this] at hb; cases hb
          · intro t _
            rw [f0]
            have := hT t
            unfold Rel1
            dsimp only
            split
            · rename_i hg; rw [hg] at this; exact this
            · rename_i v hg; rw [hg] at this; exact this
          · intro k k' h1 h2; exact hmono k k' h1 h2
          · rw [f0]; exact hH.low
          · intro k i o hk hlt _ _ _ _
            have := hmono 0 k (Nat.zero_le _) (by omega)
            cases hφ : φ (f k).2.n with
            | none => rfl
            | some l =>
              have := (hH0.dom _ l hφ).1
              omega
        refine any_inv hC hrec S ?_ ops.size _ K φ a w.drew hsize (by simp) I
        intro L K' φ' a' w' hall I'
        have hKe : K' = (order C (ancs [] ops.toList) ops.toList).length := by
          rcases I'.kb with e | ⟨i, h1, h2⟩
          · exact e
          · have hi : i ∈ order C (ancs [] ops.toList) ops.toList := List.mem_of_getElem? h1
            rw [mem_order] at hi
            have := (I'.wr K' i h1 h2).1 (hall i (by simpa using hi)); omega
        refine ⟨rfl, φ', I'.ext, ?_, ?_, I'.defers⟩
        · have := I'.hr
          rw [hKe, fe] at this; exact this
        · intro t
          have key : Rel1 φ' (tm'.get t) a' t := by
            have hfe : (f (order C (ancs [] ops.toList) ops.toList).length).1 = tm' := by rw [fe]
            rw [← hfe]
            by_cases hx : ∃ (x : Nat) (ox : Oper), ops.toList[x]? = some ox ∧ ox.dst = some t
            · obtain ⟨x, ox, hx, hd⟩ := hx
              have huniq : ∀ (i2 : Nat) o2, ops.toList[i2]? = some o2 → o2.dst = some t → x = i2 := by
                intro i2 o2 h2 hd2
                rcases calm_spec hcalm hx hd h2 with e | ⟨e, _⟩
                · exact e
                · exact absurd hd2 e
              obtain ⟨kx, hkx⟩ := S.mem hx
              have hkl := (List.getElem?_eq_some_iff.1 hkx).1
              rw [get_between S.step (k := kx + 1) (k' := (order C (ancs [] ops.toList) ops.toList).length) (by omega) (Nat.le_refl _) (t := t) (fun k2 i2 o2 _ h2 h3 h4 h5 => by
                have := huniq i2 o2 h4 h5
                subst this
                have := S.inj hkx h3; omega)]
              exact I'.tmL t kx x ox hkx hx hd (hall x (by have := (List.getElem?_eq_some_iff.1 hx).1; simpa using this))
            · rw [get_between S.step (Nat.zero_le _) (Nat.le_refl _) (t := t) (fun k2 i2 o2 _ _ _ h4 h5 => hx ⟨i2, o2, h4, h5⟩)]
              exact I'.tm0 t fun i2 o2 h4 h5 => absurd ⟨i2, o2, h4, h5⟩ hx
          unfold Rel1 at key
          split
          · rename_i hg; rw [hg] at key; exact key
          · rename_i v hg; rw [hg] at key; exact key
    · cases h
end Go.AM
