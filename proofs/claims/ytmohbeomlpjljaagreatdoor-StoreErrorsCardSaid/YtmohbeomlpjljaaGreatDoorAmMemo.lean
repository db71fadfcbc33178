/- AM: closed calls of functions that touch nothing: reckoned once, and looked up then. -/
import Derived.Test.YtmohbeomlpjljaaGreatDoorAmStart
namespace Go.AM
open Go
variable [Syms]
noncomputable section

/-- values that stand for themselves, and what is made of them -/
def pl : Nat → Value → Bool
  | 0, v => flat v
  | n + 1, v => match v with
    | .agg cs => cs.toList.all (pl n)
    | .tuple cs => cs.toList.all (pl n)
    | v => flat v

theorem flat_eq {φ : Phi} {v v' : Value} (h : flat v = true) (r : VRel φ v v') : v' = v := by
  cases r <;> first | rfl | cases h

theorem all_eq {φ : Phi} {p : Value → Bool} (hp : ∀ v v', p v = true → VRel φ v v' → v' = v) : ∀ (l l' : List Value), l.all p = true → VRels φ l l' → l' = l
  | [], _, _, r => by cases r; rfl
  | v :: l, _, h, r => by
    cases r with
    | cons _ v' _ l' hv hl =>
      simp only [List.all_cons, Bool.and_eq_true] at h
      rw [hp v v' h.1 hv, all_eq hp l l' h.2 hl]

theorem all_rel {φ : Phi} {p : Value → Bool} (hp : ∀ v, p v = true → VRel φ v v) : ∀ {l : List Value}, l.all p = true → VRels φ l l
  | [], _ => .nil
  | v :: l, h => by
    simp only [List.all_cons, Bool.and_eq_true] at h
    exact .cons _ _ _ _ (hp v h.1) (all_rel hp h.2)

theorem pl_eq {φ : Phi} : ∀ n v v', pl n v = true → VRel φ v v' → v' = v
  | 0, _, _, h, r => flat_eq h r
  | n + 1, v, v', h, r => by
    unfold pl at h
    split at h
    · cases r with
      | agg _ xs' hx => rw [show xs' = _ from all_eq (pl_eq n) _ _ h hx]
    · cases r with
      | tuple _ xs' hx => rw [show xs' = _ from all_eq (pl_eq n) _ _ h hx]
    · exact flat_eq h r

theorem pl_rel {φ : Phi} : ∀ n v, pl n v = true → VRel φ v v
  | 0, _, h => flat_rel h
  | n + 1, v, h => by
    unfold pl at h
    split at h
    · exact .agg _ _ (all_rel (pl_rel n) h)
    · exact .tuple _ _ (all_rel (pl_rel n) h)
    · exact flat_rel h

abbrev Row := List Value × Value

def hitOf (args : List Value) : List Row → Option Value
  | [] => none
  | r :: l => bif all2 (veq 3) r.1 args then some r.2 else hitOf args l

def tabsOk (H : Heap) (f : Nat → Blk) : Nat → Bool
  | 0 => true
  | g + 1 => (match f g with
    | .dead => true
    | .tab vs => (match H.blk g with | some (.tab us) => all2 (veq 2) vs us && vs.all flat | _ => false)
    | _ => false) && tabsOk H f g

def memo (base : Nat) (f : Nat → Blk) (rows : List Row) : Prim := fun args H =>
  bif tabsOk H f base then (match hitOf args rows with | some v => some (v, H) | none => none) else none

def isV (v : Value) : Option (Value × Heap) → Bool
  | some (x, _) => veq 3 x v
  | none => false

def rowB (C : Ctx) (g : FuncId) (n : Nat) (f : Nat → Blk) (r : Row) : Bool :=
  r.1.all (pl 2) && pl 2 r.2 && isV r.2 (call C n g r.1 ⟨C.base, T.build f 24 C.base 1 0⟩)

omit [Syms] in
theorem hitOf_spec {args : List Value} : ∀ {rows : List Row} {v : Value}, hitOf args rows = some v → ∃ r ∈ rows, r.1 = args ∧ r.2 = v
  | [], _, h => by cases h
  | r :: l, v, h => by
    unfold hitOf at h
    cases hb : all2 (veq 3) r.1 args
    · rw [hb] at h
      obtain ⟨r', h1, h2⟩ := hitOf_spec h
      exact ⟨r', List.mem_cons_of_mem _ h1, h2⟩
    · rw [hb] at h
      cases h
      exact ⟨r, List.mem_cons_self .., all2_eq (veq_eq 3) hb, rfl⟩

/-- what a machine has of a block of the program's own variables -/
def GivenAt (w : World) (g : Nat) (x : Blk) : Prop :=
  x = .dead ∨ ∃ e vs cs fr, x = .tab vs ∧ w.heap[g]? = some (.cells cs e fr) ∧ vs.all flat = true ∧ vs.length ≤ cs.size ∧ cs.toList.take vs.length = vs

theorem start_at {C : Ctx} {w : World} {f : Nat → Blk} (hlo : C.lo ≤ C.base) (hb : C.base ≤ w.heap.size) (hs : C.base ≤ 4096) (hf : ∀ g, g < C.base → GivenAt w g (f g)) :
    HRel C (phi0 C.base) ⟨C.base, T.build f 24 C.base 1 0⟩ w := by
  have hL : LIMIT = 4194304 := by decide
  have hget : ∀ i, (T.build f 24 C.base 1 0).get i = if i < C.base then some (f i) else none := by
    intro i
    rw [T.get_build _ 24 C.base 1 0 i (by omega)]; simp
  have hphi : ∀ b l, phi0 C.base b = some l → b < C.base ∧ l.c = b ∧ l.d = 0 ∧ l = ⟨b, 0, 0⟩ := by
    intro b l h
    unfold phi0 at h
    split at h
    · rename_i hlt
      cases h
      exact ⟨hlt, rfl, rfl, rfl⟩
    · cases h
  refine ⟨?_, by show C.base ≤ LIMIT + 1; omega, ?_, ⟨Nat.le_refl _, hlo⟩, ?_, ?_, ?_⟩
  · intro i
    show ((T.build f 24 C.base 1 0).get i).isSome = decide (i < C.base)
    rw [hget]
    by_cases h : i < C.base <;> simp [h]
  · intro g hg
    exact ⟨_, by unfold phi0; rw [if_pos hg], rfl, rfl⟩
  · intro b l h
    obtain ⟨h1, h2, _⟩ := hphi b l h
    exact ⟨h1, by omega, fun _ => by omega⟩
  · intro b l x h hx
    obtain ⟨h1, h2, h3, h4⟩ := hphi b l h
    have hx' : (T.build f 24 C.base 1 0).get b = some x := hx
    rw [hget, if_pos h1] at hx'
    cases hx'
    rcases hf b h1 with e | ⟨e, vs, cs, fr, e1, e2, e3, e4, e5⟩
    · rw [e]; exact .dead _
    · rw [e1]
      subst h4
      show BRel C _ _ _ w.heap[b]?
      rw [e2]
      refine .tab vs cs e fr (by show 0 + vs.length ≤ _; omega) ?_
      show VRels _ _ ((cs.toList.drop 0).take vs.length)
      rw [List.drop_zero, e5]
      exact flats_rel e3
  · intro b b' l l' x x' h h' hne _ _ _ _
    obtain ⟨_, h2, _⟩ := hphi b l h
    obtain ⟨_, h2', _⟩ := hphi b' l' h'
    omega

theorem HRel.given {C : Ctx} {φ : Phi} {H : Heap} {w : World} (hH : HRel C φ H w) {f : Nat → Blk} : ∀ {n : Nat}, n ≤ C.base → tabsOk H f n = true → ∀ g, g < n → GivenAt w g (f g)
  | 0, _, _, g, hg => by omega
  | n + 1, hn, h, g, hg => by
    unfold tabsOk at h
    simp only [Bool.and_eq_true] at h
    by_cases e : g = n
    · subst e
      obtain ⟨l, hl, hlc, hld⟩ := hH.base g (by omega)
      have h1 := h.1
      split at h1
      · rename_i hf; exact .inl hf
      · rename_i vs hf
        split at h1
        · rename_i us hu
          simp only [Bool.and_eq_true] at h1
          have := all2_eq (veq_eq 2) h1.1
          subst this
          have hb := hH.blk g l _ hl hu
          rw [hlc] at hb
          generalize hg2 : w.heap[g]? = o at hb
          cases hb with
          | tab _ cs e fr hle hv =>
            rw [hld] at hle hv
            refine .inr ⟨e, vs, cs, fr, hf, hg2, h1.2, by omega, ?_⟩
            rw [List.drop_zero] at hv
            exact all_eq (fun v v' a b => flat_eq a b) _ _ h1.2 hv
        · cases h1
      · cases h1
    · exact HRel.given hH (by omega) h.2 g (by omega)

/-- a call that touches nothing leaves the machine's memory as it was -/
theorem HRel.still {C : Ctx} {φ : Phi} {H : Heap} {w w' : World} (hH : HRel C φ H w) (hs : w.heap.size ≤ w'.heap.size) (hb : ∀ c, c < w.heap.size → w'.heap[c]? = w.heap[c]?) : HRel C φ H w' := by
  refine ⟨hH.full, hH.small, hH.base, hH.low, ?_, ?_, hH.sep⟩
  · intro b l h
    obtain ⟨h1, h2, h3⟩ := hH.dom b l h
    exact ⟨h1, by omega, h3⟩
  · intro b l x h hx
    rw [hb l.c (hH.dom b l h).2.1]
    exact hH.blk b l x h hx

theorem memo_at {C C0 : Ctx} (hC0 : COk C0) (hP0 : ∀ n, PrimOk (C0.from n)) (hPP : C0.P = C.P) (hbb : C0.base = C.base) (hlo : C0.lo ≤ C0.base) (hs : C0.base ≤ 4096)
    {g : FuncId} {fn : Func} {b : Code} (hg : C.P.funcs[g]? = some fn) (hb : fn.body = some b) (hname : (fn.name == "runtime.NumGoroutine") = false)
    {f : Nat → Blk} {rows : List Row} (hrows : ∀ r ∈ rows, ∃ n, rowB C0 g n f r = true) : PrimAt C g (memo C.base f rows) := by
  intro args H v H' hr φ w args' hH ha
  unfold memo at hr
  cases ht : tabsOk H f C.base
  · rw [ht] at hr; cases hr
  · rw [ht] at hr; simp only [cond_true] at hr
    split at hr
    · rename_i v1 hf
      simp only [Option.some.injEq, Prod.mk.injEq] at hr
      obtain ⟨rfl, rfl⟩ := hr
      obtain ⟨r, hmem, rfl, rfl⟩ := hitOf_spec hf
      obtain ⟨n, hrow⟩ := hrows r hmem
      unfold rowB at hrow
      simp only [Bool.and_eq_true] at hrow
      obtain ⟨⟨h1, h2⟩, h3⟩ := hrow
      have hargs : args' = r.1 := all_eq (pl_eq 2) _ _ h1 ha
      subst hargs
      left
      refine ⟨callFunc_enter hg hb hname _ w, ?_⟩
      have hsz : C0.base ≤ w.heap.size := by
        by_cases h0 : C0.base = 0
        · omega
        · obtain ⟨l, hl, hlc, _⟩ := hH.base (C0.base - 1) (by omega)
          have := (hH.dom _ l hl).2.1
          omega
      have hH0 := start_at (C := C0) (w := w) (f := f) hlo hsz hs (fun g hg => hH.given (Nat.le_refl _) ht g (by omega))
      cases hc : call C0 n g r.1 ⟨C0.base, T.build f 24 C0.base 1 0⟩ with
      | none => rw [hc] at h3; cases h3
      | some p =>
        obtain ⟨x, H1⟩ := p
        rw [hc] at h3
        have hx : x = r.2 := veq_eq 3 _ _ h3
        subst hx
        rcases call_calls hC0 hP0 n g r.1 _ _ _ hc (phi0 C0.base) w r.1 hH0 (all_rel (pl_rel 2) h1) with ⟨_, h⟩ | ⟨v', w', h, _⟩
        · rw [hPP] at h
          refine h.mono ?_
          rintro e w' ⟨v', rfl, φ', hext, _, hv⟩
          have hold : ∀ c, c < w.heap.size → w'.heap[c]? = w.heap[c]? := by
            intro c hc
            refine hext.fr.block c hc ?_
            intro b l hb hl _
            unfold phi0 at hl
            rw [if_neg (by omega)] at hl
            cases hl
          refine ⟨v', rfl, φ, ⟨Le.refl φ, ⟨hext.fr.os, hext.fr.tape, hext.fr.output, hext.fr.size, fun c hc _ => hold c hc⟩, fun b l hl => .inl hl⟩, hH.still hext.fr.size hold, ?_⟩
          rw [pl_eq 2 _ _ h2 hv]
          exact pl_rel 2 _ h2
        · rw [hPP, callFunc_enter hg hb hname] at h
          cases h
    · cases hr
end

/-- a closed call, but for its arguments -/
theorem closed_true_at {C : Ctx} (hC : COk C) (hP : ∀ n, PrimOk (C.from n)) {g : FuncId} {fn : Func} {b : Code} (hg : C.P.funcs[g]? = some fn) (hb : fn.body = some b) (hname : (fn.name == "runtime.NumGoroutine") = false)
    {n : Nat} {f : Nat → Blk} {args : List Value} (hpl : args.all (pl 2) = true) (hrun : isTrue (call C n g args ⟨C.base, T.build f 24 C.base 1 0⟩) = true)
    {w : World} (hlo : C.lo ≤ C.base) (hbase : C.base ≤ w.heap.size) (hs : C.base ≤ 4096) (hf : ∀ g, g < C.base → Given w g (f g)) :
    Calls C.P g ⟨args⟩ w (fun e w' => e = .returned (.bool true) ∧ Go.RowKit.Below w.heap.size w w') := by
  have hH := start hlo hbase hs hf
  cases hr : call C n g args ⟨C.base, T.build f 24 C.base 1 0⟩ with
  | none => rw [hr] at hrun; cases hrun
  | some p =>
    obtain ⟨v, H'⟩ := p
    rw [hr] at hrun
    have hv : v = .bool true := by
      cases v <;> first | (cases hrun; done) | (simp only [isTrue] at hrun; subst hrun; rfl)
    subst hv
    rcases call_calls hC hP n g args _ _ _ hr (phi0 C.base) w args hH (all_rel (pl_rel 2) hpl) with ⟨_, h⟩ | ⟨v', w', h, _⟩
    · refine h.mono ?_
      rintro e w' ⟨v', rfl, φ', hext, _, hv⟩
      cases hv
      refine ⟨rfl, hext.fr.os, hext.fr.tape, hext.fr.output, hext.fr.size, fun c hc => hext.fr.block c hc ?_⟩
      intro b l hb hl _
      unfold phi0 at hl
      rw [if_neg (by omega)] at hl
      cases hl
    · rw [callFunc_enter hg hb hname] at h
      cases h
/-- a closed call, but for its arguments, which the machine may not know -/
theorem closed_true_sym {C : Ctx} (hC : COk C) (hP : ∀ n, PrimOk (C.from n)) {g : FuncId} {fn : Func} {b : Code} (hg : C.P.funcs[g]? = some fn) (hb : fn.body = some b) (hname : (fn.name == "runtime.NumGoroutine") = false)
    {n : Nat} {f : Nat → Blk} {args args' : List Value} (hargs : VRels (phi0 C.base) args args') (hrun : isTrue (call C n g args ⟨C.base, T.build f 24 C.base 1 0⟩) = true)
    {w : World} (hlo : C.lo ≤ C.base) (hbase : C.base ≤ w.heap.size) (hs : C.base ≤ 4096) (hf : ∀ g, g < C.base → Given w g (f g)) :
    Calls C.P g ⟨args'⟩ w (fun e w' => e = .returned (.bool true) ∧ Go.RowKit.Below w.heap.size w w') := by
  have hH := start hlo hbase hs hf
  cases hr : call C n g args ⟨C.base, T.build f 24 C.base 1 0⟩ with
  | none => rw [hr] at hrun; cases hrun
  | some p =>
    obtain ⟨v, H'⟩ := p
    rw [hr] at hrun
    have hv : v = .bool true := by
      cases v <;> first | (cases hrun; done) | (simp only [isTrue] at hrun; subst hrun; rfl)
    subst hv
    rcases call_calls hC hP n g args _ _ _ hr (phi0 C.base) w args' hH hargs with ⟨_, h⟩ | ⟨v', w', h, _⟩
    · refine h.mono ?_
      rintro e w' ⟨v', rfl, φ', hext, _, hv⟩
      cases hv
      refine ⟨rfl, hext.fr.os, hext.fr.tape, hext.fr.output, hext.fr.size, fun c hc => hext.fr.block c hc ?_⟩
      intro b l hb hl _
      unfold phi0 at hl
      rw [if_neg (by omega)] at hl
      cases hl
    · rw [callFunc_enter hg hb hname] at h
      cases h
end Go.AM
