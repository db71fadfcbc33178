/- AM: the machine of a program; where a call begins; what a closed call comes to. -/
import Derived.Test.YtmohbeomlpjljaaGreatDoorAmPrimOk
namespace Go.AM
open Go
variable [Syms]

theorem ctxR_ok {P : Program} {pr : T (Option Prim)} {base : Nat} {rules : List Rule} (hm : P.follows .mixedOrders = true) (hr : ∀ u ∈ rules, RuleOk P u) : COk (ctxR P pr base rules) := by
  refine ⟨?_, ?_, hm, hr⟩
  · intro t d h
    unfold Ctx.tyOf at h
    have hg : (ctxR P pr base rules).ty.get t = if t < 1024 then some (TI.of P t) else none := by
      show (T.build (TI.of P) 24 1024 1 0).get t = _
      rw [T.get_build _ 24 1024 1 0 t (by decide)]; simp
    rw [hg] at h
    by_cases ht : t < 1024
    · rw [if_pos ht] at h; exact h
    · rw [if_neg ht] at h; cases h
  · intro f d h
    unfold Ctx.fnOf at h
    have hg : (ctxR P pr base rules).fn.get f = if f < 2048 then some (FI.of P f) else none := by
      show (T.build (FI.of P) 24 2048 1 0).get f = _
      rw [T.get_build _ 24 2048 1 0 f (by decide)]; simp
    rw [hg] at h
    by_cases ht : f < 2048
    · rw [if_pos ht] at h; exact h
    · rw [if_neg ht] at h; cases h

theorem ctx_ok {P : Program} {pr : T (Option Prim)} {base : Nat} (hm : P.follows .mixedOrders = true) : COk (ctx P pr base) := ctxR_ok (rules := []) hm (fun _ h => by cases h)

omit [Syms] in
theorem ctxR_prim {P : Program} {f : Nat → Option Prim} {n base : Nat} {rules : List Rule} (hn : n ≤ 2048) {g : FuncId} {p : Prim} (h : (ctxR P (T.build f 24 n 1 0) base rules).prOf g = some p) : f g = some p := by
  unfold Ctx.prOf at h
  have hg : (ctxR P (T.build f 24 n 1 0) base rules).pr.get g = if g < n then some (f g) else none := by
    show (T.build f 24 n 1 0).get g = _
    rw [T.get_build _ 24 n 1 0 g (by omega)]; simp
  rw [hg] at h
  by_cases ht : g < n
  · rw [if_pos ht] at h; exact h
  · rw [if_neg ht] at h; cases h

omit [Syms] in
theorem ctx_prim {P : Program} {f : Nat → Option Prim} {n base : Nat} (hn : n ≤ 2048) {g : FuncId} {p : Prim} (h : (ctx P (T.build f 24 n 1 0) base).prOf g = some p) : f g = some p := by
  unfold Ctx.prOf at h
  have hg : (ctx P (T.build f 24 n 1 0) base).pr.get g = if g < n then some (f g) else none := by
    show (T.build f 24 n 1 0).get g = _
    rw [T.get_build _ 24 n 1 0 g (by omega)]; simp
  rw [hg] at h
  by_cases ht : g < n
  · rw [if_pos ht] at h; exact h
  · rw [if_neg ht] at h; cases h

/-- what the machine has of a block of the program's own variables: nothing, or a table -/
def Given (w : World) (g : Nat) (x : Blk) : Prop :=
  x = .dead ∨ ∃ e vs cs fr, x = .tab vs ∧ w.heap[g]? = some (.cells cs e fr) ∧ vs.all flat = true ∧ cs.toList = vs

def phi0 (base : Nat) : Phi := fun b => if b < base then some ⟨b, 0, 0⟩ else none

theorem start {C : Ctx} {w : World} {f : Nat → Blk} (hlo : C.lo ≤ C.base) (hb : C.base ≤ w.heap.size) (hs : C.base ≤ 4096) (hf : ∀ g, g < C.base → Given w g (f g)) :
    HRel C (phi0 C.base) ⟨C.base, T.build f 24 C.base 1 0⟩ w := by
  have hL : LIMIT = 4194304 := by decide
  have hget : ∀ i, (T.build f 24 C.base 1 0).get i = if i < C.base then some (f i) else none := by
    intro i
    rw [T.get_build _ 24 C.base 1 0 i (by omega)]; simp
  have hphi : ∀ b l, phi0 C.base b = some l → b < C.base ∧ l.c = b ∧ l.d = 0 ∧ l = ⟨b, 0, 0⟩ := by
    intro b l h
    unfold phi0 at h
    split at h
    · rename_i hlt
      cases h
      exact ⟨hlt, rfl, rfl, rfl⟩
    · cases h
  refine ⟨?_, by show C.base ≤ LIMIT + 1; omega, ?_, ⟨Nat.le_refl _, hlo⟩, ?_, ?_, ?_⟩
  · intro i
    show ((T.build f 24 C.base 1 0).get i).isSome = decide (i < C.base)
    rw [hget]
    by_cases h : i < C.base <;> simp [h]
  · intro g hg
    exact ⟨_, by unfold phi0; rw [if_pos hg], rfl, rfl⟩
  · intro b l h
    obtain ⟨h1, h2, _⟩ := hphi b l h
    exact ⟨h1, by omega, fun _ => by omega⟩
  · intro b l x h hx
    obtain ⟨h1, h2, h3, h4⟩ := hphi b l h
    have hx' : (T.build f 24 C.base 1 0).get b = some x := hx
    rw [hget, if_pos h1] at hx'
    cases hx'
    rcases hf b h1 with e | ⟨e, vs, cs, fr, e1, e2, e3, e4⟩
    · rw [e]; exact .dead _
    · rw [e1]
      subst h4
      show BRel C _ _ _ w.heap[b]?
      rw [e2]
      have hlen : cs.size = vs.length := by rw [← e4]; simp
      refine .tab vs cs e fr (by show 0 + vs.length ≤ _; omega) ?_
      show VRels _ _ ((cs.toList.drop 0).take vs.length)
      rw [List.drop_zero, e4, List.take_of_length_le (Nat.le_refl _)]
      exact flats_rel e3
  · intro b b' l l' x x' h h' hne _ _ _ _
    obtain ⟨_, h2, _⟩ := hphi b l h
    obtain ⟨_, h2', _⟩ := hphi b' l' h'
    omega

def isTrue : Option (Value × Heap) → Bool
  | some (.bool b, _) => b
  | _ => false

theorem closed_true {C : Ctx} (hC : COk C) (hP : ∀ n, PrimOk (C.from n)) {g : FuncId} {fn : Func} {b : Code} (hg : C.P.funcs[g]? = some fn) (hb : fn.body = some b) (hname : (fn.name == "runtime.NumGoroutine") = false)
    {n : Nat} {f : Nat → Blk} (hrun : isTrue (call C n g [] ⟨C.base, T.build f 24 C.base 1 0⟩) = true)
    {w : World} (hlo : C.lo ≤ C.base) (hbase : C.base ≤ w.heap.size) (hs : C.base ≤ 4096) (hf : ∀ g, g < C.base → Given w g (f g)) :
    Calls C.P g #[] w (fun e w' => e = .returned (.bool true) ∧ Go.RowKit.Below w.heap.size w w') := by
  have hH := start hlo hbase hs hf
  cases hr : call C n g [] ⟨C.base, T.build f 24 C.base 1 0⟩ with
  | none => rw [hr] at hrun; cases hrun
  | some p =>
    obtain ⟨v, H'⟩ := p
    rw [hr] at hrun
    have hv : v = .bool true := by
      cases v <;> first | (cases hrun; done) | (simp only [isTrue] at hrun; subst hrun; rfl)
    subst hv
    rcases call_calls hC hP n g [] _ _ _ hr (phi0 C.base) w [] hH .nil with ⟨_, h⟩ | ⟨v', w', h, _⟩
    · refine h.mono ?_
      rintro e w' ⟨v', rfl, φ', hext, _, hv⟩
      cases hv
      refine ⟨rfl, hext.fr.os, hext.fr.tape, hext.fr.output, hext.fr.size, fun c hc => hext.fr.block c hc ?_⟩
      intro b l hb hl _
      unfold phi0 at hl
      rw [if_neg (by omega)] at hl
      cases hl
    · rw [callFunc_enter hg hb hname] at h
      cases h
end Go.AM
