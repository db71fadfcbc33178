/- AM: the bound on new blocks is for proofs alone: nothing that runs looks at it. -/
import Derived.Test.YtmohbeomlpjljaaGreatDoorAmDraw2
namespace Go.AM
open Go
variable [Syms]
omit [Syms] in
theorem tyOf_from (C : Ctx) (n : Nat) : (C.from n).tyOf = C.tyOf := rfl
omit [Syms] in
theorem chkF_from (C : Ctx) (n : Nat) (chk : TypeId → Value → Bool) (cs : Array Value) : ∀ fs, chkF (C.from n) chk cs fs = chkF C chk cs fs
  | [] => rfl
  | f :: fs => by unfold chkF; rw [chkF_from C n chk cs fs]; rfl
omit [Syms] in
theorem eqF_from (C : Ctx) (n : Nat) (eq : TypeId → Value → Value → Option Bool) (xs ys : Array Value) : ∀ fs, eqF (C.from n) eq xs ys fs = eqF C eq xs ys fs
  | [] => rfl
  | f :: fs => by
    have := eqF_from C n eq xs ys fs
    unfold eqF; simp only [this, tyOf_from]
omit [Syms] in
theorem chk_from (C : Ctx) (n : Nat) : ∀ m t v, chkV (C.from n) m t v = chkV C m t v := by
  intro m
  induction m with
  | zero => intro t v; rfl
  | succ m ih =>
    intro t v
    have : chkV (C.from n) m = chkV C m := by funext t v; exact ih t v
    unfold chkV
    simp only [this, chkF_from, tyOf_from]
omit [Syms] in
theorem eqV_from (C : Ctx) (n : Nat) : ∀ m t v x, eqV (C.from n) m t v x = eqV C m t v x := by
  intro m
  induction m with
  | zero => intro t v x; rfl
  | succ m ih =>
    intro t v x
    have : eqV (C.from n) m = eqV C m := by funext t v x; exact ih t v x
    unfold eqV
    simp only [this, eqF_from, tyOf_from]
omit [Syms] in
theorem lookK_from (C : Ctx) (n : Nat) (t k es) : lookK (C.from n) t k es = lookK C t k es := by
  have h1 : keyEq (C.from n) = keyEq C := by
    funext t u k x
    unfold keyEq
    simp only [eqV_from]
  unfold lookK
  rw [h1]
  simp only [chk_from]
  rfl
omit [Syms] in
theorem t1 (C : Ctx) (n : Nat) (H : Heap) (t k x y) : updateB (C.from n) H t k x y = updateB C H t k x y := by
  unfold updateB; simp only [lookK_from]; rfl
omit [Syms] in
theorem t4 (C : Ctx) (n : Nat) (H : Heap) (t k x ) : deleteB (C.from n) H t k x  = deleteB C H t k x  := by
  unfold deleteB; simp only [lookK_from]; rfl
omit [Syms] in
theorem t5 (C : Ctx) (n : Nat) (ρ) (H : Heap) (t k x y) : bUpdate (C.from n) ρ H t k x y = bUpdate C ρ H t k x y := by
  unfold bUpdate; simp only [t1]
omit [Syms] in
theorem t6 (C : Ctx) (n : Nat) (H : Heap) (b args ts) : bBuiltin (C.from n) H b args ts = bBuiltin C H b args ts := by
  unfold bBuiltin; simp only [t4]; rfl
omit [Syms] in
theorem inv_from (C : Ctx) (n : Nat) (rec : Rec) (H : Heap) (x name l) : bInvoke (C.from n) rec H x name l = bInvoke C rec H x name l := rfl
omit [Syms] in
theorem t7 (C : Ctx) (n : Nat) (rec : Rec) (ρ) (H : Heap) (c) : bCall (C.from n) rec ρ H c = bCall C rec ρ H c := by
  unfold bCall; simp only [t6, inv_from]
omit [Syms] in
theorem opB_from (C : Ctx) (n : Nat) (rec : Rec) (ρ) (H : Heap) (o) : opB (C.from n) rec ρ H o = opB C rec ρ H o := by
  unfold opB; simp only [t5, t7]; rfl

omit [Syms] in
theorem places_from (C : Ctx) (n : Nat) : ∀ fs, placesOf (C.from n) fs = placesOf C fs
  | [] => rfl
  | f :: fs => by unfold placesOf; simp only [places_from C n fs, tyOf_from]
omit [Syms] in
theorem binV_from (C : Ctx) (n : Nat) (op t x y) : binV (C.from n) op t x y = binV C op t x y := by
  unfold binV; simp only [eqV_from]; rfl
omit [Syms] in
theorem buildV_from (C : Ctx) (n : Nat) (t ps) : buildV (C.from n) t ps = buildV C t ps := by
  unfold buildV; simp only [places_from]; rfl
omit [Syms] in
theorem pBin_from (C : Ctx) (n : Nat) (ρ op t x y) : pBin (C.from n) ρ op t x y = pBin C ρ op t x y := by
  have e : (C.from n).rules = C.rules := rfl
  unfold pBin; simp only [binV_from, e]
omit [Syms] in
theorem pBuild_from (C : Ctx) (n : Nat) (ρ t ps) : pBuild (C.from n) ρ t ps = pBuild C ρ t ps := by
  unfold pBuild; simp only [buildV_from]
omit [Syms] in
theorem opP_from (C : Ctx) (n : Nat) (ρ o) : opP (C.from n) ρ o = opP C ρ o := by
  unfold opP; simp only [pBin_from, pBuild_from]; rfl
omit [Syms] in
theorem rLookup_from (C : Ctx) (n : Nat) (ρ H t x i ok) : rLookup (C.from n) ρ H t x i ok = rLookup C ρ H t x i ok := by
  unfold rLookup; simp only [lookK_from]; rfl
omit [Syms] in
theorem opR_from (C : Ctx) (n : Nat) (ρ H o) : opR (C.from n) ρ H o = opR C ρ H o := by
  unfold opR; simp only [rLookup_from]; rfl
omit [Syms] in
theorem cls_from (C : Ctx) (n : Nat) : cls (C.from n) = cls C := rfl
omit [Syms] in
theorem sort3_from (C : Ctx) (n : Nat) : sort3 (C.from n) = sort3 C := rfl
omit [Syms] in
theorem opF_from (C : Ctx) (n : Nat) (rec : Rec) : opF (C.from n) rec = opF C rec := by
  funext ρ H o
  unfold opF; simp only [opP_from, opR_from, opB_from, cls_from]
omit [Syms] in
theorem opsF_from (C : Ctx) (n : Nat) (rec : Rec) : opsF (C.from n) rec = opsF C rec := by
  have : opsStep (C.from n) rec = opsStep C rec := by
    funext all o ih tm H
    unfold opsStep; simp only [opF_from]; rfl
  funext all os
  unfold opsF; rw [this]
omit [Syms] in
theorem isB_from (C : Ctx) (n : Nat) : isB (C.from n) = isB C := rfl
omit [Syms] in
theorem isAt_from (C : Ctx) (n : Nat) : isAt (C.from n) = isAt C := rfl
omit [Syms] in
theorem order_from (C : Ctx) (n : Nat) : order (C.from n) = order C := rfl
omit [Syms] in
theorem chained_from (C : Ctx) (n : Nat) (anc all) : ∀ σ l, chained (C.from n) anc all l σ = chained C anc all l σ
  | [], _ => rfl
  | i :: σ, l => by unfold chained; simp only [isB_from, isAt_from, chained_from C n anc all σ]
omit [Syms] in
theorem static_from (C : Ctx) (n : Nat) : static (C.from n) = static C := by
  funext all; unfold static; simp only [chained_from, order_from]
omit [Syms] in
theorem drawGo_from (C : Ctx) (n : Nat) (rec : Rec) (all) : ∀ σ tm H l hs rs ns, drawGo (C.from n) rec all σ tm H l hs rs ns = drawGo C rec all σ tm H l hs rs ns
  | [], _, _, _, _, _, _ => rfl
  | i :: σ, tm, H, l, hs, rs, ns => by
    unfold drawGo; simp only [isB_from, sort3_from, opP_from, opR_from, opB_from, drawGo_from C n rec all σ]; rfl
omit [Syms] in
theorem rdOk_from (C : Ctx) (n : Nat) : rdOk (C.from n) = rdOk C := by
  funext anc all hs r; unfold rdOk; simp only [opR_from]; rfl
omit [Syms] in
theorem drawF_from (C : Ctx) (n : Nat) (rec : Rec) : drawF (C.from n) rec = drawF C rec := by
  funext all tm H; unfold drawF; simp only [static_from, order_from, drawGo_from, rdOk_from]
omit [Syms] in
theorem resL_from (C : Ctx) (n : Nat) (tm H) : ∀ rs, resL (C.from n) tm H rs = resL C tm H rs
  | [] => rfl
  | r :: rs => by unfold resL; simp only [resL_from C n tm H rs]; rfl
omit [Syms] in
theorem callF_from (C : Ctx) (n : Nat) (rec) : callF (C.from n) rec = callF C rec := by
  funext f args H; unfold callF resOf; simp only [resL_from]; rfl
omit [Syms] in
theorem codeF_from (C : Ctx) (n : Nat) (rec) : codeF (C.from n) rec = codeF C rec := by
  funext c tm H; unfold codeF; simp only [callF_from, drawF_from, opsF_from]; rfl
omit [Syms] in
theorem run_from (C : Ctx) (n : Nat) : ∀ k, run (C.from n) k = run C k
  | 0 => rfl
  | k + 1 => by
    show codeF (C.from n) (run (C.from n) k) = codeF C (run C k)
    rw [run_from C n k, codeF_from]
omit [Syms] in
theorem call_from (C : Ctx) (n k : Nat) : call (C.from n) k = call C k := by
  funext f args H; unfold call; rw [run_from, callF_from]
omit [Syms] in
theorem from_from (C : Ctx) (n m : Nat) : (C.from n).from m = C.from m := rfl
omit [Syms] in
theorem from_lo (C : Ctx) : C.from C.lo = C := rfl
end Go.AM
