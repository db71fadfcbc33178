/- AM: calls; all operations. -/
import Derived.Test.YtbloeaegccnlhaaGreatDoorAmOps11
namespace Go.AM
open Go

/-- a function that the machine takes at its word -/
def RecOk (C : Ctx) (rec : Rec) : Prop :=
  ∀ g args H v H', rec g args H = some (v, H') → ∀ φ w args', HRel C φ H w → VRels φ args args' →
    ((callFunc g ⟨args'⟩).run C.P w = Result.ok (.enter g ⟨args'⟩) w ∧ Calls C.P g ⟨args'⟩ w (fun e w' => ∃ v', e = .returned v' ∧ Post C φ w H' v v' w')) ∨
    ∃ v' w', (callFunc g ⟨args'⟩).run C.P w = Result.ok (.value v') w' ∧ Post C φ w H' v v' w'

section
variable {C : Ctx} {φ : Phi} {ρ : Env} {ev : Operand → Value} {H H' : Heap} {rec : Rec} (w : World)

theorem RecOk.goes (hrec : RecOk C rec) (hH : HRel C φ H w) {g : FuncId} {args args' : List Value} {v : Value} (h : rec g args H = some (v, H')) (ha : VRels φ args args')
    {op : Op} (he : ∀ o : Oper, o.op = op → (execOp ev o).run C.P w = (callFunc g ⟨args'⟩).run C.P w) : Goes C.P ev op w (Post C φ w H' v) := by
  intro o a next E ho hev hn
  unfold Oper.wp
  rw [hev, he o ho]
  rcases hrec g args H v H' h φ w args' hH ha with ⟨h1, h2⟩ | ⟨v', w', h1, h2⟩
  · rw [h1, Oper.upon_enter]
    refine h2.mono ?_
    rintro e w' ⟨v', rfl, hp⟩
    exact hn _ _ hp
  · rw [h1, Oper.upon_value]
    exact hn _ _ h2

theorem builtin_goes (hC : COk C) (hρ : ERho φ ρ ev) (hH : HRel C φ H w) {c : Call} {b : Builtin} (hc : c.callee = .builtin b) {v : Value}
    (h : bBuiltin C H b (evL ρ c.args.toList) c.argTypes.toList = some (v, H')) : Goes C.P ev (.call c) w (Post C φ w H' v) := by
  have em : (c.args.map ev).toList = c.args.toList.map ev := by simp
  have eargs : c.args.map ev = ⟨c.args.toList.map ev⟩ := by apply Array.ext'; simp
  unfold bBuiltin at h
  split at h
  · split at h
    · rename_i s x st xt hl ht
      have h1 := evL_rel hρ _ _ hl
      refine run_builtin hc (fun ty => Builtin.append_ c.argTypes ty (c.args.map ev)) (fun _ _ => rfl) ?_
      intro ty
      generalize hg : c.args.toList.map ev = g at h1 eargs
      cases h1 with
      | cons _ s' _ _ hs htl =>
        cases htl with
        | cons _ x' _ _ hx htl2 =>
          cases htl2
          have hts : c.argTypes = #[st, xt] := Array.ext' ht
          rw [eargs, hts]
          exact append_goes w hC hH h hs hx ty
    · cases h
  · split at h
    · rename_i d x dt tl hl ht
      have h1 := evL_rel hρ _ _ hl
      refine run_builtin hc (fun ty => Builtin.copy_ c.argTypes ty (c.args.map ev)) (fun _ _ => rfl) ?_
      intro ty
      generalize hg : c.args.toList.map ev = g at h1 eargs
      cases h1 with
      | cons _ s' _ _ hs htl =>
        cases htl with
        | cons _ x' _ _ hx htl2 =>
          cases htl2
          have hty : c.argTypes[0]? = some dt := by rw [← Array.getElem?_toList, ht]; rfl
          rw [eargs]
          exact copy_goes w hC hH hty h hs hx ty
    · cases h
  · cases hl : evL ρ c.args.toList with
    | none => rw [hl] at h; unfold bString at h; cases h
    | some args =>
      rw [hl] at h
      have h1 := evL_rel hρ _ _ hl
      refine run_builtin hc (fun ty => Builtin.unsafeString_ c.argTypes ty (c.args.map ev)) (fun _ _ => rfl) ?_
      intro ty
      rw [eargs]
      exact string_goes w hC hH h h1 ty
  · split at h
    · rename_i m k t tl hl ht
      have h1 := evL_rel hρ _ _ hl
      split at h
      · rename_i H1 hd
        simp only [Option.some.injEq, Prod.mk.injEq] at h
        obtain ⟨rfl, rfl⟩ := h
        refine run_builtin hc (fun ty => Builtin.delete_ c.argTypes ty (c.args.map ev)) (fun _ _ => rfl) ?_
        intro ty
        generalize hg : c.args.toList.map ev = g at h1 eargs
        cases h1 with
        | cons _ s' _ _ hs htl =>
          cases htl with
          | cons _ x' _ _ hx htl2 =>
            cases htl2
            have hty : c.argTypes[0]? = some t := by rw [← Array.getElem?_toList, ht]; rfl
            rw [eargs]
            exact delete_goes w hC hH hty hd hs hx ty
      · cases h
    · cases h
  · cases h

theorem call_goes (hC : COk C) (hrec : RecOk C rec) (hρ : ERho φ ρ ev) (hH : HRel C φ H w) {c : Call} {v : Value} (h : bCall C rec ρ H c = some (v, H')) :
    Goes C.P ev (.call c) w (Post C φ w H' v) := by
  unfold bCall at h
  split at h
  · rename_i f hc
    unfold bFun at h
    split at h
    · rename_i g first captured hf
      split at h
      · rename_i args hargs
        have h1 := hρ f _ hf
        have h2 := evL_rel hρ _ _ hargs
        generalize he : ev f = u at h1
        cases h1 with
        | func _ xs ys xs' ys' hxs hys =>
          refine hrec.goes w hH h ((hxs.append h2).append hys) ?_
          rintro ⟨dst, op, type, pos, after, guard⟩ ho; subst ho
          simp only [execOp, resolve, hc, he, Deferred.ofValue, pure_bind, invoke]
          congr 2
          apply Array.ext'
          simp
      · cases h
    · cases h
  · cases h
  · rename_i b hc
    exact builtin_goes w hC hρ hH hc h

theorem opB_goes (hC : COk C) (hrec : RecOk C rec) (hρ : ERho φ ρ ev) (hH : HRel C φ H w) {o : Op} {v : Value} (h : opB C rec ρ H o = some (v, H')) :
    Goes C.P ev o w (Post C φ w H' v) := by
  unfold opB at h
  split at h
  · exact goes_store w hC hρ hH h
  · rename_i t m k x
    unfold bUpdate at h
    split at h
    · rename_i mv kv xv hm hk hx
      split at h
      · rename_i H1 hu
        simp only [Option.some.injEq, Prod.mk.injEq] at h
        obtain ⟨rfl, rfl⟩ := h
        obtain ⟨w', h1, h2⟩ := update_goes w hC hH hu (hρ _ _ hm) (hρ _ _ hk) (hρ _ _ hx)
        exact Goes.skip (Instr.mapUpdate t (ev m) (ev k) (ev x)) (by rintro ⟨dst, op, type, pos, after, guard⟩ ho; subst ho; rfl) h1 h2
      · cases h
    · cases h
  · rename_i t m k x
    unfold bUpdate at h
    split at h
    · rename_i mv kv xv hm hk hx
      split at h
      · rename_i H1 hu
        simp only [Option.some.injEq, Prod.mk.injEq] at h
        obtain ⟨rfl, rfl⟩ := h
        obtain ⟨w', h1, h2⟩ := update_goes w hC hH hu (hρ _ _ hm) (hρ _ _ hk) (hρ _ _ hx)
        exact Goes.skip (Instr.mapUpdate t (ev m) (ev k) (ev x)) (by rintro ⟨dst, op, type, pos, after, guard⟩ ho; subst ho; rfl) h1 h2
      · cases h
    · cases h
  · exact conv_goes w hC hρ hH h
  · exact range_goes w hC hρ hH h
  · rename_i it isS
    cases isS
    · simp only [cond_false] at h
      split at h
      · rename_i x hx
        intro o a next E ho hev hn
        obtain ⟨v', w', h1, h2⟩ := next_goes w hH h (hρ _ _ hx) o.type
        unfold Oper.wp
        have : execOp ev o = (do pure (.value (← Instr.next (ev it) false o.type))) := by
          obtain ⟨dst, op, type, pos, after, guard⟩ := o
          subst ho; rfl
        rw [hev, this]
        simp only [Sem.run_bind, h1, Result.andThen_ok, Sem.run_pure, Oper.upon_value]
        exact hn _ _ h2
      · cases h
    · cases h
  · exact call_goes w hC hrec hρ hH h
  · rename_i o1 _ _ _ _ _ _ _
    cases o with
    | alloc t => exact goes_alloc w hC hH h
    | box t x => exact goes_box w hρ hH h
    | buildSlice t len parts => exact goes_buildSlice w hC hρ hH h
    | makeMap t r =>
      cases r with
      | none => exact goes_makeMap w hH h
      | some x => cases h
    | makeSlice t l c => exact goes_makeSlice w hC hρ hH h
    | _ => cases h

theorem opF_goes (hC : COk C) (hrec : RecOk C rec) (hρ : ERho φ ρ ev) (hH : HRel C φ H w) {o : Op} {v : Value} (h : opF C rec ρ H o = some (v, H')) :
    Goes C.P ev o w (Post C φ w H' v) := by
  unfold opF at h
  split at h
  · cases hv : opP C ρ o with
    | none => rw [hv] at h; cases h
    | some u =>
      rw [hv] at h
      simp only [retV, Option.some.injEq, Prod.mk.injEq] at h
      obtain ⟨rfl, rfl⟩ := h
      exact (opP_sound w hC hρ hv).goes hH
  · cases hv : opR C ρ H o with
    | none => rw [hv] at h; cases h
    | some u =>
      rw [hv] at h
      simp only [retV, Option.some.injEq, Prod.mk.injEq] at h
      obtain ⟨rfl, rfl⟩ := h
      exact (opR_sound w hC hρ hH hv).goes hH
  · exact opB_goes w hC hrec hρ hH h
end
end Go.AM
