/- AM: calls; all operations. -/
import Derived.Test.YtmohbeomlpjljaaGreatDoorAmOps11
namespace Go.AM
open Go
variable [Syms]

omit [Syms] in
theorem method_run {P : Program} {w : World} {t : TypeId} {v : Value} {name : String} {i : TypeInfo} {m : Method} {f : FuncId} {u : TypeDesc} (n : Nat) (ptr : Bool)
    (hi : (typeInfo t).run P w = .ok i w) (hm : i.methods.find? (·.name == name) = some m) (hp : m.path = #[]) (hf : m.func = some (f, ptr)) (hu : (underlying t).run P w = .ok u w)
    (h : (ptr = true ∧ ∃ e, u = .pointer e) ∨ (ptr = false ∧ ∀ e, u ≠ .pointer e)) :
    (method (n + 1) t v name).run P w = .ok (f, v) w := by
  unfold method
  simp only [Sem.run_bind, hi, Result.andThen_ok, hm, hp, hf]
  have hfol : (follow (#[] : Array FieldStep).toList t (.val v)).run P w = .ok (t, .val v) w := rfl
  simp only [hfol, Result.andThen_ok, Sem.run_bind]
  rcases h with ⟨rfl, e, rfl⟩ | ⟨rfl, hne⟩
  · simp only [receiverAt, Sem.run_bind, hu, Result.andThen_ok, Place.get, Sem.run_pure]
  · have hr : (receiverAt t (.val v) false (if (#[] : Array FieldStep).isEmpty then some ((name.splitOn ".").getLastD name) else none)).run P w = .ok v w := by
      unfold receiverAt
      simp only [Sem.run_bind, hu, Result.andThen_ok]
      cases u <;> first | rfl | exact absurd rfl (hne _)
    simp only [hr, Result.andThen_ok, Sem.run_pure]

omit [Syms] in
theorem method_load {P : Program} {w : World} {t e : TypeId} {a : Addr} {x : Value} {name : String} {i : TypeInfo} {m : Method} {f : FuncId} (n : Nat)
    (hi : (typeInfo t).run P w = .ok i w) (hm : i.methods.find? (·.name == name) = some m) (hp : m.path = #[]) (hf : m.func = some (f, false)) (hu : (underlying t).run P w = .ok (.pointer e) w)
    (hl : (loadVar e a).run P w = .ok x w) :
    (method (n + 1) t (.pointer (some a)) name).run P w = .ok (f, x) w := by
  unfold method
  simp only [Sem.run_bind, hi, Result.andThen_ok, hm, hp, hf]
  have hfol : (follow (#[] : Array FieldStep).toList t (.val (.pointer (some a)))).run P w = .ok (t, .val (.pointer (some a))) w := rfl
  simp only [hfol, Result.andThen_ok, Sem.run_bind]
  have hr : (receiverAt t (.val (.pointer (some a))) false (if (#[] : Array FieldStep).isEmpty then some ((name.splitOn ".").getLastD name) else none)).run P w = .ok x w := by
    unfold receiverAt
    simp only [Sem.run_bind, hu, Result.andThen_ok, Place.get, Sem.run_pure]
    rw [if_pos (by rfl)]
    have hc : ∀ s : String, (Builtin.ssaWrapNilChk_ #[t] t #[.pointer (some a), strVal "", strVal s]).run P w = .ok (.pointer (some a)) w := fun s => rfl
    rw [Sem.run_bind, hc]
    simp only [Result.andThen_ok, asAddr, pure_bind]
    exact hl
  simp only [hr, Result.andThen_ok, Sem.run_pure]

/-- a function that the machine takes at its word -/
def RecOk (C : Ctx) (rec : Rec) : Prop :=
  ∀ g args H v H', rec g args H = some (v, H') → ∀ φ w args', HRel C φ H w → VRels φ args args' →
    ((callFunc g ⟨args'⟩).run C.P w = Result.ok (.enter g ⟨args'⟩) w ∧ Calls C.P g ⟨args'⟩ w (fun e w' => ∃ v', e = .returned v' ∧ Post C φ w H' v v' w')) ∨
    ∃ v' w', (callFunc g ⟨args'⟩).run C.P w = Result.ok (.value v') w' ∧ Post C φ w H' v v' w'

section
variable {C : Ctx} {φ : Phi} {ρ : Env} {ev : Operand → Value} {H H' : Heap} {rec : Rec} (w : World)

theorem RecOk.goes (hrec : RecOk C rec) (hH : HRel C φ H w) {g : FuncId} {args args' : List Value} {v : Value} (h : rec g args H = some (v, H')) (ha : VRels φ args args')
    {op : Op} (he : ∀ o : Oper, o.op = op → (execOp ev o).run C.P w = (callFunc g ⟨args'⟩).run C.P w) : Goes C.P ev op w (Post C φ w H' v) := by
  intro o a next E ho hev hn
  unfold Oper.wp
  rw [hev, he o ho]
  rcases hrec g args H v H' h φ w args' hH ha with ⟨h1, h2⟩ | ⟨v', w', h1, h2⟩
  · rw [h1, Oper.upon_enter]
    refine h2.mono ?_
    rintro e w' ⟨v', rfl, hp⟩
    exact hn _ _ hp
  · rw [h1, Oper.upon_value]
    exact hn _ _ h2

theorem builtin_goes (hC : COk C) (hρ : ERho φ ρ ev) (hH : HRel C φ H w) {c : Call} {b : Builtin} (hc : c.callee = .builtin b) {v : Value}
    (h : bBuiltin C H b (evL ρ c.args.toList) c.argTypes.toList = some (v, H')) : Goes C.P ev (.call c) w (Post C φ w H' v) := by
  have em : (c.args.map ev).toList = c.args.toList.map ev := by simp
  have eargs : c.args.map ev = ⟨c.args.toList.map ev⟩ := by apply Array.ext'; simp
  unfold bBuiltin at h
  split at h
  · split at h
    · rename_i s x st xt hl ht
      have h1 := evL_rel hρ _ _ hl
      refine run_builtin hc (fun ty => Builtin.append_ c.argTypes ty (c.args.map ev)) (fun _ _ => rfl) ?_
      intro ty
      generalize hg : c.args.toList.map ev = g at h1 eargs
      cases h1 with
      | cons _ s' _ _ hs htl =>
        cases htl with
        | cons _ x' _ _ hx htl2 =>
          cases htl2
          have hts : c.argTypes = #[st, xt] := Array.ext' ht
          rw [eargs, hts]
          exact append_goes w hC hH h hs hx ty
    · cases h
  · split at h
    · rename_i d x dt tl hl ht
      have h1 := evL_rel hρ _ _ hl
      refine run_builtin hc (fun ty => Builtin.copy_ c.argTypes ty (c.args.map ev)) (fun _ _ => rfl) ?_
      intro ty
      generalize hg : c.args.toList.map ev = g at h1 eargs
      cases h1 with
      | cons _ s' _ _ hs htl =>
        cases htl with
        | cons _ x' _ _ hx htl2 =>
          cases htl2
          have hty : c.argTypes[0]? = some dt := by rw [← Array.getElem?_toList, ht]; rfl
          rw [eargs]
          exact copy_goes w hC hH hty h hs hx ty
    · cases h
  · cases hl : evL ρ c.args.toList with
    | none => rw [hl] at h; unfold bString at h; cases h
    | some args =>
      rw [hl] at h
      have h1 := evL_rel hρ _ _ hl
      refine run_builtin hc (fun ty => Builtin.unsafeString_ c.argTypes ty (c.args.map ev)) (fun _ _ => rfl) ?_
      intro ty
      rw [eargs]
      exact string_goes w hC hH h h1 ty
  · split at h
    · rename_i x t tl hl ht
      have h1 := evL_rel hρ _ _ hl
      refine run_builtin hc (fun ty => Builtin.clear_ c.argTypes ty (c.args.map ev)) (fun _ _ => rfl) ?_
      intro ty
      generalize hg : c.args.toList.map ev = g at h1 eargs
      cases h1 with
      | cons _ x' _ _ hx htl =>
        cases htl
        have hty : c.argTypes[0]? = some t := by rw [← Array.getElem?_toList, ht]; rfl
        rw [eargs]
        exact clear_goes w hC hH hty h hx ty
    · cases h
  · split at h
    · rename_i m k t tl hl ht
      have h1 := evL_rel hρ _ _ hl
      split at h
      · rename_i H1 hd
        simp only [Option.some.injEq, Prod.mk.injEq] at h
        obtain ⟨rfl, rfl⟩ := h
        refine run_builtin hc (fun ty => Builtin.delete_ c.argTypes ty (c.args.map ev)) (fun _ _ => rfl) ?_
        intro ty
        generalize hg : c.args.toList.map ev = g at h1 eargs
        cases h1 with
        | cons _ s' _ _ hs htl =>
          cases htl with
          | cons _ x' _ _ hx htl2 =>
            cases htl2
            have hty : c.argTypes[0]? = some t := by rw [← Array.getElem?_toList, ht]; rfl
            rw [eargs]
            exact delete_goes w hC hH hty hd hs hx ty
      · cases h
    · cases h
  · cases h

theorem invoke_goes (hC : COk C) (hrec : RecOk C rec) (hρ : ERho φ ρ ev) (hH : HRel C φ H w) {c : Call} {x : Operand} {name : String} (hc : c.callee = .invoke x name) {v : Value}
    (h : bInvoke C rec H (ρ x) name (evL ρ c.args.toList) = some (v, H')) : Goes C.P ev (.call c) w (Post C φ w H' v) := by
  unfold bInvoke at h
  split at h
  · rename_i r l hr hl
    have h1 := hρ x _ hr
    have h2 := evL_rel hρ _ _ hl
    unfold invokeB at h
    split at h
    · rename_i t u
      split at h
      · rename_i i ht
        split at h
        · rename_i m hm
          generalize he : ev x = g at h1
          cases h1 with
          | iface _ _ u' hu =>
            obtain ⟨i', hi, -, -, -, hms⟩ := hC.run_info w ht
            have hund := hC.run_und w ht
            have hm' : i'.methods.find? (·.name == name) = some m := by
              rw [← hms, ← Array.find?_toList]; exact hm
            have fin : ∀ (f : FuncId) (y y' : Value), rec f (y :: l) H = some (v, H') → VRel φ y y' →
                (∀ n, (method (n + 1) t u' name).run C.P w = Result.ok (f, y') w) → Goes C.P ev (.call c) w (Post C φ w H' v) := by
              intro f y y' hy hyy hrun
              refine hrec.goes w hH hy (.cons _ _ _ _ hyy h2) ?_
              rintro ⟨dst, op, type, pos, after, guard⟩ ho; subst ho
              have hd : C.P.types.size + Made.depth = (C.P.types.size + 99) + 1 := rfl
              have hargs : (#[Value.iface t u'] ++ c.args.map ev).extract 1 (#[Value.iface t u'] ++ c.args.map ev).size = c.args.map ev := by
                apply Array.ext'; simp [List.take_of_length_le]
              have h0 : (#[Value.iface t u'] ++ c.args.map ev)[0]? = some (.iface t u') := by rw [Array.getElem?_append_left (by simp)]; rfl
              simp only [execOp, resolve, hc, he, pure_bind, invoke, h0, hargs, callMethod, Sem.run_bind, run_program, Result.andThen_ok, hd, hrun]
              congr 2
              apply Array.ext'
              simp
            have hpath : ∀ {m : Method}, m.path.toList = [] → m.path = #[] := fun h => Array.ext' h
            split at h
            · rename_i f hp hf
              split at h
              · rename_i e hu1
                exact fin f u u' h hu (fun n => method_run n true hi hm' (hpath hp) hf hund (.inl ⟨rfl, e, hu1⟩))
              · cases h
            · rename_i f hp hf
              split at h
              · rename_i e hu1
                split at h
                · rename_i x hx
                  have hx0 := hx
                  unfold loadV at hx0
                  split at hx0
                  · rename_i b off
                    obtain ⟨x', hx1, hx2⟩ := loadV_sound w hC hH hx hu
                    cases hu with
                    | ptr _ _ lo hlo =>
                      refine fin f x x' h hx2 (fun n => method_load n hi hm' (hpath hp) hf (by rw [hund, hu1]) ?_)
                      exact hx1
                  · cases hx0
                · cases h
              · rename_i hne
                exact fin f u u' h hu (fun n => method_run n false hi hm' (hpath hp) hf hund (.inr ⟨rfl, hne⟩))
            · cases h
        · cases h
      · cases h
    · cases h
  · cases h

theorem call_goes (hC : COk C) (hrec : RecOk C rec) (hρ : ERho φ ρ ev) (hH : HRel C φ H w) {c : Call} {v : Value} (h : bCall C rec ρ H c = some (v, H')) :
    Goes C.P ev (.call c) w (Post C φ w H' v) := by
  unfold bCall at h
  split at h
  · rename_i f hc
    unfold bFun at h
    split at h
    · rename_i g first captured hf
      split at h
      · rename_i args hargs
        have h1 := hρ f _ hf
        have h2 := evL_rel hρ _ _ hargs
        generalize he : ev f = u at h1
        cases h1 with
        | func _ xs ys xs' ys' hxs hys =>
          refine hrec.goes w hH h ((hxs.append h2).append hys) ?_
          rintro ⟨dst, op, type, pos, after, guard⟩ ho; subst ho
          simp only [execOp, resolve, hc, he, Deferred.ofValue, pure_bind, invoke]
          congr 2
          apply Array.ext'
          simp
      · cases h
    · cases h
  · rename_i x name hc
    exact invoke_goes w hC hrec hρ hH hc h
  · rename_i b hc
    exact builtin_goes w hC hρ hH hc h

theorem opB_goes (hC : COk C) (hrec : RecOk C rec) (hρ : ERho φ ρ ev) (hH : HRel C φ H w) {o : Op} {v : Value} (h : opB C rec ρ H o = some (v, H')) :
    Goes C.P ev o w (Post C φ w H' v) := by
  unfold opB at h
  split at h
  · exact goes_store w hC hρ hH h
  · rename_i t m k x
    unfold bUpdate at h
    split at h
    · rename_i mv kv xv hm hk hx
      split at h
      · rename_i H1 hu
        simp only [Option.some.injEq, Prod.mk.injEq] at h
        obtain ⟨rfl, rfl⟩ := h
        obtain ⟨w', h1, h2⟩ := update_goes w hC hH hu (hρ _ _ hm) (hρ _ _ hk) (hρ _ _ hx)
        exact Goes.skip (Instr.mapUpdate t (ev m) (ev k) (ev x)) (by rintro ⟨dst, op, type, pos, after, guard⟩ ho; subst ho; rfl) h1 h2
      · cases h
    · cases h
  · rename_i t m k x
    unfold bUpdate at h
    split at h
    · rename_i mv kv xv hm hk hx
      split at h
      · rename_i H1 hu
        simp only [Option.some.injEq, Prod.mk.injEq] at h
        obtain ⟨rfl, rfl⟩ := h
        obtain ⟨w', h1, h2⟩ := update_goes w hC hH hu (hρ _ _ hm) (hρ _ _ hk) (hρ _ _ hx)
        exact Goes.skip (Instr.mapUpdate t (ev m) (ev k) (ev x)) (by rintro ⟨dst, op, type, pos, after, guard⟩ ho; subst ho; rfl) h1 h2
      · cases h
    · cases h
  · exact conv_goes w hC hρ hH h
  · exact range_goes w hC hρ hH h
  · rename_i it isS
    cases isS
    · simp only [cond_false] at h
      split at h
      · rename_i x hx
        intro o a next E ho hev hn
        obtain ⟨v', w', h1, h2⟩ := next_goes w hH h (hρ _ _ hx) o.type
        unfold Oper.wp
        have : execOp ev o = (do pure (.value (← Instr.next (ev it) false o.type))) := by
          obtain ⟨dst, op, type, pos, after, guard⟩ := o
          subst ho; rfl
        rw [hev, this]
        simp only [Sem.run_bind, h1, Result.andThen_ok, Sem.run_pure, Oper.upon_value]
        exact hn _ _ h2
      · cases h
    · cases h
  · exact call_goes w hC hrec hρ hH h
  · rename_i o1 _ _ _ _ _ _ _
    cases o with
    | alloc t => exact goes_alloc w hC hH h
    | box t x => exact goes_box w hρ hH h
    | buildSlice t len parts => exact goes_buildSlice w hC hρ hH h
    | makeMap t r =>
      cases r with
      | none => exact goes_makeMap w hH h
      | some x => cases h
    | makeSlice t l c => exact goes_makeSlice w hC hρ hH h
    | _ => cases h

theorem opF_goes (hC : COk C) (hrec : RecOk C rec) (hρ : ERho φ ρ ev) (hH : HRel C φ H w) {o : Op} {v : Value} (h : opF C rec ρ H o = some (v, H')) :
    Goes C.P ev o w (Post C φ w H' v) := by
  unfold opF at h
  split at h
  · cases hv : opP C ρ o with
    | none => rw [hv] at h; cases h
    | some u =>
      rw [hv] at h
      simp only [retV, Option.some.injEq, Prod.mk.injEq] at h
      obtain ⟨rfl, rfl⟩ := h
      exact (opP_sound w hC hρ hv).goes hH
  · cases hv : opR C ρ H o with
    | none => rw [hv] at h; cases h
    | some u =>
      rw [hv] at h
      simp only [retV, Option.some.injEq, Prod.mk.injEq] at h
      obtain ⟨rfl, rfl⟩ := h
      exact (opR_sound w hC hρ hH hv).goes hH
  · exact opB_goes w hC hrec hρ hH h
end
end Go.AM
