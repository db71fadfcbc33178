/- AM: what it runs the model runs: regions in order, code, calls. -/
import Derived.Test.YtmohbeomlpjljaaGreatDoorAmOps12
namespace Go.AM
open Go
variable [Syms]

def TRel (φ : Phi) (tm : T Value) (a : Act) : Prop :=
  ∀ i, match tm.get i with
    | none => a.tmps.size ≤ i
    | some v => ∃ v', a.tmps[i]? = some v' ∧ VRel φ v v'

theorem TRel.mono {φ φ' : Phi} (hle : Le φ φ') {tm : T Value} {a : Act} (h : TRel φ tm a) : TRel φ' tm a := by
  intro i
  have := h i
  split
  · rename_i hn; rw [hn] at this; exact this
  · rename_i v hv; rw [hv] at this
    obtain ⟨v', h1, h2⟩ := this
    exact ⟨v', h1, h2.mono hle⟩

theorem TRel.get {φ : Phi} {tm : T Value} {a : Act} (h : TRel φ tm a) {i : Nat} {v : Value} (hv : tm.get i = some v) : ∃ v', a.tmps[i]? = some v' ∧ VRel φ v v' := by
  have := h i
  rw [hv] at this; exact this

theorem TRel.rho {C : Ctx} {φ : Phi} {H : Heap} {w : World} {tm : T Value} {a : Act} (h : TRel φ tm a) (hH : HRel C φ H w) : ERho φ (evT C.base tm) a.eval := by
  intro x v hx
  cases x with
  | tmp t =>
    obtain ⟨v', h1, h2⟩ := h.get (i := t) hx
    show VRel φ v (a.tmps.getD t undef)
    rw [Array.getD_eq_getD_getElem?, h1]; exact h2
  | const c =>
    have hx' : (bif flat c then some c else none) = some v := hx
    cases hf : flat c
    · rw [hf] at hx'; cases hx'
    · rw [hf] at hx'; simp only [cond_true, Option.some.injEq] at hx'; subst hx'; exact flat_rel hf
  | global g =>
    have hx' : (bif Nat.blt g C.base then some (Value.pointer (some ⟨g, 0, none⟩)) else none) = some v := hx
    cases hb : Nat.blt g C.base
    · rw [hb] at hx'; cases hx'
    · rw [hb] at hx'; simp only [cond_true, Option.some.injEq] at hx'; subst hx'
      obtain ⟨l, hl, hc, hd⟩ := hH.base g (lt_of_blt hb)
      have := VRel.ptr g 0 l hl
      rw [hc, hd] at this; exact this
  | func f =>
    have hx' : some (Value.func (.func f) #[] #[]) = some v := hx
    cases hx'
    exact .func f [] [] [] [] .nil .nil

theorem TRel.put {φ : Phi} {tm : T Value} {a : Act} (h : TRel φ tm a) {d : Option Nat} {v v' : Value} (hv : VRel φ v v') : TRel φ (AM.put tm d v) (a.put d v') := by
  cases d with
  | none => exact h
  | some d =>
    intro i
    show match (tm.mod d v).get i with | none => (a.tmps.setIfInBounds d v').size ≤ i | some u => ∃ u', (a.tmps.setIfInBounds d v')[i]? = some u' ∧ VRel φ u u'
    by_cases e : i = d
    · subst e
      rw [T.get_mod_same]
      have := h i
      cases hg : tm.get i with
      | none => rw [hg] at this; simpa using this
      | some u =>
        rw [hg] at this
        obtain ⟨u', h1, _⟩ := this
        simp only [Option.isSome_some, if_true]
        have hlt : i < a.tmps.size := by
          rcases Nat.lt_or_ge i a.tmps.size with h | h
          · exact h
          · rw [Array.getElem?_eq_none h] at h1; cases h1
        exact ⟨v', by rw [Array.getElem?_setIfInBounds_self, if_pos hlt], hv⟩
    · rw [T.get_mod_other _ _ _ _ e]
      have := h i
      split
      · rename_i hn; rw [hn] at this; simpa using this
      · rename_i u hu; rw [hu] at this
        obtain ⟨u', h1, h2⟩ := this
        exact ⟨u', by rw [Array.getElem?_setIfInBounds_ne (by omega)]; exact h1, h2⟩

theorem guard_wanted {φ : Phi} {tm : T Value} {a : Act} (h : TRel φ tm a) {ops : Array Oper} {o : Oper} {b : Bool} (hg : guardOk ops.toList tm o = some b) :
    Region.wanted o (yielded ops a.tmps) = b := by
  unfold guardOk at hg
  unfold Region.wanted
  split at hg
  · rename_i hn; rw [hn]
    simp only [Option.some.injEq] at hg; subst hg; rfl
  · rename_i j want hn; rw [hn]
    dsimp only
    split at hg
    · rename_i p hp
      split at hg
      · rename_i d hd
        have hp' : ops[j]? = some p := by simpa using hp
        split at hg
        · rename_i c hc
          simp only [Option.some.injEq] at hg; subst hg
          obtain ⟨v', h1, h2⟩ := h.get hc
          cases h2
          have : yielded ops a.tmps j = some c := by simp [yielded, hp', hd, h1]
          rw [this]; rfl
        · rename_i vs hc
          simp only [Option.some.injEq] at hg; subst hg
          obtain ⟨v', h1, h2⟩ := h.get hc
          cases h2
          have : yielded ops a.tmps j = none := by simp [yielded, hp', hd, h1]
          rw [this]; rfl
        · cases hg
      · cases hg
    · cases hg

/-- where a piece of code may end -/
def After (C : Ctx) (φ : Phi) (a : Act) (w : World) (tm' : T Value) (H' : Heap) (a' : Act) (w' : World) : Prop :=
  ∃ φ', Ext C φ w φ' w' ∧ HRel C φ' H' w' ∧ TRel φ' tm' a' ∧ a'.defers = a.defers

def Ex.to : Ex → Exit
  | .normal => .normal
  | .exit id => .exit id
  | .ret => .ret

def Sound (C : Ctx) (rec : Code → T Value → Heap → R) : Prop :=
  ∀ c tm H e tm' H', rec c tm H = .ok e tm' H' → ∀ φ a w, HRel C φ H w → TRel φ tm a → c.wp C.P (fun x a' w' => x = e.to ∧ After C φ a w tm' H' a' w') a w

theorem After.refl {C : Ctx} {φ : Phi} {a : Act} {w : World} {tm : T Value} {H : Heap} (hH : HRel C φ H w) (hT : TRel φ tm a) : After C φ a w tm H a w := ⟨φ, Ext.refl _ _ _, hH, hT, rfl⟩

theorem After.trans {C : Ctx} {φ φ1 : Phi} {a a1 a2 : Act} {w w1 w2 : World} {tm2 : T Value} {H2 : Heap} (h : Ext C φ w φ1 w1) (hd : a1.defers = a.defers)
    (k : After C φ1 a1 w1 tm2 H2 a2 w2) : After C φ a w tm2 H2 a2 w2 := by
  obtain ⟨φ2, k1, k2, k3, k4⟩ := k
  exact ⟨φ2, h.trans k1, k2, k3, k4.trans hd⟩

omit [Syms] in
theorem put_defers (a : Act) (d : Option Nat) (v : Value) : (a.put d v).defers = a.defers := by cases d <;> rfl

omit [Syms] in
theorem ops_normal {C : Ctx} {rec : Rec} {all : List Oper} : ∀ (os : List Oper) tm H e tm' H', opsF C rec all os tm H = .ok e tm' H' → e = .normal := by
  intro os
  induction os with
  | nil =>
    intro tm H e tm' H' h
    have h' : R.ok .normal tm H = .ok e tm' H' := h
    cases h'; rfl
  | cons o os ih =>
    intro tm H e tm' H' h
    have h' : opsStep C rec all o (opsF C rec all os) tm H = .ok e tm' H' := h
    unfold opsStep at h'
    split at h'
    · split at h'
      · exact ih _ _ _ _ _ h'
      · cases h'
    · exact ih _ _ _ _ _ h'
    · cases h'

theorem ops_sound {C : Ctx} (hC : COk C) {rec : Rec} (hrec : RecOk C rec) {ops : Array Oper} : ∀ (os : List Oper) (i : Nat), ops.toList.drop i = os →
    ∀ tm H e tm' H', opsF C rec ops.toList os tm H = .ok e tm' H' → ∀ φ a w, HRel C φ H w → TRel φ tm a →
    ∀ Q : Exit → Act → World → Prop, (∀ a' w', After C φ a w tm' H' a' w' → Q .normal a' w') → e = .normal ∧ wpOps C.P ops Q (List.range' i os.length) a w := by
  intro os
  induction os with
  | nil =>
    intro i _ tm H e tm' H' h φ a w hH hT Q hQ
    have h' : R.ok .normal tm H = .ok e tm' H' := h
    cases h'
    exact ⟨rfl, hQ a w (After.refl hH hT)⟩
  | cons o os ih =>
    intro i hdrop tm H e tm' H' h φ a w hH hT Q hQ
    have h' : opsStep C rec ops.toList o (opsF C rec ops.toList os) tm H = .ok e tm' H' := h
    have hi : ops[i]? = some o := by
      have : (ops.toList.drop i)[0]? = some o := by rw [hdrop]; rfl
      rw [List.getElem?_drop] at this
      simpa using this
    have hdrop' : ops.toList.drop (i + 1) = os := by
      have : (ops.toList.drop i).drop 1 = os := by rw [hdrop]; rfl
      rw [List.drop_drop] at this; exact this
    rw [List.length_cons, List.range'_succ]
    simp only [wpOps, hi]
    unfold opsStep at h'
    split at h'
    · rename_i hg
      rw [guard_wanted hT hg]
      simp only [if_true]
      split at h'
      · rename_i v H1 hop
        have hgoes := opF_goes w hC hrec (hT.rho hH) hH hop
        -- the ends are those of the rest
        have hend : e = .normal := ops_normal _ _ _ _ _ _ h'
        refine ⟨hend, .inl ?_⟩
        refine hgoes o a _ Q rfl rfl ?_
        rintro v' w' ⟨φ', hext, hH', hv⟩
        have hT' : TRel φ' (put tm o.dst v) (a.put o.dst v') := (hT.mono hext.le).put hv
        refine (ih (i + 1) hdrop' _ _ _ _ _ h' φ' _ w' hH' hT' Q ?_).2
        intro a' w2 hafter
        exact hQ _ _ (After.trans hext (put_defers _ _ _) hafter)
      · cases h'
    · rename_i hg
      rw [guard_wanted hT hg]
      simp only [Bool.false_eq_true, if_false]
      have hT' : TRel φ (put tm o.dst undef) (a.put o.dst undef) := hT.put (.tuple [] [] .nil)
      refine ih (i + 1) hdrop' _ _ _ _ _ h' φ _ w hH hT' Q ?_
      intro a' w2 hafter
      exact hQ _ _ (After.trans (Ext.refl _ _ _) (put_defers _ _ _) hafter)
    · cases h'

/-! calls -/
omit [Syms] in
theorem FI.of_spec {P : Program} {f : FuncId} {fi : FI} (h : FI.of P f = some fi) :
    ∃ fn, P.funcs[f]? = some fn ∧ fn.body = some fi.body ∧ (fn.name == "runtime.NumGoroutine") = false ∧ fi.ntmps = fn.ntmps ∧ fi.results = fn.results.toList := by
  unfold FI.of at h
  split at h
  · rename_i fn hfn
    split at h
    · rename_i b hb
      cases hn : (fn.name == "runtime.NumGoroutine")
      · rw [hn] at h; simp only [cond_false, Option.some.injEq] at h; subst h
        exact ⟨fn, hfn, hb, hn, rfl, rfl⟩
      · rw [hn] at h; cases h
    · cases h
  · cases h

omit [Syms] in
theorem callFunc_enter {P : Program} {f : FuncId} {fn : Func} {b : Code} (hf : P.funcs[f]? = some fn) (hb : fn.body = some b) (hn : (fn.name == "runtime.NumGoroutine") = false) (args : Array Value) (w : World) :
    (callFunc f args).run P w = Result.ok (.enter f args) w := by
  have hn' : ¬ fn.name = "runtime.NumGoroutine" := by simpa using hn
  simp [callFunc, hf, hb, hn']

def resRun (a : Act) (x : ResultVar) : Sem Value :=
  match x with
  | .tmp t => pure (a.tmps.getD t undef)
  | .cell p t => do loadVar t (← asAddr (a.tmps.getD p undef))

omit [Syms] in
theorem results_eq (fn : Func) (a : Act) : results fn a.tmps = (do
    let vs ← fn.results.mapM (resRun a)
    pure (if h : vs.size = 1 then vs[0] else .tuple vs)) := by
  unfold results
  congr 1

theorem resL_sound {C : Ctx} (hC : COk C) {φ : Phi} {tm : T Value} {a : Act} {H : Heap} {w : World} (hH : HRel C φ H w) (hT : TRel φ tm a) : ∀ (rs : List ResultVar) (l : List Value), resL C tm H rs = some l →
    ∃ l', VRels φ l l' ∧ (rs.mapM (resRun a)).run C.P w = Result.ok l' w
  | [], l, h => by simp only [resL, Option.some.injEq] at h; subst h; exact ⟨[], .nil, rfl⟩
  | x :: xs, l, h => by
    simp only [resL] at h
    split at h
    · rename_i v hv
      split at h
      · rename_i t ht
        simp only [Option.some.injEq] at h; subst h
        obtain ⟨l', h1, h2⟩ := resL_sound hC hH hT xs t ht
        have hone : ∃ v', VRel φ v v' ∧ (resRun a x).run C.P w = Result.ok v' w := by
          unfold resRun
          cases x with
          | tmp t =>
            obtain ⟨v', h3, h4⟩ := hT.get (i := t) hv
            refine ⟨v', h4, ?_⟩
            dsimp only
            rw [Array.getD_eq_getD_getElem?, h3]; rfl
          | cell p t =>
            simp only [resV] at hv
            split at hv
            · rename_i pv hp
              obtain ⟨p', h3, h4⟩ := hT.get (i := p) hp
              have hp' : a.tmps.getD p undef = p' := by rw [Array.getD_eq_getD_getElem?, h3]; rfl
              dsimp only
              rw [hp']
              have hload := loadV_sound w hC hH hv h4
              obtain ⟨v', h5, h6⟩ := hload
              refine ⟨v', h6, ?_⟩
              have hpp : ∃ q, p' = .pointer (some q) := by
                unfold loadV at hv
                split at hv
                · cases h4; exact ⟨_, rfl⟩
                · cases hv
              obtain ⟨q, rfl⟩ := hpp
              simpa [asAddr, Instr.loadAt, Instr.sureAddr] using h5
            · cases hv
        obtain ⟨v', h3, h4⟩ := hone
        refine ⟨v' :: l', .cons _ _ _ _ h3 h1, ?_⟩
        simp only [List.mapM_cons, Sem.run_bind, h4, Result.andThen_ok, h2, Sem.run_pure]
      · cases h
    · cases h

theorem res_sound {C : Ctx} (hC : COk C) {φ : Phi} {tm : T Value} {a : Act} {H : Heap} {w : World} (hH : HRel C φ H w) (hT : TRel φ tm a) {fn : Func} {v : Value} (h : resOf C tm H fn.results.toList = some v) :
    ∃ v', (results fn a.tmps).run C.P w = Result.ok v' w ∧ VRel φ v v' := by
  unfold resOf at h
  cases hl : resL C tm H fn.results.toList with
  | none => rw [hl] at h; cases h
  | some l =>
    obtain ⟨l', h1, h2⟩ := resL_sound hC hH hT _ _ hl
    have hrun : (results fn a.tmps).run C.P w = Result.ok (if h : l'.toArray.size = 1 then l'.toArray[0] else .tuple l'.toArray) w := by
      rw [results_eq, Array.mapM_eq_mapM_toList]
      simp only [Sem.run_bind, Sem.run_map, h2]
      rfl
    rw [hl] at h
    split at h
    · rename_i u hu
      simp only [Option.some.injEq] at h hu; subst h; subst hu
      cases h1 with
      | cons _ u' _ _ hu' htl =>
        cases htl
        exact ⟨u', by rw [hrun]; rfl, hu'⟩
    · rename_i l2 hne hu
      simp only [Option.some.injEq] at h hu; subst h; subst hu
      have hlen : ¬ (l'.toArray.size = 1) := by
        intro e
        have e2 := h1.length
        have : l.length = 1 := by rw [e2]; simpa using e
        obtain ⟨x, rfl⟩ : ∃ x, l = [x] := by
          cases l with
          | nil => simp at this
          | cons x t => cases t with
            | nil => exact ⟨x, rfl⟩
            | cons _ _ => simp at this
        exact hne x rfl
      refine ⟨.tuple l'.toArray, by rw [hrun, dif_neg hlen], ?_⟩
      exact .tuple l l' h1
    · rename_i hu; cases hu

def PrimOk (C : Ctx) : Prop :=
  ∀ g p, C.prOf g = some p → ∀ args H v H', p args H = some (v, H') → ∀ φ w args', HRel C φ H w → VRels φ args args' →
    ((callFunc g ⟨args'⟩).run C.P w = Result.ok (.enter g ⟨args'⟩) w ∧ Calls C.P g ⟨args'⟩ w (fun e w' => ∃ v', e = .returned v' ∧ Post C φ w H' v v' w')) ∨
    ∃ v' w', (callFunc g ⟨args'⟩).run C.P w = Result.ok (.value v') w' ∧ Post C φ w H' v v' w'

theorem call_sound {C : Ctx} (hC : COk C) (hP : PrimOk C) {rec : Code → T Value → Heap → R} (hS : Sound C rec) : RecOk C (callF C rec) := by
  intro g args H v H' h φ w args' hH ha
  unfold callF at h
  split at h
  · rename_i p hp
    exact hP g p hp args H v H' h φ w args' hH ha
  · split at h
    · rename_i fi hfi
      obtain ⟨fn, hf, hb, hn, hnt, hres⟩ := FI.of_spec (hC.fn g fi hfi)
      cases hc : (Nat.ble args.length fi.ntmps && Nat.ble fi.ntmps LIMIT)
      · rw [hc] at h; cases h
      · rw [hc] at h; simp only [cond_true] at h
        simp only [Bool.and_eq_true] at hc
        have hc1 := Nat.le_of_ble_eq_true hc.1
        have hc2 := Nat.le_of_ble_eq_true hc.2
        have hL : LIMIT = 4194304 := by decide
        left
        refine ⟨callFunc_enter hf hb hn _ w, ?_⟩
        have hlen := ha.length
        have hT : TRel φ (T.build (fun i => args.getD i undef) 24 fi.ntmps 1 0) { tmps := (⟨args'⟩ : Array Value) ++ Array.replicate (fn.ntmps - args'.length) undef, defers := [] } := by
          intro i
          have hg : (T.build (fun i => args.getD i undef) 24 fi.ntmps 1 0).get i = if i < fi.ntmps then some (args.getD i undef) else none := by
            rw [T.get_build _ 24 fi.ntmps 1 0 i (by omega)]; simp
          rw [hg]
          by_cases hi : i < fi.ntmps
          · rw [if_pos hi]
            dsimp only
            by_cases hi2 : i < args.length
            · have h1 : args[i]? = some args[i] := List.getElem?_eq_getElem hi2
              obtain ⟨v', h2, h3⟩ := ha.get i _ h1
              refine ⟨v', ?_, ?_⟩
              · rw [Array.getElem?_append, if_pos (by show i < args'.length; omega)]
                simpa using h2
              · rw [List.getD_eq_getElem?_getD, h1]; exact h3
            · refine ⟨undef, ?_, ?_⟩
              · rw [Array.getElem?_append, if_neg (by show ¬ i < args'.length; omega), Array.getElem?_replicate, if_pos (by show i - args'.length < _; omega)]
              · rw [List.getD_eq_getElem?_getD, List.getElem?_eq_none (by omega)]; exact .tuple [] [] .nil
          · rw [if_neg hi]
            dsimp only
            rw [Array.size_append, Array.size_replicate]
            show args'.length + _ ≤ i
            omega
        have hend : ∀ tm1 H1, (∀ x a' w', After C φ { tmps := (⟨args'⟩ : Array Value) ++ Array.replicate (fn.ntmps - args'.length) undef, defers := [] } w tm1 H1 a' w' → x = Exit.normal ∨ x = Exit.ret →
            resOf C tm1 H1 fi.results = some v → H1 = H' → bodyPost C.P fn (fun e w' => ∃ v', e = .returned v' ∧ Post C φ w H' v v' w') x a' w') := by
          rintro tm1 H1 x a' w' ⟨φ', hext, hH', hT', hd⟩ hx hr rfl
          rw [hres] at hr
          obtain ⟨v', h1, h2⟩ := res_sound hC hH' hT' hr
          rcases hx with rfl | rfl
          · exact ⟨hd, v', h1, v', rfl, φ', hext, hH', h2⟩
          · exact ⟨hd, v', h1, v', rfl, φ', hext, hH', h2⟩
        have key : ∀ e tm1 H1, rec fi.body (T.build (fun i => args.getD i undef) 24 fi.ntmps 1 0) H = .ok e tm1 H1 → (e = .normal ∨ e = .ret) → resOf C tm1 H1 fi.results = some v → H1 = H' →
            Calls C.P g ⟨args'⟩ w (fun e w' => ∃ v', e = .returned v' ∧ Post C φ w H' v v' w') := by
          intro e tm1 H1 hrun he hr hh
          refine calls_of_wp hf hb ?_
          refine wp_mono (hS _ _ _ _ _ _ hrun φ _ w hH hT) ?_
          rintro x a' w' ⟨rfl, hafter⟩
          refine hend tm1 H1 _ a' w' hafter ?_ hr hh
          rcases he with rfl | rfl
          · exact .inl rfl
          · exact .inr rfl
        split at h
        · rename_i tm1 H1 hrun
          split at h
          · rename_i u hu
            simp only [Option.some.injEq, Prod.mk.injEq] at h
            obtain ⟨rfl, rfl⟩ := h
            exact key _ _ _ hrun (.inl rfl) hu rfl
          · cases h
        · rename_i tm1 H1 hrun
          split at h
          · rename_i u hu
            simp only [Option.some.injEq, Prod.mk.injEq] at h
            obtain ⟨rfl, rfl⟩ := h
            exact key _ _ _ hrun (.inr rfl) hu rfl
          · cases h
        · cases h
    · cases h
end Go.AM
