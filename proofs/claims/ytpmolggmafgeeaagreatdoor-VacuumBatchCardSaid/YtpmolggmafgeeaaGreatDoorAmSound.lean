/- AM: what it runs the model runs: regions in order, code, calls. -/
import Derived.Test.YtpmolggmafgeeaaGreatDoorAmOps9
namespace Go.AM
open Go
variable [Syms]

def TRel (φ : Phi) (tm : T Value) (a : Act) : Prop :=
  ∀ i, match tm.get i with
    | none => a.tmps.size ≤ i
    | some v => ∃ v', a.tmps[i]? = some v' ∧ VRel φ v v'

theorem TRel.mono {φ φ' : Phi} (hle : Le φ φ') {tm : T Value} {a : Act} (h : TRel φ tm a) : TRel φ' tm a := by
  intro i
  have := h i
  split
  · rename_i hn; rw [hn] at this; exact this
  · rename_i v hv; rw [hv] at this
    obtain ⟨v', h1, h2⟩ := this
    exact ⟨v', h1, h2.mono hle⟩

theorem TRel.get {φ : Phi} {tm : T Value} {a : Act} (h : TRel φ tm a) {i : Nat} {v : Value} (hv : tm.get i = some v) : ∃ v', a.tmps[i]? = some v' ∧ VRel φ v v' := by
  have := h i
  rw [hv] at this; exact this

theorem TRel.rho {C : Ctx} {φ : Phi} {H : Heap} {w : World} {tm : T Value} {a : Act} (h : TRel φ tm a) (hH : HRel C φ H w) : ERho φ (evT C.base tm) a.eval := by
  intro x v hx
  cases x with
  | tmp t =>
    obtain ⟨v', h1, h2⟩ := h.get (i := t) hx
    show VRel φ v (a.tmps.getD t undef)
    rw [Array.getD_eq_getD_getElem?, h1]; exact h2
  | const c =>
    have hx' : (bif flat c then some c else none) = some v := hx
    cases hf : flat c
    · rw [hf] at hx'; cases hx'
    · rw [hf] at hx'; simp only [cond_true, Option.some.injEq] at hx'; subst hx'; exact flat_rel hf
  | global g =>
    have hx' : (bif Nat.blt g C.base then some (Value.pointer (some ⟨g, 0, none⟩)) else none) = some v := hx
    cases hb : Nat.blt g C.base
    · rw [hb] at hx'; cases hx'
    · rw [hb] at hx'; simp only [cond_true, Option.some.injEq] at hx'; subst hx'
      obtain ⟨l, hl, hc, hd⟩ := hH.base g (lt_of_blt hb)
      have := VRel.ptr g 0 l hl
      rw [hc, hd] at this; exact this
  | func f =>
    have hx' : some (Value.func (.func f) #[] #[]) = some v := hx
    cases hx'
    exact .func f [] [] [] [] .nil .nil

theorem TRel.put {φ : Phi} {tm : T Value} {a : Act} (h : TRel φ tm a) {d : Option Nat} {v v' : Value} (hv : VRel φ v v') : TRel φ (AM.put tm d v) (a.put d v') := by
  cases d with
  | none => exact h
  | some d =>
    intro i
    show match (tm.mod d v).get i with | none => (a.tmps.setIfInBounds d v').size ≤ i | some u => ∃ u', (a.tmps.setIfInBounds d v')[i]? = some u' ∧ VRel φ u u'
    by_cases e : i = d
    · subst e
      rw [T.get_mod_same]
      have := h i
      cases hg : tm.get i with
      | none => rw [hg] at this; simpa using this
      | some u =>
        rw [hg] at this
        obtain ⟨u', h1, _⟩ := this
        simp only [Option.isSome_some, if_true]
        have hlt : i < a.tmps.size := by
          rcases Nat.lt_or_ge i a.tmps.size with h | h
          · exact h
          · rw [Array.getElem?_eq_none h] at h1; cases h1
        exact ⟨v', by rw [Array.getElem?_setIfInBounds_self, if_pos hlt], hv⟩
    · rw [T.get_mod_other _ _ _ _ e]
      have := h i
      split
      · rename_i hn; rw [hn] at this; simpa using this
      · rename_i u hu; rw [hu] at this
        obtain ⟨u', h1, h2⟩ := this
        exact ⟨u', by rw [Array.getElem?_setIfInBounds_ne (by omega)]; exact h1, h2⟩

theorem guard_wanted {φ : Phi} {tm : T Value} {a : Act} (h : TRel φ tm a) {ops : Array Oper} {o : Oper} {b : Bool} (hg : guardOk ops.toList tm o = some b) :
    Region.wanted o (yielded ops a.tmps) = b := by
  unfold guardOk at hg
  unfold Region.wanted
  split at hg
  · rename_i hn; rw [hn]
    simp only [Option.some.injEq] at hg; subst hg; rfl
  · rename_i j want hn; rw [hn]
    dsimp only
    split at hg
    · rename_i p hp
      split at hg
      · rename_i d hd
        have hp' : ops[j]? = some p := by simpa using hp
        split at hg
        · rename_i c hc
          simp only [Option.some.injEq] at hg; subst hg
          obtain ⟨v', h1, h2⟩ := h.get hc
          cases h2
          have : yielded ops a.tmps j = some c := by simp [yielded, hp', hd, h1]
          rw [this]; rfl
        · rename_i vs hc
          simp only [Option.some.injEq] at hg; subst hg
          obtain ⟨v', h1, h2⟩ := h.get hc
          cases h2
          have : yielded ops a.tmps j = none := by simp [yielded, hp', hd, h1]
          rw [this]; rfl
        · cases hg
      · cases hg
    · cases hg

/-- where a piece of code may end -/
def After (C : Ctx) (φ : Phi) (a : Act) (w : World) (tm' : T Value) (H' : Heap) (a' : Act) (w' : World) : Prop :=
  ∃ φ', Ext C φ w φ' w' ∧ HRel C φ' H' w' ∧ TRel φ' tm' a' ∧ a'.defers = a.defers

def Ex.to : Ex → Exit
  | .normal => .normal
  | .exit id => .exit id
  | .ret => .ret

def Sound (C : Ctx) (rec : Code → T Value → Heap → R) : Prop :=
  ∀ c tm H e tm' H', rec c tm H = .ok e tm' H' → ∀ φ a w, HRel C φ H w → TRel φ tm a → c.wp C.P (fun x a' w' => x = e.to ∧ After C φ a w tm' H' a' w') a w

theorem After.refl {C : Ctx} {φ : Phi} {a : Act} {w : World} {tm : T Value} {H : Heap} (hH : HRel C φ H w) (hT : TRel φ tm a) : After C φ a w tm H a w := ⟨φ, Ext.refl _ _ _, hH, hT, rfl⟩

theorem After.trans {C : Ctx} {φ φ1 : Phi} {a a1 a2 : Act} {w w1 w2 : World} {tm2 : T Value} {H2 : Heap} (h : Ext C φ w φ1 w1) (hd : a1.defers = a.defers)
    (k : After C φ1 a1 w1 tm2 H2 a2 w2) : After C φ a w tm2 H2 a2 w2 := by
  obtain ⟨φ2, k1, k2, k3, k4⟩ := k
  exact ⟨φ2, h.trans k1, k2, k3, k4.trans hd⟩

omit [Syms] in
theorem put_defers (a : Act) (d : Option Nat) (v : Value) : (a.put d v).defers = a.defers := by cases d <;> rfl

omit [Syms] in
theorem ops_normal {C : Ctx} {rec : Rec} {all : List Oper} : ∀ (os : List Oper) tm H e tm' H', opsF C rec all os tm H = .ok e tm' H' → e = .normal := by
  intro os
  induction os with
  | nil =>
    intro tm H e tm' H' h
    have h' : R.ok .normal tm H = .ok e tm' H' := h
    cases h'; rfl
  | cons o os ih =>
    intro tm H e tm' H' h
    have h' : opsStep C rec all o (opsF C rec all os) tm H = .ok e tm' H' := h
    unfold opsStep at h'
    split at h'
    · split at h'
      · exact ih _ _ _ _ _ h'
      · cases h'
    · exact ih _ _ _ _ _ h'
    · cases h'

theorem ops_sound {C : Ctx} (hC : COk C) {rec : Rec} (hrec : RecOk C rec) {ops : Array Oper} : ∀ (os : List Oper) (i : Nat), ops.toList.drop i = os →
    ∀ tm H e tm' H', opsF C rec ops.toList os tm H = .ok e tm' H' → ∀ φ a w, HRel C φ H w → TRel φ tm a →
    ∀ Q : Exit → Act → World → Prop, (∀ a' w', After C φ a w tm' H' a' w' → Q .normal a' w') → e = .normal ∧ wpOps C.P ops Q (List.range' i os.length) a w := by
  intro os
  induction os with
  | nil =>
    intro i _ tm H e tm' H' h φ a w hH hT Q hQ
    have h' : R.ok .normal tm H = .ok e tm' H' := h
    cases h'
    exact ⟨rfl, hQ a w (After.refl hH hT)⟩
  | cons o os ih =>
    intro i hdrop tm H e tm' H' h φ a w hH hT Q hQ
    have h' : opsStep C rec ops.toList o (opsF C rec ops.toList os) tm H = .ok e tm' H' := h
    have hi : ops[i]? = some o := by
      have : (ops.toList.drop i)[0]? = some o := by rw [hdrop]; rfl
      rw [List.getElem?_drop] at this
      simpa using this
    have hdrop' : ops.toList.drop (i + 1) = os := by
      have : (ops.toList.drop i).drop 1 = os := by rw [hdrop]; rfl
      rw [List.drop_drop] at this; exact this
    rw [List.length_cons, List.range'_succ]
    simp only [wpOps, hi]
    unfold opsStep at h'
    split at h'
    · rename_i hg
      rw [guard_wanted hT hg]
      simp only [if_true]
      split at h'
      · rename_i v H1 hop
        have hgoes := opF_goes w hC hrec (hT.rho hH) hH hop
        -- the ends are those of the rest
        have hend : e = .normal := ops_normal _ _ _ _ _ _ h'
        refine ⟨hend, .inl ?_⟩
        refine hgoes o a _ Q rfl rfl ?_
        rintro v' w' ⟨φ', hext, hH', hv⟩
        have hT' : TRel φ' (put tm o.dst v) (a.put o.dst v') := (hT.mono hext.le).put hv
        refine (ih (i + 1) hdrop' _ _ _ _ _ h' φ' _ w' hH' hT' Q ?_).2
        intro a' w2 hafter
        exact hQ _ _ (After.trans hext (put_defers _ _ _) hafter)
      · cases h'
    · rename_i hg
      rw [guard_wanted hT hg]
      simp only [Bool.false_eq_true, if_false]
      have hT' : TRel φ (put tm o.dst undef) (a.put o.dst undef) := hT.put (.tuple [] [] .nil)
      refine ih (i + 1) hdrop' _ _ _ _ _ h' φ _ w hH hT' Q ?_
      intro a' w2 hafter
      exact hQ _ _ (After.trans (Ext.refl _ _ _) (put_defers _ _ _) hafter)
    · cases h'

/-! calls -/
omit [Syms] in
theorem FI.of_spec {P : Program} {f : FuncId} {fi : FI} (h : FI.of P f = some fi) :
    ∃ fn, P.funcs[f]? = some fn ∧ fn.body = some fi.body ∧ (fn.name == "runtime.NumGoroutine") = false ∧ fi.ntmps = fn.ntmps ∧ fi.results = fn.results.toList := by
  unfold FI.of at h
  split at h
  · rename_i fn hfn
    split at h
    · rename_i b hb
      cases hn : (fn.name == "runtime.NumGoroutine")
      · rw [hn] at h; simp only [cond_false, Option.some.injEq] at h; subst h
        exact ⟨fn, hfn, hb, hn, rfl, rfl⟩
      · rw [hn] at h; cases h
    · cases h
  · cases h

omit [Syms] in
theorem callFunc_enter {P : Program} {f : FuncId} {fn : Func} {b : Code} (hf : P.funcs[f]? = some fn) (hb : fn.body = some b) (hn : (fn.name == "runtime.NumGoroutine") = false) (args : Array Value) (w : World) :
    (callFunc f args).run P w = Result.ok (.enter f args) w := by
  have hn' : ¬ fn.name = "runtime.NumGoroutine" := by simpa using hn
  simp [callFunc, hf, hb, hn']

def resRun (a : Act) (x : ResultVar) : Sem Value :=
  match x with
  | .tmp t => pure (a.tmps.getD t undef)
  | .cell p t => do loadVar t (← asAddr (a.tmps.getD p undef))

omit [Syms] in
theorem results_eq (fn : Func) (a : Act) : results fn a.tmps = (do
    let vs ← fn.results.mapM (resRun a)
    pure (if h : vs.size = 1 then vs[0] else .tuple vs)) := by
  unfold results
  congr 1

theorem resL_sound {C : Ctx} (hC : COk C) {φ : Phi} {tm : T Value} {a : Act} {H : Heap} {w : World} (hH : HRel C φ H w) (hT : TRel φ tm a) : ∀ (rs : List ResultVar) (l : List Value), resL C tm H rs = some l →
    ∃ l', VRels φ l l' ∧ (rs.mapM (resRun a)).run C.P w = Result.ok l' w
  | [], l, h => by simp only [resL, Option.some.injEq] at h; subst h; exact ⟨[], .nil, rfl⟩
  | x :: xs, l, h => by
    simp only [resL] at h
    split at h
    · rename_i v hv
      split at h
      · rename_i t ht
        simp only [Option.some.injEq] at h; subst h
        obtain ⟨l', h1, h2⟩ := resL_sound hC hH hT xs t ht
        have hone : ∃ v', VRel φ v v' ∧ (resRun a x).run C.P w = Result.ok v' w := by
          unfold resRun
          cases x with
          | tmp t =>
            obtain ⟨v', h3, h4⟩ := hT.get (i := t) hv
            refine ⟨v', h4, ?_⟩
            dsimp only
            rw [Array.getD_eq_getD_getElem?, h3]; rfl
          | cell p t =>
            simp only [resV] at hv
            split at hv
            · rename_i pv hp
              obtain ⟨p', h3, h4⟩ := hT.get (i := p) hp
              have hp' : a.tmps.getD p undef = p' := by rw [Array.getD_eq_getD_getElem?, h3]; rfl
              dsimp only
              rw [hp']
              have hload := loadV_sound w hC hH hv h4
              obtain ⟨v', h5, h6⟩ := hload
              refine ⟨v', h6, ?_⟩
              have hpp : ∃ q, p' = .pointer (some q) := by
                unfold loadV at hv
                split at hv
                · cases h4; exact ⟨_, rfl⟩
                · cases hv
              obtain ⟨q, rfl⟩ := hpp
              simpa [asAddr, Instr.loadAt, Instr.sureAddr] using h5
            · cases hv
        obtain ⟨v', h3, h4⟩ := hone
        refine ⟨v' :: l', .cons _ _ _ _ h3 h1, ?_⟩
        simp only [List.mapM_cons, Sem.run_bind, h4, Result.andThen_ok, h2, Sem.run_pure]
      · cases h
    · cases h

theorem res_sound {C : Ctx} (hC : COk C) {φ : Phi} {tm : T Value} {a : Act} {H : Heap} {w : World} (hH : HRel C φ H w) (hT : TRel φ tm a) {fn : Func} {v : Value} (h : resOf C tm H fn.results.toList = some v) :
    ∃ v', (results fn a.tmps).run C.P w = Result.ok v' w ∧ VRel φ v v' := by
  unfold resOf at h
  cases hl : resL C tm H fn.results.toList with
  | none => rw [hl] at h; cases h
  | some l =>
    obtain ⟨l', h1, h2⟩ := resL_sound hC hH hT _ _ hl
    have hrun : (results fn a.tmps).run C.P w = Result.ok (if h : l'.toArray.size = 1 then l'.toArray[0] else .tuple l'.toArray) w := by
      rw [results_eq, Array.mapM_eq_mapM_toList]
      simp only [Sem.run_bind, Sem.run_map, h2]
      rfl
    rw [hl] at h
    split at h
    · rename_i u hu
      simp only [Option.some.injEq] at h hu; subst h; subst hu
      cases h1 with
      | cons _ u' _ _ hu' htl =>
        cases htl
        exact ⟨u', by rw [hrun]; rfl, hu'⟩
    · rename_i l2 hne hu
      simp only [Option.some.injEq] at h hu; subst h; subst hu
      have hlen : ¬ (l'.toArray.size = 1) := by
        intro e
        have e2 := h1.length
        have : l.length = 1 := by rw [e2]; simpa using e
        obtain ⟨x, rfl⟩ : ∃ x, l = [x] := by
          cases l with
          | nil => simp at this
          | cons x t => cases t with
            | nil => exact ⟨x, rfl⟩
            | cons _ _ => simp at this
        exact hne x rfl
      refine ⟨.tuple l'.toArray, by rw [hrun, dif_neg hlen], ?_⟩
      exact .tuple l l' h1
    · rename_i hu; cases hu

def PrimOk (C : Ctx) : Prop :=
  ∀ g p, C.prOf g = some p → ∀ args H v H', p args H = some (v, H') → ∀ φ w args', HRel C φ H w → VRels φ args args' →
    ((callFunc g ⟨args'⟩).run C.P w = Result.ok (.enter g ⟨args'⟩) w ∧ Calls C.P g ⟨args'⟩ w (fun e w' => ∃ v', e = .returned v' ∧ Post C φ w H' v v' w')) ∨
    ∃ v' w', (callFunc g ⟨args'⟩).run C.P w = Result.ok (.value v') w' ∧ Post C φ w H' v v' w'

theorem call_sound {C : Ctx} (hC : COk C) (hP : PrimOk C) {rec : Code → T Value → Heap → R} (hS : Sound C rec) : RecOk C (callF C rec) := by
  intro g args H v H' h φ w args' hH ha
  unfold callF at h
  split at h
  · rename_i p hp
    exact hP g p hp args H v H' h φ w args' hH ha
  · split at h
    · rename_i fi hfi
      obtain ⟨fn, hf, hb, hn, hnt, hres⟩ := FI.of_spec (hC.fn g fi hfi)
      cases hc : (Nat.ble args.length fi.ntmps && Nat.ble fi.ntmps LIMIT)
      · rw [hc] at h; cases h
      · rw [hc] at h; simp only [cond_true] at h
        simp only [Bool.and_eq_true] at hc
        have hc1 := Nat.le_of_ble_eq_true hc.1
        have hc2 := Nat.le_of_ble_eq_true hc.2
        have hL : LIMIT = 4194304 := by decide
        left
        refine ⟨callFunc_enter hf hb hn _ w, ?_⟩
        have hlen := ha.length
        have hT : TRel φ (T.build (fun i => args.getD i undef) 24 fi.ntmps 1 0) { tmps := (⟨args'⟩ : Array Value) ++ Array.replicate (fn.ntmps - args'.length) undef, defers := [] } := by
          intro i
          have hg : (T.build (fun i => args.getD i undef) 24 fi.ntmps 1 0).get i = if i < fi.ntmps then some (args.getD i undef) else none := by
            rw [T.get_build _ 24 fi.ntmps 1 0 i (by omega)]; simp
          rw [hg]
          by_cases hi : i < fi.ntmps
          · rw [if_pos hi]
            dsimp only
            by_cases hi2 : i < args.length
            · have h1 : args[i]? = some args[i] := List.getElem?_eq_getElem hi2
              obtain ⟨v', h2, h3⟩ := ha.get i _ h1
              refine ⟨v', ?_, ?_⟩
              · rw [Array.getElem?_append, if_pos (by show i < args'.length; omega)]
                simpa using h2
              · rw [List.getD_eq_getElem?_getD, h1]; exact h3
            · refine ⟨undef, ?_, ?_⟩
              · rw [Array.getElem?_append, if_neg (by show ¬ i < args'.length; omega), Array.getElem?_replicate, if_pos (by show i - args'.length < _; omega)]
              · rw [List.getD_eq_getElem?_getD, List.getElem?_eq_none (by omega)]; exact .tuple [] [] .nil
          · rw [if_neg hi]
            dsimp only
            rw [Array.size_append, Array.size_replicate]
            show args'.length + _ ≤ i
            omega
        have hend : ∀ tm1 H1, (∀ x a' w', After C φ { tmps := (⟨args'⟩ : Array Value) ++ Array.replicate (fn.ntmps - args'.length) undef, defers := [] } w tm1 H1 a' w' → x = Exit.normal ∨ x = Exit.ret →
            resOf C tm1 H1 fi.results = some v → H1 = H' → bodyPost C.P fn (fun e w' => ∃ v', e = .returned v' ∧ Post C φ w H' v v' w') x a' w') := by
          rintro tm1 H1 x a' w' ⟨φ', hext, hH', hT', hd⟩ hx hr rfl
          rw [hres] at hr
          obtain ⟨v', h1, h2⟩ := res_sound hC hH' hT' hr
          rcases hx with rfl | rfl
          · exact ⟨hd, v', h1, v', rfl, φ', hext, hH', h2⟩
          · exact ⟨hd, v', h1, v', rfl, φ', hext, hH', h2⟩
        have key : ∀ e tm1 H1, rec fi.body (T.build (fun i => args.getD i undef) 24 fi.ntmps 1 0) H = .ok e tm1 H1 → (e = .normal ∨ e = .ret) → resOf C tm1 H1 fi.results = some v → H1 = H' →
            Calls C.P g ⟨args'⟩ w (fun e w' => ∃ v', e = .returned v' ∧ Post C φ w H' v v' w') := by
          intro e tm1 H1 hrun he hr hh
          refine calls_of_wp hf hb ?_
          refine wp_mono (hS _ _ _ _ _ _ hrun φ _ w hH hT) ?_
          rintro x a' w' ⟨rfl, hafter⟩
          refine hend tm1 H1 _ a' w' hafter ?_ hr hh
          rcases he with rfl | rfl
          · exact .inl rfl
          · exact .inr rfl
        split at h
        · rename_i tm1 H1 hrun
          split at h
          · rename_i u hu
            simp only [Option.some.injEq, Prod.mk.injEq] at h
            obtain ⟨rfl, rfl⟩ := h
            exact key _ _ _ hrun (.inl rfl) hu rfl
          · cases h
        · rename_i tm1 H1 hrun
          split at h
          · rename_i u hu
            simp only [Option.some.injEq, Prod.mk.injEq] at h
            obtain ⟨rfl, rfl⟩ := h
            exact key _ _ _ hrun (.inr rfl) hu rfl
          · cases h
        · cases h
    · cases h
end Go.AM
namespace Go.AM
open Go
variable [Syms]

/-- an operation that makes a block with x, and answers what mk says -/
def Makes (C : Ctx) (φ : Phi) (ev : Operand → Value) (op : Op) (x : Blk) (mk : Nat → Value) : Prop :=
  ∀ w, Goes C.P ev op w (fun v' w' => ∃ obj n, w' = w.alloc obj ∧ ∀ φ' b, Le φ φ' → φ' b = some ⟨w.heap.size, 0, n⟩ → BRel C φ' ⟨w.heap.size, 0, n⟩ x (some obj) ∧ VRel φ' (mk b) v')

section
variable {C : Ctx} {φ : Phi} {ρ : Env} {ev : Operand → Value} {H H' : Heap}

theorem row_any {s : Nat} {e : TypeId} {vs : List Value} {cs : Array Value} (hv : VRels φ vs cs.toList) {φ' : Phi} (hle : Le φ φ') :
    BRel C φ' ⟨s, 0, vs.length⟩ (.cells e vs false ⟨0, false⟩) (some (.cells cs e)) := by
  have hl := hv.length
  refine .cells e vs false ⟨0, false⟩ cs (0, 0) (by simpa using hl.symm) (by simp) (fun _ => ⟨rfl, rfl⟩) ?_ ⟨fun i _ _ => by simp, fun _ => .inl rfl⟩
  rw [List.drop_zero, hl, List.take_of_length_le (Nat.le_refl _)]
  exact hv.mono hle

theorem any_alloc (hC : COk C) {t : TypeId} {v : Value} (h : allocB C ρ H (.alloc t) = some (v, H')) : ∃ b x mk, H.new x = some (b, H') ∧ v = mk b ∧ Makes C φ ev (.alloc t) x mk := by
  simp only [allocB] at h
  split at h
  · rename_i i hi
    split at h
    · rename_i z hz
      obtain ⟨b, hn, rfl⟩ := newP_spec h
      refine ⟨b, _, fun b => .pointer (some ⟨b, 0, none⟩), hn, rfl, fun w => ?_⟩
      refine Goes.of (Instr.alloc t true (.tuple #[])) (by rintro ⟨dst, op, type, pos, after, guard⟩ ho; subst ho; rfl) (v' := .pointer (some ⟨w.heap.size, 0, none⟩)) (w' := w.alloc (.cells z.cells t)) ?_ ⟨_, _, rfl, fun φ' b hle hb => ⟨row_any (hC.zero_rel hi hz) hle, .ptr b 0 _ hb⟩⟩
      simp only [Instr.alloc, Sem.run_bind, hC.run_zero w hi hz, Result.andThen_ok, newVar, newRow, run_newObj, Sem.run_pure]; rfl
    · cases h
  · cases h

theorem any_box (hρ : ERho φ ρ ev) {t : TypeId} {x : Operand} {v : Value} (h : allocB C ρ H (.box t x) = some (v, H')) : ∃ b y mk, H.new y = some (b, H') ∧ v = mk b ∧ Makes C φ ev (.box t x) y mk := by
  simp only [allocB] at h
  split at h
  · rename_i u hu
    obtain ⟨b, hn, rfl⟩ := newP_spec h
    refine ⟨b, _, fun b => .pointer (some ⟨b, 0, none⟩), hn, rfl, fun w => ?_⟩
    refine Goes.of (Instr.box t (ev x)) (by rintro ⟨dst, op, type, pos, after, guard⟩ ho; subst ho; rfl) (v' := .pointer (some ⟨w.heap.size, 0, none⟩)) (w' := w.alloc (.cells (ev x).cells t)) ?_ ⟨_, _, rfl, fun φ' b hle hb => ⟨row_any ((hρ x u hu).cells) hle, .ptr b 0 _ hb⟩⟩
    simp only [Instr.box, newVar, newRow, Sem.run_bind, run_newObj, Result.andThen_ok, Sem.run_pure]; rfl
  · cases h

theorem any_buildSlice (hC : COk C) (hρ : ERho φ ρ ev) {t : TypeId} {len : Nat} {parts : Array (Nat × Operand)} {v : Value} (h : allocB C ρ H (.buildSlice t len parts) = some (v, H')) :
    ∃ b x mk, H.new x = some (b, H') ∧ v = mk b ∧ Makes C φ ev (.buildSlice t len parts) x mk := by
  simp only [allocB] at h
  split at h
  · rename_i l i hl hi
    obtain ⟨e1, e2⟩ := evP_rel hρ _ _ hl
    have hu := fun w => hC.run_und w hi
    split at h
    · rename_i e he
      rw [he] at hu
      split at h
      · rename_i j hj
        split at h
        · rename_i z hz
          cases hc : (Nat.beq j.size 0 || !Nat.ble (len * j.size) 4096 || !Nat.beq z.cells.size j.size)
          · rw [hc] at h; simp only [cond_false] at h
            simp only [Bool.or_eq_false_iff, Bool.not_eq_false'] at hc
            obtain ⟨⟨hc1, hc2⟩, hc3⟩ := hc
            have hzs := Nat.eq_of_beq_eq_true hc3
            have hle := Nat.le_of_ble_eq_true hc2
            split at h
            · rename_i cs hcs
              split at h
              · rename_i b H1 hn
                simp only [Option.some.injEq, Prod.mk.injEq] at h
                obtain ⟨rfl, rfl⟩ := h
                have ep : (parts.map fun (i, x) => (i, ev x)).toList = parts.toList.map fun (i, x) => (i, ev x) := by simp
                obtain ⟨cs', h3, h4⟩ := fill_rel _ l _ _ ((Array.range (len * j.size)).map (fun i => z.cells[i % z.cells.size]!)) cs e1 e2 (by
                  rw [← hzs, rep_eq]; exact (hC.zero_rel hj hz).rep len) hcs
                have hlo : len < OPEN := by
                  have : j.size ≠ 0 := by intro e; rw [e] at hc1; simp at hc1
                  have : len ≤ len * j.size := Nat.le_mul_of_pos_right _ (by omega)
                  unfold OPEN; omega
                refine ⟨b, _, fun b => .slice (some ⟨b, 0, none⟩) len len, hn, rfl, fun w => ?_⟩
                refine Goes.of (Instr.buildSlice t len (parts.map fun (i, x) => (i, ev x))) (by rintro ⟨dst, op, type, pos, after, guard⟩ ho; subst ho; rfl) (v' := .slice (some ⟨w.heap.size, 0, none⟩) len len) (w' := w.alloc (.cells cs' e)) ?_ ⟨_, _, rfl, fun φ' b hle hb => ⟨row_any h4 hle, .slc b 0 len len _ hb hlo⟩⟩
                · have hno : ¬ (len * j.size > 2 ^ 24) := by omega
                  have hfill : Instr.fill (fun i => some (i * j.size, j.size)) ((Array.range (len * j.size)).map (fun i => z.cells[i % z.cells.size]!)) (parts.map fun (i, x) => (i, ev x)).toList = some cs' := by rw [ep]; exact h3
                  simp only [Instr.buildSlice, Sem.run_bind, hu w, Result.andThen_ok, hC.run_size w hj, Sem.run_ite, if_neg hno, Sem.run_pure]
                  by_cases h0 : len * j.size = 0
                  · rw [if_pos h0]
                    have hl0 : len = 0 := by
                      rcases Nat.mul_eq_zero.1 h0 with e | e
                      · exact e
                      · rw [e] at hc1; simp at hc1
                    have : ((Array.range (len * j.size)).map (fun i => (#[] : Array Value)[i % (#[] : Array Value).size]!)) = ((Array.range (len * j.size)).map (fun i => z.cells[i % z.cells.size]!)) := by rw [h0]; simp
                    rw [this, hfill]
                    simp only [newRow, Sem.run_bind, run_newObj, Result.andThen_ok, Sem.run_pure]
                    rfl
                  · rw [if_neg h0]
                    simp only [hC.run_zero w hj hz, Result.andThen_ok]
                    rw [hfill]
                    simp only [newRow, Sem.run_bind, run_newObj, Result.andThen_ok, Sem.run_pure]
                    rfl
              · cases h
            · cases h
          · rw [hc] at h; cases h
        · cases h
      · cases h
    · cases h
  · cases h

theorem any_makeMap {t : TypeId} {v : Value} (h : allocB C ρ H (.makeMap t none) = some (v, H')) : ∃ b x mk, H.new x = some (b, H') ∧ v = mk b ∧ Makes C φ ev (.makeMap t none) x mk := by
  simp only [allocB] at h
  split at h
  · rename_i b H1 hn
    simp only [Option.some.injEq, Prod.mk.injEq] at h
    obtain ⟨rfl, rfl⟩ := h
    refine ⟨b, _, fun b => .map (some b), hn, rfl, fun w => ?_⟩
    refine Goes.of (Instr.makeMap t none) (by rintro ⟨dst, op, type, pos, after, guard⟩ ho; subst ho; rfl) (v' := .map (some w.heap.size)) (w' := w.alloc (.map #[] 0)) ?_ ⟨_, 0, rfl, fun φ' b _ hb => ⟨.map [] [] 0 .nil, .map b _ hb⟩⟩
    simp only [Instr.makeMap, Sem.run_bind, run_newObj, Result.andThen_ok, Sem.run_pure]; rfl
  · cases h

theorem any_makeSlice (hC : COk C) (hρ : ERho φ ρ ev) {t : TypeId} {lo co : Operand} {v : Value} (h : allocB C ρ H (.makeSlice t lo co) = some (v, H')) :
    ∃ b x mk, H.new x = some (b, H') ∧ v = mk b ∧ Makes C φ ev (.makeSlice t lo co) x mk := by
  simp only [allocB] at h
  split at h
  · rename_i i lv cv hi hl hc
    have hu := fun w => hC.run_und w hi
    split at h
    · rename_i e l c he hln hcn
      rw [he] at hu
      obtain ⟨k1, hl'⟩ := natOf_rel hln (hρ _ _ hl)
      obtain ⟨k2, hc'⟩ := natOf_rel hcn (hρ _ _ hc)
      split at h
      · rename_i j hj
        split at h
        · rename_i z hz
          cases hq : (Nat.ble l c && Nat.ble c LIMIT && Nat.ble j.bytes 65536 && !Nat.beq j.size 0 && Nat.beq z.cells.size j.size)
          · rw [hq] at h; cases h
          · rw [hq] at h; simp only [cond_true] at h
            simp only [Bool.and_eq_true, Bool.not_eq_true'] at hq
            obtain ⟨⟨⟨⟨hq1, hq2⟩, hq3⟩, hq4⟩, hq5⟩ := hq
            have hq1 := Nat.le_of_ble_eq_true hq1
            have hq2 := Nat.le_of_ble_eq_true hq2
            have hq3 := Nat.le_of_ble_eq_true hq3
            have hzs := Nat.eq_of_beq_eq_true hq5
            have hj0 : j.size ≠ 0 := by intro e; rw [e] at hq4; simp at hq4
            split at h
            · rename_i b H1 hn
              simp only [Option.some.injEq, Prod.mk.injEq] at h
              obtain ⟨rfl, rfl⟩ := h
              have hrel : VRels φ (rep c z.cells.toList) ((Array.range (c * j.size)).map (fun i => z.cells[i % z.cells.size]!)).toList := by
                rw [← hzs, rep_eq]; exact (hC.zero_rel hj hz).rep c
              have hlo : c < OPEN := by have : LIMIT = 4194304 := by decide
                                        unfold OPEN; omega
              refine ⟨b, _, fun b => .slice (some ⟨b, 0, none⟩) l c, hn, rfl, fun w => ?_⟩
              obtain ⟨inf, hinf, _, _, hby, _⟩ := hC.run_info w hj
              have hL : LIMIT = 4194304 := by decide
              refine Goes.of (Instr.makeSlice t (ev lo) (ev co)) (by rintro ⟨dst, op, type, pos, after, guard⟩ ho; subst ho; rfl) (v' := .slice (some ⟨w.heap.size, 0, none⟩) l c)
                (w' := w.alloc (.cells ((Array.range (c * j.size)).map (fun i => z.cells[i % z.cells.size]!)) e)) ?_ ⟨_, _, rfl, fun φ' b hle hb => ⟨row_any hrel hle, .slc b 0 l c _ hb hlo⟩⟩
              · rw [hl', hc']
                have w1 : IntKind.i64.wrap (Int.ofNat l) = Int.ofNat l := i64_in _ (by simp only [Int.ofNat_eq_natCast]; omega) (by simp only [Int.ofNat_eq_natCast]; omega)
                have w2 : IntKind.i64.wrap (Int.ofNat c) = Int.ofNat c := i64_in _ (by simp only [Int.ofNat_eq_natCast]; omega) (by simp only [Int.ofNat_eq_natCast]; omega)
                have hmul : inf.bytes * c ≤ 65536 * 4194304 := Nat.mul_le_mul (by omega) (by omega)
                have t1 : (decide (Int.ofNat c < 0) || decide ((inf.bytes : Int) * Int.ofNat c > 2 ^ 48)) = false := by
                  have : ¬ ((inf.bytes : Int) * Int.ofNat c > 2 ^ 48) := by
                    have : ((inf.bytes * c : Nat) : Int) ≤ ((65536 * 4194304 : Nat) : Int) := by exact_mod_cast hmul
                    simp only [Int.ofNat_eq_natCast]
                    rw [← Int.natCast_mul]; omega
                  have hx : ¬ ((inf.bytes : Int) * (c : Int) > 2 ^ 48) := this
                  simp only [Int.ofNat_eq_natCast, decide_eq_false hx, Bool.or_false]
                  simp
                have t2 : ¬ (Int.ofNat l < 0) := by simp
                have t3 : ¬ (Int.ofNat l > Int.ofNat c) := by simpa using hq1
                simp only [Instr.makeSlice, asInt, asIntOf, Sem.run_bind, hu w, Result.andThen_ok, Sem.run_pure, hinf, w1, w2, t1, t2, t3, Bool.false_eq_true, if_false, Sem.run_ite, decide_false, Bool.or_self, run_askRoom, hC.run_size w hj]
                have hcc : (Int.ofNat c).toNat = c := rfl
                have hll : (Int.ofNat l).toNat = l := rfl
                rw [hcc, hll]
                by_cases h0 : c * j.size = 0
                · rw [if_pos h0]
                  simp only [Sem.run_pure, Result.andThen_ok, newRow, Sem.run_bind, run_newObj]
                  have : ((Array.range (c * j.size)).map (fun i => (#[] : Array Value)[i % (#[] : Array Value).size]!)) = ((Array.range (c * j.size)).map (fun i => z.cells[i % z.cells.size]!)) := by rw [h0]; simp
                  rw [this]; rfl
                · rw [if_neg h0]
                  simp only [Sem.run_pure, Sem.run_bind, hC.run_zero w hj hz, Result.andThen_ok, newRow, run_newObj]
                  rfl
            · cases h
        · cases h
      · cases h
    · cases h
  · cases h


theorem allocB_makes (hC : COk C) (hρ : ERho φ ρ ev) {o : Op} {v : Value} (h : allocB C ρ H o = some (v, H')) :
    ∃ b x mk, H.new x = some (b, H') ∧ v = mk b ∧ Makes C φ ev o x mk := by
  cases o with
  | alloc t => exact any_alloc hC h
  | box t x => exact any_box hρ h
  | buildSlice t len parts => exact any_buildSlice hC hρ h
  | makeMap t r =>
    cases r with
    | none => exact any_makeMap h
    | some x => cases h
  | makeSlice t l c => exact any_makeSlice hC hρ h
  | _ => cases h
end
end Go.AM
namespace Go.AM
open Go

theorem foldl_bits (f : Nat → Nat) (t : Nat) : ∀ (l : List Nat) (s : Nat), (l.foldl (fun s j => s ||| 2 ^ j ||| f j) s).testBit t = true ↔ (s.testBit t = true ∨ ∃ j ∈ l, t = j ∨ (f j).testBit t = true)
  | [], s => by simp
  | j :: l, s => by
    rw [List.foldl_cons, foldl_bits f t l]
    simp only [Nat.testBit_or, Nat.testBit_two_pow, Bool.or_eq_true, decide_eq_true_eq, List.mem_cons]
    constructor
    · rintro ((h | h) | h)
      · rcases h with h | h
        · exact .inl h
        · exact .inr ⟨j, .inl rfl, .inl h.symm⟩
      · exact .inr ⟨j, .inl rfl, .inr h⟩
      · obtain ⟨k, hk, h⟩ := h
        exact .inr ⟨k, .inr hk, h⟩
    · rintro (h | ⟨k, rfl | hk, h⟩)
      · exact .inl (.inl (.inl h))
      · rcases h with h | h
        · exact .inl (.inl (.inr h.symm))
        · exact .inl (.inr h)
      · exact .inr ⟨k, hk, h⟩

def foldE (anc : List Nat) (o : Oper) : Nat := (edgeOf o).foldl (fun s j => s ||| 2 ^ j ||| anc.getD j 0) 0

theorem ancs_cons (anc : List Nat) (o : Oper) (os : List Oper) : ancs anc (o :: os) = ancs (anc ++ [foldE anc o]) os := rfl

theorem ancs_length : ∀ (os : List Oper) (anc : List Nat), (ancs anc os).length = anc.length + os.length
  | [], anc => by simp [ancs]
  | o :: os, anc => by rw [ancs_cons, ancs_length]; simp; omega

theorem ancs_old : ∀ (os : List Oper) (anc : List Nat) (k : Nat), k < anc.length → (ancs anc os)[k]? = anc[k]?
  | [], anc, k, _ => rfl
  | o :: os, anc, k, h => by
    rw [ancs_cons, ancs_old os _ k (by simp; omega), List.getElem?_append_left h]

theorem foldl_congr_mem {f g : Nat → Nat → Nat} : ∀ (l : List Nat) (s : Nat), (∀ j ∈ l, ∀ s, f s j = g s j) → l.foldl f s = l.foldl g s
  | [], _, _ => rfl
  | j :: l, s, h => by
    rw [List.foldl_cons, List.foldl_cons, h j (by simp) s]
    exact foldl_congr_mem l _ fun k hk => h k (by simp [hk])

theorem edgesBack_get : ∀ (os : List Oper) (n i : Nat) (o : Oper), edgesBack n os = true → os[i]? = some o → ∀ j ∈ edgeOf o, j < n + i
  | [], _, _, _, _, h => by simp at h
  | x :: os, n, 0, o, h, ho => by
    simp at ho; subst ho
    simp only [edgesBack, Bool.and_eq_true, List.all_eq_true] at h
    intro j hj
    have := h.1 j hj
    exact lt_of_blt this
  | x :: os, n, i + 1, o, h, ho => by
    simp only [edgesBack, Bool.and_eq_true] at h
    intro j hj
    have := edgesBack_get os (n + 1) i o h.2 (by simpa using ho) j hj
    omega

theorem ancs_new : ∀ (os : List Oper) (anc : List Nat) (i : Nat) (o : Oper), edgesBack anc.length os = true → os[i]? = some o →
    (ancs anc os).getD (anc.length + i) 0 = foldE (ancs anc os) o
  | [], _, _, _, _, h => by simp at h
  | x :: os, anc, 0, o, h, ho => by
    have hb := edgesBack_get (x :: os) anc.length 0 o h ho
    simp at ho; subst ho
    rw [ancs_cons]
    have h1 : (ancs (anc ++ [foldE anc x]) os)[anc.length + 0]? = some (foldE anc x) := by
      rw [ancs_old _ _ _ (by simp)]; simp
    rw [List.getD_eq_getElem?_getD, h1]
    show foldE anc x = _
    unfold foldE
    refine foldl_congr_mem _ _ fun j hj s => ?_
    have hj := hb j hj
    have : (ancs (anc ++ [foldE anc x]) os)[j]? = anc[j]? := by
      rw [ancs_old _ _ _ (by simp; omega), List.getElem?_append_left (by omega)]
    unfold foldE at this
    rw [List.getD_eq_getElem?_getD, List.getD_eq_getElem?_getD, this]
  | x :: os, anc, i + 1, o, h, ho => by
    simp only [edgesBack, Bool.and_eq_true] at h
    rw [ancs_cons]
    have := ancs_new os (anc ++ [foldE anc x]) i o (by simpa using h.2) (by simpa using ho)
    rw [← this]
    congr 1
    simp; omega

def Closed (all : List Oper) (L : Nat → Prop) : Prop := ∀ i o, all[i]? = some o → L i → ∀ j ∈ edgeOf o, L j

section
variable {all : List Oper} (hE : edgesBack 0 all = true)
include hE

theorem bit_edge {i t : Nat} (h : bit (ancs [] all) i t = true) : ∃ o, all[i]? = some o ∧ ∃ j ∈ edgeOf o, j < i ∧ (t = j ∨ bit (ancs [] all) j t = true) := by
  cases ho : all[i]? with
  | none =>
    unfold bit at h
    rw [List.getD_eq_getElem?_getD, List.getElem?_eq_none (by rw [ancs_length]; have := List.getElem?_eq_none_iff.1 ho; simpa using this)] at h
    simp at h
  | some o =>
    refine ⟨o, rfl, ?_⟩
    have h1 := ancs_new all [] i o hE ho
    simp only [List.length_nil, Nat.zero_add] at h1
    unfold bit at h
    rw [h1] at h
    rcases (foldl_bits (fun j => (ancs [] all).getD j 0) t (edgeOf o) 0).1 h with h | ⟨j, hj, h⟩
    · simp at h
    · have := edgesBack_get all 0 i o hE ho j hj
      exact ⟨j, hj, by omega, h⟩

theorem bit_lt : ∀ (i t : Nat), bit (ancs [] all) i t = true → t < i := by
  intro i
  induction i using Nat.strongRecOn with
  | _ i ih =>
    intro t h
    obtain ⟨o, ho, j, hj, hlt, h | h⟩ := bit_edge hE h
    · omega
    · have := ih j hlt t h; omega

theorem closed_bit {L : Nat → Prop} (hL : Closed all L) : ∀ (i t : Nat), L i → bit (ancs [] all) i t = true → L t := by
  intro i
  induction i using Nat.strongRecOn with
  | _ i ih =>
    intro t hi h
    obtain ⟨o, ho, j, hj, hlt, h | h⟩ := bit_edge hE h
    · subst h; exact hL i o ho hi _ hj
    · exact ih j hlt t (hL i o ho hi _ hj) h

theorem ready_bit {L : Nat → Prop} (hL : Closed all L) {i : Nat} {o : Oper} (ho : all[i]? = some o) (hr : ∀ j ∈ edgeOf o, L j) {t : Nat} (h : bit (ancs [] all) i t = true) : L t := by
  obtain ⟨o', ho', j, hj, hlt, h⟩ := bit_edge hE h
  rw [ho] at ho'; cases ho'
  rcases h with h | h
  · subst h; exact hr _ hj
  · exact closed_bit hE hL j t (hr _ hj) h

theorem bit_of_edge {i j t : Nat} {o : Oper} (ho : all[i]? = some o) (hj : j ∈ edgeOf o) (h : t = j ∨ bit (ancs [] all) j t = true) : bit (ancs [] all) i t = true := by
  have h1 := ancs_new all [] i o hE ho
  simp only [List.length_nil, Nat.zero_add] at h1
  unfold bit
  rw [h1]
  exact (foldl_bits (fun j => (ancs [] all).getD j 0) t (edgeOf o) 0).2 (.inr ⟨j, hj, h⟩)

theorem bit_trans : ∀ (i : Nat) {j t : Nat}, bit (ancs [] all) i j = true → bit (ancs [] all) j t = true → bit (ancs [] all) i t = true := by
  intro i
  induction i using Nat.strongRecOn with
  | _ i ih =>
    intro j t h1 h2
    obtain ⟨o, ho, k, hk, hlt, h | h⟩ := bit_edge hE h1
    · subst h; exact bit_of_edge hE ho hk (.inr h2)
    · exact bit_of_edge hE ho hk (.inr (ih k hlt h h2))

/-! the order -/
variable (C : Ctx)
omit hE in
theorem badOf_bit (t : Nat) : ∀ (l : List Nat) (s : Nat), (badOf (isPA C all) l s).testBit t = true ↔ (s.testBit t = true ∨ (t ∈ l ∧ isPA C all t = false))
  | [], s => by simp [badOf]
  | i :: l, s => by
    unfold badOf
    rw [badOf_bit t l]
    cases h : isPA C all i
    · simp only [cond_false, Nat.testBit_or, Nat.testBit_two_pow, Bool.or_eq_true, decide_eq_true_eq, List.mem_cons]
      constructor
      · rintro ((h1 | rfl) | h1)
        · exact .inl h1
        · exact .inr ⟨.inl rfl, h⟩
        · exact .inr ⟨.inr h1.1, h1.2⟩
      · rintro (h1 | ⟨rfl | h1, h2⟩)
        · exact .inl (.inl h1)
        · exact .inl (.inr rfl)
        · exact .inr ⟨h1, h2⟩
    · simp only [cond_true, List.mem_cons]
      constructor
      · rintro (h1 | h1)
        · exact .inl h1
        · exact .inr ⟨.inr h1.1, h1.2⟩
      · rintro (h1 | ⟨rfl | h1, h2⟩)
        · exact .inl h1
        · rw [h] at h2; cases h2
        · exact .inr ⟨h1, h2⟩

omit hE in
theorem early_spec {i : Nat} : early C (ancs [] all) all (badOf (isPA C all) (List.range all.length) 0) i = true ↔ isPA C all i = true ∧ ∀ j, j < all.length → bit (ancs [] all) i j = true → isPA C all j = true := by
  unfold early
  simp only [Bool.and_eq_true]
  refine and_congr_right fun _ => ?_
  constructor
  · intro h j hj hb
    have h := Nat.eq_of_beq_eq_true h
    have ht : ((ancs [] all).getD i 0 &&& badOf (isPA C all) (List.range all.length) 0).testBit j = false := by rw [h]; simp
    rw [Nat.testBit_and] at ht
    unfold bit at hb
    rw [hb, Bool.true_and] at ht
    cases hp : isPA C all j
    · rw [(badOf_bit C j _ 0).2 (.inr ⟨List.mem_range.2 hj, hp⟩)] at ht; cases ht
    · rfl
  · intro h
    have : (ancs [] all).getD i 0 &&& badOf (isPA C all) (List.range all.length) 0 = 0 := by
      apply Nat.eq_of_testBit_eq
      intro j
      rw [Nat.testBit_and, Nat.zero_testBit]
      cases hb : ((ancs [] all).getD i 0).testBit j
      · rfl
      · rw [Bool.true_and]
        cases hd : (badOf (isPA C all) (List.range all.length) 0).testBit j
        · rfl
        · rcases (badOf_bit C j _ 0).1 hd with h1 | ⟨h1, h2⟩
          · simp at h1
          · rw [h j (List.mem_range.1 h1) hb] at h2; cases h2
    rw [this]; rfl

theorem early_closed {i j : Nat} (h : early C (ancs [] all) all (badOf (isPA C all) (List.range all.length) 0) i = true) (hj : j < all.length) (hb : bit (ancs [] all) i j = true) :
    early C (ancs [] all) all (badOf (isPA C all) (List.range all.length) 0) j = true := by
  rw [early_spec] at h ⊢
  exact ⟨h.2 j hj hb, fun k hk hbk => h.2 k hk (bit_trans hE i hb hbk)⟩

theorem order_pair : (order C (ancs [] all) all).Pairwise (fun i j => i ≠ j ∧ bit (ancs [] all) i j = false) := by
  unfold order
  have hr : (List.range all.length).Pairwise (· < ·) := List.pairwise_lt_range
  have hlt : ∀ i j, i < j → i ≠ j ∧ bit (ancs [] all) i j = false := by
    intro i j hij
    refine ⟨by omega, ?_⟩
    cases hb : bit (ancs [] all) i j with
    | false => rfl
    | true => have := bit_lt hE i j hb; omega
  show List.Pairwise _ (List.filter _ _ ++ List.filter _ _)
  rw [List.pairwise_append]
  refine ⟨?_, ?_, ?_⟩
  · exact (hr.filter _).imp fun {i j} hij => hlt i j hij
  · exact (hr.filter _).imp fun {i j} hij => hlt i j hij
  · intro i hi j hj
    have h1 := (List.mem_filter.1 hi).2
    have h2 := (List.mem_filter.1 hj).2
    have hjn := List.mem_range.1 (List.mem_filter.1 hj).1
    refine ⟨?_, ?_⟩
    · intro e; subst e
      rw [h1] at h2; cases h2
    · cases hb : bit (ancs [] all) i j with
      | false => rfl
      | true =>
        rw [early_closed hE C h1 hjn hb] at h2; cases h2

omit hE in
theorem mem_order (i : Nat) : i ∈ order C (ancs [] all) all ↔ i < all.length := by
  unfold order
  simp only [List.mem_append, List.mem_filter, List.mem_range]
  cases early C (ancs [] all) all (badOf (isPA C all) (List.range all.length) 0) i <;> simp

theorem order_before {k k' i j : Nat} (hi : (order C (ancs [] all) all)[k]? = some i) (hj : (order C (ancs [] all) all)[k']? = some j) (h : bit (ancs [] all) i j = true) : k' < k := by
  rcases Nat.lt_trichotomy k k' with hlt | rfl | hlt
  · have := List.pairwise_iff_getElem.1 (order_pair hE C) k k' (List.getElem?_eq_some_iff.1 hi).1 (List.getElem?_eq_some_iff.1 hj).1 hlt
    rw [(List.getElem?_eq_some_iff.1 hi).2, (List.getElem?_eq_some_iff.1 hj).2] at this
    rw [h] at this; cases this.2
  · rw [hi] at hj; cases hj
    have := bit_lt hE i i h; omega
  · exact hlt

theorem order_inj {k k' i : Nat} (hi : (order C (ancs [] all) all)[k]? = some i) (hj : (order C (ancs [] all) all)[k']? = some i) : k = k' := by
  rcases Nat.lt_trichotomy k k' with hlt | rfl | hlt
  · have := List.pairwise_iff_getElem.1 (order_pair hE C) k k' (List.getElem?_eq_some_iff.1 hi).1 (List.getElem?_eq_some_iff.1 hj).1 hlt
    rw [(List.getElem?_eq_some_iff.1 hi).2, (List.getElem?_eq_some_iff.1 hj).2] at this
    exact absurd rfl this.1
  · rfl
  · have := List.pairwise_iff_getElem.1 (order_pair hE C) k' k (List.getElem?_eq_some_iff.1 hj).1 (List.getElem?_eq_some_iff.1 hi).1 hlt
    rw [(List.getElem?_eq_some_iff.1 hi).2, (List.getElem?_eq_some_iff.1 hj).2] at this
    exact absurd rfl this.1

/-- what writes, or makes memory, has all writers ahead of it behind it -/
theorem chained_listed {L : Nat → Prop} (hL : Closed all L) : ∀ (σ : List Nat) (last : Option Nat), chained C (ancs [] all) all last σ = true →
    ∀ (k i : Nat), σ[k]? = some i → (isB C all i = true ∨ isAt C all i = true) → (∀ j, bit (ancs [] all) i j = true → L j) →
    (∀ j, last = some j → L j) ∧ ∀ (k' j : Nat), k' < k → σ[k']? = some j → isB C all j = true → L j
  | [], _, _, k, i, h, _, _ => by simp at h
  | x :: σ, last, hc, 0, i, h, hk, hb => by
    simp at h; subst h
    refine ⟨?_, fun k' j h => by omega⟩
    intro j hj; subst hj
    refine hb j ?_
    unfold chained at hc
    cases h1 : isB C all x
    · rw [h1] at hc
      rcases hk with hk | hk
      · rw [h1] at hk; cases hk
      · rw [hk] at hc; simp only [cond_false, cond_true, Bool.and_eq_true] at hc; exact hc.1
    · rw [h1] at hc; simp only [cond_true, Bool.and_eq_true] at hc; exact hc.1
  | x :: σ, last, hc, k + 1, i, h, hk, hb => by
    have h' : σ[k]? = some i := by simpa using h
    unfold chained at hc
    cases h1 : isB C all x
    · rw [h1] at hc
      have hc' : chained C (ancs [] all) all last σ = true := by
        cases h2 : isAt C all x
        · rw [h2] at hc; exact hc
        · rw [h2] at hc; simp only [cond_false, cond_true, Bool.and_eq_true] at hc; exact hc.2
      obtain ⟨g1, g2⟩ := chained_listed hL σ last hc' k i h' hk hb
      refine ⟨g1, ?_⟩
      intro k' j hlt hj hjb
      cases k' with
      | zero => simp at hj; subst hj; rw [h1] at hjb; cases hjb
      | succ k' => exact g2 k' j (by omega) (by simpa using hj) hjb
    · rw [h1] at hc; simp only [cond_true, Bool.and_eq_true] at hc
      obtain ⟨g1, g2⟩ := chained_listed hL σ (some x) hc.2 k i h' hk hb
      have hx := g1 x rfl
      refine ⟨?_, ?_⟩
      · intro j hj; subst hj
        exact closed_bit hE hL x j hx hc.1
      · intro k' j hlt hj hjb
        cases k' with
        | zero => simp at hj; subst hj; exact hx
        | succ k' => exact g2 k' j (by omega) (by simpa using hj) hjb
end

theorem calm_spec {anc : List Nat} {all : List Oper} (h : calm anc all = true) {i j : Nat} {x y : Oper} {d : Nat} (hx : all[i]? = some x) (hd : x.dst = some d) (hy : all[j]? = some y) :
    i = j ∨ (y.dst ≠ some d ∧ (d ∈ looks all y → bit anc j i = true ∨ bit anc i j = true)) := by
  unfold calm at h
  rw [List.all_eq_true] at h
  have hi : i < all.length := (List.getElem?_eq_some_iff.1 hx).1
  have hj : j < all.length := (List.getElem?_eq_some_iff.1 hy).1
  have h1 := h i (List.mem_range.2 hi)
  rw [hx] at h1
  dsimp only at h1
  rw [hd] at h1
  dsimp only at h1
  rw [List.all_eq_true] at h1
  have h2 := h1 j (List.mem_range.2 hj)
  rw [hy] at h2
  simp only [Bool.or_eq_true, Bool.and_eq_true, beq_iff_eq, bne_iff_ne, ne_eq, Bool.not_eq_true'] at h2
  rcases h2 with h2 | ⟨h2, h3⟩
  · exact .inl h2
  · refine .inr ⟨h2, fun hm => ?_⟩
    rcases h3 with (h3 | h3) | h3
    · have : (looks all y).contains d = true := by simpa using hm
      rw [h3] at this; cases this
    · exact .inl h3
    · exact .inr h3
end Go.AM
namespace Go.AM
open Go
variable [Syms]

abbrev St := T Value × Heap

def StepOk (C : Ctx) (rec : Rec) (all : List Oper) (rs : List Rd) (ns : List Nd) (i : Nat) (s s' : St) : Prop :=
  ∃ o, all[i]? = some o ∧
    ((guardOk all s.1 o = some false ∧ s'.1 = put s.1 o.dst undef ∧ s'.2 = s.2) ∨
     (guardOk all s.1 o = some true ∧ ∃ v, s'.1 = put s.1 o.dst v ∧
      ((sort3 C o.op = .p ∧ opP C (evR C.base (looks all o) s.1) o.op = some v ∧ s'.2 = s.2) ∨
       (sort3 C o.op = .r ∧ opR C (evR C.base (looks all o) s.1) s.2 o.op = some v ∧ s'.2 = s.2 ∧ ⟨i, o, s.1, v⟩ ∈ rs) ∨
       (sort3 C o.op = .a ∧ allocB C (evR C.base (looks all o) s.1) s.2 o.op = some (v, s'.2) ∧ ∃ x, s'.2.blk s.2.n = some x ∧ ⟨i, s.2.n, x⟩ ∈ ns) ∨
       (sort3 C o.op = .b ∧ opB C rec (evR C.base (looks all o) s.1) s.2 o.op = some (v, s'.2)))))

def Traced (C : Ctx) (rec : Rec) (all : List Oper) (hs : List Hd) (rs : List Rd) (ns : List Nd) (σ : List Nat) (l : Option Nat) (s s' : St) : Prop :=
  ∃ f : Nat → St, f 0 = s ∧ f σ.length = s' ∧ (∀ (k i : Nat), σ[k]? = some i → StepOk C rec all rs ns i (f k) (f (k + 1))) ∧
    ∀ K : Nat, K ≤ σ.length → (K = σ.length ∨ ∃ i, σ[K]? = some i ∧ isB C all i = true) →
      ∃ h ∈ hs, h.H = (f K).2 ∧ h.c = σ[K]? ∧ ∀ j, h.l = some j → l = some j ∨ ∃ k : Nat, k < K ∧ σ[k]? = some j ∧ isB C all j = true

omit [Syms] in
theorem Traced.cons {C : Ctx} {rec : Rec} {all : List Oper} {hs : List Hd} {rs : List Rd} {ns : List Nd} {i : Nat} {σ : List Nat} {l l1 : Option Nat} {s s1 s' : St}
    (h1 : StepOk C rec all rs ns i s s1) (h2 : Traced C rec all hs rs ns σ l1 s1 s')
    (h3 : (isB C all i = true ∧ l1 = some i ∧ ⟨l, some i, s.2⟩ ∈ hs) ∨ (isB C all i = false ∧ l1 = l)) : Traced C rec all hs rs ns (i :: σ) l s s' := by
  obtain ⟨f, f0, fe, fs, fh⟩ := h2
  refine ⟨fun k => match k with | 0 => s | k + 1 => f k, rfl, fe, ?_, ?_⟩
  · intro k j hk
    cases k with
    | zero => simp at hk; subst hk; show StepOk C rec all rs ns i s (f 0); rw [f0]; exact h1
    | succ k => exact fs k j (by simpa using hk)
  · intro K hK hb
    cases K with
    | zero =>
      rcases hb with hb | ⟨j, hj, hb⟩
      · simp at hb
      · simp at hj; subst hj
        rcases h3 with ⟨_, _, hm⟩ | ⟨h3, _⟩
        · exact ⟨_, hm, rfl, rfl, fun j hj => .inl hj⟩
        · rw [h3] at hb; cases hb
    | succ K =>
      obtain ⟨h, hm, e1, e2, e3⟩ := fh K (by simpa using hK) (by
        rcases hb with hb | ⟨j, hj, hb⟩
        · exact .inl (by simpa using hb)
        · exact .inr ⟨j, by simpa using hj, hb⟩)
      refine ⟨h, hm, e1, by simpa using e2, ?_⟩
      intro j hj
      rcases e3 j hj with e | ⟨k, hk, e4, e5⟩
      · rcases h3 with ⟨g1, g2, _⟩ | ⟨_, g2⟩
        · rw [g2] at e; cases e
          exact .inr ⟨0, by omega, rfl, g1⟩
        · exact .inl (g2 ▸ e)
      · exact .inr ⟨k + 1, by omega, by simpa using e4, e5⟩

omit [Syms] in
theorem isB_sort {C : Ctx} {all : List Oper} {i : Nat} {o : Oper} (h : all[i]? = some o) : (isB C all i = true ↔ sort3 C o.op = .b) ∧ (isAt C all i = true ↔ sort3 C o.op = .a) := by
  unfold isB isAt
  rw [h]; dsimp only
  cases sort3 C o.op <;> simp

omit [Syms] in
theorem drawGo_trace {C : Ctx} {rec : Rec} {all : List Oper} {s' : St} {hs' : List Hd} {rs' : List Rd} {ns' : List Nd} : ∀ (σ : List Nat) tm H l hs rs ns,
    drawGo C rec all σ tm H l hs rs ns = some (s'.1, s'.2, hs', rs', ns') →
    (∀ x ∈ hs, x ∈ hs') ∧ (∀ x ∈ rs, x ∈ rs') ∧ (∀ x ∈ ns, x ∈ ns') ∧ Traced C rec all hs' rs' ns' σ l (tm, H) s'
  | [], tm, H, l, hs, rs, ns, h => by
    simp only [drawGo, Option.some.injEq, Prod.mk.injEq] at h
    obtain ⟨e1, e2, rfl, rfl, rfl⟩ := h
    refine ⟨fun x hx => by simp [hx], fun x hx => hx, fun x hx => hx, fun _ => (tm, H), rfl, by show (tm, H) = s'; rw [e1, e2], ?_, ?_⟩
    · intro k i hk; simp at hk
    · intro K hK _
      exact ⟨⟨l, none, H⟩, by simp, rfl, by simp, fun j hj => .inl hj⟩
  | i :: σ, tm, H, l, hs, rs, ns, h => by
    unfold drawGo at h
    split at h
    · cases h
    · rename_i o ho
      have hB := (isB_sort (C := C) ho).1
      split at h
      · cases h
      · rename_i hg
        cases hb : isB C all i
        · rw [hb] at h; simp only [cond_false] at h
          obtain ⟨a1, a2, a3, a4⟩ := drawGo_trace σ _ _ _ _ _ _ h
          exact ⟨a1, a2, a3, Traced.cons (s1 := (put tm o.dst undef, H)) ⟨o, ho, .inl ⟨hg, rfl, rfl⟩⟩ a4 (.inr ⟨hb, rfl⟩)⟩
        · rw [hb] at h; simp only [cond_true] at h
          obtain ⟨a1, a2, a3, a4⟩ := drawGo_trace σ _ _ _ _ _ _ h
          exact ⟨fun x hx => a1 x (by simp [hx]), a2, a3, Traced.cons (s1 := (put tm o.dst undef, H)) ⟨o, ho, .inl ⟨hg, rfl, rfl⟩⟩ a4 (.inl ⟨hb, rfl, a1 _ (by simp)⟩)⟩
      · rename_i hg
        split at h
        · rename_i hs3
          have hb : isB C all i = false := by cases hb : isB C all i with | false => rfl | true => rw [hB.1 hb] at hs3; cases hs3
          split at h
          · rename_i v hv
            obtain ⟨a1, a2, a3, a4⟩ := drawGo_trace σ _ _ _ _ _ _ h
            exact ⟨a1, a2, a3, Traced.cons (s1 := (put tm o.dst v, H)) ⟨o, ho, .inr ⟨hg, v, rfl, .inl ⟨hs3, hv, rfl⟩⟩⟩ a4 (.inr ⟨hb, rfl⟩)⟩
          · cases h
        · rename_i hs3
          have hb : isB C all i = false := by cases hb : isB C all i with | false => rfl | true => rw [hB.1 hb] at hs3; cases hs3
          split at h
          · rename_i v hv
            obtain ⟨a1, a2, a3, a4⟩ := drawGo_trace σ _ _ _ _ _ _ h
            exact ⟨a1, fun x hx => a2 x (by simp [hx]), a3, Traced.cons (s1 := (put tm o.dst v, H)) ⟨o, ho, .inr ⟨hg, v, rfl, .inr (.inl ⟨hs3, hv, rfl, a2 _ (by simp)⟩)⟩⟩ a4 (.inr ⟨hb, rfl⟩)⟩
          · cases h
        · rename_i hs3
          have hb : isB C all i = false := by cases hb : isB C all i with | false => rfl | true => rw [hB.1 hb] at hs3; cases hs3
          split at h
          · rename_i v H1 hv
            split at h
            · rename_i x hx
              obtain ⟨a1, a2, a3, a4⟩ := drawGo_trace σ _ _ _ _ _ _ h
              exact ⟨a1, a2, fun x hx => a3 x (by simp [hx]), Traced.cons (s1 := (put tm o.dst v, H1)) ⟨o, ho, .inr ⟨hg, v, rfl, .inr (.inr (.inl ⟨hs3, hv, x, hx, a3 _ (by simp)⟩))⟩⟩ a4 (.inr ⟨hb, rfl⟩)⟩
            · cases h
          · cases h
        · rename_i hs3
          have hb : isB C all i = true := hB.2 hs3
          split at h
          · rename_i v H1 hv
            obtain ⟨a1, a2, a3, a4⟩ := drawGo_trace σ _ _ _ _ _ _ h
            exact ⟨fun x hx => a1 x (by simp [hx]), a2, a3, Traced.cons (s1 := (put tm o.dst v, H1)) ⟨o, ho, .inr ⟨hg, v, rfl, .inr (.inr (.inr ⟨hs3, hv⟩))⟩⟩ a4 (.inl ⟨hb, rfl, a1 _ (by simp)⟩)⟩
          · cases h

omit [Syms] in
theorem allocB_new {C : Ctx} {ρ : Env} {H H' : Heap} {o : Op} {v : Value} (h : allocB C ρ H o = some (v, H')) : ∃ b x, H.new x = some (b, H') := by
  have hp : ∀ {x v}, newP H x = some (v, H') → ∃ b x, H.new x = some (b, H') := by
    intro x v h
    obtain ⟨b, h1, _⟩ := newP_spec h
    exact ⟨b, x, h1⟩
  unfold allocB at h
  split at h
  · split at h
    · split at h
      · exact hp h
      · cases h
    · cases h
  · split at h
    · exact hp h
    · cases h
  · repeat' (split at h)
    all_goals first
      | (cases h; done)
      | (rename_i hn; rw [Bool.cond_eq_ite] at h; split at h <;> first
          | (cases h; done)
          | (simp only [Option.some.injEq, Prod.mk.injEq] at h; obtain ⟨rfl, rfl⟩ := h; exact ⟨_, _, hn⟩))
      | (rw [Bool.cond_eq_ite] at h; split at h <;> cases h)
  · split at h
    · rename_i hn
      simp only [Option.some.injEq, Prod.mk.injEq] at h; obtain ⟨rfl, rfl⟩ := h
      exact ⟨_, _, hn⟩
    · cases h
  · repeat' (split at h)
    all_goals first
      | (cases h; done)
      | (rename_i hn; rw [Bool.cond_eq_ite] at h; split at h <;> first
          | (cases h; done)
          | (simp only [Option.some.injEq, Prod.mk.injEq] at h; obtain ⟨rfl, rfl⟩ := h; exact ⟨_, _, hn⟩))
      | (rw [Bool.cond_eq_ite] at h; split at h <;> cases h)
  · cases h

omit [Syms] in
theorem Heap.new_n {H H' : Heap} {x : Blk} {b : Nat} (h : H.new x = some (b, H')) : b = H.n ∧ H'.n = H.n + 1 := by
  unfold Heap.new at h
  cases hb : Nat.blt H.n LIMIT
  · rw [hb] at h; cases h
  · rw [hb] at h; simp only [cond_true, Option.some.injEq, Prod.mk.injEq] at h
    obtain ⟨rfl, rfl⟩ := h
    exact ⟨rfl, rfl⟩

omit [Syms] in
/-- a step that does not write: the heap is as it was, or has a block more -/
theorem StepOk.still {C : Ctx} {rec : Rec} {all : List Oper} {rs : List Rd} {ns : List Nd} {i : Nat} {s s' : St} (h : StepOk C rec all rs ns i s s') (hb : isB C all i = false) :
    s'.2 = s.2 ∨ ∃ b x, s.2.new x = some (b, s'.2) := by
  obtain ⟨o, ho, h⟩ := h
  have hB := (isB_sort (C := C) ho).1
  rcases h with ⟨_, _, h⟩ | ⟨_, v, _, h | h | h | h⟩
  · exact .inl h
  · exact .inl h.2.2
  · exact .inl h.2.2.1
  · exact .inr (allocB_new h.2.1)
  · rw [hB.2 h.1] at hb; cases hb

omit [Syms] in
theorem StepOk.puts {C : Ctx} {rec : Rec} {all : List Oper} {rs : List Rd} {ns : List Nd} {i : Nat} {s s' : St} (h : StepOk C rec all rs ns i s s') :
    ∃ o v, all[i]? = some o ∧ s'.1 = put s.1 o.dst v := by
  obtain ⟨o, ho, h⟩ := h
  rcases h with ⟨_, h, _⟩ | ⟨_, v, h, _⟩
  · exact ⟨o, _, ho, h⟩
  · exact ⟨o, v, ho, h⟩
end Go.AM
