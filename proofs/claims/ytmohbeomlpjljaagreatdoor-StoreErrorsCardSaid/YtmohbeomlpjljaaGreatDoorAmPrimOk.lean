/- AM: functions taken at their contracts: the two of Go's that have no body. -/
import Derived.Test.YtmohbeomlpjljaaGreatDoorAmCode
import Derived.Test.YtmohbeomlpjljaaGreatDoorAmRun
import Derived.Laws.Externs
import Derived.Room.MakeNoZero
namespace Go.AM
open Go
variable [Syms]

def PrimAt (C : Ctx) (g : FuncId) (p : Prim) : Prop :=
  ∀ args H v H', p args H = some (v, H') → ∀ φ w args', HRel C φ H w → VRels φ args args' →
    ((callFunc g ⟨args'⟩).run C.P w = Result.ok (.enter g ⟨args'⟩) w ∧ Calls C.P g ⟨args'⟩ w (fun e w' => ∃ v', e = .returned v' ∧ Post C φ w H' v v' w')) ∨
    ∃ v' w', (callFunc g ⟨args'⟩).run C.P w = Result.ok (.value v') w' ∧ Post C φ w H' v v' w'

theorem PrimOk.of {C : Ctx} (h : ∀ g p, C.prOf g = some p → PrimAt C g p) : PrimOk C :=
  fun g p hp args H v H' hr φ w args' hH ha => h g p hp args H v H' hr φ w args' hH ha

theorem noEscape_at {C : Ctx} {g : FuncId} {fn : Func} (hf : C.P.funcs[g]? = some fn) (hname : (fn.name == "runtime.NumGoroutine") = false)
    (hb : fn.body.isNone = true) (hn : Extern.findNext fn = none) (he : Extern.find fn = some Extern.AbiNoEscape.same) : PrimAt C g noEscape := by
  intro args H v H' hr φ w args' hH ha
  right
  unfold noEscape at hr
  split at hr
  · rename_i v1
    simp only [Option.some.injEq, Prod.mk.injEq] at hr
    obtain ⟨rfl, rfl⟩ := hr
    cases ha with
    | cons _ v' _ _ hv htl =>
      cases htl
      refine ⟨v', w, ?_, φ, Ext.refl _ _ _, hH, hv⟩
      rw [run_callFunc_extern hf hname hb hn he]
      rfl
  · cases hr

theorem makeNoZero_at {C : Ctx} {g : FuncId} {fn : Func} {t e : TypeId} (hf : C.P.funcs[g]? = some fn) (hname : (fn.name == "runtime.NumGoroutine") = false)
    (hb : fn.body.isNone = true) (hn : Extern.findNext fn = none) (he : Extern.find fn = some (Extern.BytealgMakeNoZero.makeNoZero fn.params #[t])) (ht : C.P.underlying t = some (.slice e)) :
    PrimAt C g (makeNoZero e) := by
  intro args H v H' hr φ w args' hH ha
  right
  unfold makeNoZero at hr
  split at hr
  · rename_i n
    cases hc : n.ble LIMIT
    · rw [hc] at hr; cases hr
    · rw [hc] at hr; simp only [cond_true] at hr
      have hn1 := Nat.le_of_ble_eq_true hc
      have hL : LIMIT = 4194304 := by decide
      split at hr
      · rename_i b H1 hnw
        simp only [Option.some.injEq, Prod.mk.injEq] at hr
        obtain ⟨rfl, rfl⟩ := hr
        cases ha with
        | cons _ v' _ _ hv htl =>
          cases htl
          cases hv
          obtain ⟨cs, hrun, hle, _⟩ := Lib.run_makeNoZero_cap (P := C.P) w fn.params t e ht n (by omega)
          obtain ⟨φ', h1, h2, h3⟩ := row_open w.drew.drew hH.drew.drew hnw (cs := cs) (Nat.zero_le _) .nil
          refine ⟨.slice (some ⟨w.heap.size, 0, none⟩) n cs.size, w.drew.drew.alloc (.cells cs e), ?_, φ', ?_, h2, ?_⟩
          · rw [run_callFunc_extern hf hname hb hn he]
            have : (Value.int IntKind.i64 (Int.ofNat n)) = .int .i64 (n : Int) := rfl
            rw [show (⟨[Value.int IntKind.i64 (Int.ofNat n)]⟩ : Array Value) = #[.int .i64 (n : Int)] from rfl, hrun]
            rfl
          · exact ((Ext.drew C φ w).trans (Ext.drew C φ w.drew)).trans h3
          · exact .opn b 0 n cs.size 1 _ h1 hle (by simp)
      · cases hr
  · cases hr
end Go.AM
