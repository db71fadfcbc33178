/- AM: code in order. -/
import Derived.Test.YtpmolggmafgeeaaGreatDoorAmDraw
import Derived.Test.YtpmolggmafgeeaaGreatDoorAmRun
import Derived.Laws.Externs
import Derived.Room.MakeNoZero
import Derived.Below
namespace Go.AM
open Go
variable [Syms]

/-- a loop under way -/
def wpL (P : Program) (c : Code) (Q : Exit → Act → World → Prop) (a : Act) (w : World) : Prop :=
  ∀ (b : Frame) (k : List Item) (cs : List Frame),
    ∃ e a' w', Q e a' w' ∧ Arrives P (lone (b.at a (.code c :: .inLoop c :: k)) cs w) b k cs e a' w'

omit [Syms] in
theorem wpL.wp {P : Program} {c : Code} {Q : Exit → Act → World → Prop} {a : Act} {w : World} (h : wpL P c Q a w) : (Code.loop c).wp P Q a w := by
  intro b k cs
  obtain ⟨e, a', w', q, r⟩ := h b k cs
  exact ⟨e, a', w', q, .of_steps (.one step_loop) r⟩

omit [Syms] in
theorem wpL.mono {P : Program} {c : Code} {Q Q' : Exit → Act → World → Prop} {a : Act} {w : World} (h : wpL P c Q a w) (hq : ∀ e a w, Q e a w → Q' e a w) : wpL P c Q' a w :=
  fun b k cs => let ⟨e, a', w', q, r⟩ := h b k cs; ⟨e, a', w', hq _ _ _ q, r⟩

omit [Syms] in
theorem wpL.round {P : Program} {c : Code} {Q : Exit → Act → World → Prop} {a : Act} {w : World} (h : c.wp P (Exit.then (wpL P c Q) Q) a w) : wpL P c Q a w := by
  intro b k cs
  obtain ⟨e, a₁, w₁, hq, harr⟩ := h b (.inLoop c :: k) cs
  cases e with
  | normal =>
    obtain ⟨e₂, a₂, w₂, hq₂, harr₂⟩ := hq b k cs
    exact ⟨e₂, a₂, w₂, hq₂, .of_steps (Steps.trans harr (.one step_inLoop)) harr₂⟩
  | exit id => exact ⟨_, a₁, w₁, hq, .pass (x := .inLoop c) rfl (fun _ _ => .inl (by simp)) harr⟩
  | goto l => exact ⟨_, a₁, w₁, hq, .pass (x := .inLoop c) rfl (fun _ _ => .inl (by simp)) harr⟩
  | ret => exact ⟨_, a₁, w₁, hq, .pass (x := .inLoop c) rfl (fun _ _ => .inl (by simp)) harr⟩
  | panic ch => exact ⟨_, a₁, w₁, hq, .pass (x := .inLoop c) rfl (fun _ _ => .inl (by simp)) harr⟩
  | outgrown => exact ⟨_, a₁, w₁, hq, .pass (x := .inLoop c) rfl (fun _ _ => .inl (by simp)) harr⟩

def wpC (P : Program) (c : Code) (Q : Exit → Act → World → Prop) (a : Act) (w : World) : Prop :=
  match c with
  | .loop b => wpL P b Q a w
  | c => c.wp P Q a w

omit [Syms] in
theorem wpC.wp {P : Program} {c : Code} {Q : Exit → Act → World → Prop} {a : Act} {w : World} (h : wpC P c Q a w) : c.wp P Q a w := by
  cases c <;> first | exact h | exact wpL.wp h

def SoundC (C : Ctx) (rec : Code → T Value → Heap → R) : Prop :=
  ∀ c tm H e tm' H', rec c tm H = .ok e tm' H' → ∀ φ a w, HRel C φ H w → TRel φ tm a → wpC C.P c (fun x a' w' => x = e.to ∧ After C φ a w tm' H' a' w') a w

theorem SoundC.sound {C : Ctx} {rec : Code → T Value → Heap → R} (h : SoundC C rec) : Sound C rec :=
  fun c tm H e tm' H' hr φ a w hH hT => (h c tm H e tm' H' hr φ a w hH hT).wp

theorem code_sound {C : Ctx} (hC : COk C) (hP : ∀ n, PrimOk (C.from n)) {rec : Code → T Value → Heap → R} (hS : ∀ n, SoundC (C.from n) rec) : SoundC C (codeF C rec) := by
  intro c tm H e tm' H' h φ a w hH hT
  have hSC : SoundC C rec := hS C.lo
  have hS' := hSC.sound
  have hall : ∀ n, RecOk (C.from n) (callF C rec) := fun n => by
    have := call_sound (hC.from n) (hP n) (hS n).sound
    rw [callF_from] at this; exact this
  have hrec : RecOk C (callF C rec) := hall C.lo
  cases c with
  | skip =>
    have h : R.ok .normal tm H = .ok e tm' H' := h
    cases h
    exact wp_skip ⟨rfl, After.refl hH hT⟩
  | label l =>
    have h : R.ok .normal tm H = .ok e tm' H' := h
    cases h
    exact wp_label ⟨rfl, After.refl hH hT⟩
  | region id ops draw =>
    cases draw with
    | true => exact draw_ok hC hall ops h id hH hT
    | false =>
      have h : opsF C (callF C rec) ops.toList ops.toList tm H = .ok e tm' H' := h
      have he := ops_normal _ _ _ _ _ _ h
      subst he
      refine wp_region ?_
      rw [List.range_eq_range', ← Array.length_toList]
      exact (ops_sound hC hrec ops.toList 0 rfl _ _ _ _ _ h φ a w hH hT _ (fun a' w' ha => ⟨rfl, ha⟩)).2
  | seq x y =>
    have h : (match rec x tm H with | .ok .normal tm H => rec y tm H | r => r) = .ok e tm' H' := h
    refine wp_seq ?_
    split at h
    · rename_i tm1 H1 hx
      refine wp_mono (hS' _ _ _ _ _ _ hx φ a w hH hT) ?_
      rintro e1 a1 w1 ⟨rfl, φ1, hext, hH1, hT1, hd⟩
      refine wp_mono (hS' _ _ _ _ _ _ h φ1 a1 w1 hH1 hT1) ?_
      rintro e2 a2 w2 ⟨rfl, hafter⟩
      exact ⟨rfl, After.trans hext hd hafter⟩
    · rename_i hne
      refine wp_mono (hS' _ _ _ _ _ _ h φ a w hH hT) ?_
      rintro e1 a1 w1 ⟨rfl, hafter⟩
      cases e with
      | normal => exact absurd h (hne _ _)
      | exit i => exact ⟨rfl, hafter⟩
      | ret => exact ⟨rfl, hafter⟩
  | cond c x y =>
    have h : (match evT C.base tm c with | some (.bool true) => rec x tm H | some (.bool false) => rec y tm H | _ => .bad) = .ok e tm' H' := h
    split at h
    · rename_i hc
      have := hT.rho hH _ _ hc
      cases hv : a.eval c with
      | bool t => rw [hv] at this; cases this; exact wp_cond_true hv (hS' _ _ _ _ _ _ h φ a w hH hT)
      | _ => rw [hv] at this; cases this
    · rename_i hc
      have := hT.rho hH _ _ hc
      cases hv : a.eval c with
      | bool t => rw [hv] at this; cases this; exact wp_cond_false hv (hS' _ _ _ _ _ _ h φ a w hH hT)
      | _ => rw [hv] at this; cases this
    · cases h
  | block id b =>
    have h : (match rec b tm H with
      | .ok (.exit i) tm H => bif i.beq id then .ok .normal tm H else .ok (.exit i) tm H
      | r => r) = R.ok e tm' H' := h
    refine wp_block ?_
    split at h
    · rename_i i tm1 H1 hx
      refine wp_mono (hS' _ _ _ _ _ _ hx φ a w hH hT) ?_
      rintro e1 a1 w1 ⟨rfl, hafter⟩
      show (if i = id then _ else _)
      cases hi : i.beq id
      · rw [hi] at h; cases h
        have : i ≠ id := by intro e; subst e; simp at hi
        rw [if_neg this]; exact ⟨rfl, hafter⟩
      · rw [hi] at h; cases h
        have : i = id := Nat.eq_of_beq_eq_true hi
        rw [if_pos this]; exact ⟨rfl, hafter⟩
    · rename_i hne
      refine wp_mono (hS' _ _ _ _ _ _ h φ a w hH hT) ?_
      rintro e1 a1 w1 ⟨rfl, hafter⟩
      cases e with
      | normal => exact ⟨rfl, hafter⟩
      | exit i => exact absurd h (hne _ _ _)
      | ret => exact ⟨rfl, hafter⟩
  | loop b =>
    have h : (match rec b tm H with | .ok .normal tm H => rec (.loop b) tm H | r => r) = .ok e tm' H' := h
    refine wpL.round ?_
    split at h
    · rename_i tm1 H1 hx
      refine wp_mono (hS' _ _ _ _ _ _ hx φ a w hH hT) ?_
      rintro e1 a1 w1 ⟨rfl, φ1, hext, hH1, hT1, hd⟩
      refine wpL.mono (hSC _ _ _ _ _ _ h φ1 a1 w1 hH1 hT1) ?_
      rintro e2 a2 w2 ⟨rfl, hafter⟩
      exact ⟨rfl, After.trans hext hd hafter⟩
    · rename_i hne
      refine wp_mono (hS' _ _ _ _ _ _ h φ a w hH hT) ?_
      rintro e1 a1 w1 ⟨rfl, hafter⟩
      cases e with
      | normal => exact absurd h (hne _ _)
      | exit i => exact ⟨rfl, hafter⟩
      | ret => exact ⟨rfl, hafter⟩
  | exit id =>
    have h : R.ok (.exit id) tm H = .ok e tm' H' := h
    cases h
    exact wp_exit ⟨rfl, After.refl hH hT⟩
  | ret =>
    have h : R.ok .ret tm H = .ok e tm' H' := h
    cases h
    exact wp_ret ⟨rfl, After.refl hH hT⟩
  | _ => cases h

theorem run_sound {C : Ctx} (hC : COk C) (hP : ∀ n, PrimOk (C.from n)) : ∀ m n, SoundC (C.from n) (run C m)
  | 0, n => by intro c tm H e tm' H' h; cases h
  | m + 1, n => by
    have := code_sound (hC.from n) (fun k => hP k) (rec := run C m) (fun k => run_sound hC hP m k)
    rw [codeF_from] at this; exact this

/-- what the machine answers, the program answers -/
theorem call_calls {C : Ctx} (hC : COk C) (hP : ∀ n, PrimOk (C.from n)) (n : Nat) : RecOk C (call C n) :=
  call_sound hC (hP C.lo) (run_sound hC hP n C.lo).sound
end Go.AM
namespace Go.AM
open Go
variable [Syms]

def PrimAt (C : Ctx) (g : FuncId) (p : Prim) : Prop :=
  ∀ args H v H', p args H = some (v, H') → ∀ φ w args', HRel C φ H w → VRels φ args args' →
    ((callFunc g ⟨args'⟩).run C.P w = Result.ok (.enter g ⟨args'⟩) w ∧ Calls C.P g ⟨args'⟩ w (fun e w' => ∃ v', e = .returned v' ∧ Post C φ w H' v v' w')) ∨
    ∃ v' w', (callFunc g ⟨args'⟩).run C.P w = Result.ok (.value v') w' ∧ Post C φ w H' v v' w'

theorem PrimOk.of {C : Ctx} (h : ∀ g p, C.prOf g = some p → PrimAt C g p) : PrimOk C :=
  fun g p hp args H v H' hr φ w args' hH ha => h g p hp args H v H' hr φ w args' hH ha

theorem noEscape_at {C : Ctx} {g : FuncId} {fn : Func} (hf : C.P.funcs[g]? = some fn) (hname : (fn.name == "runtime.NumGoroutine") = false)
    (hb : fn.body.isNone = true) (hn : Extern.findNext fn = none) (he : Extern.find fn = some Extern.AbiNoEscape.same) : PrimAt C g noEscape := by
  intro args H v H' hr φ w args' hH ha
  right
  unfold noEscape at hr
  split at hr
  · rename_i v1
    simp only [Option.some.injEq, Prod.mk.injEq] at hr
    obtain ⟨rfl, rfl⟩ := hr
    cases ha with
    | cons _ v' _ _ hv htl =>
      cases htl
      refine ⟨v', w, ?_, φ, Ext.refl _ _ _, hH, hv⟩
      rw [run_callFunc_extern hf hname hb hn he]
      rfl
  · cases hr

theorem makeNoZero_at {C : Ctx} {g : FuncId} {fn : Func} {t e : TypeId} (hf : C.P.funcs[g]? = some fn) (hname : (fn.name == "runtime.NumGoroutine") = false)
    (hb : fn.body.isNone = true) (hn : Extern.findNext fn = none) (he : Extern.find fn = some (Extern.BytealgMakeNoZero.makeNoZero fn.params #[t])) (ht : C.P.underlying t = some (.slice e)) :
    PrimAt C g (makeNoZero e) := by
  intro args H v H' hr φ w args' hH ha
  right
  unfold makeNoZero at hr
  split at hr
  · rename_i n
    cases hc : n.ble LIMIT
    · rw [hc] at hr; cases hr
    · rw [hc] at hr; simp only [cond_true] at hr
      have hn1 := Nat.le_of_ble_eq_true hc
      have hL : LIMIT = 4194304 := by decide
      split at hr
      · rename_i b H1 hnw
        simp only [Option.some.injEq, Prod.mk.injEq] at hr
        obtain ⟨rfl, rfl⟩ := hr
        cases ha with
        | cons _ v' _ _ hv htl =>
          cases htl
          cases hv
          obtain ⟨cs, hrun, hle, _⟩ := Lib.run_makeNoZero_cap (P := C.P) w fn.params t e ht n (by omega)
          obtain ⟨φ', h1, h2, h3⟩ := row_open w.drew.drew hH.drew.drew hnw (cs := cs) (Nat.zero_le _) .nil
          refine ⟨.slice (some ⟨w.heap.size, 0, none⟩) n cs.size, w.drew.drew.alloc (.cells cs e), ?_, φ', ?_, h2, ?_⟩
          · rw [run_callFunc_extern hf hname hb hn he]
            have : (Value.int IntKind.i64 (Int.ofNat n)) = .int .i64 (n : Int) := rfl
            rw [show (⟨[Value.int IntKind.i64 (Int.ofNat n)]⟩ : Array Value) = #[.int .i64 (n : Int)] from rfl, hrun]
            rfl
          · exact ((Ext.drew C φ w).trans (Ext.drew C φ w.drew)).trans h3
          · exact .opn b 0 n cs.size 1 _ h1 hle (by simp)
      · cases hr
  · cases hr
end Go.AM
namespace Go.AM
open Go
variable [Syms]
open Go.RowKit (Below)

/-- what waits: numbered texts in a row -/
def Waits (n₀ : Nat) (W : World) (sv : Value) (zs : List (Int × ByteArray)) : Prop :=
  (sv = .slice none 0 0 ∧ zs = []) ∨ ∃ b off cap, sv = .slice (some ⟨b, off, none⟩) zs.length cap ∧ b < n₀ ∧
    ∀ (j : Nat) z, zs[j]? = some z → W.cell? ⟨b, off + j * 2, none⟩ = some (.int .i64 z.1) ∧ W.cell? ⟨b, off + j * 2 + 1, none⟩ = some (.string z.2)

/-- the law that a program's disk.data keeps -/
def DataLaw (P : Program) (g : FuncId) : Prop :=
  ∀ (db doff : Nat) (at_ : Int) (a : Option Addr) (len cap : Nat) (zs : List (Int × ByteArray)) (d : ByteArray), zs.length ≤ 1048576 →
    ∀ w : World, w.cell? ⟨db, doff + 1, none⟩ = some (.slice a len cap) → Waits w.heap.size w (.slice a len cap) zs →
    ((∃ (k : Nat) (z : Int × ByteArray), zs[k]? = some z ∧ z.1 = at_ ∧ z.2 = d ∧ ∀ (j : Nat) z', k < j → zs[j]? = some z' → z'.1 ≠ at_) ∨
      ((∀ (j : Nat) z, zs[j]? = some z → z.1 ≠ at_) ∧ ∃ (sb so sl sc k : Nat), w.cell? ⟨db, doff, none⟩ = some (.slice (some ⟨sb, so, none⟩) sl sc) ∧ at_ = (k : Int) ∧ k < sl ∧ sl ≤ 1048576 ∧ w.cell? ⟨sb, so + k, none⟩ = some (.string d))) →
    Calls P g #[.pointer (some ⟨db, doff, none⟩), .int .i64 at_] w fun e W' => e = .returned (.string d) ∧ Below w.heap.size w W'

theorem HRel.aside {C : Ctx} {φ : Phi} {H : Heap} {w w' : World} (h : HRel C φ H w) (hs : w.heap.size ≤ w'.heap.size) (hb : ∀ c, c < w.heap.size → w'.heap[c]? = w.heap[c]?) : HRel C φ H w' :=
  ⟨h.full, h.small, h.base, h.low, fun b l hl => by have := h.dom b l hl; exact ⟨this.1, by omega, this.2.2⟩,
    fun b l x hl hx => by rw [hb _ (h.dom b l hl).2.1]; exact h.blk b l x hl hx, h.sep⟩

omit [Syms] in
theorem Ext.aside {C : Ctx} {φ : Phi} {w w' : World} (h : Below w.heap.size w w') : Ext C φ w φ w' :=
  ⟨Le.refl φ, ⟨h.os, h.tape, h.output, h.size, fun c hc _ => h.block c hc⟩, fun _ _ h => .inl h⟩

def flatW (zs : List (Int × ByteArray)) : List Value := zs.flatMap fun z => [.int .i64 z.1, .string z.2]
omit [Syms] in
theorem flatW_cons (z : Int × ByteArray) (zs : List (Int × ByteArray)) : flatW (z :: zs) = .int .i64 z.1 :: .string z.2 :: flatW zs := rfl
omit [Syms] in
theorem flatW_length : ∀ zs, (flatW zs).length = 2 * zs.length
  | [] => rfl
  | z :: zs => by rw [flatW_cons]; simp [flatW_length zs]; omega
omit [Syms] in
theorem flatW_get : ∀ (zs : List (Int × ByteArray)) (j : Nat) z, zs[j]? = some z → (flatW zs)[j * 2]? = some (.int .i64 z.1) ∧ (flatW zs)[j * 2 + 1]? = some (.string z.2)
  | [], j, z, h => by simp at h
  | y :: zs, 0, z, h => by simp at h; subst h; rw [flatW_cons]; exact ⟨rfl, rfl⟩
  | y :: zs, j + 1, z, h => by
    have := flatW_get zs j z (by simpa using h)
    rw [flatW_cons, show (j + 1) * 2 = j * 2 + 1 + 1 by omega, show j * 2 + 1 + 1 + 1 = (j * 2 + 1) + 1 + 1 by omega]
    simpa using this
theorem flatW_rel {φ : Phi} : ∀ (zs : List (Int × ByteArray)) (l : List Value), VRels φ (flatW zs) l → l = flatW zs
  | [], l, h => by cases h; rfl
  | z :: zs, l, h => by
    rw [flatW_cons] at h ⊢
    cases h with
    | cons _ a _ l1 h1 h2 =>
      cases h1
      cases h2 with
      | cons _ b _ l2 h3 h4 =>
        cases h3
        rw [flatW_rel zs l2 h4]

omit [Syms] in
theorem lastW_spec (n : Int) : ∀ (ws : List Value) (r q : Option ByteArray), lastW n ws r = some q → ∃ zs, ws = flatW zs ∧
    ((∃ (k : Nat) (z : Int × ByteArray), zs[k]? = some z ∧ z.1 = n ∧ q = some z.2 ∧ ∀ (j : Nat) z', k < j → zs[j]? = some z' → z'.1 ≠ n) ∨
     ((∀ (j : Nat) z, zs[j]? = some z → z.1 ≠ n) ∧ q = r)) := by
  intro ws r
  induction ws, r using lastW.induct n with
  | case1 r =>
    intro q h
    simp only [lastW, Option.some.injEq] at h
    exact ⟨[], rfl, .inr ⟨fun j z hz => by simp at hz, h.symm⟩⟩
  | case2 m s l r ih =>
    intro q h
    simp only [lastW] at h
    obtain ⟨zs, rfl, h1⟩ := ih q h
    refine ⟨(m, s) :: zs, rfl, ?_⟩
    rcases h1 with ⟨k, z, h1, h2, h3, h4⟩ | ⟨h1, h2⟩
    · refine .inl ⟨k + 1, z, by simpa using h1, h2, h3, ?_⟩
      intro j z' hj hz
      cases j with
      | zero => omega
      | succ j => exact h4 j z' (by omega) (by simpa using hz)
    · by_cases e : m = n
      · rw [if_pos e] at h2
        refine .inl ⟨0, (m, s), rfl, e, h2, ?_⟩
        intro j z' hj hz
        cases j with
        | zero => omega
        | succ j => exact h1 j z' (by simpa using hz)
      · rw [if_neg e] at h2
        refine .inr ⟨?_, h2⟩
        intro j z hz
        cases j with
        | zero => simp at hz; subst hz; exact e
        | succ j => exact h1 j z (by simpa using hz)
  | case3 ws r hn1 hn2 =>
    intro q h
    unfold lastW at h
    split at h
    · exact absurd rfl hn1
    · rename_i m s l; exact absurd rfl (hn2 m s l)
    · cases h

theorem diskData_at {C : Ctx} {g : FuncId} {fn : Func} {b : Code} (hg : C.P.funcs[g]? = some fn) (hb : fn.body = some b) (hname : (fn.name == "runtime.NumGoroutine") = false) (hD : DataLaw C.P g) : PrimAt C g diskData := by
  intro args H v H' hr φ w args' hH ha
  left
  refine ⟨callFunc_enter hg hb hname _ w, ?_⟩
  unfold diskData at hr
  split at hr
  · rename_i bb off n
    cases ha with
    | cons _ p' _ _ hp htl =>
    cases htl with
    | cons _ n' _ _ hn htl2 =>
    cases htl2
    cases hn
    cases hp with
    | ptr _ _ l hl =>
    split at hr
    · rename_i st wt hcells
      obtain ⟨vs', hv1, hv2, hv3⟩ := hH.cells hl hcells
      cases hv1 with
      | cons _ st' _ _ hst htl =>
      cases htl with
      | cons _ wt' _ _ hwt htl2 =>
      cases htl2
      have hc0 : w.cell? ⟨l.c, l.d + off, none⟩ = some st' := hv3 0 _ rfl
      have hc1 : w.cell? ⟨l.c, l.d + off + 1, none⟩ = some wt' := hv3 1 _ rfl
      -- what waits
      have hwaits : ∀ ws, waitsOf H wt = some ws → ∀ q, lastW n ws none = some q → ∃ a len cap zs, wt' = .slice a len cap ∧ zs.length ≤ 1048576 ∧ Waits w.heap.size w (.slice a len cap) zs ∧
          ((∃ (k : Nat) (z : Int × ByteArray), zs[k]? = some z ∧ z.1 = n ∧ q = some z.2 ∧ ∀ (j : Nat) z', k < j → zs[j]? = some z' → z'.1 ≠ n) ∨
           ((∀ (j : Nat) z, zs[j]? = some z → z.1 ≠ n) ∧ q = none)) := by
        intro ws hws q hq
        obtain ⟨zs, rfl, hz⟩ := lastW_spec n ws none q hq
        unfold waitsOf at hws
        split at hws
        · simp only [Option.some.injEq] at hws
          have hz0 : zs = [] := by
            cases zs with
            | nil => rfl
            | cons z zs => rw [flatW_cons] at hws; cases hws
          subst hz0
          cases hwt
          exact ⟨none, 0, 0, [], rfl, by simp, .inl ⟨rfl, rfl⟩, hz⟩
        · rename_i wb wo wl wc
          cases hcc : wl.ble 1048576
          · rw [hcc] at hws; cases hws
          · rw [hcc] at hws; simp only [cond_true] at hws
            have hle := Nat.le_of_ble_eq_true hcc
            have key : ∀ (lw : Loc) (cap : Nat), φ wb = some lw → ∃ a len cap' zs', Value.slice (some ⟨lw.c, lw.d + wo, none⟩) wl cap = .slice a len cap' ∧ zs'.length ≤ 1048576 ∧ Waits w.heap.size w (.slice a len cap') zs' ∧
                ((∃ (k : Nat) (z : Int × ByteArray), zs'[k]? = some z ∧ z.1 = n ∧ q = some z.2 ∧ ∀ (j : Nat) z', k < j → zs'[j]? = some z' → z'.1 ≠ n) ∨
                 ((∀ (j : Nat) z, zs'[j]? = some z → z.1 ≠ n) ∧ q = none)) := by
              intro lw cap hlw
              obtain ⟨us, hu1, hu2, hu3⟩ := hH.cells hlw hws
              have hus := flatW_rel zs us hu1
              subst hus
              have hlen : zs.length = wl := by rw [flatW_length] at hu2; omega
              subst hlen
              refine ⟨_, _, _, zs, rfl, hle, .inr ⟨lw.c, lw.d + wo, cap, rfl, (hH.dom wb lw hlw).2.1, ?_⟩, hz⟩
              intro j z hj
              obtain ⟨g1, g2⟩ := flatW_get zs j z hj
              exact ⟨hu3 _ _ g1, by have := hu3 _ _ g2; rw [← Nat.add_assoc] at this; exact this⟩
            cases hwt with
            | slc _ _ _ _ lw hlw => exact key lw _ hlw
            | opn _ _ _ _ _ lw hlw => exact key lw _ hlw
        · cases hws
      have hend : ∀ d : ByteArray, (∃ a len cap zs, wt' = .slice a len cap ∧ zs.length ≤ 1048576 ∧ Waits w.heap.size w (.slice a len cap) zs ∧
          ((∃ (k : Nat) (z : Int × ByteArray), zs[k]? = some z ∧ z.1 = n ∧ z.2 = d ∧ ∀ (j : Nat) z', k < j → zs[j]? = some z' → z'.1 ≠ n) ∨
           ((∀ (j : Nat) z, zs[j]? = some z → z.1 ≠ n) ∧ ∃ (sb so sl sc k : Nat), w.cell? ⟨l.c, l.d + off, none⟩ = some (.slice (some ⟨sb, so, none⟩) sl sc) ∧ n = (k : Int) ∧ k < sl ∧ sl ≤ 1048576 ∧ w.cell? ⟨sb, so + k, none⟩ = some (.string d)))) →
          Calls C.P g ⟨[.pointer (some ⟨l.c, l.d + off, none⟩), .int .i64 n]⟩ w (fun e w' => ∃ v', e = .returned v' ∧ Post C φ w H (.string d) v' w') := by
        rintro d ⟨a, len, cap, zs, rfl, h1, h2, h3⟩
        refine (hD l.c (l.d + off) n a len cap zs d h1 w hc1 h2 h3).mono ?_
        rintro e w' ⟨rfl, hbel⟩
        exact ⟨_, rfl, φ, Ext.aside hbel, hH.aside hbel.size hbel.block, .string d⟩
      split at hr
      · rename_i ws hws
        split at hr
        · rename_i d hq
          simp only [Option.some.injEq, Prod.mk.injEq] at hr
          obtain ⟨rfl, rfl⟩ := hr
          refine hend d ?_
          obtain ⟨a, len, cap, zs, h1, h2, h3, h4⟩ := hwaits ws hws _ hq
          refine ⟨a, len, cap, zs, h1, h2, h3, ?_⟩
          rcases h4 with ⟨k, z, g1, g2, g3, g4⟩ | ⟨_, g⟩
          · cases g3; exact .inl ⟨k, z, g1, g2, rfl, g4⟩
          · cases g
        · rename_i hq
          split at hr
          · rename_i d hs
            simp only [Option.some.injEq, Prod.mk.injEq] at hr
            obtain ⟨rfl, rfl⟩ := hr
            refine hend d ?_
            obtain ⟨a, len, cap, zs, h1, h2, h3, h4⟩ := hwaits ws hws _ hq
            refine ⟨a, len, cap, zs, h1, h2, h3, ?_⟩
            rcases h4 with ⟨k, z, g1, g2, g3, g4⟩ | ⟨g, _⟩
            · cases g3
            · refine .inr ⟨g, ?_⟩
              unfold stableAt at hs
              split at hs
              · rename_i sb so sl sc
                split at hs
                · rename_i n0
                  cases hcc : (Nat.ble (n0 + 1) sl && sl.ble 1048576)
                  · rw [hcc] at hs; cases hs
                  · rw [hcc] at hs; simp only [cond_true] at hs
                    simp only [Bool.and_eq_true] at hcc
                    have k1 := Nat.le_of_ble_eq_true hcc.1
                    have k2 := Nat.le_of_ble_eq_true hcc.2
                    split at hs
                    · rename_i d' hcell
                      simp only [Option.some.injEq] at hs; subst hs
                      have key : ∀ (ls : Loc) (cap : Nat), φ sb = some ls → st' = .slice (some ⟨ls.c, ls.d + so, none⟩) sl cap → ∃ (sb so sl sc k : Nat), w.cell? ⟨l.c, l.d + off, none⟩ = some (.slice (some ⟨sb, so, none⟩) sl sc) ∧ Int.ofNat n0 = (k : Int) ∧ k < sl ∧ sl ≤ 1048576 ∧ w.cell? ⟨sb, so + k, none⟩ = some (.string d') := by
                        intro ls cap hls he
                        obtain ⟨x', e1, e2⟩ := hH.cell hls hcell
                        cases e2
                        exact ⟨ls.c, ls.d + so, sl, cap, n0, by rw [hc0, he], rfl, by omega, k2, by rw [Nat.add_assoc]; exact e1⟩
                      cases hst with
                      | slc _ _ _ _ ls hls => exact key ls _ hls rfl
                      | opn _ _ _ _ _ ls hls => exact key ls _ hls rfl
                    · cases hs
                · cases hs
              · cases hs
          · cases hr
        · cases hr
      · cases hr
    · cases hr
  · cases hr
end Go.AM
namespace Go.AM
open Go
variable [Syms]

omit [Syms] in
theorem crcL_nil (c : Nat) : crcL [] c = c := rfl
omit [Syms] in
theorem crcL_cons (b : UInt8) (l : List UInt8) (c : Nat) : crcL (b :: l) c = crcL l (crc1 (crc1 (c ^^^ b.toNat))) := rfl
omit [Syms] in
theorem crcL_snoc : ∀ (l : List UInt8) (b : UInt8) (c : Nat), crcL (l ++ [b]) c = crc1 (crc1 (crcL l c ^^^ b.toNat))
  | [], _, _ => rfl
  | x :: l, b, c => by rw [List.cons_append, crcL_cons, crcL_cons, crcL_snoc l b]

omit [Syms] in
theorem crcT_lt (k : Nat) : crcT k < 4294967296 := by
  unfold crcT
  exact Nat.lt_of_le_of_lt Nat.and_le_right (by omega)

/-- the law that a program's sum.Add keeps; its table lies at block t -/
def AddLaw (P : Program) (g : FuncId) (t : Nat) : Prop :=
  ∀ (c : Nat), c < 4294967296 → ∀ s : ByteArray, s.size ≤ 4194304 → ∀ w : World, (∀ k, k < 16 → w.cell? ⟨t, k, none⟩ = some (.int .u32 (crcT k : Nat))) →
    Calls P g #[.int .u32 c, .string s] w fun e w' => e = .returned (.int .u32 ((4294967295 ^^^ crcL s.data.toList (4294967295 ^^^ c) : Nat) : Int)) ∧ w' = w

omit [Syms] in
theorem crcTab_get : ∀ k, k < 16 → crcTab[k]? = some (.int .u32 (crcT k : Nat))
  | 0, _ => rfl | 1, _ => rfl | 2, _ => rfl | 3, _ => rfl | 4, _ => rfl | 5, _ => rfl | 6, _ => rfl | 7, _ => rfl
  | 8, _ => rfl | 9, _ => rfl | 10, _ => rfl | 11, _ => rfl | 12, _ => rfl | 13, _ => rfl | 14, _ => rfl | 15, _ => rfl
  | k + 16, h => by omega

theorem sumAdd_at {C : Ctx} {g : FuncId} {fn : Func} {b : Code} {t : Nat} (hg : C.P.funcs[g]? = some fn) (hb : fn.body = some b) (hname : (fn.name == "runtime.NumGoroutine") = false) (ht : t < C.base) (hA : AddLaw C.P g t) :
    PrimAt C g (sumAdd t) := by
  intro args H v H' hr φ w args' hH ha
  left
  refine ⟨callFunc_enter hg hb hname _ w, ?_⟩
  unfold sumAdd at hr
  split at hr
  · rename_i c s
    cases ha with
    | cons _ c' _ _ hc htl =>
    cases htl with
    | cons _ s' _ _ hs htl2 =>
    cases htl2; cases hc; cases hs
    split at hr
    · rename_i vs hblk
      cases hk : (Nat.blt c 4294967296 && s.size.ble LIMIT && all2 (veq 2) vs crcTab)
      · rw [hk] at hr; cases hr
      · rw [hk] at hr; simp only [cond_true, Option.some.injEq, Prod.mk.injEq] at hr
        obtain ⟨rfl, rfl⟩ := hr
        simp only [Bool.and_eq_true] at hk
        obtain ⟨⟨h1, h2⟩, h3⟩ := hk
        have h1 : c < 4294967296 := lt_of_blt h1
        have h2 := Nat.le_of_ble_eq_true h2
        have hL : LIMIT = 4194304 := by decide
        have hvs := all2_eq (veq_eq 2) h3
        subst hvs
        obtain ⟨l, hl, hlc, hld⟩ := hH.base t ht
        have hcell : ∀ k, k < 16 → w.cell? ⟨t, k, none⟩ = some (.int .u32 (crcT k : Nat)) := by
          intro k hk
          have hck : H.cell t k = some (.int .u32 (crcT k : Nat)) := by
            unfold Heap.cell; rw [hblk]; exact crcTab_get k hk
          obtain ⟨v', e1, e2⟩ := hH.cell hl hck
          cases e2
          rw [hlc, hld, Nat.zero_add] at e1; exact e1
        refine (hA c h1 s (by omega) w hcell).mono ?_
        rintro e w' ⟨rfl, rfl⟩
        exact ⟨_, rfl, φ, Ext.refl _ _ _, hH, .int _ _⟩
    · cases hr
  · cases hr
end Go.AM
namespace Go.AM
open Go
variable [Syms]

theorem ctxR_ok {P : Program} {pr : T (Option Prim)} {base : Nat} {rules : List Rule} (hm : P.follows .mixedOrders = true) (hr : ∀ u ∈ rules, RuleOk P u) : COk (ctxR P pr base rules) := by
  refine ⟨?_, ?_, hm, hr⟩
  · intro t d h
    unfold Ctx.tyOf at h
    have hg : (ctxR P pr base rules).ty.get t = if t < 1024 then some (TI.of P t) else none := by
      show (T.build (TI.of P) 24 1024 1 0).get t = _
      rw [T.get_build _ 24 1024 1 0 t (by decide)]; simp
    rw [hg] at h
    by_cases ht : t < 1024
    · rw [if_pos ht] at h; exact h
    · rw [if_neg ht] at h; cases h
  · intro f d h
    unfold Ctx.fnOf at h
    have hg : (ctxR P pr base rules).fn.get f = if f < 2048 then some (FI.of P f) else none := by
      show (T.build (FI.of P) 24 2048 1 0).get f = _
      rw [T.get_build _ 24 2048 1 0 f (by decide)]; simp
    rw [hg] at h
    by_cases ht : f < 2048
    · rw [if_pos ht] at h; exact h
    · rw [if_neg ht] at h; cases h

theorem ctx_ok {P : Program} {pr : T (Option Prim)} {base : Nat} (hm : P.follows .mixedOrders = true) : COk (ctx P pr base) := ctxR_ok (rules := []) hm (fun _ h => by cases h)

omit [Syms] in
theorem ctxR_prim {P : Program} {f : Nat → Option Prim} {n base : Nat} {rules : List Rule} (hn : n ≤ 2048) {g : FuncId} {p : Prim} (h : (ctxR P (T.build f 24 n 1 0) base rules).prOf g = some p) : f g = some p := by
  unfold Ctx.prOf at h
  have hg : (ctxR P (T.build f 24 n 1 0) base rules).pr.get g = if g < n then some (f g) else none := by
    show (T.build f 24 n 1 0).get g = _
    rw [T.get_build _ 24 n 1 0 g (by omega)]; simp
  rw [hg] at h
  by_cases ht : g < n
  · rw [if_pos ht] at h; exact h
  · rw [if_neg ht] at h; cases h

omit [Syms] in
theorem ctx_prim {P : Program} {f : Nat → Option Prim} {n base : Nat} (hn : n ≤ 2048) {g : FuncId} {p : Prim} (h : (ctx P (T.build f 24 n 1 0) base).prOf g = some p) : f g = some p := by
  unfold Ctx.prOf at h
  have hg : (ctx P (T.build f 24 n 1 0) base).pr.get g = if g < n then some (f g) else none := by
    show (T.build f 24 n 1 0).get g = _
    rw [T.get_build _ 24 n 1 0 g (by omega)]; simp
  rw [hg] at h
  by_cases ht : g < n
  · rw [if_pos ht] at h; exact h
  · rw [if_neg ht] at h; cases h

/-- what the machine has of a block of the program's own variables: nothing, or a table -/
def Given (w : World) (g : Nat) (x : Blk) : Prop :=
  x = .dead ∨ ∃ e vs cs fr, x = .tab vs ∧ w.heap[g]? = some (.cells cs e fr) ∧ vs.all flat = true ∧ cs.toList = vs

def phi0 (base : Nat) : Phi := fun b => if b < base then some ⟨b, 0, 0⟩ else none

theorem start {C : Ctx} {w : World} {f : Nat → Blk} (hlo : C.lo ≤ C.base) (hb : C.base ≤ w.heap.size) (hs : C.base ≤ 4096) (hf : ∀ g, g < C.base → Given w g (f g)) :
    HRel C (phi0 C.base) ⟨C.base, T.build f 24 C.base 1 0⟩ w := by
  have hL : LIMIT = 4194304 := by decide
  have hget : ∀ i, (T.build f 24 C.base 1 0).get i = if i < C.base then some (f i) else none := by
    intro i
    rw [T.get_build _ 24 C.base 1 0 i (by omega)]; simp
  have hphi : ∀ b l, phi0 C.base b = some l → b < C.base ∧ l.c = b ∧ l.d = 0 ∧ l = ⟨b, 0, 0⟩ := by
    intro b l h
    unfold phi0 at h
    split at h
    · rename_i hlt
      cases h
      exact ⟨hlt, rfl, rfl, rfl⟩
    · cases h
  refine ⟨?_, by show C.base ≤ LIMIT + 1; omega, ?_, ⟨Nat.le_refl _, hlo⟩, ?_, ?_, ?_⟩
  · intro i
    show ((T.build f 24 C.base 1 0).get i).isSome = decide (i < C.base)
    rw [hget]
    by_cases h : i < C.base <;> simp [h]
  · intro g hg
    exact ⟨_, by unfold phi0; rw [if_pos hg], rfl, rfl⟩
  · intro b l h
    obtain ⟨h1, h2, _⟩ := hphi b l h
    exact ⟨h1, by omega, fun _ => by omega⟩
  · intro b l x h hx
    obtain ⟨h1, h2, h3, h4⟩ := hphi b l h
    have hx' : (T.build f 24 C.base 1 0).get b = some x := hx
    rw [hget, if_pos h1] at hx'
    cases hx'
    rcases hf b h1 with e | ⟨e, vs, cs, fr, e1, e2, e3, e4⟩
    · rw [e]; exact .dead _
    · rw [e1]
      subst h4
      show BRel C _ _ _ w.heap[b]?
      rw [e2]
      have hlen : cs.size = vs.length := by rw [← e4]; simp
      refine .tab vs cs e fr (by show 0 + vs.length ≤ _; omega) ?_
      show VRels _ _ ((cs.toList.drop 0).take vs.length)
      rw [List.drop_zero, e4, List.take_of_length_le (Nat.le_refl _)]
      exact flats_rel e3
  · intro b b' l l' x x' h h' hne _ _ _ _
    obtain ⟨_, h2, _⟩ := hphi b l h
    obtain ⟨_, h2', _⟩ := hphi b' l' h'
    omega

def isTrue : Option (Value × Heap) → Bool
  | some (.bool b, _) => b
  | _ => false

theorem closed_true {C : Ctx} (hC : COk C) (hP : ∀ n, PrimOk (C.from n)) {g : FuncId} {fn : Func} {b : Code} (hg : C.P.funcs[g]? = some fn) (hb : fn.body = some b) (hname : (fn.name == "runtime.NumGoroutine") = false)
    {n : Nat} {f : Nat → Blk} (hrun : isTrue (call C n g [] ⟨C.base, T.build f 24 C.base 1 0⟩) = true)
    {w : World} (hlo : C.lo ≤ C.base) (hbase : C.base ≤ w.heap.size) (hs : C.base ≤ 4096) (hf : ∀ g, g < C.base → Given w g (f g)) :
    Calls C.P g #[] w (fun e w' => e = .returned (.bool true) ∧ Go.RowKit.Below w.heap.size w w') := by
  have hH := start hlo hbase hs hf
  cases hr : call C n g [] ⟨C.base, T.build f 24 C.base 1 0⟩ with
  | none => rw [hr] at hrun; cases hrun
  | some p =>
    obtain ⟨v, H'⟩ := p
    rw [hr] at hrun
    have hv : v = .bool true := by
      cases v <;> first | (cases hrun; done) | (simp only [isTrue] at hrun; subst hrun; rfl)
    subst hv
    rcases call_calls hC hP n g [] _ _ _ hr (phi0 C.base) w [] hH .nil with ⟨_, h⟩ | ⟨v', w', h, _⟩
    · refine h.mono ?_
      rintro e w' ⟨v', rfl, φ', hext, _, hv⟩
      cases hv
      refine ⟨rfl, hext.fr.os, hext.fr.tape, hext.fr.output, hext.fr.size, fun c hc => hext.fr.block c hc ?_⟩
      intro b l hb hl _
      unfold phi0 at hl
      rw [if_neg (by omega)] at hl
      cases hl
    · rw [callFunc_enter hg hb hname] at h
      cases h
end Go.AM
namespace Go.AM
open Go
variable [Syms]
noncomputable section

/-- values that stand for themselves, and what is made of them -/
def pl : Nat → Value → Bool
  | 0, v => flat v
  | n + 1, v => match v with
    | .agg cs => cs.toList.all (pl n)
    | .tuple cs => cs.toList.all (pl n)
    | v => flat v

theorem flat_eq {φ : Phi} {v v' : Value} (h : flat v = true) (r : VRel φ v v') : v' = v := by
  cases r <;> first | rfl | cases h

theorem all_eq {φ : Phi} {p : Value → Bool} (hp : ∀ v v', p v = true → VRel φ v v' → v' = v) : ∀ (l l' : List Value), l.all p = true → VRels φ l l' → l' = l
  | [], _, _, r => by cases r; rfl
  | v :: l, _, h, r => by
    cases r with
    | cons _ v' _ l' hv hl =>
      simp only [List.all_cons, Bool.and_eq_true] at h
      rw [hp v v' h.1 hv, all_eq hp l l' h.2 hl]

theorem all_rel {φ : Phi} {p : Value → Bool} (hp : ∀ v, p v = true → VRel φ v v) : ∀ {l : List Value}, l.all p = true → VRels φ l l
  | [], _ => .nil
  | v :: l, h => by
    simp only [List.all_cons, Bool.and_eq_true] at h
    exact .cons _ _ _ _ (hp v h.1) (all_rel hp h.2)

theorem pl_eq {φ : Phi} : ∀ n v v', pl n v = true → VRel φ v v' → v' = v
  | 0, _, _, h, r => flat_eq h r
  | n + 1, v, v', h, r => by
    unfold pl at h
    split at h
    · cases r with
      | agg _ xs' hx => rw [show xs' = _ from all_eq (pl_eq n) _ _ h hx]
    · cases r with
      | tuple _ xs' hx => rw [show xs' = _ from all_eq (pl_eq n) _ _ h hx]
    · exact flat_eq h r

theorem pl_rel {φ : Phi} : ∀ n v, pl n v = true → VRel φ v v
  | 0, _, h => flat_rel h
  | n + 1, v, h => by
    unfold pl at h
    split at h
    · exact .agg _ _ (all_rel (pl_rel n) h)
    · exact .tuple _ _ (all_rel (pl_rel n) h)
    · exact flat_rel h

abbrev Row := List Value × Value

def hitOf (args : List Value) : List Row → Option Value
  | [] => none
  | r :: l => bif all2 (veq 3) r.1 args then some r.2 else hitOf args l

def tabsOk (H : Heap) (f : Nat → Blk) : Nat → Bool
  | 0 => true
  | g + 1 => (match f g with
    | .dead => true
    | .tab vs => (match H.blk g with | some (.tab us) => all2 (veq 2) vs us && vs.all flat | _ => false)
    | _ => false) && tabsOk H f g

def memo (base : Nat) (f : Nat → Blk) (rows : List Row) : Prim := fun args H =>
  bif tabsOk H f base then (match hitOf args rows with | some v => some (v, H) | none => none) else none

def isV (v : Value) : Option (Value × Heap) → Bool
  | some (x, _) => veq 3 x v
  | none => false

def rowB (C : Ctx) (g : FuncId) (n : Nat) (f : Nat → Blk) (r : Row) : Bool :=
  r.1.all (pl 2) && pl 2 r.2 && isV r.2 (call C n g r.1 ⟨C.base, T.build f 24 C.base 1 0⟩)

omit [Syms] in
theorem hitOf_spec {args : List Value} : ∀ {rows : List Row} {v : Value}, hitOf args rows = some v → ∃ r ∈ rows, r.1 = args ∧ r.2 = v
  | [], _, h => by cases h
  | r :: l, v, h => by
    unfold hitOf at h
    cases hb : all2 (veq 3) r.1 args
    · rw [hb] at h
      obtain ⟨r', h1, h2⟩ := hitOf_spec h
      exact ⟨r', List.mem_cons_of_mem _ h1, h2⟩
    · rw [hb] at h
      cases h
      exact ⟨r, List.mem_cons_self .., all2_eq (veq_eq 3) hb, rfl⟩

/-- what a machine has of a block of the program's own variables -/
def GivenAt (w : World) (g : Nat) (x : Blk) : Prop :=
  x = .dead ∨ ∃ e vs cs fr, x = .tab vs ∧ w.heap[g]? = some (.cells cs e fr) ∧ vs.all flat = true ∧ vs.length ≤ cs.size ∧ cs.toList.take vs.length = vs

theorem start_at {C : Ctx} {w : World} {f : Nat → Blk} (hlo : C.lo ≤ C.base) (hb : C.base ≤ w.heap.size) (hs : C.base ≤ 4096) (hf : ∀ g, g < C.base → GivenAt w g (f g)) :
    HRel C (phi0 C.base) ⟨C.base, T.build f 24 C.base 1 0⟩ w := by
  have hL : LIMIT = 4194304 := by decide
  have hget : ∀ i, (T.build f 24 C.base 1 0).get i = if i < C.base then some (f i) else none := by
    intro i
    rw [T.get_build _ 24 C.base 1 0 i (by omega)]; simp
  have hphi : ∀ b l, phi0 C.base b = some l → b < C.base ∧ l.c = b ∧ l.d = 0 ∧ l = ⟨b, 0, 0⟩ := by
    intro b l h
    unfold phi0 at h
    split at h
    · rename_i hlt
      cases h
      exact ⟨hlt, rfl, rfl, rfl⟩
    · cases h
  refine ⟨?_, by show C.base ≤ LIMIT + 1; omega, ?_, ⟨Nat.le_refl _, hlo⟩, ?_, ?_, ?_⟩
  · intro i
    show ((T.build f 24 C.base 1 0).get i).isSome = decide (i < C.base)
    rw [hget]
    by_cases h : i < C.base <;> simp [h]
  · intro g hg
    exact ⟨_, by unfold phi0; rw [if_pos hg], rfl, rfl⟩
  · intro b l h
    obtain ⟨h1, h2, _⟩ := hphi b l h
    exact ⟨h1, by omega, fun _ => by omega⟩
  · intro b l x h hx
    obtain ⟨h1, h2, h3, h4⟩ := hphi b l h
    have hx' : (T.build f 24 C.base 1 0).get b = some x := hx
    rw [hget, if_pos h1] at hx'
    cases hx'
    rcases hf b h1 with e | ⟨e, vs, cs, fr, e1, e2, e3, e4, e5⟩
    · rw [e]; exact .dead _
    · rw [e1]
      subst h4
      show BRel C _ _ _ w.heap[b]?
      rw [e2]
      refine .tab vs cs e fr (by show 0 + vs.length ≤ _; omega) ?_
      show VRels _ _ ((cs.toList.drop 0).take vs.length)
      rw [List.drop_zero, e5]
      exact flats_rel e3
  · intro b b' l l' x x' h h' hne _ _ _ _
    obtain ⟨_, h2, _⟩ := hphi b l h
    obtain ⟨_, h2', _⟩ := hphi b' l' h'
    omega

theorem HRel.given {C : Ctx} {φ : Phi} {H : Heap} {w : World} (hH : HRel C φ H w) {f : Nat → Blk} : ∀ {n : Nat}, n ≤ C.base → tabsOk H f n = true → ∀ g, g < n → GivenAt w g (f g)
  | 0, _, _, g, hg => by omega
  | n + 1, hn, h, g, hg => by
    unfold tabsOk at h
    simp only [Bool.and_eq_true] at h
    by_cases e : g = n
    · subst e
      obtain ⟨l, hl, hlc, hld⟩ := hH.base g (by omega)
      have h1 := h.1
      split at h1
      · rename_i hf; exact .inl hf
      · rename_i vs hf
        split at h1
        · rename_i us hu
          simp only [Bool.and_eq_true] at h1
          have := all2_eq (veq_eq 2) h1.1
          subst this
          have hb := hH.blk g l _ hl hu
          rw [hlc] at hb
          generalize hg2 : w.heap[g]? = o at hb
          cases hb with
          | tab _ cs e fr hle hv =>
            rw [hld] at hle hv
            refine .inr ⟨e, vs, cs, fr, hf, hg2, h1.2, by omega, ?_⟩
            rw [List.drop_zero] at hv
            exact all_eq (fun v v' a b => flat_eq a b) _ _ h1.2 hv
        · cases h1
      · cases h1
    · exact HRel.given hH (by omega) h.2 g (by omega)

/-- a call that touches nothing leaves the machine's memory as it was -/
theorem HRel.still {C : Ctx} {φ : Phi} {H : Heap} {w w' : World} (hH : HRel C φ H w) (hs : w.heap.size ≤ w'.heap.size) (hb : ∀ c, c < w.heap.size → w'.heap[c]? = w.heap[c]?) : HRel C φ H w' := by
  refine ⟨hH.full, hH.small, hH.base, hH.low, ?_, ?_, hH.sep⟩
  · intro b l h
    obtain ⟨h1, h2, h3⟩ := hH.dom b l h
    exact ⟨h1, by omega, h3⟩
  · intro b l x h hx
    rw [hb l.c (hH.dom b l h).2.1]
    exact hH.blk b l x h hx

theorem memo_at {C C0 : Ctx} (hC0 : COk C0) (hP0 : ∀ n, PrimOk (C0.from n)) (hPP : C0.P = C.P) (hbb : C0.base = C.base) (hlo : C0.lo ≤ C0.base) (hs : C0.base ≤ 4096)
    {g : FuncId} {fn : Func} {b : Code} (hg : C.P.funcs[g]? = some fn) (hb : fn.body = some b) (hname : (fn.name == "runtime.NumGoroutine") = false)
    {f : Nat → Blk} {rows : List Row} (hrows : ∀ r ∈ rows, ∃ n, rowB C0 g n f r = true) : PrimAt C g (memo C.base f rows) := by
  intro args H v H' hr φ w args' hH ha
  unfold memo at hr
  cases ht : tabsOk H f C.base
  · rw [ht] at hr; cases hr
  · rw [ht] at hr; simp only [cond_true] at hr
    split at hr
    · rename_i v1 hf
      simp only [Option.some.injEq, Prod.mk.injEq] at hr
      obtain ⟨rfl, rfl⟩ := hr
      obtain ⟨r, hmem, rfl, rfl⟩ := hitOf_spec hf
      obtain ⟨n, hrow⟩ := hrows r hmem
      unfold rowB at hrow
      simp only [Bool.and_eq_true] at hrow
      obtain ⟨⟨h1, h2⟩, h3⟩ := hrow
      have hargs : args' = r.1 := all_eq (pl_eq 2) _ _ h1 ha
      subst hargs
      left
      refine ⟨callFunc_enter hg hb hname _ w, ?_⟩
      have hsz : C0.base ≤ w.heap.size := by
        by_cases h0 : C0.base = 0
        · omega
        · obtain ⟨l, hl, hlc, _⟩ := hH.base (C0.base - 1) (by omega)
          have := (hH.dom _ l hl).2.1
          omega
      have hH0 := start_at (C := C0) (w := w) (f := f) hlo hsz hs (fun g hg => hH.given (Nat.le_refl _) ht g (by omega))
      cases hc : call C0 n g r.1 ⟨C0.base, T.build f 24 C0.base 1 0⟩ with
      | none => rw [hc] at h3; cases h3
      | some p =>
        obtain ⟨x, H1⟩ := p
        rw [hc] at h3
        have hx : x = r.2 := veq_eq 3 _ _ h3
        subst hx
        rcases call_calls hC0 hP0 n g r.1 _ _ _ hc (phi0 C0.base) w r.1 hH0 (all_rel (pl_rel 2) h1) with ⟨_, h⟩ | ⟨v', w', h, _⟩
        · rw [hPP] at h
          refine h.mono ?_
          rintro e w' ⟨v', rfl, φ', hext, _, hv⟩
          have hold : ∀ c, c < w.heap.size → w'.heap[c]? = w.heap[c]? := by
            intro c hc
            refine hext.fr.block c hc ?_
            intro b l hb hl _
            unfold phi0 at hl
            rw [if_neg (by omega)] at hl
            cases hl
          refine ⟨v', rfl, φ, ⟨Le.refl φ, ⟨hext.fr.os, hext.fr.tape, hext.fr.output, hext.fr.size, fun c hc _ => hold c hc⟩, fun b l hl => .inl hl⟩, hH.still hext.fr.size hold, ?_⟩
          rw [pl_eq 2 _ _ h2 hv]
          exact pl_rel 2 _ h2
        · rw [hPP, callFunc_enter hg hb hname] at h
          cases h
    · cases hr
end

/-- a closed call, but for its arguments -/
theorem closed_true_at {C : Ctx} (hC : COk C) (hP : ∀ n, PrimOk (C.from n)) {g : FuncId} {fn : Func} {b : Code} (hg : C.P.funcs[g]? = some fn) (hb : fn.body = some b) (hname : (fn.name == "runtime.NumGoroutine") = false)
    {n : Nat} {f : Nat → Blk} {args : List Value} (hpl : args.all (pl 2) = true) (hrun : isTrue (call C n g args ⟨C.base, T.build f 24 C.base 1 0⟩) = true)
    {w : World} (hlo : C.lo ≤ C.base) (hbase : C.base ≤ w.heap.size) (hs : C.base ≤ 4096) (hf : ∀ g, g < C.base → Given w g (f g)) :
    Calls C.P g ⟨args⟩ w (fun e w' => e = .returned (.bool true) ∧ Go.RowKit.Below w.heap.size w w') := by
  have hH := start hlo hbase hs hf
  cases hr : call C n g args ⟨C.base, T.build f 24 C.base 1 0⟩ with
  | none => rw [hr] at hrun; cases hrun
  | some p =>
    obtain ⟨v, H'⟩ := p
    rw [hr] at hrun
    have hv : v = .bool true := by
      cases v <;> first | (cases hrun; done) | (simp only [isTrue] at hrun; subst hrun; rfl)
    subst hv
    rcases call_calls hC hP n g args _ _ _ hr (phi0 C.base) w args hH (all_rel (pl_rel 2) hpl) with ⟨_, h⟩ | ⟨v', w', h, _⟩
    · refine h.mono ?_
      rintro e w' ⟨v', rfl, φ', hext, _, hv⟩
      cases hv
      refine ⟨rfl, hext.fr.os, hext.fr.tape, hext.fr.output, hext.fr.size, fun c hc => hext.fr.block c hc ?_⟩
      intro b l hb hl _
      unfold phi0 at hl
      rw [if_neg (by omega)] at hl
      cases hl
    · rw [callFunc_enter hg hb hname] at h
      cases h
/-- a closed call, but for its arguments, which the machine may not know -/
theorem closed_true_sym {C : Ctx} (hC : COk C) (hP : ∀ n, PrimOk (C.from n)) {g : FuncId} {fn : Func} {b : Code} (hg : C.P.funcs[g]? = some fn) (hb : fn.body = some b) (hname : (fn.name == "runtime.NumGoroutine") = false)
    {n : Nat} {f : Nat → Blk} {args args' : List Value} (hargs : VRels (phi0 C.base) args args') (hrun : isTrue (call C n g args ⟨C.base, T.build f 24 C.base 1 0⟩) = true)
    {w : World} (hlo : C.lo ≤ C.base) (hbase : C.base ≤ w.heap.size) (hs : C.base ≤ 4096) (hf : ∀ g, g < C.base → Given w g (f g)) :
    Calls C.P g ⟨args'⟩ w (fun e w' => e = .returned (.bool true) ∧ Go.RowKit.Below w.heap.size w w') := by
  have hH := start hlo hbase hs hf
  cases hr : call C n g args ⟨C.base, T.build f 24 C.base 1 0⟩ with
  | none => rw [hr] at hrun; cases hrun
  | some p =>
    obtain ⟨v, H'⟩ := p
    rw [hr] at hrun
    have hv : v = .bool true := by
      cases v <;> first | (cases hrun; done) | (simp only [isTrue] at hrun; subst hrun; rfl)
    subst hv
    rcases call_calls hC hP n g args _ _ _ hr (phi0 C.base) w args' hH hargs with ⟨_, h⟩ | ⟨v', w', h, _⟩
    · refine h.mono ?_
      rintro e w' ⟨v', rfl, φ', hext, _, hv⟩
      cases hv
      refine ⟨rfl, hext.fr.os, hext.fr.tape, hext.fr.output, hext.fr.size, fun c hc => hext.fr.block c hc ?_⟩
      intro b l hb hl _
      unfold phi0 at hl
      rw [if_neg (by omega)] at hl
      cases hl
    · rw [callFunc_enter hg hb hname] at h
      cases h
end Go.AM
