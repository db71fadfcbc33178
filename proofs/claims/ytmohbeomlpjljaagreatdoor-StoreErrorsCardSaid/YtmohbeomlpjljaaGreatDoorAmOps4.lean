/- AM: the operations that do not look at the heap, the rest. -/
import Derived.Test.YtmohbeomlpjljaaGreatDoorAmOps1
namespace Go.AM
open Go
variable [Syms]

omit [Syms] in
theorem word_lt (f : Ieee.Format) (hf : f = Ieee.single ∨ f = Ieee.double) (neg : Bool) (r : Nat) : f.word neg (min r f.infRung) < NANB := by
  rcases hf with rfl | rfl
  · have e1 : Ieee.single.signWeight = 2147483648 := by decide +kernel
    have e2 : Ieee.single.infRung = 2139095040 := by decide +kernel
    unfold Ieee.Format.word
    rw [e1, e2]
    have : min r 2139095040 ≤ 2139095040 := Nat.min_le_right _ _
    unfold NANB
    split <;> omega
  · have e1 : Ieee.double.signWeight = 9223372036854775808 := by decide +kernel
    have e2 : Ieee.double.infRung = 9218868437227405312 := by decide +kernel
    unfold Ieee.Format.word
    rw [e1, e2]
    have : min r 9218868437227405312 ≤ 9218868437227405312 := Nat.min_le_right _ _
    unfold NANB
    split <;> omega

omit [Syms] in
theorem nearest_lt (k : FloatKind) (n : Int) : k.nearest n < NANB := by
  have hk : k.format = Ieee.single ∨ k.format = Ieee.double := by cases k <;> first | exact .inl rfl | exact .inr rfl
  show k.format.nearest _ _ _ < NANB
  unfold Ieee.Format.nearest
  split
  · have := word_lt k.format hk (decide (n < 0)) 0
    simpa using this
  · exact word_lt k.format hk _ _

omit [Syms] in
theorem natOf_spec {v : Value} {n : Nat} (h : natOf v = some n) : ∃ k, v = .int k (Int.ofNat n) := by
  unfold natOf at h
  split at h
  · simp only [Option.some.injEq] at h; subst h; exact ⟨_, rfl⟩
  · cases h

theorem natOf_rel {φ : Phi} {v v' : Value} {n : Nat} (h : natOf v = some n) (hr : VRel φ v v') : ∃ k, v' = .int k (Int.ofNat n) := by
  obtain ⟨k, rfl⟩ := natOf_spec h
  cases hr; exact ⟨k, rfl⟩

theorem ptr_add {φ : Phi} {b off n : Nat} {l : Loc} (h : φ b = some l) :
    VRel φ (.pointer (some (Addr.add ⟨b, off, none⟩ n))) (.pointer (some (Addr.add ⟨l.c, l.d + off, none⟩ n))) := by
  rw [addr_add, addr_add, Nat.add_assoc]
  exact .ptr b (off + n) l h

theorem boundOf_run {P : Program} {φ : Phi} {m d n : Nat} {o o' : Option Value} (h : boundOf m o d = some n) (hr : ∀ v, o = some v → ∃ v', o' = some v' ∧ VRel φ v v')
    (hn : o = none → o' = none) (code : BoundsCode) (w : World) :
    (o = none ∧ o' = none ∧ n = d) ∨ (∃ v', o' = some v' ∧ n ≤ m ∧ (Instr.sliceBound v' m code).run P w = Result.ok n w) := by
  unfold boundOf at h
  cases o with
  | none => simp only [Option.some.injEq] at h; subst h; exact .inl ⟨rfl, hn rfl, rfl⟩
  | some v =>
    obtain ⟨v', rfl, hv⟩ := hr v rfl
    right
    dsimp only at h
    split at h
    · rename_i k hk
      cases hb : Nat.ble k m
      · rw [hb] at h; cases h
      · rw [hb] at h; simp only [cond_true, Option.some.injEq] at h; subst h
        have hle := Nat.le_of_ble_eq_true hb
        obtain ⟨kk, rfl⟩ := natOf_rel hk hv
        refine ⟨_, rfl, hle, ?_⟩
        have h1 : (0 : Int) ≤ Int.ofNat k ∧ Int.ofNat k ≤ (m : Int) := ⟨Int.natCast_nonneg _, by simpa using hle⟩
        simp only [Instr.sliceBound, asIntOf, Sem.run_bind, Sem.run_pure, Result.andThen_ok, Sem.run_ite, if_pos h1]
        rfl
    · cases h

section
variable {C : Ctx} {φ : Phi} {ρ : Env} {ev : Operand → Value} (w : World)

theorem evL_rel {φ : Phi} {ρ : Env} {ev : Operand → Value} (hρ : ERho φ ρ ev) : ∀ (xs : List Operand) (l : List Value), evL ρ xs = some l → VRels φ l (xs.map ev) := by
  intro xs
  induction xs with
  | nil => intro l h; have h' : some [] = some l := h; cases h'; exact .nil
  | cons x xs ih =>
    intro l h
    have h' : consV (ρ x) (evL ρ xs) = some l := h
    unfold consV at h'
    split at h'
    · rename_i v hv
      obtain ⟨t, ht, rfl⟩ := consO_some h'
      exact .cons _ _ _ _ (hρ x v hv) (ih t ht)
    · cases h'

theorem evO_rel {φ : Phi} {ρ : Env} {ev : Operand → Value} (hρ : ERho φ ρ ev) {x : Option Operand} {o : Option Value} (h : evO ρ x = some o) :
    (∀ v, o = some v → ∃ v', x.map ev = some v' ∧ VRel φ v v') ∧ (o = none → x.map ev = none) := by
  unfold evO at h
  split at h
  · simp only [Option.some.injEq] at h; subst h; exact ⟨fun _ h => (by cases h), fun _ => rfl⟩
  · rename_i x
    split at h
    · rename_i v hv
      simp only [Option.some.injEq] at h; subst h
      exact ⟨fun u hu => ⟨_, rfl, by cases hu; exact hρ x v hv⟩, fun h => by cases h⟩
    · cases h


omit [Syms] in
theorem fieldOf_spec {C : Ctx} {t : TypeId} {f : Nat} {fd : Field} {j : TI} (h : fieldOf C t f = some (fd, j)) :
    ∃ i fs, C.tyOf t = some i ∧ i.u = .struct fs ∧ fs[f]? = some fd ∧ C.tyOf fd.type = some j := by
  unfold fieldOf at h
  split at h
  · rename_i i hi
    split at h
    · rename_i fs hfs
      split at h
      · rename_i fd' hfd
        split at h
        · rename_i j' hj
          simp only [Option.some.injEq, Prod.mk.injEq] at h
          obtain ⟨rfl, rfl⟩ := h
          exact ⟨i, fs, hi, hfs, hfd, hj⟩
        · cases h
      · cases h
    · cases h
  · cases h

theorem yl_move (hρ : ERho φ ρ ev) {x : Operand} {v : Value} (h : ρ x = some v) : Yl C.P ev (.move x) w φ v := by
  rintro ⟨dst, op, type, pos, after, guard⟩ ho; subst ho
  exact ⟨ev x, w, rfl, hρ x v h, .inl rfl⟩
theorem yl_assign (hρ : ERho φ ρ ev) {x : Operand} {v : Value} (h : ρ x = some v) : Yl C.P ev (.assign x) w φ v := by
  rintro ⟨dst, op, type, pos, after, guard⟩ ho; subst ho
  exact ⟨ev x, w, rfl, hρ x v h, .inl rfl⟩

theorem yl_pick (hρ : ERho φ ρ ev) {c a b : Operand} {v : Value} (h : pPick ρ c a b = some v) : Yl C.P ev (.pick c a b) w φ v := by
  unfold pPick at h
  split at h
  · rename_i hc
    have h1 := hρ c _ hc
    generalize he : ev c = u at h1
    cases h1
    refine Yl.of' (do pure (if ← asBool (ev c) then ev a else ev b)) ?_ (v' := ev a) ?_ (hρ a v h)
    · rintro ⟨dst, op, type, pos, after, guard⟩ ho; subst ho
      simp only [execOp, bind_assoc, pure_bind]
    · rw [he]; rfl
  · rename_i hc
    have h1 := hρ c _ hc
    generalize he : ev c = u at h1
    cases h1
    refine Yl.of' (do pure (if ← asBool (ev c) then ev a else ev b)) ?_ (v' := ev b) ?_ (hρ b v h)
    · rintro ⟨dst, op, type, pos, after, guard⟩ ho; subst ho
      simp only [execOp, bind_assoc, pure_bind]
    · rw [he]; rfl
  · cases h

omit [Syms] in
theorem ruleIn_spec {op : Nat} {t : TypeId} {x y v : Value} : ∀ {l : List Rule}, ruleIn op t x y l = some v → ∃ u ∈ l, u.op = op ∧ u.t = t ∧ req u.x x = true ∧ req u.y y = true ∧ v = u.r
  | [], h => by cases h
  | u :: l, h => by
    unfold ruleIn at h
    cases hc : (Nat.beq u.op op && Nat.beq u.t t && req u.x x && req u.y y)
    · rw [hc] at h
      obtain ⟨u', h1, h2⟩ := ruleIn_spec h
      exact ⟨u', List.mem_cons_of_mem _ h1, h2⟩
    · rw [hc] at h; cases h
      simp only [Bool.and_eq_true] at hc
      exact ⟨u, List.mem_cons_self .., Nat.eq_of_beq_eq_true hc.1.1.1, Nat.eq_of_beq_eq_true hc.1.1.2, hc.1.2, hc.2, rfl⟩

def plainV3 : Value → Bool
  | .int _ _ | .string _ | .bool _ => true
  | _ => false

theorem req_plain {φ : Phi} {x a a' : Value} (h : req x a = true) (r : VRel φ a a') : plainV3 a' = true ∧ a' = den x := by
  unfold req at h
  split at h
  · rename_i k j
    obtain rfl := Nat.eq_of_beq_eq_true h
    cases r
    refine ⟨?_, rfl⟩
    have hp := Syms.plain k
    unfold plainV3
    exact hp
  · simp only [Bool.and_eq_true, decide_eq_true_eq] at h
    obtain ⟨rfl, rfl⟩ := h
    cases r; exact ⟨rfl, rfl⟩
  · rename_i s s'
    have e : s = s' := by
      have := of_decide_eq_true h
      cases s; cases s'; simp_all
    subst e
    cases r; exact ⟨rfl, rfl⟩
  · have e := eq_of_beq h
    subst e
    cases r; exact ⟨rfl, rfl⟩
  · cases h
theorem req_den {φ : Phi} {x a a' : Value} (h : req x a = true) (r : VRel φ a a') : a' = den x := (req_plain h r).2
omit [Syms] in
theorem eqGuard_plain {op : BinOp} {t : TypeId} {x y : Operand} {a b : Value} (h : plainV3 a = true) : eqGuard op t x y a b = pure () := by
  cases a <;> first | (cases op <;> cases b <;> rfl) | cases h
theorem okR_rel {φ : Phi} {r : Value} (h : okR r = true) : VRel φ r (den r) := by
  unfold okR at h
  split at h
  · exact .sym _
  · exact .int _ _
  · exact .string _
  · exact .bool _
  · cases h

theorem yl_bin (hC : COk C) (hρ : ERho φ ρ ev) {op : BinOp} {t ty : TypeId} {x y : Operand} {v : Value} (h : pBin C ρ op t x y = some v) : Yl C.P ev (.binOp op t x y ty) w φ v := by
  unfold pBin at h
  split at h
  · rename_i a ha
    split at h
    · rename_i b hb
      cases hs : (isSym a || isSym b)
      · rw [hs] at h; simp only [cond_false] at h
        simp only [Bool.or_eq_false_iff] at hs
        obtain ⟨v', w', h1, h2, h3⟩ := binV_sound hC w (xo := x) (yo := y) h (hρ x a ha) (hρ y b hb) hs.1 hs.2
        refine Yl.of _ ?_ h1 h2 h3
        rintro ⟨dst, op, type, pos, after, guard⟩ ho; subst ho; rfl
      · rw [hs] at h; simp only [cond_true] at h
        cases hz : Nat.beq (opIx op) 0
        · rw [hz] at h; simp only [cond_false] at h
          obtain ⟨u, hu, e1, e2, e3, e4, rfl⟩ := ruleIn_spec h
          obtain ⟨r1, r2, _⟩ := hC.rules u hu
          have d1 := req_den e3 (hρ x a ha)
          have d2 := req_den e4 (hρ y b hb)
          refine Yl.of (do eqGuard op t x y (ev x) (ev y); binOp op t (ev x) (ev y)) ?_ (v' := den u.r) (w' := w) ?_ (okR_rel r1) (.inl rfl)
          · rintro ⟨dst, op, type, pos, after, guard⟩ ho; subst ho; rfl
          · have hg : eqGuard op t x y (ev x) (ev y) = pure () := by
              obtain ⟨p1, _⟩ := req_plain e3 (hρ x a ha)
              exact eqGuard_plain p1
            rw [hg, d1, d2, ← e2]
            exact r2 op e1.symm w
        · rw [hz] at h; cases h
    · cases h
  · cases h

theorem yl_un (hρ : ERho φ ρ ev) {op : UnOp} {t : TypeId} {x : Operand} {v : Value} (h : pUn ρ op x = some v) : Yl C.P ev (.unOp op t x) w φ v := by
  unfold pUn at h
  split at h
  · rename_i k n hx
    have h1 := hρ x _ hx
    generalize he : ev x = u at h1
    cases h1
    obtain ⟨h2, h3⟩ := flatOf_spec h
    refine Yl.of' (Op.unary op (ev x)) ?_ (v' := v) ?_ (flat_rel h3)
    · rintro ⟨dst, op, type, pos, after, guard⟩ ho; subst ho; rfl
    · rw [he, h2]; rfl
  · rename_i b hx
    have h1 := hρ x _ hx
    generalize he : ev x = u at h1
    cases h1
    obtain ⟨h2, h3⟩ := flatOf_spec h
    refine Yl.of' (Op.unary op (ev x)) ?_ (v' := v) ?_ (flat_rel h3)
    · rintro ⟨dst, op, type, pos, after, guard⟩ ho; subst ho; rfl
    · rw [he, h2]; rfl
  · cases h

theorem yl_conv (hC : COk C) (hρ : ERho φ ρ ev) {s d : TypeId} {x : Operand} {v : Value} (h : pConv C ρ s d x = some v) :
    Yl C.P ev (.convert s d x) w φ v := by
  unfold pConv at h
  split at h
  · rename_i si u hs hx
    have h1 := hρ x _ hx
    cases hsy : isSym u
    case true =>
      rw [hsy] at h; simp only [cond_true] at h
      unfold symConv at h
      split at h
      · rename_i i hi
        split at h
        · rename_i hiu
          obtain ⟨ru, hu1, e1, _, e3, _, rfl⟩ := ruleIn_spec h
          obtain ⟨r1, _, _, r4⟩ := hC.rules ru hu1
          obtain ⟨k, n, d1, d2⟩ := r4 e1
          have d0 := req_den e3 h1
          refine Yl.of' (convert s d (ev x)) ?_ (v' := den ru.r) ?_ (okR_rel r1)
          · rintro ⟨dst, op, type, pos, after, guard⟩ ho; subst ho; rfl
          · rw [d0, d1, d2]
            have h2 := hC.run_und w hs
            have h3 := hC.run_und w hi
            rw [hiu] at h3
            simp only [convert, Sem.run_bind, h2, h3, Result.andThen_ok]
            cases si.u <;> rfl
        · cases h
      · cases h
    case false =>
    rw [hsy] at h; simp only [cond_false] at h
    generalize he : ev x = u' at h1
    unfold convV at h
    split at h
    · rename_i i k n hd
      cases h1
      split at h
      · rename_i k' hk
        simp only [Option.some.injEq] at h; subst h
        refine Yl.of' (convert s d (ev x)) ?_ (v' := .int k' (k'.wrap n)) ?_ (by rw [wrapF_eq]; exact .int _ _)
        · rintro ⟨dst, op, type, pos, after, guard⟩ ho; subst ho; rfl
        · rw [he]
          have h2 := hC.run_und w hs
          have h3 := hC.run_und w hd
          rw [hk] at h3
          simp only [convert, Sem.run_bind, h2, h3, Result.andThen_ok]
          cases si.u <;> rfl
      · rename_i k' hk
        simp only [Option.some.injEq] at h; subst h
        refine Yl.of' (convert s d (ev x)) ?_ (v' := .float k' (k'.nearest n)) ?_ (.float _ _ (nearest_lt k' n))
        · rintro ⟨dst, op, type, pos, after, guard⟩ ho; subst ho; rfl
        · rw [he]
          have h2 := hC.run_und w hs
          have h3 := hC.run_und w hd
          rw [hk] at h3
          simp only [convert, Sem.run_bind, h2, h3, Result.andThen_ok]
          cases si.u <;> rfl
      · cases h
    · rename_i i b hd
      cases h1
      split at h
      · rename_i hk
        simp only [Option.some.injEq] at h; subst h
        refine Yl.of' (convert s d (ev x)) ?_ (v' := .string b) ?_ (.string b)
        · rintro ⟨dst, op, type, pos, after, guard⟩ ho; subst ho; rfl
        · rw [he]
          have h2 := hC.run_und w hs
          have h3 := hC.run_und w hd
          rw [hk] at h3
          simp only [convert, Sem.run_bind, h2, h3, Result.andThen_ok]
          cases si.u <;> rfl
      · cases h
    · cases h
  · cases h

theorem yl_nil (hρ : ERho φ ρ ev) {x : Operand} {v : Value} (h : pNil ρ x = some v) : Yl C.P ev (.nilCheck x) w φ v := by
  unfold pNil at h
  split at h <;> first | (cases h; done) | skip
  all_goals
    rename_i hx
    simp only [Option.some.injEq] at h; subst h
    have h1 := hρ x _ hx
    rintro ⟨dst, op, type, pos, after, guard⟩ ho; subst ho
    refine ⟨ev x, w, ?_, h1, .inl rfl⟩
    generalize he : ev x = u at h1
    cases h1 <;> simp only [execOp, he] <;> rfl

theorem yl_fieldAddr (hC : COk C) (hρ : ERho φ ρ ev) {s : TypeId} {x : Operand} {f : Nat} {v : Value} (h : pFieldAddr C ρ s x f = some v) : Yl C.P ev (.fieldAddr s x f) w φ v := by
  unfold pFieldAddr at h
  split at h
  · rename_i fd j a hf hx
    obtain ⟨i, fs, hi, hu, hfd, hj⟩ := fieldOf_spec hf
    cases hz : Nat.beq j.size 0
    · rw [hz] at h; simp only [cond_false, Option.some.injEq] at h; subst h
      have hz' : j.size ≠ 0 := by intro e; rw [e] at hz; simp at hz
      have h1 := hρ x _ hx
      generalize he : ev x = u at h1
      cases h1 with
      | ptr b off l hl =>
        refine Yl.of' (Instr.fieldAt s (ev x) f) ?_ (v' := .pointer (some (Addr.add ⟨l.c, l.d + off, none⟩ fd.offset))) ?_ (ptr_add hl)
        · rintro ⟨dst, op, type, pos, after, guard⟩ ho; subst ho; rfl
        · rw [he]
          have h2 := hC.run_und w hi
          rw [hu] at h2
          simp only [Instr.fieldAt, Sem.run_bind, h2, Result.andThen_ok, hfd, Instr.sureAddr, Sem.run_pure, fieldPlace, hC.run_size w hj, Sem.run_ite, if_neg hz']
    · rw [hz] at h; cases h
  · cases h

theorem yl_field (hC : COk C) (hρ : ERho φ ρ ev) {s : TypeId} {x : Operand} {f : Nat} {v : Value} (h : pField C ρ s x f = some v) : Yl C.P ev (.field s x f) w φ v := by
  unfold pField at h
  split at h
  · rename_i fd j cs hf hx
    obtain ⟨i, fs, hi, hu, hfd, hj⟩ := fieldOf_spec hf
    have h1 := hρ x _ hx
    generalize he : ev x = u at h1
    cases h1 with
    | agg xs xs' hxs =>
      obtain ⟨v', h2, h3⟩ := partV_rel (xs := ⟨xs⟩) (ys := ⟨xs'⟩) hxs h
      refine Yl.of' (Instr.field s (ev x) f) ?_ (v' := v') ?_ h3
      · rintro ⟨dst, op, type, pos, after, guard⟩ ho; subst ho; rfl
      · rw [he]
        have h4 := hC.run_und w hi
        rw [hu] at h4
        simp only [Instr.field, Sem.run_bind, h4, Result.andThen_ok, hfd, asAgg, Sem.run_pure, run_part hC hj w h2]
  · cases h

theorem yl_indexAddr (hC : COk C) (hρ : ERho φ ρ ev) {t : TypeId} {x i : Operand} {v : Value} (h : pIndexAddr C ρ t x i = some v) : Yl C.P ev (.indexAddr t x i) w φ v := by
  unfold pIndexAddr at h
  split at h
  · rename_i a b hx hi
    have h1 := hρ x _ hx
    have h2 := hρ i _ hi
    unfold indexAddrV at h
    split at h
    · rename_i ti n ht hn
      obtain ⟨k, hb⟩ := natOf_rel hn h2
      have hu := hC.run_und w ht
      generalize he : ev x = u at h1
      split at h
      · rename_i len e aa hu2
        cases hlt : Nat.blt n len
        · rw [hlt] at h; cases h
        · rw [hlt] at h; simp only [cond_true] at h
          split at h
          · rename_i j hj
            simp only [Option.some.injEq] at h; subst h
            cases h1 with
            | ptr bb off l hl =>
              refine Yl.of' (Instr.indexAt t (ev x) (ev i)) ?_ (v' := .pointer (some (Addr.add ⟨l.c, l.d + off, none⟩ (n * j.size)))) ?_ (ptr_add hl)
              · rintro ⟨dst, op, type, pos, after, guard⟩ ho; subst ho; rfl
              · rw [he, hb]
                rw [hu2] at hu
                have hnl : (0 : Int) ≤ Int.ofNat n ∧ Int.ofNat n < (len : Int) := ⟨Int.natCast_nonneg _, by have := lt_of_blt hlt; simpa using this⟩
                simp only [Instr.indexAt, asIntOf, Sem.run_bind, Sem.run_pure, Result.andThen_ok, hu, Instr.sureAddr, if_pos hnl, hC.run_size w hj]
                rfl
          · cases h
      · rename_i e aa len cap hu2
        cases hlt : Nat.blt n len
        · rw [hlt] at h; cases h
        · rw [hlt] at h; simp only [cond_true] at h
          split at h
          · rename_i j hj
            simp only [Option.some.injEq] at h; subst h
            have hnl : (0 : Int) ≤ Int.ofNat n ∧ Int.ofNat n < (len : Int) := ⟨Int.natCast_nonneg _, by have := lt_of_blt hlt; simpa using this⟩
            rw [hu2] at hu
            cases h1 with
            | slc bb off _ _ l hl hc =>
              refine Yl.of' (Instr.indexAt t (ev x) (ev i)) ?_ (v' := .pointer (some (Addr.add ⟨l.c, l.d + off, none⟩ (n * j.size)))) ?_ (ptr_add hl)
              · rintro ⟨dst, op, type, pos, after, guard⟩ ho; subst ho; rfl
              · rw [he, hb]
                simp only [Instr.indexAt, asIntOf, Sem.run_bind, Sem.run_pure, Result.andThen_ok, hu, if_pos hnl, hC.run_size w hj]
                rfl
            | opn bb off _ c' sz l hl hn' hc =>
              refine Yl.of' (Instr.indexAt t (ev x) (ev i)) ?_ (v' := .pointer (some (Addr.add ⟨l.c, l.d + off, none⟩ (n * j.size)))) ?_ (ptr_add hl)
              · rintro ⟨dst, op, type, pos, after, guard⟩ ho; subst ho; rfl
              · rw [he, hb]
                simp only [Instr.indexAt, asIntOf, Sem.run_bind, Sem.run_pure, Result.andThen_ok, hu, if_pos hnl, hC.run_size w hj]
                rfl
          · cases h
      · cases h
    · cases h
  · cases h

theorem yl_index (hC : COk C) (hρ : ERho φ ρ ev) {t : TypeId} {x i : Operand} {v : Value} (h : pIndex C ρ t x i = some v) : Yl C.P ev (.index t x i) w φ v := by
  unfold pIndex at h
  split at h
  · rename_i a b hx hi
    have h1 := hρ x _ hx
    have h2 := hρ i _ hi
    unfold indexV at h
    split at h
    · rename_i ti n ht hn
      obtain ⟨k, hb⟩ := natOf_rel hn h2
      have hu := hC.run_und w ht
      generalize he : ev x = u at h1
      split at h
      · rename_i len e cs hu2
        cases hlt : Nat.blt n len
        · rw [hlt] at h; cases h
        · rw [hlt] at h; simp only [cond_true] at h
          split at h
          · rename_i j hj
            have hnl : (0 : Int) ≤ Int.ofNat n ∧ Int.ofNat n < (len : Int) := ⟨Int.natCast_nonneg _, by have := lt_of_blt hlt; simpa using this⟩
            rw [hu2] at hu
            cases h1 with
            | agg xs xs' hxs =>
              obtain ⟨v', h3, h4⟩ := partV_rel (xs := ⟨xs⟩) (ys := ⟨xs'⟩) hxs h
              refine Yl.of' (Instr.index t (ev x) (ev i)) ?_ (v' := v') ?_ h4
              · rintro ⟨dst, op, type, pos, after, guard⟩ ho; subst ho; rfl
              · rw [he, hb]
                simp only [Instr.index, asIntOf, Sem.run_bind, Sem.run_pure, Result.andThen_ok, hu, if_pos hnl, hC.run_size w hj]
                exact run_part hC hj w h3
          · cases h
      · rename_i s hu2
        rw [hu2] at hu
        cases h1
        split at h
        · rename_i c hc
          simp only [Option.some.injEq] at h; subst h
          refine Yl.of' (Instr.index t (ev x) (ev i)) ?_ (v' := .int .u8 c.toNat) ?_ (.int _ _)
          · rintro ⟨dst, op, type, pos, after, guard⟩ ho; subst ho; rfl
          · rw [he, hb]
            have h0 : (0 : Int) ≤ Int.ofNat n := Int.natCast_nonneg _
            simp only [Instr.index, asIntOf, Sem.run_bind, Sem.run_pure, Result.andThen_ok, hu, if_pos h0]
            have : (Int.ofNat n).toNat = n := rfl
            rw [this, hc]; rfl
        · cases h
      · cases h
    · cases h
  · cases h
end
end Go.AM
