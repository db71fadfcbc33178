/- AM: the operations that do not look at the heap, the last. -/
import Derived.Test.YtmohbeomlpjljaaGreatDoorAmOps4
namespace Go.AM
open Go
variable [Syms]

section
variable {C : Ctx} {φ : Phi} {ρ : Env} {ev : Operand → Value} (w : World)

/-- bounds of a slice expression -/
theorem bounds_run {P : Program} {isS : Bool} {len cap : Nat} {lo hi mx lo' hi' mx' : Option Value} {m h l : Nat}
    (hm : boundOf cap mx cap = some m) (hh : boundOf m hi len = some h) (hl : boundOf h lo 0 = some l)
    (rl : ∀ v, lo = some v → ∃ v', lo' = some v' ∧ VRel φ v v') (nl : lo = none → lo' = none)
    (rh : ∀ v, hi = some v → ∃ v', hi' = some v' ∧ VRel φ v v') (nh : hi = none → hi' = none)
    (rm : ∀ v, mx = some v → ∃ v', mx' = some v' ∧ VRel φ v v') (nm : mx = none → mx' = none)
    (hmh : mx = none ∨ hi ≠ none) :
    (Instr.sliceBounds isS len cap lo' hi' mx').run P w = Result.ok (l, h, m) w := by
  unfold Instr.sliceBounds
  rcases boundOf_run (P := P) hm rm nm (if isS then .slice3Acap else .slice3Alen) w with ⟨e1, e1', rfl⟩ | ⟨m', e1', _, hmr⟩
  · rw [e1']
    dsimp only
    rw [pure_bind]
    rcases boundOf_run (P := P) hh rh nh (if isS then .sliceAcap else .sliceAlen) w with ⟨e2, e2', rfl⟩ | ⟨h', e2', _, hhr⟩
    · rw [e2']
      dsimp only
      rw [pure_bind]
      rcases boundOf_run (P := P) hl rl nl .sliceB w with ⟨e3, e3', rfl⟩ | ⟨l', e3', _, hlr⟩
      · rw [e3']; rfl
      · rw [e3']
        simp only [Option.isSome_none, Bool.false_eq_true, if_false, Sem.run_bind, hlr, Result.andThen_ok, Sem.run_pure]
    · rw [e2']
      dsimp only
      rw [Sem.run_bind, hhr, Result.andThen_ok]
      rcases boundOf_run (P := P) hl rl nl .sliceB w with ⟨e3, e3', rfl⟩ | ⟨l', e3', _, hlr⟩
      · rw [e3']; rfl
      · rw [e3']
        simp only [Option.isSome_none, Bool.false_eq_true, if_false, Sem.run_bind, hlr, Result.andThen_ok, Sem.run_pure]
  · rw [e1']
    dsimp only
    rw [Sem.run_bind, hmr, Result.andThen_ok]
    rcases boundOf_run (P := P) hh rh nh .slice3B w with ⟨e2, e2', rfl⟩ | ⟨h', e2', _, hhr⟩
    · exfalso
      rcases hmh with e | e
      · rw [nm e] at e1'; cases e1'
      · exact e e2
    · rw [e2']
      dsimp only
      rw [Sem.run_bind, hhr, Result.andThen_ok]
      rcases boundOf_run (P := P) hl rl nl .slice3C w with ⟨e3, e3', rfl⟩ | ⟨l', e3', _, hlr⟩
      · rw [e3']; rfl
      · rw [e3']
        simp only [Option.isSome_some, if_true, Sem.run_bind, hlr, Result.andThen_ok, Sem.run_pure]

omit [Syms] in
theorem boundOf_le {m d n : Nat} {o : Option Value} (h : boundOf m o d = some n) (hd : d ≤ m) : n ≤ m := by
  unfold boundOf at h
  split at h
  · simp only [Option.some.injEq] at h; omega
  · split at h
    · rename_i k hk
      cases hb : Nat.ble k m
      · rw [hb] at h; cases h
      · rw [hb] at h; simp only [cond_true, Option.some.injEq] at h; subst h; exact Nat.le_of_ble_eq_true hb
    · cases h

theorem yl_slice (hC : COk C) (hρ : ERho φ ρ ev) {t : TypeId} {x : Operand} {lo hi mx : Option Operand} {v : Value} (h : pSlice C ρ t x lo hi mx = some v) :
    Yl C.P ev (.slice t x lo hi mx) w φ v := by
  unfold pSlice at h
  split at h
  · cases h
  rename_i hside
  have hmx : mx = none ∨ hi ≠ none := by
    cases mx with
    | none => exact .inl rfl
    | some a => right; rintro rfl; exact hside a rfl rfl
  split at h
  · rename_i xv lv hv mv hx hlo hhi hmxv
    have h1 := hρ x _ hx
    obtain ⟨rl, nl⟩ := evO_rel hρ hlo
    obtain ⟨rh, nh⟩ := evO_rel hρ hhi
    obtain ⟨rm, nm⟩ := evO_rel hρ hmxv
    have hmh : mv = none ∨ hv ≠ none := by
      rcases hmx with rfl | e
      · simp [evO] at hmxv; exact .inl hmxv.symm
      · right; rintro rfl
        cases hi with
        | none => exact e rfl
        | some y => simp only [evO] at hhi; split at hhi <;> simp at hhi
    generalize he : ev x = u at h1
    have hexec : ∀ o : Oper, o.op = .slice t x lo hi mx → execOp ev o = (do pure (.value (← Instr.sliceAt t (ev x) (lo.map ev) (hi.map ev) (mx.map ev)))) := by
      rintro ⟨dst, op, type, pos, after, guard⟩ ho; subst ho; rfl
    unfold sliceV at h
    split at h
    · rename_i i s ht
      have hu := hC.run_und w ht
      cases h1
      split at h
      · rename_i hiu
        split at h
        · rename_i hh hhb
          split at h
          · rename_i ll hlb
            simp only [Option.some.injEq] at h; subst h
            refine Yl.of' _ hexec (v' := .string (s.extract ll hh)) ?_ (.string _)
            rw [he, nm rfl]
            rw [hiu] at hu
            have hb := bounds_run (P := C.P) (isS := false) w (m := s.size) (mx := none) (mx' := none) (cap := s.size) rfl hhb hlb rl nl rh nh (fun _ h => by cases h) (fun _ => rfl) (.inl rfl)
            simp only [Instr.sliceAt, Instr.slice, Sem.run_bind, hu, Result.andThen_ok, Option.isSome_none, Bool.false_eq_true, if_false, hb, Sem.run_pure]
          · cases h
        · cases h
      · cases h
    · rename_i i len cap ht
      have hu := hC.run_und w ht
      split at h
      · rename_i e hiu
        rw [hiu] at hu
        split at h
        · cases h
        · rename_i j hj
          have hsz := hC.run_size w hj
          split at h
          · cases h
          · rename_i m hmb
            split at h
            · cases h
            · rename_i hh hhb
              split at h
              · cases h
              · rename_i ll hlb
                simp only [Option.some.injEq] at h; subst h
                cases h1
                have hb := bounds_run (P := C.P) (isS := true) w hmb hhb hlb rl nl rh nh rm nm hmh
                have hml := boundOf_le hmb (Nat.le_refl _)
                have hhl := boundOf_le hhb (Nat.zero_le _)
                have hll := boundOf_le hlb (Nat.zero_le _)
                obtain rfl : m = 0 := by omega
                obtain rfl : hh = 0 := by omega
                obtain rfl : ll = 0 := by omega
                refine Yl.of' _ hexec (v' := .slice none 0 0) ?_ .snil
                rw [he]
                simp only [Instr.sliceAt, Instr.slice, Sem.run_bind, hu, Result.andThen_ok, hb, hsz, Sem.run_pure]
                rfl
      · cases h
    · rename_i i a len cap ht
      have hu := hC.run_und w ht
      split at h
      · rename_i e hiu
        rw [hiu] at hu
        split at h
        · cases h
        · rename_i j hj
          have hsz := hC.run_size w hj
          cases hop : Nat.ble OPEN cap
          · rw [hop] at h; simp only [cond_false] at h
            split at h
            · cases h
            · rename_i m hmb
              split at h
              · cases h
              · rename_i hh hhb
                split at h
                · cases h
                · rename_i ll hlb
                  simp only [Option.some.injEq] at h; subst h
                  have hb := bounds_run (P := C.P) (isS := true) w hmb hhb hlb rl nl rh nh rm nm hmh
                  have hml := boundOf_le hmb (Nat.le_refl _)
                  cases h1 with
                  | slc b off _ _ l hl hc =>
                    refine Yl.of' _ hexec (v' := .slice (if m = ll then (some ⟨l.c, l.d + off, none⟩) else some (Addr.add ⟨l.c, l.d + off, none⟩ (ll * j.size))) (hh - ll) (m - ll)) ?_ ?_
                    · rw [he]
                      simp only [Instr.sliceAt, Instr.slice, Sem.run_bind, hu, Result.andThen_ok, hb, hsz, Sem.run_pure, Option.map_some]
                    · have hne : m - ll < OPEN := by omega
                      cases hm : Nat.beq m ll
                      · have : m ≠ ll := by rintro rfl; simp at hm
                        rw [if_neg this]
                        simp only [cond_false]
                        rw [addr_add, addr_add, Nat.add_assoc]
                        exact .slc b _ _ _ l hl hne
                      · have := Nat.eq_of_beq_eq_true hm
                        rw [if_pos this]
                        exact .slc b off _ _ l hl hne
                  | opn _ _ _ _ sz => exact absurd (Nat.ble_eq_true_of_le (Nat.le_add_right OPEN sz)) (by rw [hop]; simp)
          · rw [hop] at h; simp only [cond_true] at h
            have hcap := Nat.le_of_ble_eq_true hop
            split at h
            · cases h
            · split at h
              · cases h
              · rename_i hh hhb
                split at h
                · cases h
                · rename_i ll hlb
                  cases hc : ((Nat.blt ll len || Nat.beq ll 0) && Nat.beq cap (OPEN + j.size))
                  · rw [hc] at h; cases h
                  · rw [hc] at h; simp only [cond_true, Option.some.injEq] at h; subst h
                    have hhl := boundOf_le hhb (Nat.le_refl _)
                    have hll := boundOf_le hlb (Nat.zero_le _)
                    cases h1 with
                    | slc _ _ _ _ _ _ hc => omega
                    | opn b off _ c' sz l hl hn hcc =>
                      simp only [Bool.and_eq_true] at hc
                      have hsz2 : sz = j.size := by have := Nat.eq_of_beq_eq_true hc.2; omega
                      subst hsz2
                      have hhb' : boundOf c' hv len = some hh := by
                        unfold boundOf at hhb ⊢
                        split at hhb
                        · exact hhb
                        · rename_i d2 v2
                          split at hhb
                          · rename_i k hk
                            cases hb2 : Nat.ble k len
                            · rw [hb2] at hhb; cases hhb
                            · rw [hb2] at hhb
                              have h3 := Nat.le_of_ble_eq_true hb2
                              have h4 : Nat.ble k c' = true := Nat.ble_eq_true_of_le (by omega)
                              rw [h4]; exact hhb
                          · cases hhb
                      have hb := bounds_run (P := C.P) (isS := true) w (m := c') (mx := none) (mx' := none) (cap := c') rfl hhb' hlb rl nl rh nh (fun _ h => by cases h) (fun _ => rfl) (.inl rfl)
                      refine Yl.of' _ hexec (v' := .slice (if c' = ll then (some ⟨l.c, l.d + off, none⟩) else some (Addr.add ⟨l.c, l.d + off, none⟩ (ll * j.size))) (hh - ll) (c' - ll)) ?_ ?_
                      · rw [he, nm rfl]
                        simp only [Instr.sliceAt, Instr.slice, Sem.run_bind, hu, Result.andThen_ok, hb, hsz, Sem.run_pure, Option.map_some]
                      · have hc1 : ll < len ∨ ll = 0 := by
                          rcases Bool.or_eq_true_iff.1 hc.1 with e | e
                          · exact .inl (lt_of_blt e)
                          · exact .inr (Nat.eq_of_beq_eq_true e)
                        have heq : (if c' = ll then (some (⟨l.c, l.d + off, none⟩ : Addr)) else some (Addr.add ⟨l.c, l.d + off, none⟩ (ll * j.size))) = some ⟨l.c, l.d + (off + ll * j.size), none⟩ := by
                          split
                          · have : ll = 0 := by omega
                            subst this; simp
                          · rw [addr_add, Nat.add_assoc]
                        rw [heq, addr_add]
                        refine .opn b _ _ _ _ l hl (by omega) ?_
                        rw [← hcc, Nat.sub_mul]
                        have : ll * j.size ≤ c' * j.size := Nat.mul_le_mul_right _ (by omega)
                        omega
      · cases h
    · rename_i i a ht
      have hu := hC.run_und w ht
      split at h
      · rename_i n e hiu
        rw [hiu] at hu
        split at h
        · cases h
        · rename_i j hj
          have hsz := hC.run_size w hj
          split at h
          · cases h
          · rename_i m hmb
            split at h
            · cases h
            · rename_i hh hhb
              split at h
              · cases h
              · rename_i ll hlb
                cases hmo : Nat.blt m OPEN
                · rw [hmo] at h; cases h
                · rw [hmo] at h; simp only [cond_true, Option.some.injEq] at h; subst h
                  have hmo := lt_of_blt hmo
                  have hb := bounds_run (P := C.P) (isS := false) w hmb hhb hlb rl nl rh nh rm nm hmh
                  cases h1 with
                  | ptr b off l hl =>
                    refine Yl.of' _ hexec (v' := .slice (some (if m = ll then ⟨l.c, l.d + off, none⟩ else (Addr.add ⟨l.c, l.d + off, none⟩ (ll * j.size)))) (hh - ll) (m - ll)) ?_ ?_
                    · rw [he]
                      simp only [Instr.sliceAt, Sem.run_bind, hu, Result.andThen_ok, hb, hsz, Sem.run_pure, Instr.sureAddr]
                    · have hne : m - ll < OPEN := by omega
                      cases hm : Nat.beq m ll
                      · have : m ≠ ll := by rintro rfl; simp at hm
                        rw [if_neg this]
                        simp only [cond_false]
                        rw [addr_add, addr_add, Nat.add_assoc]
                        exact .slc b _ _ _ l hl hne
                      · have := Nat.eq_of_beq_eq_true hm
                        rw [if_pos this]
                        exact .slc b off _ _ l hl hne
      · cases h
    · cases h
  · cases h

theorem yl_iface (hC : COk C) (hρ : ERho φ ρ ev) {t : TypeId} {x : Operand} {v : Value} (h : pIface C ρ t x = some v) : Yl C.P ev (.makeInterface t x) w φ v := by
  unfold pIface at h
  split at h
  · rename_i i u ht hx
    have h1 := hρ x _ hx
    have hu := hC.run_und w ht
    split at h
    · cases h
    · rename_i hni
      simp only [Option.some.injEq] at h; subst h
      refine Yl.of' (Instr.makeInterface t (ev x)) ?_ (v' := .iface t (ev x)) ?_ (.iface t _ _ h1)
      · rintro ⟨dst, op, type, pos, after, guard⟩ ho; subst ho; rfl
      · simp only [Instr.makeInterface, Sem.run_bind, hu, Result.andThen_ok]
        rfl
  · cases h

theorem yl_func (hρ : ERho φ ρ ev) {fn : Fn} {first captured : Array Operand} {v : Value} (h : pFunc ρ fn first captured = some v) :
    Yl C.P ev (.makeFunc fn first captured) w φ v := by
  unfold pFunc at h
  split at h
  · rename_i f
    split at h
    · rename_i a b ha hb
      simp only [Option.some.injEq] at h; subst h
      refine Yl.of' (Instr.makeFunc (.func f) (first.map ev) (captured.map ev)) ?_ (v' := .func (.func f) (first.map ev) (captured.map ev)) rfl ?_
      · rintro ⟨dst, op, type, pos, after, guard⟩ ho; subst ho; rfl
      · have h1 := evL_rel hρ _ _ ha
        have h2 := evL_rel hρ _ _ hb
        have e1 : first.map ev = ⟨first.toList.map ev⟩ := by apply Array.ext'; simp
        have e2 : captured.map ev = ⟨captured.toList.map ev⟩ := by apply Array.ext'; simp
        rw [e1, e2]
        exact .func f _ _ _ _ h1 h2
    · cases h
  · cases h

theorem yl_extract (hρ : ERho φ ρ ev) {x : Operand} {i : Nat} {v : Value} (h : pExtract ρ x i = some v) : Yl C.P ev (.extract x i) w φ v := by
  unfold pExtract at h
  split at h
  · rename_i vs hx
    have h1 := hρ x _ hx
    generalize he : ev x = u at h1
    cases h1 with
    | tuple xs xs' hxs =>
      obtain ⟨v', h2, h3⟩ := hxs.get i v (by simpa using h)
      refine Yl.of' (Instr.extract (ev x) i) ?_ (v' := v') ?_ h3
      · rintro ⟨dst, op, type, pos, after, guard⟩ ho; subst ho; rfl
      · rw [he]
        simp [Instr.extract, h2]
  · cases h

theorem yl_assert (hC : COk C) (hρ : ERho φ ρ ev) {x : Operand} {t xt : TypeId} {ok : Bool} {v : Value} (h : pAssert C ρ x t ok = some v) : Yl C.P ev (.typeAssert x xt t ok) w φ v := by
  unfold pAssert at h
  split at h
  · rename_i u y i hx ht
    have h1 := hρ x _ hx
    have hu := hC.run_und w ht
    generalize he : ev x = z at h1
    cases h1 with
    | iface _ _ y' hy =>
      split at h
      · cases h
      · rename_i hni
        cases hb : Nat.beq u t
        · rw [hb] at h; cases h
        · rw [hb] at h; simp only [cond_true, Option.some.injEq] at h; subst h
          have hut := Nat.eq_of_beq_eq_true hb; subst hut
          refine Yl.of' (Instr.typeAssert (ev x) xt u ok) ?_ (v' := if ok then .tuple #[y', .bool true] else y') ?_ ?_
          · rintro ⟨dst, op, type, pos, after, guard⟩ ho; subst ho; rfl
          · rw [he]
            simp only [Instr.typeAssert, Sem.run_bind, hu, Result.andThen_ok]
            cases hiu : i.u <;> first | (exact absurd hiu (hni _)) | simp
          · cases ok
            · exact hy
            · exact .tuple [_, _] [_, _] (.cons _ _ _ _ hy (.cons _ _ _ _ (.bool true) .nil))
  · cases h

/-! building -/
theorem fold_set (ws ws' : List Value) {φ : Phi} (hw : VRels φ ws ws') : ∀ (k off : Nat) (cs cs' : Array Value), VRels φ cs.toList cs'.toList →
    VRels φ ((ws.zipIdx k).foldl (fun cs (c, j) => cs.setIfInBounds (off + j) c) cs).toList ((ws'.zipIdx k).foldl (fun cs (c, j) => cs.setIfInBounds (off + j) c) cs').toList := by
  induction hw using VRels.rec (motive_1 := fun _ _ _ => True) with
  | nil => intro k off cs cs' h; exact h
  | cons v v' l l' hv _ _ ih =>
    intro k off cs cs' h
    simp only [List.zipIdx_cons, List.foldl_cons]
    refine ih _ _ _ _ ?_
    rw [Array.toList_setIfInBounds, Array.toList_setIfInBounds]
    refine VRels.of (by simp [h.length]) ?_
    intro i x x' hx hx'
    rw [List.getElem?_set] at hx hx'
    split at hx
    · rename_i e
      split at hx
      · rw [if_pos e] at hx'
        split at hx'
        · cases hx; cases hx'; exact hv
        · cases hx'
      · cases hx
    · rename_i e
      rw [if_neg e] at hx'
      obtain ⟨y, hy, hr⟩ := h.get i x hx
      rw [hx'] at hy; cases hy; exact hr
  | _ => trivial


theorem fill_rel {φ : Phi} (place : Nat → Option (Nat × Nat)) : ∀ (parts : List (Nat × Value)) (parts' : List (Nat × Value)) (cs cs' r : Array Value),
    parts.map (·.1) = parts'.map (·.1) → VRels φ (parts.map (·.2)) (parts'.map (·.2)) → VRels φ cs.toList cs'.toList → Instr.fill place cs parts = some r →
    ∃ r', Instr.fill place cs' parts' = some r' ∧ VRels φ r.toList r'.toList
  | [], [], cs, cs', r, _, _, h, hf => by
    simp only [Instr.fill, Option.some.injEq] at hf; subst hf
    exact ⟨cs', rfl, h⟩
  | [], _ :: _, cs, cs', r, h1, _, _, _ => by simp at h1
  | _ :: _, [], cs, cs', r, h1, _, _, _ => by simp at h1
  | (i, v) :: ps, (i', v') :: ps', cs, cs', r, h1, h2, h, hf => by
    simp only [List.map_cons, List.cons.injEq] at h1 h2
    obtain ⟨rfl, h1⟩ := h1
    cases h2 with
    | cons _ _ _ _ hv h2 =>
      simp only [Instr.fill] at hf ⊢
      have hcl : v.cells.size = v'.cells.size := by simpa using hv.cells.length
      have hsz : cs.size = cs'.size := by simpa using h.length
      cases hp : place i with
      | none => rw [hp] at hf; cases hf
      | some pl =>
        rw [hp] at hf
        obtain ⟨off, size⟩ := pl
        dsimp only at hf ⊢
        rw [← hcl, ← hsz]
        split at hf
        · cases hf
        · rename_i hn
          rw [if_neg hn]
          refine fill_rel place ps ps' _ _ r h1 h2 ?_ hf
          have e : ∀ (u : Value) (zs : Array Value), u.cells.zipIdx.foldl (fun cs (c, j) => cs.setIfInBounds (off + j) c) zs =
              (u.cells.toList.zipIdx 0).foldl (fun cs (c, j) => cs.setIfInBounds (off + j) c) zs := by
            intro u zs
            rw [← Array.foldl_toList, Array.toList_zipIdx]
          rw [e, e]
          exact fold_set _ _ hv.cells 0 off cs cs' h

theorem evP_rel {φ : Phi} {ρ : Env} {ev : Operand → Value} (hρ : ERho φ ρ ev) : ∀ (xs : List (Nat × Operand)) (l : List (Nat × Value)), evP ρ xs = some l →
    l.map (·.1) = (xs.map fun (i, x) => (i, ev x)).map (·.1) ∧ VRels φ (l.map (·.2)) ((xs.map fun (i, x) => (i, ev x)).map (·.2))
  | [], l, h => by simp only [evP, Option.some.injEq] at h; subst h; exact ⟨rfl, .nil⟩
  | (i, x) :: xs, l, h => by
    simp only [evP] at h
    split at h
    · rename_i v hv
      split at h
      · rename_i t ht
        simp only [Option.some.injEq] at h; subst h
        obtain ⟨h1, h2⟩ := evP_rel hρ xs t ht
        exact ⟨by simpa using h1, .cons _ _ _ _ (hρ x v hv) h2⟩
      · cases h
    · cases h

theorem places_run {C : Ctx} (hC : COk C) (w : World) : ∀ (fs : List Field) (pl : List (Nat × Nat)), placesOf C fs = some pl →
    (fs.mapM (m := Sem) fun f => do pure (f.offset, ← Go.sizeOf f.type)).run C.P w = Result.ok pl w
  | [], pl, h => by simp only [placesOf, Option.some.injEq] at h; subst h; rfl
  | f :: fs, pl, h => by
    simp only [placesOf] at h
    split at h
    · rename_i j l hj hl
      simp only [Option.some.injEq] at h; subst h
      simp only [List.mapM_cons, Sem.run_bind, hC.run_size w hj, Result.andThen_ok, Sem.run_pure, places_run hC w fs l hl]
    · cases h

theorem yl_build (hC : COk C) (hρ : ERho φ ρ ev) {t : TypeId} {parts : Array (Nat × Operand)} {v : Value} (h : pBuild C ρ t parts = some v) : Yl C.P ev (.build t parts) w φ v := by
  unfold pBuild at h
  split at h
  · rename_i l hl
    obtain ⟨e1, e2⟩ := evP_rel hρ _ _ hl
    unfold buildV at h
    split at h
    · cases h
    · rename_i i hi
      have hu := hC.run_und w hi
      split at h
      · cases h
      · rename_i z hz
        have hzr := hC.run_zero w hi hz
        have hzz := hC.zero_rel hi hz (φ := φ)
        have ep : (parts.map fun (i, x) => (i, ev x)).toList = parts.toList.map fun (i, x) => (i, ev x) := by simp
        split at h
        · rename_i fs hfs
          rw [hfs] at hu
          split at h
          · rename_i pl hpl
            split at h
            · rename_i cs hcs
              simp only [Option.some.injEq] at h; subst h
              obtain ⟨cs', h3, h4⟩ := fill_rel _ l _ z.cells z.cells cs e1 e2 hzz hcs
              refine Yl.of' (Instr.build t (parts.map fun (i, x) => (i, ev x))) ?_ (v' := .agg cs') ?_ (by exact .agg cs.toList cs'.toList h4)
              · rintro ⟨dst, op, type, pos, after, guard⟩ ho; subst ho; rfl
              · have hp := places_run hC w fs.toList pl hpl
                simp only [Instr.build, Sem.run_bind, hzr, hu, Result.andThen_ok]
                rw [Array.mapM_eq_mapM_toList, Sem.run_map, hp]
                simp only [Result.andThen_ok]
                rw [ep]
                have : (fun (x : Nat) => ((pl.toArray)[x]? : Option (Nat × Nat))) = fun (n : Nat) => (pl[n]? : Option (Nat × Nat)) := by funext n; simp
                rw [this, h3]
                rfl
            · cases h
          · cases h
        · rename_i n e hn
          rw [hn] at hu
          split at h
          · rename_i j hj
            split at h
            · rename_i cs hcs
              simp only [Option.some.injEq] at h; subst h
              obtain ⟨cs', h3, h4⟩ := fill_rel _ l _ z.cells z.cells cs e1 e2 hzz hcs
              refine Yl.of' (Instr.build t (parts.map fun (i, x) => (i, ev x))) ?_ (v' := .agg cs') ?_ (by exact .agg cs.toList cs'.toList h4)
              · rintro ⟨dst, op, type, pos, after, guard⟩ ho; subst ho; rfl
              · simp only [Instr.build, Sem.run_bind, hzr, hu, Result.andThen_ok, hC.run_size w hj]
                rw [ep, h3]
                rfl
            · cases h
          · cases h
        · cases h
  · cases h

theorem yl_arr (hC : COk C) (hρ : ERho φ ρ ev) {t : TypeId} {x : Operand} {v : Value} (h : pArr C ρ t x = some v) : Yl C.P ev (.sliceToArrayPointer t x) w φ v := by
  unfold pArr at h
  split at h
  · rename_i i a len cap ht hx
    have h1 := hρ x _ hx
    have hu := hC.run_und w ht
    split at h
    · rename_i n e hn
      rw [hn] at hu
      cases hb : Nat.blt len n
      · rw [hb] at h; simp only [cond_false, Option.some.injEq] at h; subst h
        have hlt : ¬ len < n := fun e => by rw [blt_of e] at hb; cases hb
        generalize he : ev x = u at h1
        cases h1 with
        | slc b off _ _ l hl =>
          refine Yl.of' (Instr.arrayAt t (ev x)) ?_ (v' := .pointer (some ⟨l.c, l.d + off, none⟩)) ?_ (.ptr b off l hl)
          · rintro ⟨dst, op, type, pos, after, guard⟩ ho; subst ho; rfl
          · rw [he]
            simp only [Instr.arrayAt, Sem.run_bind, hu, Result.andThen_ok, if_neg hlt, Sem.run_pure]
        | opn b off _ c sz l hl =>
          refine Yl.of' (Instr.arrayAt t (ev x)) ?_ (v' := .pointer (some ⟨l.c, l.d + off, none⟩)) ?_ (.ptr b off l hl)
          · rintro ⟨dst, op, type, pos, after, guard⟩ ho; subst ho; rfl
          · rw [he]
            simp only [Instr.arrayAt, Sem.run_bind, hu, Result.andThen_ok, if_neg hlt, Sem.run_pure]
      · rw [hb] at h; cases h
    · cases h
  · cases h

theorem fold_min {P : Program} : ∀ (l l' : List Value) (a v : Value), foldV minV a l = some v → VRels φ l l' → ∀ a', VRel φ a a' → ∃ v', (l'.foldlM (m := Sem) Builtin.min2 a').run P w = Result.ok v' w ∧ VRel φ v v'
  | [], _, a, v, h, hl, a', ha => by
    cases hl
    simp only [foldV, Option.some.injEq] at h; subst h
    exact ⟨a', rfl, ha⟩
  | b :: l, _, a, v, h, hl, a', ha => by
    cases hl with
    | cons _ b' _ l' hb hl =>
      simp only [foldV] at h
      split at h
      · rename_i u hu
        unfold minV at hu
        split at hu
        · rename_i k x k' y
          cases ha; cases hb
          simp only [Option.some.injEq] at hu; subst hu
          obtain ⟨v', h1, h2⟩ := fold_min l l' _ v h hl _ (.int _ _)
          refine ⟨v', ?_, h2⟩
          simp only [List.foldlM_cons, Builtin.min2, Sem.run_bind, Sem.run_pure, Result.andThen_ok]
          exact h1
        · cases hu
      · cases h
theorem fold_max {P : Program} : ∀ (l l' : List Value) (a v : Value), foldV maxV a l = some v → VRels φ l l' → ∀ a', VRel φ a a' → ∃ v', (l'.foldlM (m := Sem) Builtin.max2 a').run P w = Result.ok v' w ∧ VRel φ v v'
  | [], _, a, v, h, hl, a', ha => by
    cases hl
    simp only [foldV, Option.some.injEq] at h; subst h
    exact ⟨a', rfl, ha⟩
  | b :: l, _, a, v, h, hl, a', ha => by
    cases hl with
    | cons _ b' _ l' hb hl =>
      simp only [foldV] at h
      split at h
      · rename_i u hu
        unfold maxV at hu
        split at hu
        · rename_i k x k' y
          cases ha; cases hb
          simp only [Option.some.injEq] at hu; subst hu
          obtain ⟨v', h1, h2⟩ := fold_max l l' _ v h hl _ (.int _ _)
          refine ⟨v', ?_, h2⟩
          simp only [List.foldlM_cons, Builtin.max2, Sem.run_bind, Sem.run_pure, Result.andThen_ok]
          exact h1
        · cases hu
      · cases h

/-- a builtin by its run -/
theorem Yl.builtin {b : Builtin} {c : Call} (hc : c.callee = .builtin b) (s : Sem Value)
    (hb : ∀ ty cs, builtin b c.argTypes ty cs (c.args.map ev) = (do pure (.value (← s)))) {v v' : Value} {P : Program} (hs : s.run P w = Result.ok v' w) (hv : VRel φ v v') : Yl P ev (.call c) w φ v := by
  refine Yl.of' s ?_ hs hv
  rintro ⟨dst, op, type, pos, after, guard⟩ ho; subst ho
  simp only [execOp, resolve, hc, pure_bind, invoke]
  exact hb _ _

omit [Syms] in
theorem sliceData_some (ts : Array TypeId) (ty : TypeId) (a : Addr) (n c : Nat) (h : c ≠ 0) :
    Builtin.unsafeSliceData_ ts ty #[.slice (some a) n c] = pure (.pointer (some a)) := by
  show (if c ≠ 0 then _ else _) = _
  rw [if_pos h]

theorem yl_call (hC : COk C) (hρ : ERho φ ρ ev) {c : Call} {v : Value} (h : pCall C ρ c = some v) : Yl C.P ev (.call c) w φ v := by
  have em : (c.args.map ev).toList = c.args.toList.map ev := by simp
  unfold pCall at h
  split at h
  · rename_i hc
    split at h
    · rename_i a l hl
      have h1 := evL_rel hρ _ _ hl
      generalize hg : c.args.toList.map ev = gl at h1
      cases h1 with
      | cons _ a' _ l' ha hl' =>
        obtain ⟨v', h2, h3⟩ := fold_min w (P := C.P) l l' a v h hl' a' ha
        refine Yl.builtin w hc (Builtin.min_ c.argTypes 0 (c.args.map ev)) (fun _ _ => rfl) (v' := v') ?_ h3
        unfold Builtin.min_
        rw [em, hg]
        exact h2
    · cases h
  · rename_i hc
    split at h
    · rename_i a l hl
      have h1 := evL_rel hρ _ _ hl
      generalize hg : c.args.toList.map ev = gl at h1
      cases h1 with
      | cons _ a' _ l' ha hl' =>
        obtain ⟨v', h2, h3⟩ := fold_max w (P := C.P) l l' a v h hl' a' ha
        refine Yl.builtin w hc (Builtin.max_ c.argTypes 0 (c.args.map ev)) (fun _ _ => rfl) (v' := v') ?_ h3
        unfold Builtin.max_
        rw [em, hg]
        exact h2
    · cases h
  · rename_i hc
    split at h
    · rename_i x t hx ht
      split at h
      · rename_i i b n cap hi hxv
        split at h
        · rename_i e hiu
          cases ho : Nat.ble OPEN cap
          · rw [ho] at h; simp only [cond_false, Option.some.injEq] at h; subst h
            have h1 := hρ x _ hxv
            have hu := hC.run_und w hi
            rw [hiu] at hu
            have hargs : c.args.map ev = #[ev x] := by apply Array.ext'; rw [em, hx]; rfl
            refine Yl.builtin w hc (Builtin.cap_ c.argTypes 0 (c.args.map ev)) (fun _ _ => rfl) (v' := .int .i64 cap) ?_ (.int _ _)
            unfold Builtin.cap_
            rw [hargs]
            generalize he : ev x = u at h1
            cases h1 <;> first | (exact absurd (Nat.ble_eq_true_of_le (Nat.le_add_right OPEN _)) (by rw [ho]; simp)) | (simp [ht, hu, goInt])
          · rw [ho] at h; cases h
        · cases h
      · cases h
    · cases h
  · rename_i hc
    split at h
    · rename_i n cap hl
      simp only [Option.some.injEq] at h; subst h
      have h1 := evL_rel hρ _ _ hl
      generalize hg : c.args.toList.map ev = gl at h1
      cases h1 with
      | cons _ a' _ l' ha hl' =>
        cases hl'; cases ha
        have hargs : c.args.map ev = #[.slice none 0 0] := by apply Array.ext'; rw [em, hg]
        refine Yl.builtin w hc (Builtin.unsafeSliceData_ c.argTypes 0 (c.args.map ev)) (fun _ _ => ?_) (v' := .pointer none) ?_ .pnil
        · rw [hargs]; rfl
        · rw [hargs]; rfl
    · rename_i a len cap hl
      cases ho : ((Nat.ble OPEN cap && Nat.beq len 0) || Nat.beq cap 0)
      · rw [ho] at h; simp only [cond_false, Option.some.injEq] at h; subst h
        simp only [Bool.or_eq_false_iff] at ho
        have h1 := evL_rel hρ _ _ hl
        generalize hg : c.args.toList.map ev = gl at h1
        cases h1 with
        | cons _ a' _ l' ha hl' =>
          cases hl'
          cases ha with
          | slc b off _ _ l hloc hcc =>
            have hargs : c.args.map ev = #[.slice (some ⟨l.c, l.d + off, none⟩) len cap] := by apply Array.ext'; rw [em, hg]
            have hne : cap ≠ 0 := by rintro rfl; simp at ho
            refine Yl.of' (pure (.pointer (some ⟨l.c, l.d + off, none⟩))) ?_ (v' := .pointer (some ⟨l.c, l.d + off, none⟩)) rfl (.ptr b off l hloc)
            rintro ⟨dst, op, type, pos, after, guard⟩ ho; subst ho
            simp only [execOp, resolve, hc, pure_bind, invoke, hargs, builtin, sliceData_some _ _ _ _ _ hne]
          | opn b off _ c' sz l hloc hn hcc =>
            have hargs : c.args.map ev = #[.slice (some ⟨l.c, l.d + off, none⟩) len c'] := by apply Array.ext'; rw [em, hg]
            have hne : c' ≠ 0 := by
              rintro rfl
              have : len = 0 := by omega
              subst this
              have := Nat.ble_eq_true_of_le (Nat.le_add_right OPEN sz)
              rw [this] at ho; simp at ho
            refine Yl.of' (pure (.pointer (some ⟨l.c, l.d + off, none⟩))) ?_ (v' := .pointer (some ⟨l.c, l.d + off, none⟩)) rfl (.ptr b off l hloc)
            rintro ⟨dst, op, type, pos, after, guard⟩ ho; subst ho
            simp only [execOp, resolve, hc, pure_bind, invoke, hargs, builtin, sliceData_some _ _ _ _ _ hne]
      · rw [ho] at h; cases h
    · cases h
  · cases h

theorem opP_sound (hC : COk C) (hρ : ERho φ ρ ev) {o : Op} {v : Value} (h : opP C ρ o = some v) : Yl C.P ev o w φ v := by
  cases o with
  | move x => exact yl_move w hρ h
  | assign x => exact yl_assign w hρ h
  | pick c a b => exact yl_pick w hρ h
  | binOp op t x y ty => exact yl_bin w hC hρ h
  | unOp op t x => exact yl_un w hρ h
  | convert s d x => exact yl_conv w hC hρ h
  | nilCheck x => exact yl_nil w hρ h
  | fieldAddr s x f => exact yl_fieldAddr w hC hρ h
  | field s x f => exact yl_field w hC hρ h
  | indexAddr t x i => exact yl_indexAddr w hC hρ h
  | index t x i => exact yl_index w hC hρ h
  | slice t x lo hi mx => exact yl_slice w hC hρ h
  | makeInterface t x => exact yl_iface w hC hρ h
  | makeFunc fn a b => exact yl_func w hρ h
  | extract x i => exact yl_extract w hρ h
  | typeAssert x xt t ok => exact yl_assert w hC hρ h
  | build t parts => exact yl_build w hC hρ h
  | sliceToArrayPointer t x => exact yl_arr w hC hρ h
  | call c => exact yl_call w hC hρ h
  | _ => cases h
end
end Go.AM
