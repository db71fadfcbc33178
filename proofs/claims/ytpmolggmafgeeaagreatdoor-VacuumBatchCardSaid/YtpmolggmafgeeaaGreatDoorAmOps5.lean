/- AM: the operations that do not look at the heap, the last. -/
import Derived.Test.YtpmolggmafgeeaaGreatDoorAmOps1
import Derived.Laws.Small
namespace Go.AM
open Go
variable [Syms]

section
variable {C : Ctx} {φ : Phi} {ρ : Env} {ev : Operand → Value} (w : World)

/-- bounds of a slice expression -/
theorem bounds_run {P : Program} {isS : Bool} {len cap : Nat} {lo hi mx lo' hi' mx' : Option Value} {m h l : Nat}
    (hm : boundOf cap mx cap = some m) (hh : boundOf m hi len = some h) (hl : boundOf h lo 0 = some l)
    (rl : ∀ v, lo = some v → ∃ v', lo' = some v' ∧ VRel φ v v') (nl : lo = none → lo' = none)
    (rh : ∀ v, hi = some v → ∃ v', hi' = some v' ∧ VRel φ v v') (nh : hi = none → hi' = none)
    (rm : ∀ v, mx = some v → ∃ v', mx' = some v' ∧ VRel φ v v') (nm : mx = none → mx' = none)
    (hmh : mx = none ∨ hi ≠ none) :
    (Instr.sliceBounds isS len cap lo' hi' mx').run P w = Result.ok (l, h, m) w := by
  unfold Instr.sliceBounds
  rcases boundOf_run (P := P) hm rm nm (if isS then .slice3Acap else .slice3Alen) w with ⟨e1, e1', rfl⟩ | ⟨m', e1', _, hmr⟩
  · rw [e1']
    dsimp only
    rw [pure_bind]
    rcases boundOf_run (P := P) hh rh nh (if isS then .sliceAcap else .sliceAlen) w with ⟨e2, e2', rfl⟩ | ⟨h', e2', _, hhr⟩
    · rw [e2']
      dsimp only
      rw [pure_bind]
      rcases boundOf_run (P := P) hl rl nl .sliceB w with ⟨e3, e3', rfl⟩ | ⟨l', e3', _, hlr⟩
      · rw [e3']; rfl
      · rw [e3']
        simp only [Option.isSome_none, Bool.false_eq_true, if_false, Sem.run_bind, hlr, Result.andThen_ok, Sem.run_pure]
    · rw [e2']
      dsimp only
      rw [Sem.run_bind, hhr, Result.andThen_ok]
      rcases boundOf_run (P := P) hl rl nl .sliceB w with ⟨e3, e3', rfl⟩ | ⟨l', e3', _, hlr⟩
      · rw [e3']; rfl
      · rw [e3']
        simp only [Option.isSome_none, Bool.false_eq_true, if_false, Sem.run_bind, hlr, Result.andThen_ok, Sem.run_pure]
  · rw [e1']
    dsimp only
    rw [Sem.run_bind, hmr, Result.andThen_ok]
    rcases boundOf_run (P := P) hh rh nh .slice3B w with ⟨e2, e2', rfl⟩ | ⟨h', e2', _, hhr⟩
    · exfalso
      rcases hmh with e | e
      · rw [nm e] at e1'; cases e1'
      · exact e e2
    · rw [e2']
      dsimp only
      rw [Sem.run_bind, hhr, Result.andThen_ok]
      rcases boundOf_run (P := P) hl rl nl .slice3C w with ⟨e3, e3', rfl⟩ | ⟨l', e3', _, hlr⟩
      · rw [e3']; rfl
      · rw [e3']
        simp only [Option.isSome_some, if_true, Sem.run_bind, hlr, Result.andThen_ok, Sem.run_pure]

omit [Syms] in
theorem boundOf_le {m d n : Nat} {o : Option Value} (h : boundOf m o d = some n) (hd : d ≤ m) : n ≤ m := by
  unfold boundOf at h
  split at h
  · simp only [Option.some.injEq] at h; omega
  · split at h
    · rename_i k hk
      cases hb : Nat.ble k m
      · rw [hb] at h; cases h
      · rw [hb] at h; simp only [cond_true, Option.some.injEq] at h; subst h; exact Nat.le_of_ble_eq_true hb
    · cases h

theorem yl_slice (hC : COk C) (hρ : ERho φ ρ ev) {t : TypeId} {x : Operand} {lo hi mx : Option Operand} {v : Value} (h : pSlice C ρ t x lo hi mx = some v) :
    Yl C.P ev (.slice t x lo hi mx) w φ v := by
  unfold pSlice at h
  split at h
  · cases h
  rename_i hside
  have hmx : mx = none ∨ hi ≠ none := by
    cases mx with
    | none => exact .inl rfl
    | some a => right; rintro rfl; exact hside a rfl rfl
  split at h
  · rename_i xv lv hv mv hx hlo hhi hmxv
    have h1 := hρ x _ hx
    obtain ⟨rl, nl⟩ := evO_rel hρ hlo
    obtain ⟨rh, nh⟩ := evO_rel hρ hhi
    obtain ⟨rm, nm⟩ := evO_rel hρ hmxv
    have hmh : mv = none ∨ hv ≠ none := by
      rcases hmx with rfl | e
      · simp [evO] at hmxv; exact .inl hmxv.symm
      · right; rintro rfl
        cases hi with
        | none => exact e rfl
        | some y => simp only [evO] at hhi; split at hhi <;> simp at hhi
    generalize he : ev x = u at h1
    have hexec : ∀ o : Oper, o.op = .slice t x lo hi mx → execOp ev o = (do pure (.value (← Instr.sliceAt t (ev x) (lo.map ev) (hi.map ev) (mx.map ev)))) := by
      rintro ⟨dst, op, type, pos, after, guard⟩ ho; subst ho; rfl
    unfold sliceV at h
    split at h
    · rename_i i s ht
      have hu := hC.run_und w ht
      cases h1
      split at h
      · rename_i hiu
        split at h
        · rename_i hh hhb
          split at h
          · rename_i ll hlb
            simp only [Option.some.injEq] at h; subst h
            refine Yl.of' _ hexec (v' := .string (s.extract ll hh)) ?_ (.string _)
            rw [he, nm rfl]
            rw [hiu] at hu
            have hb := bounds_run (P := C.P) (isS := false) w (m := s.size) (mx := none) (mx' := none) (cap := s.size) rfl hhb hlb rl nl rh nh (fun _ h => by cases h) (fun _ => rfl) (.inl rfl)
            simp only [Instr.sliceAt, Instr.slice, Sem.run_bind, hu, Result.andThen_ok, Option.isSome_none, Bool.false_eq_true, if_false, hb, Sem.run_pure]
          · cases h
        · cases h
      · cases h
    · rename_i i len cap ht
      have hu := hC.run_und w ht
      split at h
      · rename_i e hiu
        rw [hiu] at hu
        split at h
        · cases h
        · rename_i j hj
          have hsz := hC.run_size w hj
          split at h
          · cases h
          · rename_i m hmb
            split at h
            · cases h
            · rename_i hh hhb
              split at h
              · cases h
              · rename_i ll hlb
                simp only [Option.some.injEq] at h; subst h
                cases h1
                have hb := bounds_run (P := C.P) (isS := true) w hmb hhb hlb rl nl rh nh rm nm hmh
                have hml := boundOf_le hmb (Nat.le_refl _)
                have hhl := boundOf_le hhb (Nat.zero_le _)
                have hll := boundOf_le hlb (Nat.zero_le _)
                obtain rfl : m = 0 := by omega
                obtain rfl : hh = 0 := by omega
                obtain rfl : ll = 0 := by omega
                refine Yl.of' _ hexec (v' := .slice none 0 0) ?_ .snil
                rw [he]
                simp only [Instr.sliceAt, Instr.slice, Sem.run_bind, hu, Result.andThen_ok, hb, hsz, Sem.run_pure]
                rfl
      · cases h
    · rename_i i a len cap ht
      have hu := hC.run_und w ht
      split at h
      · rename_i e hiu
        rw [hiu] at hu
        split at h
        · cases h
        · rename_i j hj
          have hsz := hC.run_size w hj
          cases hop : Nat.ble OPEN cap
          · rw [hop] at h; simp only [cond_false] at h
            split at h
            · cases h
            · rename_i m hmb
              split at h
              · cases h
              · rename_i hh hhb
                split at h
                · cases h
                · rename_i ll hlb
                  simp only [Option.some.injEq] at h; subst h
                  have hb := bounds_run (P := C.P) (isS := true) w hmb hhb hlb rl nl rh nh rm nm hmh
                  have hml := boundOf_le hmb (Nat.le_refl _)
                  cases h1 with
                  | slc b off _ _ l hl hc =>
                    refine Yl.of' _ hexec (v' := .slice (if m = ll then (some ⟨l.c, l.d + off, none⟩) else some (Addr.add ⟨l.c, l.d + off, none⟩ (ll * j.size))) (hh - ll) (m - ll)) ?_ ?_
                    · rw [he]
                      simp only [Instr.sliceAt, Instr.slice, Sem.run_bind, hu, Result.andThen_ok, hb, hsz, Sem.run_pure, Option.map_some]
                    · have hne : m - ll < OPEN := by omega
                      cases hm : Nat.beq m ll
                      · have : m ≠ ll := by rintro rfl; simp at hm
                        rw [if_neg this]
                        simp only [cond_false]
                        rw [addr_add, addr_add, Nat.add_assoc]
                        exact .slc b _ _ _ l hl hne
                      · have := Nat.eq_of_beq_eq_true hm
                        rw [if_pos this]
                        exact .slc b off _ _ l hl hne
                  | opn _ _ _ _ sz => exact absurd (Nat.ble_eq_true_of_le (Nat.le_add_right OPEN sz)) (by rw [hop]; simp)
                  | emp _ _ => exact absurd (Nat.ble_eq_true_of_le (Nat.le_refl OPEN)) (by rw [hop]; simp)
          · rw [hop] at h; simp only [cond_true] at h
            have hcap := Nat.le_of_ble_eq_true hop
            split at h
            · cases h
            · split at h
              · cases h
              · rename_i hh hhb
                split at h
                · cases h
                · rename_i ll hlb
                  cases hc : (a.spot.isNone && (Nat.blt ll len || Nat.beq ll 0) && Nat.beq cap (OPEN + j.size))
                  · rw [hc] at h; simp only [cond_false] at h
                    cases hc2 : (a.spot.isNone && Nat.beq ll len && Nat.beq cap (OPEN + j.size))
                    · rw [hc2] at h; cases h
                    · rw [hc2] at h; simp only [cond_true, Option.some.injEq] at h; subst h
                      have hhl := boundOf_le hhb (Nat.le_refl _)
                      have hll := boundOf_le hlb (Nat.zero_le _)
                      simp only [Bool.and_eq_true] at hc2
                      obtain ⟨⟨k1, k2⟩, k3⟩ := hc2
                      obtain rfl := Nat.eq_of_beq_eq_true k2
                      cases h1 with
                      | slc _ _ _ _ _ _ hc => omega
                      | emp _ _ => cases k1
                      | opn b off _ c' sz l hl hn hcc =>
                        have hhb' : boundOf c' hv ll = some hh := by
                          unfold boundOf at hhb ⊢
                          split at hhb
                          · exact hhb
                          · rename_i d2 v2
                            split at hhb
                            · rename_i k hk
                              cases hb2 : Nat.ble k ll
                              · rw [hb2] at hhb; cases hhb
                              · rw [hb2] at hhb
                                have h3 := Nat.le_of_ble_eq_true hb2
                                have h4 : Nat.ble k c' = true := Nat.ble_eq_true_of_le (by omega)
                                rw [h4]; exact hhb
                            · cases hhb
                        have hb := bounds_run (P := C.P) (isS := true) w (m := c') (mx := none) (mx' := none) (cap := c') rfl hhb' hlb rl nl rh nh (fun _ h => by cases h) (fun _ => rfl) (.inl rfl)
                        have hh0 : hh = ll := by omega
                        subst hh0
                        refine Yl.of' _ hexec (v' := .slice (if c' = hh then (some ⟨l.c, l.d + off, none⟩) else some (Addr.add ⟨l.c, l.d + off, none⟩ (hh * j.size))) (hh - hh) (c' - hh)) ?_ ?_
                        · rw [he, nm rfl]
                          simp only [Instr.sliceAt, Instr.slice, Sem.run_bind, hu, Result.andThen_ok, hb, hsz, Sem.run_pure, Option.map_some]
                        · rw [Nat.sub_self]
                          split
                          · exact .emp _ _
                          · exact .emp _ _
                  · rw [hc] at h; simp only [cond_true, Option.some.injEq] at h; subst h
                    have hhl := boundOf_le hhb (Nat.le_refl _)
                    have hll := boundOf_le hlb (Nat.zero_le _)
                    cases h1 with
                    | slc _ _ _ _ _ _ hc => omega
                    | emp _ _ => simp at hc
                    | opn b off _ c' sz l hl hn hcc =>
                      simp only [Option.isNone_none, Bool.true_and, Bool.and_eq_true] at hc
                      have hsz2 : sz = j.size := by have := Nat.eq_of_beq_eq_true hc.2; omega
                      subst hsz2
                      have hhb' : boundOf c' hv len = some hh := by
                        unfold boundOf at hhb ⊢
                        split at hhb
                        · exact hhb
                        · rename_i d2 v2
                          split at hhb
                          · rename_i k hk
                            cases hb2 : Nat.ble k len
                            · rw [hb2] at hhb; cases hhb
                            · rw [hb2] at hhb
                              have h3 := Nat.le_of_ble_eq_true hb2
                              have h4 : Nat.ble k c' = true := Nat.ble_eq_true_of_le (by omega)
                              rw [h4]; exact hhb
                          · cases hhb
                      have hb := bounds_run (P := C.P) (isS := true) w (m := c') (mx := none) (mx' := none) (cap := c') rfl hhb' hlb rl nl rh nh (fun _ h => by cases h) (fun _ => rfl) (.inl rfl)
                      refine Yl.of' _ hexec (v' := .slice (if c' = ll then (some ⟨l.c, l.d + off, none⟩) else some (Addr.add ⟨l.c, l.d + off, none⟩ (ll * j.size))) (hh - ll) (c' - ll)) ?_ ?_
                      · rw [he, nm rfl]
                        simp only [Instr.sliceAt, Instr.slice, Sem.run_bind, hu, Result.andThen_ok, hb, hsz, Sem.run_pure, Option.map_some]
                      · have hc1 : ll < len ∨ ll = 0 := by
                          rcases Bool.or_eq_true_iff.1 hc.1 with e | e
                          · exact .inl (lt_of_blt e)
                          · exact .inr (Nat.eq_of_beq_eq_true e)
                        have heq : (if c' = ll then (some (⟨l.c, l.d + off, none⟩ : Addr)) else some (Addr.add ⟨l.c, l.d + off, none⟩ (ll * j.size))) = some ⟨l.c, l.d + (off + ll * j.size), none⟩ := by
                          split
                          · have : ll = 0 := by omega
                            subst this; simp
                          · rw [addr_add, Nat.add_assoc]
                        rw [heq, addr_add]
                        refine .opn b _ _ _ _ l hl (by omega) ?_
                        rw [← hcc, Nat.sub_mul]
                        have : ll * j.size ≤ c' * j.size := Nat.mul_le_mul_right _ (by omega)
                        omega
      · cases h
    · rename_i i a ht
      have hu := hC.run_und w ht
      split at h
      · rename_i n e hiu
        rw [hiu] at hu
        split at h
        · cases h
        · rename_i j hj
          have hsz := hC.run_size w hj
          split at h
          · cases h
          · rename_i m hmb
            split at h
            · cases h
            · rename_i hh hhb
              split at h
              · cases h
              · rename_i ll hlb
                cases hmo : Nat.blt m OPEN
                · rw [hmo] at h; cases h
                · rw [hmo] at h; simp only [cond_true, Option.some.injEq] at h; subst h
                  have hmo := lt_of_blt hmo
                  have hb := bounds_run (P := C.P) (isS := false) w hmb hhb hlb rl nl rh nh rm nm hmh
                  cases h1 with
                  | ptr b off l hl =>
                    refine Yl.of' _ hexec (v' := .slice (some (if m = ll then ⟨l.c, l.d + off, none⟩ else (Addr.add ⟨l.c, l.d + off, none⟩ (ll * j.size)))) (hh - ll) (m - ll)) ?_ ?_
                    · rw [he]
                      simp only [Instr.sliceAt, Sem.run_bind, hu, Result.andThen_ok, hb, hsz, Sem.run_pure, Instr.sureAddr]
                    · have hne : m - ll < OPEN := by omega
                      cases hm : Nat.beq m ll
                      · have : m ≠ ll := by rintro rfl; simp at hm
                        rw [if_neg this]
                        simp only [cond_false]
                        rw [addr_add, addr_add, Nat.add_assoc]
                        exact .slc b _ _ _ l hl hne
                      · have := Nat.eq_of_beq_eq_true hm
                        rw [if_pos this]
                        exact .slc b off _ _ l hl hne
      · cases h
    · cases h
  · cases h

theorem yl_iface (hC : COk C) (hρ : ERho φ ρ ev) {t : TypeId} {x : Operand} {v : Value} (h : pIface C ρ t x = some v) : Yl C.P ev (.makeInterface t x) w φ v := by
  unfold pIface at h
  split at h
  · rename_i i u ht hx
    have h1 := hρ x _ hx
    have hu := hC.run_und w ht
    split at h
    · cases h
    · rename_i hni
      simp only [Option.some.injEq] at h; subst h
      refine Yl.of' (Instr.makeInterface t (ev x)) ?_ (v' := .iface t (ev x)) ?_ (.iface t _ _ h1)
      · rintro ⟨dst, op, type, pos, after, guard⟩ ho; subst ho; rfl
      · simp only [Instr.makeInterface, Sem.run_bind, hu, Result.andThen_ok]
        rfl
  · cases h

theorem yl_func (hρ : ERho φ ρ ev) {fn : Fn} {first captured : Array Operand} {v : Value} (h : pFunc ρ fn first captured = some v) :
    Yl C.P ev (.makeFunc fn first captured) w φ v := by
  unfold pFunc at h
  split at h
  · rename_i f
    split at h
    · rename_i a b ha hb
      simp only [Option.some.injEq] at h; subst h
      refine Yl.of' (Instr.makeFunc (.func f) (first.map ev) (captured.map ev)) ?_ (v' := .func (.func f) (first.map ev) (captured.map ev)) rfl ?_
      · rintro ⟨dst, op, type, pos, after, guard⟩ ho; subst ho; rfl
      · have h1 := evL_rel hρ _ _ ha
        have h2 := evL_rel hρ _ _ hb
        have e1 : first.map ev = ⟨first.toList.map ev⟩ := by apply Array.ext'; simp
        have e2 : captured.map ev = ⟨captured.toList.map ev⟩ := by apply Array.ext'; simp
        rw [e1, e2]
        exact .func f _ _ _ _ h1 h2
    · cases h
  · cases h

theorem yl_extract (hρ : ERho φ ρ ev) {x : Operand} {i : Nat} {v : Value} (h : pExtract ρ x i = some v) : Yl C.P ev (.extract x i) w φ v := by
  unfold pExtract at h
  split at h
  · rename_i vs hx
    have h1 := hρ x _ hx
    generalize he : ev x = u at h1
    cases h1 with
    | tuple xs xs' hxs =>
      obtain ⟨v', h2, h3⟩ := hxs.get i v (by simpa using h)
      refine Yl.of' (Instr.extract (ev x) i) ?_ (v' := v') ?_ h3
      · rintro ⟨dst, op, type, pos, after, guard⟩ ho; subst ho; rfl
      · rw [he]
        simp [Instr.extract, h2]
  · cases h

theorem yl_assert (hC : COk C) (hρ : ERho φ ρ ev) {x : Operand} {t xt : TypeId} {ok : Bool} {v : Value} (h : pAssert C ρ x t ok = some v) : Yl C.P ev (.typeAssert x xt t ok) w φ v := by
  unfold pAssert at h
  split at h
  · rename_i u y i hx ht
    have h1 := hρ x _ hx
    have hu := hC.run_und w ht
    generalize he : ev x = z at h1
    cases h1 with
    | iface _ _ y' hy =>
      split at h
      · cases h
      · rename_i hni
        cases hb : Nat.beq u t
        · rw [hb] at h; cases h
        · rw [hb] at h; simp only [cond_true, Option.some.injEq] at h; subst h
          have hut := Nat.eq_of_beq_eq_true hb; subst hut
          refine Yl.of' (Instr.typeAssert (ev x) xt u ok) ?_ (v' := if ok then .tuple #[y', .bool true] else y') ?_ ?_
          · rintro ⟨dst, op, type, pos, after, guard⟩ ho; subst ho; rfl
          · rw [he]
            simp only [Instr.typeAssert, Sem.run_bind, hu, Result.andThen_ok]
            cases hiu : i.u <;> first | (exact absurd hiu (hni _)) | simp
          · cases ok
            · exact hy
            · exact .tuple [_, _] [_, _] (.cons _ _ _ _ hy (.cons _ _ _ _ (.bool true) .nil))
  · cases h

/-! building -/
theorem fold_set (ws ws' : List Value) {φ : Phi} (hw : VRels φ ws ws') : ∀ (k off : Nat) (cs cs' : Array Value), VRels φ cs.toList cs'.toList →
    VRels φ ((ws.zipIdx k).foldl (fun cs (c, j) => cs.setIfInBounds (off + j) c) cs).toList ((ws'.zipIdx k).foldl (fun cs (c, j) => cs.setIfInBounds (off + j) c) cs').toList := by
  induction hw using VRels.rec (motive_1 := fun _ _ _ => True) with
  | nil => intro k off cs cs' h; exact h
  | cons v v' l l' hv _ _ ih =>
    intro k off cs cs' h
    simp only [List.zipIdx_cons, List.foldl_cons]
    refine ih _ _ _ _ ?_
    rw [Array.toList_setIfInBounds, Array.toList_setIfInBounds]
    refine VRels.of (by simp [h.length]) ?_
    intro i x x' hx hx'
    rw [List.getElem?_set] at hx hx'
    split at hx
    · rename_i e
      split at hx
      · rw [if_pos e] at hx'
        split at hx'
        · cases hx; cases hx'; exact hv
        · cases hx'
      · cases hx
    · rename_i e
      rw [if_neg e] at hx'
      obtain ⟨y, hy, hr⟩ := h.get i x hx
      rw [hx'] at hy; cases hy; exact hr
  | _ => trivial


theorem fill_rel {φ : Phi} (place : Nat → Option (Nat × Nat)) : ∀ (parts : List (Nat × Value)) (parts' : List (Nat × Value)) (cs cs' r : Array Value),
    parts.map (·.1) = parts'.map (·.1) → VRels φ (parts.map (·.2)) (parts'.map (·.2)) → VRels φ cs.toList cs'.toList → Instr.fill place cs parts = some r →
    ∃ r', Instr.fill place cs' parts' = some r' ∧ VRels φ r.toList r'.toList
  | [], [], cs, cs', r, _, _, h, hf => by
    simp only [Instr.fill, Option.some.injEq] at hf; subst hf
    exact ⟨cs', rfl, h⟩
  | [], _ :: _, cs, cs', r, h1, _, _, _ => by simp at h1
  | _ :: _, [], cs, cs', r, h1, _, _, _ => by simp at h1
  | (i, v) :: ps, (i', v') :: ps', cs, cs', r, h1, h2, h, hf => by
    simp only [List.map_cons, List.cons.injEq] at h1 h2
    obtain ⟨rfl, h1⟩ := h1
    cases h2 with
    | cons _ _ _ _ hv h2 =>
      simp only [Instr.fill] at hf ⊢
      have hcl : v.cells.size = v'.cells.size := by simpa using hv.cells.length
      have hsz : cs.size = cs'.size := by simpa using h.length
      cases hp : place i with
      | none => rw [hp] at hf; cases hf
      | some pl =>
        rw [hp] at hf
        obtain ⟨off, size⟩ := pl
        dsimp only at hf ⊢
        rw [← hcl, ← hsz]
        split at hf
        · cases hf
        · rename_i hn
          rw [if_neg hn]
          refine fill_rel place ps ps' _ _ r h1 h2 ?_ hf
          have e : ∀ (u : Value) (zs : Array Value), u.cells.zipIdx.foldl (fun cs (c, j) => cs.setIfInBounds (off + j) c) zs =
              (u.cells.toList.zipIdx 0).foldl (fun cs (c, j) => cs.setIfInBounds (off + j) c) zs := by
            intro u zs
            rw [← Array.foldl_toList, Array.toList_zipIdx]
          rw [e, e]
          exact fold_set _ _ hv.cells 0 off cs cs' h

theorem evP_rel {φ : Phi} {ρ : Env} {ev : Operand → Value} (hρ : ERho φ ρ ev) : ∀ (xs : List (Nat × Operand)) (l : List (Nat × Value)), evP ρ xs = some l →
    l.map (·.1) = (xs.map fun (i, x) => (i, ev x)).map (·.1) ∧ VRels φ (l.map (·.2)) ((xs.map fun (i, x) => (i, ev x)).map (·.2))
  | [], l, h => by simp only [evP, Option.some.injEq] at h; subst h; exact ⟨rfl, .nil⟩
  | (i, x) :: xs, l, h => by
    simp only [evP] at h
    split at h
    · rename_i v hv
      split at h
      · rename_i t ht
        simp only [Option.some.injEq] at h; subst h
        obtain ⟨h1, h2⟩ := evP_rel hρ xs t ht
        exact ⟨by simpa using h1, .cons _ _ _ _ (hρ x v hv) h2⟩
      · cases h
    · cases h

theorem places_run {C : Ctx} (hC : COk C) (w : World) : ∀ (fs : List Field) (pl : List (Nat × Nat)), placesOf C fs = some pl →
    (fs.mapM (m := Sem) fun f => do pure (f.offset, ← Go.sizeOf f.type)).run C.P w = Result.ok pl w
  | [], pl, h => by simp only [placesOf, Option.some.injEq] at h; subst h; rfl
  | f :: fs, pl, h => by
    simp only [placesOf] at h
    split at h
    · rename_i j l hj hl
      simp only [Option.some.injEq] at h; subst h
      simp only [List.mapM_cons, Sem.run_bind, hC.run_size w hj, Result.andThen_ok, Sem.run_pure, places_run hC w fs l hl]
    · cases h

theorem yl_build (hC : COk C) (hρ : ERho φ ρ ev) {t : TypeId} {parts : Array (Nat × Operand)} {v : Value} (h : pBuild C ρ t parts = some v) : Yl C.P ev (.build t parts) w φ v := by
  unfold pBuild at h
  split at h
  · rename_i l hl
    obtain ⟨e1, e2⟩ := evP_rel hρ _ _ hl
    unfold buildV at h
    split at h
    · cases h
    · rename_i i hi
      have hu := hC.run_und w hi
      split at h
      · cases h
      · rename_i z hz
        have hzr := hC.run_zero w hi hz
        have hzz := hC.zero_rel hi hz (φ := φ)
        have ep : (parts.map fun (i, x) => (i, ev x)).toList = parts.toList.map fun (i, x) => (i, ev x) := by simp
        split at h
        · rename_i fs hfs
          rw [hfs] at hu
          split at h
          · rename_i pl hpl
            split at h
            · rename_i cs hcs
              simp only [Option.some.injEq] at h; subst h
              obtain ⟨cs', h3, h4⟩ := fill_rel _ l _ z.cells z.cells cs e1 e2 hzz hcs
              refine Yl.of' (Instr.build t (parts.map fun (i, x) => (i, ev x))) ?_ (v' := .agg cs') ?_ (by exact .agg cs.toList cs'.toList h4)
              · rintro ⟨dst, op, type, pos, after, guard⟩ ho; subst ho; rfl
              · have hp := places_run hC w fs.toList pl hpl
                simp only [Instr.build, Sem.run_bind, hzr, hu, Result.andThen_ok]
                rw [Array.mapM_eq_mapM_toList, Sem.run_map, hp]
                simp only [Result.andThen_ok]
                rw [ep]
                have : (fun (x : Nat) => ((pl.toArray)[x]? : Option (Nat × Nat))) = fun (n : Nat) => (pl[n]? : Option (Nat × Nat)) := by funext n; simp
                rw [this, h3]
                rfl
            · cases h
          · cases h
        · rename_i n e hn
          rw [hn] at hu
          split at h
          · rename_i j hj
            split at h
            · rename_i cs hcs
              simp only [Option.some.injEq] at h; subst h
              obtain ⟨cs', h3, h4⟩ := fill_rel _ l _ z.cells z.cells cs e1 e2 hzz hcs
              refine Yl.of' (Instr.build t (parts.map fun (i, x) => (i, ev x))) ?_ (v' := .agg cs') ?_ (by exact .agg cs.toList cs'.toList h4)
              · rintro ⟨dst, op, type, pos, after, guard⟩ ho; subst ho; rfl
              · simp only [Instr.build, Sem.run_bind, hzr, hu, Result.andThen_ok, hC.run_size w hj]
                rw [ep, h3]
                rfl
            · cases h
          · cases h
        · cases h
  · cases h

theorem yl_arr (hC : COk C) (hρ : ERho φ ρ ev) {t : TypeId} {x : Operand} {v : Value} (h : pArr C ρ t x = some v) : Yl C.P ev (.sliceToArrayPointer t x) w φ v := by
  unfold pArr at h
  split at h
  · rename_i i a len cap ht hx
    have h1 := hρ x _ hx
    have hu := hC.run_und w ht
    split at h
    · rename_i n e hn
      rw [hn] at hu
      cases hb : (Nat.blt len n || a.spot.isSome)
      · rw [hb] at h; simp only [cond_false, Option.some.injEq] at h; subst h
        simp only [Bool.or_eq_false_iff] at hb
        obtain ⟨hb, hsp⟩ := hb
        have hlt : ¬ len < n := fun e => by rw [blt_of e] at hb; cases hb
        generalize he : ev x = u at h1
        cases h1 with
        | emp _ _ => cases hsp
        | slc b off _ _ l hl =>
          refine Yl.of' (Instr.arrayAt t (ev x)) ?_ (v' := .pointer (some ⟨l.c, l.d + off, none⟩)) ?_ (.ptr b off l hl)
          · rintro ⟨dst, op, type, pos, after, guard⟩ ho; subst ho; rfl
          · rw [he]
            simp only [Instr.arrayAt, Sem.run_bind, hu, Result.andThen_ok, if_neg hlt, Sem.run_pure]
        | opn b off _ c sz l hl =>
          refine Yl.of' (Instr.arrayAt t (ev x)) ?_ (v' := .pointer (some ⟨l.c, l.d + off, none⟩)) ?_ (.ptr b off l hl)
          · rintro ⟨dst, op, type, pos, after, guard⟩ ho; subst ho; rfl
          · rw [he]
            simp only [Instr.arrayAt, Sem.run_bind, hu, Result.andThen_ok, if_neg hlt, Sem.run_pure]
      · rw [hb] at h; cases h
    · cases h
  · cases h

theorem fold_min {P : Program} : ∀ (l l' : List Value) (a v : Value), foldV minV a l = some v → VRels φ l l' → ∀ a', VRel φ a a' → ∃ v', (l'.foldlM (m := Sem) Builtin.min2 a').run P w = Result.ok v' w ∧ VRel φ v v'
  | [], _, a, v, h, hl, a', ha => by
    cases hl
    simp only [foldV, Option.some.injEq] at h; subst h
    exact ⟨a', rfl, ha⟩
  | b :: l, _, a, v, h, hl, a', ha => by
    cases hl with
    | cons _ b' _ l' hb hl =>
      simp only [foldV] at h
      split at h
      · rename_i u hu
        unfold minV at hu
        split at hu
        · rename_i k x k' y
          cases ha; cases hb
          simp only [Option.some.injEq] at hu; subst hu
          obtain ⟨v', h1, h2⟩ := fold_min l l' _ v h hl _ (.int _ _)
          refine ⟨v', ?_, h2⟩
          simp only [List.foldlM_cons, Builtin.min2, Sem.run_bind, Sem.run_pure, Result.andThen_ok]
          exact h1
        · cases hu
      · cases h
theorem fold_max {P : Program} : ∀ (l l' : List Value) (a v : Value), foldV maxV a l = some v → VRels φ l l' → ∀ a', VRel φ a a' → ∃ v', (l'.foldlM (m := Sem) Builtin.max2 a').run P w = Result.ok v' w ∧ VRel φ v v'
  | [], _, a, v, h, hl, a', ha => by
    cases hl
    simp only [foldV, Option.some.injEq] at h; subst h
    exact ⟨a', rfl, ha⟩
  | b :: l, _, a, v, h, hl, a', ha => by
    cases hl with
    | cons _ b' _ l' hb hl =>
      simp only [foldV] at h
      split at h
      · rename_i u hu
        unfold maxV at hu
        split at hu
        · rename_i k x k' y
          cases ha; cases hb
          simp only [Option.some.injEq] at hu; subst hu
          obtain ⟨v', h1, h2⟩ := fold_max l l' _ v h hl _ (.int _ _)
          refine ⟨v', ?_, h2⟩
          simp only [List.foldlM_cons, Builtin.max2, Sem.run_bind, Sem.run_pure, Result.andThen_ok]
          exact h1
        · cases hu
      · cases h

/-- a builtin by its run -/
theorem Yl.builtin {b : Builtin} {c : Call} (hc : c.callee = .builtin b) (s : Sem Value)
    (hb : ∀ ty cs, builtin b c.argTypes ty cs (c.args.map ev) = (do pure (.value (← s)))) {v v' : Value} {P : Program} (hs : s.run P w = Result.ok v' w) (hv : VRel φ v v') : Yl P ev (.call c) w φ v := by
  refine Yl.of' s ?_ hs hv
  rintro ⟨dst, op, type, pos, after, guard⟩ ho; subst ho
  simp only [execOp, resolve, hc, pure_bind, invoke]
  exact hb _ _

omit [Syms] in
theorem sliceData_some (ts : Array TypeId) (ty : TypeId) (a : Addr) (n c : Nat) (h : c ≠ 0) :
    Builtin.unsafeSliceData_ ts ty #[.slice (some a) n c] = pure (.pointer (some a)) := by
  show (if c ≠ 0 then _ else _) = _
  rw [if_pos h]

theorem yl_call (hC : COk C) (hρ : ERho φ ρ ev) {c : Call} {v : Value} (h : pCall C ρ c = some v) : Yl C.P ev (.call c) w φ v := by
  have em : (c.args.map ev).toList = c.args.toList.map ev := by simp
  unfold pCall at h
  split at h
  · rename_i hc
    split at h
    · rename_i a l hl
      have h1 := evL_rel hρ _ _ hl
      generalize hg : c.args.toList.map ev = gl at h1
      cases h1 with
      | cons _ a' _ l' ha hl' =>
        obtain ⟨v', h2, h3⟩ := fold_min w (P := C.P) l l' a v h hl' a' ha
        refine Yl.builtin w hc (Builtin.min_ c.argTypes 0 (c.args.map ev)) (fun _ _ => rfl) (v' := v') ?_ h3
        unfold Builtin.min_
        rw [em, hg]
        exact h2
    · cases h
  · rename_i hc
    split at h
    · rename_i a l hl
      have h1 := evL_rel hρ _ _ hl
      generalize hg : c.args.toList.map ev = gl at h1
      cases h1 with
      | cons _ a' _ l' ha hl' =>
        obtain ⟨v', h2, h3⟩ := fold_max w (P := C.P) l l' a v h hl' a' ha
        refine Yl.builtin w hc (Builtin.max_ c.argTypes 0 (c.args.map ev)) (fun _ _ => rfl) (v' := v') ?_ h3
        unfold Builtin.max_
        rw [em, hg]
        exact h2
    · cases h
  · rename_i hc
    split at h
    · rename_i x t hx ht
      split at h
      · rename_i i b n cap hi hxv
        split at h
        · rename_i e hiu
          cases ho : Nat.ble OPEN cap
          · rw [ho] at h; simp only [cond_false, Option.some.injEq] at h; subst h
            have h1 := hρ x _ hxv
            have hu := hC.run_und w hi
            rw [hiu] at hu
            have hargs : c.args.map ev = #[ev x] := by apply Array.ext'; rw [em, hx]; rfl
            refine Yl.builtin w hc (Builtin.cap_ c.argTypes 0 (c.args.map ev)) (fun _ _ => rfl) (v' := .int .i64 cap) ?_ (.int _ _)
            unfold Builtin.cap_
            rw [hargs]
            generalize he : ev x = u at h1
            cases h1 <;> first | (exact absurd (Nat.ble_eq_true_of_le (Nat.le_refl OPEN)) (by rw [ho]; simp)) | (exact absurd (Nat.ble_eq_true_of_le (Nat.le_add_right OPEN _)) (by rw [ho]; simp)) | (simp [ht, hu, goInt])
          · rw [ho] at h; cases h
        · cases h
      · cases h
    · cases h
  · rename_i hc
    split at h
    · rename_i n cap hl
      simp only [Option.some.injEq] at h; subst h
      have h1 := evL_rel hρ _ _ hl
      generalize hg : c.args.toList.map ev = gl at h1
      cases h1 with
      | cons _ a' _ l' ha hl' =>
        cases hl'; cases ha
        have hargs : c.args.map ev = #[.slice none 0 0] := by apply Array.ext'; rw [em, hg]
        refine Yl.builtin w hc (Builtin.unsafeSliceData_ c.argTypes 0 (c.args.map ev)) (fun _ _ => ?_) (v' := .pointer none) ?_ .pnil
        · rw [hargs]; rfl
        · rw [hargs]; rfl
    · rename_i a len cap hl
      cases ho : ((Nat.ble OPEN cap && Nat.beq len 0) || Nat.beq cap 0)
      · rw [ho] at h; simp only [cond_false, Option.some.injEq] at h; subst h
        simp only [Bool.or_eq_false_iff] at ho
        have h1 := evL_rel hρ _ _ hl
        generalize hg : c.args.toList.map ev = gl at h1
        cases h1 with
        | cons _ a' _ l' ha hl' =>
          cases hl'
          cases ha with
          | emp _ _ => exact absurd (Nat.ble_eq_true_of_le (Nat.le_refl OPEN)) (by simp at ho; rw [ho.1]; simp)
          | slc b off _ _ l hloc hcc =>
            have hargs : c.args.map ev = #[.slice (some ⟨l.c, l.d + off, none⟩) len cap] := by apply Array.ext'; rw [em, hg]
            have hne : cap ≠ 0 := by rintro rfl; simp at ho
            refine Yl.of' (pure (.pointer (some ⟨l.c, l.d + off, none⟩))) ?_ (v' := .pointer (some ⟨l.c, l.d + off, none⟩)) rfl (.ptr b off l hloc)
            rintro ⟨dst, op, type, pos, after, guard⟩ ho; subst ho
            simp only [execOp, resolve, hc, pure_bind, invoke, hargs, builtin, sliceData_some _ _ _ _ _ hne]
          | opn b off _ c' sz l hloc hn hcc =>
            have hargs : c.args.map ev = #[.slice (some ⟨l.c, l.d + off, none⟩) len c'] := by apply Array.ext'; rw [em, hg]
            have hne : c' ≠ 0 := by
              rintro rfl
              have : len = 0 := by omega
              subst this
              have := Nat.ble_eq_true_of_le (Nat.le_add_right OPEN sz)
              rw [this] at ho; simp at ho
            refine Yl.of' (pure (.pointer (some ⟨l.c, l.d + off, none⟩))) ?_ (v' := .pointer (some ⟨l.c, l.d + off, none⟩)) rfl (.ptr b off l hloc)
            rintro ⟨dst, op, type, pos, after, guard⟩ ho; subst ho
            simp only [execOp, resolve, hc, pure_bind, invoke, hargs, builtin, sliceData_some _ _ _ _ _ hne]
      · rw [ho] at h; cases h
    · cases h
  · cases h

theorem opP_sound (hC : COk C) (hρ : ERho φ ρ ev) {o : Op} {v : Value} (h : opP C ρ o = some v) : Yl C.P ev o w φ v := by
  cases o with
  | move x => exact yl_move w hρ h
  | assign x => exact yl_assign w hρ h
  | pick c a b => exact yl_pick w hρ h
  | binOp op t x y ty => exact yl_bin w hC hρ h
  | unOp op t x => exact yl_un w hρ h
  | convert s d x => exact yl_conv w hC hρ h
  | nilCheck x => exact yl_nil w hρ h
  | fieldAddr s x f => exact yl_fieldAddr w hC hρ h
  | field s x f => exact yl_field w hC hρ h
  | indexAddr t x i => exact yl_indexAddr w hC hρ h
  | index t x i => exact yl_index w hC hρ h
  | slice t x lo hi mx => exact yl_slice w hC hρ h
  | makeInterface t x => exact yl_iface w hC hρ h
  | makeFunc fn a b => exact yl_func w hρ h
  | extract x i => exact yl_extract w hρ h
  | typeAssert x xt t ok => exact yl_assert w hC hρ h
  | build t parts => exact yl_build w hC hρ h
  | sliceToArrayPointer t x => exact yl_arr w hC hρ h
  | call c => exact yl_call w hC hρ h
  | _ => cases h
end
end Go.AM
namespace Go.AM
open Go
variable [Syms]

section
variable {C : Ctx} {φ : Phi} {ρ : Env} {ev : Operand → Value} {H : Heap} (w : World)

theorem loadV_sound (hC : COk C) (hH : HRel C φ H w) {t : TypeId} {a a' v : Value} (h : loadV C H t a = some v) (ha : VRel φ a a') :
    ∃ v', (Instr.loadAt t a').run C.P w = Result.ok v' w ∧ VRel φ v v' := by
  unfold loadV at h
  split at h
  · rename_i b off
    split at h
    · rename_i d ht
      cases ha with
      | ptr _ _ l hl =>
        simp only [Instr.loadAt, Instr.sureAddr, pure_bind, loadVar, Sem.run_bind, hC.run_agg w ht, Result.andThen_ok]
        cases hag : d.agg
        · rw [hag] at h; simp only [cond_false] at h
          obtain ⟨v', h1, h2⟩ := hH.cell hl h
          refine ⟨v', ?_, h2⟩
          simp only [Bool.false_eq_true, if_false, load, Sem.run, h1]
        · rw [hag] at h; simp only [cond_true] at h
          split at h
          · rename_i vs hvs
            simp only [Option.some.injEq] at h; subst h
            obtain ⟨vs', h1, h2⟩ := hH.run_cells C.P hl hvs
            refine ⟨.agg vs', ?_, ?_⟩
            · simp only [if_true, Sem.run_bind, hC.run_size w ht, Result.andThen_ok, h2, Sem.run_pure]
            · exact .agg vs vs'.toList h1
          · cases h
    · cases h
  · cases h

theorem yl_load (hC : COk C) (hρ : ERho φ ρ ev) (hH : HRel C φ H w) {t : TypeId} {a : Operand} {v : Value} (h : rLoad C ρ H t a = some v) : Yl C.P ev (.load t a) w φ v := by
  unfold rLoad at h
  split at h
  · rename_i x hx
    obtain ⟨v', h1, h2⟩ := loadV_sound w hC hH h (hρ a x hx)
    refine Yl.of' _ ?_ h1 h2
    rintro ⟨dst, op, type, pos, after, guard⟩ ho; subst ho; rfl
  · cases h

/-! maps -/
theorem HRel.mapAt {C : Ctx} {φ : Phi} {H : Heap} {w : World} (h : HRel C φ H w) {r : Nat} {l : Loc} (hl : φ r = some l) {es : List (Value × Value × Nat)} {clock : Nat} (hb : H.blk r = some (.map es clock)) :
    ∃ es', w.heap[l.c]? = some (.map ⟨es'⟩ clock) ∧ ERel φ es es' := by
  have := h.blk r l _ hl hb
  generalize hg : w.heap[l.c]? = g at this
  cases this with
  | map _ es' _ he => exact ⟨es', rfl, he⟩

end

omit [Syms] in
theorem run_getMap {P : Program} {w : World} {c : Nat} {o : Obj} (h : w.heap[c]? = some o) (ho : ∀ a b d, o ≠ .cells a b d) : (getObj c).run P w = Result.ok o w := by
  cases o with
  | cells a b d => exact absurd rfl (ho a b d)
  | _ => simp [getObj, Sem.run, h]

theorem ERel.length {φ : Phi} : ∀ {l l'}, ERel φ l l' → l.length = l'.length
  | _, _, .nil => rfl
  | _, _, .cons _ _ _ _ _ _ _ _ _ h => by simp [ERel.length h]

/-- the entry of a key -/
def found (φ : Phi) (es' : List MapEntry) (i0 : Nat) (r r' : Option (Nat × Value)) : Prop :=
  match r, r' with
  | none, none => True
  | some (i, v), some (i', v') => i = i' ∧ i0 ≤ i ∧ (∃ e, es'[i - i0]? = some e ∧ e.val = v') ∧ VRel φ v v'
  | _, _ => False

theorem found_cons {φ : Phi} {es' : List MapEntry} {e : MapEntry} {i0 : Nat} {r r' : Option (Nat × Value)} (h : found φ es' (i0 + 1) r r') : found φ (e :: es') i0 r r' := by
  unfold found at *
  split at h
  · trivial
  · obtain ⟨h1, h2, ⟨e', h3, h4⟩, h5⟩ := h
    refine ⟨h1, by omega, ⟨e', ?_, h4⟩, h5⟩
    rename_i i _ _ _
    obtain ⟨k, hk⟩ : ∃ k, i - i0 = k + 1 := ⟨i - (i0 + 1), by omega⟩
    rw [hk, List.getElem?_cons_succ, ← h3]
    congr 1; omega
  · exact h

theorem find_plain {φ : Phi} (d : TypeDesc) (k k' : Value) (eq : Value → Option Bool)
    (hq : ∀ x x' b, eq x = some b → VRel φ x x' → Instr.sameNow d k' x' = some b) :
    ∀ (es : List (Value × Value × Nat)) (es' : List MapEntry) (i : Nat) (r : Option (Nat × Value)), ERel φ es es' → findK eq es i = some r →
      ∃ r', Instr.findNow d k' es' i = some r' ∧ found φ es' i r r'
  | _, _, i, r, .nil, h => by
    simp only [findK, Option.some.injEq] at h; subst h
    exact ⟨none, rfl, trivial⟩
  | _, _, i, r, .cons kk v b kk' v' l l' hk hv hl, h => by
    simp only [findK] at h
    split at h
    · rename_i he
      simp only [Option.some.injEq] at h; subst h
      refine ⟨some (i, v'), ?_, ?_⟩
      · simp only [Instr.findNow, hq _ _ _ he hk]
      · exact ⟨rfl, Nat.le_refl _, ⟨⟨kk', v', b⟩, by simp, rfl⟩, hv⟩
    · rename_i he
      obtain ⟨r', h1, h2⟩ := find_plain d k k' eq hq l l' (i + 1) r hl h
      exact ⟨r', by simp only [Instr.findNow, hq _ _ _ he hk]; exact h1, found_cons h2⟩
    · cases h

theorem find_asking {φ : Phi} {P : Program} (t : TypeId) (k k' : Value) (eq : Value → Option Bool) (w : World)
    (hq : ∀ x x' b, eq x = some b → VRel φ x x' → (Op.equal t k' x').run P w = Result.ok b w) :
    ∀ (es : List (Value × Value × Nat)) (es' : List MapEntry) (i : Nat) (r : Option (Nat × Value)), ERel φ es es' → findK eq es i = some r →
      ∃ r', (Instr.findAsking t k' es' i).run P w = Result.ok r' w ∧ found φ es' i r r'
  | _, _, i, r, .nil, h => by
    simp only [findK, Option.some.injEq] at h; subst h
    exact ⟨none, rfl, trivial⟩
  | _, _, i, r, .cons kk v b kk' v' l l' hk hv hl, h => by
    simp only [findK] at h
    split at h
    · rename_i he
      simp only [Option.some.injEq] at h; subst h
      refine ⟨some (i, v'), ?_, ?_⟩
      · simp only [Instr.findAsking, Sem.run_bind, hq _ _ _ he hk, Result.andThen_ok, if_true, Sem.run_pure]
      · exact ⟨rfl, Nat.le_refl _, ⟨⟨kk', v', b⟩, by simp, rfl⟩, hv⟩
    · rename_i he
      obtain ⟨r', h1, h2⟩ := find_asking t k k' eq w hq l l' (i + 1) r hl h
      refine ⟨r', ?_, found_cons h2⟩
      simp only [Instr.findAsking, Sem.run_bind, hq _ _ _ he hk, Result.andThen_ok, Bool.false_eq_true, if_false]
      exact h1
    · cases h

def checkFields (empty : Bool) (n : Nat) (cs : Array Value) : List Field → Sem Unit
  | [] => pure ()
  | f :: fs => if f.name ≠ "_" then do
      let v ← part f.type cs f.offset
      Instr.checkKey empty n f.type v
      checkFields empty n cs fs
    else checkFields empty n cs fs

omit [Syms] in
theorem run_checkStruct {P : Program} (w : World) (empty : Bool) (n : Nat) (t : TypeId) (fs : Array Field) (cs : Array Value) (ht : P.underlying t = some (.struct fs)) :
    (Instr.checkKey empty (n + 1) t (.agg cs)).run P w = (checkFields empty n cs fs.toList).run P w := by
  simp only [Instr.checkKey, Sem.run_bind, run_underlying ht, Result.andThen_ok]
  rw [← Array.forIn_toList]
  generalize fs.toList = l
  clear ht
  induction l generalizing w with
  | nil => simp [checkFields]
  | cons f l ih =>
    simp only [List.forIn_cons, checkFields, Sem.run_bind, Sem.run_ite]
    split
    · generalize (part f.type cs f.offset).run P w = r1
      cases r1 with
      | ok a w1 =>
        simp only [Result.andThen_ok]
        generalize (Instr.checkKey empty n f.type a).run P w1 = r2
        cases r2 with
        | ok b w2 =>
          simp only [Result.andThen_ok, Sem.run_pure]
          exact ih w2
        | halt x w2 => simp [Result.andThen]
      | halt x w1 => simp [Result.andThen]
    · simp only [Sem.run_pure, Result.andThen_ok]
      exact ih w

theorem chkF_sound {C : Ctx} (hC : COk C) {φ : Phi} (D : Nat) (chk : TypeId → Value → Bool) (w : World) (empty : Bool)
    (hq : ∀ t v v', chk t v = true → VRel φ v v' → (Instr.checkKey empty D t v').run C.P w = Result.ok () w) {cs cs' : Array Value} (hx : VRels φ cs.toList cs'.toList) :
    ∀ fs, chkF C chk cs fs = true → (checkFields empty D cs' fs).run C.P w = Result.ok () w := by
  intro fs
  induction fs with
  | nil => intro _; rfl
  | cons f fs ih =>
    intro h
    simp only [chkF, Bool.and_eq_true, Bool.not_eq_true'] at h
    obtain ⟨⟨hn, hm⟩, hr⟩ := h
    have hne : f.name ≠ "_" := by simpa using hn
    split at hm
    · rename_i i hi
      split at hm
      · rename_i v hv
        obtain ⟨v', h1, h2⟩ := partV_rel hx hv
        simp only [checkFields, if_pos hne, Sem.run_bind, run_part hC hi w h1, Result.andThen_ok, hq _ _ _ hm h2]
        exact ih hr
      · cases hm
    · cases hm

theorem chkV_sound {C : Ctx} (hC : COk C) {φ : Phi} (w : World) (empty : Bool) : ∀ (d D : Nat), d ≤ D → ∀ t v v', chkV C d t v = true → VRel φ v v' → (Instr.checkKey empty D t v').run C.P w = Result.ok () w := by
  intro d
  induction d with
  | zero => intro D _ t v v' h; simp [chkV] at h
  | succ d ih =>
    intro D hD t v v' h hv
    obtain ⟨D, rfl⟩ : ∃ m, D = m + 1 := ⟨D - 1, by omega⟩
    unfold chkV at h
    split at h
    · cases h
    · rename_i i hi
      have hu := hC.und hi
      have hru := hC.run_und w hi
      split at h
      · rename_i hiu; rw [hiu] at hru
        simp only [Instr.checkKey, Sem.run_bind, hru, Result.andThen_ok]; rfl
      · rename_i hiu; rw [hiu] at hru
        simp only [Instr.checkKey, Sem.run_bind, hru, Result.andThen_ok]; rfl
      · rename_i hiu; rw [hiu] at hru
        simp only [Instr.checkKey, Sem.run_bind, hru, Result.andThen_ok]; rfl
      · rename_i fs cs hiu
        rw [hiu] at hu
        cases hv with
        | agg xs xs' hx =>
          rw [run_checkStruct w empty D t fs _ hu]
          exact chkF_sound hC D _ w empty (fun t v v' => ih D (by omega) t v v') hx _ h
      · cases h

theorem lookK_sound {C : Ctx} (hC : COk C) {φ : Phi} (w : World) {t : TypeId} {k k' : Value} {es : List (Value × Value × Nat)} {es' : List MapEntry} {r : Option (Nat × Value)}
    (h : lookK C t k es = some r) (hk : VRel φ k k') (he : ERel φ es es') :
    (∀ e, (Instr.checkKey e 10000 t k').run C.P w = Result.ok () w) ∧ ∃ r', (Instr.findKey t k' es').run C.P w = Result.ok r' w ∧ found φ es' 0 r r' := by
  unfold lookK at h
  split at h
  · rename_i i hi
    cases hc : chkV C 12 t k
    · rw [hc] at h; cases h
    · rw [hc] at h; simp only [cond_true] at h
      refine ⟨fun e => chkV_sound hC w e 12 10000 (by decide) t k k' hc hk, ?_⟩
      have hru := hC.run_und w hi
      by_cases hst : ∃ fs, i.u = .struct fs
      · obtain ⟨fs, hfs⟩ := hst
        have hq : ∀ x x' b, keyEq C t i.u k x = some b → VRel φ x x' → (Op.equal t k' x').run C.P w = Result.ok b w := by
          intro x x' b hb hx
          rw [hfs] at hb
          exact eqV_sound hC 12 Op.maxDepth (by decide) t k x k' x' b (by simpa [keyEq] using hb) hk hx w
        obtain ⟨r', h1, h2⟩ := find_asking t k k' _ w hq es es' 0 r he h
        cases he with
        | nil =>
          simp only [findK, Option.some.injEq] at h; subst h
          refine ⟨none, ?_, trivial⟩
          simp only [Instr.findKey, Sem.run_bind, hru, Result.andThen_ok]
          rfl
        | cons kk v b kk' v' l l' hkk hv hl =>
          refine ⟨r', ?_, h2⟩
          simp only [Instr.findKey, Sem.run_bind, hru, Result.andThen_ok, hfs]
          have : Instr.findNow (.struct fs) k' (⟨kk', v', b⟩ :: l') 0 = none := by
            simp only [Instr.findNow, Instr.sameNow]
          rw [this]
          exact h1
      · have hq : ∀ x x' b, keyEq C t i.u k x = some b → VRel φ x x' → Instr.sameNow i.u k' x' = some b := by
          intro x x' b hb hx
          unfold keyEq at hb
          split at hb
          · rename_i hiu
            cases hk; cases hx
            split at hb
            · rename_i e; subst e
              rw [hiu]
              simpa [Instr.sameNow] using hb
            · cases hb
          · rename_i hiu
            cases hk; cases hx
            rw [hiu]; simpa [Instr.sameNow] using hb
          · rename_i hiu
            cases hk; cases hx
            rw [hiu]; simpa [Instr.sameNow] using hb
          · rename_i hiu; exact absurd ⟨_, hiu⟩ hst
          · cases hb
        obtain ⟨r', h1, h2⟩ := find_plain i.u k k' _ hq es es' 0 r he h
        refine ⟨r', ?_, h2⟩
        simp only [Instr.findKey, Sem.run_bind, hru, Result.andThen_ok, h1]
        rfl
  · cases h

def lookTail (kt et : TypeId) (k : Value) (ok : Bool) (es : Array MapEntry) : Sem Value := do
  Instr.checkKey es.isEmpty 10000 kt k
  let (v, okk) ← match ← Instr.findKey kt k es.toList with
    | some (_, v) => pure (v, true)
    | none => pure (← zeroValue et, false)
  pure (if ok then .tuple #[v, .bool okk] else v)

theorem yl_lookup {C : Ctx} {φ : Phi} {ρ : Env} {ev : Operand → Value} {H : Heap} (w : World) (hC : COk C) (hρ : ERho φ ρ ev) (hH : HRel C φ H w) {t : TypeId} {x i : Operand} {ok : Bool} {v : Value}
    (h : rLookup C ρ H t x i ok = some v) : Yl C.P ev (.lookup t x i ok) w φ v := by
  unfold rLookup at h
  split at h
  · rename_i d m k ht hx hi
    have h1 := hρ x _ hx
    have h2 := hρ i _ hi
    have hu := hC.run_und w ht
    split at h
    · rename_i kt et hd
      rw [hd] at hu
      dsimp only at h
      split at h
      · rename_i es e hes he
        have hm : ∃ es' : List MapEntry, ERel φ es es' ∧ (Instr.lookup t (ev x) (ev i) ok).run C.P w = (lookTail kt et (ev i) ok ⟨es'⟩).run C.P w := by
          generalize hxx : ev x = u at h1
          cases h1 with
          | mnil =>
            simp only [Option.some.injEq] at hes; subst hes
            refine ⟨[], .nil, ?_⟩
            simp only [Instr.lookup, lookTail, Sem.run_bind, hu, Result.andThen_ok, Sem.run_pure]
            rfl
          | map r l hl =>
            dsimp only at hes
            split at hes
            · rename_i es0 clock hb
              simp only [Option.some.injEq] at hes; subst hes
              obtain ⟨es', h3, h4⟩ := hH.mapAt hl hb
              refine ⟨es', h4, ?_⟩
              simp only [Instr.lookup, lookTail, Sem.run_bind, hu, Result.andThen_ok, Sem.run_pure, run_getMap h3 (by intros; simp)]
              try rfl
            · cases hes
        obtain ⟨es', her, hm⟩ := hm
        have hexec : ∀ o : Oper, o.op = .lookup t x i ok → execOp ev o = (do pure (.value (← Instr.lookup t (ev x) (ev i) ok))) := by
          rintro ⟨dst, op, type, pos, after, guard⟩ ho; subst ho; rfl
        split at h
        · rename_i r n v0 hk
          simp only [Option.some.injEq] at h
          obtain ⟨hc, r', hf, hfd⟩ := lookK_sound hC w hk h2 her
          cases r' with
          | none => exact hfd.elim
          | some p =>
            obtain ⟨n', v'⟩ := p
            obtain ⟨_, _, _, hv⟩ := hfd
            refine Yl.of' _ hexec (v' := if ok then .tuple #[v', .bool true] else v') ?_ ?_
            · rw [hm]
              simp only [lookTail, Sem.run_bind, hc, Result.andThen_ok, hf, Sem.run_pure]
            · subst h
              cases ok
              · exact hv
              · exact .tuple [_, _] [_, _] (.cons _ _ _ _ hv (.cons _ _ _ _ (.bool true) .nil))
        · rename_i r z hk hz
          simp only [Option.some.injEq] at h
          obtain ⟨hc, r', hf, hfd⟩ := lookK_sound hC w hk h2 her
          cases r' with
          | some p => exact hfd.elim
          | none =>
            have hzz := hC.zero_rel he hz (φ := φ)
            refine Yl.of' _ hexec (v' := if ok then .tuple #[z, .bool false] else z) ?_ ?_
            · rw [hm]
              simp only [lookTail, Sem.run_bind, hc, Result.andThen_ok, hf, hC.run_zero w he hz, Sem.run_pure]
            · subst h
              have hzr : VRel φ z z := by
                obtain ⟨_, _, _, _, h5, _⟩ := TI.of_spec (hC.ty _ _ he)
                have h6 := (h5 z hz).2
                cases z with
                | agg cs => exact .agg cs.toList cs.toList (by simpa [Value.cells] using hzz)
                | _ => exact flat_rel (by simpa [Value.cells] using h6)
              cases ok
              · exact hzr
              · exact .tuple [_, _] [_, _] (.cons _ _ _ _ hzr (.cons _ _ _ _ (.bool false) .nil))
        · cases h
      · cases h
    · cases h
  · cases h

section
variable {C : Ctx} {φ : Phi} {ρ : Env} {ev : Operand → Value} {H : Heap} (w : World)

theorem HRel.iterAt {w : World} (h : HRel C φ H w) {r : Nat} {l : Loc} (hl : φ r = some l) {m : Nat} {since last : Nat} {seen : List Nat} (hb : H.blk r = some (.iter (some m) since seen last)) :
    ∃ lm, φ m = some lm ∧ w.heap[l.c]? = some (.mapIter (some lm.c) since ⟨seen⟩ last) ∧ l.d = 0 := by
  have := h.blk r l _ hl hb
  generalize hg : w.heap[l.c]? = g at this
  cases this with
  | iter _ lm _ _ _ hm hd => exact ⟨lm, hm, rfl, hd⟩

theorem ERel.find {φ : Phi} (b : Nat) : ∀ {es : List (Value × Value × Nat)} {es' : List MapEntry}, ERel φ es es' → ∀ {e}, es.find? (fun e => Nat.beq e.2.2 b) = some e →
    ∃ e', es'.find? (fun e => e.born == b) = some e' ∧ VRel φ e.1 e'.key ∧ VRel φ e.2.1 e'.val
  | _, _, .nil, e, h => by simp at h
  | _, _, .cons k v bb k' v' l l' hk hv hl, e, h => by
    rw [List.find?_cons] at h
    cases hb : Nat.beq bb b
    · have hne : (bb == b) = false := by
        have : bb ≠ b := by rintro rfl; simp at hb
        simpa using this
      simp only [hb] at h
      obtain ⟨e', h1, h2⟩ := ERel.find b hl h
      exact ⟨e', by rw [List.find?_cons]; simp only [hne]; exact h1, h2⟩
    · simp only [hb, Option.some.injEq] at h; subst h
      have := Nat.eq_of_beq_eq_true hb; subst this
      exact ⟨⟨k', v', bb⟩, by simp, hk, hv⟩

theorem yl_entry (hρ : ERho φ ρ ev) (hH : HRel C φ H w) {it : Operand} {v : Value} (h : rEntry ρ H it = some v) : Yl C.P ev (.entry it) w φ v := by
  unfold rEntry at h
  split at h
  · rename_i r hit
    have h1 := hρ it _ hit
    split at h
    · rename_i m since seen last hb
      split at h
      · rename_i b es clock hs hm
        cases hc : Nat.beq clock last
        · rw [hc] at h; cases h
        · rw [hc] at h; simp only [cond_true] at h
          have := Nat.eq_of_beq_eq_true hc; subst this
          split at h
          · rename_i e hf
            simp only [Option.some.injEq] at h; subst h
            generalize he : ev it = u at h1
            cases h1 with
            | ptr _ _ l hl =>
              obtain ⟨lm, hlm, hw, hd⟩ := hH.iterAt hl hb
              obtain ⟨es', hw2, her⟩ := hH.mapAt hlm hm
              obtain ⟨e', h3, h4, h5⟩ := her.find b hf
              refine Yl.of' (Instr.entry (ev it)) ?_ (v' := .tuple #[e'.key, e'.val]) ?_ (.tuple [_, _] [_, _] (.cons _ _ _ _ h4 (.cons _ _ _ _ h5 .nil)))
              · rintro ⟨dst, op, type, pos, after, guard⟩ ho; subst ho; rfl
              · rw [he, hd]
                have hback : (⟨seen⟩ : Array Nat).back? = some b := by
                  rw [← hs]; simp [Array.back?, List.getLast?_eq_getElem?]
                simp only [Instr.entry, Nat.add_zero, Sem.run_bind, run_getMap hw (by intros; simp), Result.andThen_ok, hback, run_getMap hw2 (by intros; simp)]
                have h3' : (⟨es'⟩ : Array MapEntry).find? (fun e => e.born == b) = some e' := by simpa using h3
                simp only [bne_self_eq_false, Bool.false_eq_true, if_false, h3']
                rfl
          · cases h
      · cases h
    · cases h
  · cases h

/-! strings of bytes -/
theorem bytesOf_rel {φ : Phi} : ∀ {l l' : List Value} {r : List UInt8}, bytesOf l = some r → VRels φ l l' → bytesOf l' = some r
  | [], _, r, h, k => by cases k; exact h
  | v :: l, _, r, h, k => by
    cases k with
    | cons _ v' _ l' hv hl =>
    unfold bytesOf at h
    split at h
    · rename_i heq; cases heq
    · rename_i n l0 heq
      simp only [List.cons.injEq] at heq
      obtain ⟨rfl, rfl⟩ := heq
      cases hv
      split at h
      · rename_i r0 hr0
        simp only [bytesOf, bytesOf_rel hr0 hl]; exact h
      · cases h
    · cases h

omit [Syms] in
theorem run_b2s {P : Program} {w : World} {a : Addr} {len cap : Nat} {cs : Array Value} {r : List UInt8} (h : (loadCells a len).run P w = Result.ok cs w) (hb : bytesOf cs.toList = some r) :
    (Conv.bytesToString (.slice (some a) len cap)).run P w = Result.ok (.string ⟨r.toArray⟩) w := by
  simp only [Conv.bytesToString, Sem.run_bind, h, Result.andThen_ok]
  rw [← Array.forIn_toList]
  have e : (⟨r.toArray⟩ : ByteArray) = ⟨(ByteArray.empty.data.toList ++ r).toArray⟩ := by simp [ByteArray.empty, ByteArray.emptyWithCapacity]; rfl
  rw [e]
  generalize ByteArray.empty = s
  generalize cs.toList = l at hb
  clear e h
  induction l generalizing s r with
  | nil =>
    simp only [bytesOf, Option.some.injEq] at hb; subst hb
    simp
  | cons v l ih =>
    unfold bytesOf at hb
    split at hb
    · rename_i heq; cases heq
    · rename_i n l0 heq
      simp only [List.cons.injEq] at heq
      obtain ⟨rfl, rfl⟩ := heq
      split at hb
      · rename_i r0 hr0
        simp only [Option.some.injEq] at hb; subst hb
        simp only [List.forIn_cons, Sem.run_bind, Sem.run_pure, Result.andThen_ok]
        have := ih (s := s.push (UInt8.ofNat n.toNat)) hr0
        refine this.trans ?_
        congr 3
        simp [ByteArray.push]
      · cases hb
    · cases hb

omit [Syms] in
theorem liesAt_ok {P : Program} {w : World} {a : Addr} {u e : TypeId} {n cells : Nat} (hs : w.shape? a.block = some (e, cells)) (hl : liesAt P P.depth e (cells / P.cellsOf e) a.off u n = true) :
    (variablesAt a u n).run P w = Result.ok true w := by
  simp only [variablesAt, Sem.run_bind, run_program, Result.andThen_ok, run_shape, hs, Sem.run_pure, hl]

theorem HRel.shape (h : HRel C φ H w) {b : Nat} {l : Loc} (hl : φ b = some l) {e : TypeId} {vs : List Value} {o : Bool} {z : Fz}
    (hb : H.blk b = some (.cells e vs o z)) : w.shape? l.c = some (e, l.n) := by
  obtain ⟨cs, fr, hc, hn, _⟩ := h.row hl hb
  simp [World.shape?, hc, hn]

omit [Syms] in
theorem seen_ok {P : Program} {w : World} {a : Addr} {e : TypeId} {cells : Nat} (hs : w.shape? a.block = some (e, cells)) : (Conv.seenAt a).run P w = Result.ok a w := by
  simp [Conv.seenAt, viewAt, hs]

theorem yl_rconv (hC : COk C) (hρ : ERho φ ρ ev) (hH : HRel C φ H w) {s d : TypeId} {x : Operand} {v : Value} (h : rConv C ρ H s d x = some v) : Yl C.P ev (.convert s d x) w φ v := by
  have hexec : ∀ o : Oper, o.op = .convert s d x → execOp ev o = (do pure (.value (← convert s d (ev x)))) := by
    rintro ⟨dst, op, type, pos, after, guard⟩ ho; subst ho; rfl
  unfold rConv at h
  split at h
  · rename_i i j hs hd hx
    have h1 := hρ x _ hx
    have hus := hC.run_und w hs
    have hud := hC.run_und w hd
    generalize he : ev x = u at h1
    cases h1
    split at h
    · rename_i e hi hj
      simp only [Option.some.injEq] at h; subst h
      rw [hi] at hus; rw [hj] at hud
      refine Yl.of' _ hexec (v' := .pointer none) ?_ .pnil
      rw [he]
      simp only [convert, Sem.run_bind, hus, hud, Result.andThen_ok, Conv.unsafePointer]
      rfl
    · rename_i e hi hj
      simp only [Option.some.injEq] at h; subst h
      rw [hi] at hus; rw [hj] at hud
      refine Yl.of' _ hexec (v' := .pointer none) ?_ .pnil
      rw [he]
      simp only [convert, Sem.run_bind, hus, hud, Result.andThen_ok, Conv.unsafePointer]
      rfl
    · cases h
  · rename_i i j b off hs hd hx
    have h1 := hρ x _ hx
    have hus := hC.run_und w hs
    have hud := hC.run_und w hd
    generalize he : ev x = u at h1
    cases h1 with
    | ptr _ _ l hl =>
      split at h
      · rename_i t e vs o z hi hj hb
        rw [hi] at hus; rw [hj] at hud
        split at h
        · rename_i ti hti
          cases hc : (Nat.beq ti.size 0 || !Nat.blt off vs.length)
          · rw [hc] at h; simp only [cond_false, Option.some.injEq] at h; subst h
            simp only [Bool.or_eq_false_iff, Bool.not_eq_false'] at hc
            have hz : ti.size ≠ 0 := by intro e; rw [e] at hc; simp at hc
            have hlt := lt_of_blt hc.2
            obtain ⟨cs, fr, hcs, hcn, hlen, _⟩ := hH.row hl hb
            have hsh := hH.shape w hl hb
            refine Yl.of' _ hexec (v' := .pointer (some ⟨l.c, l.d + off, none⟩)) ?_ (.ptr b off l hl)
            rw [he]
            simp only [convert, Sem.run_bind, hus, hud, Result.andThen_ok, Conv.unsafePointer, seen_ok (a := ⟨l.c, l.d + off, none⟩) hsh, cellsIn, run_shape, hsh, Sem.run_pure, hC.run_size w hti, hz,
              Option.isNone_none]
            simp
            omega
          · rw [hc] at h; cases h
        · cases h
      · rename_i u e vs z hi hj hb
        rw [hi] at hus; rw [hj] at hud
        cases hc0 : ((C.tyOf u).isSome && liesAt C.P C.P.depth e (vs.length / C.P.cellsOf e) off u 1)
        · rw [hc0] at h; cases h
        · rw [hc0] at h; simp only [cond_true, Option.some.injEq] at h; subst h
          simp only [Bool.and_eq_true] at hc0
          obtain ⟨htu, hc⟩ := hc0
          obtain ⟨ui, hui⟩ := Option.isSome_iff_exists.1 htu
          obtain ⟨cs, fr, hcs, hcn, hlen, hexact, _⟩ := hH.row hl hb
          obtain ⟨hd0, hvn⟩ := hexact rfl
          have hsh := hH.shape w hl hb
          refine Yl.of' _ hexec (v' := .pointer (some ⟨l.c, l.d + off, none⟩)) ?_ (.ptr b off l hl)
          rw [he]
          have hv : (variablesAt ⟨l.c, l.d + off, none⟩ u 1).run C.P w = Result.ok true w := by
            refine liesAt_ok (cells := l.n) hsh ?_
            rw [← hvn, hd0, Nat.zero_add]; exact hc
          simp only [convert, Sem.run_bind, hus, hud, Result.andThen_ok, Conv.unsafePointer, seen_ok (a := ⟨l.c, l.d + off, none⟩) hsh, hC.run_size w hui, hv]
          simp
      · cases h
  · rename_i i j a len cap hs hd hx
    have h1 := hρ x _ hx
    have hus := hC.run_und w hs
    have hud := hC.run_und w hd
    split at h
    · rename_i e hi hj
      rw [hi] at hus; rw [hj] at hud
      split at h
      · rename_i ei hei
        have hue := hC.run_und w hei
        split at h
        · rename_i hk
          simp only [Option.some.injEq] at h; subst h
          rw [hk] at hue
          generalize he : ev x = u at h1
          cases h1
          refine Yl.of' _ hexec (v' := .string .empty) ?_ (.string _)
          rw [he]
          simp only [convert, Sem.run_bind, hus, hud, Result.andThen_ok, hue, Conv.bytesToString, Sem.run_pure]
        · rename_i b off hk
          rw [hk] at hue
          split at h
          · rename_i l hl
            split at h
            · rename_i r hr
              simp only [Option.some.injEq] at h; subst h
              generalize he : ev x = u at h1
              cases h1 with
              | slc _ _ _ _ lo hlo hc =>
                obtain ⟨vs', h2, h3⟩ := hH.run_cells C.P hlo hl
                refine Yl.of' _ hexec (v' := .string ⟨r.toArray⟩) ?_ (.string _)
                rw [he]
                simp only [convert, Sem.run_bind, hus, hud, Result.andThen_ok, hue]
                exact run_b2s h3 (bytesOf_rel hr h2)
              | opn _ _ _ _ _ lo hlo hc =>
                obtain ⟨vs', h2, h3⟩ := hH.run_cells C.P hlo hl
                refine Yl.of' _ hexec (v' := .string ⟨r.toArray⟩) ?_ (.string _)
                rw [he]
                simp only [convert, Sem.run_bind, hus, hud, Result.andThen_ok, hue]
                exact run_b2s h3 (bytesOf_rel hr h2)
            · cases h
          · cases h
        · cases h
      · cases h
    · cases h
  · cases h

theorem yl_len (hC : COk C) (hρ : ERho φ ρ ev) (hH : HRel C φ H w) {c : Call} {v : Value} (h : rCall C ρ H c = some v) : Yl C.P ev (.call c) w φ v := by
  have em : (c.args.map ev).toList = c.args.toList.map ev := by simp
  unfold rCall at h
  split at h
  · rename_i hc
    split at h
    · rename_i x t ts hx ht
      split at h
      · rename_i u hu
        have h1 := hρ x _ hu
        have hargs : c.args.map ev = #[ev x] := by apply Array.ext'; rw [em, hx]; rfl
        have hty : c.argTypes[0]? = some t := by rw [← Array.getElem?_toList, ht]; rfl
        have hb : ∀ ty cs, builtin .len c.argTypes ty cs (c.args.map ev) = (do pure (.value (← Builtin.len_ c.argTypes 0 (c.args.map ev)))) := fun _ _ => rfl
        cases hsy : isSym u
        case true =>
          rw [hsy] at h; simp only [cond_true] at h
          unfold symLen at h
          split at h
          · rename_i i hi
            have hru := hC.run_und w hi
            split at h
            · rename_i hiu
              rw [hiu] at hru
              obtain ⟨ru, hu1, e1, _, e3, _, rfl⟩ := ruleIn_spec h
              obtain ⟨r1, _, r3, _⟩ := hC.rules ru hu1
              obtain ⟨s, d1, d2⟩ := r3 e1
              have d0 := req_den e3 h1
              refine Yl.builtin w hc _ hb (v' := den ru.r) ?_ (okR_rel r1)
              rw [hargs, d0, d1, d2]
              simp [Builtin.len_, hty, hru, goInt]
            · cases h
          · cases h
        case false =>
        rw [hsy] at h; simp only [cond_false] at h
        unfold lenV at h
        split at h
        · rename_i i hi
          have hru := hC.run_und w hi
          generalize he : ev x = u' at h1
          split at h <;> (try (cases h; done)) <;> rename_i hiu <;> rw [hiu] at hru
          · cases h1
            simp only [Option.some.injEq] at h; subst h
            refine Yl.builtin w hc _ hb (v' := .int .i64 _) ?_ (.int _ _)
            rw [hargs, he]
            simp [Builtin.len_, hty, hru, goInt]
          · simp only [Option.some.injEq] at h; subst h
            refine Yl.builtin w hc _ hb (v' := .int .i64 _) ?_ (.int _ _)
            rw [hargs, he]
            cases h1 <;> simp [Builtin.len_, hty, hru, goInt]
          · simp only [Option.some.injEq] at h; subst h
            refine Yl.builtin w hc _ hb (v' := .int .i64 _) ?_ (.int _ _)
            rw [hargs, he]
            cases h1 <;> simp [Builtin.len_, hty, hru, goInt]
          · cases h1
            simp only [Option.some.injEq] at h; subst h
            refine Yl.builtin w hc _ hb (v' := .int .i64 0) ?_ (.int _ _)
            rw [hargs, he]
            simp [Builtin.len_, hty, hru, goInt]
          · split at h
            · rename_i es clock hm
              simp only [Option.some.injEq] at h; subst h
              cases h1 with
              | map r l hl =>
                obtain ⟨es', h2, h3⟩ := hH.mapAt hl hm
                refine Yl.builtin w hc _ hb (v' := .int .i64 es'.length) ?_ (by rw [h3.length]; exact .int _ _)
                rw [hargs, he]
                simp [Builtin.len_, hty, hru, goInt, run_getMap h2 (by intros; simp)]
            · cases h
        · cases h
      · cases h
    · cases h
  · cases h

theorem opR_sound (hC : COk C) (hρ : ERho φ ρ ev) (hH : HRel C φ H w) {o : Op} {v : Value} (h : opR C ρ H o = some v) : Yl C.P ev o w φ v := by
  cases o with
  | load t a => exact yl_load w hC hρ hH h
  | entry it => exact yl_entry w hρ hH h
  | lookup t x i ok => exact yl_lookup w hC hρ hH h
  | convert s d x => exact yl_rconv w hC hρ hH h
  | call c => exact yl_len w hC hρ hH h
  | _ => cases h
end
end Go.AM
