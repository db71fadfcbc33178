/- AM: texts out of a builder's bytes; calls. -/
import Derived.Test.YtmohbeomlpjljaaGreatDoorAmOps10
namespace Go.AM
open Go
variable [Syms]

omit [Syms] in
theorem run_loadBytes {P : Program} {w : World} (c : Nat) : ∀ (l : List Value) (r : List UInt8) (off : Nat) (acc : ByteArray), bytesOf l = some r →
    (∀ j v', l[j]? = some v' → w.cell? ⟨c, off + j, none⟩ = some v') → (loadBytes ⟨c, off, none⟩ acc l.length).run P w = Result.ok ⟨(acc.data.toList ++ r).toArray⟩ w := by
  intro l
  induction l with
  | nil =>
    intro r off acc h _
    simp only [bytesOf, Option.some.injEq] at h; subst h
    simp [loadBytes]
  | cons v l ih =>
    intro r off acc h hc
    unfold bytesOf at h
    split at h
    · rename_i heq; cases heq
    · rename_i n l0 heq
      simp only [List.cons.injEq] at heq
      obtain ⟨rfl, rfl⟩ := heq
      split at h
      · rename_i r0 hr0
        simp only [Option.some.injEq] at h; subst h
        have h0 := hc 0 _ rfl
        have hrun : (load ⟨c, off, none⟩).run P w = Result.ok (.int .u8 n) w := by
          simp only [load, Sem.run]
          rw [show (⟨c, off, none⟩ : Addr) = ⟨c, off + 0, none⟩ from rfl, h0]
        simp only [List.length_cons, loadBytes, Sem.run_bind, hrun, Result.andThen_ok]
        rw [addr_add]
        rw [ih r0 (off + 1) _ hr0 (fun j v' hj => by rw [Nat.add_assoc, Nat.add_comm 1 j]; exact hc (j + 1) v' (by simpa using hj))]
        congr 3
        simp [ByteArray.push]
      · cases h
    · cases h

section
variable {C : Ctx} {φ : Phi} {ρ : Env} {ev : Operand → Value} {H H' : Heap} (w : World)

theorem freeze_turn (hH : HRel C φ H w) {b off n : Nat} {l : Loc} (hl : φ b = some l) (hbase : C.base ≤ b) {e : TypeId} {vs : List Value} {o : Bool} {z : Fz}
    (hb : H.blk b = some (.cells e vs o z)) (hzs : z.s = false) (hn : n ≠ 0) :
    HRel C φ (H.set b (.cells e vs o ⟨bif Nat.ble z.z (off + n) then off + n else z.z, false⟩)) (w.freeze ⟨l.c, l.d + off, none⟩ n) ∧ Ext C φ w φ (w.freeze ⟨l.c, l.d + off, none⟩ n) := by
  obtain ⟨cs, fr, hcs, hcn, hdl, hex, hvr, hzf⟩ := hH.row hl hb
  have hfr := hzf.2 hzs
  obtain ⟨lo, hi⟩ := fr
  have hz' : ∀ k, (bif Nat.ble z.z (off + n) then off + n else z.z) ≤ k → off + n ≤ k ∧ z.z ≤ k := by
    intro k hk
    cases hb2 : Nat.ble z.z (off + n)
    · rw [hb2] at hk; simp only [cond_false] at hk
      have := not_ble hb2; omega
    · rw [hb2] at hk; simp only [cond_true] at hk
      have := Nat.le_of_ble_eq_true hb2; omega
  refine hH.turn hl hbase hb rfl (w' := w.freeze ⟨l.c, l.d + off, none⟩ n) ?_ ?_ ?_ ?_ ?_ ?_
  · have hw : (w.freeze ⟨l.c, l.d + off, none⟩ n).heap[l.c]? = some (.cells cs e (if lo == hi then (l.d + off, l.d + off + n) else (min lo (l.d + off), max hi (l.d + off + n)))) := by
      simp only [World.freeze, if_neg hn, Array.getElem?_modify, hcs]
      simp
    rw [hw]
    refine .cells e vs o _ cs _ hcn hdl hex hvr ⟨?_, ?_⟩
    · intro i hi1 hi2
      have hk := hz' (i - l.d) (by have : l.d + (bif Nat.ble z.z (off + n) then off + n else z.z) ≤ i := hi1; omega)
      split
      · dsimp only; omega
      · rename_i hne
        have hne' : lo ≠ hi := by simpa using hne
        dsimp only at hfr ⊢
        rcases hfr with h | h
        · exact absurd h hne'
        · intro ⟨_, h2⟩
          have : max hi (l.d + off + n) ≤ i := Nat.max_le.2 ⟨by omega, by omega⟩
          omega
    · intro _
      have hk := hz' _ (Nat.le_refl _)
      split
      · right; dsimp only; omega
      · rename_i hne
        have hne' : lo ≠ hi := by simpa using hne
        dsimp only at hfr ⊢
        rcases hfr with h | h
        · exact absurd h hne'
        · right
          exact Nat.max_le.2 ⟨by omega, by omega⟩
  · simp only [World.freeze, if_neg hn, Array.size_modify]
  · intro c hc
    simp only [World.freeze, if_neg hn, Array.getElem?_modify]
    rw [if_neg (by omega)]
  · simp only [World.freeze, if_neg hn]
  · simp only [World.freeze, if_neg hn]
  · simp only [World.freeze, if_neg hn]

omit [Syms] in
theorem lies_row {P : Program} {e u : TypeId} {cells off n : Nat} (hs : P.cellsOf e = 1) (hf : sameLayout P P.depth e u = true) (hle : off + n ≤ cells) : liesAt P P.depth e (cells / P.cellsOf e) off u n = true := by
  have hd : P.depth = (2 * (P.types.size + Made.depth) + 1) + 1 := rfl
  rw [hs, Nat.div_one]
  have h1 : rowAt P (sameLayout P P.depth · u) P.depth e cells off n = true := by
    conv => lhs; arg 3; rw [hd]
    unfold rowAt
    simp only [hs, Nat.one_ne_zero, if_false, Nat.div_one, Nat.mod_one, beq_self_eq_true, Bool.true_and, hf, Bool.and_true]
    have : decide (off + n ≤ cells) = true := by simpa using hle
    rw [this]; rfl
  conv => lhs; arg 2; rw [hd]
  unfold liesAt
  rw [h1]; rfl

theorem string_goes (hC : COk C) (hH : HRel C φ H w) {ts : Array TypeId} {args args' : List Value} {v : Value} (h : bString C H ts.toList (some args) = some (v, H')) (ha : VRels φ args args') (ty : TypeId) :
    ∃ v' w', (Builtin.unsafeString_ ts ty ⟨args'⟩).run C.P w = Result.ok v' w' ∧ Post C φ w H' v v' w' := by
  unfold bString at h
  split at h
  · rename_i p nv pt it hargs hts
    simp only [Option.some.injEq] at hargs; subst hargs
    have hts2 : ts = #[pt, it] := Array.ext' hts
    subst hts2
    split at h
    · rename_i n pi hn hpi
      have hu := hC.run_und w hpi
      split at h
      · rename_i u hpu
        rw [hpu] at hu
        have helem : (elemOf pt).run C.P w = Result.ok u w := by simp only [elemOf, Sem.run_bind, hu, Result.andThen_ok, Sem.run_pure]
        cases ha with
        | cons _ p' _ tl' hp' htl =>
          cases htl with
          | cons _ n' _ tl2 hn' htl2 =>
            cases htl2
            obtain ⟨k, rfl⟩ := natOf_rel hn hn'
            have step : ∀ (q : Option Addr), p' = .pointer q → n < 2 ^ 62 → (Builtin.unsafeString_ #[pt, it] ty ⟨[p', .int k (Int.ofNat n)]⟩).run C.P w =
                ((match q with
                  | none => if (Int.ofNat n) = 0 then pure (.string .empty) else runtimePanic (.error "unsafe.String: ptr is nil and len is not zero")
                  | some a => if (Int.ofNat n) = 0 then pure (.string .empty) else do
                    if ← variablesAt a (← elemOf pt) (Int.ofNat n).toNat then do
                      let s ← loadBytes a .empty (Int.ofNat n).toNat
                      freeze a (Int.ofNat n).toNat
                      pure (.string s)
                    else unsupported (.unsafePointer "String: not so many bytes at ptr")) : Sem Value).run C.P w := by
              rintro q rfl hlt
              have h1 : ¬ (Int.ofNat n < 0) := by simp
              have h2 : ¬ (Int.ofNat n > IntKind.i64.max) := by rw [IntKind.max_i64]; simp only [Int.ofNat_eq_natCast]; omega
              cases q with
              | none =>
                have hdef : Builtin.unsafeString_ #[pt, it] ty #[.pointer none, .int k (Int.ofNat n)] = (do
                    let m ← asInt (.int k (Int.ofNat n))
                    if m < 0 then runtimePanic (.error "unsafe.String: len out of range")
                    if m > IntKind.i64.max then unsupported (.unsafePointer "String: a length above the largest int")
                    if m = 0 then pure (.string .empty) else runtimePanic (.error "unsafe.String: ptr is nil and len is not zero")) := rfl
                show (Builtin.unsafeString_ #[pt, it] ty #[.pointer none, .int k (Int.ofNat n)]).run C.P w = _
                rw [hdef]
                simp only [asInt, asIntOf, pure_bind, h1, h2, if_false]
              | some a =>
                have hdef : Builtin.unsafeString_ #[pt, it] ty #[.pointer (some a), .int k (Int.ofNat n)] = (do
                    let m ← asInt (.int k (Int.ofNat n))
                    if m < 0 then runtimePanic (.error "unsafe.String: len out of range")
                    if m > IntKind.i64.max then unsupported (.unsafePointer "String: a length above the largest int")
                    if m = 0 then pure (.string .empty)
                    else if ← variablesAt a (← elemOf pt) m.toNat then do
                      let s ← loadBytes a .empty m.toNat
                      freeze a m.toNat
                      pure (.string s)
                    else unsupported (.unsafePointer "String: not so many bytes at ptr")) := rfl
                show (Builtin.unsafeString_ #[pt, it] ty #[.pointer (some a), .int k (Int.ofNat n)]).run C.P w = _
                rw [hdef]
                simp only [asInt, asIntOf, pure_bind, h1, h2, if_false]
            cases hn0 : Nat.beq n 0
            · rw [hn0] at h; simp only [cond_false] at h
              have hne := not_beq hn0
              cases hlim : Nat.ble n LIMIT
              · rw [hlim] at h; cases h
              · rw [hlim] at h; simp only [Bool.not_true, cond_false] at h
                have hlim := Nat.le_of_ble_eq_true hlim
                have hL : LIMIT = 4194304 := by decide
                split at h
                · rename_i b off
                  split at h
                  · rename_i e vs o z hb
                    split at h
                    · rename_i i l hi htk
                      split at h
                      · rename_i r hr
                        cases hc : (Nat.ble C.base b && Nat.beq i.size 1 && !z.s && sameLayout C.P C.P.depth e u)
                        · rw [hc] at h; cases h
                        · rw [hc] at h; simp only [cond_true, Option.some.injEq, Prod.mk.injEq] at h
                          obtain ⟨rfl, rfl⟩ := h
                          simp only [Bool.and_eq_true, Bool.not_eq_true'] at hc
                          obtain ⟨⟨⟨hc1, hc2⟩, hc3⟩, hc4⟩ := hc
                          have hc1 := Nat.le_of_ble_eq_true hc1
                          have hc2 := Nat.eq_of_beq_eq_true hc2
                          cases hp' with
                          | ptr _ _ lo hlo =>
                            obtain ⟨cs, fr, hcs, hcn, hdl, _, hvr, _⟩ := hH.row hlo hb
                            have hsh := hH.shape w hlo hb
                            have hcells : H.cells b off n = some l := by unfold Heap.cells; rw [hb]; exact htk
                            obtain ⟨l', h1, h2, h3⟩ := hH.cells hlo hcells
                            obtain ⟨_, hoff⟩ := takeN_spec _ _ _ htk
                            rw [List.length_drop] at hoff
                            have hsz1 : C.P.cellsOf e = 1 := by
                              obtain ⟨inf, hinf, _, hs, _⟩ := TI.of_spec (hC.ty _ _ hi)
                              unfold Program.cellsOf; rw [hinf]; simp [← hs, hc2]
                            have hva : (variablesAt ⟨lo.c, lo.d + off, none⟩ u n).run C.P w = Result.ok true w := liesAt_ok hsh (lies_row hsz1 hc4 (by show lo.d + off + n ≤ lo.n; omega))
                            have hlb := run_loadBytes (P := C.P) (w := w) lo.c l' r (lo.d + off) .empty (bytesOf_rel hr h1) h3
                            rw [h2] at hlb
                            obtain ⟨hr1, hr2⟩ := freeze_turn w hH hlo hc1 hb hc3 hne (off := off)
                            refine ⟨.string ⟨r.toArray⟩, _, ?_, φ, hr2, hr1, .string _⟩
                            rw [step _ rfl (by omega)]
                            have h0 : ¬ (Int.ofNat n = 0) := by simpa using hne
                            have hnn : (Int.ofNat n).toNat = n := rfl
                            simp only [if_neg h0, Sem.run_bind, helem, Result.andThen_ok, hnn, hva, if_true, hlb, run_freeze, Sem.run_pure]
                            congr 4
                      · cases h
                    · cases h
                  · cases h
                · cases h
            · rw [hn0] at h; simp only [cond_true, Option.some.injEq, Prod.mk.injEq] at h
              obtain ⟨rfl, rfl⟩ := h
              have := Nat.eq_of_beq_eq_true hn0; subst this
              refine ⟨.string .empty, w, ?_, φ, Ext.refl _ _ _, hH, .string _⟩
              cases hp' with
              | pnil => rw [step _ rfl (by omega)]; rfl
              | ptr => rw [step _ rfl (by omega)]; rfl
      · cases h
    · cases h
  · cases h
end
end Go.AM
