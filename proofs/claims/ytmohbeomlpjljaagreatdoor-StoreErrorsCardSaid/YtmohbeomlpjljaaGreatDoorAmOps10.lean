/- AM: a step of an iterator; texts out of bytes; calls of builtins. -/
import Derived.Test.YtmohbeomlpjljaaGreatDoorAmOps9
namespace Go.AM
open Go
variable [Syms]

section
variable {C : Ctx} {φ : Phi} {ρ : Env} {ev : Operand → Value} {H H' : Heap} (w : World)

omit [Syms] in
theorem filter_self {α : Type} {p : α → Bool} : ∀ {l : List α}, (∀ e ∈ l, p e = true) → l.filter p = l
  | [], _ => rfl
  | a :: l, h => by rw [List.filter_cons, if_pos (h a (by simp)), filter_self (fun e he => h e (by simp [he]))]

omit [Syms] in
theorem filter_none {α : Type} {p : α → Bool} : ∀ {l : List α}, (∀ e ∈ l, p e = false) → l.filter p = []
  | [], _ => rfl
  | a :: l, h => by rw [List.filter_cons, if_neg (by rw [h a (by simp)]; simp), filter_none (fun e he => h e (by simp [he]))]

theorem next_goes (hH : HRel C φ H w) {it it' v : Value} (h : nextB C H it = some (v, H')) (hit : VRel φ it it') (ty : TypeId) :
    ∃ v' w', (Instr.next it' false ty).run C.P w = Result.ok v' w' ∧ Post C φ w H' v v' w' := by
  unfold nextB at h
  split at h
  · rename_i r
    cases hit with
    | ptr _ _ l hl =>
      split at h
      · rename_i since last seen hb
        simp only [Option.some.injEq, Prod.mk.injEq] at h
        obtain ⟨rfl, rfl⟩ := h
        obtain ⟨hw, hd⟩ := hH.iterNilAt hl hb
        refine ⟨.tuple #[.bool false], w, ?_, φ, Ext.refl _ _ _, hH, .tuple [_] [_] (.cons _ _ _ _ (.bool false) .nil)⟩
        rw [hd]
        simp only [Instr.next, Nat.add_zero, Sem.run_bind, run_getMap hw (by intros; simp), Result.andThen_ok, Sem.run_pure]
      · rename_i m since seen last hb
        obtain ⟨lm, hlm, hw, hd⟩ := hH.iterAt hl hb
        split at h
        · rename_i es clock hm
          obtain ⟨es', hw2, her⟩ := hH.mapAt hlm hm
          cases hc : (Nat.ble C.base r && Nat.ble since last && (es.all fun e => Nat.blt e.2.2 since))
          · rw [hc] at h; cases h
          · rw [hc] at h; simp only [cond_true] at h
            simp only [Bool.and_eq_true] at hc
            obtain ⟨⟨hc1, hc2⟩, hc3⟩ := hc
            have hc1 := Nat.le_of_ble_eq_true hc1
            have hc2 := Nat.le_of_ble_eq_true hc2
            have hborn : ∀ e ∈ es', e.born < since := fun e he => lt_of_blt (her.all (fun b => Nat.blt b since) hc3 e he)
            have hfl := her.filter (fun b => !seen.contains b)
            have hun : (!(⟨seen⟩ : Array Nat).isEmpty && !(⟨es'⟩ : Array MapEntry).isEmpty && (⟨es'⟩ : Array MapEntry).all (fun e => decide (e.born ≥ last))) = false := by
              cases es' with
              | nil => simp
              | cons e es'' =>
                have : (⟨e :: es''⟩ : Array MapEntry).all (fun e => decide (e.born ≥ last)) = false := by
                  have := hborn e (by simp)
                  simp; intro hh; omega
                rw [this]; simp
            have hleft : ((⟨es'⟩ : Array MapEntry).filter fun e => !(⟨seen⟩ : Array Nat).contains e.born) = ⟨es'.filter fun e => !seen.contains e.born⟩ := by
              apply Array.ext'; simp
            have hold : ∀ l : List MapEntry, (∀ e ∈ l, e.born < since) → ((⟨l⟩ : Array MapEntry).filter fun e => decide (e.born < since)) = ⟨l⟩ := by
              intro l hl
              apply Array.ext'
              rw [Array.toList_filter]
              exact filter_self (fun e he => by simpa using hl e he)
            have hnew : ∀ l : List MapEntry, (∀ e ∈ l, e.born < since) → ((⟨l⟩ : Array MapEntry).filter fun e => decide (e.born ≥ since)) = #[] := by
              intro l hl
              apply Array.ext'
              rw [Array.toList_filter]
              exact filter_none (fun e he => by have := hl e he; simpa using this)
            have hmem : ∀ e ∈ es'.filter (fun e => !seen.contains e.born), e.born < since := fun e he => hborn e (List.mem_filter.1 he).1
            have hget := run_getMap (P := C.P) hw (by intros; simp)
            have hget2 := run_getMap (P := C.P) hw2 (by intros; simp)
            rw [hd]
            split at h
            · rename_i hnil
              simp only [Option.some.injEq, Prod.mk.injEq] at h
              obtain ⟨rfl, rfl⟩ := h
              rw [hnil] at hfl
              generalize hg : es'.filter (fun e => !seen.contains e.born) = g at hfl hleft
              cases hfl
              refine ⟨.tuple #[.bool false], w, ?_, φ, Ext.refl _ _ _, hH, .tuple [_] [_] (.cons _ _ _ _ (.bool false) .nil)⟩
              simp only [Instr.next, Nat.add_zero, Sem.run_bind, hget, hget2, Result.andThen_ok, hun, Bool.false_eq_true, if_false, hleft, hold [] (by simp), hnew [] (by simp), run_choose]
              simp [Question.forced]
            · rename_i e he
              simp only [Option.some.injEq, Prod.mk.injEq] at h
              obtain ⟨rfl, rfl⟩ := h
              rw [he] at hfl
              generalize hg : es'.filter (fun e => !seen.contains e.born) = g at hfl hleft hmem
              cases hfl with
              | cons k x b k' x' _ l' hk hx hl' =>
                cases hl'
                obtain ⟨h1, h2⟩ := hH.setObj w hl hc1 hb rfl (y := .iter (some m) since (seen ++ [b]) clock) (o := .mapIter (some lm.c) since ((⟨seen⟩ : Array Nat).push b) clock) (by
                  have : (⟨seen⟩ : Array Nat).push b = ⟨seen ++ [b]⟩ := by apply Array.ext'; simp
                  rw [this]
                  exact .iter m lm since clock _ hlm hd)
                refine ⟨.tuple #[.bool true, k', x'], _, ?_, φ, h2, h1, .tuple [_, _, _] [_, _, _] (.cons _ _ _ _ (.bool true) (.cons _ _ _ _ hk (.cons _ _ _ _ hx .nil)))⟩
                simp only [Instr.next, Nat.add_zero, Sem.run_bind, hget, hget2, Result.andThen_ok, hun, Bool.false_eq_true, if_false, hleft, hold _ hmem, hnew _ hmem, run_choose]
                simp [Question.forced, run_setObj hw (by intros; simp)]
            · cases h
        · cases h
      · cases h
  · cases h

omit [Syms] in
theorem rep_zero (z : Array Value) (n : Nat) : (Builtin.zeroCells z n).toList = rep n z.toList := rep_eq n z

theorem clear_goes (hC : COk C) (hH : HRel C φ H w) {t : TypeId} {ts : Array TypeId} {x x' v : Value} (hts : ts[0]? = some t) (h : clearB C H t x = some (v, H')) (hx : VRel φ x x') (ty : TypeId) :
    ∃ v' w', (Builtin.clear_ ts ty #[x']).run C.P w = Result.ok v' w' ∧ Post C φ w H' v v' w' := by
  unfold clearB at h
  split at h
  · rename_i i base len cap hi
    have hu := hC.run_und w hi
    cases hz : Nat.beq len 0
    · rw [hz] at h; simp only [cond_false] at h
      have hne : len ≠ 0 := by intro e; subst e; cases hz
      split at h
      · rename_i e b off he
        split at h
        · rename_i j hj
          split at h
          · rename_i z hzz
            split at h
            · rename_i H1 hst
              simp only [Option.some.injEq, Prod.mk.injEq] at h
              obtain ⟨rfl, rfl⟩ := h
              have key : ∃ lo c', φ b = some lo ∧ x' = .slice (some ⟨lo.c, lo.d + off, none⟩) len c' := by
                cases hx with
                | slc _ _ _ _ lo hlo => exact ⟨lo, _, hlo, rfl⟩
                | opn _ _ _ _ _ lo hlo => exact ⟨lo, _, hlo, rfl⟩
              obtain ⟨lo, c', hlo, rfl⟩ := key
              have hflat : z.cells.toList.all flat = true := by
                obtain ⟨i', _, _, h1, _⟩ := hC.run_info w hj
                exact (h1 z hzz).2
              obtain ⟨w', hrun, hr', hext⟩ := hH.store C.P hlo hst (VRels.rep (flats_rel hflat) len)
              refine ⟨.tuple #[], w', ?_, φ, hext, hr', .tuple [] [] .nil⟩
              obtain ⟨n, rfl⟩ : ∃ n, len = n + 1 := ⟨len - 1, by omega⟩
              simp only [Builtin.clear_, List.getElem?_toArray, List.getElem?_cons_zero, hts, Sem.run_bind, hu, he, Result.andThen_ok, hC.run_zero w hj hzz, rep_zero, hrun, Sem.run_pure]
            · cases h
          · cases h
        · cases h
      · cases h
    · rw [hz] at h; simp only [cond_true, Option.some.injEq, Prod.mk.injEq] at h
      obtain ⟨rfl, rfl⟩ := h
      obtain rfl := Nat.eq_of_beq_eq_true hz
      refine ⟨.tuple #[], w, ?_, φ, Ext.refl _ _ _, hH, .tuple [] [] .nil⟩
      cases hx <;> simp [Builtin.clear_, hts, hu]
  · cases h
end
end Go.AM
