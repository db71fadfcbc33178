/- AM: copy, maps written, texts of bytes, iterators. -/
import Derived.Test.YtmohbeomlpjljaaGreatDoorAmOps8
namespace Go.AM
open Go
variable [Syms]

section
variable {C : Ctx} {φ : Phi} {ρ : Env} {ev : Operand → Value} {H H' : Heap} (w : World)

theorem copy_goes (hC : COk C) (hH : HRel C φ H w) {dt : TypeId} {ts : Array TypeId} {d x d' x' v : Value} (hts : ts[0]? = some dt) (h : copyB C H dt d x = some (v, H')) (hd : VRel φ d d') (hx : VRel φ x x') (ty : TypeId) :
    ∃ v' w', (Builtin.copy_ ts ty #[d', x']).run C.P w = Result.ok v' w' ∧ Post C φ w H' v v' w' := by
  unfold copyB at h
  split at h
  · rename_i di hdi
    have hu := hC.run_und w hdi
    split at h
    · rename_i e base len cap n hde hn
      rw [hde] at hu
      split at h
      · rename_i ei hei
        dsimp only at h
        have hlen := srcLen_run w (P := C.P) hn hx
        split at h
        · rename_i l hl
          cases hd
          cases hb : Nat.beq l.length 0
          · rw [hb] at h; cases h
          · rw [hb] at h; simp only [cond_true, Option.some.injEq, Prod.mk.injEq] at h
            obtain ⟨rfl, rfl⟩ := h
            obtain ⟨l', hf, hr⟩ := src_run w hH (P := C.P) hl hx
            refine ⟨_, w, ?_, φ, Ext.refl _ _ _, hH, .int _ _⟩
            simp only [Builtin.copy_, List.getElem?_toArray, List.getElem?_cons_zero, List.getElem?_cons_succ, hts, Sem.run_bind, hu, Result.andThen_ok, hlen, hC.run_size w hei, hf, Sem.run_pure]
            rfl
        · rename_i l b off hl
          have key : ∃ lo c', φ b = some lo ∧ d' = .slice (some ⟨lo.c, lo.d + off, none⟩) len c' := by
            cases hd with
            | slc _ _ _ _ lo hlo => exact ⟨lo, _, hlo, rfl⟩
            | opn _ _ _ _ _ lo hlo => exact ⟨lo, _, hlo, rfl⟩
          obtain ⟨lo, c', hlo, rfl⟩ := key
          obtain ⟨l', hf, hr⟩ := src_run w hH (P := C.P) hl hx
          cases hb : Nat.beq l.length 0
          · rw [hb] at h; simp only [cond_false] at h
            split at h
            · rename_i H1 hst
              simp only [Option.some.injEq, Prod.mk.injEq] at h
              obtain ⟨rfl, rfl⟩ := h
              obtain ⟨w', hrun, hr', hext⟩ := hH.store C.P hlo hst hr
              refine ⟨_, w', ?_, φ, hext, hr', .int _ _⟩
              simp only [Builtin.copy_, List.getElem?_toArray, List.getElem?_cons_zero, List.getElem?_cons_succ, hts, Sem.run_bind, hu, Result.andThen_ok, hlen, hC.run_size w hei, hf, Sem.run_pure, hrun]
              rfl
            · cases h
          · rw [hb] at h; simp only [cond_true, Option.some.injEq, Prod.mk.injEq] at h
            obtain ⟨rfl, rfl⟩ := h
            have hnil : l'.toList = [] := by
              have := hr.length
              rw [Nat.eq_of_beq_eq_true hb] at this
              exact List.length_eq_zero_iff.1 this.symm
            refine ⟨_, w, ?_, φ, Ext.refl _ _ _, hH, .int _ _⟩
            simp only [Builtin.copy_, List.getElem?_toArray, List.getElem?_cons_zero, List.getElem?_cons_succ, hts, Sem.run_bind, hu, Result.andThen_ok, hlen, hC.run_size w hei, hf, Sem.run_pure, hnil]
            rfl
        · cases h
      · cases h
    · cases h
  · cases h

/-! maps -/
theorem plainV_rel {φ : Phi} {v v' : Value} (h : plainV v = true) (hr : VRel φ v v') : v' = v := by
  cases hr <;> first | rfl | cases h

theorem plains_rel {φ : Phi} : ∀ {l l' : List Value}, l.all plainV = true → VRels φ l l' → l' = l
  | [], _, _, k => by cases k; rfl
  | v :: l, _, h, k => by
    cases k with
    | cons _ v' _ l' hv hl =>
      simp only [List.all_cons, Bool.and_eq_true] at h
      rw [plainV_rel h.1 hv, plains_rel h.2 hl]

theorem plainK_rel {φ : Phi} {v v' : Value} (h : plainK v = true) (hr : VRel φ v v') : v' = v := by
  unfold plainK at h
  split at h
  · cases hr with
    | agg xs xs' hx => rw [plains_rel (l := xs) h hx]
  · exact plainV_rel h hr

omit [Syms] in
theorem sameBits_plainV {v : Value} (h : plainV v = true) (n : Nat) : Instr.sameBits n v v = true := by
  cases v <;> simp [plainV] at h <;> simp [Instr.sameBits, beq_toListBytes]

omit [Syms] in
theorem sameBits_plain {v : Value} (h : plainK v = true) (n : Nat) : Instr.sameBits (n + 1) v v = true := by
  unfold plainK at h
  split at h
  · rename_i cs
    simp only [Instr.sameBits, beq_self_eq_true, Bool.true_and]
    generalize cs.toList = l at h
    induction l with
    | nil => rfl
    | cons a l ih =>
      simp only [List.all_cons, Bool.and_eq_true] at h
      simp only [List.zip_cons_cons, List.all_cons, sameBits_plainV h.1, Bool.true_and]
      exact ih h.2
  · exact sameBits_plainV h _

omit [Syms] in
theorem all2_eq {eq : Value → Value → Bool} (heq : ∀ a b, eq a b = true → a = b) : ∀ {l l' : List Value}, all2 eq l l' = true → l = l'
  | [], [], _ => rfl
  | [], _ :: _, h => by cases h
  | _ :: _, [], h => by cases h
  | a :: l, b :: l', h => by
    simp only [all2, Bool.and_eq_true] at h
    rw [heq _ _ h.1, all2_eq heq h.2]

omit [Syms] in
theorem veq_eq : ∀ (n : Nat) (a b : Value), veq n a b = true → a = b := by
  intro n
  induction n with
  | zero => intro a b h; cases h
  | succ n ih =>
    intro a b h
    have toL : ∀ {xs ys : Array Value}, xs.toList = ys.toList → xs = ys := fun h => Array.ext' h
    unfold veq at h
    split at h
    · simp at h; rw [h]
    · simp at h; obtain ⟨rfl, rfl⟩ := h; rfl
    · simp at h; obtain ⟨rfl, rfl⟩ := h; rfl
    · rename_i a b
      simp at h
      obtain ⟨⟨x⟩⟩ := a
      obtain ⟨⟨y⟩⟩ := b
      simp at h; rw [h]
    · simp at h; rw [h]
    · simp at h; obtain ⟨⟨rfl, rfl⟩, rfl⟩ := h; rfl
    · simp at h; rw [h]
    · rfl
    · rfl
    · simp only [Bool.and_eq_true, beq_iff_eq] at h
      obtain ⟨rfl, h⟩ := h
      rw [ih _ _ h]
    · rw [toL (all2_eq ih h)]
    · rw [toL (all2_eq ih h)]
    · simp only [Bool.and_eq_true, beq_iff_eq] at h
      obtain ⟨⟨rfl, h1⟩, h2⟩ := h
      rw [toL (all2_eq ih h1), toL (all2_eq ih h2)]
    · cases h

theorem ERel.get {φ : Phi} : ∀ {es : List (Value × Value × Nat)} {es' : List MapEntry}, ERel φ es es' → ∀ {i : Nat} {e}, es[i]? = some e → ∃ e', es'[i]? = some e' ∧ VRel φ e.1 e'.key ∧ VRel φ e.2.1 e'.val ∧ e.2.2 = e'.born
  | _, _, .nil, i, e, h => by simp at h
  | _, _, .cons k v b k' v' l l' hk hv hl, 0, e, h => by
    simp only [List.getElem?_cons_zero, Option.some.injEq] at h; subst h
    exact ⟨_, rfl, hk, hv, rfl⟩
  | _, _, .cons k v b k' v' l l' hk hv hl, i + 1, e, h => by
    simp only [List.getElem?_cons_succ] at h ⊢
    exact ERel.get hl h

theorem ERel.setK {φ : Phi} {k k' x x' : Value} (hk : VRel φ k k') (hx : VRel φ x x') : ∀ {es : List (Value × Value × Nat)} {es' : List MapEntry}, ERel φ es es' → ∀ i,
    ERel φ (AM.setK es i (k, x)) (es'.modify i fun e => { e with key := k', val := x' })
  | _, _, .nil, i => by simp [AM.setK]; exact .nil
  | _, _, .cons a v b a' v' l l' ha hv hl, 0 => by simp [AM.setK]; exact .cons _ _ _ _ _ _ _ hk hx hl
  | _, _, .cons a v b a' v' l l' ha hv hl, i + 1 => by simp [AM.setK]; exact .cons _ _ _ _ _ _ _ ha hv (ERel.setK hk hx hl i)

theorem ERel.dropK {φ : Phi} : ∀ {es : List (Value × Value × Nat)} {es' : List MapEntry}, ERel φ es es' → ∀ i, ERel φ (AM.dropK es i) (es'.eraseIdx i)
  | _, _, .nil, i => by simp [AM.dropK]; exact .nil
  | _, _, .cons a v b a' v' l l' ha hv hl, 0 => by simpa [AM.dropK] using hl
  | _, _, .cons a v b a' v' l l' ha hv hl, i + 1 => by simp [AM.dropK]; exact .cons _ _ _ _ _ _ _ ha hv (ERel.dropK hl i)

theorem ERel.append {φ : Phi} : ∀ {a a' b b'}, ERel φ a a' → ERel φ b b' → ERel φ (a ++ b) (a' ++ b')
  | _, _, _, _, .nil, k => k
  | _, _, _, _, .cons _ _ _ _ _ _ _ hk hv h, k => .cons _ _ _ _ _ _ _ hk hv (ERel.append h k)

omit [Syms] in
theorem run_setObj {P : Program} {w : World} {c : Nat} {o x : Obj} (h : w.heap[c]? = some o) (ho : ∀ a b d, o ≠ .cells a b d) :
    (setObj c x).run P w = Result.ok () { w with heap := w.heap.setIfInBounds c x } := by
  cases o with
  | cells a b d => exact absurd rfl (ho a b d)
  | _ => simp [setObj, Sem.run, h]

/-- a map's block turned -/
theorem HRel.setObj (hH : HRel C φ H w) {r : Nat} {l : Loc} (hl : φ r = some l) (hb : C.base ≤ r) {x y : Blk} (hx : H.blk r = some x) (hlive : x.live = true) {o : Obj} (hy : BRel C φ l y (some o)) :
    HRel C φ (H.set r y) { w with heap := w.heap.setIfInBounds l.c o } ∧ Ext C φ w φ { w with heap := w.heap.setIfInBounds l.c o } := by
  refine hH.turn hl hb hx hlive (w' := { w with heap := w.heap.setIfInBounds l.c o }) ?_ (by simp) ?_ rfl rfl rfl
  · have := (hH.dom r l hl).2.1
    show BRel C φ l y (w.heap.setIfInBounds l.c o)[l.c]?
    rw [Array.getElem?_setIfInBounds_self, if_pos this]
    exact hy
  · intro c hc
    show (w.heap.setIfInBounds l.c o)[c]? = _
    rw [Array.getElem?_setIfInBounds_ne (by omega)]

theorem update_goes (hC : COk C) (hH : HRel C φ H w) {t : TypeId} {m k x m' k' x' : Value} (h : updateB C H t m k x = some H') (hm : VRel φ m m') (hk : VRel φ k k') (hx : VRel φ x x') :
    ∃ w', (Instr.mapUpdate t m' k' x').run C.P w = Result.ok () w' ∧ Post C φ w H' undef undef w' := by
  have hund : ∀ φ', VRel φ' undef undef := fun φ' => .tuple [] [] .nil
  unfold updateB at h
  split at h
  · rename_i i r hi
    have hu := hC.run_und w hi
    cases hm with
    | map _ l hl =>
      split at h
      · rename_i kt et es clock hiu hb
        rw [hiu] at hu
        obtain ⟨es', hw, her⟩ := hH.mapAt hl hb
        have hget := run_getMap (P := C.P) hw (by intros; simp)
        cases hbase : Nat.ble C.base r
        · rw [hbase] at h; cases h
        · rw [hbase] at h; simp only [cond_true] at h
          have hbase := Nat.le_of_ble_eq_true hbase
          split at h
          · rename_i j v0 hlk
            obtain ⟨hchk, r', hf, hfd⟩ := lookK_sound hC w hlk hk her
            cases r' with
            | none => exact hfd.elim
            | some p =>
              obtain ⟨j', v'⟩ := p
              obtain ⟨rfl, _, _, _⟩ := hfd
              split at h
              · rename_i e he
                cases hp : (plainK k && veq 2 e.1 k)
                · rw [hp] at h; cases h
                · rw [hp] at h; simp only [cond_true, Option.some.injEq] at h; subst h
                  simp only [Bool.and_eq_true] at hp
                  have hek := veq_eq 2 _ _ hp.2
                  obtain ⟨e', he', hek', _⟩ := her.get he
                  have hk1 : k' = k := plainK_rel hp.1 hk
                  have hk2 : e'.key = k := plainK_rel hp.1 (hek ▸ hek')
                  have hsb : Instr.sameBits 10000 k k = true := sameBits_plain hp.1 9999
                  obtain ⟨h1, h2⟩ := hH.setObj w hl hbase hb rfl (y := .map (setK es j (k, x)) clock) (o := .map ((⟨es'⟩ : Array MapEntry).modify j fun e => { e with key := k', val := x' }) clock) (by
                    have : ((⟨es'⟩ : Array MapEntry).modify j fun e => { e with key := k', val := x' }) = ⟨es'.modify j fun e => { e with key := k', val := x' }⟩ := by
                      apply Array.ext'; simp
                    rw [this]
                    exact .map _ _ clock (ERel.setK hk hx her j))
                  refine ⟨_, ?_, φ, h2, h1, hund φ⟩
                  have he2 : ((⟨es'⟩ : Array MapEntry)[j]?) = some e' := by simpa using he'
                  simp only [Instr.mapUpdate, Sem.run_bind, hu, Result.andThen_ok, hget, hchk, hf, he2, Option.map_some, Option.getD_some, Instr.keyThatStays]
                  rw [hk2, hk1, hsb]
                  simp only [if_true, Sem.run_pure, Result.andThen_ok]
                  exact run_setObj hw (by intros; simp)
              · cases h
          · rename_i hlk
            simp only [Option.some.injEq] at h; subst h
            obtain ⟨hchk, r', hf, hfd⟩ := lookK_sound hC w hlk hk her
            cases r' with
            | some p => exact hfd.elim
            | none =>
              obtain ⟨h1, h2⟩ := hH.setObj w hl hbase hb rfl (y := .map (es ++ [(k, x, clock)]) (clock + 1)) (o := .map ((⟨es'⟩ : Array MapEntry).push { key := k', val := x', born := clock }) (clock + 1)) (by
                have : ((⟨es'⟩ : Array MapEntry).push { key := k', val := x', born := clock }) = ⟨es' ++ [{ key := k', val := x', born := clock }]⟩ := by apply Array.ext'; simp
                rw [this]
                exact .map _ _ _ (her.append (.cons _ _ _ _ _ _ _ hk hx .nil)))
              refine ⟨_, ?_, φ, h2, h1, hund φ⟩
              simp only [Instr.mapUpdate, Sem.run_bind, hu, Result.andThen_ok, hget, hchk, hf]
              exact run_setObj hw (by intros; simp)
          · cases h
      · cases h
  · cases h

theorem delete_goes (hC : COk C) (hH : HRel C φ H w) {t : TypeId} {ts : Array TypeId} (hts : ts[0]? = some t) {m k m' k' : Value} (h : deleteB C H t m k = some H') (hm : VRel φ m m') (hk : VRel φ k k') (ty : TypeId) :
    ∃ v' w', (Builtin.delete_ ts ty #[m', k']).run C.P w = Result.ok v' w' ∧ Post C φ w H' (.tuple #[]) v' w' := by
  have hund : ∀ φ', VRel φ' (.tuple #[]) (.tuple #[]) := fun φ' => .tuple [] [] .nil
  unfold deleteB at h
  split at h
  · rename_i i r hi
    have hu := hC.run_und w hi
    cases hm with
    | map _ l hl =>
      split at h
      · rename_i kt et es clock hiu hb
        rw [hiu] at hu
        obtain ⟨es', hw, her⟩ := hH.mapAt hl hb
        have hget := run_getMap (P := C.P) hw (by intros; simp)
        cases hbase : Nat.ble C.base r
        · rw [hbase] at h; cases h
        · rw [hbase] at h; simp only [cond_true] at h
          have hbase := Nat.le_of_ble_eq_true hbase
          split at h
          · rename_i j v0 hlk
            simp only [Option.some.injEq] at h; subst h
            obtain ⟨hchk, r', hf, hfd⟩ := lookK_sound hC w hlk hk her
            cases r' with
            | none => exact hfd.elim
            | some p =>
              obtain ⟨j', v'⟩ := p
              obtain ⟨rfl, _, _, _⟩ := hfd
              obtain ⟨h1, h2⟩ := hH.setObj w hl hbase hb rfl (y := .map (dropK es j) clock) (o := .map ((⟨es'⟩ : Array MapEntry).eraseIdxIfInBounds j) clock) (by
                have : ((⟨es'⟩ : Array MapEntry).eraseIdxIfInBounds j) = ⟨es'.eraseIdx j⟩ := by
                  apply Array.ext'; simp
                rw [this]
                exact .map _ _ clock (her.dropK j))
              refine ⟨_, _, ?_, φ, h2, h1, hund φ⟩
              simp only [Builtin.delete_, List.getElem?_toArray, List.getElem?_cons_zero, List.getElem?_cons_succ, hts, Sem.run_bind, hu, Result.andThen_ok, hget, hchk, hf, run_setObj hw (by intros; simp), Sem.run_pure]
          · rename_i hlk
            simp only [Option.some.injEq] at h; subst h
            obtain ⟨hchk, r', hf, hfd⟩ := lookK_sound hC w hlk hk her
            cases r' with
            | some p => exact hfd.elim
            | none =>
              refine ⟨.tuple #[], w, ?_, φ, Ext.refl _ _ _, hH, hund φ⟩
              have hsame : ({ w with heap := w.heap.setIfInBounds l.c (.map ⟨es'⟩ clock) } : World) = w := by
                have : w.heap.setIfInBounds l.c (.map ⟨es'⟩ clock) = w.heap := by
                  apply Array.ext'
                  rw [Array.toList_setIfInBounds]
                  apply List.ext_getElem?
                  intro q
                  rw [List.getElem?_set]
                  split
                  · subst_vars
                    have hw2 : w.heap.toList[l.c]? = some (.map ⟨es'⟩ clock) := by simpa using hw
                    split
                    · exact hw2.symm
                    · rename_i hlt
                      rw [List.getElem?_eq_none (by omega)] at hw2; cases hw2
                  · rfl
                rw [this]
              simp only [Builtin.delete_, List.getElem?_toArray, List.getElem?_cons_zero, List.getElem?_cons_succ, hts, Sem.run_bind, hu, Result.andThen_ok, hget, hchk, hf, run_setObj hw (by intros; simp), hsame, Sem.run_pure]
          · cases h
      · cases h
  · cases h

theorem conv_goes (hC : COk C) (hρ : ERho φ ρ ev) (hH : HRel C φ H w) {s d : TypeId} {x : Operand} {v : Value} (h : bConv C ρ H s d x = some (v, H')) : Goes C.P ev (.convert s d x) w (Post C φ w H' v) := by
  unfold bConv at h
  split at h
  · rename_i i j str hs hd hx
    have hus := hC.run_und w hs
    have hud := hC.run_und w hd
    have h1 := hρ x _ hx
    split at h
    · rename_i e hi hj
      rw [hi] at hus; rw [hj] at hud
      split at h
      · rename_i ei hei
        have hue := hC.run_und w hei
        split at h
        · rename_i hk
          rw [hk] at hue
          cases hlim : Nat.ble str.size LIMIT
          · rw [hlim] at h; cases h
          · rw [hlim] at h; simp only [cond_true] at h
            split at h
            · rename_i b H1 hnw
              simp only [Option.some.injEq, Prod.mk.injEq] at h
              obtain ⟨rfl, rfl⟩ := h
              generalize he : ev x = u at h1
              cases h1
              have hf : (Question.appendCap str.size 0 e).forced = false := rfl
              generalize hcap : (Question.appendCap str.size 0 e).cut (w.tape w.drawn (.appendCap str.size 0 e)) = cap
              have hle : str.size ≤ cap := by rw [← hcap]; exact Nat.le_add_right _ _
              let cs : Array Value := (str.data.map fun b => Value.int .u8 b.toNat) ++ Array.replicate (cap - str.size) (.int .u8 0)
              have hcs : cs.size = cap := by
                have : str.data.size = str.size := rfl
                simp only [cs, Array.size_append, Array.size_map, Array.size_replicate]; omega
              -- the new row, marked behind its end
              obtain ⟨hb1, φ', h5, h6, h7⟩ := hH.drew.alloc hnw (.cells cs e (cap, cap + 1)) ⟨w.heap.size, 0, cap⟩ rfl (fun φ' hle' _ => by
                refine .cells e _ true ⟨0, true⟩ cs (cap, cap + 1) hcs ?_ (fun h => by cases h) ?_ ⟨fun i _ hi2 => by have : i < cap := hi2; simp; omega, fun h => by cases h⟩
                · show 0 + _ ≤ cap
                  simp only [List.length_map, Array.length_toList]
                  have : str.data.size = str.size := rfl
                  omega
                · rw [List.drop_zero]
                  have e1 : cs.toList.take ((str.data.toList.map fun b => Value.int .u8 b.toNat)).length = str.data.toList.map fun b => Value.int .u8 b.toNat := by
                    simp only [cs, Array.toList_append, Array.toList_map]
                    rw [List.take_left']
                    rfl
                  rw [e1]
                  refine VRels.of rfl ?_
                  intro q a a' ha ha'
                  rw [ha] at ha'; cases ha'
                  rw [List.getElem?_map] at ha
                  cases hq : str.data.toList[q]? with
                  | none => rw [hq] at ha; cases ha
                  | some c => rw [hq] at ha; cases ha; exact .int _ _)
              subst hb1
              have hworld : (w.drew.alloc (.cells cs e)).freeze ⟨w.heap.size, cap, none⟩ 1 = w.drew.alloc (.cells cs e (cap, cap + 1)) := by
                simp only [World.freeze, World.alloc]
                simp only [Nat.one_ne_zero, if_false]
                congr 1
                apply Array.ext'
                apply List.ext_getElem?
                intro q
                simp only [Array.getElem?_toList, Array.getElem?_modify, Array.getElem?_push]
                show (if _ then Option.map _ (if q = w.heap.size then _ else w.heap[q]?) else (if q = w.heap.size then _ else w.heap[q]?)) = (if q = w.heap.size then _ else w.heap[q]?)
                by_cases hq : q = w.heap.size
                · subst hq; simp
                · have : ¬ (w.heap.size = q) := fun e => hq e.symm
                  simp [hq, this]
              refine Goes.of (convert s d (ev x)) (by rintro ⟨dst, op, type, pos, after, guard⟩ ho; subst ho; rfl) (v' := .slice (some ⟨w.heap.size, 0, none⟩) str.size cap)
                (w' := w.drew.alloc (.cells cs e (cap, cap + 1))) ?_ ⟨φ', (Ext.drew C φ w).trans h7, h6, ?_⟩
              · rw [he]
                simp only [convert, Sem.run_bind, hus, hud, Result.andThen_ok, hue, Conv.stringToBytes, run_choose, hf, Bool.false_eq_true, if_false, World.drew_eq, hcap, newRow, run_newObj, Sem.run_pure, markStringish, run_shape]
                have hsh : (w.drew.alloc (.cells cs e)).shape? w.heap.size = some (e, cap) := by
                  have : (w.drew.alloc (.cells cs e)).heap[w.heap.size]? = some (.cells cs e) := heap_push_new
                  unfold World.shape?
                  rw [this]
                  show some (e, cs.size) = _
                  rw [hcs]
                change (Sem.run C.P (match (w.drew.alloc (.cells cs e)).shape? w.heap.size with | some (_, n) => freeze ⟨w.heap.size, n, none⟩ 1 | _ => pure ()) (w.drew.alloc (.cells cs e))).andThen
                  (fun _ w' => Result.ok (Value.slice (some ⟨w.heap.size, 0, none⟩) str.size cap) w') = _
                rw [hsh]
                dsimp only
                rw [run_freeze, hworld]
                rfl
              · have := VRel.opn (φ := φ') H.n 0 str.size cap 1 _ h5 hle (by show 0 + 0 + cap * 1 = cap; omega)
                simpa using this
            · cases h
        · cases h
      · cases h
    · cases h
  · cases h

/-! iterators over maps -/
theorem range_goes (hC : COk C) (hρ : ERho φ ρ ev) (hH : HRel C φ H w) {t : TypeId} {x : Operand} {v : Value} (h : bRange C ρ H t x = some (v, H')) : Goes C.P ev (.range t x) w (Post C φ w H' v) := by
  unfold bRange at h
  split at h
  · rename_i i m hi hx
    have hu := hC.run_und w hi
    have h1 := hρ x _ hx
    split at h
    · rename_i kt et hiu
      rw [hiu] at hu
      generalize he : ev x = u at h1
      split at h
      · cases h1
        obtain ⟨b, hnw, rfl⟩ := newP_spec h
        obtain ⟨rfl, φ', h5, h6, h7⟩ := hH.alloc hnw (.mapIter none 0 #[] 0) ⟨w.heap.size, 0, 0⟩ rfl (fun φ' _ _ => .iterNil 0 0 [] rfl)
        refine Goes.of (Instr.range t (ev x)) (by rintro ⟨dst, op, type, pos, after, guard⟩ ho; subst ho; rfl) (v' := .pointer (some ⟨w.heap.size, 0, none⟩)) (w' := w.alloc (.mapIter none 0 #[] 0)) ?_ ⟨φ', h7, h6, .ptr H.n 0 _ h5⟩
        rw [he]
        simp only [Instr.range, Sem.run_bind, hu, Result.andThen_ok, Sem.run_pure, run_newObj]
        rfl
      · rename_i r
        cases h1 with
        | map _ l hl =>
          split at h
          · rename_i es clock hb
            obtain ⟨es', hw, her⟩ := hH.mapAt hl hb
            obtain ⟨b, hnw, rfl⟩ := newP_spec h
            obtain ⟨rfl, φ', h5, h6, h7⟩ := hH.alloc hnw (.mapIter (some l.c) clock #[] clock) ⟨w.heap.size, 0, 0⟩ rfl (fun φ' hle _ => .iter r l clock clock [] (hle _ _ hl) rfl)
            refine Goes.of (Instr.range t (ev x)) (by rintro ⟨dst, op, type, pos, after, guard⟩ ho; subst ho; rfl) (v' := .pointer (some ⟨w.heap.size, 0, none⟩)) (w' := w.alloc (.mapIter (some l.c) clock #[] clock)) ?_ ⟨φ', h7, h6, .ptr H.n 0 _ h5⟩
            rw [he]
            simp only [Instr.range, Sem.run_bind, hu, Result.andThen_ok, Sem.run_pure, run_getMap hw (by intros; simp), run_newObj]
            rfl
          · cases h
    · cases h
  · cases h

theorem HRel.iterNilAt {w : World} (h : HRel C φ H w) {r : Nat} {l : Loc} (hl : φ r = some l) {since last : Nat} {seen : List Nat} (hb : H.blk r = some (.iter none since seen last)) :
    w.heap[l.c]? = some (.mapIter none since ⟨seen⟩ last) ∧ l.d = 0 := by
  have := h.blk r l _ hl hb
  generalize hg : w.heap[l.c]? = g at this
  cases this with
  | iterNil _ _ _ hd => exact ⟨rfl, hd⟩

theorem ERel.filter {φ : Phi} (p : Nat → Bool) : ∀ {es : List (Value × Value × Nat)} {es' : List MapEntry}, ERel φ es es' → ERel φ (es.filter fun e => p e.2.2) (es'.filter fun e => p e.born)
  | _, _, .nil => .nil
  | _, _, .cons k v b k' v' l l' hk hv hl => by
    simp only [List.filter_cons]
    split
    · exact .cons _ _ _ _ _ _ _ hk hv (ERel.filter p hl)
    · exact ERel.filter p hl

theorem ERel.all {φ : Phi} (p : Nat → Bool) : ∀ {es : List (Value × Value × Nat)} {es' : List MapEntry}, ERel φ es es' → (es.all fun e => p e.2.2) = true → ∀ e ∈ es', p e.born = true
  | _, _, .nil, _, e, he => by cases he
  | _, _, .cons k v b k' v' l l' hk hv hl, h, e, he => by
    simp only [List.all_cons, Bool.and_eq_true] at h
    rcases List.mem_cons.1 he with rfl | he
    · exact h.1
    · exact ERel.all p hl h.2 e he
end
end Go.AM
