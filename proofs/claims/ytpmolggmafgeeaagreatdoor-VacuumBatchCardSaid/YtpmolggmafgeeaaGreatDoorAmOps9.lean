/- AM: copy, maps written, texts of bytes, iterators. -/
import Derived.Test.YtpmolggmafgeeaaGreatDoorAmOps7
namespace Go.AM
open Go
variable [Syms]

section
variable {C : Ctx} {φ : Phi} {ρ : Env} {ev : Operand → Value} {H H' : Heap} (w : World)

theorem copy_goes (hC : COk C) (hH : HRel C φ H w) {dt : TypeId} {ts : Array TypeId} {d x d' x' v : Value} (hts : ts[0]? = some dt) (h : copyB C H dt d x = some (v, H')) (hd : VRel φ d d') (hx : VRel φ x x') (ty : TypeId) :
    ∃ v' w', (Builtin.copy_ ts ty #[d', x']).run C.P w = Result.ok v' w' ∧ Post C φ w H' v v' w' := by
  unfold copyB at h
  split at h
  · rename_i di hdi
    have hu := hC.run_und w hdi
    split at h
    · rename_i e base len cap n hde hn
      rw [hde] at hu
      split at h
      · rename_i ei hei
        dsimp only at h
        have hlen := srcLen_run w (P := C.P) hn hx
        split at h
        · rename_i l hl
          cases hd
          cases hb : Nat.beq l.length 0
          · rw [hb] at h; cases h
          · rw [hb] at h; simp only [cond_true, Option.some.injEq, Prod.mk.injEq] at h
            obtain ⟨rfl, rfl⟩ := h
            obtain ⟨l', hf, hr⟩ := src_run w hH (P := C.P) hl hx
            refine ⟨_, w, ?_, φ, Ext.refl _ _ _, hH, .int _ _⟩
            simp only [Builtin.copy_, List.getElem?_toArray, List.getElem?_cons_zero, List.getElem?_cons_succ, hts, Sem.run_bind, hu, Result.andThen_ok, hlen, hC.run_size w hei, hf, Sem.run_pure]
            rfl
        · rename_i l b off hl
          have key : ∃ lo c', φ b = some lo ∧ d' = .slice (some ⟨lo.c, lo.d + off, none⟩) len c' := by
            cases hd with
            | slc _ _ _ _ lo hlo => exact ⟨lo, _, hlo, rfl⟩
            | opn _ _ _ _ _ lo hlo => exact ⟨lo, _, hlo, rfl⟩
          obtain ⟨lo, c', hlo, rfl⟩ := key
          obtain ⟨l', hf, hr⟩ := src_run w hH (P := C.P) hl hx
          cases hb : Nat.beq l.length 0
          · rw [hb] at h; simp only [cond_false] at h
            split at h
            · rename_i H1 hst
              simp only [Option.some.injEq, Prod.mk.injEq] at h
              obtain ⟨rfl, rfl⟩ := h
              obtain ⟨w', hrun, hr', hext⟩ := hH.store C.P hlo hst hr
              refine ⟨_, w', ?_, φ, hext, hr', .int _ _⟩
              simp only [Builtin.copy_, List.getElem?_toArray, List.getElem?_cons_zero, List.getElem?_cons_succ, hts, Sem.run_bind, hu, Result.andThen_ok, hlen, hC.run_size w hei, hf, Sem.run_pure, hrun]
              rfl
            · cases h
          · rw [hb] at h; simp only [cond_true, Option.some.injEq, Prod.mk.injEq] at h
            obtain ⟨rfl, rfl⟩ := h
            have hnil : l'.toList = [] := by
              have := hr.length
              rw [Nat.eq_of_beq_eq_true hb] at this
              exact List.length_eq_zero_iff.1 this.symm
            refine ⟨_, w, ?_, φ, Ext.refl _ _ _, hH, .int _ _⟩
            simp only [Builtin.copy_, List.getElem?_toArray, List.getElem?_cons_zero, List.getElem?_cons_succ, hts, Sem.run_bind, hu, Result.andThen_ok, hlen, hC.run_size w hei, hf, Sem.run_pure, hnil]
            rfl
        · cases h
      · cases h
    · cases h
  · cases h

/-! maps -/
theorem plainV_rel {φ : Phi} {v v' : Value} (h : plainV v = true) (hr : VRel φ v v') : v' = v := by
  cases hr <;> first | rfl | cases h

theorem plains_rel {φ : Phi} : ∀ {l l' : List Value}, l.all plainV = true → VRels φ l l' → l' = l
  | [], _, _, k => by cases k; rfl
  | v :: l, _, h, k => by
    cases k with
    | cons _ v' _ l' hv hl =>
      simp only [List.all_cons, Bool.and_eq_true] at h
      rw [plainV_rel h.1 hv, plains_rel h.2 hl]

theorem plainK_rel {φ : Phi} {v v' : Value} (h : plainK v = true) (hr : VRel φ v v') : v' = v := by
  unfold plainK at h
  split at h
  · cases hr with
    | agg xs xs' hx => rw [plains_rel (l := xs) h hx]
  · exact plainV_rel h hr

omit [Syms] in
theorem sameBits_plainV {v : Value} (h : plainV v = true) (n : Nat) : Instr.sameBits n v v = true := by
  cases v <;> simp [plainV] at h <;> simp [Instr.sameBits, beq_toListBytes]

omit [Syms] in
theorem sameBits_plain {v : Value} (h : plainK v = true) (n : Nat) : Instr.sameBits (n + 1) v v = true := by
  unfold plainK at h
  split at h
  · rename_i cs
    simp only [Instr.sameBits, beq_self_eq_true, Bool.true_and]
    generalize cs.toList = l at h
    induction l with
    | nil => rfl
    | cons a l ih =>
      simp only [List.all_cons, Bool.and_eq_true] at h
      simp only [List.zip_cons_cons, List.all_cons, sameBits_plainV h.1, Bool.true_and]
      exact ih h.2
  · exact sameBits_plainV h _

omit [Syms] in
theorem all2_eq {eq : Value → Value → Bool} (heq : ∀ a b, eq a b = true → a = b) : ∀ {l l' : List Value}, all2 eq l l' = true → l = l'
  | [], [], _ => rfl
  | [], _ :: _, h => by cases h
  | _ :: _, [], h => by cases h
  | a :: l, b :: l', h => by
    simp only [all2, Bool.and_eq_true] at h
    rw [heq _ _ h.1, all2_eq heq h.2]

omit [Syms] in
theorem veq_eq : ∀ (n : Nat) (a b : Value), veq n a b = true → a = b := by
  intro n
  induction n with
  | zero => intro a b h; cases h
  | succ n ih =>
    intro a b h
    have toL : ∀ {xs ys : Array Value}, xs.toList = ys.toList → xs = ys := fun h => Array.ext' h
    unfold veq at h
    split at h
    · simp at h; rw [h]
    · simp at h; obtain ⟨rfl, rfl⟩ := h; rfl
    · simp at h; obtain ⟨rfl, rfl⟩ := h; rfl
    · rename_i a b
      simp at h
      obtain ⟨⟨x⟩⟩ := a
      obtain ⟨⟨y⟩⟩ := b
      simp at h; rw [h]
    · simp at h; rw [h]
    · simp at h; obtain ⟨⟨rfl, rfl⟩, rfl⟩ := h; rfl
    · simp at h; rw [h]
    · rfl
    · rfl
    · simp only [Bool.and_eq_true, beq_iff_eq] at h
      obtain ⟨rfl, h⟩ := h
      rw [ih _ _ h]
    · rw [toL (all2_eq ih h)]
    · rw [toL (all2_eq ih h)]
    · simp only [Bool.and_eq_true, beq_iff_eq] at h
      obtain ⟨⟨rfl, h1⟩, h2⟩ := h
      rw [toL (all2_eq ih h1), toL (all2_eq ih h2)]
    · cases h

theorem ERel.get {φ : Phi} : ∀ {es : List (Value × Value × Nat)} {es' : List MapEntry}, ERel φ es es' → ∀ {i : Nat} {e}, es[i]? = some e → ∃ e', es'[i]? = some e' ∧ VRel φ e.1 e'.key ∧ VRel φ e.2.1 e'.val ∧ e.2.2 = e'.born
  | _, _, .nil, i, e, h => by simp at h
  | _, _, .cons k v b k' v' l l' hk hv hl, 0, e, h => by
    simp only [List.getElem?_cons_zero, Option.some.injEq] at h; subst h
    exact ⟨_, rfl, hk, hv, rfl⟩
  | _, _, .cons k v b k' v' l l' hk hv hl, i + 1, e, h => by
    simp only [List.getElem?_cons_succ] at h ⊢
    exact ERel.get hl h

theorem ERel.setK {φ : Phi} {k k' x x' : Value} (hk : VRel φ k k') (hx : VRel φ x x') : ∀ {es : List (Value × Value × Nat)} {es' : List MapEntry}, ERel φ es es' → ∀ i,
    ERel φ (AM.setK es i (k, x)) (es'.modify i fun e => { e with key := k', val := x' })
  | _, _, .nil, i => by simp [AM.setK]; exact .nil
  | _, _, .cons a v b a' v' l l' ha hv hl, 0 => by simp [AM.setK]; exact .cons _ _ _ _ _ _ _ hk hx hl
  | _, _, .cons a v b a' v' l l' ha hv hl, i + 1 => by simp [AM.setK]; exact .cons _ _ _ _ _ _ _ ha hv (ERel.setK hk hx hl i)

theorem ERel.dropK {φ : Phi} : ∀ {es : List (Value × Value × Nat)} {es' : List MapEntry}, ERel φ es es' → ∀ i, ERel φ (AM.dropK es i) (es'.eraseIdx i)
  | _, _, .nil, i => by simp [AM.dropK]; exact .nil
  | _, _, .cons a v b a' v' l l' ha hv hl, 0 => by simpa [AM.dropK] using hl
  | _, _, .cons a v b a' v' l l' ha hv hl, i + 1 => by simp [AM.dropK]; exact .cons _ _ _ _ _ _ _ ha hv (ERel.dropK hl i)

theorem ERel.append {φ : Phi} : ∀ {a a' b b'}, ERel φ a a' → ERel φ b b' → ERel φ (a ++ b) (a' ++ b')
  | _, _, _, _, .nil, k => k
  | _, _, _, _, .cons _ _ _ _ _ _ _ hk hv h, k => .cons _ _ _ _ _ _ _ hk hv (ERel.append h k)

omit [Syms] in
theorem run_setObj {P : Program} {w : World} {c : Nat} {o x : Obj} (h : w.heap[c]? = some o) (ho : ∀ a b d, o ≠ .cells a b d) :
    (setObj c x).run P w = Result.ok () { w with heap := w.heap.setIfInBounds c x } := by
  cases o with
  | cells a b d => exact absurd rfl (ho a b d)
  | _ => simp [setObj, Sem.run, h]

/-- a map's block turned -/
theorem HRel.setObj (hH : HRel C φ H w) {r : Nat} {l : Loc} (hl : φ r = some l) (hb : C.base ≤ r) {x y : Blk} (hx : H.blk r = some x) (hlive : x.live = true) {o : Obj} (hy : BRel C φ l y (some o)) :
    HRel C φ (H.set r y) { w with heap := w.heap.setIfInBounds l.c o } ∧ Ext C φ w φ { w with heap := w.heap.setIfInBounds l.c o } := by
  refine hH.turn hl hb hx hlive (w' := { w with heap := w.heap.setIfInBounds l.c o }) ?_ (by simp) ?_ rfl rfl rfl
  · have := (hH.dom r l hl).2.1
    show BRel C φ l y (w.heap.setIfInBounds l.c o)[l.c]?
    rw [Array.getElem?_setIfInBounds_self, if_pos this]
    exact hy
  · intro c hc
    show (w.heap.setIfInBounds l.c o)[c]? = _
    rw [Array.getElem?_setIfInBounds_ne (by omega)]

theorem update_goes (hC : COk C) (hH : HRel C φ H w) {t : TypeId} {m k x m' k' x' : Value} (h : updateB C H t m k x = some H') (hm : VRel φ m m') (hk : VRel φ k k') (hx : VRel φ x x') :
    ∃ w', (Instr.mapUpdate t m' k' x').run C.P w = Result.ok () w' ∧ Post C φ w H' undef undef w' := by
  have hund : ∀ φ', VRel φ' undef undef := fun φ' => .tuple [] [] .nil
  unfold updateB at h
  split at h
  · rename_i i r hi
    have hu := hC.run_und w hi
    cases hm with
    | map _ l hl =>
      split at h
      · rename_i kt et es clock hiu hb
        rw [hiu] at hu
        obtain ⟨es', hw, her⟩ := hH.mapAt hl hb
        have hget := run_getMap (P := C.P) hw (by intros; simp)
        cases hbase : Nat.ble C.base r
        · rw [hbase] at h; cases h
        · rw [hbase] at h; simp only [cond_true] at h
          have hbase := Nat.le_of_ble_eq_true hbase
          split at h
          · rename_i j v0 hlk
            obtain ⟨hchk, r', hf, hfd⟩ := lookK_sound hC w hlk hk her
            cases r' with
            | none => exact hfd.elim
            | some p =>
              obtain ⟨j', v'⟩ := p
              obtain ⟨rfl, _, _, _⟩ := hfd
              split at h
              · rename_i e he
                cases hp : (plainK k && veq 2 e.1 k)
                · rw [hp] at h; cases h
                · rw [hp] at h; simp only [cond_true, Option.some.injEq] at h; subst h
                  simp only [Bool.and_eq_true] at hp
                  have hek := veq_eq 2 _ _ hp.2
                  obtain ⟨e', he', hek', _⟩ := her.get he
                  have hk1 : k' = k := plainK_rel hp.1 hk
                  have hk2 : e'.key = k := plainK_rel hp.1 (hek ▸ hek')
                  have hsb : Instr.sameBits 10000 k k = true := sameBits_plain hp.1 9999
                  obtain ⟨h1, h2⟩ := hH.setObj w hl hbase hb rfl (y := .map (setK es j (k, x)) clock) (o := .map ((⟨es'⟩ : Array MapEntry).modify j fun e => { e with key := k', val := x' }) clock) (by
                    have : ((⟨es'⟩ : Array MapEntry).modify j fun e => { e with key := k', val := x' }) = ⟨es'.modify j fun e => { e with key := k', val := x' }⟩ := by
                      apply Array.ext'; simp
                    rw [this]
                    exact .map _ _ clock (ERel.setK hk hx her j))
                  refine ⟨_, ?_, φ, h2, h1, hund φ⟩
                  have he2 : ((⟨es'⟩ : Array MapEntry)[j]?) = some e' := by simpa using he'
                  simp only [Instr.mapUpdate, Sem.run_bind, hu, Result.andThen_ok, hget, hchk, hf, he2, Option.map_some, Option.getD_some, Instr.keyThatStays]
                  rw [hk2, hk1, hsb]
                  simp only [if_true, Sem.run_pure, Result.andThen_ok]
                  exact run_setObj hw (by intros; simp)
              · cases h
          · rename_i hlk
            simp only [Option.some.injEq] at h; subst h
            obtain ⟨hchk, r', hf, hfd⟩ := lookK_sound hC w hlk hk her
            cases r' with
            | some p => exact hfd.elim
            | none =>
              obtain ⟨h1, h2⟩ := hH.setObj w hl hbase hb rfl (y := .map (es ++ [(k, x, clock)]) (clock + 1)) (o := .map ((⟨es'⟩ : Array MapEntry).push { key := k', val := x', born := clock }) (clock + 1)) (by
                have : ((⟨es'⟩ : Array MapEntry).push { key := k', val := x', born := clock }) = ⟨es' ++ [{ key := k', val := x', born := clock }]⟩ := by apply Array.ext'; simp
                rw [this]
                exact .map _ _ _ (her.append (.cons _ _ _ _ _ _ _ hk hx .nil)))
              refine ⟨_, ?_, φ, h2, h1, hund φ⟩
              simp only [Instr.mapUpdate, Sem.run_bind, hu, Result.andThen_ok, hget, hchk, hf]
              exact run_setObj hw (by intros; simp)
          · cases h
      · cases h
  · cases h

theorem delete_goes (hC : COk C) (hH : HRel C φ H w) {t : TypeId} {ts : Array TypeId} (hts : ts[0]? = some t) {m k m' k' : Value} (h : deleteB C H t m k = some H') (hm : VRel φ m m') (hk : VRel φ k k') (ty : TypeId) :
    ∃ v' w', (Builtin.delete_ ts ty #[m', k']).run C.P w = Result.ok v' w' ∧ Post C φ w H' (.tuple #[]) v' w' := by
  have hund : ∀ φ', VRel φ' (.tuple #[]) (.tuple #[]) := fun φ' => .tuple [] [] .nil
  unfold deleteB at h
  split at h
  · rename_i i r hi
    have hu := hC.run_und w hi
    cases hm with
    | map _ l hl =>
      split at h
      · rename_i kt et es clock hiu hb
        rw [hiu] at hu
        obtain ⟨es', hw, her⟩ := hH.mapAt hl hb
        have hget := run_getMap (P := C.P) hw (by intros; simp)
        cases hbase : Nat.ble C.base r
        · rw [hbase] at h; cases h
        · rw [hbase] at h; simp only [cond_true] at h
          have hbase := Nat.le_of_ble_eq_true hbase
          split at h
          · rename_i j v0 hlk
            simp only [Option.some.injEq] at h; subst h
            obtain ⟨hchk, r', hf, hfd⟩ := lookK_sound hC w hlk hk her
            cases r' with
            | none => exact hfd.elim
            | some p =>
              obtain ⟨j', v'⟩ := p
              obtain ⟨rfl, _, _, _⟩ := hfd
              obtain ⟨h1, h2⟩ := hH.setObj w hl hbase hb rfl (y := .map (dropK es j) clock) (o := .map ((⟨es'⟩ : Array MapEntry).eraseIdxIfInBounds j) clock) (by
                have : ((⟨es'⟩ : Array MapEntry).eraseIdxIfInBounds j) = ⟨es'.eraseIdx j⟩ := by
                  apply Array.ext'; simp
                rw [this]
                exact .map _ _ clock (her.dropK j))
              refine ⟨_, _, ?_, φ, h2, h1, hund φ⟩
              simp only [Builtin.delete_, List.getElem?_toArray, List.getElem?_cons_zero, List.getElem?_cons_succ, hts, Sem.run_bind, hu, Result.andThen_ok, hget, hchk, hf, run_setObj hw (by intros; simp), Sem.run_pure]
          · rename_i hlk
            simp only [Option.some.injEq] at h; subst h
            obtain ⟨hchk, r', hf, hfd⟩ := lookK_sound hC w hlk hk her
            cases r' with
            | some p => exact hfd.elim
            | none =>
              refine ⟨.tuple #[], w, ?_, φ, Ext.refl _ _ _, hH, hund φ⟩
              have hsame : ({ w with heap := w.heap.setIfInBounds l.c (.map ⟨es'⟩ clock) } : World) = w := by
                have : w.heap.setIfInBounds l.c (.map ⟨es'⟩ clock) = w.heap := by
                  apply Array.ext'
                  rw [Array.toList_setIfInBounds]
                  apply List.ext_getElem?
                  intro q
                  rw [List.getElem?_set]
                  split
                  · subst_vars
                    have hw2 : w.heap.toList[l.c]? = some (.map ⟨es'⟩ clock) := by simpa using hw
                    split
                    · exact hw2.symm
                    · rename_i hlt
                      rw [List.getElem?_eq_none (by omega)] at hw2; cases hw2
                  · rfl
                rw [this]
              simp only [Builtin.delete_, List.getElem?_toArray, List.getElem?_cons_zero, List.getElem?_cons_succ, hts, Sem.run_bind, hu, Result.andThen_ok, hget, hchk, hf, run_setObj hw (by intros; simp), hsame, Sem.run_pure]
          · cases h
      · cases h
  · cases h

theorem conv_goes (hC : COk C) (hρ : ERho φ ρ ev) (hH : HRel C φ H w) {s d : TypeId} {x : Operand} {v : Value} (h : bConv C ρ H s d x = some (v, H')) : Goes C.P ev (.convert s d x) w (Post C φ w H' v) := by
  unfold bConv at h
  split at h
  · rename_i i j str hs hd hx
    have hus := hC.run_und w hs
    have hud := hC.run_und w hd
    have h1 := hρ x _ hx
    split at h
    · rename_i e hi hj
      rw [hi] at hus; rw [hj] at hud
      split at h
      · rename_i ei hei
        have hue := hC.run_und w hei
        split at h
        · rename_i hk
          rw [hk] at hue
          cases hlim : Nat.ble str.size LIMIT
          · rw [hlim] at h; cases h
          · rw [hlim] at h; simp only [cond_true] at h
            split at h
            · rename_i b H1 hnw
              simp only [Option.some.injEq, Prod.mk.injEq] at h
              obtain ⟨rfl, rfl⟩ := h
              generalize he : ev x = u at h1
              cases h1
              have hf : (Question.appendCap str.size 0 e).forced = false := rfl
              generalize hcap : (Question.appendCap str.size 0 e).cut (w.tape w.drawn (.appendCap str.size 0 e)) = cap
              have hle : str.size ≤ cap := by rw [← hcap]; exact Nat.le_add_right _ _
              let cs : Array Value := (str.data.map fun b => Value.int .u8 b.toNat) ++ Array.replicate (cap - str.size) (.int .u8 0)
              have hcs : cs.size = cap := by
                have : str.data.size = str.size := rfl
                simp only [cs, Array.size_append, Array.size_map, Array.size_replicate]; omega
              -- the new row, marked behind its end
              obtain ⟨hb1, φ', h5, h6, h7⟩ := hH.drew.alloc hnw (.cells cs e (cap, cap + 1)) ⟨w.heap.size, 0, cap⟩ rfl (fun φ' hle' _ => by
                refine .cells e _ true ⟨0, true⟩ cs (cap, cap + 1) hcs ?_ (fun h => by cases h) ?_ ⟨fun i _ hi2 => by have : i < cap := hi2; simp; omega, fun h => by cases h⟩
                · show 0 + _ ≤ cap
                  simp only [List.length_map, Array.length_toList]
                  have : str.data.size = str.size := rfl
                  omega
                · rw [List.drop_zero]
                  have e1 : cs.toList.take ((str.data.toList.map fun b => Value.int .u8 b.toNat)).length = str.data.toList.map fun b => Value.int .u8 b.toNat := by
                    simp only [cs, Array.toList_append, Array.toList_map]
                    rw [List.take_left']
                    rfl
                  rw [e1]
                  refine VRels.of rfl ?_
                  intro q a a' ha ha'
                  rw [ha] at ha'; cases ha'
                  rw [List.getElem?_map] at ha
                  cases hq : str.data.toList[q]? with
                  | none => rw [hq] at ha; cases ha
                  | some c => rw [hq] at ha; cases ha; exact .int _ _)
              subst hb1
              have hworld : (w.drew.alloc (.cells cs e)).freeze ⟨w.heap.size, cap, none⟩ 1 = w.drew.alloc (.cells cs e (cap, cap + 1)) := by
                simp only [World.freeze, World.alloc]
                simp only [Nat.one_ne_zero, if_false]
                congr 1
                apply Array.ext'
                apply List.ext_getElem?
                intro q
                simp only [Array.getElem?_toList, Array.getElem?_modify, Array.getElem?_push]
                show (if _ then Option.map _ (if q = w.heap.size then _ else w.heap[q]?) else (if q = w.heap.size then _ else w.heap[q]?)) = (if q = w.heap.size then _ else w.heap[q]?)
                by_cases hq : q = w.heap.size
                · subst hq; simp
                · have : ¬ (w.heap.size = q) := fun e => hq e.symm
                  simp [hq, this]
              refine Goes.of (convert s d (ev x)) (by rintro ⟨dst, op, type, pos, after, guard⟩ ho; subst ho; rfl) (v' := .slice (some ⟨w.heap.size, 0, none⟩) str.size cap)
                (w' := w.drew.alloc (.cells cs e (cap, cap + 1))) ?_ ⟨φ', (Ext.drew C φ w).trans h7, h6, ?_⟩
              · rw [he]
                simp only [convert, Sem.run_bind, hus, hud, Result.andThen_ok, hue, Conv.stringToBytes, run_choose, hf, Bool.false_eq_true, if_false, World.drew_eq, hcap, newRow, run_newObj, Sem.run_pure, markStringish, run_shape]
                have hsh : (w.drew.alloc (.cells cs e)).shape? w.heap.size = some (e, cap) := by
                  have : (w.drew.alloc (.cells cs e)).heap[w.heap.size]? = some (.cells cs e) := heap_push_new
                  unfold World.shape?
                  rw [this]
                  show some (e, cs.size) = _
                  rw [hcs]
                change (Sem.run C.P (match (w.drew.alloc (.cells cs e)).shape? w.heap.size with | some (_, n) => freeze ⟨w.heap.size, n, none⟩ 1 | _ => pure ()) (w.drew.alloc (.cells cs e))).andThen
                  (fun _ w' => Result.ok (Value.slice (some ⟨w.heap.size, 0, none⟩) str.size cap) w') = _
                rw [hsh]
                dsimp only
                rw [run_freeze, hworld]
                rfl
              · have := VRel.opn (φ := φ') H.n 0 str.size cap 1 _ h5 hle (by show 0 + 0 + cap * 1 = cap; omega)
                simpa using this
            · cases h
        · cases h
      · cases h
    · cases h
  · cases h

/-! iterators over maps -/
theorem range_goes (hC : COk C) (hρ : ERho φ ρ ev) (hH : HRel C φ H w) {t : TypeId} {x : Operand} {v : Value} (h : bRange C ρ H t x = some (v, H')) : Goes C.P ev (.range t x) w (Post C φ w H' v) := by
  unfold bRange at h
  split at h
  · rename_i i m hi hx
    have hu := hC.run_und w hi
    have h1 := hρ x _ hx
    split at h
    · rename_i kt et hiu
      rw [hiu] at hu
      generalize he : ev x = u at h1
      split at h
      · cases h1
        obtain ⟨b, hnw, rfl⟩ := newP_spec h
        obtain ⟨rfl, φ', h5, h6, h7⟩ := hH.alloc hnw (.mapIter none 0 #[] 0) ⟨w.heap.size, 0, 0⟩ rfl (fun φ' _ _ => .iterNil 0 0 [] rfl)
        refine Goes.of (Instr.range t (ev x)) (by rintro ⟨dst, op, type, pos, after, guard⟩ ho; subst ho; rfl) (v' := .pointer (some ⟨w.heap.size, 0, none⟩)) (w' := w.alloc (.mapIter none 0 #[] 0)) ?_ ⟨φ', h7, h6, .ptr H.n 0 _ h5⟩
        rw [he]
        simp only [Instr.range, Sem.run_bind, hu, Result.andThen_ok, Sem.run_pure, run_newObj]
        rfl
      · rename_i r
        cases h1 with
        | map _ l hl =>
          split at h
          · rename_i es clock hb
            obtain ⟨es', hw, her⟩ := hH.mapAt hl hb
            obtain ⟨b, hnw, rfl⟩ := newP_spec h
            obtain ⟨rfl, φ', h5, h6, h7⟩ := hH.alloc hnw (.mapIter (some l.c) clock #[] clock) ⟨w.heap.size, 0, 0⟩ rfl (fun φ' hle _ => .iter r l clock clock [] (hle _ _ hl) rfl)
            refine Goes.of (Instr.range t (ev x)) (by rintro ⟨dst, op, type, pos, after, guard⟩ ho; subst ho; rfl) (v' := .pointer (some ⟨w.heap.size, 0, none⟩)) (w' := w.alloc (.mapIter (some l.c) clock #[] clock)) ?_ ⟨φ', h7, h6, .ptr H.n 0 _ h5⟩
            rw [he]
            simp only [Instr.range, Sem.run_bind, hu, Result.andThen_ok, Sem.run_pure, run_getMap hw (by intros; simp), run_newObj]
            rfl
          · cases h
    · cases h
  · cases h

theorem HRel.iterNilAt {w : World} (h : HRel C φ H w) {r : Nat} {l : Loc} (hl : φ r = some l) {since last : Nat} {seen : List Nat} (hb : H.blk r = some (.iter none since seen last)) :
    w.heap[l.c]? = some (.mapIter none since ⟨seen⟩ last) ∧ l.d = 0 := by
  have := h.blk r l _ hl hb
  generalize hg : w.heap[l.c]? = g at this
  cases this with
  | iterNil _ _ _ hd => exact ⟨rfl, hd⟩

theorem ERel.filter {φ : Phi} (p : Nat → Bool) : ∀ {es : List (Value × Value × Nat)} {es' : List MapEntry}, ERel φ es es' → ERel φ (es.filter fun e => p e.2.2) (es'.filter fun e => p e.born)
  | _, _, .nil => .nil
  | _, _, .cons k v b k' v' l l' hk hv hl => by
    simp only [List.filter_cons]
    split
    · exact .cons _ _ _ _ _ _ _ hk hv (ERel.filter p hl)
    · exact ERel.filter p hl

theorem ERel.all {φ : Phi} (p : Nat → Bool) : ∀ {es : List (Value × Value × Nat)} {es' : List MapEntry}, ERel φ es es' → (es.all fun e => p e.2.2) = true → ∀ e ∈ es', p e.born = true
  | _, _, .nil, _, e, he => by cases he
  | _, _, .cons k v b k' v' l l' hk hv hl, h, e, he => by
    simp only [List.all_cons, Bool.and_eq_true] at h
    rcases List.mem_cons.1 he with rfl | he
    · exact h.1
    · exact ERel.all p hl h.2 e he
end
end Go.AM
namespace Go.AM
open Go
variable [Syms]

section
variable {C : Ctx} {φ : Phi} {ρ : Env} {ev : Operand → Value} {H H' : Heap} (w : World)

omit [Syms] in
theorem filter_self {α : Type} {p : α → Bool} : ∀ {l : List α}, (∀ e ∈ l, p e = true) → l.filter p = l
  | [], _ => rfl
  | a :: l, h => by rw [List.filter_cons, if_pos (h a (by simp)), filter_self (fun e he => h e (by simp [he]))]

omit [Syms] in
theorem filter_none {α : Type} {p : α → Bool} : ∀ {l : List α}, (∀ e ∈ l, p e = false) → l.filter p = []
  | [], _ => rfl
  | a :: l, h => by rw [List.filter_cons, if_neg (by rw [h a (by simp)]; simp), filter_none (fun e he => h e (by simp [he]))]

theorem next_goes (hH : HRel C φ H w) {it it' v : Value} (h : nextB C H it = some (v, H')) (hit : VRel φ it it') (ty : TypeId) :
    ∃ v' w', (Instr.next it' false ty).run C.P w = Result.ok v' w' ∧ Post C φ w H' v v' w' := by
  unfold nextB at h
  split at h
  · rename_i r
    cases hit with
    | ptr _ _ l hl =>
      split at h
      · rename_i since last seen hb
        simp only [Option.some.injEq, Prod.mk.injEq] at h
        obtain ⟨rfl, rfl⟩ := h
        obtain ⟨hw, hd⟩ := hH.iterNilAt hl hb
        refine ⟨.tuple #[.bool false], w, ?_, φ, Ext.refl _ _ _, hH, .tuple [_] [_] (.cons _ _ _ _ (.bool false) .nil)⟩
        rw [hd]
        simp only [Instr.next, Nat.add_zero, Sem.run_bind, run_getMap hw (by intros; simp), Result.andThen_ok, Sem.run_pure]
      · rename_i m since seen last hb
        obtain ⟨lm, hlm, hw, hd⟩ := hH.iterAt hl hb
        split at h
        · rename_i es clock hm
          obtain ⟨es', hw2, her⟩ := hH.mapAt hlm hm
          cases hc : (Nat.ble C.base r && Nat.ble since last && (es.all fun e => Nat.blt e.2.2 since))
          · rw [hc] at h; cases h
          · rw [hc] at h; simp only [cond_true] at h
            simp only [Bool.and_eq_true] at hc
            obtain ⟨⟨hc1, hc2⟩, hc3⟩ := hc
            have hc1 := Nat.le_of_ble_eq_true hc1
            have hc2 := Nat.le_of_ble_eq_true hc2
            have hborn : ∀ e ∈ es', e.born < since := fun e he => lt_of_blt (her.all (fun b => Nat.blt b since) hc3 e he)
            have hfl := her.filter (fun b => !seen.contains b)
            have hun : (!(⟨seen⟩ : Array Nat).isEmpty && !(⟨es'⟩ : Array MapEntry).isEmpty && (⟨es'⟩ : Array MapEntry).all (fun e => decide (e.born ≥ last))) = false := by
              cases es' with
              | nil => simp
              | cons e es'' =>
                have : (⟨e :: es''⟩ : Array MapEntry).all (fun e => decide (e.born ≥ last)) = false := by
                  have := hborn e (by simp)
                  simp; intro hh; omega
                rw [this]; simp
            have hleft : ((⟨es'⟩ : Array MapEntry).filter fun e => !(⟨seen⟩ : Array Nat).contains e.born) = ⟨es'.filter fun e => !seen.contains e.born⟩ := by
              apply Array.ext'; simp
            have hold : ∀ l : List MapEntry, (∀ e ∈ l, e.born < since) → ((⟨l⟩ : Array MapEntry).filter fun e => decide (e.born < since)) = ⟨l⟩ := by
              intro l hl
              apply Array.ext'
              rw [Array.toList_filter]
              exact filter_self (fun e he => by simpa using hl e he)
            have hnew : ∀ l : List MapEntry, (∀ e ∈ l, e.born < since) → ((⟨l⟩ : Array MapEntry).filter fun e => decide (e.born ≥ since)) = #[] := by
              intro l hl
              apply Array.ext'
              rw [Array.toList_filter]
              exact filter_none (fun e he => by have := hl e he; simpa using this)
            have hmem : ∀ e ∈ es'.filter (fun e => !seen.contains e.born), e.born < since := fun e he => hborn e (List.mem_filter.1 he).1
            have hget := run_getMap (P := C.P) hw (by intros; simp)
            have hget2 := run_getMap (P := C.P) hw2 (by intros; simp)
            rw [hd]
            split at h
            · rename_i hnil
              simp only [Option.some.injEq, Prod.mk.injEq] at h
              obtain ⟨rfl, rfl⟩ := h
              rw [hnil] at hfl
              generalize hg : es'.filter (fun e => !seen.contains e.born) = g at hfl hleft
              cases hfl
              refine ⟨.tuple #[.bool false], w, ?_, φ, Ext.refl _ _ _, hH, .tuple [_] [_] (.cons _ _ _ _ (.bool false) .nil)⟩
              simp only [Instr.next, Nat.add_zero, Sem.run_bind, hget, hget2, Result.andThen_ok, hun, Bool.false_eq_true, if_false, hleft, hold [] (by simp), hnew [] (by simp), run_choose]
              simp [Question.forced]
            · rename_i e he
              simp only [Option.some.injEq, Prod.mk.injEq] at h
              obtain ⟨rfl, rfl⟩ := h
              rw [he] at hfl
              generalize hg : es'.filter (fun e => !seen.contains e.born) = g at hfl hleft hmem
              cases hfl with
              | cons k x b k' x' _ l' hk hx hl' =>
                cases hl'
                obtain ⟨h1, h2⟩ := hH.setObj w hl hc1 hb rfl (y := .iter (some m) since (seen ++ [b]) clock) (o := .mapIter (some lm.c) since ((⟨seen⟩ : Array Nat).push b) clock) (by
                  have : (⟨seen⟩ : Array Nat).push b = ⟨seen ++ [b]⟩ := by apply Array.ext'; simp
                  rw [this]
                  exact .iter m lm since clock _ hlm hd)
                refine ⟨.tuple #[.bool true, k', x'], _, ?_, φ, h2, h1, .tuple [_, _, _] [_, _, _] (.cons _ _ _ _ (.bool true) (.cons _ _ _ _ hk (.cons _ _ _ _ hx .nil)))⟩
                simp only [Instr.next, Nat.add_zero, Sem.run_bind, hget, hget2, Result.andThen_ok, hun, Bool.false_eq_true, if_false, hleft, hold _ hmem, hnew _ hmem, run_choose]
                simp [Question.forced, run_setObj hw (by intros; simp)]
            · cases h
        · cases h
      · cases h
  · cases h

omit [Syms] in
theorem rep_zero (z : Array Value) (n : Nat) : (Builtin.zeroCells z n).toList = rep n z.toList := rep_eq n z

theorem clear_goes (hC : COk C) (hH : HRel C φ H w) {t : TypeId} {ts : Array TypeId} {x x' v : Value} (hts : ts[0]? = some t) (h : clearB C H t x = some (v, H')) (hx : VRel φ x x') (ty : TypeId) :
    ∃ v' w', (Builtin.clear_ ts ty #[x']).run C.P w = Result.ok v' w' ∧ Post C φ w H' v v' w' := by
  unfold clearB at h
  split at h
  · rename_i i base len cap hi
    have hu := hC.run_und w hi
    cases hz : Nat.beq len 0
    · rw [hz] at h; simp only [cond_false] at h
      have hne : len ≠ 0 := by intro e; subst e; cases hz
      split at h
      · rename_i e b off he
        split at h
        · rename_i j hj
          split at h
          · rename_i z hzz
            split at h
            · rename_i H1 hst
              simp only [Option.some.injEq, Prod.mk.injEq] at h
              obtain ⟨rfl, rfl⟩ := h
              have key : ∃ lo c', φ b = some lo ∧ x' = .slice (some ⟨lo.c, lo.d + off, none⟩) len c' := by
                cases hx with
                | slc _ _ _ _ lo hlo => exact ⟨lo, _, hlo, rfl⟩
                | opn _ _ _ _ _ lo hlo => exact ⟨lo, _, hlo, rfl⟩
              obtain ⟨lo, c', hlo, rfl⟩ := key
              have hflat : z.cells.toList.all flat = true := by
                obtain ⟨i', _, _, h1, _⟩ := hC.run_info w hj
                exact (h1 z hzz).2
              obtain ⟨w', hrun, hr', hext⟩ := hH.store C.P hlo hst (VRels.rep (flats_rel hflat) len)
              refine ⟨.tuple #[], w', ?_, φ, hext, hr', .tuple [] [] .nil⟩
              obtain ⟨n, rfl⟩ : ∃ n, len = n + 1 := ⟨len - 1, by omega⟩
              simp only [Builtin.clear_, List.getElem?_toArray, List.getElem?_cons_zero, hts, Sem.run_bind, hu, he, Result.andThen_ok, hC.run_zero w hj hzz, rep_zero, hrun, Sem.run_pure]
            · cases h
          · cases h
        · cases h
      · cases h
    · rw [hz] at h; simp only [cond_true, Option.some.injEq, Prod.mk.injEq] at h
      obtain ⟨rfl, rfl⟩ := h
      obtain rfl := Nat.eq_of_beq_eq_true hz
      refine ⟨.tuple #[], w, ?_, φ, Ext.refl _ _ _, hH, .tuple [] [] .nil⟩
      cases hx <;> simp [Builtin.clear_, hts, hu]
  · cases h
end
end Go.AM
namespace Go.AM
open Go
variable [Syms]

omit [Syms] in
theorem run_loadBytes {P : Program} {w : World} (c : Nat) : ∀ (l : List Value) (r : List UInt8) (off : Nat) (acc : ByteArray), bytesOf l = some r →
    (∀ j v', l[j]? = some v' → w.cell? ⟨c, off + j, none⟩ = some v') → (loadBytes ⟨c, off, none⟩ acc l.length).run P w = Result.ok ⟨(acc.data.toList ++ r).toArray⟩ w := by
  intro l
  induction l with
  | nil =>
    intro r off acc h _
    simp only [bytesOf, Option.some.injEq] at h; subst h
    simp [loadBytes]
  | cons v l ih =>
    intro r off acc h hc
    unfold bytesOf at h
    split at h
    · rename_i heq; cases heq
    · rename_i n l0 heq
      simp only [List.cons.injEq] at heq
      obtain ⟨rfl, rfl⟩ := heq
      split at h
      · rename_i r0 hr0
        simp only [Option.some.injEq] at h; subst h
        have h0 := hc 0 _ rfl
        have hrun : (load ⟨c, off, none⟩).run P w = Result.ok (.int .u8 n) w := by
          simp only [load, Sem.run]
          rw [show (⟨c, off, none⟩ : Addr) = ⟨c, off + 0, none⟩ from rfl, h0]
        simp only [List.length_cons, loadBytes, Sem.run_bind, hrun, Result.andThen_ok]
        rw [addr_add]
        rw [ih r0 (off + 1) _ hr0 (fun j v' hj => by rw [Nat.add_assoc, Nat.add_comm 1 j]; exact hc (j + 1) v' (by simpa using hj))]
        congr 3
        simp [ByteArray.push]
      · cases h
    · cases h

section
variable {C : Ctx} {φ : Phi} {ρ : Env} {ev : Operand → Value} {H H' : Heap} (w : World)

theorem freeze_turn (hH : HRel C φ H w) {b off n : Nat} {l : Loc} (hl : φ b = some l) (hbase : C.base ≤ b) {e : TypeId} {vs : List Value} {o : Bool} {z : Fz}
    (hb : H.blk b = some (.cells e vs o z)) (hzs : z.s = false) (hn : n ≠ 0) :
    HRel C φ (H.set b (.cells e vs o ⟨bif Nat.ble z.z (off + n) then off + n else z.z, false⟩)) (w.freeze ⟨l.c, l.d + off, none⟩ n) ∧ Ext C φ w φ (w.freeze ⟨l.c, l.d + off, none⟩ n) := by
  obtain ⟨cs, fr, hcs, hcn, hdl, hex, hvr, hzf⟩ := hH.row hl hb
  have hfr := hzf.2 hzs
  obtain ⟨lo, hi⟩ := fr
  have hz' : ∀ k, (bif Nat.ble z.z (off + n) then off + n else z.z) ≤ k → off + n ≤ k ∧ z.z ≤ k := by
    intro k hk
    cases hb2 : Nat.ble z.z (off + n)
    · rw [hb2] at hk; simp only [cond_false] at hk
      have := not_ble hb2; omega
    · rw [hb2] at hk; simp only [cond_true] at hk
      have := Nat.le_of_ble_eq_true hb2; omega
  refine hH.turn hl hbase hb rfl (w' := w.freeze ⟨l.c, l.d + off, none⟩ n) ?_ ?_ ?_ ?_ ?_ ?_
  · have hw : (w.freeze ⟨l.c, l.d + off, none⟩ n).heap[l.c]? = some (.cells cs e (if lo == hi then (l.d + off, l.d + off + n) else (min lo (l.d + off), max hi (l.d + off + n)))) := by
      simp only [World.freeze, if_neg hn, Array.getElem?_modify, hcs]
      simp
    rw [hw]
    refine .cells e vs o _ cs _ hcn hdl hex hvr ⟨?_, ?_⟩
    · intro i hi1 hi2
      have hk := hz' (i - l.d) (by have : l.d + (bif Nat.ble z.z (off + n) then off + n else z.z) ≤ i := hi1; omega)
      split
      · dsimp only; omega
      · rename_i hne
        have hne' : lo ≠ hi := by simpa using hne
        dsimp only at hfr ⊢
        rcases hfr with h | h
        · exact absurd h hne'
        · intro ⟨_, h2⟩
          have : max hi (l.d + off + n) ≤ i := Nat.max_le.2 ⟨by omega, by omega⟩
          omega
    · intro _
      have hk := hz' _ (Nat.le_refl _)
      split
      · right; dsimp only; omega
      · rename_i hne
        have hne' : lo ≠ hi := by simpa using hne
        dsimp only at hfr ⊢
        rcases hfr with h | h
        · exact absurd h hne'
        · right
          exact Nat.max_le.2 ⟨by omega, by omega⟩
  · simp only [World.freeze, if_neg hn, Array.size_modify]
  · intro c hc
    simp only [World.freeze, if_neg hn, Array.getElem?_modify]
    rw [if_neg (by omega)]
  · simp only [World.freeze, if_neg hn]
  · simp only [World.freeze, if_neg hn]
  · simp only [World.freeze, if_neg hn]

omit [Syms] in
theorem lies_row {P : Program} {e u : TypeId} {cells off n : Nat} (hs : P.cellsOf e = 1) (hf : sameLayout P P.depth e u = true) (hle : off + n ≤ cells) : liesAt P P.depth e (cells / P.cellsOf e) off u n = true := by
  have hd : P.depth = (2 * (P.types.size + Made.depth) + 1) + 1 := rfl
  rw [hs, Nat.div_one]
  have h1 : rowAt P (sameLayout P P.depth · u) P.depth e cells off n = true := by
    conv => lhs; arg 3; rw [hd]
    unfold rowAt
    simp only [hs, Nat.one_ne_zero, if_false, Nat.div_one, Nat.mod_one, beq_self_eq_true, Bool.true_and, hf, Bool.and_true]
    have : decide (off + n ≤ cells) = true := by simpa using hle
    rw [this]; rfl
  conv => lhs; arg 2; rw [hd]
  unfold liesAt
  rw [h1]; rfl

theorem string_goes (hC : COk C) (hH : HRel C φ H w) {ts : Array TypeId} {args args' : List Value} {v : Value} (h : bString C H ts.toList (some args) = some (v, H')) (ha : VRels φ args args') (ty : TypeId) :
    ∃ v' w', (Builtin.unsafeString_ ts ty ⟨args'⟩).run C.P w = Result.ok v' w' ∧ Post C φ w H' v v' w' := by
  unfold bString at h
  split at h
  · rename_i p nv pt it hargs hts
    simp only [Option.some.injEq] at hargs; subst hargs
    have hts2 : ts = #[pt, it] := Array.ext' hts
    subst hts2
    split at h
    · rename_i n pi hn hpi
      have hu := hC.run_und w hpi
      split at h
      · rename_i u hpu
        rw [hpu] at hu
        have helem : (elemOf pt).run C.P w = Result.ok u w := by simp only [elemOf, Sem.run_bind, hu, Result.andThen_ok, Sem.run_pure]
        cases ha with
        | cons _ p' _ tl' hp' htl =>
          cases htl with
          | cons _ n' _ tl2 hn' htl2 =>
            cases htl2
            obtain ⟨k, rfl⟩ := natOf_rel hn hn'
            have step : ∀ (q : Option Addr), p' = .pointer q → n < 2 ^ 62 → (Builtin.unsafeString_ #[pt, it] ty ⟨[p', .int k (Int.ofNat n)]⟩).run C.P w =
                ((match q with
                  | none => if (Int.ofNat n) = 0 then pure (.string .empty) else runtimePanic (.error "unsafe.String: ptr is nil and len is not zero")
                  | some a => if (Int.ofNat n) = 0 then pure (.string .empty) else do
                    if ← variablesAt a (← elemOf pt) (Int.ofNat n).toNat then do
                      let s ← loadBytes a .empty (Int.ofNat n).toNat
                      freeze a (Int.ofNat n).toNat
                      pure (.string s)
                    else unsupported (.unsafePointer "String: not so many bytes at ptr")) : Sem Value).run C.P w := by
              rintro q rfl hlt
              have h1 : ¬ (Int.ofNat n < 0) := by simp
              have h2 : ¬ (Int.ofNat n > IntKind.i64.max) := by rw [IntKind.max_i64]; simp only [Int.ofNat_eq_natCast]; omega
              cases q with
              | none =>
                have hdef : Builtin.unsafeString_ #[pt, it] ty #[.pointer none, .int k (Int.ofNat n)] = (do
                    let m ← asInt (.int k (Int.ofNat n))
                    if m < 0 then runtimePanic (.error "unsafe.String: len out of range")
                    if m > IntKind.i64.max then unsupported (.unsafePointer "String: a length above the largest int")
                    if m = 0 then pure (.string .empty) else runtimePanic (.error "unsafe.String: ptr is nil and len is not zero")) := rfl
                show (Builtin.unsafeString_ #[pt, it] ty #[.pointer none, .int k (Int.ofNat n)]).run C.P w = _
                rw [hdef]
                simp only [asInt, asIntOf, pure_bind, h1, h2, if_false]
              | some a =>
                have hdef : Builtin.unsafeString_ #[pt, it] ty #[.pointer (some a), .int k (Int.ofNat n)] = (do
                    let m ← asInt (.int k (Int.ofNat n))
                    if m < 0 then runtimePanic (.error "unsafe.String: len out of range")
                    if m > IntKind.i64.max then unsupported (.unsafePointer "String: a length above the largest int")
                    if m = 0 then pure (.string .empty)
                    else if ← variablesAt a (← elemOf pt) m.toNat then do
                      let s ← loadBytes a .empty m.toNat
                      freeze a m.toNat
                      pure (.string s)
                    else unsupported (.unsafePointer "String: not so many bytes at ptr")) := rfl
                show (Builtin.unsafeString_ #[pt, it] ty #[.pointer (some a), .int k (Int.ofNat n)]).run C.P w = _
                rw [hdef]
                simp only [asInt, asIntOf, pure_bind, h1, h2, if_false]
            cases hn0 : Nat.beq n 0
            · rw [hn0] at h; simp only [cond_false] at h
              have hne := not_beq hn0
              cases hlim : Nat.ble n LIMIT
              · rw [hlim] at h; cases h
              · rw [hlim] at h; simp only [Bool.not_true, cond_false] at h
                have hlim := Nat.le_of_ble_eq_true hlim
                have hL : LIMIT = 4194304 := by decide
                split at h
                · rename_i b off
                  split at h
                  · rename_i e vs o z hb
                    split at h
                    · rename_i i l hi htk
                      split at h
                      · rename_i r hr
                        cases hc : (Nat.ble C.base b && Nat.beq i.size 1 && !z.s && sameLayout C.P C.P.depth e u)
                        · rw [hc] at h; cases h
                        · rw [hc] at h; simp only [cond_true, Option.some.injEq, Prod.mk.injEq] at h
                          obtain ⟨rfl, rfl⟩ := h
                          simp only [Bool.and_eq_true, Bool.not_eq_true'] at hc
                          obtain ⟨⟨⟨hc1, hc2⟩, hc3⟩, hc4⟩ := hc
                          have hc1 := Nat.le_of_ble_eq_true hc1
                          have hc2 := Nat.eq_of_beq_eq_true hc2
                          cases hp' with
                          | ptr _ _ lo hlo =>
                            obtain ⟨cs, fr, hcs, hcn, hdl, _, hvr, _⟩ := hH.row hlo hb
                            have hsh := hH.shape w hlo hb
                            have hcells : H.cells b off n = some l := by unfold Heap.cells; rw [hb]; exact htk
                            obtain ⟨l', h1, h2, h3⟩ := hH.cells hlo hcells
                            obtain ⟨_, hoff⟩ := takeN_spec _ _ _ htk
                            rw [List.length_drop] at hoff
                            have hsz1 : C.P.cellsOf e = 1 := by
                              obtain ⟨inf, hinf, _, hs, _⟩ := TI.of_spec (hC.ty _ _ hi)
                              unfold Program.cellsOf; rw [hinf]; simp [← hs, hc2]
                            have hva : (variablesAt ⟨lo.c, lo.d + off, none⟩ u n).run C.P w = Result.ok true w := liesAt_ok hsh (lies_row hsz1 hc4 (by show lo.d + off + n ≤ lo.n; omega))
                            have hlb := run_loadBytes (P := C.P) (w := w) lo.c l' r (lo.d + off) .empty (bytesOf_rel hr h1) h3
                            rw [h2] at hlb
                            obtain ⟨hr1, hr2⟩ := freeze_turn w hH hlo hc1 hb hc3 hne (off := off)
                            refine ⟨.string ⟨r.toArray⟩, _, ?_, φ, hr2, hr1, .string _⟩
                            rw [step _ rfl (by omega)]
                            have h0 : ¬ (Int.ofNat n = 0) := by simpa using hne
                            have hnn : (Int.ofNat n).toNat = n := rfl
                            simp only [if_neg h0, Sem.run_bind, helem, Result.andThen_ok, hnn, hva, if_true, hlb, run_freeze, Sem.run_pure]
                            congr 4
                      · cases h
                    · cases h
                  · cases h
                · cases h
            · rw [hn0] at h; simp only [cond_true, Option.some.injEq, Prod.mk.injEq] at h
              obtain ⟨rfl, rfl⟩ := h
              have := Nat.eq_of_beq_eq_true hn0; subst this
              refine ⟨.string .empty, w, ?_, φ, Ext.refl _ _ _, hH, .string _⟩
              cases hp' with
              | pnil => rw [step _ rfl (by omega)]; rfl
              | ptr => rw [step _ rfl (by omega)]; rfl
      · cases h
    · cases h
  · cases h
end
end Go.AM
namespace Go.AM
open Go
variable [Syms]

omit [Syms] in
theorem method_run {P : Program} {w : World} {t : TypeId} {v : Value} {name : String} {i : TypeInfo} {m : Method} {f : FuncId} {u : TypeDesc} (n : Nat) (ptr : Bool)
    (hi : (typeInfo t).run P w = .ok i w) (hm : i.methods.find? (·.name == name) = some m) (hp : m.path = #[]) (hf : m.func = some (f, ptr)) (hu : (underlying t).run P w = .ok u w)
    (h : (ptr = true ∧ ∃ e, u = .pointer e) ∨ (ptr = false ∧ ∀ e, u ≠ .pointer e)) :
    (method (n + 1) t v name).run P w = .ok (f, v) w := by
  unfold method
  simp only [Sem.run_bind, hi, Result.andThen_ok, hm, hp, hf]
  have hfol : (follow (#[] : Array FieldStep).toList t (.val v)).run P w = .ok (t, .val v) w := rfl
  simp only [hfol, Result.andThen_ok]
  rcases h with ⟨rfl, e, rfl⟩ | ⟨rfl, hne⟩
  · simp only [receiverAt, Sem.run_bind, hu, Result.andThen_ok, Place.get, Sem.run_pure]
  · have hr : (receiverAt t (.val v) false (if (#[] : Array FieldStep).isEmpty then some ((name.splitOn ".").getLastD name) else none)).run P w = .ok v w := by
      unfold receiverAt
      simp only [Sem.run_bind, hu, Result.andThen_ok]
      cases u <;> first | rfl | exact absurd rfl (hne _)
    simp only [hr, Result.andThen_ok, Sem.run_pure]

omit [Syms] in
theorem method_load {P : Program} {w : World} {t e : TypeId} {a : Addr} {x : Value} {name : String} {i : TypeInfo} {m : Method} {f : FuncId} (n : Nat)
    (hi : (typeInfo t).run P w = .ok i w) (hm : i.methods.find? (·.name == name) = some m) (hp : m.path = #[]) (hf : m.func = some (f, false)) (hu : (underlying t).run P w = .ok (.pointer e) w)
    (hl : (loadVar e a).run P w = .ok x w) :
    (method (n + 1) t (.pointer (some a)) name).run P w = .ok (f, x) w := by
  unfold method
  simp only [Sem.run_bind, hi, Result.andThen_ok, hm, hp, hf]
  have hfol : (follow (#[] : Array FieldStep).toList t (.val (.pointer (some a)))).run P w = .ok (t, .val (.pointer (some a))) w := rfl
  simp only [hfol, Result.andThen_ok]
  have hr : (receiverAt t (.val (.pointer (some a))) false (if (#[] : Array FieldStep).isEmpty then some ((name.splitOn ".").getLastD name) else none)).run P w = .ok x w := by
    unfold receiverAt
    simp only [Sem.run_bind, hu, Result.andThen_ok, Place.get, Sem.run_pure]
    rw [if_pos (by rfl)]
    have hc : ∀ s : String, (Builtin.ssaWrapNilChk_ #[t] t #[.pointer (some a), strVal "", strVal s]).run P w = .ok (.pointer (some a)) w := fun s => rfl
    rw [Sem.run_bind, hc]
    simp only [Result.andThen_ok, asAddr, pure_bind]
    exact hl
  simp only [hr, Result.andThen_ok, Sem.run_pure]

/-- a function that the machine takes at its word -/
def RecOk (C : Ctx) (rec : Rec) : Prop :=
  ∀ g args H v H', rec g args H = some (v, H') → ∀ φ w args', HRel C φ H w → VRels φ args args' →
    ((callFunc g ⟨args'⟩).run C.P w = Result.ok (.enter g ⟨args'⟩) w ∧ Calls C.P g ⟨args'⟩ w (fun e w' => ∃ v', e = .returned v' ∧ Post C φ w H' v v' w')) ∨
    ∃ v' w', (callFunc g ⟨args'⟩).run C.P w = Result.ok (.value v') w' ∧ Post C φ w H' v v' w'

section
variable {C : Ctx} {φ : Phi} {ρ : Env} {ev : Operand → Value} {H H' : Heap} {rec : Rec} (w : World)

theorem RecOk.goes (hrec : RecOk C rec) (hH : HRel C φ H w) {g : FuncId} {args args' : List Value} {v : Value} (h : rec g args H = some (v, H')) (ha : VRels φ args args')
    {op : Op} (he : ∀ o : Oper, o.op = op → (execOp ev o).run C.P w = (callFunc g ⟨args'⟩).run C.P w) : Goes C.P ev op w (Post C φ w H' v) := by
  intro o a next E ho hev hn
  unfold Oper.wp
  rw [hev, he o ho]
  rcases hrec g args H v H' h φ w args' hH ha with ⟨h1, h2⟩ | ⟨v', w', h1, h2⟩
  · rw [h1, Oper.upon_enter]
    refine h2.mono ?_
    rintro e w' ⟨v', rfl, hp⟩
    exact hn _ _ hp
  · rw [h1, Oper.upon_value]
    exact hn _ _ h2

theorem builtin_goes (hC : COk C) (hρ : ERho φ ρ ev) (hH : HRel C φ H w) {c : Call} {b : Builtin} (hc : c.callee = .builtin b) {v : Value}
    (h : bBuiltin C H b (evL ρ c.args.toList) c.argTypes.toList = some (v, H')) : Goes C.P ev (.call c) w (Post C φ w H' v) := by
  have em : (c.args.map ev).toList = c.args.toList.map ev := by simp
  have eargs : c.args.map ev = ⟨c.args.toList.map ev⟩ := by apply Array.ext'; simp
  unfold bBuiltin at h
  split at h
  · split at h
    · rename_i s x st xt hl ht
      have h1 := evL_rel hρ _ _ hl
      refine run_builtin hc (fun ty => Builtin.append_ c.argTypes ty (c.args.map ev)) (fun _ _ => rfl) ?_
      intro ty
      generalize hg : c.args.toList.map ev = g at h1 eargs
      cases h1 with
      | cons _ s' _ _ hs htl =>
        cases htl with
        | cons _ x' _ _ hx htl2 =>
          cases htl2
          have hts : c.argTypes = #[st, xt] := Array.ext' ht
          rw [eargs, hts]
          exact append_goes w hC hH h hs hx ty
    · cases h
  · split at h
    · rename_i d x dt tl hl ht
      have h1 := evL_rel hρ _ _ hl
      refine run_builtin hc (fun ty => Builtin.copy_ c.argTypes ty (c.args.map ev)) (fun _ _ => rfl) ?_
      intro ty
      generalize hg : c.args.toList.map ev = g at h1 eargs
      cases h1 with
      | cons _ s' _ _ hs htl =>
        cases htl with
        | cons _ x' _ _ hx htl2 =>
          cases htl2
          have hty : c.argTypes[0]? = some dt := by rw [← Array.getElem?_toList, ht]; rfl
          rw [eargs]
          exact copy_goes w hC hH hty h hs hx ty
    · cases h
  · cases hl : evL ρ c.args.toList with
    | none => rw [hl] at h; unfold bString at h; cases h
    | some args =>
      rw [hl] at h
      have h1 := evL_rel hρ _ _ hl
      refine run_builtin hc (fun ty => Builtin.unsafeString_ c.argTypes ty (c.args.map ev)) (fun _ _ => rfl) ?_
      intro ty
      rw [eargs]
      exact string_goes w hC hH h h1 ty
  · split at h
    · rename_i x t tl hl ht
      have h1 := evL_rel hρ _ _ hl
      refine run_builtin hc (fun ty => Builtin.clear_ c.argTypes ty (c.args.map ev)) (fun _ _ => rfl) ?_
      intro ty
      generalize hg : c.args.toList.map ev = g at h1 eargs
      cases h1 with
      | cons _ x' _ _ hx htl =>
        cases htl
        have hty : c.argTypes[0]? = some t := by rw [← Array.getElem?_toList, ht]; rfl
        rw [eargs]
        exact clear_goes w hC hH hty h hx ty
    · cases h
  · split at h
    · rename_i m k t tl hl ht
      have h1 := evL_rel hρ _ _ hl
      split at h
      · rename_i H1 hd
        simp only [Option.some.injEq, Prod.mk.injEq] at h
        obtain ⟨rfl, rfl⟩ := h
        refine run_builtin hc (fun ty => Builtin.delete_ c.argTypes ty (c.args.map ev)) (fun _ _ => rfl) ?_
        intro ty
        generalize hg : c.args.toList.map ev = g at h1 eargs
        cases h1 with
        | cons _ s' _ _ hs htl =>
          cases htl with
          | cons _ x' _ _ hx htl2 =>
            cases htl2
            have hty : c.argTypes[0]? = some t := by rw [← Array.getElem?_toList, ht]; rfl
            rw [eargs]
            exact delete_goes w hC hH hty hd hs hx ty
      · cases h
    · cases h
  · cases h

theorem invoke_goes (hC : COk C) (hrec : RecOk C rec) (hρ : ERho φ ρ ev) (hH : HRel C φ H w) {c : Call} {x : Operand} {name : String} (hc : c.callee = .invoke x name) {v : Value}
    (h : bInvoke C rec H (ρ x) name (evL ρ c.args.toList) = some (v, H')) : Goes C.P ev (.call c) w (Post C φ w H' v) := by
  unfold bInvoke at h
  split at h
  · rename_i r l hr hl
    have h1 := hρ x _ hr
    have h2 := evL_rel hρ _ _ hl
    unfold invokeB at h
    split at h
    · rename_i t u
      split at h
      · rename_i i ht
        split at h
        · rename_i m hm
          generalize he : ev x = g at h1
          cases h1 with
          | iface _ _ u' hu =>
            obtain ⟨i', hi, -, -, -, hms⟩ := hC.run_info w ht
            have hund := hC.run_und w ht
            have hm' : i'.methods.find? (·.name == name) = some m := by
              rw [← hms, ← Array.find?_toList]; exact hm
            have fin : ∀ (f : FuncId) (y y' : Value), rec f (y :: l) H = some (v, H') → VRel φ y y' →
                (∀ n, (method (n + 1) t u' name).run C.P w = Result.ok (f, y') w) → Goes C.P ev (.call c) w (Post C φ w H' v) := by
              intro f y y' hy hyy hrun
              refine hrec.goes w hH hy (.cons _ _ _ _ hyy h2) ?_
              rintro ⟨dst, op, type, pos, after, guard⟩ ho; subst ho
              have hd : C.P.types.size + Made.depth = (C.P.types.size + 99) + 1 := rfl
              have hargs : (#[Value.iface t u'] ++ c.args.map ev).extract 1 (#[Value.iface t u'] ++ c.args.map ev).size = c.args.map ev := by
                apply Array.ext'; simp [List.take_of_length_le]
              have h0 : (#[Value.iface t u'] ++ c.args.map ev)[0]? = some (.iface t u') := by rw [Array.getElem?_append_left (by simp)]; rfl
              simp only [execOp, resolve, hc, he, pure_bind, invoke, h0, hargs, callMethod, Sem.run_bind, run_program, Result.andThen_ok, hd, hrun]
              congr 2
              apply Array.ext'
              simp
            have hpath : ∀ {m : Method}, m.path.toList = [] → m.path = #[] := fun h => Array.ext' h
            split at h
            · rename_i f hp hf
              split at h
              · rename_i e hu1
                exact fin f u u' h hu (fun n => method_run n true hi hm' (hpath hp) hf hund (.inl ⟨rfl, e, hu1⟩))
              · cases h
            · rename_i f hp hf
              split at h
              · rename_i e hu1
                split at h
                · rename_i x hx
                  have hx0 := hx
                  unfold loadV at hx0
                  split at hx0
                  · rename_i b off
                    obtain ⟨x', hx1, hx2⟩ := loadV_sound w hC hH hx hu
                    cases hu with
                    | ptr _ _ lo hlo =>
                      refine fin f x x' h hx2 (fun n => method_load n hi hm' (hpath hp) hf (by rw [hund, hu1]) ?_)
                      exact hx1
                  · cases hx0
                · cases h
              · rename_i hne
                exact fin f u u' h hu (fun n => method_run n false hi hm' (hpath hp) hf hund (.inr ⟨rfl, hne⟩))
            · cases h
        · cases h
      · cases h
    · cases h
  · cases h

theorem call_goes (hC : COk C) (hrec : RecOk C rec) (hρ : ERho φ ρ ev) (hH : HRel C φ H w) {c : Call} {v : Value} (h : bCall C rec ρ H c = some (v, H')) :
    Goes C.P ev (.call c) w (Post C φ w H' v) := by
  unfold bCall at h
  split at h
  · rename_i f hc
    unfold bFun at h
    split at h
    · rename_i g first captured hf
      split at h
      · rename_i args hargs
        have h1 := hρ f _ hf
        have h2 := evL_rel hρ _ _ hargs
        generalize he : ev f = u at h1
        cases h1 with
        | func _ xs ys xs' ys' hxs hys =>
          refine hrec.goes w hH h ((hxs.append h2).append hys) ?_
          rintro ⟨dst, op, type, pos, after, guard⟩ ho; subst ho
          simp only [execOp, resolve, hc, he, Deferred.ofValue, pure_bind, invoke]
          congr 2
          apply Array.ext'
          simp
      · cases h
    · cases h
  · rename_i x name hc
    exact invoke_goes w hC hrec hρ hH hc h
  · rename_i b hc
    exact builtin_goes w hC hρ hH hc h

theorem opB_goes (hC : COk C) (hrec : RecOk C rec) (hρ : ERho φ ρ ev) (hH : HRel C φ H w) {o : Op} {v : Value} (h : opB C rec ρ H o = some (v, H')) :
    Goes C.P ev o w (Post C φ w H' v) := by
  unfold opB at h
  split at h
  · exact goes_store w hC hρ hH h
  · rename_i t m k x
    unfold bUpdate at h
    split at h
    · rename_i mv kv xv hm hk hx
      split at h
      · rename_i H1 hu
        simp only [Option.some.injEq, Prod.mk.injEq] at h
        obtain ⟨rfl, rfl⟩ := h
        obtain ⟨w', h1, h2⟩ := update_goes w hC hH hu (hρ _ _ hm) (hρ _ _ hk) (hρ _ _ hx)
        exact Goes.skip (Instr.mapUpdate t (ev m) (ev k) (ev x)) (by rintro ⟨dst, op, type, pos, after, guard⟩ ho; subst ho; rfl) h1 h2
      · cases h
    · cases h
  · rename_i t m k x
    unfold bUpdate at h
    split at h
    · rename_i mv kv xv hm hk hx
      split at h
      · rename_i H1 hu
        simp only [Option.some.injEq, Prod.mk.injEq] at h
        obtain ⟨rfl, rfl⟩ := h
        obtain ⟨w', h1, h2⟩ := update_goes w hC hH hu (hρ _ _ hm) (hρ _ _ hk) (hρ _ _ hx)
        exact Goes.skip (Instr.mapUpdate t (ev m) (ev k) (ev x)) (by rintro ⟨dst, op, type, pos, after, guard⟩ ho; subst ho; rfl) h1 h2
      · cases h
    · cases h
  · exact conv_goes w hC hρ hH h
  · exact range_goes w hC hρ hH h
  · rename_i it isS
    cases isS
    · simp only [cond_false] at h
      split at h
      · rename_i x hx
        intro o a next E ho hev hn
        obtain ⟨v', w', h1, h2⟩ := next_goes w hH h (hρ _ _ hx) o.type
        unfold Oper.wp
        have : execOp ev o = (do pure (.value (← Instr.next (ev it) false o.type))) := by
          obtain ⟨dst, op, type, pos, after, guard⟩ := o
          subst ho; rfl
        rw [hev, this]
        simp only [Sem.run_bind, h1, Result.andThen_ok, Sem.run_pure, Oper.upon_value]
        exact hn _ _ h2
      · cases h
    · cases h
  · exact call_goes w hC hrec hρ hH h
  · rename_i o1 _ _ _ _ _ _ _
    cases o with
    | alloc t => exact goes_alloc w hC hH h
    | box t x => exact goes_box w hρ hH h
    | buildSlice t len parts => exact goes_buildSlice w hC hρ hH h
    | makeMap t r =>
      cases r with
      | none => exact goes_makeMap w hH h
      | some x => cases h
    | makeSlice t l c => exact goes_makeSlice w hC hρ hH h
    | _ => cases h

theorem opF_goes (hC : COk C) (hrec : RecOk C rec) (hρ : ERho φ ρ ev) (hH : HRel C φ H w) {o : Op} {v : Value} (h : opF C rec ρ H o = some (v, H')) :
    Goes C.P ev o w (Post C φ w H' v) := by
  unfold opF at h
  split at h
  · cases hv : opP C ρ o with
    | none => rw [hv] at h; cases h
    | some u =>
      rw [hv] at h
      simp only [retV, Option.some.injEq, Prod.mk.injEq] at h
      obtain ⟨rfl, rfl⟩ := h
      exact (opP_sound w hC hρ hv).goes hH
  · cases hv : opR C ρ H o with
    | none => rw [hv] at h; cases h
    | some u =>
      rw [hv] at h
      simp only [retV, Option.some.injEq, Prod.mk.injEq] at h
      obtain ⟨rfl, rfl⟩ := h
      exact (opR_sound w hC hρ hH hv).goes hH
  · exact opB_goes w hC hrec hρ hH h
end
end Go.AM
