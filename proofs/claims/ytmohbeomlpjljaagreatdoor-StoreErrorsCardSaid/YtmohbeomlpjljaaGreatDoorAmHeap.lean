/- AM: reading, making and writing blocks. -/
import Derived.Test.YtmohbeomlpjljaaGreatDoorAmRel
import Derived.Laws.Cells
namespace Go.AM
open Go
variable [Syms]

omit [Syms] in
theorem consO_some {α : Type} {x : α} {o : Option (List α)} {l : List α} (h : consO x o = some l) : ∃ t, o = some t ∧ l = x :: t := by
  cases o with
  | none => cases h
  | some t => exact ⟨t, rfl, by simpa [consO] using h.symm⟩

omit [Syms] in
theorem takeN_spec {α : Type} : ∀ (n : Nat) (l r : List α), takeN n l = some r → r = l.take n ∧ n ≤ l.length := by
  intro n
  induction n with
  | zero =>
    intro l r h
    have h' : some [] = some r := h
    cases h'; simp
  | succ n ih =>
    intro l r h
    cases l with
    | nil => exact absurd (show (none : Option (List α)) = some r from h) (by simp)
    | cons x xs =>
      have h' : consO x (takeN n xs) = some r := h
      obtain ⟨t, ht, rfl⟩ := consO_some h'
      obtain ⟨rfl, hl⟩ := ih xs t ht
      exact ⟨by simp, by simpa using hl⟩

def Blk.vals : Blk → Option (List Value)
  | .cells _ vs _ _ => some vs
  | .tab vs => some vs
  | _ => none

omit [Syms] in
theorem Heap.cells_spec {H : Heap} {b off n : Nat} {l : List Value} (h : H.cells b off n = some l) :
    ∃ x vs, H.blk b = some x ∧ x.vals = some vs ∧ l = (vs.drop off).take n ∧ (off + n ≤ vs.length ∨ n = 0) := by
  unfold Heap.cells at h
  split at h
  · rename_i e vs o z hb
    obtain ⟨h1, h2⟩ := takeN_spec _ _ _ h
    refine ⟨_, vs, hb, rfl, h1, ?_⟩
    simp at h2; omega
  · rename_i vs hb
    obtain ⟨h1, h2⟩ := takeN_spec _ _ _ h
    refine ⟨_, vs, hb, rfl, h1, ?_⟩
    simp at h2; omega
  · cases h

omit [Syms] in
theorem Heap.cell_spec {H : Heap} {b off : Nat} {v : Value} (h : H.cell b off = some v) :
    ∃ x vs, H.blk b = some x ∧ x.vals = some vs ∧ vs[off]? = some v := by
  unfold Heap.cell at h
  split at h
  · rename_i e vs o z hb; exact ⟨_, vs, hb, rfl, h⟩
  · rename_i vs hb; exact ⟨_, vs, hb, rfl, h⟩
  · cases h

section
variable {C : Ctx} {φ : Phi} {H : Heap} {w : World}

/-- a block of cells: what the model has there -/
theorem HRel.row (h : HRel C φ H w) {b : Nat} {l : Loc} (hl : φ b = some l) {e : TypeId} {vs : List Value} {o : Bool} {z : Fz}
    (hb : H.blk b = some (.cells e vs o z)) :
    ∃ cs fr, w.heap[l.c]? = some (.cells cs e fr) ∧ cs.size = l.n ∧ l.d + vs.length ≤ l.n ∧ (o = false → l.d = 0 ∧ vs.length = l.n) ∧
      VRels φ vs ((cs.toList.drop l.d).take vs.length) ∧ ((∀ i, l.d + z.z ≤ i → i < l.n → ¬ (fr.1 ≤ i ∧ i < fr.2)) ∧ (z.s = false → fr.1 = fr.2 ∨ fr.2 ≤ l.d + z.z)) := by
  have := h.blk b l _ hl hb
  generalize hg : w.heap[l.c]? = g at this
  cases this with
  | cells _ _ _ _ cs fr hn hl hx hv hz => exact ⟨cs, fr, rfl, hn, hl, hx, hv, hz⟩

/-- the same of what is read -/
theorem HRel.vals (h : HRel C φ H w) {b : Nat} {l : Loc} (hl : φ b = some l) {x : Blk} {vs : List Value} (hb : H.blk b = some x) (hv : x.vals = some vs) :
    ∃ cs e fr, w.heap[l.c]? = some (.cells cs e fr) ∧ l.d + vs.length ≤ cs.size ∧ VRels φ vs ((cs.toList.drop l.d).take vs.length) := by
  have := h.blk b l _ hl hb
  generalize hg : w.heap[l.c]? = g at this
  cases this with
  | cells e vs' _ _ cs fr hn hl hx hv' hz => cases hv; exact ⟨cs, e, fr, rfl, by omega, hv'⟩
  | tab vs' cs e fr hl hv' => cases hv; exact ⟨cs, e, fr, rfl, hl, hv'⟩
  | _ => cases hv

omit [Syms] in
theorem cell_of_heap {w : World} {c i : Nat} {cs : Array Value} {e : TypeId} {fr : Nat × Nat} (h : w.heap[c]? = some (.cells cs e fr)) :
    w.cell? ⟨c, i, none⟩ = cs.toList[i]? := by
  simp [World.cell?, h]

theorem HRel.cell (h : HRel C φ H w) {b off : Nat} {l : Loc} (hl : φ b = some l) {v : Value} (hv : H.cell b off = some v) :
    ∃ v', w.cell? ⟨l.c, l.d + off, none⟩ = some v' ∧ VRel φ v v' := by
  obtain ⟨x, vs, hb, hx, hi⟩ := Heap.cell_spec hv
  obtain ⟨cs, e, fr, hc, hlen, hr⟩ := h.vals hl hb hx
  obtain ⟨v', h1, h2⟩ := hr.get off v hi
  refine ⟨v', ?_, h2⟩
  rw [cell_of_heap hc]
  rw [List.getElem?_take] at h1
  split at h1
  · rw [List.getElem?_drop] at h1; exact h1
  · cases h1

theorem HRel.cells (h : HRel C φ H w) {b off n : Nat} {l : Loc} (hl : φ b = some l) {vs : List Value} (hv : H.cells b off n = some vs) :
    ∃ vs', VRels φ vs vs' ∧ vs'.length = n ∧ ∀ j v', vs'[j]? = some v' → w.cell? ⟨l.c, l.d + off + j, none⟩ = some v' := by
  obtain ⟨x, us, hb, hx, rfl, hn⟩ := Heap.cells_spec hv
  obtain ⟨cs, e, fr, hc, hlen, hr⟩ := h.vals hl hb hx
  refine ⟨_, (hr.drop off).take n, ?_, ?_⟩
  · have h1 : us.length ≤ (cs.toList.drop l.d).length := by simp; omega
    simp only [List.length_take, List.length_drop] at h1 ⊢
    omega
  · intro j v' hj
    rw [cell_of_heap hc]
    rw [List.getElem?_take] at hj
    split at hj
    · rw [List.getElem?_drop, List.getElem?_take] at hj
      split at hj
      · rw [List.getElem?_drop] at hj
        rw [← hj]; congr 1; omega
      · cases hj
    · cases hj

omit [Syms] in
theorem addr_add (c o n : Nat) : Addr.add ⟨c, o, none⟩ n = ⟨c, o + n, none⟩ := by
  unfold Addr.add; split
  · subst_vars; rfl
  · rfl

theorem HRel.run_cells (h : HRel C φ H w) (P : Program) {b off n : Nat} {l : Loc} (hl : φ b = some l) {vs : List Value} (hv : H.cells b off n = some vs) :
    ∃ vs' : Array Value, VRels φ vs vs'.toList ∧ (loadCells ⟨l.c, l.d + off, none⟩ n).run P w = .ok vs' w := by
  obtain ⟨vs', h1, h2, h3⟩ := h.cells hl hv
  refine ⟨vs'.toArray, by simpa using h1, ?_⟩
  have := run_loadCells_list (P := P) (w := w) ⟨l.c, l.d + off, none⟩ vs' (fun j v hj => by rw [addr_add]; exact h3 j v hj)
  rw [h2] at this; exact this

theorem HRel.base_le (h : HRel C φ H w) : C.base ≤ w.heap.size := by
  cases hb : C.base with
  | zero => omega
  | succ n =>
    obtain ⟨l, hl, hc, _⟩ := h.base n (by omega)
    have := (h.dom n l hl).2.1; omega

/-- a block more, on both sides -/
theorem HRel.alloc (h : HRel C φ H w) {x : Blk} {b : Nat} {H' : Heap} (hn : H.new x = some (b, H')) (o : Obj) (l : Loc) (hc : l.c = w.heap.size)
    (hb : ∀ φ', Le φ φ' → φ' H.n = some l → BRel C φ' l x (some o)) :
    b = H.n ∧ ∃ φ', φ' b = some l ∧ HRel C φ' H' (w.alloc o) ∧ Ext C φ w φ' (w.alloc o) := by
  obtain ⟨rfl, hn1, hlim, hfull, hblk⟩ := Heap.new_spec h.full hn
  refine ⟨rfl, fun i => if i = H.n then some l else φ i, by simp, ?_, ?_⟩
  all_goals
    have hle : Le φ (fun i => if i = H.n then some l else φ i) := by
      intro i k hk
      have := (h.dom i k hk).1
      show (if i = H.n then some l else φ i) = _
      rw [if_neg (by omega)]; exact hk
  · refine ⟨hfull, by omega, ?_, by have := h.low; omega, ?_, ?_, ?_⟩
    · intro g hg
      obtain ⟨k, hk, h2⟩ := h.base g hg
      exact ⟨k, hle _ _ hk, h2⟩
    · intro i k hk
      rw [World.size_alloc]
      split at hk
      · cases hk; subst_vars
        have := h.base_le
        exact ⟨by omega, by omega, fun _ => by omega⟩
      · have := h.dom i k hk
        exact ⟨by omega, by omega, this.2.2⟩
    · intro i k y hk hy
      rw [hblk] at hy
      by_cases hi : i = H.n
      · rw [if_pos hi] at hk hy; cases hk; cases hy
        rw [hc, heap_push_new]
        exact hb _ hle (by simp)
      · rw [if_neg hi] at hk hy
        rw [heap_push_old (h.dom i k hk).2.1]
        exact (h.blk i k y hk hy).mono hle
    · intro i j k m y y' hk hm hij hy hy' hly hly'
      rw [hblk] at hy hy'
      by_cases hi : i = H.n
      · have hj : j ≠ H.n := by omega
        rw [if_pos hi] at hk; cases hk
        rw [if_neg hj] at hm
        have := (h.dom j m hm).2.1; omega
      · rw [if_neg hi] at hk hy
        by_cases hj : j = H.n
        · rw [if_pos hj] at hm; cases hm
          have := (h.dom i k hk).2.1; omega
        · rw [if_neg hj] at hm hy'
          exact h.sep i j k m y y' hk hm hij hy hy' hly hly'
  · refine ⟨hle, ⟨rfl, rfl, rfl, by rw [World.size_alloc]; omega, fun c hc' _ => heap_push_old hc'⟩, ?_⟩
    intro i k hk
    split at hk
    · cases hk; subst_vars
      exact .inr ⟨h.low, .inl (by omega)⟩
    · exact .inl hk

/-- a block more on the machine's side alone: one that is not there yet -/
theorem HRel.pending (h : HRel C φ H w) {x : Blk} {b : Nat} {H' : Heap} (hn : H.new x = some (b, H')) : HRel C φ H' w := by
  obtain ⟨rfl, hn1, hlim, hfull, hblk⟩ := Heap.new_spec h.full hn
  refine ⟨hfull, by omega, h.base, by have := h.low; omega, ?_, ?_, ?_⟩
  · intro i k hk; have := h.dom i k hk; exact ⟨by omega, this.2⟩
  · intro i k y hk hy
    have := (h.dom i k hk).1
    rw [hblk, if_neg (by omega)] at hy
    exact h.blk i k y hk hy
  · intro i j k m y y' hk hm hij hy hy'
    have h1 := (h.dom i k hk).1
    have h2 := (h.dom j m hm).1
    rw [hblk, if_neg (by omega)] at hy hy'
    exact h.sep i j k m y y' hk hm hij hy hy'

/-- the block of one place turned, on both sides; the machine's own -/
theorem HRel.turn (h : HRel C φ H w) {b : Nat} {l : Loc} (hl : φ b = some l) (hbase : C.base ≤ b) {x y : Blk} (hx : H.blk b = some x) (hlive : x.live = true)
    {w' : World} (hy : BRel C φ l y w'.heap[l.c]?) (hsz : w'.heap.size = w.heap.size)
    (ho : ∀ c, c ≠ l.c → w'.heap[c]? = w.heap[c]?) (h1 : w'.os = w.os) (h2 : w'.tape = w.tape) (h3 : w'.output = w.output) :
    HRel C φ (H.set b y) w' ∧ Ext C φ w φ w' := by
  have hs : ∀ i, (H.set b y).blk i = if i = b then some y else H.blk i := fun i => Heap.blk_set b i y (by rw [hx]; rfl)
  refine ⟨⟨h.full.mod b y, h.small, h.base, h.low, ?_, ?_, ?_⟩, Le.refl φ, ⟨h1, h2, h3, by omega, ?_⟩, fun _ _ hk => .inl hk⟩
  · intro i k hk; rw [hsz]; exact h.dom i k hk
  · intro i k u hk hu
    rw [hs] at hu
    by_cases hi : i = b
    · subst hi; rw [if_pos rfl] at hu; cases hu
      rw [hl] at hk; cases hk; exact hy
    · rw [if_neg hi] at hu
      cases hul : u.live with
      | false => cases u <;> simp [Blk.live] at hul; exact .dead _
      | true =>
        rw [ho k.c (h.sep i b k l u x hk hl hi hu hx hul hlive)]
        exact h.blk i k u hk hu
  · intro i j k m u u' hk hm hij hu hu' hlu hlu'
    rw [hs] at hu hu'
    by_cases hi : i = b
    · subst hi
      have hj : j ≠ i := fun e => hij e.symm
      rw [if_neg hj] at hu'
      exact h.sep i j k m x u' hk hm hij hx hu' hlive hlu'
    · rw [if_neg hi] at hu
      by_cases hj : j = b
      · subst hj; exact h.sep i j k m u x hk hm hij hu hx hlu hlive
      · rw [if_neg hj] at hu'
        exact h.sep i j k m u u' hk hm hij hu hu' hlu hlu'
  · intro c hc hno
    exact ho c fun e => hno b l hbase hl e.symm
end

/-! storing cells -/
omit [Syms] in
theorem oneCells_spec : ∀ {l : List Value}, oneCells l = true → ∀ v ∈ l, v.oneCell' = true
  | [], _, v, hv => by cases hv
  | x :: l, h, v, hv => by
    cases x <;> first
      | (simp [oneCells] at h; done)
      | (rcases List.mem_cons.1 hv with rfl | hv
         · rfl
         · exact oneCells_spec (l := l) (by simpa [oneCells] using h) v hv)

omit [Syms] in
theorem setAt_length {α : Type} : ∀ (l : List α) (n : Nat) (ys : List α), (setAt l n ys).length = l.length
  | [], n, ys => rfl
  | x :: xs, 0, [] => rfl
  | x :: xs, 0, y :: ys => by simp [setAt, setAt_length]
  | x :: xs, n + 1, ys => by simp [setAt, setAt_length]

omit [Syms] in
theorem setAt_nil {α : Type} : ∀ (l : List α) (n : Nat), setAt l n [] = l
  | [], n => rfl
  | x :: xs, 0 => rfl
  | x :: xs, n + 1 => by simp [setAt, setAt_nil]

omit [Syms] in
theorem setAt_cons {α : Type} : ∀ (l : List α) (n : Nat) (y : α) (ys : List α), setAt l n (y :: ys) = setAt (l.set n y) (n + 1) ys
  | [], n, y, ys => by simp [setAt]
  | x :: xs, 0, y, ys => by simp [setAt]
  | x :: xs, n + 1, y, ys => by simp [setAt, setAt_cons]

omit [Syms] in
theorem setAt_get {α : Type} : ∀ (l : List α) (n : Nat) (ys : List α) (i : Nat), n + ys.length ≤ l.length →
    (setAt l n ys)[i]? = if n ≤ i ∧ i < n + ys.length then ys[i - n]? else l[i]?
  | [], n, ys, i, h => by
    have : ys = [] := by cases ys with | nil => rfl | cons _ _ => simp at h
    subst this; simp [setAt]
  | x :: xs, 0, [], i, h => by simp [setAt]
  | x :: xs, 0, y :: ys, 0, h => by simp [setAt]
  | x :: xs, 0, y :: ys, i + 1, h => by
    have := setAt_get xs 0 ys i (by simp at h ⊢; omega)
    simp [setAt, this]
  | x :: xs, n + 1, ys, 0, h => by simp [setAt]
  | x :: xs, n + 1, ys, i + 1, h => by
    have := setAt_get xs n ys i (by simp at h ⊢; omega)
    simp only [setAt, List.getElem?_cons_succ, this]
    by_cases hc : n ≤ i ∧ i < n + ys.length
    · rw [if_pos hc, if_pos (by omega)]; congr 1; omega
    · rw [if_neg hc, if_neg (by omega)]

omit [Syms] in
theorem run_storeCells (P : Program) (c : Nat) (e : TypeId) (fr : Nat × Nat) (off : Nat) : ∀ (l : List Value) (i : Nat) (w : World) (cs : Array Value),
    w.heap[c]? = some (.cells cs e fr) → (∀ v ∈ l, v.oneCell' = true) → off + i + l.length ≤ cs.size →
    (∀ k, off + i ≤ k → k < off + i + l.length → ¬ (fr.1 ≤ k ∧ k < fr.2)) →
    ∃ (w' : World) (cs' : Array Value), (storeCells ⟨c, off, none⟩ l i).run P w = .ok () w' ∧ w'.heap[c]? = some (.cells cs' e fr) ∧
      cs'.toList = setAt cs.toList (off + i) l ∧ (∀ k, k ≠ c → w'.heap[k]? = w.heap[k]?) ∧ w'.heap.size = w.heap.size ∧
      w'.os = w.os ∧ w'.tape = w.tape ∧ w'.output = w.output := by
  intro l
  induction l with
  | nil =>
    intro i w cs hc _ _ _
    exact ⟨w, cs, rfl, hc, by rw [setAt_nil], fun _ _ => rfl, rfl, rfl, rfl, rfl⟩
  | cons v l ih =>
    intro i w cs hc h1 hlen hfz
    simp only [List.length_cons] at hlen hfz
    have hcell : w.cell? ⟨c, off + i, none⟩ = cs[off + i]? := by rw [cell_of_heap hc]; simp
    have hsome : cs[off + i]? = some cs[off + i] := Array.getElem?_eq_getElem (by omega)
    have hnf : w.frozen? ⟨c, off + i, none⟩ = false := by
      have := hfz (off + i) (by omega) (by omega)
      simp only [World.frozen?, hc]
      cases hh : (decide (fr.1 ≤ off + i) && decide (off + i < fr.2))
      · rfl
      · simp at hh; exact absurd hh this
    have hst : (store (Addr.add ⟨c, off, none⟩ i) v).run P w = .ok () (w.setCell ⟨c, off + i, none⟩ v) := by
      rw [addr_add, run_store P w _ v _ (h1 v (by simp)), hcell, hsome]
      simp [hnf]
    have hb : (w.setCell ⟨c, off + i, none⟩ v).heap[c]? = some (.cells (cs.setIfInBounds (off + i) v) e fr) := by
      simp [World.setCell, Array.getElem?_modify, hc]
    obtain ⟨w', cs', hrun, hh, hcs, ho, hsz, a1, a2, a3⟩ := ih (i + 1) _ (cs.setIfInBounds (off + i) v) hb (fun u hu => h1 u (by simp [hu]))
      (by simp; omega) (fun k hk1 hk2 => hfz k (by omega) (by omega))
    refine ⟨w', cs', ?_, hh, ?_, ?_, by rw [hsz, World.size_setCell], a1, a2, a3⟩
    · show ((store (Addr.add ⟨c, off, none⟩ i) v) >>= fun _ => storeCells ⟨c, off, none⟩ l (i + 1)).run P w = _
      rw [Sem.run_bind, hst]; exact hrun
    · rw [hcs, setAt_cons]; simp [Nat.add_assoc]
    · intro k hk
      rw [ho k hk]; exact heap_setCell_other w _ k v hk

omit [Syms] in
theorem take_drop_set {l : List Value} {d n : Nat} {m : Nat} {ys : List Value} (h : d + n ≤ l.length) (hm : m + ys.length ≤ n) :
    ((setAt l (d + m) ys).drop d).take n = setAt ((l.drop d).take n) m ys := by
  apply List.ext_getElem?
  intro i
  rw [List.getElem?_take]
  rw [setAt_get ((l.drop d).take n) m ys i (by simp; omega)]
  rw [List.getElem?_drop, setAt_get l (d + m) ys (d + i) (by omega), List.getElem?_take, List.getElem?_drop]
  by_cases hi : i < n
  · rw [if_pos hi, if_pos hi]
    by_cases hc : m ≤ i ∧ i < m + ys.length
    · rw [if_pos hc, if_pos (by omega)]; congr 1; omega
    · rw [if_neg hc, if_neg (by omega)]
  · rw [if_neg hi, if_neg hi, if_neg (by omega)]

theorem VRels.setAt {φ : Phi} {l l' ys ys' : List Value} (h : VRels φ l l') (k : VRels φ ys ys') (m : Nat) (hm : m + ys.length ≤ l.length) :
    VRels φ (AM.setAt l m ys) (AM.setAt l' m ys') := by
  have e1 := h.length
  have e2 := k.length
  refine VRels.of (by rw [setAt_length, setAt_length, e1]) ?_
  intro i v v' hv hv'
  rw [setAt_get _ _ _ _ hm] at hv
  rw [setAt_get _ _ _ _ (by omega)] at hv'
  by_cases hc : m ≤ i ∧ i < m + ys.length
  · rw [if_pos hc] at hv; rw [if_pos (by omega)] at hv'
    obtain ⟨u, hu, hr⟩ := k.get _ _ hv
    rw [hv'] at hu; cases hu; exact hr
  · rw [if_neg hc] at hv; rw [if_neg (by omega)] at hv'
    obtain ⟨u, hu, hr⟩ := h.get _ _ hv
    rw [hv'] at hu; cases hu; exact hr

theorem oneCell_rel {φ : Phi} {v v' : Value} (h : VRel φ v v') (hv : v.oneCell' = true) : v'.oneCell' = true := by
  cases h
  case sym k =>
    have hp := Syms.plain k
    cases hg : Syms.get k <;> first | rfl | (rw [hg] at hp; cases hp)
  all_goals first | rfl | (simp [Value.oneCell'] at hv)

theorem oneCells_rel {φ : Phi} : ∀ {l l' : List Value}, VRels φ l l' → (∀ v ∈ l, v.oneCell' = true) → ∀ v ∈ l', v.oneCell' = true
  | _, _, .nil, _, v, hv => by cases hv
  | _, _, .cons x x' l l' hx k, h, v, hv => by
    rcases List.mem_cons.1 hv with rfl | hv
    · exact oneCell_rel hx (h x (by simp))
    · exact oneCells_rel k (fun u hu => h u (by simp [hu])) v hv

/-- a store of cells, on both sides -/
theorem HRel.store {C : Ctx} {φ : Phi} {H H' : Heap} {w : World} (h : HRel C φ H w) (P : Program) {b off : Nat} {l : Loc} (hl : φ b = some l) {ys ys' : List Value}
    (hs : H.store C.base b off ys = some H') (hy : VRels φ ys ys') :
    ∃ w', (storeCells ⟨l.c, l.d + off, none⟩ ys' 0).run P w = .ok () w' ∧ HRel C φ H' w' ∧ Ext C φ w φ w' := by
  unfold Heap.store at hs
  split at hs
  · rename_i e vs o z hb
    cases hc : (Nat.ble C.base b && Nat.ble (off + ys.length) vs.length && Nat.ble z.z off && oneCells ys)
    · rw [hc] at hs; cases hs
    · rw [hc] at hs; simp only [cond_true, Option.some.injEq] at hs; subst hs
      simp only [Bool.and_eq_true] at hc
      obtain ⟨⟨⟨hb1, hb2⟩, hb3⟩, hone⟩ := hc
      have hb1 := Nat.le_of_ble_eq_true hb1
      have hb2 := Nat.le_of_ble_eq_true hb2
      have hb3 := Nat.le_of_ble_eq_true hb3
      obtain ⟨cs, fr, hcs, hn, hlen, hx, hr, hz⟩ := h.row hl hb
      have hyl := hy.length
      obtain ⟨w', cs', hrun, hh, hcs', ho, hws, a1, a2, a3⟩ := run_storeCells P l.c e fr (l.d + off) ys' 0 w cs hcs
        (oneCells_rel hy (oneCells_spec hone)) (by omega) (fun k hk1 hk2 => hz.1 k (by omega) (by omega))
      refine ⟨w', hrun, ?_⟩
      refine h.turn hl hb1 hb (by rfl) (w' := w') ?_ hws ho a1 a2 a3
      rw [hh]
      refine .cells e _ o z cs' fr ?_ ?_ ?_ ?_ hz
      · have : cs'.toList.length = cs.toList.length := by rw [hcs', setAt_length]
        simpa [hn] using this
      · rw [setAt_length]; exact hlen
      · intro ho; rw [setAt_length]; exact hx ho
      · rw [setAt_length, hcs', Nat.add_zero, take_drop_set (by simp; omega) (by omega)]
        exact hr.setAt hy off (by omega)
  · cases hs
end Go.AM
