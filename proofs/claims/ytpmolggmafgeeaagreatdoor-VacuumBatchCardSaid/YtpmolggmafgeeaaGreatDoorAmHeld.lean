/- AM: the pages that a pool holds, rising (a map's keys, sorted), taken at its contract. -/
import Derived.Test.YtpmolggmafgeeaaGreatDoorAmCode
import Derived.Maps.Own
import Derived.Lib.SlKeysI
namespace Go.AM
open Go
variable [Syms]
open Go.RowKit (Below)

/-- a block of the model's that the machine comes to know -/
theorem HRel.adopt {C : Ctx} {φ : Phi} {H H' : Heap} {w : World} (h : HRel C φ H w) {x : Blk} {b : Nat} (hn : H.new x = some (b, H')) (l : Loc)
    (hφ : ∀ b k, φ b = some k → k.c ≠ l.c) (hw : l.c < w.heap.size) (hb0 : C.base ≤ l.c) (hb : ∀ φ', Le φ φ' → φ' H.n = some l → BRel C φ' l x w.heap[l.c]?) :
    b = H.n ∧ ∃ φ', φ' b = some l ∧ Le φ φ' ∧ HRel C φ' H' w ∧ (∀ i k, φ' i = some k → φ i = some k ∨ ((C.base ≤ i ∧ C.lo ≤ i) ∧ k = l)) := by
  obtain ⟨rfl, hn1, hlim, hfull, hblk⟩ := Heap.new_spec h.full hn
  have hle : Le φ (fun i => if i = H.n then some l else φ i) := by
    intro i k hk
    have := (h.dom i k hk).1
    show (if i = H.n then some l else φ i) = _
    rw [if_neg (by omega)]; exact hk
  refine ⟨rfl, fun i => if i = H.n then some l else φ i, by simp, hle, ?_, ?_⟩
  · refine ⟨hfull, by omega, ?_, by have := h.low; omega, ?_, ?_, ?_⟩
    · intro g hg
      obtain ⟨k, hk, h2⟩ := h.base g hg
      exact ⟨k, hle _ _ hk, h2⟩
    · intro i k hk
      split at hk
      · cases hk; subst_vars
        exact ⟨by omega, by omega, fun _ => by omega⟩
      · have := h.dom i k hk
        exact ⟨by omega, by omega, this.2.2⟩
    · intro i k y hk hy
      rw [hblk] at hy
      by_cases hi : i = H.n
      · rw [if_pos hi] at hk hy; cases hk; cases hy
        exact hb _ hle (by simp)
      · rw [if_neg hi] at hk hy
        exact (h.blk i k y hk hy).mono hle
    · intro i j k m y y' hk hm hij hy hy' hly hly'
      rw [hblk] at hy hy'
      by_cases hi : i = H.n
      · have hj : j ≠ H.n := by omega
        rw [if_pos hi] at hk; cases hk
        rw [if_neg hj] at hm
        exact fun e => hφ j m hm e.symm
      · rw [if_neg hi] at hk hy
        by_cases hj : j = H.n
        · rw [if_pos hj] at hm; cases hm
          exact hφ i k hk
        · rw [if_neg hj] at hm hy'
          exact h.sep i j k m y y' hk hm hij hy hy' hly hly'
  · intro i k hk
    have hk : (if i = H.n then some l else φ i) = some k := hk
    split at hk
    · cases hk
      have := h.low
      exact .inr ⟨by omega, rfl⟩
    · exact .inl hk

omit [Syms] in
theorem Ext.below {C : Ctx} {φ : Phi} {w w' : World} (h : Below w.heap.size w w') : Ext C φ w φ w' :=
  ⟨Le.refl φ, ⟨h.os, h.tape, h.output, h.size, fun c hc _ => h.block c hc⟩, fun _ _ hl => .inl hl⟩
theorem HRel.below {C : Ctx} {φ : Phi} {H : Heap} {w w' : World} (hH : HRel C φ H w) (h : Below w.heap.size w w') : HRel C φ H w' := hH.still h.size (fun c hc => h.block c hc)
theorem HRel.base_size {C : Ctx} {φ : Phi} {H : Heap} {w : World} (hH : HRel C φ H w) : C.base ≤ w.heap.size := by
  by_cases h0 : C.base = 0
  · omega
  · obtain ⟨l, hl, hlc, _⟩ := hH.base (C.base - 1) (by omega)
    have := (hH.dom _ l hl).2.1
    omega

noncomputable section
def nodI : List Int → Bool
  | [] => true
  | x :: l => l.all (fun y => !decide (x = y)) && nodI l
def nodN : List Nat → Bool
  | [] => true
  | x :: l => l.all (fun y => !Nat.beq x y) && nodN l
def keyInts : List (Value × Value × Nat) → Option (List Int)
  | [] => some []
  | (.int .i64 n, _, _) :: l => bif (Lit.int .i64 n).wf then consO n (keyInts l) else none
  | _ => none
def insI (n : Int) : List Int → List Int
  | [] => [n]
  | m :: l => bif decide (n ≤ m) then n :: m :: l else m :: insI n l
def sortI : List Int → List Int
  | [] => []
  | n :: l => insI n (sortI l)

/-- what a pool holds: its map (at cell 2) -/
def heldP (ti : TypeId) : Prim := fun args H => match args with
  | [.pointer (some ⟨b, off, none⟩)] => match H.cell b (off + 2) with
    | some (.map (some m)) => match H.blk m with
      | some (.map es clock) => match keyInts es with
        | some [] => some (.slice none 0 0, H)
        | some l => bif nodI l && nodN (es.map (·.2.2)) && es.all (fun e => e.2.2.blt clock) && l.length.ble 1000 then
            (match H.new (.cells ti ((sortI l).map (.int .i64)) true ⟨0, false⟩) with
             | some (x, H) => some (.slice (some ⟨x, 0, none⟩) l.length (OPEN + 1), H)
             | none => none) else none
        | none => none
      | _ => none
    | _ => none
  | _ => none
end

omit [Syms] in
theorem nodI_nodup : ∀ {l : List Int}, nodI l = true → l.Nodup
  | [], _ => List.nodup_nil
  | x :: l, h => by
    simp only [nodI, Bool.and_eq_true, List.all_eq_true] at h
    refine List.nodup_cons.2 ⟨fun hm => ?_, nodI_nodup h.2⟩
    have := h.1 x hm
    simp at this
omit [Syms] in
theorem nodN_nodup : ∀ {l : List Nat}, nodN l = true → l.Nodup
  | [], _ => List.nodup_nil
  | x :: l, h => by
    simp only [nodN, Bool.and_eq_true, List.all_eq_true] at h
    refine List.nodup_cons.2 ⟨fun hm => ?_, nodN_nodup h.2⟩
    have := h.1 x hm
    simp at this

omit [Syms] in
theorem insI_perm (n : Int) : ∀ l, (insI n l).Perm (n :: l)
  | [] => List.Perm.refl _
  | m :: l => by
    unfold insI
    cases h : decide (n ≤ m)
    · simp only [cond_false]; exact ((insI_perm n l).cons m).trans (List.Perm.swap n m l)
    · simp only [cond_true]; exact List.Perm.refl _
omit [Syms] in
theorem sortI_perm : ∀ l, (sortI l).Perm l
  | [] => List.Perm.refl _
  | n :: l => (insI_perm n (sortI l)).trans ((sortI_perm l).cons n)
omit [Syms] in
theorem insI_sorted (n : Int) : ∀ l, l.Pairwise (· ≤ ·) → (insI n l).Pairwise (· ≤ ·)
  | [], _ => by simp [insI]
  | m :: l, h => by
    have hm := List.pairwise_cons.1 h
    unfold insI
    cases hd : decide (n ≤ m)
    · simp only [cond_false]
      have hd : m ≤ n := by simp at hd; omega
      refine List.pairwise_cons.2 ⟨fun a ha => ?_, insI_sorted n l hm.2⟩
      rcases List.mem_cons.1 ((insI_perm n l).mem_iff.1 ha) with rfl | ha
      · exact hd
      · exact hm.1 a ha
    · simp only [cond_true]
      have hd : n ≤ m := by simpa using hd
      refine List.pairwise_cons.2 ⟨fun a ha => ?_, h⟩
      rcases List.mem_cons.1 ha with rfl | ha
      · exact hd
      · exact Int.le_trans hd (hm.1 a ha)
omit [Syms] in
theorem sortI_sorted : ∀ l, (sortI l).Pairwise (· ≤ ·)
  | [] => List.Pairwise.nil
  | n :: l => insI_sorted n _ (sortI_sorted l)
omit [Syms] in
theorem merge_sortI {ss l : List Int} (h : ss.Perm l) : ss.mergeSort (fun x y => decide (x ≤ y)) = sortI l := by
  refine List.Perm.eq_of_pairwise (le := (· ≤ ·)) (fun a b _ _ h1 h2 => Int.le_antisymm h1 h2) ?_ (sortI_sorted l) ((List.mergeSort_perm _ _).trans (h.trans (sortI_perm l).symm))
  have := List.pairwise_mergeSort (le := fun x y : Int => decide (x ≤ y)) (fun a b c h1 h2 => by simp at *; omega) (fun a b => by simp; omega) ss
  exact this.imp (fun h => by simpa using h)

/-- the law that a program's (*Pool).Held keeps -/
def HeldLaw (P : Program) (g : FuncId) (ti : TypeId) : Prop :=
  ∀ (pb po m : Nat) (es : List MapEntry) (clock : Nat) (l : List Int) (w : World), w.cell? ⟨pb, po + 2, none⟩ = some (.map (some m)) → w.heap[m]? = some (.map ⟨es⟩ clock) →
    es.map (·.key) = l.map (.int .i64) → (∀ x ∈ l, (Lit.int .i64 x).wf = true) → l.Nodup → (es.map (·.born)).Nodup → (∀ e ∈ es, e.born < clock) → es.length ≤ 1000 →
    Calls P g #[.pointer (some ⟨pb, po, none⟩)] w fun e w' => ∃ v, e = .returned v ∧ w'.ownsRow w.heap.size ti 1 v l.length ((sortI l).map (.int .i64)) ∧ (v = .slice none 0 0 ↔ l = []) ∧ Below w.heap.size w w'

theorem keyInts_rel {φ : Phi} : ∀ {es : List (Value × Value × Nat)} {es' : List MapEntry} {l : List Int}, ERel φ es es' → keyInts es = some l →
    es'.map (·.key) = l.map (.int .i64) ∧ (∀ x ∈ l, (Lit.int .i64 x).wf = true) ∧ es'.map (·.born) = es.map (·.2.2)
  | _, _, l, .nil, h => by
    simp only [keyInts, Option.some.injEq] at h; subst h
    exact ⟨rfl, by simp, rfl⟩
  | _, _, l, .cons k v b k' v' es es' hk hv hes, h => by
    unfold keyInts at h
    split at h
    · cases h
      rename_i hnil; cases hnil
    · rename_i n _ _ l1 heq
      cases heq
      cases hw : (Lit.int .i64 n).wf
      · rw [hw] at h; cases h
      · rw [hw] at h; simp only [cond_true] at h
        cases hr : keyInts es with
        | none => rw [hr] at h; cases h
        | some r =>
          rw [hr] at h
          simp only [consO, Option.some.injEq] at h; subst h
          obtain ⟨h1, h2, h3⟩ := keyInts_rel hes hr
          cases hk
          refine ⟨by simp [h1], ?_, by simp [h3]⟩
          intro x hx
          rcases List.mem_cons.1 hx with rfl | hx
          · exact hw
          · exact h2 x hx
    · cases h

theorem heldP_at {C : Ctx} {g : FuncId} {fn : Func} {b : Code} {ti : TypeId} (hg : C.P.funcs[g]? = some fn) (hb : fn.body = some b) (hname : (fn.name == "runtime.NumGoroutine") = false) (hL : HeldLaw C.P g ti) :
    PrimAt C g (heldP ti) := by
  intro args H v H' hr φ w args' hH ha
  left
  refine ⟨callFunc_enter hg hb hname _ w, ?_⟩
  unfold heldP at hr
  split at hr
  · rename_i pb po
    cases ha with
    | cons _ p' _ _ hp htl =>
    cases htl
    cases hp with
    | ptr _ _ lp hlp =>
    split at hr
    · rename_i m hcell
      obtain ⟨mv, hm1, hm2⟩ := hH.cell hlp hcell
      cases hm2 with
      | map _ lm hlm =>
      split at hr
      · rename_i es clock hblk
        obtain ⟨es', hw, her⟩ := hH.mapAt hlm hblk
        have hbase := hH.base_size
        have key : ∀ l, keyInts es = some l → nodI l = true → nodN (es.map (·.2.2)) = true → es.all (fun e => e.2.2.blt clock) = true → es'.length ≤ 1000 →
            Calls C.P g #[.pointer (some ⟨lp.c, lp.d + po, none⟩)] w fun e w' => ∃ v, e = .returned v ∧ w'.ownsRow w.heap.size ti 1 v l.length ((sortI l).map (.int .i64)) ∧ (v = .slice none 0 0 ↔ l = []) ∧ Below w.heap.size w w' := by
          intro l h1 h2 h3 h4 h5
          obtain ⟨k1, k2, k3⟩ := keyInts_rel her h1
          refine hL lp.c (lp.d + po) lm.c es' clock l w (by rw [Nat.add_assoc]; exact hm1) hw k1 k2 (nodI_nodup h2) (by rw [k3]; exact nodN_nodup h3) ?_ h5
          intro e he
          exact lt_of_blt (her.all (fun b => Nat.blt b clock) h4 e he)
        split at hr
        · rename_i hk
          cases hr
          have hes : es = [] := by
            cases es with
            | nil => rfl
            | cons e es =>
              obtain ⟨a, b, c⟩ := e
              unfold keyInts at hk
              split at hk
              · rename_i h; cases h
              · rename_i n _ _ l1 heq
                cases hw : (Lit.int .i64 n).wf
                · rw [hw] at hk; cases hk
                · rw [hw] at hk; simp only [cond_true] at hk
                  cases hr : keyInts l1 <;> rw [hr] at hk <;> cases hk
              · cases hk
          subst hes
          cases her
          refine (key [] hk rfl rfl rfl (by simp)).mono ?_
          rintro e w' ⟨v, rfl, hrow, hnil, hbel⟩
          obtain rfl := hnil.2 rfl
          exact ⟨_, rfl, φ, Ext.below hbel, hH.below hbel, .snil⟩
        · rename_i l hnn hk
          cases hc : (nodI l && nodN (es.map (·.2.2)) && es.all (fun e => e.2.2.blt clock) && l.length.ble 1000)
          · rw [hc] at hr; cases hr
          · rw [hc] at hr; simp only [cond_true] at hr
            simp only [Bool.and_eq_true] at hc
            obtain ⟨⟨⟨c1, c2⟩, c3⟩, c4⟩ := hc
            have c4 := Nat.le_of_ble_eq_true c4
            split at hr
            · rename_i x H1 hn
              simp only [Option.some.injEq, Prod.mk.injEq] at hr
              obtain ⟨rfl, rfl⟩ := hr
              have hlen : es'.length = l.length := by
                have := congrArg List.length (keyInts_rel her hk).1
                simpa using this
              refine (key l hk c1 c2 c3 (by omega)).mono ?_
              rintro e w' ⟨v, rfl, hrow, hnil, hbel⟩
              have hslen : (sortI l).length = l.length := (sortI_perm l).length_eq
              rcases hrow.2 with ⟨rfl, h0⟩ | ⟨gb, cap, cur, rfl, hgb, hcell, h1, h2, h3, h4⟩
              · exact absurd (List.eq_nil_of_length_eq_zero h0) hnn
              · have hH2 := hH.below hbel
                obtain ⟨rfl, φ', p1, p2, p3, p4⟩ := hH2.adopt hn ⟨gb, 0, cur.size⟩ (fun b l hl => by have := (hH.dom b l hl).2.1; show l.c ≠ gb; omega) (Array.getElem?_eq_some_iff.1 hcell).1 (Nat.le_trans hbase hgb) (by
                  intro φ' hle he
                  rw [hcell]
                  refine .cells ti _ true ⟨0, false⟩ cur (0, 0) rfl (by simp; omega) (fun h => by cases h) ?_ ⟨fun i _ _ => by simp, fun _ => .inl rfl⟩
                  rw [List.drop_zero, List.length_map, hslen, show l.length = l.length * 1 by omega, h4]
                  refine flats_rel ?_
                  simp [flat])
                refine ⟨_, rfl, φ', ⟨p2, (Ext.below (C := C) (φ := φ) hbel).fr, ?_⟩, p3, ?_⟩
                · intro i k hk
                  rcases p4 i k hk with h | ⟨h, rfl⟩
                  · exact .inl h
                  · exact .inr ⟨h, .inl hgb⟩
                · exact .opn _ 0 l.length cap 1 _ p1 h1 (by show 0 + 0 + cap * 1 = cur.size; omega)
            · cases hr
        · cases hr
      · cases hr
    · cases hr
  · cases hr
end Go.AM
namespace Go.AM
open Go
variable [Syms]
open Go.RowKit (Below)

noncomputable section
def intsV : List Value → Option (List Int)
  | [] => some []
  | .int .i64 n :: l => consO n (intsV l)
  | _ => none
def splitP (ti tsl : TypeId) : Prim := fun args H => match args with
  | [.slice base n c] => bif n.beq 0 then some (.slice none 0 0, H) else
    bif !(n.ble 20 && n.ble c) then none else
    match base with
    | some ⟨b, off, none⟩ => match H.cells b off n with
      | some l => match intsV l with
        | some zs => match H.new (.cells ti (zs.map (.int .i64)) true ⟨0, false⟩) with
          | some (x, H1) => match H1.new (.cells tsl [.slice (some ⟨x, 0, none⟩) n (OPEN + 1)] true ⟨0, false⟩) with
            | some (y, H2) => some (.slice (some ⟨y, 0, none⟩) 1 (OPEN + 1), H2)
            | none => none
          | none => none
        | none => none
      | none => none
    | _ => none
  | _ => none
end

/-- the law that a program's list.Split keeps -/
def SplitLaw (P : Program) (g : FuncId) (ti tsl : TypeId) : Prop :=
  (∀ (a : Option Addr) (cap : Nat) (w : World), Calls P g #[.slice a 0 cap] w fun e w' => e = .returned (.slice none 0 0) ∧ Below w.heap.size w w') ∧
  (∀ (b off len cap : Nat) (zs : List Int) (w : World), 1 ≤ len → len ≤ 20 → len ≤ cap → zs.length = len → (∀ j, j < zs.length → w.cell? ⟨b, off + j, none⟩ = some (.int .i64 (zs.getD j 0))) →
    Calls P g #[.slice (some ⟨b, off, none⟩) len cap] w fun e W' => ∃ g1 cap1 cur1 g2 cap2 cur2, e = .returned (.slice (some ⟨g2, 0, none⟩) 1 cap2) ∧
        W'.heap[g2]? = some (.cells cur2 tsl (0, 0)) ∧ cur2.size = cap2 ∧ 1 ≤ cap2 ∧ cur2.toList.take 1 = [.slice (some ⟨g1, 0, none⟩) len cap1] ∧
        W'.heap[g1]? = some (.cells cur1 ti (0, 0)) ∧ cur1.size = cap1 ∧ len ≤ cap1 ∧ cur1.toList.take len = zs.map (.int .i64) ∧ w.heap.size ≤ g1 ∧ w.heap.size ≤ g2 ∧ g1 ≠ g2 ∧ Below w.heap.size w W')

omit [Syms] in
theorem intsV_eq : ∀ {l : List Value} {zs : List Int}, intsV l = some zs → l = zs.map (.int .i64)
  | [], zs, h => by cases h; rfl
  | v :: l, zs, h => by
    unfold intsV at h
    split at h
    · rename_i e; cases e
    · rename_i n l' e
      cases e
      cases hr : intsV l with
      | none => rw [hr] at h; cases h
      | some r =>
        rw [hr] at h
        cases h
        rw [intsV_eq hr]; rfl
    · cases h

omit [Syms] in
theorem Heap.cells_cell {H : Heap} {b off n j : Nat} {l : List Value} {v : Value} (h : H.cells b off n = some l) (hn : n ≠ 0) (hv : l[j]? = some v) : l.length = n ∧ H.cell b (off + j) = some v := by
  obtain ⟨x, vs, h1, h2, rfl, h4⟩ := Heap.cells_spec h
  have h4 : off + n ≤ vs.length := by omega
  have hj : j < n := by
    have := (List.getElem?_eq_some_iff.1 hv).1
    simp at this; omega
  refine ⟨by simp; omega, ?_⟩
  have hg : vs[off + j]? = some v := by
    rw [List.getElem?_take, if_pos hj, List.getElem?_drop] at hv; exact hv
  unfold Heap.cell
  rw [h1]
  cases x <;> first | (cases h2; exact hg) | cases h2

omit [Syms] in
theorem Heap.cells_len {H : Heap} {b off n : Nat} {l : List Value} (h : H.cells b off n = some l) (_hn : n ≠ 0) : l.length = n := by
  obtain ⟨x, vs, h1, h2, rfl, h4⟩ := Heap.cells_spec h
  simp; omega

theorem VRel.slice_of {φ : Phi} {b off n c : Nat} {v' : Value} (h : VRel φ (.slice (some ⟨b, off, none⟩) n c) v') (hc : n ≤ c) : ∃ l c', φ b = some l ∧ n ≤ c' ∧ v' = .slice (some ⟨l.c, l.d + off, none⟩) n c' := by
  cases h with
  | slc _ _ _ _ l hl => exact ⟨l, _, hl, hc, rfl⟩
  | opn _ _ _ c1 _ l hl hn _ => exact ⟨l, c1, hl, hn, rfl⟩

theorem splitP_at {C : Ctx} {g : FuncId} {fn : Func} {b : Code} {ti tsl : TypeId} (hg : C.P.funcs[g]? = some fn) (hb : fn.body = some b) (hname : (fn.name == "runtime.NumGoroutine") = false) (hL : SplitLaw C.P g ti tsl) :
    PrimAt C g (splitP ti tsl) := by
  intro args H v H' hr φ w args' hH ha
  left
  refine ⟨callFunc_enter hg hb hname _ w, ?_⟩
  unfold splitP at hr
  split at hr
  · rename_i base n c
    cases ha with
    | cons _ s' _ _ hs htl =>
    cases htl
    cases hz : n.beq 0
    · rw [hz] at hr; simp only [cond_false] at hr
      have hn0 : n ≠ 0 := by intro e; subst e; cases hz
      cases hk : (n.ble 20 && n.ble c)
      · rw [hk] at hr; cases hr
      · rw [hk] at hr; simp only [Bool.not_true, cond_false] at hr
        simp only [Bool.and_eq_true] at hk
        have k1 := Nat.le_of_ble_eq_true hk.1
        have k2 := Nat.le_of_ble_eq_true hk.2
        split at hr
        · rename_i blk off
          obtain ⟨lo, c', hlo, hcc, rfl⟩ := hs.slice_of k2
          split at hr
          · rename_i vs hvs
            split at hr
            · rename_i zs hzs
              have hvz := intsV_eq hzs
              obtain ⟨vs', r1, r2⟩ := hH.run_cells C.P hlo hvs
              have hlen : zs.length = n := by
                have h1 : vs.length = n := Heap.cells_len hvs hn0
                rw [hvz, List.length_map] at h1; exact h1
              have hcell : ∀ j, j < zs.length → w.cell? ⟨lo.c, lo.d + off + j, none⟩ = some (.int .i64 (zs.getD j 0)) := by
                intro j hj
                have hc1 : H.cell blk (off + j) = some (.int .i64 (zs.getD j 0)) := by
                  refine (Heap.cells_cell hvs hn0 (j := j) ?_).2
                  rw [hvz, List.getElem?_map, List.getD_eq_getElem?_getD, List.getElem?_eq_getElem hj]; rfl
                obtain ⟨v', e1, e2⟩ := hH.cell hlo hc1
                cases e2
                rw [Nat.add_assoc]; exact e1
              split at hr
              · rename_i x H1 hn1
                split at hr
                · rename_i y H2 hn2
                  simp only [Option.some.injEq, Prod.mk.injEq] at hr
                  obtain ⟨rfl, rfl⟩ := hr
                  refine (hL.2 lo.c (lo.d + off) n c' zs w (by omega) k1 hcc hlen hcell).mono ?_
                  rintro e w' ⟨g1, cap1, cur1, g2, cap2, cur2, rfl, q1, q2, q3, q4, q5, q6, q7, q8, q9, q10, q11, hbel⟩
                  have hbase := hH.base_size
                  have hH2 := hH.below hbel
                  obtain ⟨rfl, φ1, p1, p2, p3, p4⟩ := hH2.adopt hn1 ⟨g1, 0, cur1.size⟩ (fun b l hl => by have := (hH.dom b l hl).2.1; show l.c ≠ g1; omega) (Array.getElem?_eq_some_iff.1 q5).1 (Nat.le_trans hbase q9) (by
                    intro φ' hle he
                    rw [q5]
                    refine .cells ti _ true ⟨0, false⟩ cur1 (0, 0) rfl (by simp; omega) (fun h => by cases h) ?_ ⟨fun i _ _ => by simp, fun _ => .inl rfl⟩
                    rw [List.drop_zero, List.length_map, hlen, q8]
                    refine flats_rel ?_
                    simp [flat])
                  obtain ⟨rfl, φ2, s1, s2, s3, s4⟩ := p3.adopt hn2 ⟨g2, 0, cur2.size⟩ (fun b l hl => by
                    show l.c ≠ g2
                    rcases p4 b l hl with h | ⟨_, rfl⟩
                    · have := (hH.dom b l h).2.1; omega
                    · exact q11) (Array.getElem?_eq_some_iff.1 q1).1 (Nat.le_trans hbase q10) (by
                    intro φ' hle he
                    rw [q1]
                    refine .cells tsl _ true ⟨0, false⟩ cur2 (0, 0) rfl (by simp; omega) (fun h => by cases h) ?_ ⟨fun i _ _ => by simp, fun _ => .inl rfl⟩
                    rw [List.drop_zero]
                    show VRels _ _ (cur2.toList.take 1)
                    rw [q4]
                    exact .cons _ _ _ _ (.opn _ 0 n cap1 1 _ (hle _ _ p1) q7 (by show 0 + 0 + cap1 * 1 = cur1.size; omega)) .nil)
                  refine ⟨_, rfl, φ2, ⟨p2.trans s2, (Ext.below (C := C) (φ := φ) hbel).fr, ?_⟩, s3, ?_⟩
                  · intro i k hk
                    rcases s4 i k hk with ha | ⟨hb, he⟩
                    · rcases p4 i k ha with hc | ⟨hd, he⟩
                      · exact .inl hc
                      · exact .inr ⟨hd, .inl (by rw [he]; exact q9)⟩
                    · exact .inr ⟨hb, .inl (by rw [he]; exact q10)⟩
                  · exact .opn _ 0 1 cap2 1 _ s1 q3 (by show 0 + 0 + cap2 * 1 = cur2.size; omega)
                · cases hr
              · cases hr
            · cases hr
          · cases hr
        · cases hr
    · rw [hz] at hr; simp only [cond_true, Option.some.injEq, Prod.mk.injEq] at hr
      obtain ⟨rfl, rfl⟩ := hr
      obtain rfl := Nat.eq_of_beq_eq_true hz
      have hsh : ∃ a c', s' = .slice a 0 c' := by cases hs <;> exact ⟨_, _, rfl⟩
      obtain ⟨a, c', rfl⟩ := hsh
      refine (hL.1 a c' w).mono ?_
      rintro e w' ⟨rfl, hbel⟩
      exact ⟨_, rfl, φ, Ext.below hbel, hH.below hbel, .snil⟩
  · cases hr
end Go.AM
namespace Go.AM
open Go
variable [Syms]

theorem rule_len {P : Program} {x r : Value} {s : ByteArray} (hx : den x = .string s) (hr : okR r = true) (hd : den r = .int .i64 s.size) : RuleOk P ⟨100, 0, x, .bool false, r⟩ := by
  refine ⟨hr, ?_, fun _ => ⟨s, hx, hd⟩, fun h => by cases h⟩
  intro op h; cases op <;> cases h

theorem rule_add {P : Program} {t : TypeId} {x y r : Value} {a b : Int} (hx : den x = .int .i64 a) (hy : den y = .int .i64 b) (hr : okR r = true) (hd : den r = .int .i64 (IntKind.i64.wrap (a + b))) : RuleOk P ⟨7, t, x, y, r⟩ := by
  refine ⟨hr, ?_, (fun h => by cases h), fun h => by cases h⟩
  intro op h w
  show (binOp op t (den x) (den y)).run P w = .ok (den r) w
  rw [hx, hy, hd]
  cases op <;> first | rfl | (simp [opIx] at h; done) | simp [binOp, Op.intArith, Op.intCmp, Op.stringOp, go_sem]

theorem rule_gtr {P : Program} {t : TypeId} {x y r : Value} {a b : Int} (hx : den x = .int .i64 a) (hy : den y = .int .i64 b) (hr : okR r = true) (hd : den r = .bool (decide (a > b))) : RuleOk P ⟨5, t, x, y, r⟩ := by
  refine ⟨hr, ?_, (fun h => by cases h), fun h => by cases h⟩
  intro op h w
  show (binOp op t (den x) (den y)).run P w = .ok (den r) w
  rw [hx, hy, hd]
  cases op <;> first | rfl | (simp [opIx] at h; done) | simp [binOp, Op.intArith, Op.intCmp, Op.stringOp, go_sem]

theorem rule_eql {P : Program} {t : TypeId} {x y r : Value} {a b : ByteArray} (hx : den x = .string a) (hy : den y = .string b) (hr : okR r = true) (hd : den r = .bool (a.toList == b.toList)) : RuleOk P ⟨1, t, x, y, r⟩ := by
  refine ⟨hr, ?_, (fun h => by cases h), fun h => by cases h⟩
  intro op h w
  show (binOp op t (den x) (den y)).run P w = .ok (den r) w
  rw [hx, hy, hd]
  cases op <;> first | rfl | (simp [opIx] at h; done) | simp [binOp, Op.intArith, Op.intCmp, Op.stringOp, go_sem]

theorem rule_conv {P : Program} {x r : Value} {k : IntKind} {n : Int} (hx : den x = .int k n) (hr : okR r = true) (hd : den r = .int .i64 (IntKind.i64.wrap n)) : RuleOk P ⟨101, 0, x, .bool false, r⟩ := by
  refine ⟨hr, ?_, (fun h => by cases h), fun _ => ⟨k, n, hx, hd⟩⟩
  intro op h; cases op <;> cases h

theorem rule_rem {P : Program} {t : TypeId} {x y r : Value} {a b : Int} (hx : den x = .int .i64 a) (hy : den y = .int .i64 b) (hb : b ≠ 0) (hr : okR r = true) (hd : den r = .int .i64 (a.tmod b)) : RuleOk P ⟨8, t, x, y, r⟩ := by
  refine ⟨hr, ?_, (fun h => by cases h), fun h => by cases h⟩
  intro op h w
  show (binOp op t (den x) (den y)).run P w = .ok (den r) w
  rw [hx, hy, hd]
  cases op <;> first | rfl | (simp [opIx] at h; done) | simp [binOp, go_sem, hb]
end Go.AM
namespace Go.AM
open Go
variable [Syms]
open Go.RowKit (Below)

theorem BRel.ctx {C C' : Ctx} {φ : Phi} {l : Loc} {x : Blk} {o : Option Obj} (h : BRel C φ l x o) : BRel C' φ l x o := by
  cases h with
  | dead => exact .dead _
  | cells e vs opn z cs fr hn hl hx hv hz => exact .cells e vs opn z cs fr hn hl hx hv hz
  | tab vs cs e fr hl hv => exact .tab vs cs e fr hl hv
  | map es es' clock h => exact .map es es' clock h
  | iterNil _ _ _ hd => exact .iterNil _ _ _ hd
  | iter m lm since last seen h hd => exact .iter m lm since last seen h hd

theorem HRel.ctx {C C' : Ctx} {φ : Phi} {H : Heap} {w : World} (h : HRel C φ H w) (hb : C'.base = C.base) (hl : C'.lo = C.lo) : HRel C' φ H w :=
  ⟨h.full, h.small, by rw [hb]; exact h.base, by rw [hb, hl]; exact h.low, by rw [hb]; exact h.dom, fun b l x h1 h2 => (h.blk b l x h1 h2).ctx, h.sep⟩

omit [Syms] in
theorem Ext.ctx {C C' : Ctx} {φ φ' : Phi} {w w' : World} (h : Ext C φ w φ' w') (hb : C'.base = C.base) (hl : C'.lo = C.lo) : Ext C' φ w φ' w' :=
  ⟨h.le, ⟨h.fr.os, h.fr.tape, h.fr.output, h.fr.size, by rw [hb]; exact h.fr.block⟩, by rw [hb, hl]; exact h.new⟩

theorem Post.ctx {C C' : Ctx} {φ : Phi} {w w' : World} {H' : Heap} {v v' : Value} (h : Post C φ w H' v v' w') (hb : C'.base = C.base) (hl : C'.lo = C.lo) : Post C' φ w H' v v' w' := by
  obtain ⟨φ', h1, h2, h3⟩ := h
  exact ⟨φ', h1.ctx hb hl, h2.ctx hb hl, h3⟩

/-- what another machine over the same program answers -/
theorem call_prim {C C0 : Ctx} (hC0 : COk C0) (hP0 : ∀ n, PrimOk (C0.from n)) (hPP : C0.P = C.P) (hbb : C0.base = C.base) (k : Nat) (g : FuncId) :
    PrimAt C g (fun args H => call C0 k g args H) := by
  intro args H v H' hr φ w args' hH ha
  have hR : RecOk (C0.from C.lo) (call (C0.from C.lo) k) := call_calls (C := C0.from C.lo) (hC0.from C.lo) (fun n => hP0 n) k
  rw [call_from] at hR
  rcases hR g args H v H' hr φ w args' (hH.ctx hbb rfl) ha with ⟨h1, h2⟩ | ⟨v', w', h1, h2⟩
  · left
    have h1' : (callFunc g ⟨args'⟩).run C.P w = Result.ok (.enter g ⟨args'⟩) w := hPP ▸ h1
    have h2' : Calls C.P g ⟨args'⟩ w (fun e w' => ∃ v', e = .returned v' ∧ Post (C0.from C.lo) φ w H' v v' w') := hPP ▸ h2
    refine ⟨h1', h2'.mono ?_⟩
    rintro e w' ⟨v', rfl, hp⟩
    exact ⟨v', rfl, hp.ctx hbb.symm rfl⟩
  · right
    exact ⟨v', w', hPP ▸ h1, h2.ctx hbb.symm rfl⟩

/-- of so many frames as are not known: a pool that nothing is known of -/
def PoolLaw (P : Program) (g : FuncId) : Prop :=
  ∀ (b off n : Nat) (w : World), 1 ≤ n → n ≤ 64 → Calls P g #[.pointer (some ⟨b, off, none⟩), .int .i64 n] w fun e w' =>
    ∃ c, e = .returned (.tuple #[.pointer (some ⟨c, 0, none⟩), .bool true]) ∧ w.heap.size ≤ c ∧ c < w'.heap.size ∧ Below w.heap.size w w'

noncomputable def poolP (C0 : Ctx) (k : Nat) (g : FuncId) (j0 : Nat) : Prim := fun args H => match args with
  | [.pointer (some ⟨_, _, none⟩), .chan (some j)] => bif j.beq j0 then (match H.new .dead with
    | some (b, H) => some (.tuple #[.pointer (some ⟨b, 0, none⟩), .bool true], H)
    | none => none) else none
  | args => call C0 k g args H

theorem poolP_at {C C0 : Ctx} (hC0 : COk C0) (hP0 : ∀ n, PrimOk (C0.from n)) (hPP : C0.P = C.P) (hbb : C0.base = C.base) (k : Nat)
    {g : FuncId} {fn : Func} {b : Code} (hg : C.P.funcs[g]? = some fn) (hb : fn.body = some b) (hname : (fn.name == "runtime.NumGoroutine") = false)
    (hL : PoolLaw C.P g) {j0 n : Nat} (hs : Syms.get j0 = .int .i64 (n : Int)) (h1 : 1 ≤ n) (h64 : n ≤ 64) : PrimAt C g (poolP C0 k g j0) := by
  intro args H v H' hr
  unfold poolP at hr
  split at hr
  · intro φ w args' hH ha
    rename_i b off j
    cases hj : j.beq j0
    · rw [hj] at hr; cases hr
    rw [hj] at hr; simp only [cond_true] at hr
    obtain rfl := Nat.eq_of_beq_eq_true hj
    split at hr
    · rename_i nb H1 hn
      simp only [Option.some.injEq, Prod.mk.injEq] at hr
      obtain ⟨rfl, rfl⟩ := hr
      cases ha with
      | cons _ p' _ _ hp htl =>
      cases htl with
      | cons _ n' _ _ hn' htl2 =>
      cases htl2
      cases hp with
      | ptr _ _ l hl =>
      cases hn'
      rw [hs]
      left
      refine ⟨callFunc_enter hg hb hname _ w, ?_⟩
      refine (hL l.c (l.d + off) n w h1 h64).mono ?_
      rintro e w' ⟨c, rfl, hc1, hc2, hbel⟩
      have hbase := hH.base_size
      have hH2 := hH.below hbel
      obtain ⟨rfl, φ', p1, p2, p3, p4⟩ := hH2.adopt hn ⟨c, 0, 0⟩ (fun b l hl => by have := (hH.dom b l hl).2.1; show l.c ≠ c; omega) hc2 (Nat.le_trans hbase hc1) (fun φ' hle he => .dead _)
      refine ⟨_, rfl, φ', ⟨p2, (Ext.below (C := C) (φ := φ) hbel).fr, ?_⟩, p3, ?_⟩
      · intro i k hk
        rcases p4 i k hk with h | ⟨h, rfl⟩
        · exact .inl h
        · exact .inr ⟨h, .inl hc1⟩
      · exact .tuple [_, _] [_, _] (.cons _ _ _ _ (.ptr _ 0 _ p1) (.cons _ _ _ _ (.bool _) .nil))
    · cases hr
  · exact call_prim hC0 hP0 hPP hbb k g args H v H' hr

end Go.AM
namespace Go.AM
open Go
variable [Syms]
noncomputable section

structure SRow where
  args : List Value
  n : Nat
  /-- the blocks that are asked for -/
  pre : List (Nat × Blk)
  val : Value
  /-- what these are then -/
  post : List (Nat × Blk)
  /-- the blocks that are made, from number n on, and where they lie in the run -/
  new : List Blk
  ren : List Nat

def assoc : List (Nat × Blk) → Nat → Option Blk
  | [], _ => none
  | p :: l, b => bif Nat.beq p.1 b then some p.2 else assoc l b

/-- a value, but for the numbers of blocks -/
def vren (ρ : Nat → Option Nat) : Nat → Value → Value → Bool
  | 0, _, _ => false
  | n + 1, a, b =>
    match a, b with
    | .bool a, .bool b => a == b
    | .int k a, .int j b => decide (k = j) && decide (a = b)
    | .float k a, .float j b => decide (k = j) && decide (a = b)
    | .string a, .string b => decide (a.data.toList = b.data.toList)
    | .pointer none, .pointer none => true
    | .pointer (some ⟨p, o, none⟩), .pointer (some ⟨q, o', none⟩) => (match ρ p with | some r => Nat.beq r q | none => false) && Nat.beq o o'
    | .slice none l c, .slice none l' c' => Nat.beq l l' && Nat.beq c c'
    | .slice (some ⟨p, o, none⟩) l c, .slice (some ⟨q, o', none⟩) l' c' => (match ρ p with | some r => Nat.beq r q | none => false) && Nat.beq o o' && Nat.beq l l' && Nat.beq c c'
    | .map none, .map none => true
    | .map (some p), .map (some q) => (match ρ p with | some r => Nat.beq r q | none => false)
    | .nilFunc, .nilFunc => true
    | .nilIface, .nilIface => true
    | .iface t a, .iface u b => Nat.beq t u && vren ρ n a b
    | .agg a, .agg b => all2 (vren ρ n) a.toList b.toList
    | .tuple a, .tuple b => all2 (vren ρ n) a.toList b.toList
    | .func (.func f) a c, .func (.func g) b d => Nat.beq f g && all2 (vren ρ n) a.toList b.toList && all2 (vren ρ n) c.toList d.toList
    | _, _ => false

def eren (ρ : Nat → Option Nat) : List (Value × Value × Nat) → List (Value × Value × Nat) → Bool
  | [], [] => true
  | a :: l, b :: m => vren ρ 4 a.1 b.1 && vren ρ 4 a.2.1 b.2.1 && Nat.beq a.2.2 b.2.2 && eren ρ l m
  | _, _ => false

def bren (ρ : Nat → Option Nat) : Blk → Blk → Bool
  | .cells e vs o z, .cells e' us o' z' => Nat.beq e e' && o == o' && decide (z = z') && all2 (vren ρ 5) vs us
  | .map es c, .map es' c' => Nat.beq c c' && eren ρ es es'
  | _, _ => false

theorem all2_ren {φ1 φ2 : Phi} {eq : Value → Value → Bool} (heq : ∀ a b v', eq a b = true → VRel φ1 b v' → VRel φ2 a v') :
    ∀ {l m : List Value} {m' : List Value}, all2 eq l m = true → VRels φ1 m m' → VRels φ2 l m'
  | [], [], _, _, h => by cases h; exact .nil
  | [], _ :: _, _, h, _ => by cases h
  | _ :: _, [], _, h, _ => by cases h
  | a :: l, b :: m, _, h, r => by
    cases r with
    | cons _ v' _ m' h1 h2 =>
      simp only [all2, Bool.and_eq_true] at h
      exact .cons _ _ _ _ (heq _ _ _ h.1 h1) (all2_ren heq h.2 h2)

theorem vren_rel {φ1 φ2 : Phi} {ρ : Nat → Option Nat} (hρ : ∀ p q l, ρ p = some q → φ1 q = some l → φ2 p = some l) :
    ∀ n a b v', vren ρ n a b = true → VRel φ1 b v' → VRel φ2 a v'
  | 0, _, _, _, h, _ => by cases h
  | n + 1, a, b, v', h, r => by
    unfold vren at h
    split at h
    · simp only [beq_iff_eq] at h; subst h; cases r; exact .bool _
    · simp only [Bool.and_eq_true, decide_eq_true_eq] at h
      obtain ⟨rfl, rfl⟩ := h; cases r; exact .int _ _
    · simp only [Bool.and_eq_true, decide_eq_true_eq] at h
      obtain ⟨rfl, rfl⟩ := h
      cases r with
      | float _ _ h => exact .float _ _ h
      | nan _ h => exact .nan _ h
    · rename_i s t
      have e : s = t := by
        obtain ⟨⟨x⟩⟩ := s; obtain ⟨⟨y⟩⟩ := t
        have h1 : x = y := of_decide_eq_true h
        rw [h1]
      subst e; cases r; exact .string _
    · cases r; exact .pnil
    · rename_i p o q o'
      simp only [Bool.and_eq_true] at h
      obtain ⟨h1, h2⟩ := h
      obtain rfl := Nat.eq_of_beq_eq_true h2
      split at h1
      · rename_i x hx
        obtain rfl := Nat.eq_of_beq_eq_true h1
        cases r with
        | ptr _ _ l hl => exact .ptr p _ l (hρ _ _ _ hx hl)
      · cases h1
    · simp only [Bool.and_eq_true] at h
      obtain ⟨h1, h2⟩ := h
      obtain rfl := Nat.eq_of_beq_eq_true h1
      obtain rfl := Nat.eq_of_beq_eq_true h2
      cases r; exact .snil
    · rename_i p o l c q o' l' c'
      simp only [Bool.and_eq_true] at h
      obtain ⟨⟨⟨h1, h2⟩, h3⟩, h4⟩ := h
      obtain rfl := Nat.eq_of_beq_eq_true h2
      obtain rfl := Nat.eq_of_beq_eq_true h3
      obtain rfl := Nat.eq_of_beq_eq_true h4
      split at h1
      · rename_i x hx
        obtain rfl := Nat.eq_of_beq_eq_true h1
        cases r with
        | slc _ _ _ _ lo hl hc => exact .slc p _ _ _ lo (hρ _ _ _ hx hl) hc
        | opn _ _ _ c sz lo hl hn hc => exact .opn p _ _ c sz lo (hρ _ _ _ hx hl) hn hc
      · cases h1
    · cases r; exact .mnil
    · rename_i p q
      split at h
      · rename_i x hx
        obtain rfl := Nat.eq_of_beq_eq_true h
        cases r with
        | map _ l hl => exact .map p l (hρ _ _ _ hx hl)
      · cases h
    · cases r; exact .nilFunc
    · cases r; exact .nilIface
    · simp only [Bool.and_eq_true] at h
      obtain rfl := Nat.eq_of_beq_eq_true h.1
      cases r with
      | iface _ _ v' hv => exact .iface _ _ _ (vren_rel hρ n _ _ _ h.2 hv)
    · rename_i xs ys
      cases r with
      | agg _ _ hv => exact .agg xs.toList _ (all2_ren (fun a b v' => vren_rel hρ n a b v') h hv)
    · rename_i xs ys
      cases r with
      | tuple _ _ hv => exact .tuple xs.toList _ (all2_ren (fun a b v' => vren_rel hρ n a b v') h hv)
    · rename_i f xs zs g ys ws
      simp only [Bool.and_eq_true] at h
      obtain rfl := Nat.eq_of_beq_eq_true h.1.1
      cases r with
      | func _ _ _ _ _ h1 h2 => exact .func _ xs.toList zs.toList _ _ (all2_ren (fun a b v' => vren_rel hρ n a b v') h.1.2 h1) (all2_ren (fun a b v' => vren_rel hρ n a b v') h.2 h2)
    · cases h

theorem eren_rel {φ1 φ2 : Phi} {ρ : Nat → Option Nat} (hρ : ∀ p q l, ρ p = some q → φ1 q = some l → φ2 p = some l) :
    ∀ (l m : List (Value × Value × Nat)) (m' : List MapEntry), eren ρ l m = true → ERel φ1 m m' → ERel φ2 l m'
  | [], [], _, _, h => by cases h; exact .nil
  | [], _ :: _, _, h, _ => by cases h
  | _ :: _, [], _, h, _ => by cases h
  | a :: l, b :: m, _, h, r => by
    cases r with
    | cons k v bn k' v' m m' hk hv hr =>
      unfold eren at h
      simp only [Bool.and_eq_true] at h
      obtain ⟨⟨⟨h1, h2⟩, h3⟩, h4⟩ := h
      have e := Nat.eq_of_beq_eq_true h3
      obtain ⟨ka, va, ba⟩ := a
      simp only at e; subst e
      exact .cons _ _ _ _ _ _ _ (vren_rel hρ 4 _ _ _ h1 hk) (vren_rel hρ 4 _ _ _ h2 hv) (eren_rel hρ l m m' h4 hr)

theorem bren_rel {C C' : Ctx} {φ1 φ2 : Phi} {ρ : Nat → Option Nat} (hρ : ∀ p q l, ρ p = some q → φ1 q = some l → φ2 p = some l) {l : Loc} {x y : Blk} {o : Option Obj}
    (h : bren ρ x y = true) (r : BRel C φ1 l y o) : BRel C' φ2 l x o := by
  unfold bren at h
  split at h
  · rename_i e vs op z e' us op' z'
    simp only [Bool.and_eq_true, beq_iff_eq, decide_eq_true_eq] at h
    obtain ⟨⟨⟨h1, h2⟩, h3⟩, h4⟩ := h
    obtain rfl := Nat.eq_of_beq_eq_true h1
    subst h2; subst h3
    cases r with
    | cells _ _ _ _ cs fr hn hl hx hv hz =>
      have hv' := all2_ren (fun a b v' => vren_rel hρ 5 a b v') h4 hv
      have hlen : vs.length = us.length := by rw [hv'.length, ← hv.length]
      refine .cells _ vs _ _ cs fr hn (by omega) (fun e => by rw [hlen]; exact hx e) (by rw [hlen]; exact hv') hz
  · rename_i es c es' c'
    simp only [Bool.and_eq_true] at h
    obtain rfl := Nat.eq_of_beq_eq_true h.1
    cases r with
    | map _ es' _ he => exact .map _ _ _ (eren_rel hρ _ _ _ h.2 he)
  · cases h

omit [Syms] in
theorem bren_live {ρ : Nat → Option Nat} {x y : Blk} (h : bren ρ x y = true) : y.live = true := by
  unfold bren at h
  split at h
  · rfl
  · rfl
  · cases h

/-! the same blocks -/
def entSame : List (Value × Value × Nat) → List (Value × Value × Nat) → Bool
  | [], [] => true
  | a :: l, b :: m => veq 4 a.1 b.1 && veq 4 a.2.1 b.2.1 && Nat.beq a.2.2 b.2.2 && entSame l m
  | _, _ => false
def blkSame : Blk → Blk → Bool
  | .cells e vs o z, .cells e' us o' z' => Nat.beq e e' && o == o' && decide (z = z') && all2 (veq 5) vs us
  | .map es c, .map es' c' => Nat.beq c c' && entSame es es'
  | _, _ => false
omit [Syms] in
theorem entSame_eq : ∀ {l m : List (Value × Value × Nat)}, entSame l m = true → l = m
  | [], [], _ => rfl
  | [], _ :: _, h => by cases h
  | _ :: _, [], h => by cases h
  | ⟨a1, a2, a3⟩ :: l, ⟨b1, b2, b3⟩ :: m, h => by
    unfold entSame at h
    simp only [Bool.and_eq_true] at h
    obtain ⟨⟨⟨h1, h2⟩, h3⟩, h4⟩ := h
    rw [veq_eq 4 _ _ h1, veq_eq 4 _ _ h2, Nat.eq_of_beq_eq_true h3, entSame_eq h4]
omit [Syms] in
theorem blkSame_eq {x y : Blk} (h : blkSame x y = true) : x = y ∧ y.live = true := by
  unfold blkSame at h
  split at h
  · simp only [Bool.and_eq_true, beq_iff_eq, decide_eq_true_eq] at h
    obtain ⟨⟨⟨h1, h2⟩, h3⟩, h4⟩ := h
    rw [Nat.eq_of_beq_eq_true h1, h2, h3, all2_eq (veq_eq 5) h4]
    exact ⟨rfl, rfl⟩
  · simp only [Bool.and_eq_true] at h
    rw [Nat.eq_of_beq_eq_true h.1, entSame_eq h.2]
    exact ⟨rfl, rfl⟩
  · cases h

/-! the look-up -/
def preIn (base : Nat) (H : Heap) : List (Nat × Blk) → Bool
  | [] => true
  | p :: l => Nat.ble base p.1 && (match H.blk p.1 with | some x => blkSame p.2 x | none => false) && preIn base H l
def sput (post : List (Nat × Blk)) : List (Nat × Blk) → Heap → Heap
  | [], H => H
  | p :: l, H => sput post l (H.set p.1 (match assoc post p.1 with | some x => x | none => .dead))
def snew : List Blk → Heap → Option Heap
  | [], H => some H
  | x :: l, H => match H.new x with | some (_, H) => snew l H | none => none
def sfind (base : Nat) (args : List Value) (H : Heap) : List SRow → Option SRow
  | [] => none
  | r :: l => bif Nat.beq H.n r.n && all2 (veq 4) r.args args && preIn base H r.pre then some r else sfind base args H l
def smemo (base : Nat) (f : Nat → Blk) (rows : List SRow) : Prim := fun args H =>
  bif tabsOk H f base then (match sfind base args H rows with
    | some r => (match snew r.new (sput r.post r.pre H) with | some H' => some (r.val, H') | none => none)
    | none => none) else none

/-! the rows -/
def idOn (base : Nat) (pre : List (Nat × Blk)) (b : Nat) : Option Nat := bif Nat.blt b base || (assoc pre b).isSome then some b else none
def renOf (n : Nat) (ren : List Nat) (b : Nat) : Option Nat := bif Nat.blt b n then some b else ren[b - n]?
def sheap (base : Nat) (f : Nat → Blk) (r : SRow) : Heap :=
  ⟨r.n, T.build (fun i => bif Nat.blt i base then f i else (match assoc r.pre i with | some x => x | none => .dead)) 24 r.n 1 0⟩
def newOk (ρ : Nat → Option Nat) (H : Heap) : List Blk → List Nat → Bool
  | [], [] => true
  | x :: l, b :: m => (match H.blk b with | some y => bren ρ x y | none => false) && newOk ρ H l m
  | _, _ => false
def postOk (ρ : Nat → Option Nat) (H : Heap) : List (Nat × Blk) → Bool
  | [] => true
  | p :: l => (match H.blk p.1 with | some y => bren ρ p.2 y | none => false) && postOk ρ H l
def rowS (C : Ctx) (g : FuncId) (k : Nat) (f : Nat → Blk) (r : SRow) : Bool :=
  Nat.ble C.base r.n && Nat.blt r.n 4194304 && nodN r.ren && r.ren.all (fun b => Nat.ble r.n b) &&
  r.pre.all (fun p => bren (idOn C.base r.pre) p.2 p.2) && r.post.all (fun p => (assoc r.pre p.1).isSome) &&
  all2 (vren (idOn C.base r.pre) 4) r.args r.args &&
  (match call C k g r.args (sheap C.base f r) with
  | some (v, H1) => vren (renOf r.n r.ren) 4 r.val v && postOk (renOf r.n r.ren) H1 r.post && newOk (renOf r.n r.ren) H1 r.new r.ren
  | none => false)
end

omit [Syms] in
theorem sfind_spec {base : Nat} {args : List Value} {H : Heap} : ∀ {rows : List SRow} {r : SRow}, sfind base args H rows = some r →
    r ∈ rows ∧ H.n = r.n ∧ r.args = args ∧ preIn base H r.pre = true
  | [], _, h => by cases h
  | x :: l, r, h => by
    unfold sfind at h
    cases hb : (Nat.beq H.n x.n && all2 (veq 4) x.args args && preIn base H x.pre)
    · rw [hb] at h
      obtain ⟨h1, h2⟩ := sfind_spec h
      exact ⟨List.mem_cons_of_mem _ h1, h2⟩
    · rw [hb] at h
      cases h
      simp only [Bool.and_eq_true] at hb
      exact ⟨List.mem_cons_self .., Nat.eq_of_beq_eq_true hb.1.1, all2_eq (veq_eq 4) hb.1.2, hb.2⟩

omit [Syms] in
theorem assoc_mem : ∀ {l : List (Nat × Blk)} {b : Nat} {x : Blk}, assoc l b = some x → (b, x) ∈ l
  | [], _, _, h => by cases h
  | p :: l, b, x, h => by
    unfold assoc at h
    cases hb : Nat.beq p.1 b
    · rw [hb] at h; exact List.mem_cons_of_mem _ (assoc_mem h)
    · rw [hb] at h; cases h
      obtain rfl := Nat.eq_of_beq_eq_true hb
      exact List.mem_cons_self ..

omit [Syms] in
theorem preIn_spec {base : Nat} {H : Heap} : ∀ {l : List (Nat × Blk)}, preIn base H l = true → ∀ p ∈ l, base ≤ p.1 ∧ H.blk p.1 = some p.2 ∧ p.2.live = true
  | [], _, _, h => by cases h
  | q :: l, h, p, hp => by
    unfold preIn at h
    simp only [Bool.and_eq_true] at h
    obtain ⟨⟨h1, h2⟩, h3⟩ := h
    rcases List.mem_cons.1 hp with rfl | hp
    · refine ⟨Nat.le_of_ble_eq_true h1, ?_⟩
      split at h2
      · rename_i x hx
        obtain ⟨e1, e2⟩ := blkSame_eq h2
        rw [hx, e1]; exact ⟨rfl, e2⟩
      · cases h2
    · exact preIn_spec h3 p hp

omit [Syms] in
/-- what the puts leave -/
theorem sput_blk {post : List (Nat × Blk)} : ∀ (pre : List (Nat × Blk)) (H : Heap), (∀ p ∈ pre, (H.blk p.1).isSome = true) →
    (sput post pre H).n = H.n ∧ (H.t.Full H.n → (sput post pre H).t.Full H.n) ∧ ∀ b, (sput post pre H).blk b = if (∃ p ∈ pre, p.1 = b) then some ((assoc post b).getD .dead) else H.blk b
  | [], H, _ => ⟨rfl, fun h => h, fun b => by rw [if_neg (by rintro ⟨p, hp, _⟩; cases hp)]; rfl⟩
  | q :: l, H, h => by
    have hq : (H.blk q.1).isSome = true := h q (List.mem_cons_self ..)
    have hb : ∀ x b, (H.set q.1 x).blk b = if b = q.1 then some x else H.blk b := fun x b => Heap.blk_set q.1 b x hq
    have e : (match assoc post q.1 with | some x => x | none => Blk.dead) = (assoc post q.1).getD .dead := by cases assoc post q.1 <;> rfl
    unfold sput
    rw [e]
    obtain ⟨h1, h2, h3⟩ := sput_blk (post := post) l (H.set q.1 ((assoc post q.1).getD .dead)) (fun p hp => by
      rw [hb]
      split
      · rfl
      · exact h p (List.mem_cons_of_mem _ hp))
    refine ⟨h1, fun hf => h2 (hf.mod _ _), fun b => ?_⟩
    rw [h3, hb]
    by_cases hl : ∃ p ∈ l, p.1 = b
    · obtain ⟨p, hp, e⟩ := hl
      rw [if_pos ⟨p, hp, e⟩, if_pos ⟨p, List.mem_cons_of_mem _ hp, e⟩]
    · rw [if_neg hl]
      by_cases hbq : b = q.1
      · subst hbq
        rw [if_pos rfl, if_pos ⟨q, List.mem_cons_self .., rfl⟩]
      · rw [if_neg hbq, if_neg]
        rintro ⟨p, hp, e2⟩
        rcases List.mem_cons.1 hp with e3 | hp
        · exact hbq (by rw [← e2, e3])
        · exact hl ⟨p, hp, e2⟩

omit [Syms] in
theorem snew_spec : ∀ (l : List Blk) (H H' : Heap), H.t.Full H.n → snew l H = some H' → H.n ≤ LIMIT + 1 →
    H'.n = H.n + l.length ∧ H'.n ≤ LIMIT + 1 ∧ H'.t.Full H'.n ∧ ∀ b, H'.blk b = if b < H.n then H.blk b else l[b - H.n]?
  | [], H, H', hf, h, hl => by
    cases h
    refine ⟨rfl, hl, hf, fun b => ?_⟩
    split
    · rfl
    · have := hf b
      cases hb : H.blk b
      · simp
      · exfalso
        unfold Heap.blk at hb
        rw [hb] at this
        have h2 : ¬ b < H.n := by assumption
        simp [h2] at this
  | x :: l, H, H', hf, h, hl => by
    unfold snew at h
    split at h
    · rename_i b H1 hn
      obtain ⟨_, h1, h2, h3, h4⟩ := Heap.new_spec hf hn
      obtain ⟨k1, k2, k3, k4⟩ := snew_spec l H1 H' h3 h (by omega)
      refine ⟨by rw [k1, h1, List.length_cons]; omega, k2, k3, fun c => ?_⟩
      rw [k4, h1]
      by_cases hc : c < H.n
      · rw [if_pos (by omega), if_pos hc, h4, if_neg (by omega)]
      · rw [if_neg hc]
        by_cases he : c = H.n
        · rw [if_pos (by omega), h4, if_pos he, he, Nat.sub_self]; rfl
        · rw [if_neg (by omega)]
          obtain ⟨d, rfl⟩ : ∃ d, c = H.n + 1 + d := ⟨c - (H.n + 1), by omega⟩
          rw [show H.n + 1 + d - (H.n + 1) = d by omega, show H.n + 1 + d - H.n = d + 1 by omega]
          rfl
    · cases h

omit [Syms] in
theorem postOk_spec {ρ : Nat → Option Nat} {H : Heap} : ∀ {l : List (Nat × Blk)}, postOk ρ H l = true → ∀ p ∈ l, ∃ y, H.blk p.1 = some y ∧ bren ρ p.2 y = true
  | [], _, _, h => by cases h
  | q :: l, h, p, hp => by
    unfold postOk at h
    simp only [Bool.and_eq_true] at h
    rcases List.mem_cons.1 hp with rfl | hp
    · have h1 := h.1
      split at h1
      · rename_i y hy; exact ⟨y, hy, h1⟩
      · cases h1
    · exact postOk_spec h.2 p hp

omit [Syms] in
theorem newOk_spec {ρ : Nat → Option Nat} {H : Heap} : ∀ {l : List Blk} {m : List Nat}, newOk ρ H l m = true → l.length = m.length ∧ ∀ (j : Nat) (x : Blk), l[j]? = some x → ∃ b y, m[j]? = some b ∧ H.blk b = some y ∧ bren ρ x y = true
  | [], [], _ => ⟨rfl, fun j x h => by simp at h⟩
  | [], _ :: _, h => by cases h
  | _ :: _, [], h => by cases h
  | x :: l, b :: m, h => by
    unfold newOk at h
    simp only [Bool.and_eq_true] at h
    obtain ⟨e, ih⟩ := newOk_spec h.2
    refine ⟨by simp [e], fun j z hz => ?_⟩
    cases j with
    | zero =>
      simp at hz; subst hz
      have h1 := h.1
      split at h1
      · rename_i y hy; exact ⟨b, y, rfl, hy, h1⟩
      · cases h1
    | succ j => simpa using ih j z (by simpa using hz)

theorem BRel.tab_flat {C C' : Ctx} {φ φ' : Phi} {l : Loc} {vs : List Value} {o : Option Obj} (hf : vs.all flat = true) (h : BRel C φ l (.tab vs) o) : BRel C' φ' l (.tab vs) o := by
  cases h with
  | tab _ cs e fr hl hv =>
    refine .tab vs cs e fr hl ?_
    rw [all_eq (fun v v' a b => flat_eq a b) _ _ hf hv]
    exact flats_rel hf

omit [Syms] in
theorem tabsOk_spec {H : Heap} {f : Nat → Blk} : ∀ {n : Nat}, tabsOk H f n = true → ∀ g, g < n → f g = .dead ∨ ∃ vs, f g = .tab vs ∧ H.blk g = some (.tab vs) ∧ vs.all flat = true
  | 0, _, g, hg => by omega
  | n + 1, h, g, hg => by
    unfold tabsOk at h
    simp only [Bool.and_eq_true] at h
    by_cases e : g = n
    · subst e
      have h1 := h.1
      split at h1
      · rename_i hf; exact .inl hf
      · rename_i vs hf
        split at h1
        · rename_i us hu
          simp only [Bool.and_eq_true] at h1
          have := all2_eq (veq_eq 2) h1.1
          subst this
          exact .inr ⟨vs, hf, hu, h1.2⟩
        · cases h1
      · cases h1
    · exact tabsOk_spec h.2 g (by omega)

/-- what a machine knows of the blocks that a row asks for -/
theorem sheap_rel {C C1 : Ctx} {φ : Phi} {H : Heap} {w : World} {f : Nat → Blk} {r : SRow} (hH : HRel C φ H w) (hb : C1.base = C.base) (hlo : C1.lo = r.n) (hn : H.n = r.n) (ht : tabsOk H f C.base = true)
    (hp : preIn C.base H r.pre = true) (hbn : C.base ≤ r.n) (hlt : r.n < 4194304) (hcl : (r.pre.all fun p => bren (idOn C.base r.pre) p.2 p.2) = true) :
    HRel C1 (fun b => if b < C.base ∨ (assoc r.pre b).isSome = true then φ b else none) (sheap C.base f r) w := by
  have hget : ∀ i, (sheap C.base f r).blk i = if i < r.n then some (bif Nat.blt i C.base then f i else (match assoc r.pre i with | some x => x | none => .dead)) else none := by
    intro i
    show (T.build _ 24 r.n 1 0).get i = _
    rw [T.get_build _ 24 r.n 1 0 i (by omega)]; simp
  have hle : ∀ b l, (if b < C.base ∨ (assoc r.pre b).isSome = true then φ b else none) = some l → φ b = some l ∧ (b < C.base ∨ (assoc r.pre b).isSome = true) := by
    intro b l h
    split at h
    · rename_i hc; exact ⟨h, hc⟩
    · cases h
  have hblk : ∀ b x, (sheap C.base f r).blk b = some x → x = .dead ∨ (b < C.base ∧ ∃ vs, x = .tab vs ∧ H.blk b = some x ∧ vs.all flat = true) ∨ (C.base ≤ b ∧ assoc r.pre b = some x ∧ H.blk b = some x) := by
    intro b x h
    rw [hget] at h
    split at h
    · simp only [Option.some.injEq] at h
      cases hbb : Nat.blt b C.base
      · rw [hbb] at h; simp only [cond_false] at h
        have hge : C.base ≤ b := by
          refine Nat.le_of_not_lt fun e => ?_
          rw [blt_of e] at hbb; cases hbb
        split at h
        · rename_i y hy
          subst h
          obtain ⟨_, h2, _⟩ := preIn_spec hp _ (assoc_mem hy)
          exact .inr (.inr ⟨hge, hy, h2⟩)
        · exact .inl h.symm
      · rw [hbb] at h; simp only [cond_true] at h
        have hlt2 := lt_of_blt hbb
        rcases tabsOk_spec ht b hlt2 with e | ⟨vs, e1, e2, e3⟩
        · exact .inl (h.symm.trans e)
        · rw [e1] at h; subst h
          exact .inr (.inl ⟨hlt2, vs, rfl, e2, e3⟩)
    · cases h
  have hL : LIMIT = 4194304 := by decide
  refine ⟨?_, by show r.n ≤ LIMIT + 1; omega, ?_, by rw [hb, hlo]; exact ⟨hbn, Nat.le_refl _⟩, ?_, ?_, ?_⟩
  · intro i
    have : ((sheap C.base f r).t.get i) = (sheap C.base f r).blk i := rfl
    rw [this, hget]
    show _ = decide (i < r.n)
    by_cases h : i < r.n <;> simp [h]
  · intro g hg
    rw [hb] at hg
    obtain ⟨l, h1, h2⟩ := hH.base g hg
    exact ⟨l, by rw [if_pos (.inl hg)]; exact h1, h2⟩
  · intro b l h
    obtain ⟨h1, _⟩ := hle b l h
    have := hH.dom b l h1
    rw [hn] at this
    rw [hb]
    exact ⟨this.1, this.2.1, this.2.2⟩
  · intro b l x h hx
    obtain ⟨h1, h2⟩ := hle b l h
    rcases hblk b x hx with e | ⟨_, vs, e1, e2, e3⟩ | ⟨_, e1, e2⟩
    · subst e; exact .dead _
    · subst e1; exact (hH.blk b l _ h1 e2).tab_flat e3
    · have hc := List.all_eq_true.1 hcl _ (assoc_mem e1)
      refine bren_rel (φ1 := φ) (fun p q l' hp hq => ?_) hc (hH.blk b l _ h1 e2)
      unfold idOn at hp
      cases hb2 : (Nat.blt p C.base || (assoc r.pre p).isSome)
      · rw [hb2] at hp; cases hp
      · rw [hb2] at hp
        cases hp
        have : p < C.base ∨ (assoc r.pre p).isSome = true := by
          rcases Bool.or_eq_true_iff.1 hb2 with e | e
          · exact .inl (lt_of_blt e)
          · exact .inr e
        show (if p < C.base ∨ _ then φ p else none) = _
        rw [if_pos this]; exact hq
  · intro b b' l l' x x' h h' hne hx hx' hlx hlx'
    obtain ⟨h1, _⟩ := hle b l h
    obtain ⟨h1', _⟩ := hle b' l' h'
    have k : H.blk b = some x := by
      rcases hblk b x hx with e | ⟨_, _, _, e2, _⟩ | ⟨_, _, e2⟩
      · subst e; cases hlx
      · exact e2
      · exact e2
    have k' : H.blk b' = some x' := by
      rcases hblk b' x' hx' with e | ⟨_, _, _, e2, _⟩ | ⟨_, _, e2⟩
      · subst e; cases hlx'
      · exact e2
      · exact e2
    exact hH.sep b b' l l' x x' h1 h1' hne k k' hlx hlx'

theorem smemo_at {C C0 : Ctx} (hC0 : COk C0) (hP0 : ∀ n, PrimOk (C0.from n)) (hPP : C0.P = C.P) (hbb : C0.base = C.base)
    {g : FuncId} {fn : Func} {b : Code} (hg : C.P.funcs[g]? = some fn) (hb : fn.body = some b) (hname : (fn.name == "runtime.NumGoroutine") = false)
    {f : Nat → Blk} {rows : List SRow} (hrows : ∀ r ∈ rows, ∃ k, rowS C0 g k f r = true) : PrimAt C g (smemo C.base f rows) := by
  intro args H v H' hr φ w args' hH ha
  unfold smemo at hr
  cases ht : tabsOk H f C.base
  · rw [ht] at hr; cases hr
  rw [ht] at hr; simp only [cond_true] at hr
  split at hr
  case h_2 => cases hr
  rename_i r hf
  split at hr
  case h_2 => cases hr
  rename_i H2 hs
  simp only [Option.some.injEq, Prod.mk.injEq] at hr
  obtain ⟨rfl, rfl⟩ := hr
  obtain ⟨hmem, hn, hargs, hpre⟩ := sfind_spec hf
  obtain ⟨k, hrow⟩ := hrows r hmem
  unfold rowS at hrow
  rw [hbb] at hrow
  simp only [Bool.and_eq_true] at hrow
  obtain ⟨⟨⟨⟨⟨⟨⟨r1, r2⟩, r3⟩, r4⟩, r5⟩, r6⟩, r7⟩, r8⟩ := hrow
  have hbn := Nat.le_of_ble_eq_true r1
  have hlt := lt_of_blt r2
  have hnd := nodN_nodup r3
  have hge : ∀ q ∈ r.ren, r.n ≤ q := fun q hq => Nat.le_of_ble_eq_true (List.all_eq_true.1 r4 q hq)
  have hH0 := sheap_rel (C1 := C0.from r.n) hH hbb rfl hn ht hpre hbn hlt r5
  generalize hφ0 : (fun b => if b < C.base ∨ (assoc r.pre b).isSome = true then φ b else none) = φ0 at hH0
  have z1 : ∀ b l, φ0 b = some l → φ b = some l ∧ (b < C.base ∨ (assoc r.pre b).isSome = true) := by
    intro b l h
    rw [← hφ0] at h
    simp only at h
    split at h
    · rename_i hc; exact ⟨h, hc⟩
    · cases h
  have z2 : ∀ b l, (b < C.base ∨ (assoc r.pre b).isSome = true) → φ b = some l → φ0 b = some l := by
    intro b l h1 h2
    rw [← hφ0]
    simp only
    rw [if_pos h1]; exact h2
  split at r8
  case h_2 => cases r8
  rename_i v1 H1 hc
  simp only [Bool.and_eq_true] at r8
  obtain ⟨⟨q1, q2⟩, q3⟩ := r8
  obtain ⟨hnl, hnew⟩ := newOk_spec q3
  have ha0 : VRels φ0 r.args args' := by
    refine all2_ren (fun a b v' => vren_rel (φ1 := φ) (fun p q l hp hq => ?_) 4 a b v') r7 (by rw [hargs]; exact ha)
    unfold idOn at hp
    cases hb2 : (Nat.blt p C.base || (assoc r.pre p).isSome)
    · rw [hb2] at hp; cases hp
    · rw [hb2] at hp
      cases hp
      refine z2 _ _ ?_ hq
      rcases Bool.or_eq_true_iff.1 hb2 with e | e
      · exact .inl (lt_of_blt e)
      · exact .inr e
  have hR : RecOk (C0.from r.n) (call (C0.from r.n) k) := call_calls (C := C0.from r.n) (hC0.from r.n) (fun n => hP0 n) k
  rw [call_from] at hR
  rcases hR g r.args _ _ _ hc φ0 w args' hH0 ha0 with ⟨h1, h2⟩ | ⟨v', w', h1, _⟩
  case inr =>
    rw [show (C0.from r.n).P = C.P from hPP, callFunc_enter hg hb hname] at h1
    cases h1
  left
  have h1' : (callFunc g ⟨args'⟩).run C.P w = Result.ok (.enter g ⟨args'⟩) w := hPP ▸ h1
  have h2' : Calls C.P g ⟨args'⟩ w (fun e w' => ∃ v', e = .returned v' ∧ Post (C0.from r.n) φ0 w H1 v1 v' w') := hPP ▸ h2
  refine ⟨h1', h2'.mono ?_⟩
  rintro e w' ⟨v', rfl, φ', hext, hH1, hv⟩
  have hpb : ∀ b, (assoc r.pre b).isSome = true → C.base ≤ b ∧ ∃ x, H.blk b = some x ∧ x.live = true := by
    intro b hb
    obtain ⟨x, hx⟩ := Option.isSome_iff_exists.1 hb
    obtain ⟨p1, p2, p3⟩ := preIn_spec hpre _ (assoc_mem hx)
    exact ⟨p1, x, p2, p3⟩
  have hnew' : ∀ q l, φ' q = some l → φ0 q = some l ∨ ((C.base ≤ q ∧ r.n ≤ q) ∧ (w.heap.size ≤ l.c ∨ ∃ b0 l0, C.base ≤ b0 ∧ φ0 b0 = some l0 ∧ l0.c = l.c)) := by
    intro q l h
    have := hext.new q l h
    rw [show (C0.from r.n).base = C.base from hbb, show (C0.from r.n).lo = r.n from rfl] at this
    exact this
  have hold : ∀ q l, q < r.n → φ' q = some l → φ q = some l := by
    intro q l hq h
    rcases hnew' q l h with h | ⟨⟨_, h⟩, _⟩
    · exact (z1 q l h).1
    · omega
  -- the new map
  obtain ⟨φ2, hφ2⟩ : ∃ φ2 : Phi, φ2 = fun b => if b < r.n then φ b else match r.ren[b - r.n]? with | some q => φ' q | none => none := ⟨_, rfl⟩
  have y1 : ∀ b, b < r.n → φ2 b = φ b := fun b h => by rw [hφ2]; simp only; rw [if_pos h]
  have y2 : ∀ b q, ¬ b < r.n → r.ren[b - r.n]? = some q → φ2 b = φ' q := fun b q h hq => by rw [hφ2]; simp only; rw [if_neg h, hq]
  have y3 : ∀ b l, ¬ b < r.n → φ2 b = some l → ∃ q, r.ren[b - r.n]? = some q ∧ φ' q = some l := by
    intro b l h hl
    rw [hφ2] at hl
    simp only at hl
    rw [if_neg h] at hl
    split at hl
    · rename_i q hq; exact ⟨q, hq, hl⟩
    · cases hl
  have hρ : ∀ p q l, renOf r.n r.ren p = some q → φ' q = some l → φ2 p = some l := by
    intro p q l hp hq
    unfold renOf at hp
    cases hb2 : Nat.blt p r.n
    · rw [hb2] at hp
      have : ¬ p < r.n := fun e => by rw [blt_of e] at hb2; cases hb2
      rw [y2 p q this hp]; exact hq
    · rw [hb2] at hp
      cases hp
      have := lt_of_blt hb2
      rw [y1 _ this]; exact hold _ _ this hq
  have hle2 : Le φ φ2 := by
    intro b l h
    have := (hH.dom b l h).1
    rw [y1 b (by omega)]; exact h
  -- the new heap
  obtain ⟨s1, s2, s3⟩ := sput_blk (post := r.post) r.pre H (fun p hp => by
    obtain ⟨_, h, _⟩ := preIn_spec hpre p hp
    rw [h]; rfl)
  obtain ⟨t1, t2, t3, t4⟩ := snew_spec r.new _ _ (by rw [s1]; exact s2 hH.full) hs (by rw [s1]; exact hH.small)
  rw [s1, hn] at t1
  have hmemP : ∀ b, (∃ p ∈ r.pre, p.1 = b) → (assoc r.pre b).isSome = true := by
    rintro b ⟨p, hp, rfl⟩
    have : ∀ (l : List (Nat × Blk)), p ∈ l → (assoc l p.1).isSome = true := by
      intro l
      induction l with
      | nil => intro h; cases h
      | cons q l ih =>
        intro h
        unfold assoc
        cases hb2 : Nat.beq q.1 p.1
        · simp only [cond_false]
          rcases List.mem_cons.1 h with e | h
          · subst e; simp at hb2
          · exact ih h
        · rfl
    exact this _ hp
  have hmemQ : ∀ b, (assoc r.pre b).isSome = true → ∃ p ∈ r.pre, p.1 = b := by
    intro b hb
    obtain ⟨x, hx⟩ := Option.isSome_iff_exists.1 hb
    exact ⟨_, assoc_mem hx, rfl⟩
  -- what a live block of the new heap is
  have hcls : ∀ b l x, φ2 b = some l → H2.blk b = some x → x.live = true →
      (b < r.n ∧ (assoc r.pre b).isSome = false ∧ φ b = some l ∧ H.blk b = some x) ∨
      (∃ q y, renOf r.n r.ren b = some q ∧ H1.blk q = some y ∧ bren (renOf r.n r.ren) x y = true ∧ φ' q = some l ∧ C.base ≤ q) := by
    intro b l x h hx hlive
    rw [t4, s1, hn] at hx
    by_cases hbl : b < r.n
    · rw [if_pos hbl, s3] at hx
      rw [y1 b hbl] at h
      by_cases hp : ∃ p ∈ r.pre, p.1 = b
      · rw [if_pos hp] at hx
        simp only [Option.some.injEq] at hx
        right
        cases hpo : assoc r.post b with
        | none => rw [hpo] at hx; subst hx; cases hlive
        | some z =>
          rw [hpo] at hx
          have hx : z = x := hx
          subst hx
          obtain ⟨y, hy1, hy2⟩ := postOk_spec q2 _ (assoc_mem hpo)
          refine ⟨b, y, ?_, hy1, hy2, hext.le _ _ (z2 b l (.inr (hmemP b hp)) h), (hpb b (hmemP b hp)).1⟩
          unfold renOf
          rw [blt_of hbl]; rfl
      · rw [if_neg hp] at hx
        left
        refine ⟨hbl, ?_, h, hx⟩
        cases ha2 : (assoc r.pre b).isSome
        · rfl
        · exact absurd (hmemQ b ha2) hp
    · rw [if_neg hbl] at hx
      right
      obtain ⟨q, hq, hl⟩ := y3 b l hbl h
      obtain ⟨q', y, e1, e2, e3⟩ := hnew _ _ hx
      rw [hq] at e1; cases e1
      refine ⟨q, y, ?_, e2, e3, hl, Nat.le_trans hbn (hge q (List.mem_of_getElem? hq))⟩
      unfold renOf
      cases hb2 : Nat.blt b r.n
      · exact hq
      · exact absurd (lt_of_blt hb2) hbl
  -- a block that the row does not know lies apart from those that it knows
  have hfar : ∀ b l x, (assoc r.pre b).isSome = false → φ b = some l → H.blk b = some x → x.live = true → ∀ b0 l0, C.base ≤ b0 → φ0 b0 = some l0 → l0.c ≠ l.c := by
    intro b l x hb1 h hx hlive b0 l0 hb0 h0
    obtain ⟨k1, k2⟩ := z1 b0 l0 h0
    rcases k2 with k2 | k2
    · omega
    · obtain ⟨_, x0, hx0, hl0⟩ := hpb b0 k2
      refine hH.sep b0 b l0 l x0 x k1 h ?_ hx0 hx hl0 hlive
      rintro rfl
      rw [k2] at hb1; cases hb1
  have hsz := hext.fr.size
  have hinj : ∀ b b' q, renOf r.n r.ren b = some q → renOf r.n r.ren b' = some q → b = b' := by
    intro b b' q e1 e2
    unfold renOf at e1 e2
    cases hb1 : Nat.blt b r.n <;> rw [hb1] at e1 <;> cases hb2 : Nat.blt b' r.n <;> rw [hb2] at e2
    · simp only [cond_false] at e1 e2
      have n1 : ¬ b < r.n := fun e => by rw [blt_of e] at hb1; cases hb1
      have n2 : ¬ b' < r.n := fun e => by rw [blt_of e] at hb2; cases hb2
      have := (List.getElem?_inj (by
        have := List.getElem?_eq_some_iff.1 e1
        exact this.1) hnd).1 (e1.trans e2.symm)
      omega
    · simp only [cond_false, cond_true, Option.some.injEq] at e1 e2
      have := hge q (List.mem_of_getElem? e1)
      have := lt_of_blt hb2
      omega
    · simp only [cond_false, cond_true, Option.some.injEq] at e1 e2
      have := hge q (List.mem_of_getElem? e2)
      have := lt_of_blt hb1
      omega
    · simp only [cond_true, Option.some.injEq] at e1 e2
      omega
  refine ⟨v', rfl, φ2, ⟨hle2, ⟨hext.fr.os, hext.fr.tape, hext.fr.output, hsz, ?_⟩, ?_⟩, ⟨t3, t2, ?_, ?_, ?_, ?_, ?_⟩, vren_rel hρ 4 _ _ _ q1 hv⟩
  · intro c hc2 hno
    refine hext.fr.block c hc2 (fun b l hb2 h => hno b l ?_ (z1 b l h).1)
    rw [← hbb]; exact hb2
  · intro b l h
    by_cases hbl : b < r.n
    · rw [y1 b hbl] at h; exact .inl h
    · obtain ⟨q, hq, hl⟩ := y3 b l hbl h
      have hqn := hge q (List.mem_of_getElem? hq)
      refine .inr ⟨⟨by omega, by have := hH.low.2; omega⟩, ?_⟩
      rcases hnew' q l hl with h | ⟨_, h⟩
      · have := (hH.dom q l (z1 q l h).1).1; omega
      · rcases h with h | ⟨b0, l0, k1, k2, k3⟩
        · exact .inl h
        · exact .inr ⟨b0, l0, k1, (z1 b0 l0 k2).1, k3⟩
  · intro g2 hg2
    obtain ⟨l, h1, h2⟩ := hH.base g2 hg2
    exact ⟨l, hle2 _ _ h1, h2⟩
  · have := hH.low; omega
  · intro b l h
    by_cases hbl : b < r.n
    · rw [y1 b hbl] at h
      have := hH.dom b l h
      exact ⟨by omega, by omega, this.2.2⟩
    · obtain ⟨q, hq, hl⟩ := y3 b l hbl h
      have hqn := hge q (List.mem_of_getElem? hq)
      have h3 := hH1.dom q l hl
      have hbl2 := (List.getElem?_eq_some_iff.1 hq).1
      refine ⟨by omega, h3.2.1, fun _ => ?_⟩
      have := h3.2.2 (by rw [show (C0.from r.n).base = C.base from hbb]; omega)
      rw [show (C0.from r.n).base = C.base from hbb] at this
      exact this
  · intro b l x h hx
    cases hlive : x.live
    · cases x <;> first | exact .dead _ | cases hlive
    · rcases hcls b l x h hx hlive with ⟨_, k2, k3, k4⟩ | ⟨q, y, k1, k2, k3, k4, _⟩
      · rw [hext.fr.block l.c (hH.dom b l k3).2.1 (fun b0 l0 hb0 h0 => hfar b l x k2 k3 k4 hlive b0 l0 (by rw [← hbb]; exact hb0) h0)]
        exact (hH.blk b l x k3 k4).mono hle2
      · exact bren_rel hρ k3 (hH1.blk q l y k4 k2)
  · intro b b' l l' x x' h h' hne hx hx' hlx hlx'
    rcases hcls b l x h hx hlx with ⟨_, k2, k3, k4⟩ | ⟨q, y, k1, k2, k3, k4, k5⟩
    · rcases hcls b' l' x' h' hx' hlx' with ⟨_, m2, m3, m4⟩ | ⟨q', y', m1, m2, m3, m4, m5⟩
      · exact hH.sep b b' l l' x x' k3 m3 hne k4 m4 hlx hlx'
      · have hd := (hH.dom b l k3).2.1
        rcases hnew' q' l' m4 with h0 | ⟨_, h0 | ⟨b0, l0, j1, j2, j3⟩⟩
        · exact (hfar b l x k2 k3 k4 hlx q' l' m5 h0).symm
        · omega
        · have := hfar b l x k2 k3 k4 hlx b0 l0 j1 j2; omega
    · rcases hcls b' l' x' h' hx' hlx' with ⟨_, m2, m3, m4⟩ | ⟨q', y', m1, m2, m3, m4, m5⟩
      · have hd := (hH.dom b' l' m3).2.1
        rcases hnew' q l k4 with h0 | ⟨_, h0 | ⟨b0, l0, j1, j2, j3⟩⟩
        · exact hfar b' l' x' m2 m3 m4 hlx' q l k5 h0
        · omega
        · have := hfar b' l' x' m2 m3 m4 hlx' b0 l0 j1 j2; omega
      · refine hH1.sep q q' l l' y y' k4 m4 ?_ k2 m2 (bren_live k3) (bren_live m3)
        rintro rfl
        exact hne (hinj b b' q k1 m1)
end Go.AM
