/- AM: the pages that a pool holds, rising (a map's keys, sorted), taken at its contract. -/
import Derived.Test.YtmohbeomlpjljaaGreatDoorAmMemo
import Derived.Maps.Own
import Derived.Lib.SlKeysI
namespace Go.AM
open Go
variable [Syms]
open Go.RowKit (Below)

/-- a block of the model's that the machine comes to know -/
theorem HRel.adopt {C : Ctx} {φ : Phi} {H H' : Heap} {w : World} (h : HRel C φ H w) {x : Blk} {b : Nat} (hn : H.new x = some (b, H')) (l : Loc)
    (hφ : ∀ b k, φ b = some k → k.c ≠ l.c) (hw : l.c < w.heap.size) (hb0 : C.base ≤ l.c) (hb : ∀ φ', Le φ φ' → φ' H.n = some l → BRel C φ' l x w.heap[l.c]?) :
    b = H.n ∧ ∃ φ', φ' b = some l ∧ Le φ φ' ∧ HRel C φ' H' w ∧ (∀ i k, φ' i = some k → φ i = some k ∨ ((C.base ≤ i ∧ C.lo ≤ i) ∧ k = l)) := by
  obtain ⟨rfl, hn1, hlim, hfull, hblk⟩ := Heap.new_spec h.full hn
  have hle : Le φ (fun i => if i = H.n then some l else φ i) := by
    intro i k hk
    have := (h.dom i k hk).1
    show (if i = H.n then some l else φ i) = _
    rw [if_neg (by omega)]; exact hk
  refine ⟨rfl, fun i => if i = H.n then some l else φ i, by simp, hle, ?_, ?_⟩
  · refine ⟨hfull, by omega, ?_, by have := h.low; omega, ?_, ?_, ?_⟩
    · intro g hg
      obtain ⟨k, hk, h2⟩ := h.base g hg
      exact ⟨k, hle _ _ hk, h2⟩
    · intro i k hk
      split at hk
      · cases hk; subst_vars
        exact ⟨by omega, by omega, fun _ => by omega⟩
      · have := h.dom i k hk
        exact ⟨by omega, by omega, this.2.2⟩
    · intro i k y hk hy
      rw [hblk] at hy
      by_cases hi : i = H.n
      · rw [if_pos hi] at hk hy; cases hk; cases hy
        exact hb _ hle (by simp)
      · rw [if_neg hi] at hk hy
        exact (h.blk i k y hk hy).mono hle
    · intro i j k m y y' hk hm hij hy hy' hly hly'
      rw [hblk] at hy hy'
      by_cases hi : i = H.n
      · have hj : j ≠ H.n := by omega
        rw [if_pos hi] at hk; cases hk
        rw [if_neg hj] at hm
        exact fun e => hφ j m hm e.symm
      · rw [if_neg hi] at hk hy
        by_cases hj : j = H.n
        · rw [if_pos hj] at hm; cases hm
          exact hφ i k hk
        · rw [if_neg hj] at hm hy'
          exact h.sep i j k m y y' hk hm hij hy hy' hly hly'
  · intro i k hk
    have hk : (if i = H.n then some l else φ i) = some k := hk
    split at hk
    · cases hk
      have := h.low
      exact .inr ⟨by omega, rfl⟩
    · exact .inl hk

omit [Syms] in
theorem Ext.below {C : Ctx} {φ : Phi} {w w' : World} (h : Below w.heap.size w w') : Ext C φ w φ w' :=
  ⟨Le.refl φ, ⟨h.os, h.tape, h.output, h.size, fun c hc _ => h.block c hc⟩, fun _ _ hl => .inl hl⟩
theorem HRel.below {C : Ctx} {φ : Phi} {H : Heap} {w w' : World} (hH : HRel C φ H w) (h : Below w.heap.size w w') : HRel C φ H w' := hH.still h.size (fun c hc => h.block c hc)
theorem HRel.base_size {C : Ctx} {φ : Phi} {H : Heap} {w : World} (hH : HRel C φ H w) : C.base ≤ w.heap.size := by
  by_cases h0 : C.base = 0
  · omega
  · obtain ⟨l, hl, hlc, _⟩ := hH.base (C.base - 1) (by omega)
    have := (hH.dom _ l hl).2.1
    omega

noncomputable section
def nodI : List Int → Bool
  | [] => true
  | x :: l => l.all (fun y => !decide (x = y)) && nodI l
def nodN : List Nat → Bool
  | [] => true
  | x :: l => l.all (fun y => !Nat.beq x y) && nodN l
def keyInts : List (Value × Value × Nat) → Option (List Int)
  | [] => some []
  | (.int .i64 n, _, _) :: l => bif (Lit.int .i64 n).wf then consO n (keyInts l) else none
  | _ => none
def insI (n : Int) : List Int → List Int
  | [] => [n]
  | m :: l => bif decide (n ≤ m) then n :: m :: l else m :: insI n l
def sortI : List Int → List Int
  | [] => []
  | n :: l => insI n (sortI l)

/-- what a pool holds: its map (at cell 2) -/
def heldP (ti : TypeId) : Prim := fun args H => match args with
  | [.pointer (some ⟨b, off, none⟩)] => match H.cell b (off + 2) with
    | some (.map (some m)) => match H.blk m with
      | some (.map es clock) => match keyInts es with
        | some [] => some (.slice none 0 0, H)
        | some l => bif nodI l && nodN (es.map (·.2.2)) && es.all (fun e => e.2.2.blt clock) && l.length.ble 1000 then
            (match H.new (.cells ti ((sortI l).map (.int .i64)) true ⟨0, false⟩) with
             | some (x, H) => some (.slice (some ⟨x, 0, none⟩) l.length (OPEN + 1), H)
             | none => none) else none
        | none => none
      | _ => none
    | _ => none
  | _ => none
end

omit [Syms] in
theorem nodI_nodup : ∀ {l : List Int}, nodI l = true → l.Nodup
  | [], _ => List.nodup_nil
  | x :: l, h => by
    simp only [nodI, Bool.and_eq_true, List.all_eq_true] at h
    refine List.nodup_cons.2 ⟨fun hm => ?_, nodI_nodup h.2⟩
    have := h.1 x hm
    simp at this
omit [Syms] in
theorem nodN_nodup : ∀ {l : List Nat}, nodN l = true → l.Nodup
  | [], _ => List.nodup_nil
  | x :: l, h => by
    simp only [nodN, Bool.and_eq_true, List.all_eq_true] at h
    refine List.nodup_cons.2 ⟨fun hm => ?_, nodN_nodup h.2⟩
    have := h.1 x hm
    simp at this

omit [Syms] in
theorem insI_perm (n : Int) : ∀ l, (insI n l).Perm (n :: l)
  | [] => List.Perm.refl _
  | m :: l => by
    unfold insI
    cases h : decide (n ≤ m)
    · simp only [cond_false]; exact ((insI_perm n l).cons m).trans (List.Perm.swap n m l)
    · simp only [cond_true]; exact List.Perm.refl _
omit [Syms] in
theorem sortI_perm : ∀ l, (sortI l).Perm l
  | [] => List.Perm.refl _
  | n :: l => (insI_perm n (sortI l)).trans ((sortI_perm l).cons n)
omit [Syms] in
theorem insI_sorted (n : Int) : ∀ l, l.Pairwise (· ≤ ·) → (insI n l).Pairwise (· ≤ ·)
  | [], _ => by simp [insI]
  | m :: l, h => by
    have hm := List.pairwise_cons.1 h
    unfold insI
    cases hd : decide (n ≤ m)
    · simp only [cond_false]
      have hd : m ≤ n := by simp at hd; omega
      refine List.pairwise_cons.2 ⟨fun a ha => ?_, insI_sorted n l hm.2⟩
      rcases List.mem_cons.1 ((insI_perm n l).mem_iff.1 ha) with rfl | ha
      · exact hd
      · exact hm.1 a ha
    · simp only [cond_true]
      have hd : n ≤ m := by simpa using hd
      refine List.pairwise_cons.2 ⟨fun a ha => ?_, h⟩
      rcases List.mem_cons.1 ha with rfl | ha
      · exact hd
      · exact Int.le_trans hd (hm.1 a ha)
omit [Syms] in
theorem sortI_sorted : ∀ l, (sortI l).Pairwise (· ≤ ·)
  | [] => List.Pairwise.nil
  | n :: l => insI_sorted n _ (sortI_sorted l)
omit [Syms] in
theorem merge_sortI {ss l : List Int} (h : ss.Perm l) : ss.mergeSort (fun x y => decide (x ≤ y)) = sortI l := by
  refine List.Perm.eq_of_pairwise (le := (· ≤ ·)) (fun a b _ _ h1 h2 => Int.le_antisymm h1 h2) ?_ (sortI_sorted l) ((List.mergeSort_perm _ _).trans (h.trans (sortI_perm l).symm))
  have := List.pairwise_mergeSort (le := fun x y : Int => decide (x ≤ y)) (fun a b c h1 h2 => by simp at *; omega) (fun a b => by simp; omega) ss
  exact this.imp (fun h => by simpa using h)

/-- the law that a program's (*Pool).Held keeps -/
def HeldLaw (P : Program) (g : FuncId) (ti : TypeId) : Prop :=
  ∀ (pb po m : Nat) (es : List MapEntry) (clock : Nat) (l : List Int) (w : World), w.cell? ⟨pb, po + 2, none⟩ = some (.map (some m)) → w.heap[m]? = some (.map ⟨es⟩ clock) →
    es.map (·.key) = l.map (.int .i64) → (∀ x ∈ l, (Lit.int .i64 x).wf = true) → l.Nodup → (es.map (·.born)).Nodup → (∀ e ∈ es, e.born < clock) → es.length ≤ 1000 →
    Calls P g #[.pointer (some ⟨pb, po, none⟩)] w fun e w' => ∃ v, e = .returned v ∧ w'.ownsRow w.heap.size ti 1 v l.length ((sortI l).map (.int .i64)) ∧ (v = .slice none 0 0 ↔ l = []) ∧ Below w.heap.size w w'

theorem keyInts_rel {φ : Phi} : ∀ {es : List (Value × Value × Nat)} {es' : List MapEntry} {l : List Int}, ERel φ es es' → keyInts es = some l →
    es'.map (·.key) = l.map (.int .i64) ∧ (∀ x ∈ l, (Lit.int .i64 x).wf = true) ∧ es'.map (·.born) = es.map (·.2.2)
  | _, _, l, .nil, h => by
    simp only [keyInts, Option.some.injEq] at h; subst h
    exact ⟨rfl, by simp, rfl⟩
  | _, _, l, .cons k v b k' v' es es' hk hv hes, h => by
    unfold keyInts at h
    split at h
    · cases h
      rename_i hnil; cases hnil
    · rename_i n _ _ l1 heq
      cases heq
      cases hw : (Lit.int .i64 n).wf
      · rw [hw] at h; cases h
      · rw [hw] at h; simp only [cond_true] at h
        cases hr : keyInts es with
        | none => rw [hr] at h; cases h
        | some r =>
          rw [hr] at h
          simp only [consO, Option.some.injEq] at h; subst h
          obtain ⟨h1, h2, h3⟩ := keyInts_rel hes hr
          cases hk
          refine ⟨by simp [h1], ?_, by simp [h3]⟩
          intro x hx
          rcases List.mem_cons.1 hx with rfl | hx
          · exact hw
          · exact h2 x hx
    · cases h

theorem heldP_at {C : Ctx} {g : FuncId} {fn : Func} {b : Code} {ti : TypeId} (hg : C.P.funcs[g]? = some fn) (hb : fn.body = some b) (hname : (fn.name == "runtime.NumGoroutine") = false) (hL : HeldLaw C.P g ti) :
    PrimAt C g (heldP ti) := by
  intro args H v H' hr φ w args' hH ha
  left
  refine ⟨callFunc_enter hg hb hname _ w, ?_⟩
  unfold heldP at hr
  split at hr
  · rename_i pb po
    cases ha with
    | cons _ p' _ _ hp htl =>
    cases htl
    cases hp with
    | ptr _ _ lp hlp =>
    split at hr
    · rename_i m hcell
      obtain ⟨mv, hm1, hm2⟩ := hH.cell hlp hcell
      cases hm2 with
      | map _ lm hlm =>
      split at hr
      · rename_i es clock hblk
        obtain ⟨es', hw, her⟩ := hH.mapAt hlm hblk
        have hbase := hH.base_size
        have key : ∀ l, keyInts es = some l → nodI l = true → nodN (es.map (·.2.2)) = true → es.all (fun e => e.2.2.blt clock) = true → es'.length ≤ 1000 →
            Calls C.P g #[.pointer (some ⟨lp.c, lp.d + po, none⟩)] w fun e w' => ∃ v, e = .returned v ∧ w'.ownsRow w.heap.size ti 1 v l.length ((sortI l).map (.int .i64)) ∧ (v = .slice none 0 0 ↔ l = []) ∧ Below w.heap.size w w' := by
          intro l h1 h2 h3 h4 h5
          obtain ⟨k1, k2, k3⟩ := keyInts_rel her h1
          refine hL lp.c (lp.d + po) lm.c es' clock l w (by rw [Nat.add_assoc]; exact hm1) hw k1 k2 (nodI_nodup h2) (by rw [k3]; exact nodN_nodup h3) ?_ h5
          intro e he
          exact lt_of_blt (her.all (fun b => Nat.blt b clock) h4 e he)
        split at hr
        · rename_i hk
          cases hr
          have hes : es = [] := by
            cases es with
            | nil => rfl
            | cons e es =>
              obtain ⟨a, b, c⟩ := e
              unfold keyInts at hk
              split at hk
              · rename_i h; cases h
              · rename_i n _ _ l1 heq
                cases hw : (Lit.int .i64 n).wf
                · rw [hw] at hk; cases hk
                · rw [hw] at hk; simp only [cond_true] at hk
                  cases hr : keyInts l1 <;> rw [hr] at hk <;> cases hk
              · cases hk
          subst hes
          cases her
          refine (key [] hk rfl rfl rfl (by simp)).mono ?_
          rintro e w' ⟨v, rfl, hrow, hnil, hbel⟩
          obtain rfl := hnil.2 rfl
          exact ⟨_, rfl, φ, Ext.below hbel, hH.below hbel, .snil⟩
        · rename_i l hnn hk
          cases hc : (nodI l && nodN (es.map (·.2.2)) && es.all (fun e => e.2.2.blt clock) && l.length.ble 1000)
          · rw [hc] at hr; cases hr
          · rw [hc] at hr; simp only [cond_true] at hr
            simp only [Bool.and_eq_true] at hc
            obtain ⟨⟨⟨c1, c2⟩, c3⟩, c4⟩ := hc
            have c4 := Nat.le_of_ble_eq_true c4
            split at hr
            · rename_i x H1 hn
              simp only [Option.some.injEq, Prod.mk.injEq] at hr
              obtain ⟨rfl, rfl⟩ := hr
              have hlen : es'.length = l.length := by
                have := congrArg List.length (keyInts_rel her hk).1
                simpa using this
              refine (key l hk c1 c2 c3 (by omega)).mono ?_
              rintro e w' ⟨v, rfl, hrow, hnil, hbel⟩
              have hslen : (sortI l).length = l.length := (sortI_perm l).length_eq
              rcases hrow.2 with ⟨rfl, h0⟩ | ⟨gb, cap, cur, rfl, hgb, hcell, h1, h2, h3, h4⟩
              · exact absurd (List.eq_nil_of_length_eq_zero h0) hnn
              · have hH2 := hH.below hbel
                obtain ⟨rfl, φ', p1, p2, p3, p4⟩ := hH2.adopt hn ⟨gb, 0, cur.size⟩ (fun b l hl => by have := (hH.dom b l hl).2.1; show l.c ≠ gb; omega) (Array.getElem?_eq_some_iff.1 hcell).1 (Nat.le_trans hbase hgb) (by
                  intro φ' hle he
                  rw [hcell]
                  refine .cells ti _ true ⟨0, false⟩ cur (0, 0) rfl (by simp; omega) (fun h => by cases h) ?_ ⟨fun i _ _ => by simp, fun _ => .inl rfl⟩
                  rw [List.drop_zero, List.length_map, hslen, show l.length = l.length * 1 by omega, h4]
                  refine flats_rel ?_
                  simp [flat])
                refine ⟨_, rfl, φ', ⟨p2, (Ext.below (C := C) (φ := φ) hbel).fr, ?_⟩, p3, ?_⟩
                · intro i k hk
                  rcases p4 i k hk with h | ⟨h, rfl⟩
                  · exact .inl h
                  · exact .inr ⟨h, .inl hgb⟩
                · exact .opn _ 0 l.length cap 1 _ p1 h1 (by show 0 + 0 + cap * 1 = cur.size; omega)
            · cases hr
        · cases hr
      · cases hr
    · cases hr
  · cases hr
end Go.AM
namespace Go.AM
open Go
variable [Syms]
open Go.RowKit (Below)

noncomputable section
def intsV : List Value → Option (List Int)
  | [] => some []
  | .int .i64 n :: l => consO n (intsV l)
  | _ => none
def splitP (ti tsl : TypeId) : Prim := fun args H => match args with
  | [.slice base n c] => bif n.beq 0 then some (.slice none 0 0, H) else
    bif !(n.ble 20 && n.ble c) then none else
    match base with
    | some ⟨b, off, none⟩ => match H.cells b off n with
      | some l => match intsV l with
        | some zs => match H.new (.cells ti (zs.map (.int .i64)) true ⟨0, false⟩) with
          | some (x, H1) => match H1.new (.cells tsl [.slice (some ⟨x, 0, none⟩) n (OPEN + 1)] true ⟨0, false⟩) with
            | some (y, H2) => some (.slice (some ⟨y, 0, none⟩) 1 (OPEN + 1), H2)
            | none => none
          | none => none
        | none => none
      | none => none
    | _ => none
  | _ => none
end

/-- the law that a program's list.Split keeps -/
def SplitLaw (P : Program) (g : FuncId) (ti tsl : TypeId) : Prop :=
  (∀ (a : Option Addr) (cap : Nat) (w : World), Calls P g #[.slice a 0 cap] w fun e w' => e = .returned (.slice none 0 0) ∧ Below w.heap.size w w') ∧
  (∀ (b off len cap : Nat) (zs : List Int) (w : World), 1 ≤ len → len ≤ 20 → len ≤ cap → zs.length = len → (∀ j, j < zs.length → w.cell? ⟨b, off + j, none⟩ = some (.int .i64 (zs.getD j 0))) →
    Calls P g #[.slice (some ⟨b, off, none⟩) len cap] w fun e W' => ∃ g1 cap1 cur1 g2 cap2 cur2, e = .returned (.slice (some ⟨g2, 0, none⟩) 1 cap2) ∧
        W'.heap[g2]? = some (.cells cur2 tsl (0, 0)) ∧ cur2.size = cap2 ∧ 1 ≤ cap2 ∧ cur2.toList.take 1 = [.slice (some ⟨g1, 0, none⟩) len cap1] ∧
        W'.heap[g1]? = some (.cells cur1 ti (0, 0)) ∧ cur1.size = cap1 ∧ len ≤ cap1 ∧ cur1.toList.take len = zs.map (.int .i64) ∧ w.heap.size ≤ g1 ∧ w.heap.size ≤ g2 ∧ g1 ≠ g2 ∧ Below w.heap.size w W')

omit [Syms] in
theorem intsV_eq : ∀ {l : List Value} {zs : List Int}, intsV l = some zs → l = zs.map (.int .i64)
  | [], zs, h => by cases h; rfl
  | v :: l, zs, h => by
    unfold intsV at h
    split at h
    · rename_i e; cases e
    · rename_i n l' e
      cases e
      cases hr : intsV l with
      | none => rw [hr] at h; cases h
      | some r =>
        rw [hr] at h
        cases h
        rw [intsV_eq hr]; rfl
    · cases h

omit [Syms] in
theorem Heap.cells_cell {H : Heap} {b off n j : Nat} {l : List Value} {v : Value} (h : H.cells b off n = some l) (hn : n ≠ 0) (hv : l[j]? = some v) : l.length = n ∧ H.cell b (off + j) = some v := by
  obtain ⟨x, vs, h1, h2, rfl, h4⟩ := Heap.cells_spec h
  have h4 : off + n ≤ vs.length := by omega
  have hj : j < n := by
    have := (List.getElem?_eq_some_iff.1 hv).1
    simp at this; omega
  refine ⟨by simp; omega, ?_⟩
  have hg : vs[off + j]? = some v := by
    rw [List.getElem?_take, if_pos hj, List.getElem?_drop] at hv; exact hv
  unfold Heap.cell
  rw [h1]
  cases x <;> first | (cases h2; exact hg) | cases h2

omit [Syms] in
theorem Heap.cells_len {H : Heap} {b off n : Nat} {l : List Value} (h : H.cells b off n = some l) (hn : n ≠ 0) : l.length = n := by
  obtain ⟨x, vs, h1, h2, rfl, h4⟩ := Heap.cells_spec h
  simp; omega

theorem VRel.slice_of {φ : Phi} {b off n c : Nat} {v' : Value} (h : VRel φ (.slice (some ⟨b, off, none⟩) n c) v') (hc : n ≤ c) : ∃ l c', φ b = some l ∧ n ≤ c' ∧ v' = .slice (some ⟨l.c, l.d + off, none⟩) n c' := by
  cases h with
  | slc _ _ _ _ l hl => exact ⟨l, _, hl, hc, rfl⟩
  | opn _ _ _ c1 _ l hl hn _ => exact ⟨l, c1, hl, hn, rfl⟩

theorem splitP_at {C : Ctx} {g : FuncId} {fn : Func} {b : Code} {ti tsl : TypeId} (hg : C.P.funcs[g]? = some fn) (hb : fn.body = some b) (hname : (fn.name == "runtime.NumGoroutine") = false) (hL : SplitLaw C.P g ti tsl) :
    PrimAt C g (splitP ti tsl) := by
  intro args H v H' hr φ w args' hH ha
  left
  refine ⟨callFunc_enter hg hb hname _ w, ?_⟩
  unfold splitP at hr
  split at hr
  · rename_i base n c
    cases ha with
    | cons _ s' _ _ hs htl =>
    cases htl
    cases hz : n.beq 0
    · rw [hz] at hr; simp only [cond_false] at hr
      have hn0 : n ≠ 0 := by intro e; subst e; cases hz
      cases hk : (n.ble 20 && n.ble c)
      · rw [hk] at hr; cases hr
      · rw [hk] at hr; simp only [Bool.not_true, cond_false] at hr
        simp only [Bool.and_eq_true] at hk
        have k1 := Nat.le_of_ble_eq_true hk.1
        have k2 := Nat.le_of_ble_eq_true hk.2
        split at hr
        · rename_i blk off
          obtain ⟨lo, c', hlo, hcc, rfl⟩ := hs.slice_of k2
          split at hr
          · rename_i vs hvs
            split at hr
            · rename_i zs hzs
              have hvz := intsV_eq hzs
              obtain ⟨vs', r1, r2⟩ := hH.run_cells C.P hlo hvs
              have hlen : zs.length = n := by
                have h1 : vs.length = n := Heap.cells_len hvs hn0
                rw [hvz, List.length_map] at h1; exact h1
              have hcell : ∀ j, j < zs.length → w.cell? ⟨lo.c, lo.d + off + j, none⟩ = some (.int .i64 (zs.getD j 0)) := by
                intro j hj
                have hc1 : H.cell blk (off + j) = some (.int .i64 (zs.getD j 0)) := by
                  refine (Heap.cells_cell hvs hn0 (j := j) ?_).2
                  rw [hvz, List.getElem?_map, List.getD_eq_getElem?_getD, List.getElem?_eq_getElem hj]; rfl
                obtain ⟨v', e1, e2⟩ := hH.cell hlo hc1
                cases e2
                rw [Nat.add_assoc]; exact e1
              split at hr
              · rename_i x H1 hn1
                split at hr
                · rename_i y H2 hn2
                  simp only [Option.some.injEq, Prod.mk.injEq] at hr
                  obtain ⟨rfl, rfl⟩ := hr
                  refine (hL.2 lo.c (lo.d + off) n c' zs w (by omega) k1 hcc hlen hcell).mono ?_
                  rintro e w' ⟨g1, cap1, cur1, g2, cap2, cur2, rfl, q1, q2, q3, q4, q5, q6, q7, q8, q9, q10, q11, hbel⟩
                  have hbase := hH.base_size
                  have hH2 := hH.below hbel
                  obtain ⟨rfl, φ1, p1, p2, p3, p4⟩ := hH2.adopt hn1 ⟨g1, 0, cur1.size⟩ (fun b l hl => by have := (hH.dom b l hl).2.1; show l.c ≠ g1; omega) (Array.getElem?_eq_some_iff.1 q5).1 (Nat.le_trans hbase q9) (by
                    intro φ' hle he
                    rw [q5]
                    refine .cells ti _ true ⟨0, false⟩ cur1 (0, 0) rfl (by simp; omega) (fun h => by cases h) ?_ ⟨fun i _ _ => by simp, fun _ => .inl rfl⟩
                    rw [List.drop_zero, List.length_map, hlen, q8]
                    refine flats_rel ?_
                    simp [flat])
                  obtain ⟨rfl, φ2, s1, s2, s3, s4⟩ := p3.adopt hn2 ⟨g2, 0, cur2.size⟩ (fun b l hl => by
                    show l.c ≠ g2
                    rcases p4 b l hl with h | ⟨_, rfl⟩
                    · have := (hH.dom b l h).2.1; omega
                    · exact q11) (Array.getElem?_eq_some_iff.1 q1).1 (Nat.le_trans hbase q10) (by
                    intro φ' hle he
                    rw [q1]
                    refine .cells tsl _ true ⟨0, false⟩ cur2 (0, 0) rfl (by simp; omega) (fun h => by cases h) ?_ ⟨fun i _ _ => by simp, fun _ => .inl rfl⟩
                    rw [List.drop_zero]
                    show VRels _ _ (cur2.toList.take 1)
                    rw [q4]
                    exact .cons _ _ _ _ (.opn _ 0 n cap1 1 _ (hle _ _ p1) q7 (by show 0 + 0 + cap1 * 1 = cur1.size; omega)) .nil)
                  refine ⟨_, rfl, φ2, ⟨p2.trans s2, (Ext.below (C := C) (φ := φ) hbel).fr, ?_⟩, s3, ?_⟩
                  · intro i k hk
                    rcases s4 i k hk with ha | ⟨hb, he⟩
                    · rcases p4 i k ha with hc | ⟨hd, he⟩
                      · exact .inl hc
                      · exact .inr ⟨hd, .inl (by rw [he]; exact q9)⟩
                    · exact .inr ⟨hb, .inl (by rw [he]; exact q10)⟩
                  · exact .opn _ 0 1 cap2 1 _ s1 q3 (by show 0 + 0 + cap2 * 1 = cur2.size; omega)
                · cases hr
              · cases hr
            · cases hr
          · cases hr
        · cases hr
    · rw [hz] at hr; simp only [cond_true, Option.some.injEq, Prod.mk.injEq] at hr
      obtain ⟨rfl, rfl⟩ := hr
      obtain rfl := Nat.eq_of_beq_eq_true hz
      have hsh : ∃ a c', s' = .slice a 0 c' := by cases hs <;> exact ⟨_, _, rfl⟩
      obtain ⟨a, c', rfl⟩ := hsh
      refine (hL.1 a c' w).mono ?_
      rintro e w' ⟨rfl, hbel⟩
      exact ⟨_, rfl, φ, Ext.below hbel, hH.below hbel, .snil⟩
  · cases hr
end Go.AM
namespace Go.AM
open Go
variable [Syms]

theorem rule_len {P : Program} {x r : Value} {s : ByteArray} (hx : den x = .string s) (hr : okR r = true) (hd : den r = .int .i64 s.size) : RuleOk P ⟨100, 0, x, .bool false, r⟩ := by
  refine ⟨hr, ?_, fun _ => ⟨s, hx, hd⟩, fun h => by cases h⟩
  intro op h; cases op <;> cases h

theorem rule_add {P : Program} {t : TypeId} {x y r : Value} {a b : Int} (hx : den x = .int .i64 a) (hy : den y = .int .i64 b) (hr : okR r = true) (hd : den r = .int .i64 (IntKind.i64.wrap (a + b))) : RuleOk P ⟨7, t, x, y, r⟩ := by
  refine ⟨hr, ?_, (fun h => by cases h), fun h => by cases h⟩
  intro op h w
  show (binOp op t (den x) (den y)).run P w = .ok (den r) w
  rw [hx, hy, hd]
  cases op <;> first | rfl | (simp [opIx] at h; done) | simp [binOp, Op.intArith, Op.intCmp, Op.stringOp, go_sem]

theorem rule_gtr {P : Program} {t : TypeId} {x y r : Value} {a b : Int} (hx : den x = .int .i64 a) (hy : den y = .int .i64 b) (hr : okR r = true) (hd : den r = .bool (decide (a > b))) : RuleOk P ⟨5, t, x, y, r⟩ := by
  refine ⟨hr, ?_, (fun h => by cases h), fun h => by cases h⟩
  intro op h w
  show (binOp op t (den x) (den y)).run P w = .ok (den r) w
  rw [hx, hy, hd]
  cases op <;> first | rfl | (simp [opIx] at h; done) | simp [binOp, Op.intArith, Op.intCmp, Op.stringOp, go_sem]

theorem rule_eql {P : Program} {t : TypeId} {x y r : Value} {a b : ByteArray} (hx : den x = .string a) (hy : den y = .string b) (hr : okR r = true) (hd : den r = .bool (a.toList == b.toList)) : RuleOk P ⟨1, t, x, y, r⟩ := by
  refine ⟨hr, ?_, (fun h => by cases h), fun h => by cases h⟩
  intro op h w
  show (binOp op t (den x) (den y)).run P w = .ok (den r) w
  rw [hx, hy, hd]
  cases op <;> first | rfl | (simp [opIx] at h; done) | simp [binOp, Op.intArith, Op.intCmp, Op.stringOp, go_sem]

theorem rule_conv {P : Program} {x r : Value} {k : IntKind} {n : Int} (hx : den x = .int k n) (hr : okR r = true) (hd : den r = .int .i64 (IntKind.i64.wrap n)) : RuleOk P ⟨101, 0, x, .bool false, r⟩ := by
  refine ⟨hr, ?_, (fun h => by cases h), fun _ => ⟨k, n, hx, hd⟩⟩
  intro op h; cases op <;> cases h

theorem rule_rem {P : Program} {t : TypeId} {x y r : Value} {a b : Int} (hx : den x = .int .i64 a) (hy : den y = .int .i64 b) (hb : b ≠ 0) (hr : okR r = true) (hd : den r = .int .i64 (a.tmod b)) : RuleOk P ⟨8, t, x, y, r⟩ := by
  refine ⟨hr, ?_, (fun h => by cases h), fun h => by cases h⟩
  intro op h w
  show (binOp op t (den x) (den y)).run P w = .ok (den r) w
  rw [hx, hy, hd]
  cases op <;> first | rfl | (simp [opIx] at h; done) | simp [binOp, go_sem, hb]
end Go.AM
