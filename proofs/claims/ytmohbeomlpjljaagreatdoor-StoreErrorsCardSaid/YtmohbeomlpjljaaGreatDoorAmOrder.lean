/- AM: what stands ahead of what in a region. -/
import Derived.Test.YtmohbeomlpjljaaGreatDoorAmAlloc
import Derived.Test.YtmohbeomlpjljaaGreatDoorAmSound
namespace Go.AM
open Go

theorem foldl_bits (f : Nat → Nat) (t : Nat) : ∀ (l : List Nat) (s : Nat), (l.foldl (fun s j => s ||| 2 ^ j ||| f j) s).testBit t = true ↔ (s.testBit t = true ∨ ∃ j ∈ l, t = j ∨ (f j).testBit t = true)
  | [], s => by simp
  | j :: l, s => by
    rw [List.foldl_cons, foldl_bits f t l]
    simp only [Nat.testBit_or, Nat.testBit_two_pow, Bool.or_eq_true, decide_eq_true_eq, List.mem_cons]
    constructor
    · rintro ((h | h) | h)
      · rcases h with h | h
        · exact .inl h
        · exact .inr ⟨j, .inl rfl, .inl h.symm⟩
      · exact .inr ⟨j, .inl rfl, .inr h⟩
      · obtain ⟨k, hk, h⟩ := h
        exact .inr ⟨k, .inr hk, h⟩
    · rintro (h | ⟨k, rfl | hk, h⟩)
      · exact .inl (.inl (.inl h))
      · rcases h with h | h
        · exact .inl (.inl (.inr h.symm))
        · exact .inl (.inr h)
      · exact .inr ⟨k, hk, h⟩

def foldE (anc : List Nat) (o : Oper) : Nat := (edgeOf o).foldl (fun s j => s ||| 2 ^ j ||| anc.getD j 0) 0

theorem ancs_cons (anc : List Nat) (o : Oper) (os : List Oper) : ancs anc (o :: os) = ancs (anc ++ [foldE anc o]) os := rfl

theorem ancs_length : ∀ (os : List Oper) (anc : List Nat), (ancs anc os).length = anc.length + os.length
  | [], anc => by simp [ancs]
  | o :: os, anc => by rw [ancs_cons, ancs_length]; simp; omega

theorem ancs_old : ∀ (os : List Oper) (anc : List Nat) (k : Nat), k < anc.length → (ancs anc os)[k]? = anc[k]?
  | [], anc, k, _ => rfl
  | o :: os, anc, k, h => by
    rw [ancs_cons, ancs_old os _ k (by simp; omega), List.getElem?_append_left h]

theorem foldl_congr_mem {f g : Nat → Nat → Nat} : ∀ (l : List Nat) (s : Nat), (∀ j ∈ l, ∀ s, f s j = g s j) → l.foldl f s = l.foldl g s
  | [], _, _ => rfl
  | j :: l, s, h => by
    rw [List.foldl_cons, List.foldl_cons, h j (by simp) s]
    exact foldl_congr_mem l _ fun k hk => h k (by simp [hk])

theorem edgesBack_get : ∀ (os : List Oper) (n i : Nat) (o : Oper), edgesBack n os = true → os[i]? = some o → ∀ j ∈ edgeOf o, j < n + i
  | [], _, _, _, _, h => by simp at h
  | x :: os, n, 0, o, h, ho => by
    simp at ho; subst ho
    simp only [edgesBack, Bool.and_eq_true, List.all_eq_true] at h
    intro j hj
    have := h.1 j hj
    exact lt_of_blt this
  | x :: os, n, i + 1, o, h, ho => by
    simp only [edgesBack, Bool.and_eq_true] at h
    intro j hj
    have := edgesBack_get os (n + 1) i o h.2 (by simpa using ho) j hj
    omega

theorem ancs_new : ∀ (os : List Oper) (anc : List Nat) (i : Nat) (o : Oper), edgesBack anc.length os = true → os[i]? = some o →
    (ancs anc os).getD (anc.length + i) 0 = foldE (ancs anc os) o
  | [], _, _, _, _, h => by simp at h
  | x :: os, anc, 0, o, h, ho => by
    have hb := edgesBack_get (x :: os) anc.length 0 o h ho
    simp at ho; subst ho
    rw [ancs_cons]
    have h1 : (ancs (anc ++ [foldE anc x]) os)[anc.length + 0]? = some (foldE anc x) := by
      rw [ancs_old _ _ _ (by simp)]; simp
    rw [List.getD_eq_getElem?_getD, h1]
    show foldE anc x = _
    unfold foldE
    refine foldl_congr_mem _ _ fun j hj s => ?_
    have hj := hb j hj
    have : (ancs (anc ++ [foldE anc x]) os)[j]? = anc[j]? := by
      rw [ancs_old _ _ _ (by simp; omega), List.getElem?_append_left (by omega)]
    unfold foldE at this
    rw [List.getD_eq_getElem?_getD, List.getD_eq_getElem?_getD, this]
  | x :: os, anc, i + 1, o, h, ho => by
    simp only [edgesBack, Bool.and_eq_true] at h
    rw [ancs_cons]
    have := ancs_new os (anc ++ [foldE anc x]) i o (by simpa using h.2) (by simpa using ho)
    rw [← this]
    congr 1
    simp; omega

def Closed (all : List Oper) (L : Nat → Prop) : Prop := ∀ i o, all[i]? = some o → L i → ∀ j ∈ edgeOf o, L j

section
variable {all : List Oper} (hE : edgesBack 0 all = true)
include hE

theorem bit_edge {i t : Nat} (h : bit (ancs [] all) i t = true) : ∃ o, all[i]? = some o ∧ ∃ j ∈ edgeOf o, j < i ∧ (t = j ∨ bit (ancs [] all) j t = true) := by
  cases ho : all[i]? with
  | none =>
    unfold bit at h
    rw [List.getD_eq_getElem?_getD, List.getElem?_eq_none (by rw [ancs_length]; have := List.getElem?_eq_none_iff.1 ho; simpa using this)] at h
    simp at h
  | some o =>
    refine ⟨o, rfl, ?_⟩
    have h1 := ancs_new all [] i o hE ho
    simp only [List.length_nil, Nat.zero_add] at h1
    unfold bit at h
    rw [h1] at h
    rcases (foldl_bits (fun j => (ancs [] all).getD j 0) t (edgeOf o) 0).1 h with h | ⟨j, hj, h⟩
    · simp at h
    · have := edgesBack_get all 0 i o hE ho j hj
      exact ⟨j, hj, by omega, h⟩

theorem bit_lt : ∀ (i t : Nat), bit (ancs [] all) i t = true → t < i := by
  intro i
  induction i using Nat.strongRecOn with
  | _ i ih =>
    intro t h
    obtain ⟨o, ho, j, hj, hlt, h | h⟩ := bit_edge hE h
    · omega
    · have := ih j hlt t h; omega

theorem closed_bit {L : Nat → Prop} (hL : Closed all L) : ∀ (i t : Nat), L i → bit (ancs [] all) i t = true → L t := by
  intro i
  induction i using Nat.strongRecOn with
  | _ i ih =>
    intro t hi h
    obtain ⟨o, ho, j, hj, hlt, h | h⟩ := bit_edge hE h
    · subst h; exact hL i o ho hi _ hj
    · exact ih j hlt t (hL i o ho hi _ hj) h

theorem ready_bit {L : Nat → Prop} (hL : Closed all L) {i : Nat} {o : Oper} (ho : all[i]? = some o) (hr : ∀ j ∈ edgeOf o, L j) {t : Nat} (h : bit (ancs [] all) i t = true) : L t := by
  obtain ⟨o', ho', j, hj, hlt, h⟩ := bit_edge hE h
  rw [ho] at ho'; cases ho'
  rcases h with h | h
  · subst h; exact hr _ hj
  · exact closed_bit hE hL j t (hr _ hj) h

theorem bit_of_edge {i j t : Nat} {o : Oper} (ho : all[i]? = some o) (hj : j ∈ edgeOf o) (h : t = j ∨ bit (ancs [] all) j t = true) : bit (ancs [] all) i t = true := by
  have h1 := ancs_new all [] i o hE ho
  simp only [List.length_nil, Nat.zero_add] at h1
  unfold bit
  rw [h1]
  exact (foldl_bits (fun j => (ancs [] all).getD j 0) t (edgeOf o) 0).2 (.inr ⟨j, hj, h⟩)

theorem bit_trans : ∀ (i : Nat) {j t : Nat}, bit (ancs [] all) i j = true → bit (ancs [] all) j t = true → bit (ancs [] all) i t = true := by
  intro i
  induction i using Nat.strongRecOn with
  | _ i ih =>
    intro j t h1 h2
    obtain ⟨o, ho, k, hk, hlt, h | h⟩ := bit_edge hE h1
    · subst h; exact bit_of_edge hE ho hk (.inr h2)
    · exact bit_of_edge hE ho hk (.inr (ih k hlt h h2))

/-! the order -/
variable (C : Ctx)
omit hE in
theorem badOf_bit (t : Nat) : ∀ (l : List Nat) (s : Nat), (badOf (isPA C all) l s).testBit t = true ↔ (s.testBit t = true ∨ (t ∈ l ∧ isPA C all t = false))
  | [], s => by simp [badOf]
  | i :: l, s => by
    unfold badOf
    rw [badOf_bit t l]
    cases h : isPA C all i
    · simp only [cond_false, Nat.testBit_or, Nat.testBit_two_pow, Bool.or_eq_true, decide_eq_true_eq, List.mem_cons]
      constructor
      · rintro ((h1 | rfl) | h1)
        · exact .inl h1
        · exact .inr ⟨.inl rfl, h⟩
        · exact .inr ⟨.inr h1.1, h1.2⟩
      · rintro (h1 | ⟨rfl | h1, h2⟩)
        · exact .inl (.inl h1)
        · exact .inl (.inr rfl)
        · exact .inr ⟨h1, h2⟩
    · simp only [cond_true, List.mem_cons]
      constructor
      · rintro (h1 | h1)
        · exact .inl h1
        · exact .inr ⟨.inr h1.1, h1.2⟩
      · rintro (h1 | ⟨rfl | h1, h2⟩)
        · exact .inl h1
        · rw [h] at h2; cases h2
        · exact .inr ⟨h1, h2⟩

omit hE in
theorem early_spec {i : Nat} : early C (ancs [] all) all (badOf (isPA C all) (List.range all.length) 0) i = true ↔ isPA C all i = true ∧ ∀ j, j < all.length → bit (ancs [] all) i j = true → isPA C all j = true := by
  unfold early
  simp only [Bool.and_eq_true]
  refine and_congr_right fun _ => ?_
  constructor
  · intro h j hj hb
    have h := Nat.eq_of_beq_eq_true h
    have ht : ((ancs [] all).getD i 0 &&& badOf (isPA C all) (List.range all.length) 0).testBit j = false := by rw [h]; simp
    rw [Nat.testBit_and] at ht
    unfold bit at hb
    rw [hb, Bool.true_and] at ht
    cases hp : isPA C all j
    · rw [(badOf_bit C j _ 0).2 (.inr ⟨List.mem_range.2 hj, hp⟩)] at ht; cases ht
    · rfl
  · intro h
    have : (ancs [] all).getD i 0 &&& badOf (isPA C all) (List.range all.length) 0 = 0 := by
      apply Nat.eq_of_testBit_eq
      intro j
      rw [Nat.testBit_and, Nat.zero_testBit]
      cases hb : ((ancs [] all).getD i 0).testBit j
      · rfl
      · rw [Bool.true_and]
        cases hd : (badOf (isPA C all) (List.range all.length) 0).testBit j
        · rfl
        · rcases (badOf_bit C j _ 0).1 hd with h1 | ⟨h1, h2⟩
          · simp at h1
          · rw [h j (List.mem_range.1 h1) hb] at h2; cases h2
    rw [this]; rfl

theorem early_closed {i j : Nat} (h : early C (ancs [] all) all (badOf (isPA C all) (List.range all.length) 0) i = true) (hj : j < all.length) (hb : bit (ancs [] all) i j = true) :
    early C (ancs [] all) all (badOf (isPA C all) (List.range all.length) 0) j = true := by
  rw [early_spec] at h ⊢
  exact ⟨h.2 j hj hb, fun k hk hbk => h.2 k hk (bit_trans hE i hb hbk)⟩

theorem order_pair : (order C (ancs [] all) all).Pairwise (fun i j => i ≠ j ∧ bit (ancs [] all) i j = false) := by
  unfold order
  have hr : (List.range all.length).Pairwise (· < ·) := List.pairwise_lt_range
  have hlt : ∀ i j, i < j → i ≠ j ∧ bit (ancs [] all) i j = false := by
    intro i j hij
    refine ⟨by omega, ?_⟩
    cases hb : bit (ancs [] all) i j with
    | false => rfl
    | true => have := bit_lt hE i j hb; omega
  show List.Pairwise _ (List.filter _ _ ++ List.filter _ _)
  rw [List.pairwise_append]
  refine ⟨?_, ?_, ?_⟩
  · exact (hr.filter _).imp fun {i j} hij => hlt i j hij
  · exact (hr.filter _).imp fun {i j} hij => hlt i j hij
  · intro i hi j hj
    have h1 := (List.mem_filter.1 hi).2
    have h2 := (List.mem_filter.1 hj).2
    have hjn := List.mem_range.1 (List.mem_filter.1 hj).1
    refine ⟨?_, ?_⟩
    · intro e; subst e
      rw [h1] at h2; cases h2
    · cases hb : bit (ancs [] all) i j with
      | false => rfl
      | true =>
        rw [early_closed hE C h1 hjn hb] at h2; cases h2

omit hE in
theorem mem_order (i : Nat) : i ∈ order C (ancs [] all) all ↔ i < all.length := by
  unfold order
  simp only [List.mem_append, List.mem_filter, List.mem_range]
  cases early C (ancs [] all) all (badOf (isPA C all) (List.range all.length) 0) i <;> simp

theorem order_before {k k' i j : Nat} (hi : (order C (ancs [] all) all)[k]? = some i) (hj : (order C (ancs [] all) all)[k']? = some j) (h : bit (ancs [] all) i j = true) : k' < k := by
  rcases Nat.lt_trichotomy k k' with hlt | rfl | hlt
  · have := List.pairwise_iff_getElem.1 (order_pair hE C) k k' (List.getElem?_eq_some_iff.1 hi).1 (List.getElem?_eq_some_iff.1 hj).1 hlt
    rw [(List.getElem?_eq_some_iff.1 hi).2, (List.getElem?_eq_some_iff.1 hj).2] at this
    rw [h] at this; cases this.2
  · rw [hi] at hj; cases hj
    have := bit_lt hE i i h; omega
  · exact hlt

theorem order_inj {k k' i : Nat} (hi : (order C (ancs [] all) all)[k]? = some i) (hj : (order C (ancs [] all) all)[k']? = some i) : k = k' := by
  rcases Nat.lt_trichotomy k k' with hlt | rfl | hlt
  · have := List.pairwise_iff_getElem.1 (order_pair hE C) k k' (List.getElem?_eq_some_iff.1 hi).1 (List.getElem?_eq_some_iff.1 hj).1 hlt
    rw [(List.getElem?_eq_some_iff.1 hi).2, (List.getElem?_eq_some_iff.1 hj).2] at this
    exact absurd rfl this.1
  · rfl
  · have := List.pairwise_iff_getElem.1 (order_pair hE C) k' k (List.getElem?_eq_some_iff.1 hj).1 (List.getElem?_eq_some_iff.1 hi).1 hlt
    rw [(List.getElem?_eq_some_iff.1 hi).2, (List.getElem?_eq_some_iff.1 hj).2] at this
    exact absurd rfl this.1

/-- what writes, or makes memory, has all writers ahead of it behind it -/
theorem chained_listed {L : Nat → Prop} (hL : Closed all L) : ∀ (σ : List Nat) (last : Option Nat), chained C (ancs [] all) all last σ = true →
    ∀ (k i : Nat), σ[k]? = some i → (isB C all i = true ∨ isAt C all i = true) → (∀ j, bit (ancs [] all) i j = true → L j) →
    (∀ j, last = some j → L j) ∧ ∀ (k' j : Nat), k' < k → σ[k']? = some j → isB C all j = true → L j
  | [], _, _, k, i, h, _, _ => by simp at h
  | x :: σ, last, hc, 0, i, h, hk, hb => by
    simp at h; subst h
    refine ⟨?_, fun k' j h => by omega⟩
    intro j hj; subst hj
    refine hb j ?_
    unfold chained at hc
    cases h1 : isB C all x
    · rw [h1] at hc
      rcases hk with hk | hk
      · rw [h1] at hk; cases hk
      · rw [hk] at hc; simp only [cond_false, cond_true, Bool.and_eq_true] at hc; exact hc.1
    · rw [h1] at hc; simp only [cond_true, Bool.and_eq_true] at hc; exact hc.1
  | x :: σ, last, hc, k + 1, i, h, hk, hb => by
    have h' : σ[k]? = some i := by simpa using h
    unfold chained at hc
    cases h1 : isB C all x
    · rw [h1] at hc
      have hc' : chained C (ancs [] all) all last σ = true := by
        cases h2 : isAt C all x
        · rw [h2] at hc; exact hc
        · rw [h2] at hc; simp only [cond_false, cond_true, Bool.and_eq_true] at hc; exact hc.2
      obtain ⟨g1, g2⟩ := chained_listed hL σ last hc' k i h' hk hb
      refine ⟨g1, ?_⟩
      intro k' j hlt hj hjb
      cases k' with
      | zero => simp at hj; subst hj; rw [h1] at hjb; cases hjb
      | succ k' => exact g2 k' j (by omega) (by simpa using hj) hjb
    · rw [h1] at hc; simp only [cond_true, Bool.and_eq_true] at hc
      obtain ⟨g1, g2⟩ := chained_listed hL σ (some x) hc.2 k i h' hk hb
      have hx := g1 x rfl
      refine ⟨?_, ?_⟩
      · intro j hj; subst hj
        exact closed_bit hE hL x j hx hc.1
      · intro k' j hlt hj hjb
        cases k' with
        | zero => simp at hj; subst hj; exact hx
        | succ k' => exact g2 k' j (by omega) (by simpa using hj) hjb
end

theorem calm_spec {anc : List Nat} {all : List Oper} (h : calm anc all = true) {i j : Nat} {x y : Oper} {d : Nat} (hx : all[i]? = some x) (hd : x.dst = some d) (hy : all[j]? = some y) :
    i = j ∨ (y.dst ≠ some d ∧ (d ∈ looks all y → bit anc j i = true ∨ bit anc i j = true)) := by
  unfold calm at h
  rw [List.all_eq_true] at h
  have hi : i < all.length := (List.getElem?_eq_some_iff.1 hx).1
  have hj : j < all.length := (List.getElem?_eq_some_iff.1 hy).1
  have h1 := h i (List.mem_range.2 hi)
  rw [hx] at h1
  dsimp only at h1
  rw [hd] at h1
  dsimp only at h1
  rw [List.all_eq_true] at h1
  have h2 := h1 j (List.mem_range.2 hj)
  rw [hy] at h2
  simp only [Bool.or_eq_true, Bool.and_eq_true, beq_iff_eq, bne_iff_ne, ne_eq, Bool.not_eq_true', List.contains_iff_mem] at h2
  rcases h2 with h2 | ⟨h2, h3⟩
  · exact .inl h2
  · refine .inr ⟨h2, fun hm => ?_⟩
    rcases h3 with (h3 | h3) | h3
    · have : (looks all y).contains d = true := by simpa using hm
      rw [h3] at this; cases this
    · exact .inl h3
    · exact .inr h3
end Go.AM
namespace Go.AM
open Go
variable [Syms]

abbrev St := T Value × Heap

def StepOk (C : Ctx) (rec : Rec) (all : List Oper) (rs : List Rd) (ns : List Nd) (i : Nat) (s s' : St) : Prop :=
  ∃ o, all[i]? = some o ∧
    ((guardOk all s.1 o = some false ∧ s'.1 = put s.1 o.dst undef ∧ s'.2 = s.2) ∨
     (guardOk all s.1 o = some true ∧ ∃ v, s'.1 = put s.1 o.dst v ∧
      ((sort3 C o.op = .p ∧ opP C (evR C.base (looks all o) s.1) o.op = some v ∧ s'.2 = s.2) ∨
       (sort3 C o.op = .r ∧ opR C (evR C.base (looks all o) s.1) s.2 o.op = some v ∧ s'.2 = s.2 ∧ ⟨i, o, s.1, v⟩ ∈ rs) ∨
       (sort3 C o.op = .a ∧ allocB C (evR C.base (looks all o) s.1) s.2 o.op = some (v, s'.2) ∧ ∃ x, s'.2.blk s.2.n = some x ∧ ⟨i, s.2.n, x⟩ ∈ ns) ∨
       (sort3 C o.op = .b ∧ opB C rec (evR C.base (looks all o) s.1) s.2 o.op = some (v, s'.2)))))

def Traced (C : Ctx) (rec : Rec) (all : List Oper) (hs : List Hd) (rs : List Rd) (ns : List Nd) (σ : List Nat) (l : Option Nat) (s s' : St) : Prop :=
  ∃ f : Nat → St, f 0 = s ∧ f σ.length = s' ∧ (∀ (k i : Nat), σ[k]? = some i → StepOk C rec all rs ns i (f k) (f (k + 1))) ∧
    ∀ K : Nat, K ≤ σ.length → (K = σ.length ∨ ∃ i, σ[K]? = some i ∧ isB C all i = true) →
      ∃ h ∈ hs, h.H = (f K).2 ∧ h.c = σ[K]? ∧ ∀ j, h.l = some j → l = some j ∨ ∃ k : Nat, k < K ∧ σ[k]? = some j ∧ isB C all j = true

omit [Syms] in
theorem Traced.cons {C : Ctx} {rec : Rec} {all : List Oper} {hs : List Hd} {rs : List Rd} {ns : List Nd} {i : Nat} {σ : List Nat} {l l1 : Option Nat} {s s1 s' : St}
    (h1 : StepOk C rec all rs ns i s s1) (h2 : Traced C rec all hs rs ns σ l1 s1 s')
    (h3 : (isB C all i = true ∧ l1 = some i ∧ ⟨l, some i, s.2⟩ ∈ hs) ∨ (isB C all i = false ∧ l1 = l)) : Traced C rec all hs rs ns (i :: σ) l s s' := by
  obtain ⟨f, f0, fe, fs, fh⟩ := h2
  refine ⟨fun k => match k with | 0 => s | k + 1 => f k, rfl, fe, ?_, ?_⟩
  · intro k j hk
    cases k with
    | zero => simp at hk; subst hk; show StepOk C rec all rs ns i s (f 0); rw [f0]; exact h1
    | succ k => exact fs k j (by simpa using hk)
  · intro K hK hb
    cases K with
    | zero =>
      rcases hb with hb | ⟨j, hj, hb⟩
      · simp at hb
      · simp at hj; subst hj
        rcases h3 with ⟨_, _, hm⟩ | ⟨h3, _⟩
        · exact ⟨_, hm, rfl, rfl, fun j hj => .inl hj⟩
        · rw [h3] at hb; cases hb
    | succ K =>
      obtain ⟨h, hm, e1, e2, e3⟩ := fh K (by simpa using hK) (by
        rcases hb with hb | ⟨j, hj, hb⟩
        · exact .inl (by simpa using hb)
        · exact .inr ⟨j, by simpa using hj, hb⟩)
      refine ⟨h, hm, e1, by simpa using e2, ?_⟩
      intro j hj
      rcases e3 j hj with e | ⟨k, hk, e4, e5⟩
      · rcases h3 with ⟨g1, g2, _⟩ | ⟨_, g2⟩
        · rw [g2] at e; cases e
          exact .inr ⟨0, by omega, rfl, g1⟩
        · exact .inl (g2 ▸ e)
      · exact .inr ⟨k + 1, by omega, by simpa using e4, e5⟩

omit [Syms] in
theorem isB_sort {C : Ctx} {all : List Oper} {i : Nat} {o : Oper} (h : all[i]? = some o) : (isB C all i = true ↔ sort3 C o.op = .b) ∧ (isAt C all i = true ↔ sort3 C o.op = .a) := by
  unfold isB isAt
  rw [h]; dsimp only
  cases sort3 C o.op <;> simp

omit [Syms] in
theorem drawGo_trace {C : Ctx} {rec : Rec} {all : List Oper} {s' : St} {hs' : List Hd} {rs' : List Rd} {ns' : List Nd} : ∀ (σ : List Nat) tm H l hs rs ns,
    drawGo C rec all σ tm H l hs rs ns = some (s'.1, s'.2, hs', rs', ns') →
    (∀ x ∈ hs, x ∈ hs') ∧ (∀ x ∈ rs, x ∈ rs') ∧ (∀ x ∈ ns, x ∈ ns') ∧ Traced C rec all hs' rs' ns' σ l (tm, H) s'
  | [], tm, H, l, hs, rs, ns, h => by
    simp only [drawGo, Option.some.injEq, Prod.mk.injEq] at h
    obtain ⟨e1, e2, rfl, rfl, rfl⟩ := h
    refine ⟨fun x hx => by simp [hx], fun x hx => hx, fun x hx => hx, fun _ => (tm, H), rfl, by show (tm, H) = s'; rw [e1, e2], ?_, ?_⟩
    · intro k i hk; simp at hk
    · intro K hK _
      exact ⟨⟨l, none, H⟩, by simp, rfl, by simp, fun j hj => .inl hj⟩
  | i :: σ, tm, H, l, hs, rs, ns, h => by
    unfold drawGo at h
    split at h
    · cases h
    · rename_i o ho
      have hB := (isB_sort (C := C) ho).1
      split at h
      · cases h
      · rename_i hg
        cases hb : isB C all i
        · rw [hb] at h; simp only [cond_false] at h
          obtain ⟨a1, a2, a3, a4⟩ := drawGo_trace σ _ _ _ _ _ _ h
          exact ⟨a1, a2, a3, Traced.cons (s1 := (put tm o.dst undef, H)) ⟨o, ho, .inl ⟨hg, rfl, rfl⟩⟩ a4 (.inr ⟨hb, rfl⟩)⟩
        · rw [hb] at h; simp only [cond_true] at h
          obtain ⟨a1, a2, a3, a4⟩ := drawGo_trace σ _ _ _ _ _ _ h
          exact ⟨fun x hx => a1 x (by simp [hx]), a2, a3, Traced.cons (s1 := (put tm o.dst undef, H)) ⟨o, ho, .inl ⟨hg, rfl, rfl⟩⟩ a4 (.inl ⟨hb, rfl, a1 _ (by simp)⟩)⟩
      · rename_i hg
        split at h
        · rename_i hs3
          have hb : isB C all i = false := by cases hb : isB C all i with | false => rfl | true => rw [hB.1 hb] at hs3; cases hs3
          split at h
          · rename_i v hv
            obtain ⟨a1, a2, a3, a4⟩ := drawGo_trace σ _ _ _ _ _ _ h
            exact ⟨a1, a2, a3, Traced.cons (s1 := (put tm o.dst v, H)) ⟨o, ho, .inr ⟨hg, v, rfl, .inl ⟨hs3, hv, rfl⟩⟩⟩ a4 (.inr ⟨hb, rfl⟩)⟩
          · cases h
        · rename_i hs3
          have hb : isB C all i = false := by cases hb : isB C all i with | false => rfl | true => rw [hB.1 hb] at hs3; cases hs3
          split at h
          · rename_i v hv
            obtain ⟨a1, a2, a3, a4⟩ := drawGo_trace σ _ _ _ _ _ _ h
            exact ⟨a1, fun x hx => a2 x (by simp [hx]), a3, Traced.cons (s1 := (put tm o.dst v, H)) ⟨o, ho, .inr ⟨hg, v, rfl, .inr (.inl ⟨hs3, hv, rfl, a2 _ (by simp)⟩)⟩⟩ a4 (.inr ⟨hb, rfl⟩)⟩
          · cases h
        · rename_i hs3
          have hb : isB C all i = false := by cases hb : isB C all i with | false => rfl | true => rw [hB.1 hb] at hs3; cases hs3
          split at h
          · rename_i v H1 hv
            split at h
            · rename_i x hx
              obtain ⟨a1, a2, a3, a4⟩ := drawGo_trace σ _ _ _ _ _ _ h
              exact ⟨a1, a2, fun x hx => a3 x (by simp [hx]), Traced.cons (s1 := (put tm o.dst v, H1)) ⟨o, ho, .inr ⟨hg, v, rfl, .inr (.inr (.inl ⟨hs3, hv, x, hx, a3 _ (by simp)⟩))⟩⟩ a4 (.inr ⟨hb, rfl⟩)⟩
            · cases h
          · cases h
        · rename_i hs3
          have hb : isB C all i = true := hB.2 hs3
          split at h
          · rename_i v H1 hv
            obtain ⟨a1, a2, a3, a4⟩ := drawGo_trace σ _ _ _ _ _ _ h
            exact ⟨fun x hx => a1 x (by simp [hx]), a2, a3, Traced.cons (s1 := (put tm o.dst v, H1)) ⟨o, ho, .inr ⟨hg, v, rfl, .inr (.inr (.inr ⟨hs3, hv⟩))⟩⟩ a4 (.inl ⟨hb, rfl, a1 _ (by simp)⟩)⟩
          · cases h

omit [Syms] in
theorem allocB_new {C : Ctx} {ρ : Env} {H H' : Heap} {o : Op} {v : Value} (h : allocB C ρ H o = some (v, H')) : ∃ b x, H.new x = some (b, H') := by
  have hp : ∀ {x v}, newP H x = some (v, H') → ∃ b x, H.new x = some (b, H') := by
    intro x v h
    obtain ⟨b, h1, _⟩ := newP_spec h
    exact ⟨b, x, h1⟩
  unfold allocB at h
  split at h
  · split at h
    · split at h
      · exact hp h
      · cases h
    · cases h
  · split at h
    · exact hp h
    · cases h
  · repeat' (split at h)
    all_goals first
      | (cases h; done)
      | (rename_i hn; rw [Bool.cond_eq_ite] at h; split at h <;> first
          | (cases h; done)
          | (simp only [Option.some.injEq, Prod.mk.injEq] at h; obtain ⟨rfl, rfl⟩ := h; exact ⟨_, _, hn⟩))
      | (rw [Bool.cond_eq_ite] at h; split at h <;> cases h)
  · split at h
    · rename_i hn
      simp only [Option.some.injEq, Prod.mk.injEq] at h; obtain ⟨rfl, rfl⟩ := h
      exact ⟨_, _, hn⟩
    · cases h
  · repeat' (split at h)
    all_goals first
      | (cases h; done)
      | (rename_i hn; rw [Bool.cond_eq_ite] at h; split at h <;> first
          | (cases h; done)
          | (simp only [Option.some.injEq, Prod.mk.injEq] at h; obtain ⟨rfl, rfl⟩ := h; exact ⟨_, _, hn⟩))
      | (rw [Bool.cond_eq_ite] at h; split at h <;> cases h)
  · cases h

omit [Syms] in
theorem Heap.new_n {H H' : Heap} {x : Blk} {b : Nat} (h : H.new x = some (b, H')) : b = H.n ∧ H'.n = H.n + 1 := by
  unfold Heap.new at h
  cases hb : Nat.blt H.n LIMIT
  · rw [hb] at h; cases h
  · rw [hb] at h; simp only [cond_true, Option.some.injEq, Prod.mk.injEq] at h
    obtain ⟨rfl, rfl⟩ := h
    exact ⟨rfl, rfl⟩

omit [Syms] in
/-- a step that does not write: the heap is as it was, or has a block more -/
theorem StepOk.still {C : Ctx} {rec : Rec} {all : List Oper} {rs : List Rd} {ns : List Nd} {i : Nat} {s s' : St} (h : StepOk C rec all rs ns i s s') (hb : isB C all i = false) :
    s'.2 = s.2 ∨ ∃ b x, s.2.new x = some (b, s'.2) := by
  obtain ⟨o, ho, h⟩ := h
  have hB := (isB_sort (C := C) ho).1
  rcases h with ⟨_, _, h⟩ | ⟨_, v, _, h | h | h | h⟩
  · exact .inl h
  · exact .inl h.2.2
  · exact .inl h.2.2.1
  · exact .inr (allocB_new h.2.1)
  · rw [hB.2 h.1] at hb; cases hb

omit [Syms] in
theorem StepOk.puts {C : Ctx} {rec : Rec} {all : List Oper} {rs : List Rd} {ns : List Nd} {i : Nat} {s s' : St} (h : StepOk C rec all rs ns i s s') :
    ∃ o v, all[i]? = some o ∧ s'.1 = put s.1 o.dst v := by
  obtain ⟨o, ho, h⟩ := h
  rcases h with ⟨_, h, _⟩ | ⟨_, v, h, _⟩
  · exact ⟨o, _, ho, h⟩
  · exact ⟨o, v, ho, h⟩
end Go.AM
