/- AM: one operation more, in any order. -/
import Derived.Test.YtmohbeomlpjljaaGreatDoorAmDraw
namespace Go.AM
open Go
variable [Syms]

/-- what was seen ahead of the run -/
structure Seen (C : Ctx) (rec : Rec) (all : List Oper) (hs : List Hd) (rs : List Rd) (ns : List Nd) (f : Nat → St) (σ : List Nat) : Prop where
  ord : σ = order C (ancs [] all) all
  edges : edgesBack 0 all = true
  calm : calm (ancs [] all) all = true
  chain : chained C (ancs [] all) all none σ = true
  step : ∀ (k i : Nat), σ[k]? = some i → StepOk C rec all rs ns i (f k) (f (k + 1))
  heaps : ∀ K : Nat, K ≤ σ.length → (K = σ.length ∨ ∃ i, σ[K]? = some i ∧ isB C all i = true) →
      ∃ h ∈ hs, h.H = (f K).2 ∧ h.c = σ[K]? ∧ ∀ j, h.l = some j → ∃ k : Nat, k < K ∧ σ[k]? = some j ∧ isB C all j = true
  reads : ∀ r ∈ rs, rdOk C (ancs [] all) all hs r = true
  news : ∀ n ∈ ns, ndOk (ancs [] all) hs n = true

section
variable {C : Ctx} {rec : Rec} {all : List Oper} {hs : List Hd} {rs : List Rd} {ns : List Nd} {f : Nat → St} {σ : List Nat} {φ0 : Phi} {a0 : Act} {w0 : World}
variable {L : Nat → Prop} {K : Nat} {φ : Phi} {a : Act} {w : World}

omit [Syms] in
theorem Seen.mem (S : Seen C rec all hs rs ns f σ) {i : Nat} {o : Oper} (h : all[i]? = some o) : ∃ k : Nat, σ[k]? = some i := by
  have := (mem_order (all := all) C i).2 (List.getElem?_eq_some_iff.1 h).1
  rw [← S.ord] at this
  exact List.getElem?_of_mem this

omit [Syms] in
theorem Seen.inj (S : Seen C rec all hs rs ns f σ) {k k' i : Nat} (h : σ[k]? = some i) (h' : σ[k']? = some i) : k = k' := by
  rw [S.ord] at h h'
  exact order_inj S.edges C h h'

omit [Syms] in
theorem Seen.before (S : Seen C rec all hs rs ns f σ) {k k' i j : Nat} (h : σ[k]? = some i) (h' : σ[k']? = some j) (hb : bit (ancs [] all) i j = true) : k' < k := by
  rw [S.ord] at h h'
  exact order_before S.edges C h h' hb

variable {k i : Nat} {o : Oper}

/-- what it looks at is what the machine had there -/
theorem Inv.looks (I : Inv C all f σ φ0 a0 w0 L K φ a w) (S : Seen C rec all hs rs ns f σ) (hk : σ[k]? = some i) (ho : all[i]? = some o) (hL : ¬ L i) (hr : ∀ j ∈ edgeOf o, L j) :
    ∀ t ∈ looks all o, Rel1 φ ((f k).1.get t) a t := by
  intro t ht
  have hkl := (List.getElem?_eq_some_iff.1 hk).1
  by_cases hx : ∃ (x : Nat) (ox : Oper), all[x]? = some ox ∧ ox.dst = some t
  · obtain ⟨x, ox, hx, hd⟩ := hx
    have huniq : ∀ (i2 : Nat) o2, all[i2]? = some o2 → o2.dst = some t → x = i2 := by
      intro i2 o2 h2 hd2
      rcases calm_spec S.calm hx hd h2 with e | ⟨e, _⟩
      · exact e
      · exact absurd hd2 e
    obtain ⟨kx, hkx⟩ := S.mem hx
    have hzero : ¬ L x → k ≤ kx → Rel1 φ ((f k).1.get t) a t := by
      intro hn hle
      rw [get_between S.step (Nat.zero_le k) (by omega) (t := t) (fun k2 i2 o2 _ h2 h3 h4 h5 => by
        have := huniq i2 o2 h4 h5
        subst this
        have := S.inj hkx h3; omega)]
      refine I.tm0 t fun i2 o2 h4 h5 => ?_
      have := huniq i2 o2 h4 h5
      subst this; exact hn
    rcases calm_spec S.calm hx hd ho with e | ⟨_, e⟩
    · subst e
      have := S.inj hk hkx
      exact hzero hL (by omega)
    · rcases e ht with e | e
      · have hLx := ready_bit S.edges I.closed ho hr e
        have hlt := S.before hk hkx e
        rw [get_between S.step (k := kx + 1) (k' := k) (by omega) (by omega) (t := t) (fun k2 i2 o2 _ h2 h3 h4 h5 => by
          have := huniq i2 o2 h4 h5
          subst this
          have := S.inj hkx h3; omega)]
        exact I.tmL t kx x ox hkx hx hd hLx
      · have hnx : ¬ L x := fun h => hL (closed_bit S.edges I.closed x i h e)
        have hlt := S.before hkx hk e
        exact hzero hnx (by omega)
  · rw [get_between S.step (Nat.zero_le k) (by omega) (t := t) (fun k2 i2 o2 _ _ _ h4 h5 => hx ⟨i2, o2, h4, h5⟩)]
    exact I.tm0 t fun i2 o2 h4 h5 => absurd ⟨i2, o2, h4, h5⟩ hx

/-- the temporaries, one operation on -/
theorem Inv.tmps (I : Inv C all f σ φ0 a0 w0 L K φ a w) (S : Seen C rec all hs rs ns f σ) (hk : σ[k]? = some i) (ho : all[i]? = some o) (hL : ¬ L i) {φ' : Phi} (hle : Le φ φ') {v v' : Value}
    (hput : (f (k + 1)).1 = put (f k).1 o.dst v) (hv : VRel φ' v v') :
    (∀ t, ∀ (k2 i2 : Nat) o2, σ[k2]? = some i2 → all[i2]? = some o2 → o2.dst = some t → (L i2 ∨ i2 = i) → Rel1 φ' ((f (k2 + 1)).1.get t) (a.put o.dst v') t) ∧
    (∀ t, (∀ (i2 : Nat) o2, all[i2]? = some o2 → o2.dst = some t → ¬ (L i2 ∨ i2 = i)) → Rel1 φ' ((f 0).1.get t) (a.put o.dst v') t) := by
  have hkl := (List.getElem?_eq_some_iff.1 hk).1
  refine ⟨?_, ?_⟩
  · intro t k2 i2 o2 hk2 ho2 hd2 hl
    by_cases hd : o.dst = some t
    · have huniq : ∀ (i3 : Nat) o3, all[i3]? = some o3 → o3.dst = some t → i = i3 := by
        intro i3 o3 h2 hd3
        rcases calm_spec S.calm ho hd h2 with e | ⟨e, _⟩
        · exact e
        · exact absurd hd3 e
      have := huniq i2 o2 ho2 hd2
      subst this
      have := S.inj hk hk2
      subst this
      rw [hput, hd]
      refine Rel1.put_eq (φ := φ) ?_ hv
      rw [get_between S.step (Nat.zero_le k) (by omega) (t := t) (fun k3 i3 o3 _ h2 h3 h4 h5 => by
        have := huniq i3 o3 h4 h5
        subst this
        have := S.inj hk h3; omega)]
      refine I.tm0 t fun i3 o3 h4 h5 => ?_
      have := huniq i3 o3 h4 h5
      subst this; exact hL
    · refine Rel1.put_ne hd (Rel1.mono hle ?_)
      rcases hl with hl | hl
      · exact I.tmL t k2 i2 o2 hk2 ho2 hd2 hl
      · subst hl; rw [ho] at ho2; cases ho2; exact absurd hd2 hd
  · intro t hno
    have hd : o.dst ≠ some t := fun hd => hno i o ho hd (.inr rfl)
    exact Rel1.put_ne hd (Rel1.mono hle (I.tm0 t fun i2 o2 h4 h5 h6 => hno i2 o2 h4 h5 (.inl h6)))

theorem Inv.closed' (I : Inv C all f σ φ0 a0 w0 L K φ a w) (ho : all[i]? = some o) (hr : ∀ j ∈ edgeOf o, L j) : Closed all (fun j => L j ∨ j = i) := by
  intro j p hp hj e he
  rcases hj with hj | hj
  · exact .inl (I.closed j p hp hj e he)
  · subst hj; rw [ho] at hp; cases hp; exact .inl (hr e he)

theorem Inv.still (I : Inv C all f σ φ0 a0 w0 L K φ a w) (S : Seen C rec all hs rs ns f σ) (hk : σ[k]? = some i) (ho : all[i]? = some o) (hL : ¬ L i) (hr : ∀ j ∈ edgeOf o, L j) {φ' : Phi} {w' : World} {v v' : Value}
    (hput : (f (k + 1)).1 = put (f k).1 o.dst v) (hv : VRel φ' v v') (hb : isB C all i = false) (hH : HRel C φ' (f K).2 w') (hext : Ext C φ w φ' w')
    (hp : ∀ (k2 i2 : Nat) o2, σ[k2]? = some i2 → k2 < K → ¬ L i2 → i2 ≠ i → all[i2]? = some o2 → sort3 C o2.op = .a → guardOk all (f k2).1 o2 = some true → φ' (f k2).2.n = none) :
    Inv C all f σ φ0 a0 w0 (fun j => L j ∨ j = i) K φ' (a.put o.dst v') w' := by
  obtain ⟨h1, h2⟩ := I.tmps S hk ho hL hext.le hput hv
  refine ⟨I.closed' ho hr, I.kle, I.kb, ?_, h1, h2, hH, I.mono, I.full, I.low0, ?_, (put_defers _ _ _).trans I.defers, I.ext.trans hext⟩
  · intro k2 j hj hjb
    have hne : j ≠ i := by intro e; subst e; rw [hb] at hjb; cases hjb
    rw [← I.wr k2 j hj hjb]
    exact ⟨fun h => h.resolve_right hne, .inl⟩
  · intro k2 i2 o2 h3 h4 h5 h6 h7 h8
    exact hp k2 i2 o2 h3 h4 (fun h => h5 (.inl h)) (fun h => h5 (.inr h)) h6 h7 h8

omit [Syms] in
theorem StepOk.made {i : Nat} {s s' : St} (h : StepOk C rec all rs ns i s s') (ho : all[i]? = some o) (hs3 : sort3 C o.op = .a) (hg : guardOk all s.1 o = some true) : s'.2.n = s.2.n + 1 := by
  obtain ⟨p, hp, h⟩ := h
  rw [ho] at hp; cases hp
  rcases h with ⟨h, _⟩ | ⟨_, v, _, h | h | h | h⟩
  · rw [hg] at h; cases h
  · rw [hs3] at h; cases h.1
  · rw [hs3] at h; cases h.1
  · obtain ⟨b, x, hn⟩ := allocB_new h.2.1
    exact (Heap.new_n hn).2
  · rw [hs3] at h; cases h.1

theorem Inv.write (I : Inv C all f σ φ0 a0 w0 L K φ a w) (S : Seen C rec all hs rs ns f σ) (hk : σ[K]? = some i) (ho : all[i]? = some o) (hL : ¬ L i) (hr : ∀ j ∈ edgeOf o, L j) {φ' : Phi} {w' : World} {v v' : Value}
    (hput : (f (K + 1)).1 = put (f K).1 o.dst v) (hv : VRel φ' v v') (hb : isB C all i = true) (hH : HRel C φ' (f (K + 1)).2 w') (hext : Ext C φ w φ' w')
    (hn : (f K).2.n ≤ (f (K + 1)).2.n) (hp : ∀ b, b < (f K).2.n → φ b = none → φ' b = none) :
    ∃ K', Inv C all f σ φ0 a0 w0 (fun j => L j ∨ j = i) K' φ' (a.put o.dst v') w' := by
  have hkl := (List.getElem?_eq_some_iff.1 hk).1
  obtain ⟨h1, h2⟩ := I.tmps S hk ho hL hext.le hput hv
  obtain ⟨K', hK1, hK2, hK3, hK4⟩ := next_writer C all σ _ (K + 1) rfl (by omega)
  have seg := segment (ops := ⟨all⟩) S.step hK2 hK4 φ' w' (K' - (K + 1)) (by omega) hH
  rw [show K + 1 + (K' - (K + 1)) = K' by omega] at seg
  obtain ⟨hH', hm, hfl⟩ := seg
  have hmono : ∀ k k', k ≤ k' → k' ≤ K' → (f k).2.n ≤ (f k').2.n := by
    intro k k' hle hle'
    by_cases c1 : k' ≤ K
    · exact I.mono k k' hle c1
    · have c2 : ∀ m, K + 1 ≤ m → m ≤ k' → (f m).2.n ≤ (f k').2.n := by
        intro m hm1 hm2
        have := hm (m - (K + 1)) (k' - (K + 1)) (by omega) (by omega)
        rw [show K + 1 + (m - (K + 1)) = m by omega, show K + 1 + (k' - (K + 1)) = k' by omega] at this
        exact this
      by_cases c3 : K + 1 ≤ k
      · exact c2 k c3 hle
      · exact Nat.le_trans (I.mono k K (by omega) (Nat.le_refl _)) (Nat.le_trans hn (c2 (K + 1) (Nat.le_refl _) (by omega)))
  refine ⟨K', I.closed' ho hr, hK2, hK3, ?_, h1, h2, hH', hmono, ?_, I.low0, ?_, (put_defers _ _ _).trans I.defers, I.ext.trans hext⟩
  · intro k2 j hj hjb
    constructor
    · rintro (h | h)
      · have := (I.wr k2 j hj hjb).1 h; omega
      · subst h; have := S.inj hj hk; omega
    · intro hlt
      by_cases c1 : k2 < K
      · exact .inl ((I.wr k2 j hj hjb).2 c1)
      · by_cases c2 : k2 = K
        · subst c2; rw [hk] at hj; cases hj; exact .inr rfl
        · have := hK4 k2 j (by omega) hlt hj
          rw [this] at hjb; cases hjb
  · intro k hle
    by_cases c1 : k ≤ K
    · exact I.full k c1
    · have := hfl (k - (K + 1)) (by omega)
      rw [show K + 1 + (k - (K + 1)) = k by omega] at this
      exact this
  · intro k2 i2 o2 h3 h4 h5 h6 h7 h8
    have hmade := (S.step k2 i2 h3).made h6 h7 h8
    by_cases c1 : k2 < K
    · have := I.mono (k2 + 1) K (by omega) (Nat.le_refl _)
      exact hp _ (by omega) (I.pend k2 i2 o2 h3 c1 (fun h => h5 (.inl h)) h6 h7 h8)
    · by_cases c2 : k2 = K
      · subst c2; rw [hk] at h3; cases h3; exact absurd (.inr rfl) h5
      · have := hmono (K + 1) k2 (by omega) (by omega)
        cases hφ : φ' (f k2).2.n with
        | none => rfl
        | some l => have := (hH.dom _ l hφ).1; omega
end
end Go.AM
