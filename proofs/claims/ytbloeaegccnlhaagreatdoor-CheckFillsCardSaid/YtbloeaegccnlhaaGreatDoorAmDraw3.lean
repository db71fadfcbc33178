/- AM: a region that draws its order, whole. -/
import Derived.Test.YtbloeaegccnlhaaGreatDoorAmFrom
namespace Go.AM
open Go

section
variable {C : Ctx} {rec : Rec} {all : List Oper} {hs : List Hd} {rs : List Rd} {ns : List Nd} {f : Nat → St} {σ : List Nat} {φ0 : Phi} {a0 : Act} {w0 : World}
variable {L : Nat → Prop} {K : Nat} {φ : Phi} {a : Act} {w : World} {k i : Nat} {o : Oper}

/-- the heap that stands now, and that what stands next may stand there -/
theorem Inv.now (I : Inv C all f σ φ0 a0 w0 L K φ a w) (S : Seen C rec all hs rs ns f σ) (ho : all[i]? = some o) (hL : ¬ L i) (hr : ∀ j ∈ edgeOf o, L j) :
    ∃ h ∈ hs, h.H = (f K).2 ∧ away (ancs [] all) h i = false := by
  obtain ⟨h, hm, e1, e2, e3⟩ := S.heaps K I.kle I.kb
  refine ⟨h, hm, e1, ?_⟩
  unfold away
  rw [Bool.or_eq_false_iff]
  constructor
  · split
    · rename_i j hj
      rw [hj] at e2
      cases hb : bit (ancs [] all) i j with
      | false => rfl
      | true =>
        have hLj := ready_bit S.edges I.closed ho hr hb
        rcases I.kb with e | ⟨i', h1, h2⟩
        · rw [List.getElem?_eq_none (by omega)] at e2; cases e2
        · rw [h1] at e2; cases e2
          have := (I.wr K j h1 h2).1 hLj; omega
    · rfl
  · split
    · rename_i j hj
      cases hb : bit (ancs [] all) j i with
      | false => rfl
      | true =>
        obtain ⟨k, hk, h1, h2⟩ := e3 j hj
        have hLj := (I.wr k j h1 h2).2 hk
        exact absurd (closed_bit S.edges I.closed j i hLj hb) hL
    · rfl

theorem Inv.step (hC : COk C) (hrec : ∀ n, RecOk (C.from n) rec) {ops : Array Oper} (hall : ops.toList = all) (I : Inv C all f σ φ0 a0 w0 L K φ a w) (S : Seen C rec all hs rs ns f σ)
    (ho : all[i]? = some o) (hL : ¬ L i) (hr : ∀ j ∈ edgeOf o, L j) {Q : Exit → Act → World → Prop} {next : Act → World → Prop}
    (hnext : ∀ K' φ' a' w', Inv C all f σ φ0 a0 w0 (fun j => L j ∨ j = i) K' φ' a' w' → next a' w') : wpOp C.P ops Q i next a w := by
  subst hall
  obtain ⟨k, hk⟩ := S.mem ho
  have hkl := (List.getElem?_eq_some_iff.1 hk).1
  have hlook := I.looks S hk ho hL hr
  have hρ := evR_rho (L := AM.looks ops.toList o) I.hr hlook
  have hi : ops[i]? = some o := by simpa using ho
  have hB := isB_sort (C := C) ho
  have hlisted := fun h => chained_listed S.edges C I.closed σ none S.chain k i hk h (fun j hj => ready_bit S.edges I.closed ho hr hj)
  -- one that writes stands at K
  have hwr : isB C ops.toList i = true → k = K := by
    intro hb
    rcases Nat.lt_trichotomy k K with hlt | e | hlt
    · exact absurd ((I.wr k i hk hb).2 hlt) hL
    · exact e
    · rcases I.kb with e | ⟨i', h1, h2⟩
      · omega
      · have := (hlisted (.inl hb)).2 K i' hlt h1 h2
        have := (I.wr K i' h1 h2).1 this; omega
  have hps : ∀ {φ' : Phi}, φ' = φ → ∀ (k2 i2 : Nat) o2, σ[k2]? = some i2 → k2 < K → ¬ L i2 → i2 ≠ i → ops.toList[i2]? = some o2 → sort3 C o2.op = .a → guardOk ops.toList (f k2).1 o2 = some true → φ' (f k2).2.n = none := by
    rintro φ' rfl k2 i2 o2 h1 h2 h3 _ h5 h6 h7
    exact I.pend k2 i2 o2 h1 h2 h3 h5 h6 h7
  unfold wpOp
  rw [hi]
  dsimp only
  obtain ⟨p, hp, hstep⟩ := S.step k i hk
  rw [ho] at hp; cases hp
  rcases hstep with ⟨hg, hput, hheap⟩ | ⟨hg, v, hput, hstep⟩
  · rw [guard_wanted1 hlook hg]
    simp only [Bool.false_eq_true, if_false]
    cases hb : isB C ops.toList i
    · exact hnext _ _ _ _ (I.still S hk ho hL hr hput (.tuple [] [] .nil) hb I.hr (Ext.refl _ _ _) (hps rfl))
    · have := hwr hb; subst this
      obtain ⟨K', I'⟩ := I.write S hk ho hL hr hput (.tuple [] [] .nil) hb (hheap ▸ I.hr) (Ext.refl _ _ _) (by rw [hheap]; exact Nat.le_refl _) (fun _ _ h => h)
      exact hnext _ _ _ _ I'
  · rw [guard_wanted1 hlook hg]
    simp only [if_true]
    left
    -- what only answers
    have hyl : ∀ {v' : Value}, Yl C.P a.eval o.op w φ v → isB C ops.toList i = false → o.wp C.P a w next Q := by
      intro _ hy hb
      obtain ⟨v', w', h1, h2, h3⟩ := hy o rfl
      unfold Oper.wp
      rw [h1, Oper.upon_value]
      rcases h3 with rfl | rfl
      · exact hnext _ _ _ _ (I.still S hk ho hL hr hput h2 hb I.hr (Ext.refl _ _ _) (hps rfl))
      · exact hnext _ _ _ _ (I.still S hk ho hL hr hput h2 hb I.hr.drew (Ext.drew _ _ _) (hps rfl))
    rcases hstep with ⟨hs3, hv, hheap⟩ | ⟨hs3, hv, hheap, hmem⟩ | ⟨hs3, hv, x, hx, hmem⟩ | ⟨hs3, hv⟩
    · exact hyl (v' := undef) (opP_sound w hC hρ hv) (by cases hb : isB C ops.toList i with | false => rfl | true => rw [hB.1.1 hb] at hs3; cases hs3)
    · have hnow := S.reads _ hmem
      obtain ⟨h, hm, e1, e2⟩ := I.now S ho hL hr
      unfold rdOk at hnow
      rw [List.all_eq_true] at hnow
      have hnow := hnow h hm
      dsimp only at hnow
      rw [e2, e1] at hnow
      simp only [Bool.false_or] at hnow
      split at hnow
      · rename_i v2 hv2
        have := veq_eq 4 _ _ hnow
        subst this
        exact hyl (v' := undef) (opR_sound w hC hρ I.hr hv2) (by cases hb : isB C ops.toList i with | false => rfl | true => rw [hB.1.1 hb] at hs3; cases hs3)
      · cases hnow
    · have hb : isB C ops.toList i = false := by cases hb : isB C ops.toList i with | false => rfl | true => rw [hB.1.1 hb] at hs3; cases hs3
      have hkK : k < K := by
        rcases Nat.lt_trichotomy k K with hlt | e | hlt
        · exact hlt
        · subst e
          rcases I.kb with e | ⟨i', h1, h2⟩
          · omega
          · rw [hk] at h1; cases h1; rw [hb] at h2; cases h2
        · rcases I.kb with e | ⟨i', h1, h2⟩
          · omega
          · have := (hlisted (.inr (hB.2.2 hs3))).2 K i' hlt h1 h2
            have := (I.wr K i' h1 h2).1 this; omega
      obtain ⟨b, y, mk, hnew, rfl, hmk⟩ := allocB_makes hC hρ hv
      obtain ⟨rfl, hn1⟩ := Heap.new_n hnew
      obtain ⟨_, _, _, _, hblk⟩ := Heap.new_spec (I.full k (by omega)) hnew
      have hxy : x = y := by rw [hblk, if_pos rfl] at hx; cases hx; rfl
      subst hxy
      -- the block stands in the heap of now
      have hnow := S.news _ hmem
      obtain ⟨h, hm, e1, e2⟩ := I.now S ho hL hr
      unfold ndOk at hnow
      rw [List.all_eq_true] at hnow
      have hnow := hnow h hm
      dsimp only at hnow
      rw [e2, e1] at hnow
      simp only [Bool.false_or] at hnow
      split at hnow
      · rename_i x2 hx2
        have := blkEq_eq hnow
        subst this
        have hlow := I.mono 0 k (Nat.zero_le _) (by omega)
        have hφ := I.pend k i o hk hkK hL ho hs3 hg
        refine hmk w o a next Q rfl rfl ?_
        rintro v' w' ⟨obj, n, rfl, hob⟩
        have hbase : C.base ≤ (f k).2.n ∧ C.lo ≤ (f k).2.n := by
          have h0 : C.base ≤ (f 0).2.n ∧ C.lo ≤ (f 0).2.n := I.low0
          omega
        obtain ⟨φ', h1, h2, h3, h4⟩ := I.hr.late (l := ⟨w.heap.size, 0, n⟩) (o := obj) rfl hφ hx2 hbase.1 hbase.2 (fun φ' hle hb => (hob φ' _ hle hb).1)
        refine hnext _ _ _ _ (I.still S hk ho hL hr hput (hob φ' _ h4.le h1).2 hb h3 h4 ?_)
        intro k2 i2 o2 g1 g2 g3 g4 g5 g6 g7
        have hne : (f k2).2.n ≠ (f k).2.n := by
          have m1 := (S.step k2 i2 g1).made g5 g6 g7
          rcases Nat.lt_trichotomy k2 k with hlt | e | hlt
          · have := I.mono (k2 + 1) k (by omega) (by omega); omega
          · subst e; rw [hk] at g1; cases g1; exact absurd rfl g4
          · have := I.mono (k + 1) k2 (by omega) (by omega); omega
        rw [h2 _ hne]
        exact I.pend k2 i2 o2 g1 g2 g3 g5 g6 g7
      · cases hnow
    · have hb : isB C ops.toList i = true := hB.1.2 hs3
      have := hwr hb; subst this
      have hv' : opB (C.from (f k).2.n) rec (evR (C.from (f k).2.n).base (AM.looks ops.toList o) (f k).1) (f k).2 o.op = some (v, (f (k + 1)).2) := by rw [opB_from]; exact hv
      refine opB_goes w (hC.from (f k).2.n) (hrec _) hρ (I.hr.from (Nat.le_refl _)) hv' o a next Q rfl rfl ?_
      rintro v' w' ⟨φ', hext, hH', hvr⟩
      have hlo : C.lo ≤ (f k).2.n := I.hr.low.2
      obtain ⟨K', I'⟩ := I.write S hk ho hL hr hput hvr hb (hH'.back hlo) (hext.back hlo) hH'.low.2 (by
        intro b hlt hnone
        cases hφ : φ' b with
        | none => rfl
        | some l =>
          rcases hext.new b l hφ with h | ⟨⟨_, h⟩, _⟩
          · rw [hnone] at h; cases h
          · have : (f k).2.n ≤ b := h
            omega)
      exact hnext _ _ _ _ I'
end
end Go.AM
