/- AM: a region that draws its order, whole. -/
import Derived.Test.YtmohbeomlpjljaaGreatDoorAmFrom
namespace Go.AM
open Go
variable [Syms]

section
variable {C : Ctx} {rec : Rec} {all : List Oper} {hs : List Hd} {rs : List Rd} {ns : List Nd} {f : Nat → St} {σ : List Nat} {φ0 : Phi} {a0 : Act} {w0 : World}
variable {L : Nat → Prop} {K : Nat} {φ : Phi} {a : Act} {w : World} {k i : Nat} {o : Oper}

/-- the heap that stands now, and that what stands next may stand there -/
theorem Inv.now (I : Inv C all f σ φ0 a0 w0 L K φ a w) (S : Seen C rec all hs rs ns f σ) (ho : all[i]? = some o) (hL : ¬ L i) (hr : ∀ j ∈ edgeOf o, L j) :
    ∃ h ∈ hs, h.H = (f K).2 ∧ away (ancs [] all) h i = false := by
  obtain ⟨h, hm, e1, e2, e3⟩ := S.heaps K I.kle I.kb
  refine ⟨h, hm, e1, ?_⟩
  unfold away
  rw [Bool.or_eq_false_iff]
  constructor
  · split
    · rename_i j hj
      rw [hj] at e2
      cases hb : bit (ancs [] all) i j with
      | false => rfl
      | true =>
        have hLj := ready_bit S.edges I.closed ho hr hb
        rcases I.kb with e | ⟨i', h1, h2⟩
        · rw [List.getElem?_eq_none (by omega)] at e2; cases e2
        · rw [h1] at e2; cases e2
          have := (I.wr K j h1 h2).1 hLj; omega
    · rfl
  · split
    · rename_i j hj
      cases hb : bit (ancs [] all) j i with
      | false => rfl
      | true =>
        obtain ⟨k, hk, h1, h2⟩ := e3 j hj
        have hLj := (I.wr k j h1 h2).2 hk
        exact absurd (closed_bit S.edges I.closed j i hLj hb) hL
    · rfl

theorem Inv.step (hC : COk C) (hrec : ∀ n, RecOk (C.from n) rec) {ops : Array Oper} (hall : ops.toList = all) (I : Inv C all f σ φ0 a0 w0 L K φ a w) (S : Seen C rec all hs rs ns f σ)
    (ho : all[i]? = some o) (hL : ¬ L i) (hr : ∀ j ∈ edgeOf o, L j) {Q : Exit → Act → World → Prop} {next : Act → World → Prop}
    (hnext : ∀ K' φ' a' w', Inv C all f σ φ0 a0 w0 (fun j => L j ∨ j = i) K' φ' a' w' → next a' w') : wpOp C.P ops Q i next a w := by
  subst hall
  obtain ⟨k, hk⟩ := S.mem ho
  have hkl := (List.getElem?_eq_some_iff.1 hk).1
  have hlook := I.looks S hk ho hL hr
  have hρ := evR_rho (L := AM.looks ops.toList o) I.hr hlook
  have hi : ops[i]? = some o := by simpa using ho
  have hB := isB_sort (C := C) ho
  have hlisted := fun h => chained_listed S.edges C I.closed σ none S.chain k i hk h (fun j hj => ready_bit S.edges I.closed ho hr hj)
  -- one that writes stands at K
  have hwr : isB C ops.toList i = true → k = K := by
    intro hb
    rcases Nat.lt_trichotomy k K with hlt | e | hlt
    · exact absurd ((I.wr k i hk hb).2 hlt) hL
    · exact e
    · rcases I.kb with e | ⟨i', h1, h2⟩
      · omega
      · have := (hlisted (.inl hb)).2 K i' hlt h1 h2
        have := (I.wr K i' h1 h2).1 this; omega
  have hps : ∀ {φ' : Phi}, φ' = φ → ∀ (k2 i2 : Nat) o2, σ[k2]? = some i2 → k2 < K → ¬ L i2 → i2 ≠ i → ops.toList[i2]? = some o2 → sort3 C o2.op = .a → guardOk ops.toList (f k2).1 o2 = some true → φ' (f k2).2.n = none := by
    rintro φ' rfl k2 i2 o2 h1 h2 h3 _ h5 h6 h7
    exact I.pend k2 i2 o2 h1 h2 h3 h5 h6 h7
  unfold wpOp
  rw [hi]
  dsimp only
  obtain ⟨p, hp, hstep⟩ := S.step k i hk
  rw [ho] at hp; cases hp
  rcases hstep with ⟨hg, hput, hheap⟩ | ⟨hg, v, hput, hstep⟩
  · rw [guard_wanted1 hlook hg]
    simp only [Bool.false_eq_true, if_false]
    cases hb : isB C ops.toList i
    · exact hnext _ _ _ _ (I.still S hk ho hL hr hput (.tuple [] [] .nil) hb I.hr (Ext.refl _ _ _) (hps rfl))
    · have := hwr hb; subst this
      obtain ⟨K', I'⟩ := I.write S hk ho hL hr hput (.tuple [] [] .nil) hb (hheap ▸ I.hr) (Ext.refl _ _ _) (by rw [hheap]; exact Nat.le_refl _) (fun _ _ h => h)
      exact hnext _ _ _ _ I'
  · rw [guard_wanted1 hlook hg]
    simp only [if_true]
    left
    -- what only answers
    have hyl : ∀ {v' : Value}, Yl C.P a.eval o.op w φ v → isB C ops.toList i = false → o.wp C.P a w next Q := by
      intro _ hy hb
      obtain ⟨v', w', h1, h2, h3⟩ := hy o rfl
      unfold Oper.wp
      rw [h1, Oper.upon_value]
      rcases h3 with rfl | rfl
      · exact hnext _ _ _ _ (I.still S hk ho hL hr hput h2 hb I.hr (Ext.refl _ _ _) (hps rfl))
      · exact hnext _ _ _ _ (I.still S hk ho hL hr hput h2 hb I.hr.drew (Ext.drew _ _ _) (hps rfl))
    rcases hstep with ⟨hs3, hv, hheap⟩ | ⟨hs3, hv, hheap, hmem⟩ | ⟨hs3, hv, x, hx, hmem⟩ | ⟨hs3, hv⟩
    · exact hyl (v' := undef) (opP_sound w hC hρ hv) (by cases hb : isB C ops.toList i with | false => rfl | true => rw [hB.1.1 hb] at hs3; cases hs3)
    · have hnow := S.reads _ hmem
      obtain ⟨h, hm, e1, e2⟩ := I.now S ho hL hr
      unfold rdOk at hnow
      rw [List.all_eq_true] at hnow
      have hnow := hnow h hm
      dsimp only at hnow
      rw [e2, e1] at hnow
      simp only [Bool.false_or] at hnow
      split at hnow
      · rename_i v2 hv2
        have := veq_eq 4 _ _ hnow
        subst this
        exact hyl (v' := undef) (opR_sound w hC hρ I.hr hv2) (by cases hb : isB C ops.toList i with | false => rfl | true => rw [hB.1.1 hb] at hs3; cases hs3)
      · cases hnow
    · have hb : isB C ops.toList i = false := by cases hb : isB C ops.toList i with | false => rfl | true => rw [hB.1.1 hb] at hs3; cases hs3
      have hkK : k < K := by
        rcases Nat.lt_trichotomy k K with hlt | e | hlt
        · exact hlt
        · subst e
          rcases I.kb with e | ⟨i', h1, h2⟩
          · omega
          · rw [hk] at h1; cases h1; rw [hb] at h2; cases h2
        · rcases I.kb with e | ⟨i', h1, h2⟩
          · omega
          · have := (hlisted (.inr (hB.2.2 hs3))).2 K i' hlt h1 h2
            have := (I.wr K i' h1 h2).1 this; omega
      obtain ⟨b, y, mk, hnew, rfl, hmk⟩ := allocB_makes hC hρ hv
      obtain ⟨rfl, hn1⟩ := Heap.new_n hnew
      obtain ⟨_, _, _, _, hblk⟩ := Heap.new_spec (I.full k (by omega)) hnew
      have hxy : x = y := by rw [hblk, if_pos rfl] at hx; cases hx; rfl
      subst hxy
      -- the block stands in the heap of now
      have hnow := S.news _ hmem
      obtain ⟨h, hm, e1, e2⟩ := I.now S ho hL hr
      unfold ndOk at hnow
      rw [List.all_eq_true] at hnow
      have hnow := hnow h hm
      dsimp only at hnow
      rw [e2, e1] at hnow
      simp only [Bool.false_or] at hnow
      split at hnow
      · rename_i x2 hx2
        have := blkEq_eq hnow
        subst this
        have hlow := I.mono 0 k (Nat.zero_le _) (by omega)
        have hφ := I.pend k i o hk hkK hL ho hs3 hg
        refine hmk w o a next Q rfl rfl ?_
        rintro v' w' ⟨obj, n, rfl, hob⟩
        have hbase : C.base ≤ (f k).2.n ∧ C.lo ≤ (f k).2.n := by
          have h0 : C.base ≤ (f 0).2.n ∧ C.lo ≤ (f 0).2.n := I.low0
          omega
        obtain ⟨φ', h1, h2, h3, h4⟩ := I.hr.late (l := ⟨w.heap.size, 0, n⟩) (o := obj) rfl hφ hx2 hbase.1 hbase.2 (fun φ' hle hb => (hob φ' _ hle hb).1)
        refine hnext _ _ _ _ (I.still S hk ho hL hr hput (hob φ' _ h4.le h1).2 hb h3 h4 ?_)
        intro k2 i2 o2 g1 g2 g3 g4 g5 g6 g7
        have hne : (f k2).2.n ≠ (f k).2.n := by
          have m1 := (S.step k2 i2 g1).made g5 g6 g7
          rcases Nat.lt_trichotomy k2 k with hlt | e | hlt
          · have := I.mono (k2 + 1) k (by omega) (by omega); omega
          · subst e; rw [hk] at g1; cases g1; exact absurd rfl g4
          · have := I.mono (k + 1) k2 (by omega) (by omega); omega
        rw [h2 _ hne]
        exact I.pend k2 i2 o2 g1 g2 g3 g5 g6 g7
      · cases hnow
    · have hb : isB C ops.toList i = true := hB.1.2 hs3
      have := hwr hb; subst this
      have hv' : opB (C.from (f k).2.n) rec (evR (C.from (f k).2.n).base (AM.looks ops.toList o) (f k).1) (f k).2 o.op = some (v, (f (k + 1)).2) := by rw [opB_from]; exact hv
      refine opB_goes w (hC.from (f k).2.n) (hrec _) hρ (I.hr.from (Nat.le_refl _)) hv' o a next Q rfl rfl ?_
      rintro v' w' ⟨φ', hext, hH', hvr⟩
      have hlo : C.lo ≤ (f k).2.n := I.hr.low.2
      obtain ⟨K', I'⟩ := I.write S hk ho hL hr hput hvr hb (hH'.back hlo) (hext.back hlo) hH'.low.2 (by
        intro b hlt hnone
        cases hφ : φ' b with
        | none => rfl
        | some l =>
          rcases hext.new b l hφ with h | ⟨⟨_, h⟩, _⟩
          · rw [hnone] at h; cases h
          · have : (f k).2.n ≤ b := h
            omega)
      exact hnext _ _ _ _ I'
end
end Go.AM
namespace Go.AM
open Go
variable [Syms]

omit [Syms] in
theorem count_set {l : List Bool} : ∀ {i : Nat}, l[i]? = some false → (l.set i true).count false + 1 = l.count false := by
  induction l with
  | nil => intro i h; simp at h
  | cons b l ih =>
    intro i h
    cases i with
    | zero => simp at h; subst h; simp
    | succ i =>
      have h' : l[i]? = some false := by simpa using h
      have := ih h'
      cases b <;> simp <;> omega

section
variable {C : Ctx} {rec : Rec} {ops : Array Oper} {hs : List Hd} {rs : List Rd} {ns : List Nd} {f : Nat → St} {σ : List Nat} {φ0 : Phi} {a0 : Act} {w0 : World}

omit [Syms] in
theorem edge_mem {o : Oper} {e : Edge} (he : e ∈ o.after) (hb : Region.binds .any e = true) : e.on ∈ edgeOf o := by
  unfold edgeOf
  exact List.mem_map.2 ⟨e, List.mem_filter.2 ⟨by simpa using he, hb⟩, rfl⟩

omit [Syms] in
theorem mem_edge {o : Oper} {j : Nat} (h : j ∈ edgeOf o) : ∃ e ∈ o.after, Region.binds .any e = true ∧ e.on = j := by
  unfold edgeOf at h
  obtain ⟨e, he, rfl⟩ := List.mem_map.1 h
  obtain ⟨h1, h2⟩ := List.mem_filter.1 he
  exact ⟨e, by simpa using h1, h2, rfl⟩

omit [Syms] in
/-- none is ready: all are listed -/
theorem all_listed (hE : edgesBack 0 ops.toList = true) {listed : Array Bool} (hsz : listed.size = ops.size) (h : Region.ready .any ops listed = []) : ∀ i, i < ops.size → listed.getD i false = true := by
  intro i
  induction i using Nat.strongRecOn with
  | _ i ih =>
    intro hi
    cases hl : listed.getD i false with
    | true => rfl
    | false =>
      exfalso
      have : i ∈ Region.ready .any ops listed := by
        rw [mem_ready]
        refine ⟨?_, ops[i], Array.getElem?_eq_getElem hi, ?_⟩
        · have : i < listed.size := by omega
          simp [this] at hl ⊢; exact hl
        · intro e he hb
          have hlt := edgesBack_get ops.toList 0 i ops[i] hE (by simp [hi]) e.on (edge_mem he hb)
          exact ih e.on (by omega) (by omega)
      rw [h] at this; cases this

theorem any_inv (hC : COk C) (hrec : ∀ n, RecOk (C.from n) rec) (S : Seen C rec ops.toList hs rs ns f σ) {Q : Exit → Act → World → Prop}
    (hQ : ∀ L K φ a w, (∀ i, i < ops.size → L i) → Inv C ops.toList f σ φ0 a0 w0 L K φ a w → Q .normal a w) :
    ∀ (fuel : Nat) (listed : Array Bool) K φ a w, listed.size = ops.size → listed.toList.count false ≤ fuel → Inv C ops.toList f σ φ0 a0 w0 (fun i => listed.getD i false = true) K φ a w →
    wpAny C.P .any ops Q fuel listed a w := by
  intro fuel
  induction fuel with
  | zero =>
    intro listed K φ a w hsz hc I
    have hall : ∀ i, i < ops.size → listed.getD i false = true := by
      intro i hi
      have hlt : i < listed.size := by omega
      have h0 : false ∉ listed.toList := by
        rw [← List.count_eq_zero]; omega
      simp [hlt]
      cases hv : listed[i] with
      | true => rfl
      | false => exact absurd (hv ▸ (by simp : listed[i] ∈ listed.toList)) h0
    refine ⟨?_, hQ _ K φ a w hall I⟩
    cases hr : Region.ready .any ops listed with
    | nil => rfl
    | cons i l =>
      have : i ∈ Region.ready .any ops listed := by rw [hr]; simp
      rw [mem_ready] at this
      obtain ⟨h1, o, ho, _⟩ := this
      have hlt : i < ops.size := (Array.getElem?_eq_some_iff.1 ho).1
      have h2 := hall i hlt
      have : i < listed.size := by omega
      simp [this] at h1 h2
      rw [h1] at h2; cases h2
  | succ fuel ih =>
    intro listed K φ a w hsz hc I
    refine ⟨fun hr => hQ _ K φ a w (all_listed S.edges hsz hr) I, ?_⟩
    intro i hi
    rw [mem_ready] at hi
    obtain ⟨h1, o, ho, h2⟩ := hi
    have hlt : i < listed.size := by have := (Array.getElem?_eq_some_iff.1 ho).1; omega
    have hfalse : listed.toList[i]? = some false := by simp [hlt] at h1 ⊢; exact h1
    have hL : ¬ (listed.getD i false = true) := by simp [hlt] at h1 ⊢; exact h1
    refine I.step hC hrec rfl S (by simpa using ho) hL (fun j hj => ?_) ?_
    · obtain ⟨e, he, hb, rfl⟩ := mem_edge hj
      exact h2 e he hb
    · intro K' φ' a' w' I'
      have hcount := count_set hfalse
      refine ih (listed.setIfInBounds i true) K' φ' a' w' (by simpa using hsz) ?_ ?_
      · rw [Array.toList_setIfInBounds]; omega
      · have : (fun j => (listed.setIfInBounds i true).getD j false = true) = fun j => (listed.getD j false = true ∨ j = i) := by
          funext j
          by_cases e : j = i
          · subst e; simp [hlt]
          · simp [Array.getElem?_setIfInBounds_ne (Ne.symm e), e]
        rw [this]; exact I'
end

theorem draw_ok {C : Ctx} (hC : COk C) {rec : Rec} (hrec : ∀ n, RecOk (C.from n) rec) (ops : Array Oper) {tm : T Value} {H : Heap} {e : Ex} {tm' : T Value} {H' : Heap}
    (h : drawF C rec ops.toList tm H = .ok e tm' H') {φ : Phi} {a : Act} {w : World} (id : Nat) (hH : HRel C φ H w) (hT : TRel φ tm a) :
    (Code.region id ops true).wp C.P (fun x a' w' => x = e.to ∧ After C φ a w tm' H' a' w') a w := by
  unfold drawF at h
  dsimp only at h
  cases hst : static C ops.toList
  · rw [hst] at h; cases h
  · rw [hst] at h; simp only [cond_true] at h
    split at h
    · rename_i tm1 H1 hs rs ns hgo
      cases hck : (rs.all (rdOk C (ancs [] ops.toList) ops.toList hs) && ns.all (ndOk (ancs [] ops.toList) hs))
      · rw [hck] at h; cases h
      · rw [hck] at h; simp only [cond_true] at h
        cases h
        simp only [Bool.and_eq_true, List.all_eq_true] at hck
        unfold static at hst
        simp only [Bool.and_eq_true] at hst
        obtain ⟨⟨hE, hcalm⟩, hchain⟩ := hst
        obtain ⟨_, _, _, f, f0, fe, fs, fh⟩ := drawGo_trace (s' := (tm', H')) _ _ _ _ _ _ _ hgo
        have S : Seen C rec ops.toList hs rs ns f (order C (ancs [] ops.toList) ops.toList) := by
          refine ⟨rfl, hE, hcalm, hchain, fs, ?_, hck.1, hck.2⟩
          intro K h1 h2
          obtain ⟨h, hm, e1, e2, e3⟩ := fh K h1 h2
          refine ⟨h, hm, e1, e2, fun j hj => ?_⟩
          rcases e3 j hj with e | e
          · cases e
          · exact e
        refine wp_region_any hC.mixed ?_
        -- the start
        have hH0 : HRel C φ (f 0).2 w.drew := by rw [f0]; exact hH.drew
        obtain ⟨K, hK1, hK2, hK3, hK4⟩ := next_writer C ops.toList (order C (ancs [] ops.toList) ops.toList) _ 0 rfl (Nat.zero_le _)
        have seg := segment (ops := ops) S.step hK2 hK4 φ w.drew K (by omega) hH0
        simp only [Nat.zero_add] at seg
        obtain ⟨hHK, hmono, hfull⟩ := seg
        have hsize : (Array.replicate ops.size false).size = ops.size := by simp
        have hnone : (fun i => (Array.replicate ops.size false).getD i false = true) = fun _ => False := by
          funext i
          simp [Array.getElem?_replicate]
          split <;> rfl
        have I : Inv C ops.toList f (order C (ancs [] ops.toList) ops.toList) φ a w (fun i => (Array.replicate ops.size false).getD i false = true) K φ a w.drew := by
          rw [hnone]
          refine ⟨fun _ _ _ h => h.elim, hK2, hK3, ?_, fun _ _ _ _ _ _ _ h => h.elim, ?_, hHK, ?_, hfull, ?_, ?_, rfl, Ext.drew _ _ _⟩
          · intro k i hk hb
            refine ⟨fun h => h.elim, fun hlt => ?_⟩
            have := hK4 k i (Nat.zero_le _) hlt hk
            rw [this] at hb; cases hb
          · intro t _
            rw [f0]
            have := hT t
            unfold Rel1
            dsimp only
            split
            · rename_i hg; rw [hg] at this; exact this
            · rename_i v hg; rw [hg] at this; exact this
          · intro k k' h1 h2; exact hmono k k' h1 h2
          · rw [f0]; exact hH.low
          · intro k i o hk hlt _ _ _ _
            have := hmono 0 k (Nat.zero_le _) (by omega)
            cases hφ : φ (f k).2.n with
            | none => rfl
            | some l =>
              have := (hH0.dom _ l hφ).1
              omega
        refine any_inv hC hrec S ?_ ops.size _ K φ a w.drew hsize (by simp) I
        intro L K' φ' a' w' hall I'
        have hKe : K' = (order C (ancs [] ops.toList) ops.toList).length := by
          rcases I'.kb with e | ⟨i, h1, h2⟩
          · exact e
          · have hi : i ∈ order C (ancs [] ops.toList) ops.toList := List.mem_of_getElem? h1
            rw [mem_order] at hi
            have := (I'.wr K' i h1 h2).1 (hall i (by simpa using hi)); omega
        refine ⟨rfl, φ', I'.ext, ?_, ?_, I'.defers⟩
        · have := I'.hr
          rw [hKe, fe] at this; exact this
        · intro t
          have key : Rel1 φ' (tm'.get t) a' t := by
            have hfe : (f (order C (ancs [] ops.toList) ops.toList).length).1 = tm' := by rw [fe]
            rw [← hfe]
            by_cases hx : ∃ (x : Nat) (ox : Oper), ops.toList[x]? = some ox ∧ ox.dst = some t
            · obtain ⟨x, ox, hx, hd⟩ := hx
              have huniq : ∀ (i2 : Nat) o2, ops.toList[i2]? = some o2 → o2.dst = some t → x = i2 := by
                intro i2 o2 h2 hd2
                rcases calm_spec hcalm hx hd h2 with e | ⟨e, _⟩
                · exact e
                · exact absurd hd2 e
              obtain ⟨kx, hkx⟩ := S.mem hx
              have hkl := (List.getElem?_eq_some_iff.1 hkx).1
              rw [get_between S.step (k := kx + 1) (k' := (order C (ancs [] ops.toList) ops.toList).length) (by omega) (Nat.le_refl _) (t := t) (fun k2 i2 o2 _ h2 h3 h4 h5 => by
                have := huniq i2 o2 h4 h5
                subst this
                have := S.inj hkx h3; omega)]
              exact I'.tmL t kx x ox hkx hx hd (hall x (by have := (List.getElem?_eq_some_iff.1 hx).1; simpa using this))
            · rw [get_between S.step (Nat.zero_le _) (Nat.le_refl _) (t := t) (fun k2 i2 o2 _ _ _ h4 h5 => hx ⟨i2, o2, h4, h5⟩)]
              exact I'.tm0 t fun i2 o2 h4 h5 => absurd ⟨i2, o2, h4, h5⟩ hx
          unfold Rel1 at key
          split
          · rename_i hg; rw [hg] at key; exact key
          · rename_i v hg; rw [hg] at key; exact key
    · cases h
end Go.AM
