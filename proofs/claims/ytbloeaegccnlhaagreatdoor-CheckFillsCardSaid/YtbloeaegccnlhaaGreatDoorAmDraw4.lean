/- AM: regions that draw, and all code. -/
import Derived.Test.YtbloeaegccnlhaaGreatDoorAmDraw3
namespace Go.AM
open Go

theorem count_set {l : List Bool} : ∀ {i : Nat}, l[i]? = some false → (l.set i true).count false + 1 = l.count false := by
  induction l with
  | nil => intro i h; simp at h
  | cons b l ih =>
    intro i h
    cases i with
    | zero => simp at h; subst h; simp
    | succ i =>
      have h' : l[i]? = some false := by simpa using h
      have := ih h'
      cases b <;> simp <;> omega

section
variable {C : Ctx} {rec : Rec} {ops : Array Oper} {hs : List Hd} {rs : List Rd} {ns : List Nd} {f : Nat → St} {σ : List Nat} {φ0 : Phi} {a0 : Act} {w0 : World}

theorem edge_mem {o : Oper} {e : Edge} (he : e ∈ o.after) (hb : Region.binds .any e = true) : e.on ∈ edgeOf o := by
  unfold edgeOf
  exact List.mem_map.2 ⟨e, List.mem_filter.2 ⟨by simpa using he, hb⟩, rfl⟩

theorem mem_edge {o : Oper} {j : Nat} (h : j ∈ edgeOf o) : ∃ e ∈ o.after, Region.binds .any e = true ∧ e.on = j := by
  unfold edgeOf at h
  obtain ⟨e, he, rfl⟩ := List.mem_map.1 h
  obtain ⟨h1, h2⟩ := List.mem_filter.1 he
  exact ⟨e, by simpa using h1, h2, rfl⟩

/-- none is ready: all are listed -/
theorem all_listed (hE : edgesBack 0 ops.toList = true) {listed : Array Bool} (hsz : listed.size = ops.size) (h : Region.ready .any ops listed = []) : ∀ i, i < ops.size → listed.getD i false = true := by
  intro i
  induction i using Nat.strongRecOn with
  | _ i ih =>
    intro hi
    cases hl : listed.getD i false with
    | true => rfl
    | false =>
      exfalso
      have : i ∈ Region.ready .any ops listed := by
        rw [mem_ready]
        refine ⟨?_, ops[i], Array.getElem?_eq_getElem hi, ?_⟩
        · have : i < listed.size := by omega
          simp [this] at hl ⊢; exact hl
        · intro e he hb
          have hlt := edgesBack_get ops.toList 0 i ops[i] hE (by simp [hi]) e.on (edge_mem he hb)
          exact ih e.on (by omega) (by omega)
      rw [h] at this; cases this

theorem any_inv (hC : COk C) (hrec : ∀ n, RecOk (C.from n) rec) (S : Seen C rec ops.toList hs rs ns f σ) {Q : Exit → Act → World → Prop}
    (hQ : ∀ L K φ a w, (∀ i, i < ops.size → L i) → Inv C ops.toList f σ φ0 a0 w0 L K φ a w → Q .normal a w) :
    ∀ (fuel : Nat) (listed : Array Bool) K φ a w, listed.size = ops.size → listed.toList.count false ≤ fuel → Inv C ops.toList f σ φ0 a0 w0 (fun i => listed.getD i false = true) K φ a w →
    wpAny C.P .any ops Q fuel listed a w := by
  intro fuel
  induction fuel with
  | zero =>
    intro listed K φ a w hsz hc I
    have hall : ∀ i, i < ops.size → listed.getD i false = true := by
      intro i hi
      have hlt : i < listed.size := by omega
      have h0 : false ∉ listed.toList := by
        rw [← List.count_eq_zero]; omega
      simp [hlt]
      cases hv : listed[i] with
      | true => rfl
      | false => exact absurd (hv ▸ (by simp : listed[i] ∈ listed.toList)) h0
    refine ⟨?_, hQ _ K φ a w hall I⟩
    cases hr : Region.ready .any ops listed with
    | nil => rfl
    | cons i l =>
      have : i ∈ Region.ready .any ops listed := by rw [hr]; simp
      rw [mem_ready] at this
      obtain ⟨h1, o, ho, _⟩ := this
      have hlt : i < ops.size := (Array.getElem?_eq_some_iff.1 ho).1
      have h2 := hall i hlt
      have : i < listed.size := by omega
      simp [this] at h1 h2
      rw [h1] at h2; cases h2
  | succ fuel ih =>
    intro listed K φ a w hsz hc I
    refine ⟨fun hr => hQ _ K φ a w (all_listed S.edges hsz hr) I, ?_⟩
    intro i hi
    rw [mem_ready] at hi
    obtain ⟨h1, o, ho, h2⟩ := hi
    have hlt : i < listed.size := by have := (Array.getElem?_eq_some_iff.1 ho).1; omega
    have hfalse : listed.toList[i]? = some false := by simp [hlt] at h1 ⊢; exact h1
    have hL : ¬ (listed.getD i false = true) := by simp [hlt] at h1 ⊢; exact h1
    refine I.step hC hrec rfl S (by simpa using ho) hL (fun j hj => ?_) ?_
    · obtain ⟨e, he, hb, rfl⟩ := mem_edge hj
      exact h2 e he hb
    · intro K' φ' a' w' I'
      have hcount := count_set hfalse
      refine ih (listed.setIfInBounds i true) K' φ' a' w' (by simpa using hsz) ?_ ?_
      · rw [Array.toList_setIfInBounds]; omega
      · have : (fun j => (listed.setIfInBounds i true).getD j false = true) = fun j => (listed.getD j false = true ∨ j = i) := by
          funext j
          by_cases e : j = i
          · subst e; simp [hlt]
          · simp [Array.getElem?_setIfInBounds_ne (Ne.symm e), e]
        rw [this]; exact I'
end

theorem draw_ok {C : Ctx} (hC : COk C) {rec : Rec} (hrec : ∀ n, RecOk (C.from n) rec) (ops : Array Oper) {tm : T Value} {H : Heap} {e : Ex} {tm' : T Value} {H' : Heap}
    (h : drawF C rec ops.toList tm H = .ok e tm' H') {φ : Phi} {a : Act} {w : World} (id : Nat) (hH : HRel C φ H w) (hT : TRel φ tm a) :
    (Code.region id ops true).wp C.P (fun x a' w' => x = e.to ∧ After C φ a w tm' H' a' w') a w := by
  unfold drawF at h
  dsimp only at h
  cases hst : static C ops.toList
  · rw [hst] at h; cases h
  · rw [hst] at h; simp only [cond_true] at h
    split at h
    · rename_i tm1 H1 hs rs ns hgo
      cases hck : (rs.all (rdOk C (ancs [] ops.toList) ops.toList hs) && ns.all (ndOk (ancs [] ops.toList) hs))
      · rw [hck] at h; cases h
      · rw [hck] at h; simp only [cond_true] at h
        cases h
        simp only [Bool.and_eq_true, List.all_eq_true] at hck
        unfold static at hst
        simp only [Bool.and_eq_true] at hst
        obtain ⟨⟨hE, hcalm⟩, hchain⟩ := hst
        obtain ⟨_, _, _, f, f0, fe, fs, fh⟩ := drawGo_trace (s' := (tm', H')) _ _ _ _ _ _ _ hgo
        have S : Seen C rec ops.toList hs rs ns f (order C (ancs [] ops.toList) ops.toList) := by
          refine ⟨rfl, hE, hcalm, hchain, fs, ?_, hck.1, hck.2⟩
          intro K h1 h2
          obtain ⟨h, hm, e1, e2, e3⟩ := fh K h1 h2
          refine ⟨h, hm, e1, e2, fun j hj => ?_⟩
          rcases e3 j hj with e | e
          · cases e
          · exact e
        refine wp_region_any hC.mixed ?_
        -- the start
        have hH0 : HRel C φ (f 0).2 w.drew := by rw [f0]; exact hH.drew
        obtain ⟨K, hK1, hK2, hK3, hK4⟩ := next_writer C ops.toList (order C (ancs [] ops.toList) ops.toList) _ 0 rfl (Nat.zero_le _)
        have seg := segment (ops := ops) S.step hK2 hK4 φ w.drew K (by omega) hH0
        simp only [Nat.zero_add] at seg
        obtain ⟨hHK, hmono, hfull⟩ := seg
        have hsize : (Array.replicate ops.size false).size = ops.size := by simp
        have hnone : (fun i => (Array.replicate ops.size false).getD i false = true) = fun _ => False := by
          funext i
          simp [Array.getElem?_replicate]
          split <;> rfl
        have I : Inv C ops.toList f (order C (ancs [] ops.toList) ops.toList) φ a w (fun i => (Array.replicate ops.size false).getD i false = true) K φ a w.drew := by
          rw [hnone]
          refine ⟨fun _ _ _ h => h.elim, hK2, hK3, ?_, fun _ _ _ _ _ _ _ h => h.elim, ?_, hHK, ?_, hfull, ?_, ?_, rfl, Ext.drew _ _ _⟩
          · intro k i hk hb
            refine ⟨fun h => h.elim, fun hlt => ?_⟩
            have := hK4 k i (Nat.zero_le _) hlt hk
            rw [this] at hb; cases hb
          · intro t _
            rw [f0]
            have := hT t
            unfold Rel1
            dsimp only
            split
            · rename_i hg; rw [hg] at this; exact this
            · rename_i v hg; rw [hg] at this; exact this
          · intro k k' h1 h2; exact hmono k k' h1 h2
          · rw [f0]; exact hH.low
          · intro k i o hk hlt _ _ _ _
            have := hmono 0 k (Nat.zero_le _) (by omega)
            cases hφ : φ (f k).2.n with
            | none => rfl
            | some l =>
              have := (hH0.dom _ l hφ).1
              omega
        refine any_inv hC hrec S ?_ ops.size _ K φ a w.drew hsize (by simp) I
        intro L K' φ' a' w' hall I'
        have hKe : K' = (order C (ancs [] ops.toList) ops.toList).length := by
          rcases I'.kb with e | ⟨i, h1, h2⟩
          · exact e
          · have hi : i ∈ order C (ancs [] ops.toList) ops.toList := List.mem_of_getElem? h1
            rw [mem_order] at hi
            have := (I'.wr K' i h1 h2).1 (hall i (by simpa using hi)); omega
        refine ⟨rfl, φ', I'.ext, ?_, ?_, I'.defers⟩
        · have := I'.hr
          rw [hKe, fe] at this; exact this
        · intro t
          have key : Rel1 φ' (tm'.get t) a' t := by
            have hfe : (f (order C (ancs [] ops.toList) ops.toList).length).1 = tm' := by rw [fe]
            rw [← hfe]
            by_cases hx : ∃ (x : Nat) (ox : Oper), ops.toList[x]? = some ox ∧ ox.dst = some t
            · obtain ⟨x, ox, hx, hd⟩ := hx
              have huniq : ∀ (i2 : Nat) o2, ops.toList[i2]? = some o2 → o2.dst = some t → x = i2 := by
                intro i2 o2 h2 hd2
                rcases calm_spec hcalm hx hd h2 with e | ⟨e, _⟩
                · exact e
                · exact absurd hd2 e
              obtain ⟨kx, hkx⟩ := S.mem hx
              have hkl := (List.getElem?_eq_some_iff.1 hkx).1
              rw [get_between S.step (k := kx + 1) (k' := (order C (ancs [] ops.toList) ops.toList).length) (by omega) (Nat.le_refl _) (t := t) (fun k2 i2 o2 _ h2 h3 h4 h5 => by
                have := huniq i2 o2 h4 h5
                subst this
                have := S.inj hkx h3; omega)]
              exact I'.tmL t kx x ox hkx hx hd (hall x (by have := (List.getElem?_eq_some_iff.1 hx).1; simpa using this))
            · rw [get_between S.step (Nat.zero_le _) (Nat.le_refl _) (t := t) (fun k2 i2 o2 _ _ _ h4 h5 => hx ⟨i2, o2, h4, h5⟩)]
              exact I'.tm0 t fun i2 o2 h4 h5 => absurd ⟨i2, o2, h4, h5⟩ hx
          unfold Rel1 at key
          split
          · rename_i hg; rw [hg] at key; exact key
          · rename_i v hg; rw [hg] at key; exact key
    · cases h
end Go.AM
