/- AM: the operations that make memory, and that write. -/
import Derived.Test.YtmohbeomlpjljaaGreatDoorAmOps6
namespace Go.AM
open Go
variable [Syms]

/-- what an operation that writes leaves -/
def Post (C : Ctx) (φ : Phi) (w : World) (H' : Heap) (v : Value) (v' : Value) (w' : World) : Prop :=
  ∃ φ', Ext C φ w φ' w' ∧ HRel C φ' H' w' ∧ VRel φ' v v'

/-- an operation goes to its end, with what Q says -/
def Goes (P : Program) (ev : Operand → Value) (op : Op) (w : World) (Q : Value → World → Prop) : Prop :=
  ∀ (o : Oper) (a : Act) (next : Act → World → Prop) (E : Exit → Act → World → Prop), o.op = op → a.eval = ev →
    (∀ v' w', Q v' w' → next (a.put o.dst v') w') → o.wp P a w next E

omit [Syms] in
theorem Goes.of {P : Program} {ev : Operand → Value} {op : Op} {w : World} {Q : Value → World → Prop} (s : Sem Value)
    (he : ∀ o : Oper, o.op = op → execOp ev o = (do pure (.value (← s)))) {v' : Value} {w' : World} (hs : s.run P w = Result.ok v' w') (hq : Q v' w') : Goes P ev op w Q := by
  intro o a next E ho hev hn
  unfold Oper.wp
  rw [hev, he o ho]
  simp only [Sem.run_bind, hs, Result.andThen_ok, Sem.run_pure, Oper.upon_value]
  exact hn _ _ hq

omit [Syms] in
theorem Goes.skip {P : Program} {ev : Operand → Value} {op : Op} {w : World} {Q : Value → World → Prop} (s : Sem Unit)
    (he : ∀ o : Oper, o.op = op → execOp ev o = (do s; pure .skip)) {w' : World} (hs : s.run P w = Result.ok () w') (hq : Q undef w') : Goes P ev op w Q := by
  intro o a next E ho hev hn
  unfold Oper.wp
  rw [hev, he o ho]
  simp only [Sem.run_bind, hs, Result.andThen_ok, Sem.run_pure, Oper.upon_skip]
  exact hn _ _ hq

theorem Yl.goes {P : Program} {ev : Operand → Value} {op : Op} {w : World} {φ : Phi} {v : Value} {C : Ctx} {H : Heap} (h : Yl P ev op w φ v) (hH : HRel C φ H w) :
    Goes P ev op w (Post C φ w H v) := by
  intro o a next E ho hev hn
  obtain ⟨v', w', h1, h2, h3⟩ := h o ho
  unfold Oper.wp
  rw [hev, h1, Oper.upon_value]
  refine hn _ _ ⟨φ, ?_, ?_, h2⟩
  · rcases h3 with rfl | rfl
    · exact Ext.refl _ _ _
    · exact Ext.drew _ _ _
  · rcases h3 with rfl | rfl
    · exact hH
    · exact hH.drew

section
variable {C : Ctx} {φ : Phi} {ρ : Env} {ev : Operand → Value} {H H' : Heap} (w : World)

omit [Syms] in
theorem newP_spec {x : Blk} {v : Value} (h : newP H x = some (v, H')) : ∃ b, H.new x = some (b, H') ∧ v = .pointer (some ⟨b, 0, none⟩) := by
  unfold newP at h
  split at h
  · rename_i b H1 hn
    simp only [Option.some.injEq, Prod.mk.injEq] at h
    obtain ⟨rfl, rfl⟩ := h
    exact ⟨b, hn, rfl⟩
  · cases h

/-- a row of cells, of just so many -/
theorem row_new (hH : HRel C φ H w) {e : TypeId} {vs : List Value} {b : Nat} (hn : H.new (.cells e vs false ⟨0, false⟩) = some (b, H')) {cs : Array Value} (hv : VRels φ vs cs.toList) :
    ∃ φ', φ' b = some ⟨w.heap.size, 0, vs.length⟩ ∧ HRel C φ' H' (w.alloc (.cells cs e)) ∧ Ext C φ w φ' (w.alloc (.cells cs e)) := by
  have hl := hv.length
  obtain ⟨rfl, φ', h1, h2, h3⟩ := hH.alloc hn (.cells cs e) ⟨w.heap.size, 0, vs.length⟩ rfl (fun φ' hle _ => by
    refine .cells e vs false ⟨0, false⟩ cs (0, 0) (by simpa using hl.symm) (by simp) (fun _ => ⟨rfl, rfl⟩) ?_ ⟨fun i _ _ => by simp, fun _ => .inl rfl⟩
    rw [List.drop_zero, hl, List.take_of_length_le (Nat.le_refl _)]
    exact hv.mono hle)
  exact ⟨φ', h1, h2, h3⟩

theorem goes_alloc (hC : COk C) (hH : HRel C φ H w) {t : TypeId} {v : Value} (h : allocB C ρ H (.alloc t) = some (v, H')) : Goes C.P ev (.alloc t) w (Post C φ w H' v) := by
  simp only [allocB] at h
  split at h
  · rename_i i hi
    split at h
    · rename_i z hz
      obtain ⟨b, hn, rfl⟩ := newP_spec h
      obtain ⟨φ', h1, h2, h3⟩ := row_new w hH hn (hC.zero_rel hi hz)
      refine Goes.of (Instr.alloc t true (.tuple #[])) (by rintro ⟨dst, op, type, pos, after, guard⟩ ho; subst ho; rfl) (v' := .pointer (some ⟨w.heap.size, 0, none⟩)) (w' := w.alloc (.cells z.cells t)) ?_ ⟨φ', h3, h2, ?_⟩
      · simp only [Instr.alloc, Sem.run_bind, hC.run_zero w hi hz, Result.andThen_ok, newVar, newRow, run_newObj, Sem.run_pure]; rfl
      · exact .ptr b 0 _ h1
    · cases h
  · cases h

theorem goes_box (hρ : ERho φ ρ ev) (hH : HRel C φ H w) {t : TypeId} {x : Operand} {v : Value} (h : allocB C ρ H (.box t x) = some (v, H')) : Goes C.P ev (.box t x) w (Post C φ w H' v) := by
  simp only [allocB] at h
  split at h
  · rename_i u hu
    obtain ⟨b, hn, rfl⟩ := newP_spec h
    obtain ⟨φ', h1, h2, h3⟩ := row_new w hH hn ((hρ x u hu).cells)
    refine Goes.of (Instr.box t (ev x)) (by rintro ⟨dst, op, type, pos, after, guard⟩ ho; subst ho; rfl) (v' := .pointer (some ⟨w.heap.size, 0, none⟩)) (w' := w.alloc (.cells (ev x).cells t)) ?_ ⟨φ', h3, h2, ?_⟩
    · simp only [Instr.box, newVar, newRow, Sem.run_bind, run_newObj, Result.andThen_ok, Sem.run_pure]; rfl
    · exact .ptr b 0 _ h1
  · cases h

omit [Syms] in
theorem rep_eq {α : Type} [Inhabited α] (n : Nat) (zs : Array α) : ((Array.range (n * zs.size)).map (fun i => zs[i % zs.size]!)).toList = rep n zs.toList := by
  induction n with
  | zero => simp [rep]
  | succ n ih =>
    have hlen : ∀ m, (rep m zs.toList).length = m * zs.size := by
      intro m; induction m with
      | zero => simp [rep]
      | succ m ihm => simp [rep, ihm, Nat.succ_mul]; omega
    apply List.ext_getElem?
    intro i
    simp only [Array.toList_map, Array.toList_range, List.getElem?_map]
    have hr : ∀ m i, (rep m zs.toList)[i]? = if i < m * zs.size then some (zs[i % zs.size]!) else none := by
      intro m
      induction m with
      | zero => intro i; simp [rep]
      | succ m ihm =>
        intro i
        simp only [rep, List.getElem?_append, Array.length_toList]
        by_cases hi : i < zs.size
        · rw [if_pos hi, if_pos (by rw [Nat.succ_mul]; omega), Nat.mod_eq_of_lt hi]
          simp [hi]
        · rw [if_neg hi, ihm]
          have e1 : (i - zs.size) % zs.size = i % zs.size := by
            conv => rhs; rw [show i = (i - zs.size) + zs.size by omega]
            rw [Nat.add_mod_right]
          rw [e1]
          by_cases h2 : i < (m + 1) * zs.size
          · rw [if_pos h2, if_pos (by rw [Nat.succ_mul] at h2; omega)]
          · rw [if_neg h2, if_neg (by rw [Nat.succ_mul] at h2; omega)]
    rw [hr]
    by_cases hi : i < (n + 1) * zs.size
    · rw [if_pos hi]; simp [hi]
    · rw [if_neg hi]; simp [hi]

omit [Syms] in
theorem size_rep {α : Type} (n : Nat) (zs : List α) : (rep n zs).length = n * zs.length := by
  induction n with
  | zero => simp [rep]
  | succ n ih => simp [rep, ih, Nat.succ_mul]; omega

theorem goes_buildSlice (hC : COk C) (hρ : ERho φ ρ ev) (hH : HRel C φ H w) {t : TypeId} {len : Nat} {parts : Array (Nat × Operand)} {v : Value} (h : allocB C ρ H (.buildSlice t len parts) = some (v, H')) :
    Goes C.P ev (.buildSlice t len parts) w (Post C φ w H' v) := by
  simp only [allocB] at h
  split at h
  · rename_i l i hl hi
    obtain ⟨e1, e2⟩ := evP_rel hρ _ _ hl
    have hu := hC.run_und w hi
    split at h
    · rename_i e he
      rw [he] at hu
      split at h
      · rename_i j hj
        split at h
        · rename_i z hz
          cases hc : (Nat.beq j.size 0 || !Nat.ble (len * j.size) 4096 || !Nat.beq z.cells.size j.size)
          · rw [hc] at h; simp only [cond_false] at h
            simp only [Bool.or_eq_false_iff, Bool.not_eq_false'] at hc
            obtain ⟨⟨hc1, hc2⟩, hc3⟩ := hc
            have hzs := Nat.eq_of_beq_eq_true hc3
            have hle := Nat.le_of_ble_eq_true hc2
            split at h
            · rename_i cs hcs
              split at h
              · rename_i b H1 hn
                simp only [Option.some.injEq, Prod.mk.injEq] at h
                obtain ⟨rfl, rfl⟩ := h
                have ep : (parts.map fun (i, x) => (i, ev x)).toList = parts.toList.map fun (i, x) => (i, ev x) := by simp
                obtain ⟨cs', h3, h4⟩ := fill_rel _ l _ _ ((Array.range (len * j.size)).map (fun i => z.cells[i % z.cells.size]!)) cs e1 e2 (by
                  rw [← hzs, rep_eq]; exact (hC.zero_rel hj hz).rep len) hcs
                obtain ⟨φ', h5, h6, h7⟩ := row_new w hH hn h4
                have hb := (hH.alloc hn (.cells cs' e) ⟨w.heap.size, 0, cs.toList.length⟩ rfl (fun φ' hle _ => by
                  refine .cells e _ false ⟨0, false⟩ cs' (0, 0) (by simpa using h4.length.symm) (by simp) (fun _ => ⟨rfl, rfl⟩) ?_ ⟨fun i _ _ => by simp, fun _ => .inl rfl⟩
                  rw [List.drop_zero, h4.length, List.take_of_length_le (Nat.le_refl _)]
                  exact h4.mono hle)).1
                refine Goes.of (Instr.buildSlice t len (parts.map fun (i, x) => (i, ev x))) (by rintro ⟨dst, op, type, pos, after, guard⟩ ho; subst ho; rfl) (v' := .slice (some ⟨w.heap.size, 0, none⟩) len len) (w' := w.alloc (.cells cs' e)) ?_ ⟨φ', h7, h6, ?_⟩
                · have hno : ¬ (len * j.size > 2 ^ 24) := by omega
                  have hfill : Instr.fill (fun i => some (i * j.size, j.size)) ((Array.range (len * j.size)).map (fun i => z.cells[i % z.cells.size]!)) (parts.map fun (i, x) => (i, ev x)).toList = some cs' := by rw [ep]; exact h3
                  simp only [Instr.buildSlice, Sem.run_bind, hu, Result.andThen_ok, hC.run_size w hj, Sem.run_ite, if_neg hno, Sem.run_pure]
                  by_cases h0 : len * j.size = 0
                  · rw [if_pos h0]
                    have hl0 : len = 0 := by
                      rcases Nat.mul_eq_zero.1 h0 with e | e
                      · exact e
                      · rw [e] at hc1; simp at hc1
                    have : ((Array.range (len * j.size)).map (fun i => (#[] : Array Value)[i % (#[] : Array Value).size]!)) = ((Array.range (len * j.size)).map (fun i => z.cells[i % z.cells.size]!)) := by rw [h0]; simp
                    rw [this, hfill]
                    simp only [newRow, Sem.run_bind, run_newObj, Result.andThen_ok, Sem.run_pure]
                    rfl
                  · rw [if_neg h0]
                    simp only [hC.run_zero w hj hz, Result.andThen_ok]
                    rw [hfill]
                    simp only [newRow, Sem.run_bind, run_newObj, Result.andThen_ok, Sem.run_pure]
                    rfl
                · have : len < OPEN := by
                    have : j.size ≠ 0 := by intro e; rw [e] at hc1; simp at hc1
                    have : len ≤ len * j.size := Nat.le_mul_of_pos_right _ (by omega)
                    unfold OPEN; omega
                  exact .slc b 0 len len _ h5 this
              · cases h
            · cases h
          · rw [hc] at h; cases h
        · cases h
      · cases h
    · cases h
  · cases h

theorem goes_makeMap (hH : HRel C φ H w) {t : TypeId} {v : Value} (h : allocB C ρ H (.makeMap t none) = some (v, H')) : Goes C.P ev (.makeMap t none) w (Post C φ w H' v) := by
  simp only [allocB] at h
  split at h
  · rename_i b H1 hn
    simp only [Option.some.injEq, Prod.mk.injEq] at h
    obtain ⟨rfl, rfl⟩ := h
    obtain ⟨rfl, φ', h1, h2, h3⟩ := hH.alloc hn (.map #[] 0) ⟨w.heap.size, 0, 0⟩ rfl (fun φ' _ _ => .map [] [] 0 .nil)
    refine Goes.of (Instr.makeMap t none) (by rintro ⟨dst, op, type, pos, after, guard⟩ ho; subst ho; rfl) (v' := .map (some w.heap.size)) (w' := w.alloc (.map #[] 0)) ?_ ⟨φ', h3, h2, ?_⟩
    · simp only [Instr.makeMap, Sem.run_bind, run_newObj, Result.andThen_ok, Sem.run_pure]; rfl
    · exact .map _ ⟨w.heap.size, 0, 0⟩ h1
  · cases h

theorem goes_makeSlice (hC : COk C) (hρ : ERho φ ρ ev) (hH : HRel C φ H w) {t : TypeId} {lo co : Operand} {v : Value} (h : allocB C ρ H (.makeSlice t lo co) = some (v, H')) :
    Goes C.P ev (.makeSlice t lo co) w (Post C φ w H' v) := by
  simp only [allocB] at h
  split at h
  · rename_i i lv cv hi hl hc
    have hu := hC.run_und w hi
    split at h
    · rename_i e l c he hln hcn
      rw [he] at hu
      obtain ⟨k1, hl'⟩ := natOf_rel hln (hρ _ _ hl)
      obtain ⟨k2, hc'⟩ := natOf_rel hcn (hρ _ _ hc)
      split at h
      · rename_i j hj
        split at h
        · rename_i z hz
          cases hq : (Nat.ble l c && Nat.ble c LIMIT && Nat.ble j.bytes 65536 && !Nat.beq j.size 0 && Nat.beq z.cells.size j.size)
          · rw [hq] at h; cases h
          · rw [hq] at h; simp only [cond_true] at h
            simp only [Bool.and_eq_true, Bool.not_eq_true'] at hq
            obtain ⟨⟨⟨⟨hq1, hq2⟩, hq3⟩, hq4⟩, hq5⟩ := hq
            have hq1 := Nat.le_of_ble_eq_true hq1
            have hq2 := Nat.le_of_ble_eq_true hq2
            have hq3 := Nat.le_of_ble_eq_true hq3
            have hzs := Nat.eq_of_beq_eq_true hq5
            have hj0 : j.size ≠ 0 := by intro e; rw [e] at hq4; simp at hq4
            split at h
            · rename_i b H1 hn
              simp only [Option.some.injEq, Prod.mk.injEq] at h
              obtain ⟨rfl, rfl⟩ := h
              have hrel : VRels φ (rep c z.cells.toList) ((Array.range (c * j.size)).map (fun i => z.cells[i % z.cells.size]!)).toList := by
                rw [← hzs, rep_eq]; exact (hC.zero_rel hj hz).rep c
              obtain ⟨φ', h5, h6, h7⟩ := row_new w hH hn hrel
              obtain ⟨inf, hinf, _, _, hby, _⟩ := hC.run_info w hj
              have hL : LIMIT = 4194304 := by decide
              refine Goes.of (Instr.makeSlice t (ev lo) (ev co)) (by rintro ⟨dst, op, type, pos, after, guard⟩ ho; subst ho; rfl) (v' := .slice (some ⟨w.heap.size, 0, none⟩) l c)
                (w' := w.alloc (.cells ((Array.range (c * j.size)).map (fun i => z.cells[i % z.cells.size]!)) e)) ?_ ⟨φ', h7, h6, ?_⟩
              · rw [hl', hc']
                have w1 : IntKind.i64.wrap (Int.ofNat l) = Int.ofNat l := i64_in _ (by simp only [Int.ofNat_eq_natCast]; omega) (by simp only [Int.ofNat_eq_natCast]; omega)
                have w2 : IntKind.i64.wrap (Int.ofNat c) = Int.ofNat c := i64_in _ (by simp only [Int.ofNat_eq_natCast]; omega) (by simp only [Int.ofNat_eq_natCast]; omega)
                have hmul : inf.bytes * c ≤ 65536 * 4194304 := Nat.mul_le_mul (by omega) (by omega)
                have t1 : (decide (Int.ofNat c < 0) || decide ((inf.bytes : Int) * Int.ofNat c > 2 ^ 48)) = false := by
                  have : ¬ ((inf.bytes : Int) * Int.ofNat c > 2 ^ 48) := by
                    have : ((inf.bytes * c : Nat) : Int) ≤ ((65536 * 4194304 : Nat) : Int) := by exact_mod_cast hmul
                    simp only [Int.ofNat_eq_natCast]
                    rw [← Int.natCast_mul]; omega
                  have hx : ¬ ((inf.bytes : Int) * (c : Int) > 2 ^ 48) := this
                  simp only [Int.ofNat_eq_natCast, decide_eq_false hx, Bool.or_false]
                  simp
                have t2 : ¬ (Int.ofNat l < 0) := by simp
                have t3 : ¬ (Int.ofNat l > Int.ofNat c) := by simpa using hq1
                simp only [Instr.makeSlice, asInt, asIntOf, Sem.run_bind, hu, Result.andThen_ok, Sem.run_pure, hinf, w1, w2, t1, t2, t3, Bool.false_eq_true, false_or, or_self, if_false, Sem.run_ite, decide_false, Bool.or_self, run_askRoom, hC.run_size w hj]
                have hcc : (Int.ofNat c).toNat = c := rfl
                have hll : (Int.ofNat l).toNat = l := rfl
                rw [hcc, hll]
                by_cases h0 : c * j.size = 0
                · rw [if_pos h0]
                  simp only [Sem.run_pure, Result.andThen_ok, newRow, Sem.run_bind, run_newObj]
                  have : ((Array.range (c * j.size)).map (fun i => (#[] : Array Value)[i % (#[] : Array Value).size]!)) = ((Array.range (c * j.size)).map (fun i => z.cells[i % z.cells.size]!)) := by rw [h0]; simp
                  rw [this]; rfl
                · rw [if_neg h0]
                  simp only [Sem.run_pure, Sem.run_bind, hC.run_zero w hj hz, Result.andThen_ok, newRow, run_newObj]
                  rfl
              · exact .slc b 0 l c _ h5 (by unfold OPEN; omega)
            · cases h
        · cases h
      · cases h
    · cases h
  · cases h

theorem goes_store (hC : COk C) (hρ : ERho φ ρ ev) (hH : HRel C φ H w) {t : TypeId} {a x : Operand} {v : Value} (h : bStore C ρ H t a x = some (v, H')) :
    Goes C.P ev (.store t a x) w (Post C φ w H' v) := by
  unfold bStore at h
  split at h
  · rename_i d b off u ht ha hx
    have h1 := hρ a _ ha
    have h2 := hρ x _ hx
    cases hc : Nat.beq u.cells.size d.size
    · rw [hc] at h; cases h
    · rw [hc] at h; simp only [cond_true] at h
      split at h
      · rename_i H1 hs
        simp only [Option.some.injEq, Prod.mk.injEq] at h
        obtain ⟨rfl, rfl⟩ := h
        have hsz := Nat.eq_of_beq_eq_true hc
        have hcl := h2.cells
        generalize he : ev a = u' at h1
        cases h1 with
        | ptr _ _ l hl =>
          obtain ⟨w', hrun, hr, hext⟩ := hH.store C.P hl hs hcl
          refine Goes.skip (Instr.storeAt t (ev a) (ev x)) (by rintro ⟨dst, op, type, pos, after, guard⟩ ho; subst ho; rfl) (w' := w') ?_ ⟨φ, hext, hr, .tuple [] [] .nil⟩
          rw [he]
          have hne : ¬ ((ev x).cells.size ≠ d.size) := by
            have := hcl.length
            simp only [Array.length_toList] at this
            omega
          simp only [Instr.storeAt, Instr.sureAddr, pure_bind, storeVar, Sem.run_bind, hC.run_size w ht, Result.andThen_ok, Sem.run_ite, if_neg hne, Sem.run_pure]
          exact hrun
      · cases h
  · cases h
end
end Go.AM
