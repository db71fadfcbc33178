/- AM: the operations that make memory, and that write. -/
import Derived.Test.YtpmolggmafgeeaaGreatDoorAmOps5
namespace Go.AM
open Go
variable [Syms]

/-- what an operation that writes leaves -/
def Post (C : Ctx) (φ : Phi) (w : World) (H' : Heap) (v : Value) (v' : Value) (w' : World) : Prop :=
  ∃ φ', Ext C φ w φ' w' ∧ HRel C φ' H' w' ∧ VRel φ' v v'

/-- an operation goes to its end, with what Q says -/
def Goes (P : Program) (ev : Operand → Value) (op : Op) (w : World) (Q : Value → World → Prop) : Prop :=
  ∀ (o : Oper) (a : Act) (next : Act → World → Prop) (E : Exit → Act → World → Prop), o.op = op → a.eval = ev →
    (∀ v' w', Q v' w' → next (a.put o.dst v') w') → o.wp P a w next E

omit [Syms] in
theorem Goes.of {P : Program} {ev : Operand → Value} {op : Op} {w : World} {Q : Value → World → Prop} (s : Sem Value)
    (he : ∀ o : Oper, o.op = op → execOp ev o = (do pure (.value (← s)))) {v' : Value} {w' : World} (hs : s.run P w = Result.ok v' w') (hq : Q v' w') : Goes P ev op w Q := by
  intro o a next E ho hev hn
  unfold Oper.wp
  rw [hev, he o ho]
  simp only [Sem.run_bind, hs, Result.andThen_ok, Sem.run_pure, Oper.upon_value]
  exact hn _ _ hq

omit [Syms] in
theorem Goes.skip {P : Program} {ev : Operand → Value} {op : Op} {w : World} {Q : Value → World → Prop} (s : Sem Unit)
    (he : ∀ o : Oper, o.op = op → execOp ev o = (do s; pure .skip)) {w' : World} (hs : s.run P w = Result.ok () w') (hq : Q undef w') : Goes P ev op w Q := by
  intro o a next E ho hev hn
  unfold Oper.wp
  rw [hev, he o ho]
  simp only [Sem.run_bind, hs, Result.andThen_ok, Sem.run_pure, Oper.upon_skip]
  exact hn _ _ hq

theorem Yl.goes {P : Program} {ev : Operand → Value} {op : Op} {w : World} {φ : Phi} {v : Value} {C : Ctx} {H : Heap} (h : Yl P ev op w φ v) (hH : HRel C φ H w) :
    Goes P ev op w (Post C φ w H v) := by
  intro o a next E ho hev hn
  obtain ⟨v', w', h1, h2, h3⟩ := h o ho
  unfold Oper.wp
  rw [hev, h1, Oper.upon_value]
  refine hn _ _ ⟨φ, ?_, ?_, h2⟩
  · rcases h3 with rfl | rfl
    · exact Ext.refl _ _ _
    · exact Ext.drew _ _ _
  · rcases h3 with rfl | rfl
    · exact hH
    · exact hH.drew

section
variable {C : Ctx} {φ : Phi} {ρ : Env} {ev : Operand → Value} {H H' : Heap} (w : World)

omit [Syms] in
theorem newP_spec {x : Blk} {v : Value} (h : newP H x = some (v, H')) : ∃ b, H.new x = some (b, H') ∧ v = .pointer (some ⟨b, 0, none⟩) := by
  unfold newP at h
  split at h
  · rename_i b H1 hn
    simp only [Option.some.injEq, Prod.mk.injEq] at h
    obtain ⟨rfl, rfl⟩ := h
    exact ⟨b, hn, rfl⟩
  · cases h

/-- a row of cells, of just so many -/
theorem row_new (hH : HRel C φ H w) {e : TypeId} {vs : List Value} {b : Nat} (hn : H.new (.cells e vs false ⟨0, false⟩) = some (b, H')) {cs : Array Value} (hv : VRels φ vs cs.toList) :
    ∃ φ', φ' b = some ⟨w.heap.size, 0, vs.length⟩ ∧ HRel C φ' H' (w.alloc (.cells cs e)) ∧ Ext C φ w φ' (w.alloc (.cells cs e)) := by
  have hl := hv.length
  obtain ⟨rfl, φ', h1, h2, h3⟩ := hH.alloc hn (.cells cs e) ⟨w.heap.size, 0, vs.length⟩ rfl (fun φ' hle _ => by
    refine .cells e vs false ⟨0, false⟩ cs (0, 0) (by simpa using hl.symm) (by simp) (fun _ => ⟨rfl, rfl⟩) ?_ ⟨fun i _ _ => by simp, fun _ => .inl rfl⟩
    rw [List.drop_zero, hl, List.take_of_length_le (Nat.le_refl _)]
    exact hv.mono hle)
  exact ⟨φ', h1, h2, h3⟩

theorem goes_alloc (hC : COk C) (hH : HRel C φ H w) {t : TypeId} {v : Value} (h : allocB C ρ H (.alloc t) = some (v, H')) : Goes C.P ev (.alloc t) w (Post C φ w H' v) := by
  simp only [allocB] at h
  split at h
  · rename_i i hi
    split at h
    · rename_i z hz
      obtain ⟨b, hn, rfl⟩ := newP_spec h
      obtain ⟨φ', h1, h2, h3⟩ := row_new w hH hn (hC.zero_rel hi hz)
      refine Goes.of (Instr.alloc t true (.tuple #[])) (by rintro ⟨dst, op, type, pos, after, guard⟩ ho; subst ho; rfl) (v' := .pointer (some ⟨w.heap.size, 0, none⟩)) (w' := w.alloc (.cells z.cells t)) ?_ ⟨φ', h3, h2, ?_⟩
      · simp only [Instr.alloc, Sem.run_bind, hC.run_zero w hi hz, Result.andThen_ok, newVar, newRow, run_newObj, Sem.run_pure]; rfl
      · exact .ptr b 0 _ h1
    · cases h
  · cases h

theorem goes_box (hρ : ERho φ ρ ev) (hH : HRel C φ H w) {t : TypeId} {x : Operand} {v : Value} (h : allocB C ρ H (.box t x) = some (v, H')) : Goes C.P ev (.box t x) w (Post C φ w H' v) := by
  simp only [allocB] at h
  split at h
  · rename_i u hu
    obtain ⟨b, hn, rfl⟩ := newP_spec h
    obtain ⟨φ', h1, h2, h3⟩ := row_new w hH hn ((hρ x u hu).cells)
    refine Goes.of (Instr.box t (ev x)) (by rintro ⟨dst, op, type, pos, after, guard⟩ ho; subst ho; rfl) (v' := .pointer (some ⟨w.heap.size, 0, none⟩)) (w' := w.alloc (.cells (ev x).cells t)) ?_ ⟨φ', h3, h2, ?_⟩
    · simp only [Instr.box, newVar, newRow, Sem.run_bind, run_newObj, Result.andThen_ok, Sem.run_pure]; rfl
    · exact .ptr b 0 _ h1
  · cases h

omit [Syms] in
theorem rep_eq {α : Type} [Inhabited α] (n : Nat) (zs : Array α) : ((Array.range (n * zs.size)).map (fun i => zs[i % zs.size]!)).toList = rep n zs.toList := by
  induction n with
  | zero => simp [rep]
  | succ n ih =>
    have hlen : ∀ m, (rep m zs.toList).length = m * zs.size := by
      intro m; induction m with
      | zero => simp [rep]
      | succ m ihm => simp [rep, ihm, Nat.succ_mul]; omega
    apply List.ext_getElem?
    intro i
    simp only [Array.toList_map, Array.toList_range, List.getElem?_map]
    have hr : ∀ m i, (rep m zs.toList)[i]? = if i < m * zs.size then some (zs[i % zs.size]!) else none := by
      intro m
      induction m with
      | zero => intro i; simp [rep]
      | succ m ihm =>
        intro i
        simp only [rep, List.getElem?_append, Array.length_toList]
        by_cases hi : i < zs.size
        · rw [if_pos hi, if_pos (by rw [Nat.succ_mul]; omega), Nat.mod_eq_of_lt hi]
          simp [hi]
        · rw [if_neg hi, ihm]
          have e1 : (i - zs.size) % zs.size = i % zs.size := by
            conv => rhs; rw [show i = (i - zs.size) + zs.size by omega]
            rw [Nat.add_mod_right]
          rw [e1]
          by_cases h2 : i < (m + 1) * zs.size
          · rw [if_pos h2, if_pos (by rw [Nat.succ_mul] at h2; omega)]
          · rw [if_neg h2, if_neg (by rw [Nat.succ_mul] at h2; omega)]
    rw [hr]
    by_cases hi : i < (n + 1) * zs.size
    · rw [if_pos hi]; simp [hi]
    · rw [if_neg hi]; simp [hi]

omit [Syms] in
theorem size_rep {α : Type} (n : Nat) (zs : List α) : (rep n zs).length = n * zs.length := by
  induction n with
  | zero => simp [rep]
  | succ n ih => simp [rep, ih, Nat.succ_mul]; omega

theorem goes_buildSlice (hC : COk C) (hρ : ERho φ ρ ev) (hH : HRel C φ H w) {t : TypeId} {len : Nat} {parts : Array (Nat × Operand)} {v : Value} (h : allocB C ρ H (.buildSlice t len parts) = some (v, H')) :
    Goes C.P ev (.buildSlice t len parts) w (Post C φ w H' v) := by
  simp only [allocB] at h
  split at h
  · rename_i l i hl hi
    obtain ⟨e1, e2⟩ := evP_rel hρ _ _ hl
    have hu := hC.run_und w hi
    split at h
    · rename_i e he
      rw [he] at hu
      split at h
      · rename_i j hj
        split at h
        · rename_i z hz
          cases hc : (Nat.beq j.size 0 || !Nat.ble (len * j.size) 4096 || !Nat.beq z.cells.size j.size)
          · rw [hc] at h; simp only [cond_false] at h
            simp only [Bool.or_eq_false_iff, Bool.not_eq_false'] at hc
            obtain ⟨⟨hc1, hc2⟩, hc3⟩ := hc
            have hzs := Nat.eq_of_beq_eq_true hc3
            have hle := Nat.le_of_ble_eq_true hc2
            split at h
            · rename_i cs hcs
              split at h
              · rename_i b H1 hn
                simp only [Option.some.injEq, Prod.mk.injEq] at h
                obtain ⟨rfl, rfl⟩ := h
                have ep : (parts.map fun (i, x) => (i, ev x)).toList = parts.toList.map fun (i, x) => (i, ev x) := by simp
                obtain ⟨cs', h3, h4⟩ := fill_rel _ l _ _ ((Array.range (len * j.size)).map (fun i => z.cells[i % z.cells.size]!)) cs e1 e2 (by
                  rw [← hzs, rep_eq]; exact (hC.zero_rel hj hz).rep len) hcs
                obtain ⟨φ', h5, h6, h7⟩ := row_new w hH hn h4
                have hb := (hH.alloc hn (.cells cs' e) ⟨w.heap.size, 0, cs.toList.length⟩ rfl (fun φ' hle _ => by
                  refine .cells e _ false ⟨0, false⟩ cs' (0, 0) (by simpa using h4.length.symm) (by simp) (fun _ => ⟨rfl, rfl⟩) ?_ ⟨fun i _ _ => by simp, fun _ => .inl rfl⟩
                  rw [List.drop_zero, h4.length, List.take_of_length_le (Nat.le_refl _)]
                  exact h4.mono hle)).1
                refine Goes.of (Instr.buildSlice t len (parts.map fun (i, x) => (i, ev x))) (by rintro ⟨dst, op, type, pos, after, guard⟩ ho; subst ho; rfl) (v' := .slice (some ⟨w.heap.size, 0, none⟩) len len) (w' := w.alloc (.cells cs' e)) ?_ ⟨φ', h7, h6, ?_⟩
                · have hno : ¬ (len * j.size > 2 ^ 24) := by omega
                  have hfill : Instr.fill (fun i => some (i * j.size, j.size)) ((Array.range (len * j.size)).map (fun i => z.cells[i % z.cells.size]!)) (parts.map fun (i, x) => (i, ev x)).toList = some cs' := by rw [ep]; exact h3
                  simp only [Instr.buildSlice, Sem.run_bind, hu, Result.andThen_ok, hC.run_size w hj, Sem.run_ite, if_neg hno, Sem.run_pure]
                  by_cases h0 : len * j.size = 0
                  · rw [if_pos h0]
                    have hl0 : len = 0 := by
                      rcases Nat.mul_eq_zero.1 h0 with e | e
                      · exact e
                      · rw [e] at hc1; simp at hc1
                    have : ((Array.range (len * j.size)).map (fun i => (#[] : Array Value)[i % (#[] : Array Value).size]!)) = ((Array.range (len * j.size)).map (fun i => z.cells[i % z.cells.size]!)) := by rw [h0]; simp
                    rw [this, hfill]
                    simp only [newRow, Sem.run_bind, run_newObj, Result.andThen_ok, Sem.run_pure]
                    rfl
                  · rw [if_neg h0]
                    simp only [hC.run_zero w hj hz, Result.andThen_ok]
                    rw [hfill]
                    simp only [newRow, Sem.run_bind, run_newObj, Result.andThen_ok, Sem.run_pure]
                    rfl
                · have : len < OPEN := by
                    have : j.size ≠ 0 := by intro e; rw [e] at hc1; simp at hc1
                    have : len ≤ len * j.size := Nat.le_mul_of_pos_right _ (by omega)
                    unfold OPEN; omega
                  exact .slc b 0 len len _ h5 this
              · cases h
            · cases h
          · rw [hc] at h; cases h
        · cases h
      · cases h
    · cases h
  · cases h

theorem goes_makeMap (hH : HRel C φ H w) {t : TypeId} {v : Value} (h : allocB C ρ H (.makeMap t none) = some (v, H')) : Goes C.P ev (.makeMap t none) w (Post C φ w H' v) := by
  simp only [allocB] at h
  split at h
  · rename_i b H1 hn
    simp only [Option.some.injEq, Prod.mk.injEq] at h
    obtain ⟨rfl, rfl⟩ := h
    obtain ⟨rfl, φ', h1, h2, h3⟩ := hH.alloc hn (.map #[] 0) ⟨w.heap.size, 0, 0⟩ rfl (fun φ' _ _ => .map [] [] 0 .nil)
    refine Goes.of (Instr.makeMap t none) (by rintro ⟨dst, op, type, pos, after, guard⟩ ho; subst ho; rfl) (v' := .map (some w.heap.size)) (w' := w.alloc (.map #[] 0)) ?_ ⟨φ', h3, h2, ?_⟩
    · simp only [Instr.makeMap, Sem.run_bind, run_newObj, Result.andThen_ok, Sem.run_pure]; rfl
    · exact .map _ ⟨w.heap.size, 0, 0⟩ h1
  · cases h

theorem goes_makeSlice (hC : COk C) (hρ : ERho φ ρ ev) (hH : HRel C φ H w) {t : TypeId} {lo co : Operand} {v : Value} (h : allocB C ρ H (.makeSlice t lo co) = some (v, H')) :
    Goes C.P ev (.makeSlice t lo co) w (Post C φ w H' v) := by
  simp only [allocB] at h
  split at h
  · rename_i i lv cv hi hl hc
    have hu := hC.run_und w hi
    split at h
    · rename_i e l c he hln hcn
      rw [he] at hu
      obtain ⟨k1, hl'⟩ := natOf_rel hln (hρ _ _ hl)
      obtain ⟨k2, hc'⟩ := natOf_rel hcn (hρ _ _ hc)
      split at h
      · rename_i j hj
        split at h
        · rename_i z hz
          cases hq : (Nat.ble l c && Nat.ble c LIMIT && Nat.ble j.bytes 65536 && !Nat.beq j.size 0 && Nat.beq z.cells.size j.size)
          · rw [hq] at h; cases h
          · rw [hq] at h; simp only [cond_true] at h
            simp only [Bool.and_eq_true, Bool.not_eq_true'] at hq
            obtain ⟨⟨⟨⟨hq1, hq2⟩, hq3⟩, hq4⟩, hq5⟩ := hq
            have hq1 := Nat.le_of_ble_eq_true hq1
            have hq2 := Nat.le_of_ble_eq_true hq2
            have hq3 := Nat.le_of_ble_eq_true hq3
            have hzs := Nat.eq_of_beq_eq_true hq5
            have hj0 : j.size ≠ 0 := by intro e; rw [e] at hq4; simp at hq4
            split at h
            · rename_i b H1 hn
              simp only [Option.some.injEq, Prod.mk.injEq] at h
              obtain ⟨rfl, rfl⟩ := h
              have hrel : VRels φ (rep c z.cells.toList) ((Array.range (c * j.size)).map (fun i => z.cells[i % z.cells.size]!)).toList := by
                rw [← hzs, rep_eq]; exact (hC.zero_rel hj hz).rep c
              obtain ⟨φ', h5, h6, h7⟩ := row_new w hH hn hrel
              obtain ⟨inf, hinf, _, _, hby, _⟩ := hC.run_info w hj
              have hL : LIMIT = 4194304 := by decide
              refine Goes.of (Instr.makeSlice t (ev lo) (ev co)) (by rintro ⟨dst, op, type, pos, after, guard⟩ ho; subst ho; rfl) (v' := .slice (some ⟨w.heap.size, 0, none⟩) l c)
                (w' := w.alloc (.cells ((Array.range (c * j.size)).map (fun i => z.cells[i % z.cells.size]!)) e)) ?_ ⟨φ', h7, h6, ?_⟩
              · rw [hl', hc']
                have w1 : IntKind.i64.wrap (Int.ofNat l) = Int.ofNat l := i64_in _ (by simp only [Int.ofNat_eq_natCast]; omega) (by simp only [Int.ofNat_eq_natCast]; omega)
                have w2 : IntKind.i64.wrap (Int.ofNat c) = Int.ofNat c := i64_in _ (by simp only [Int.ofNat_eq_natCast]; omega) (by simp only [Int.ofNat_eq_natCast]; omega)
                have hmul : inf.bytes * c ≤ 65536 * 4194304 := Nat.mul_le_mul (by omega) (by omega)
                have t1 : (decide (Int.ofNat c < 0) || decide ((inf.bytes : Int) * Int.ofNat c > 2 ^ 48)) = false := by
                  have : ¬ ((inf.bytes : Int) * Int.ofNat c > 2 ^ 48) := by
                    have : ((inf.bytes * c : Nat) : Int) ≤ ((65536 * 4194304 : Nat) : Int) := by exact_mod_cast hmul
                    simp only [Int.ofNat_eq_natCast]
                    rw [← Int.natCast_mul]; omega
                  have hx : ¬ ((inf.bytes : Int) * (c : Int) > 2 ^ 48) := this
                  simp only [Int.ofNat_eq_natCast, decide_eq_false hx, Bool.or_false]
                  simp
                have t2 : ¬ (Int.ofNat l < 0) := by simp
                have t3 : ¬ (Int.ofNat l > Int.ofNat c) := by simpa using hq1
                simp only [Instr.makeSlice, asInt, asIntOf, Sem.run_bind, hu, Result.andThen_ok, Sem.run_pure, hinf, w1, w2, t1, t2, t3, Bool.false_eq_true, if_false, Sem.run_ite, decide_false, Bool.or_self, run_askRoom, hC.run_size w hj]
                have hcc : (Int.ofNat c).toNat = c := rfl
                have hll : (Int.ofNat l).toNat = l := rfl
                rw [hcc, hll]
                by_cases h0 : c * j.size = 0
                · rw [if_pos h0]
                  simp only [Sem.run_pure, Result.andThen_ok, newRow, Sem.run_bind, run_newObj]
                  have : ((Array.range (c * j.size)).map (fun i => (#[] : Array Value)[i % (#[] : Array Value).size]!)) = ((Array.range (c * j.size)).map (fun i => z.cells[i % z.cells.size]!)) := by rw [h0]; simp
                  rw [this]; rfl
                · rw [if_neg h0]
                  simp only [Sem.run_pure, Sem.run_bind, hC.run_zero w hj hz, Result.andThen_ok, newRow, run_newObj]
                  rfl
              · exact .slc b 0 l c _ h5 (by unfold OPEN; omega)
            · cases h
        · cases h
      · cases h
    · cases h
  · cases h

theorem goes_store (hC : COk C) (hρ : ERho φ ρ ev) (hH : HRel C φ H w) {t : TypeId} {a x : Operand} {v : Value} (h : bStore C ρ H t a x = some (v, H')) :
    Goes C.P ev (.store t a x) w (Post C φ w H' v) := by
  unfold bStore at h
  split at h
  · rename_i d b off u ht ha hx
    have h1 := hρ a _ ha
    have h2 := hρ x _ hx
    cases hc : Nat.beq u.cells.size d.size
    · rw [hc] at h; cases h
    · rw [hc] at h; simp only [cond_true] at h
      split at h
      · rename_i H1 hs
        simp only [Option.some.injEq, Prod.mk.injEq] at h
        obtain ⟨rfl, rfl⟩ := h
        have hsz := Nat.eq_of_beq_eq_true hc
        have hcl := h2.cells
        generalize he : ev a = u' at h1
        cases h1 with
        | ptr _ _ l hl =>
          obtain ⟨w', hrun, hr, hext⟩ := hH.store C.P hl hs hcl
          refine Goes.skip (Instr.storeAt t (ev a) (ev x)) (by rintro ⟨dst, op, type, pos, after, guard⟩ ho; subst ho; rfl) (w' := w') ?_ ⟨φ, hext, hr, .tuple [] [] .nil⟩
          rw [he]
          have hne : ¬ ((ev x).cells.size ≠ d.size) := by
            have := hcl.length
            simp only [Array.length_toList] at this
            omega
          simp only [Instr.storeAt, Instr.sureAddr, pure_bind, storeVar, Sem.run_bind, hC.run_size w ht, Result.andThen_ok, Sem.run_ite, if_neg hne]
          exact hrun
      · cases h
  · cases h
end
end Go.AM
namespace Go.AM
open Go
variable [Syms]

omit [Syms] in
theorem growBy_le (m : Nat) : ∀ (r c : Nat), c ≤ 2 * m + 192 → Builtin.growBy m r c ≤ 2 * m + 192
  | 0, c, h => h
  | r + 1, c, h => by
    unfold Builtin.growBy
    split
    · exact h
    · exact growBy_le m r _ (by omega)

omit [Syms] in
theorem nextcap_le (need cap : Nat) (h : cap < need) : Builtin.nextslicecap need cap ≤ 2 * need + 192 := by
  unfold Builtin.nextslicecap
  split
  · omega
  · split
    · omega
    · exact growBy_le _ _ _ (by omega)

theorem VRel.open_ge {φ : Phi} {b off n c : Nat} {v' : Value} (h : VRel φ (.slice (some ⟨b, off, none⟩) n c) v') (hc : OPEN ≤ c) :
    ∃ sz l c', c = OPEN + sz ∧ φ b = some l ∧ n ≤ c' ∧ l.d + off + c' * sz = l.n ∧ v' = .slice (some ⟨l.c, l.d + off, none⟩) n c' := by
  cases h with
  | slc _ _ _ _ l hl hlt => omega
  | opn _ _ _ c' sz l hl hn hcc => exact ⟨sz, l, c', rfl, hl, hn, hcc, rfl⟩

theorem VRel.exact_lt {φ : Phi} {b off n c : Nat} {v' : Value} (h : VRel φ (.slice (some ⟨b, off, none⟩) n c) v') (hc : ¬ OPEN ≤ c) :
    ∃ l, φ b = some l ∧ v' = .slice (some ⟨l.c, l.d + off, none⟩) n c := by
  cases h with
  | slc _ _ _ _ l hl hlt => exact ⟨l, hl, rfl⟩
  | opn _ _ _ c' sz l hl hn hcc => omega

section
variable {C : Ctx} {φ : Phi} {ρ : Env} {ev : Operand → Value} {H H' : Heap} (w : World)

/-- a row of cells with room behind it -/
theorem row_open (hH : HRel C φ H w) {e : TypeId} {vs : List Value} {b : Nat} {z0 : Fz} (hn : H.new (.cells e vs true z0) = some (b, H')) {cs : Array Value} (hlen : vs.length ≤ cs.size) (hv : VRels φ vs (cs.toList.take vs.length)) :
    ∃ φ', φ' b = some ⟨w.heap.size, 0, cs.size⟩ ∧ HRel C φ' H' (w.alloc (.cells cs e)) ∧ Ext C φ w φ' (w.alloc (.cells cs e)) := by
  obtain ⟨rfl, φ', h1, h2, h3⟩ := hH.alloc hn (.cells cs e) ⟨w.heap.size, 0, cs.size⟩ rfl (fun φ' hle _ => by
    refine .cells e vs true z0 cs (0, 0) rfl (by simpa using hlen) (fun h => by cases h) ?_ ⟨fun i _ _ => by simp, fun _ => .inl rfl⟩
    rw [List.drop_zero]; exact hv.mono hle)
  exact ⟨φ', h1, h2, h3⟩

theorem src_run (hH : HRel C φ H w) {P : Program} {size n : Nat} {x x' : Value} {new : List Value} (h : srcCells H size n x = some new) (hx : VRel φ x x') :
    ∃ new', (Builtin.firstCells size n x').run P w = Result.ok new' w ∧ VRels φ new new'.toList := by
  unfold srcCells at h
  split at h
  · cases hx
    simp only [Option.some.injEq] at h; subst h
    exact ⟨#[], rfl, .nil⟩
  · rename_i b off n1 c1
    cases hx with
    | slc _ _ _ _ l hl =>
      obtain ⟨vs', h1, h2⟩ := hH.run_cells P hl h
      exact ⟨vs', h2, h1⟩
    | opn _ _ _ _ _ l hl =>
      obtain ⟨vs', h1, h2⟩ := hH.run_cells P hl h
      exact ⟨vs', h2, h1⟩
  · cases hn : n.beq 0
    · rw [hn] at h; cases h
    · rw [hn] at h; simp only [cond_true, Option.some.injEq] at h; subst h
      obtain rfl := Nat.eq_of_beq_eq_true hn
      cases hx with
      | emp a c =>
        refine ⟨#[], ?_, .nil⟩
        rw [show Builtin.firstCells size 0 (.slice (some a) 0 c) = loadCells a (0 * size) from rfl, Nat.zero_mul]; rfl
  · rename_i s
    cases hx
    simp only [Option.some.injEq] at h; subst h
    refine ⟨_, rfl, ?_⟩
    have e : (((s.extract 0 n).data.map fun b => Value.int .u8 b.toNat) : Array Value).toList = (s.data.toList.take n).map fun b => Value.int .u8 b.toNat := by
      simp [ByteArray.data_extract, Array.toList_extract, List.extract_eq_take_drop]
    rw [e]
    generalize s.data.toList.take n = l
    induction l with
    | nil => exact .nil
    | cons a l ih => exact .cons _ _ _ _ (.int _ _) ih
  · cases h

theorem srcLen_run {P : Program} {n : Nat} {x x' : Value} (h : srcLen x = some n) (hx : VRel φ x x') : (Builtin.lenOf x').run P w = Result.ok n w := by
  unfold srcLen at h
  split at h
  · simp only [Option.some.injEq] at h; subst h
    cases hx <;> rfl
  · simp only [Option.some.injEq] at h; subst h
    cases hx; rfl
  · cases h

/-- append, where there is room -/
theorem run_append_in (hC : COk C) {st xt e : TypeId} {si xi ei : TI} (hs : C.tyOf st = some si) (hx : C.tyOf xt = some xi) (hse : si.u = .slice e) (hxi : ∀ k, xi.u ≠ .int k) (he : C.tyOf e = some ei)
    {base : Option Addr} {len cap n : Nat} {x' : Value} {new' : Array Value} (hl : (Builtin.lenOf x').run C.P w = Result.ok n w) (hn : (Builtin.firstCells ei.size n x').run C.P w = Result.ok new' w) (hroom : len + n ≤ cap) {w' : World}
    (hst : ((match base with | some a => storeCells (a.add (len * ei.size)) new'.toList | none => pure ()) : Sem Unit).run C.P w = Result.ok () w') (ty : TypeId) :
    (Builtin.append_ #[st, xt] ty #[.slice base len cap, x']).run C.P w = Result.ok (.slice base (len + n) cap) w' := by
  have hus := hC.run_und w hs
  have hux := hC.run_und w hx
  rw [hse] at hus
  simp only [Builtin.append_, List.getElem?_toArray, List.getElem?_cons_zero, List.getElem?_cons_succ, Sem.run_bind, hus, hux, Result.andThen_ok, hC.run_size w he, Sem.run_pure, Bool.false_eq_true, if_false, hl, if_pos hroom, hn,
    Bool.not_false, if_true]
  cases base with
  | none =>
    simp only [Sem.run_pure] at hst ⊢
    cases hst; rfl
  | some a =>
    simp only [Sem.run_bind] at hst ⊢
    rw [hst]; rfl

/-- append, where there is none -/
theorem run_append_out (hC : COk C) {st xt e : TypeId} {si xi ei : TI} (hs : C.tyOf st = some si) (hx : C.tyOf xt = some xi) (hse : si.u = .slice e) (hxi : ∀ k, xi.u ≠ .int k) (he : C.tyOf e = some ei)
    {z : Value} (hzz : ei.zero = some z) (hby : ei.bytes ≤ 65536)
    {base : Option Addr} {len cap n : Nat} {x' : Value} {new' old' : Array Value} (hl : (Builtin.lenOf x').run C.P w = Result.ok n w)
    (hn' : (Builtin.firstCells ei.size n x').run C.P w.drew = Result.ok new' w.drew) (ho : (Builtin.firstCells ei.size len (.slice base len cap)).run C.P w.drew = Result.ok old' w.drew)
    (hroom : ¬ len + n ≤ cap) (hsmall : len + n ≤ LIMIT) (ty : TypeId) :
    ∃ newCap, len + n ≤ newCap ∧ (Builtin.append_ #[st, xt] ty #[.slice base len cap, x']).run C.P w =
      Result.ok (.slice (some ⟨w.heap.size, 0, none⟩) (len + n) newCap) (w.drew.alloc (.cells (old' ++ new' ++ Builtin.zeroCells z.cells (newCap - (len + n))) e)) := by
  have hus := hC.run_und w hs
  have hux := hC.run_und w hx
  rw [hse] at hus
  obtain ⟨inf, hinf, _, _, hbi, _⟩ := hC.run_info w he
  obtain ⟨inf2, hinf2, _⟩ := hC.run_info w.drew he
  have hL : LIMIT = 4194304 := by decide
  have h1 : ¬ (((len + n : Nat) : Int) > IntKind.i64.max ∧ inf.bytes = 0) := by
    rw [IntKind.max_i64]; omega
  have h2 : ¬ (Builtin.nextslicecap (len + n) cap * inf.bytes > 2 ^ 48) := by
    have := nextcap_le (len + n) cap (by omega)
    have : Builtin.nextslicecap (len + n) cap * inf.bytes ≤ (2 * 4194304 + 192) * 65536 := Nat.mul_le_mul (by omega) (by omega)
    omega
  refine ⟨(Question.appendCap (len + n) cap e).cut (w.tape w.drawn (.appendCap (len + n) cap e)), Nat.le_add_right _ _, ?_⟩
  have hf : (Question.appendCap (len + n) cap e).forced = false := rfl
  simp only [Builtin.append_, List.getElem?_toArray, List.getElem?_cons_zero, List.getElem?_cons_succ, Sem.run_bind, hus, hux, Result.andThen_ok, hC.run_size w he, Sem.run_pure, Bool.false_eq_true, if_false, hl, if_neg hroom,
    Bool.not_false, if_true, hinf, false_or]
  rw [if_neg h1]
  simp only [Sem.run_bind, hinf, Result.andThen_ok]
  rw [if_neg h2]
  simp only [Sem.run_bind, run_choose, hf, Bool.false_eq_true, if_false, Result.andThen_ok, World.drew_eq, hinf2, run_askRoom, ho, hn', hC.run_zero w.drew he hzz, newRow, run_newObj, Sem.run_pure]
  rfl

omit [Syms] in
theorem rep_rel_size (z : Array Value) (n : Nat) : (Builtin.zeroCells z n).size = n * z.size := by simp [Builtin.zeroCells]

omit [Syms] in
theorem run_builtin {ev : Operand → Value} {c : Call} {b : Builtin} (hc : c.callee = .builtin b) {P : Program} {w : World} {Q : Value → World → Prop} (s : TypeId → Sem Value)
    (hb : ∀ ty cs, builtin b c.argTypes ty cs (c.args.map ev) = (do pure (.value (← s ty)))) (h : ∀ ty, ∃ v' w', (s ty).run P w = Result.ok v' w' ∧ Q v' w') : Goes P ev (.call c) w Q := by
  intro o a next E ho hev hn
  obtain ⟨v', w', h1, h2⟩ := h o.type
  unfold Oper.wp
  have : execOp ev o = (do pure (.value (← s o.type))) := by
    obtain ⟨dst, op, type, pos, after, guard⟩ := o
    subst ho
    simp only [execOp, resolve, hc, pure_bind, invoke]
    exact hb _ _
  rw [hev, this]
  simp only [Sem.run_bind, h1, Result.andThen_ok, Sem.run_pure, Oper.upon_value]
  exact hn _ _ h2

/-- a block that is let go -/
theorem HRel.kill (hH : HRel C φ H w) {b : Nat} {l : Loc} (hl : φ b = some l) (hb : C.base ≤ b) {x : Blk} (hx : H.blk b = some x) (hlive : x.live = true) : HRel C φ (H.set b .dead) w :=
  (hH.turn hl hb hx hlive (w' := w) (.dead _) rfl (fun _ _ => rfl) rfl rfl rfl).1

omit [Syms] in
theorem isIntT_spec {u : TypeDesc} (h : isIntT u = false) : ∀ k, u ≠ .int k := by intro k e; subst e; cases h

omit [Syms] in
theorem zeroOk_spec {ei : TI} (h : zeroOk ei = true) : ∃ z, ei.zero = some z ∧ z.cells.size = ei.size := by
  unfold zeroOk at h
  split at h
  · rename_i z hz; exact ⟨z, hz, Nat.eq_of_beq_eq_true h⟩
  · cases h

omit [Syms] in
theorem not_ble {a b : Nat} (h : Nat.ble a b = false) : ¬ a ≤ b := fun e => by rw [Nat.ble_eq_true_of_le e] at h; cases h
omit [Syms] in
theorem not_beq {a b : Nat} (h : Nat.beq a b = false) : a ≠ b := fun e => by subst e; simp at h

/-- what append needs to know of its operands -/
structure AppArgs (C : Ctx) (φ : Phi) (w : World) (st xt e : TypeId) (ei : TI) (z : Value) (n : Nat) (x' : Value) (new : List Value) : Prop where
  inn : ∀ {base : Option Addr} {len cap : Nat} {new' : Array Value}, (Builtin.firstCells ei.size n x').run C.P w = Result.ok new' w → len + n ≤ cap → ∀ {w' : World},
    ((match base with | some a => storeCells (a.add (len * ei.size)) new'.toList | none => pure ()) : Sem Unit).run C.P w = Result.ok () w' → ∀ ty,
    (Builtin.append_ #[st, xt] ty #[.slice base len cap, x']).run C.P w = Result.ok (.slice base (len + n) cap) w'
  out : ∀ {base : Option Addr} {len cap : Nat} {new' old' : Array Value}, (Builtin.firstCells ei.size n x').run C.P w.drew = Result.ok new' w.drew →
    (Builtin.firstCells ei.size len (.slice base len cap)).run C.P w.drew = Result.ok old' w.drew → ¬ len + n ≤ cap → len + n ≤ LIMIT → ∀ ty,
    ∃ newCap, len + n ≤ newCap ∧ (Builtin.append_ #[st, xt] ty #[.slice base len cap, x']).run C.P w =
      Result.ok (.slice (some ⟨w.heap.size, 0, none⟩) (len + n) newCap) (w.drew.alloc (.cells (old' ++ new' ++ Builtin.zeroCells z.cells (newCap - (len + n))) e))
  src : ∃ new', (Builtin.firstCells ei.size n x').run C.P w = Result.ok new' w ∧ VRels φ new new'.toList
  src2 : ∃ new', (Builtin.firstCells ei.size n x').run C.P w.drew = Result.ok new' w.drew ∧ VRels φ new new'.toList
  len : new.length = n * ei.size
  zs : z.cells.size = ei.size
  pos : ei.size ≠ 0

theorem app_fresh {st xt e : TypeId} {ei : TI} {z x' : Value} {n : Nat} {new : List Value} (A : AppArgs C φ w st xt e ei z n x' new)
    {base' : Option Addr} {len cap' : Nat} {old : List Value} {old' : Array Value} {H1 H2 : Heap} {b1 : Nat} (hH1 : HRel C φ H1 w)
    (hold : (Builtin.firstCells ei.size len (.slice base' len cap')).run C.P w.drew = Result.ok old' w.drew) (hor : VRels φ old old'.toList) (hol : old.length = len * ei.size)
    {z0 : Fz} (hnw : H1.new (.cells e (old ++ new) true z0) = some (b1, H2)) (hno : ¬ len + n ≤ cap') (hlim : len + n ≤ LIMIT) (ty : TypeId) :
    ∃ v' w', (Builtin.append_ #[st, xt] ty #[.slice base' len cap', x']).run C.P w = Result.ok v' w' ∧ Post C φ w H2 (.slice (some ⟨b1, 0, none⟩) (len + n) (OPEN + ei.size)) v' w' := by
  obtain ⟨new2, hf2, hnr2⟩ := A.src2
  obtain ⟨nc, hnc, hrun⟩ := A.out hf2 hold hno hlim ty
  have hl1 : old.length = old'.size := by simpa using hor.length
  have hl2 : new.length = new2.size := by simpa using hnr2.length
  have hsize : (old' ++ new2 ++ Builtin.zeroCells z.cells (nc - (len + n))).size = nc * ei.size := by
    rw [Array.size_append, Array.size_append, rep_rel_size, ← hl1, ← hl2, hol, A.len, A.zs, ← Nat.add_mul, ← Nat.add_mul]
    congr 1; omega
  obtain ⟨φ', h1, h2, h3⟩ := row_open w.drew hH1.drew hnw (cs := old' ++ new2 ++ Builtin.zeroCells z.cells (nc - (len + n)))
    (by rw [hsize, List.length_append, hol, A.len, ← Nat.add_mul]; exact Nat.mul_le_mul_right _ hnc) (by
      have e1 : (old' ++ new2 ++ Builtin.zeroCells z.cells (nc - (len + n))).toList = (old'.toList ++ new2.toList) ++ (Builtin.zeroCells z.cells (nc - (len + n))).toList := by simp
      have e2 : (old ++ new).length = (old'.toList ++ new2.toList).length := by simp [hl1, hl2]
      rw [e1, e2, List.take_left']
      · exact hor.append hnr2
      · rfl)
  refine ⟨_, _, hrun, φ', (Ext.drew C φ w).trans h3, h2, ?_⟩
  have := VRel.opn (φ := φ') b1 0 (len + n) nc ei.size _ h1 hnc (by simp only [Nat.zero_add]; exact hsize.symm)
  simpa using this

omit [Syms] in
theorem takeN_all {α : Type} : ∀ (n : Nat) (l : List α), l.length = n → takeN n l = some l
  | 0, [], _ => rfl
  | 0, _ :: _, h => by simp at h
  | n + 1, [], h => by simp at h
  | n + 1, x :: l, h => by
    show consO x (takeN n l) = _
    rw [takeN_all n l (by simpa using h)]; rfl

/-- behind the last cell that is known there is room: the cells are stored there; the machine has a new block for the old one -/
theorem frontier (hH : HRel C φ H w) (P : Program) {b off k : Nat} {l : Loc} (hl : φ b = some l) (hbase : C.base ≤ b) {e : TypeId} {vs : List Value} {z0 : Fz} (hb : H.blk b = some (.cells e vs true z0))
    (hk : off + k = vs.length) (hz : z0.z ≤ off + k) {ys ys' : List Value} (hone : oneCells ys = true) (hy : VRels φ ys ys') (hroom : l.d + off + k + ys.length ≤ l.n)
    {b1 : Nat} {H1 : Heap} (hnw : (H.set b .dead).new (.cells e (vs.drop off ++ ys) true ⟨z0.z - off, z0.s⟩) = some (b1, H1)) :
    ∃ w' φ', (storeCells ⟨l.c, l.d + (off + k), none⟩ ys' 0).run P w = Result.ok () w' ∧ φ' b1 = some ⟨l.c, l.d + off, l.n⟩ ∧ HRel C φ' H1 w' ∧ Ext C φ w φ' w' := by
  obtain ⟨cs, fr, hcs, hcn, hdl, _, hvr, hzf⟩ := hH.row hl hb
  have hyl := hy.length
  obtain ⟨w', cs', hrun, hh, hcs', ho, hws, a1, a2, a3⟩ := run_storeCells P l.c e fr (l.d + (off + k)) ys' 0 w cs hcs
    (oneCells_rel hy (oneCells_spec hone)) (by omega) (fun j hj1 hj2 => hzf.1 j (by omega) (by omega))
  obtain ⟨hkill, hext⟩ := hH.turn hl hbase hb rfl (y := .dead) (w' := w') (.dead _) hws ho a1 a2 a3
  obtain ⟨rfl, hn1, hlim, hfull, hblk⟩ := Heap.new_spec hkill.full hnw
  have hdead : (H.set b .dead).blk b = some .dead := by rw [Heap.blk_set _ _ _ (by rw [hb]; rfl), if_pos rfl]
  have hbn : b < (H.set b .dead).n := (hkill.dom b l hl).1
  have hle : Le φ (fun i => if i = (H.set b .dead).n then some ⟨l.c, l.d + off, l.n⟩ else φ i) := by
    intro i m hm
    have := (hkill.dom i m hm).1
    show (if i = (H.set b .dead).n then _ else φ i) = _
    rw [if_neg (by omega)]; exact hm
  refine ⟨w', fun i => if i = (H.set b .dead).n then some ⟨l.c, l.d + off, l.n⟩ else φ i, hrun, by simp, ?_, ?_⟩
  · refine ⟨hfull, by omega, ?_, by have := hkill.low; omega, ?_, ?_, ?_⟩
    · intro g hg
      obtain ⟨m, hm, h2⟩ := hkill.base g hg
      exact ⟨m, hle _ _ hm, h2⟩
    · intro i m hm
      split at hm
      · cases hm; subst_vars
        have h5 := hkill.dom b l hl
        exact ⟨by omega, h5.2.1, fun _ => h5.2.2 hbase⟩
      · have := hkill.dom i m hm
        exact ⟨by omega, this.2⟩
    · intro i m y hm hy'
      rw [hblk] at hy'
      by_cases hi : i = (H.set b .dead).n
      · rw [if_pos hi] at hm hy'; cases hm; cases hy'
        rw [hh]
        have hcl : cs'.toList.length = cs.toList.length := by rw [hcs', setAt_length]
        refine .cells e _ true _ cs' fr (by simpa [hcn] using hcl) (by show l.d + off + _ ≤ l.n; rw [List.length_append, List.length_drop]; omega) (fun h => by cases h) ?_ ⟨fun j hj1 hj2 => hzf.1 j (by have hj3 : l.d + off + (z0.z - off) ≤ j := hj1; omega) hj2, fun hs => (hzf.2 hs).imp id fun h => (by show fr.2 ≤ l.d + off + (z0.z - off); omega)⟩
        have e1 : (cs'.toList.drop (l.d + off)).take (vs.drop off ++ ys).length = ((cs.toList.drop l.d).take vs.length).drop off ++ ys' := by
          apply List.ext_getElem?
          intro j
          rw [List.getElem?_take, List.getElem?_drop, hcs', setAt_get _ _ _ _ (by simp; omega), List.length_append, List.length_drop]
          rw [List.getElem?_append]
          have e2 : (((cs.toList.drop l.d).take vs.length).drop off).length = k := by simp; omega
          rw [e2]
          by_cases hj : j < k
          · rw [if_pos (by omega), if_neg (by omega), if_pos hj, List.getElem?_drop, List.getElem?_take, if_pos (by omega), List.getElem?_drop]
            congr 1; omega
          · rw [if_neg hj]
            by_cases hj2 : j < k + ys.length
            · rw [if_pos (by omega), if_pos (by omega)]; congr 1; omega
            · rw [if_neg (by omega), List.getElem?_eq_none (by omega)]
        rw [e1]
        exact ((hvr.drop off).append hy).mono hle
      · rw [if_neg hi] at hm hy'
        exact (hkill.blk i m y hm hy').mono hle
    · intro i j m m' y y' hm hm' hij hy1 hy2 hl1 hl2
      rw [hblk] at hy1 hy2
      by_cases hi : i = (H.set b .dead).n
      · have hj : j ≠ (H.set b .dead).n := by omega
        rw [if_pos hi] at hm; cases hm
        rw [if_neg hj] at hm' hy2
        have hjb : j ≠ b := by rintro rfl; rw [hdead] at hy2; cases hy2; cases hl2
        rw [Heap.blk_set _ _ _ (by rw [hb]; rfl), if_neg hjb] at hy2
        exact hH.sep b j l m' _ y' hl hm' (fun e => hjb e.symm) hb hy2 rfl hl2
      · rw [if_neg hi] at hm hy1
        have hib : i ≠ b := by rintro rfl; rw [hdead] at hy1; cases hy1; cases hl1
        rw [Heap.blk_set _ _ _ (by rw [hb]; rfl), if_neg hib] at hy1
        by_cases hj : j = (H.set b .dead).n
        · rw [if_pos hj] at hm'; cases hm'
          exact hH.sep i b m l y _ hm hl hib hy1 hb hl1 rfl
        · rw [if_neg hj] at hm' hy2
          have hjb : j ≠ b := by rintro rfl; rw [hdead] at hy2; cases hy2; cases hl2
          rw [Heap.blk_set _ _ _ (by rw [hb]; rfl), if_neg hjb] at hy2
          exact hH.sep i j m m' y y' hm hm' hij hy1 hy2 hl1 hl2
  · refine ⟨hle, hext.fr, ?_⟩
    intro i m hm
    split at hm
    · cases hm; subst_vars
      exact .inr ⟨hkill.low, .inr ⟨b, l, hbase, hl, rfl⟩⟩
    · exact .inl hm

omit [Syms] in
theorem isIntT_true {u : TypeDesc} (h : isIntT u = true) : ∃ k, u = .int k := by
  unfold isIntT at h
  split at h
  · exact ⟨_, rfl⟩
  · cases h

theorem appendZ_goes (hC : COk C) (hH : HRel C φ H w) {st xt : TypeId} {si xi : TI} (hst : C.tyOf st = some si) (hxt : C.tyOf xt = some xi) (hxi : isIntT xi.u = true) {s x s' x' v : Value}
    (h : appendZ C H si s x = some (v, H')) (hs : VRel φ s s') (hx : VRel φ x x') (ty : TypeId) :
    ∃ v' w', (Builtin.append_ #[st, xt] ty #[s', x']).run C.P w = Result.ok v' w' ∧ Post C φ w H' v v' w' := by
  unfold appendZ at h
  split at h
  · rename_i e _ _ n hse hn
    split at h
    · rename_i ei hei
      split at h
      · rename_i z hz
        cases hq : (!Nat.beq n 0 && !Nat.beq ei.size 0 && Nat.ble n LIMIT && Nat.ble ei.bytes 65536 && Nat.beq z.cells.size ei.size)
        · rw [hq] at h; cases h
        · rw [hq] at h; simp only [cond_true] at h
          simp only [Bool.and_eq_true, Bool.not_eq_true'] at hq
          obtain ⟨⟨⟨⟨hq1, hq2⟩, hq3⟩, hq4⟩, hq5⟩ := hq
          have hq3 := Nat.le_of_ble_eq_true hq3
          have hq4 := Nat.le_of_ble_eq_true hq4
          have hzs := Nat.eq_of_beq_eq_true hq5
          have hn0 : n ≠ 0 := not_beq hq1
          have hs0 : ei.size ≠ 0 := not_beq hq2
          split at h
          · rename_i b H1 hnw
            simp only [Option.some.injEq, Prod.mk.injEq] at h
            obtain ⟨rfl, rfl⟩ := h
            cases hs
            obtain ⟨k, rfl⟩ := natOf_rel hn hx
            obtain ⟨kx, hkx⟩ := isIntT_true hxi
            have hL : LIMIT = 4194304 := by decide
            have hus := hC.run_und w hst
            have hux := hC.run_und w hxt
            rw [hse] at hus
            rw [hkx] at hux
            obtain ⟨inf, hinf, _, _, hby, _⟩ := hC.run_info w hei
            obtain ⟨inf2, hinf2, _⟩ := hC.run_info w.drew hei
            have w1 : IntKind.i64.wrap (Int.ofNat n) = Int.ofNat n := i64_in _ (by simp only [Int.ofNat_eq_natCast]; omega) (by simp only [Int.ofNat_eq_natCast]; omega)
            have hmul : n * inf.bytes ≤ 4194304 * 65536 := Nat.mul_le_mul (by omega) (by omega)
            have t1 : ¬ ((Int.ofNat n) * (inf.bytes : Int) > 2 ^ 48) := by
              simp only [Int.ofNat_eq_natCast]
              rw [← Int.natCast_mul]; omega
            have t0 : ¬ (Int.ofNat n < 0) := by simp
            have h1 : ¬ (((0 + n : Nat) : Int) > IntKind.i64.max ∧ (True ∨ inf.bytes = 0)) := by
              rw [IntKind.max_i64]; omega
            have h2 : ¬ (Builtin.nextslicecap (0 + n) 0 * inf.bytes > 2 ^ 48) := by
              have := nextcap_le (0 + n) 0 (by omega)
              have : Builtin.nextslicecap (0 + n) 0 * inf.bytes ≤ (2 * 4194304 + 192) * 65536 := Nat.mul_le_mul (by omega) (by omega)
              omega
            have hnz : ¬ n * ei.size = 0 := by
              intro e
              rcases Nat.mul_eq_zero.1 e with e | e <;> omega
            have hno : ¬ (0 + n ≤ 0) := by omega
            have hrun : ∃ newCap, n ≤ newCap ∧ (Builtin.append_ #[st, xt] ty #[.slice none 0 0, .int k (Int.ofNat n)]).run C.P w =
                Result.ok (.slice (some ⟨w.heap.size, 0, none⟩) n newCap) (w.drew.alloc (.cells (#[] ++ Builtin.zeroCells z.cells n ++ Builtin.zeroCells z.cells (newCap - n)) e)) := by
              refine ⟨(Question.appendCap (0 + n) 0 e).cut (w.tape w.drawn (.appendCap (0 + n) 0 e)), Nat.le_trans (by omega : n ≤ 0 + n) (Nat.le_add_right _ _), ?_⟩
              have hf : (Question.appendCap (0 + n) 0 e).forced = false := rfl
              have hnn : (Int.ofNat n).toNat = n := rfl
              simp only [Builtin.append_, List.getElem?_toArray, List.getElem?_cons_zero, List.getElem?_cons_succ, Sem.run_bind, hus, hux, Result.andThen_ok, hC.run_size w hei, Sem.run_pure, if_true, asInt]
              simp only [asIntOf, Sem.run_pure, Result.andThen_ok, w1, if_neg t0, Sem.run_bind, hinf, if_neg t1, hnn, if_neg hno, if_neg h1]
              rw [if_neg h2]
              simp only [Sem.run_bind, run_choose, hf, Bool.false_eq_true, if_false, Result.andThen_ok, World.drew_eq, hinf2, run_askRoom, Builtin.firstCells, Sem.run_pure, Bool.not_true, if_neg hnz, hC.run_zero w.drew hei hz, newRow, run_newObj]
              rw [Nat.zero_add]
              rfl
            obtain ⟨nc, hnc, hr⟩ := hrun
            have hzc : (Builtin.zeroCells z.cells n).toList = rep n z.cells.toList := rep_eq _ _
            have hall : (#[] ++ Builtin.zeroCells z.cells n ++ Builtin.zeroCells z.cells (nc - n)).toList = rep n z.cells.toList ++ (Builtin.zeroCells z.cells (nc - n)).toList := by
              rw [Array.toList_append, Array.toList_append, hzc]; rfl
            have hrl : (rep n z.cells.toList).length = n * ei.size := by
              rw [← hzc, Array.length_toList, rep_rel_size, hzs]
            have hsz : (#[] ++ Builtin.zeroCells z.cells n ++ Builtin.zeroCells z.cells (nc - n)).size = nc * ei.size := by
              rw [← Array.length_toList, hall, List.length_append, hrl, Array.length_toList, rep_rel_size, hzs, ← Nat.add_mul]
              congr 1; omega
            obtain ⟨φ', p1, p2, p3⟩ := row_open w.drew hH.drew hnw (cs := #[] ++ Builtin.zeroCells z.cells n ++ Builtin.zeroCells z.cells (nc - n))
              (by rw [hsz, hrl]; exact Nat.mul_le_mul_right _ hnc) (by
                rw [hall, List.take_left']
                · exact (hC.zero_rel hei hz).rep n
                · rfl)
            refine ⟨_, _, hr, φ', (Ext.drew C φ w).trans p3, p2, ?_⟩
            have := VRel.opn (φ := φ') b 0 n nc ei.size _ p1 hnc (by simp only [Nat.zero_add]; exact hsz.symm)
            simpa using this
          · cases h
      · cases h
    · cases h
  · cases h

theorem append_goes (hC : COk C) (hH : HRel C φ H w) {st xt : TypeId} {s x s' x' v : Value} (h : appendB C H st xt s x = some (v, H')) (hs : VRel φ s s') (hx : VRel φ x x') (ty : TypeId) :
    ∃ v' w', (Builtin.append_ #[st, xt] ty #[s', x']).run C.P w = Result.ok v' w' ∧ Post C φ w H' v v' w' := by
  unfold appendB at h
  split at h
  · rename_i si xi hsi hxi
    cases hint : isIntT xi.u
    · rw [hint] at h; simp only [cond_false] at h
      have hxi' := isIntT_spec hint
      split at h
      · rename_i e base len cap n hse hn
        split at h
        · cases h
        · rename_i ei hei
          cases hc : (Nat.beq ei.size 0 || !(Nat.ble (len + n) LIMIT && Nat.ble ei.bytes 65536 && zeroOk ei))
          · rw [hc] at h; simp only [cond_false] at h
            simp only [Bool.or_eq_false_iff, Bool.not_eq_false', Bool.and_eq_true] at hc
            obtain ⟨hc1, ⟨hc2, hc3⟩, hc4⟩ := hc
            have hc2 := Nat.le_of_ble_eq_true hc2
            have hc3 := Nat.le_of_ble_eq_true hc3
            have hsz : ei.size ≠ 0 := not_beq hc1
            obtain ⟨z, hz, hzs⟩ := zeroOk_spec hc4
            split at h
            · cases h
            · rename_i new hnew
              cases hnl : Nat.beq new.length (n * ei.size)
              · rw [hnl] at h; cases h
              · rw [hnl] at h; simp only [Bool.not_true, cond_false] at h
                have hnl := Nat.eq_of_beq_eq_true hnl
                have hlen := srcLen_run w (P := C.P) hn hx
                have A : AppArgs C φ w st xt e ei z n x' new :=
                  ⟨fun hf hr _ hst ty => run_append_in w hC hsi hxi hse hxi' hei hlen hf hr hst ty,
                   fun hf ho hr hl ty => run_append_out w hC hsi hxi hse hxi' hei hz hc3 hlen hf ho hr hl ty,
                   src_run w hH hnew hx, src_run w.drew hH.drew hnew hx, hnl, hzs, hsz⟩
                obtain ⟨new', hf, hnr⟩ := A.src
                split at h
                · -- nil
                  unfold appendNil at h
                  cases hs with
                  | snil =>
                    simp only [Nat.beq_refl, Bool.and_self, cond_true] at h
                    cases hn0 : Nat.beq n 0
                    · rw [hn0] at h; simp only [cond_false] at h
                      split at h
                      · rename_i b H1 hnw
                        simp only [Option.some.injEq, Prod.mk.injEq] at h
                        obtain ⟨rfl, rfl⟩ := h
                        have hne : n ≠ 0 := not_beq hn0
                        exact app_fresh w A (base' := none) (cap' := 0) (old := []) (old' := #[]) hH rfl .nil (by simp) (by simpa using hnw) (by omega) hc2 ty
                      · cases h
                    · rw [hn0] at h; simp only [cond_true, Option.some.injEq, Prod.mk.injEq] at h
                      obtain ⟨rfl, rfl⟩ := h
                      have := Nat.eq_of_beq_eq_true hn0; subst this
                      exact ⟨_, w, A.inn hf (Nat.le_refl _) rfl ty, φ, Ext.refl _ _ _, hH, .snil⟩
                · rename_i b off
                  cases hop : Nat.ble OPEN cap
                  · -- the capacity is known
                    rw [hop] at h; simp only [cond_false] at h
                    unfold appendExact at h
                    obtain ⟨l, hl, rfl⟩ := hs.exact_lt (not_ble hop)
                    have hlt : cap < OPEN := by have := not_ble hop; omega
                    cases hr : Nat.ble (len + n) cap
                    · rw [hr] at h; simp only [cond_false] at h
                      split at h
                      · rename_i old hold
                        split at h
                        · rename_i b1 H1 hnw
                          simp only [Option.some.injEq, Prod.mk.injEq] at h
                          obtain ⟨rfl, rfl⟩ := h
                          obtain ⟨old', ho1, ho2⟩ := hH.drew.run_cells C.P hl hold
                          have hol : old.length = len * ei.size := by
                            obtain ⟨_, vs, _, _, rfl, hh⟩ := Heap.cells_spec hold
                            simp; omega
                          exact app_fresh w A (base' := some ⟨l.c, l.d + off, none⟩) (len := len) (cap' := cap) hH ho2 ho1 hol hnw (not_ble hr) hc2 ty
                        · cases h
                      · cases h
                    · rw [hr] at h; simp only [cond_true] at h
                      have hle := Nat.le_of_ble_eq_true hr
                      cases hn0 : Nat.beq n 0
                      · rw [hn0] at h; simp only [cond_false] at h
                        split at h
                        · rename_i H1 hst
                          simp only [Option.some.injEq, Prod.mk.injEq] at h
                          obtain ⟨rfl, rfl⟩ := h
                          obtain ⟨w', hrun, hr', hext⟩ := hH.store C.P hl hst hnr
                          refine ⟨_, w', A.inn hf hle ?_ ty, φ, hext, hr', .slc b off _ _ l hl hlt⟩
                          dsimp only
                          rw [addr_add, Nat.add_assoc]; exact hrun
                        · cases h
                      · rw [hn0] at h; simp only [cond_true, Option.some.injEq, Prod.mk.injEq] at h
                        obtain ⟨rfl, rfl⟩ := h
                        have := Nat.eq_of_beq_eq_true hn0; subst this
                        have hnil : new'.toList = [] := by
                          have := hnr.length
                          rw [hnl] at this
                          exact List.length_eq_zero_iff.1 (by simpa using this.symm)
                        refine ⟨_, w, A.inn hf hle ?_ ty, φ, Ext.refl _ _ _, hH, .slc b off _ _ l hl hlt⟩
                        dsimp only
                        rw [hnil]; rfl
                  · -- it is not
                    rw [hop] at h; simp only [cond_true] at h
                    unfold appendOpen at h
                    obtain ⟨sz, l, c', rfl, hl, hnc, hcc, rfl⟩ := hs.open_ge (Nat.le_of_ble_eq_true hop)
                    cases hcap : Nat.beq (OPEN + sz) (OPEN + ei.size)
                    · rw [hcap] at h; cases h
                    · rw [hcap] at h; simp only [Bool.not_true, cond_false] at h
                      have hse2 : sz = ei.size := by have := Nat.eq_of_beq_eq_true hcap; omega
                      subst hse2
                      cases hn0 : Nat.beq n 0
                      · rw [hn0] at h; simp only [cond_false] at h
                        split at h
                        · rename_i e' vs z0 hb
                          obtain ⟨cs, fr, hcs, hcn, hdl, _, hvr, hzf⟩ := hH.row hl hb
                          cases hee : Nat.beq e' e
                          · rw [hee] at h; cases h
                          · rw [hee] at h; simp only [cond_true] at h
                            have hee := Nat.eq_of_beq_eq_true hee
                            subst hee
                            cases hin : Nat.ble (off + len * ei.size + n * ei.size) vs.length
                            · rw [hin] at h; simp only [cond_false] at h
                              cases hq : (Nat.beq (off + len * ei.size) vs.length && Nat.ble C.base b && Nat.ble z0.z (off + len * ei.size) && oneCells new)
                              · rw [hq] at h; cases h
                              · rw [hq] at h; simp only [cond_true] at h
                                simp only [Bool.and_eq_true] at hq
                                obtain ⟨⟨⟨hq1, hq2⟩, hq3⟩, hq4⟩ := hq
                                have hq1 := Nat.eq_of_beq_eq_true hq1
                                have hq2 := Nat.le_of_ble_eq_true hq2
                                have hq3 := Nat.le_of_ble_eq_true hq3
                                split at h
                                · rename_i b1 H1 hnw
                                  simp only [Option.some.injEq, Prod.mk.injEq] at h
                                  obtain ⟨rfl, rfl⟩ := h
                                  have hkill := hH.kill w hl hq2 hb rfl
                                  by_cases hroom : len + n ≤ c'
                                  · have hle : l.d + off + (len + n) * ei.size ≤ l.n := by
                                      have : (len + n) * ei.size ≤ c' * ei.size := Nat.mul_le_mul_right _ hroom
                                      omega
                                    rw [Nat.add_mul] at hle
                                    obtain ⟨w', φ', hrun, h1, h2, h3⟩ := frontier w hH C.P hl hq2 hb hq1 hq3 hq4 hnr (by rw [hnl]; omega) hnw
                                    refine ⟨_, w', A.inn hf hroom (w' := w') ?_ ty, φ', h3, h2, ?_⟩
                                    · dsimp only
                                      rw [addr_add, Nat.add_assoc]; exact hrun
                                    · have := VRel.opn (φ := φ') b1 0 (len + n) c' ei.size _ h1 hroom (by simp only [Nat.add_zero]; omega)
                                      simpa using this
                                  · have hold : H.cells b off (len * ei.size) = some (vs.drop off) := by
                                      unfold Heap.cells
                                      rw [hb]
                                      exact takeN_all _ _ (by rw [List.length_drop]; omega)
                                    obtain ⟨old', ho1, ho2⟩ := hH.drew.run_cells C.P hl hold
                                    exact app_fresh w A (base' := some ⟨l.c, l.d + off, none⟩) (len := len) (cap' := c') hkill ho2 ho1 (by rw [List.length_drop]; omega) hnw hroom hc2 ty
                                · cases h
                            · rw [hin] at h; simp only [cond_true] at h
                              have hin := Nat.le_of_ble_eq_true hin
                              split at h
                              · rename_i H1 hst
                                simp only [Option.some.injEq, Prod.mk.injEq] at h
                                obtain ⟨rfl, rfl⟩ := h
                                have hle : len + n ≤ c' := by
                                  have h5 : (len + n) * ei.size ≤ c' * ei.size := by rw [Nat.add_mul]; omega
                                  exact Nat.le_of_mul_le_mul_right h5 (by omega)
                                obtain ⟨w', hrun, hr', hext⟩ := hH.store C.P hl hst hnr
                                refine ⟨_, w', A.inn hf hle ?_ ty, φ, hext, hr', .opn b off _ _ _ l hl hle hcc⟩
                                dsimp only
                                rw [addr_add, Nat.add_assoc]; exact hrun
                              · cases h
                        · cases h
                      · rw [hn0] at h; simp only [cond_true, Option.some.injEq, Prod.mk.injEq] at h
                        obtain ⟨rfl, rfl⟩ := h
                        have := Nat.eq_of_beq_eq_true hn0; subst this
                        have hnil : new'.toList = [] := by
                          have := hnr.length
                          rw [hnl] at this
                          exact List.length_eq_zero_iff.1 (by simpa using this.symm)
                        refine ⟨_, w, A.inn hf (by simpa using hnc) (w' := w) ?_ ty, φ, Ext.refl _ _ _, hH, .opn b off _ _ _ l hl hnc hcc⟩
                        dsimp only
                        rw [hnil]; rfl
                · cases h
          · rw [hc] at h; cases h
      · cases h
    · rw [hint] at h; exact appendZ_goes w hC hH hsi hxi hint h hs hx ty
  · cases h
end
end Go.AM
