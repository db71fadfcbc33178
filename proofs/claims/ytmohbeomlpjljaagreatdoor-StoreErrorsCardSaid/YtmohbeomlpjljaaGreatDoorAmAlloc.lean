/- AM: what makes memory makes the same at any heap. -/
import Derived.Test.YtmohbeomlpjljaaGreatDoorAmOps12
namespace Go.AM
open Go
variable [Syms]

/-- an operation that makes a block with x, and answers what mk says -/
def Makes (C : Ctx) (φ : Phi) (ev : Operand → Value) (op : Op) (x : Blk) (mk : Nat → Value) : Prop :=
  ∀ w, Goes C.P ev op w (fun v' w' => ∃ obj n, w' = w.alloc obj ∧ ∀ φ' b, Le φ φ' → φ' b = some ⟨w.heap.size, 0, n⟩ → BRel C φ' ⟨w.heap.size, 0, n⟩ x (some obj) ∧ VRel φ' (mk b) v')

section
variable {C : Ctx} {φ : Phi} {ρ : Env} {ev : Operand → Value} {H H' : Heap}

theorem row_any {s : Nat} {e : TypeId} {vs : List Value} {cs : Array Value} (hv : VRels φ vs cs.toList) {φ' : Phi} (hle : Le φ φ') :
    BRel C φ' ⟨s, 0, vs.length⟩ (.cells e vs false ⟨0, false⟩) (some (.cells cs e)) := by
  have hl := hv.length
  refine .cells e vs false ⟨0, false⟩ cs (0, 0) (by simpa using hl.symm) (by simp) (fun _ => ⟨rfl, rfl⟩) ?_ ⟨fun i _ _ => by simp, fun _ => .inl rfl⟩
  rw [List.drop_zero, hl, List.take_of_length_le (Nat.le_refl _)]
  exact hv.mono hle

theorem any_alloc (hC : COk C) {t : TypeId} {v : Value} (h : allocB C ρ H (.alloc t) = some (v, H')) : ∃ b x mk, H.new x = some (b, H') ∧ v = mk b ∧ Makes C φ ev (.alloc t) x mk := by
  simp only [allocB] at h
  split at h
  · rename_i i hi
    split at h
    · rename_i z hz
      obtain ⟨b, hn, rfl⟩ := newP_spec h
      refine ⟨b, _, fun b => .pointer (some ⟨b, 0, none⟩), hn, rfl, fun w => ?_⟩
      refine Goes.of (Instr.alloc t true (.tuple #[])) (by rintro ⟨dst, op, type, pos, after, guard⟩ ho; subst ho; rfl) (v' := .pointer (some ⟨w.heap.size, 0, none⟩)) (w' := w.alloc (.cells z.cells t)) ?_ ⟨_, _, rfl, fun φ' b hle hb => ⟨row_any (hC.zero_rel hi hz) hle, .ptr b 0 _ hb⟩⟩
      simp only [Instr.alloc, Sem.run_bind, hC.run_zero w hi hz, Result.andThen_ok, newVar, newRow, run_newObj, Sem.run_pure]; rfl
    · cases h
  · cases h

theorem any_box (hρ : ERho φ ρ ev) {t : TypeId} {x : Operand} {v : Value} (h : allocB C ρ H (.box t x) = some (v, H')) : ∃ b y mk, H.new y = some (b, H') ∧ v = mk b ∧ Makes C φ ev (.box t x) y mk := by
  simp only [allocB] at h
  split at h
  · rename_i u hu
    obtain ⟨b, hn, rfl⟩ := newP_spec h
    refine ⟨b, _, fun b => .pointer (some ⟨b, 0, none⟩), hn, rfl, fun w => ?_⟩
    refine Goes.of (Instr.box t (ev x)) (by rintro ⟨dst, op, type, pos, after, guard⟩ ho; subst ho; rfl) (v' := .pointer (some ⟨w.heap.size, 0, none⟩)) (w' := w.alloc (.cells (ev x).cells t)) ?_ ⟨_, _, rfl, fun φ' b hle hb => ⟨row_any ((hρ x u hu).cells) hle, .ptr b 0 _ hb⟩⟩
    simp only [Instr.box, newVar, newRow, Sem.run_bind, run_newObj, Result.andThen_ok, Sem.run_pure]; rfl
  · cases h

theorem any_buildSlice (hC : COk C) (hρ : ERho φ ρ ev) {t : TypeId} {len : Nat} {parts : Array (Nat × Operand)} {v : Value} (h : allocB C ρ H (.buildSlice t len parts) = some (v, H')) :
    ∃ b x mk, H.new x = some (b, H') ∧ v = mk b ∧ Makes C φ ev (.buildSlice t len parts) x mk := by
  simp only [allocB] at h
  split at h
  · rename_i l i hl hi
    obtain ⟨e1, e2⟩ := evP_rel hρ _ _ hl
    have hu := fun w => hC.run_und w hi
    split at h
    · rename_i e he
      rw [he] at hu
      split at h
      · rename_i j hj
        split at h
        · rename_i z hz
          cases hc : (Nat.beq j.size 0 || !Nat.ble (len * j.size) 4096 || !Nat.beq z.cells.size j.size)
          · rw [hc] at h; simp only [cond_false] at h
            simp only [Bool.or_eq_false_iff, Bool.not_eq_false'] at hc
            obtain ⟨⟨hc1, hc2⟩, hc3⟩ := hc
            have hzs := Nat.eq_of_beq_eq_true hc3
            have hle := Nat.le_of_ble_eq_true hc2
            split at h
            · rename_i cs hcs
              split at h
              · rename_i b H1 hn
                simp only [Option.some.injEq, Prod.mk.injEq] at h
                obtain ⟨rfl, rfl⟩ := h
                have ep : (parts.map fun (i, x) => (i, ev x)).toList = parts.toList.map fun (i, x) => (i, ev x) := by simp
                obtain ⟨cs', h3, h4⟩ := fill_rel _ l _ _ ((Array.range (len * j.size)).map (fun i => z.cells[i % z.cells.size]!)) cs e1 e2 (by
                  rw [← hzs, rep_eq]; exact (hC.zero_rel hj hz).rep len) hcs
                have hlo : len < OPEN := by
                  have : j.size ≠ 0 := by intro e; rw [e] at hc1; simp at hc1
                  have : len ≤ len * j.size := Nat.le_mul_of_pos_right _ (by omega)
                  unfold OPEN; omega
                refine ⟨b, _, fun b => .slice (some ⟨b, 0, none⟩) len len, hn, rfl, fun w => ?_⟩
                refine Goes.of (Instr.buildSlice t len (parts.map fun (i, x) => (i, ev x))) (by rintro ⟨dst, op, type, pos, after, guard⟩ ho; subst ho; rfl) (v' := .slice (some ⟨w.heap.size, 0, none⟩) len len) (w' := w.alloc (.cells cs' e)) ?_ ⟨_, _, rfl, fun φ' b hle hb => ⟨row_any h4 hle, .slc b 0 len len _ hb hlo⟩⟩
                · have hno : ¬ (len * j.size > 2 ^ 24) := by omega
                  have hfill : Instr.fill (fun i => some (i * j.size, j.size)) ((Array.range (len * j.size)).map (fun i => z.cells[i % z.cells.size]!)) (parts.map fun (i, x) => (i, ev x)).toList = some cs' := by rw [ep]; exact h3
                  simp only [Instr.buildSlice, Sem.run_bind, hu w, Result.andThen_ok, hC.run_size w hj, Sem.run_ite, if_neg hno, Sem.run_pure]
                  by_cases h0 : len * j.size = 0
                  · rw [if_pos h0]
                    have hl0 : len = 0 := by
                      rcases Nat.mul_eq_zero.1 h0 with e | e
                      · exact e
                      · rw [e] at hc1; simp at hc1
                    have : ((Array.range (len * j.size)).map (fun i => (#[] : Array Value)[i % (#[] : Array Value).size]!)) = ((Array.range (len * j.size)).map (fun i => z.cells[i % z.cells.size]!)) := by rw [h0]; simp
                    rw [this, hfill]
                    simp only [newRow, Sem.run_bind, run_newObj, Result.andThen_ok, Sem.run_pure]
                    rfl
                  · rw [if_neg h0]
                    simp only [hC.run_zero w hj hz, Result.andThen_ok]
                    rw [hfill]
                    simp only [newRow, Sem.run_bind, run_newObj, Result.andThen_ok, Sem.run_pure]
                    rfl
              · cases h
            · cases h
          · rw [hc] at h; cases h
        · cases h
      · cases h
    · cases h
  · cases h

theorem any_makeMap {t : TypeId} {v : Value} (h : allocB C ρ H (.makeMap t none) = some (v, H')) : ∃ b x mk, H.new x = some (b, H') ∧ v = mk b ∧ Makes C φ ev (.makeMap t none) x mk := by
  simp only [allocB] at h
  split at h
  · rename_i b H1 hn
    simp only [Option.some.injEq, Prod.mk.injEq] at h
    obtain ⟨rfl, rfl⟩ := h
    refine ⟨b, _, fun b => .map (some b), hn, rfl, fun w => ?_⟩
    refine Goes.of (Instr.makeMap t none) (by rintro ⟨dst, op, type, pos, after, guard⟩ ho; subst ho; rfl) (v' := .map (some w.heap.size)) (w' := w.alloc (.map #[] 0)) ?_ ⟨_, 0, rfl, fun φ' b _ hb => ⟨.map [] [] 0 .nil, .map b _ hb⟩⟩
    simp only [Instr.makeMap, Sem.run_bind, run_newObj, Result.andThen_ok, Sem.run_pure]; rfl
  · cases h

theorem any_makeSlice (hC : COk C) (hρ : ERho φ ρ ev) {t : TypeId} {lo co : Operand} {v : Value} (h : allocB C ρ H (.makeSlice t lo co) = some (v, H')) :
    ∃ b x mk, H.new x = some (b, H') ∧ v = mk b ∧ Makes C φ ev (.makeSlice t lo co) x mk := by
  simp only [allocB] at h
  split at h
  · rename_i i lv cv hi hl hc
    have hu := fun w => hC.run_und w hi
    split at h
    · rename_i e l c he hln hcn
      rw [he] at hu
      obtain ⟨k1, hl'⟩ := natOf_rel hln (hρ _ _ hl)
      obtain ⟨k2, hc'⟩ := natOf_rel hcn (hρ _ _ hc)
      split at h
      · rename_i j hj
        split at h
        · rename_i z hz
          cases hq : (Nat.ble l c && Nat.ble c LIMIT && Nat.ble j.bytes 65536 && !Nat.beq j.size 0 && Nat.beq z.cells.size j.size)
          · rw [hq] at h; cases h
          · rw [hq] at h; simp only [cond_true] at h
            simp only [Bool.and_eq_true, Bool.not_eq_true'] at hq
            obtain ⟨⟨⟨⟨hq1, hq2⟩, hq3⟩, hq4⟩, hq5⟩ := hq
            have hq1 := Nat.le_of_ble_eq_true hq1
            have hq2 := Nat.le_of_ble_eq_true hq2
            have hq3 := Nat.le_of_ble_eq_true hq3
            have hzs := Nat.eq_of_beq_eq_true hq5
            have hj0 : j.size ≠ 0 := by intro e; rw [e] at hq4; simp at hq4
            split at h
            · rename_i b H1 hn
              simp only [Option.some.injEq, Prod.mk.injEq] at h
              obtain ⟨rfl, rfl⟩ := h
              have hrel : VRels φ (rep c z.cells.toList) ((Array.range (c * j.size)).map (fun i => z.cells[i % z.cells.size]!)).toList := by
                rw [← hzs, rep_eq]; exact (hC.zero_rel hj hz).rep c
              have hlo : c < OPEN := by have : LIMIT = 4194304 := by decide
                                        unfold OPEN; omega
              refine ⟨b, _, fun b => .slice (some ⟨b, 0, none⟩) l c, hn, rfl, fun w => ?_⟩
              obtain ⟨inf, hinf, _, _, hby, _⟩ := hC.run_info w hj
              have hL : LIMIT = 4194304 := by decide
              refine Goes.of (Instr.makeSlice t (ev lo) (ev co)) (by rintro ⟨dst, op, type, pos, after, guard⟩ ho; subst ho; rfl) (v' := .slice (some ⟨w.heap.size, 0, none⟩) l c)
                (w' := w.alloc (.cells ((Array.range (c * j.size)).map (fun i => z.cells[i % z.cells.size]!)) e)) ?_ ⟨_, _, rfl, fun φ' b hle hb => ⟨row_any hrel hle, .slc b 0 l c _ hb hlo⟩⟩
              · rw [hl', hc']
                have w1 : IntKind.i64.wrap (Int.ofNat l) = Int.ofNat l := i64_in _ (by simp only [Int.ofNat_eq_natCast]; omega) (by simp only [Int.ofNat_eq_natCast]; omega)
                have w2 : IntKind.i64.wrap (Int.ofNat c) = Int.ofNat c := i64_in _ (by simp only [Int.ofNat_eq_natCast]; omega) (by simp only [Int.ofNat_eq_natCast]; omega)
                have hmul : inf.bytes * c ≤ 65536 * 4194304 := Nat.mul_le_mul (by omega) (by omega)
                have t1 : (decide (Int.ofNat c < 0) || decide ((inf.bytes : Int) * Int.ofNat c > 2 ^ 48)) = false := by
                  have : ¬ ((inf.bytes : Int) * Int.ofNat c > 2 ^ 48) := by
                    have : ((inf.bytes * c : Nat) : Int) ≤ ((65536 * 4194304 : Nat) : Int) := by exact_mod_cast hmul
                    simp only [Int.ofNat_eq_natCast]
                    rw [← Int.natCast_mul]; omega
                  have hx : ¬ ((inf.bytes : Int) * (c : Int) > 2 ^ 48) := this
                  simp only [Int.ofNat_eq_natCast, decide_eq_false hx, Bool.or_false]
                  simp
                have t2 : ¬ (Int.ofNat l < 0) := by simp
                have t3 : ¬ (Int.ofNat l > Int.ofNat c) := by simpa using hq1
                simp only [Instr.makeSlice, asInt, asIntOf, Sem.run_bind, hu w, Result.andThen_ok, Sem.run_pure, hinf, w1, w2, t1, t2, t3, Bool.false_eq_true, false_or, or_self, if_false, Sem.run_ite, decide_false, Bool.or_self, run_askRoom, hC.run_size w hj]
                have hcc : (Int.ofNat c).toNat = c := rfl
                have hll : (Int.ofNat l).toNat = l := rfl
                rw [hcc, hll]
                by_cases h0 : c * j.size = 0
                · rw [if_pos h0]
                  simp only [Sem.run_pure, Result.andThen_ok, newRow, Sem.run_bind, run_newObj]
                  have : ((Array.range (c * j.size)).map (fun i => (#[] : Array Value)[i % (#[] : Array Value).size]!)) = ((Array.range (c * j.size)).map (fun i => z.cells[i % z.cells.size]!)) := by rw [h0]; simp
                  rw [this]; rfl
                · rw [if_neg h0]
                  simp only [Sem.run_pure, Sem.run_bind, hC.run_zero w hj hz, Result.andThen_ok, newRow, run_newObj]
                  rfl
            · cases h
        · cases h
      · cases h
    · cases h
  · cases h


theorem allocB_makes (hC : COk C) (hρ : ERho φ ρ ev) {o : Op} {v : Value} (h : allocB C ρ H o = some (v, H')) :
    ∃ b x mk, H.new x = some (b, H') ∧ v = mk b ∧ Makes C φ ev o x mk := by
  cases o with
  | alloc t => exact any_alloc hC h
  | box t x => exact any_box hρ h
  | buildSlice t len parts => exact any_buildSlice hC hρ h
  | makeMap t r =>
    cases r with
    | none => exact any_makeMap h
    | some x => cases h
  | makeSlice t l c => exact any_makeSlice hC hρ h
  | _ => cases h
end
end Go.AM
