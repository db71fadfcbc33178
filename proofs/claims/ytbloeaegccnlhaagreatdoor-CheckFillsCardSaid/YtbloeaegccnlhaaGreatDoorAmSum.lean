/- AM: a text's sum, taken at its contract. -/
import Derived.Test.YtbloeaegccnlhaaGreatDoorAmData
namespace Go.AM
open Go

theorem crcL_nil (c : Nat) : crcL [] c = c := rfl
theorem crcL_cons (b : UInt8) (l : List UInt8) (c : Nat) : crcL (b :: l) c = crcL l (crc1 (crc1 (c ^^^ b.toNat))) := rfl
theorem crcL_snoc : ∀ (l : List UInt8) (b : UInt8) (c : Nat), crcL (l ++ [b]) c = crc1 (crc1 (crcL l c ^^^ b.toNat))
  | [], _, _ => rfl
  | x :: l, b, c => by rw [List.cons_append, crcL_cons, crcL_cons, crcL_snoc l b]

theorem crcT_lt (k : Nat) : crcT k < 4294967296 := by
  unfold crcT
  exact Nat.lt_of_le_of_lt Nat.and_le_right (by omega)

/-- the law that a program's sum.Add keeps; its table lies at block t -/
def AddLaw (P : Program) (g : FuncId) (t : Nat) : Prop :=
  ∀ (c : Nat), c < 4294967296 → ∀ s : ByteArray, s.size ≤ 4194304 → ∀ w : World, (∀ k, k < 16 → w.cell? ⟨t, k, none⟩ = some (.int .u32 (crcT k : Nat))) →
    Calls P g #[.int .u32 c, .string s] w fun e w' => e = .returned (.int .u32 ((4294967295 ^^^ crcL s.data.toList (4294967295 ^^^ c) : Nat) : Int)) ∧ w' = w

theorem crcTab_get : ∀ k, k < 16 → crcTab[k]? = some (.int .u32 (crcT k : Nat))
  | 0, _ => rfl | 1, _ => rfl | 2, _ => rfl | 3, _ => rfl | 4, _ => rfl | 5, _ => rfl | 6, _ => rfl | 7, _ => rfl
  | 8, _ => rfl | 9, _ => rfl | 10, _ => rfl | 11, _ => rfl | 12, _ => rfl | 13, _ => rfl | 14, _ => rfl | 15, _ => rfl
  | k + 16, h => by omega

theorem sumAdd_at {C : Ctx} {g : FuncId} {fn : Func} {b : Code} {t : Nat} (hg : C.P.funcs[g]? = some fn) (hb : fn.body = some b) (hname : (fn.name == "runtime.NumGoroutine") = false) (ht : t < C.base) (hA : AddLaw C.P g t) :
    PrimAt C g (sumAdd t) := by
  intro args H v H' hr φ w args' hH ha
  left
  refine ⟨callFunc_enter hg hb hname _ w, ?_⟩
  unfold sumAdd at hr
  split at hr
  · rename_i c s
    cases ha with
    | cons _ c' _ _ hc htl =>
    cases htl with
    | cons _ s' _ _ hs htl2 =>
    cases htl2; cases hc; cases hs
    split at hr
    · rename_i vs hblk
      cases hk : (Nat.blt c 4294967296 && s.size.ble LIMIT && all2 (veq 2) vs crcTab)
      · rw [hk] at hr; cases hr
      · rw [hk] at hr; simp only [cond_true, Option.some.injEq, Prod.mk.injEq] at hr
        obtain ⟨rfl, rfl⟩ := hr
        simp only [Bool.and_eq_true] at hk
        obtain ⟨⟨h1, h2⟩, h3⟩ := hk
        have h1 : c < 4294967296 := lt_of_blt h1
        have h2 := Nat.le_of_ble_eq_true h2
        have hL : LIMIT = 4194304 := by decide
        have hvs := all2_eq (veq_eq 2) h3
        subst hvs
        obtain ⟨l, hl, hlc, hld⟩ := hH.base t ht
        have hcell : ∀ k, k < 16 → w.cell? ⟨t, k, none⟩ = some (.int .u32 (crcT k : Nat)) := by
          intro k hk
          have hck : H.cell t k = some (.int .u32 (crcT k : Nat)) := by
            unfold Heap.cell; rw [hblk]; exact crcTab_get k hk
          obtain ⟨v', e1, e2⟩ := hH.cell hl hck
          cases e2
          rw [hlc, hld, Nat.zero_add] at e1; exact e1
        refine (hA c h1 s (by omega) w hcell).mono ?_
        rintro e w' ⟨rfl, rfl⟩
        exact ⟨_, rfl, φ, Ext.refl _ _ _, hH, .int _ _⟩
    · cases hr
  · cases hr
end Go.AM
