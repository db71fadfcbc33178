/- AM: trees, laws. -/
import Derived.Test.YtofccfejfbekaaaGreatDoorAmRun
namespace Go.AM
open Go

theorem beq_iff (a b : Nat) : (Nat.beq a b = true) = (a = b) :=
  propext ⟨Nat.eq_of_beq_eq_true, fun h => by subst h; exact Nat.beq_refl a⟩

section
variable {α : Type}
theorem T.get_leaf (n : Nat) : (T.leaf : T α).get n = none := rfl
theorem T.get_node (l : T α) (v : α) (r : T α) (n : Nat) :
    (T.node l v r).get n = if n = 0 then some v else if n % 2 = 1 then l.get (n / 2) else r.get (n / 2 - 1) := by
  show (bif Nat.beq n 0 then some v else bif Nat.beq (Nat.mod n 2) 1 then l.get (Nat.div n 2) else r.get (Nat.pred (Nat.div n 2))) = _
  have h1 : Nat.mod n 2 = n % 2 := rfl
  have h2 : Nat.div n 2 = n / 2 := rfl
  rw [h1, h2, cond_eq_ite, cond_eq_ite]
  simp only [beq_iff]; rfl
theorem T.mod_node (l : T α) (v : α) (r : T α) (n : Nat) (x : α) :
    (T.node l v r).mod n x = if n = 0 then .node l x r else if n % 2 = 1 then .node (l.mod (n / 2) x) v r else .node l v (r.mod (n / 2 - 1) x) := by
  show (bif Nat.beq n 0 then T.node l x r else bif Nat.beq (Nat.mod n 2) 1 then .node (l.mod (Nat.div n 2) x) v r else .node l v (r.mod (Nat.pred (Nat.div n 2)) x)) = _
  have h1 : Nat.mod n 2 = n % 2 := rfl
  have h2 : Nat.div n 2 = n / 2 := rfl
  rw [h1, h2, cond_eq_ite, cond_eq_ite]
  simp only [beq_iff]; rfl
theorem T.mod_leaf (n : Nat) (x : α) : (T.leaf : T α).mod n x = .leaf := rfl

theorem T.get_mod_same (t : T α) : ∀ (n : Nat) (x : α), (t.mod n x).get n = if (t.get n).isSome then some x else none := by
  induction t with
  | leaf => intro n x; simp [T.mod_leaf, T.get_leaf]
  | node l v r ihl ihr =>
    intro n x
    rw [T.mod_node, T.get_node]
    by_cases h0 : n = 0
    · subst h0; simp [T.get_node]
    · rw [if_neg h0, if_neg h0]
      by_cases h1 : n % 2 = 1
      · rw [if_pos h1, if_pos h1, T.get_node, if_neg h0, if_pos h1, ihl]
      · rw [if_neg h1, if_neg h1, T.get_node, if_neg h0, if_neg h1, ihr]

theorem T.get_mod_other (t : T α) : ∀ (n m : Nat) (x : α), m ≠ n → (t.mod n x).get m = t.get m := by
  induction t with
  | leaf => intro n m x _; rfl
  | node l v r ihl ihr =>
    intro n m x h
    rw [T.mod_node]
    by_cases h0 : n = 0
    · have hm : m ≠ 0 := by omega
      rw [if_pos h0]; simp [T.get_node, hm]
    · rw [if_neg h0]
      by_cases h1 : n % 2 = 1
      · rw [if_pos h1, T.get_node, T.get_node]
        by_cases hm : m = 0
        · simp [hm]
        · rw [if_neg hm, if_neg hm]
          by_cases hm1 : m % 2 = 1
          · rw [if_pos hm1, if_pos hm1]; exact ihl _ _ _ (by omega)
          · rw [if_neg hm1, if_neg hm1]
      · rw [if_neg h1, T.get_node, T.get_node]
        by_cases hm : m = 0
        · simp [hm]
        · rw [if_neg hm, if_neg hm]
          by_cases hm1 : m % 2 = 1
          · rw [if_pos hm1, if_pos hm1]
          · rw [if_neg hm1, if_neg hm1]; exact ihr _ _ _ (by omega)

/-- its numbers are just those below n -/
def T.Full (t : T α) (n : Nat) : Prop := ∀ i, (t.get i).isSome = decide (i < n)

theorem T.Full.mod {t : T α} {n : Nat} (h : t.Full n) (i : Nat) (x : α) : (t.mod i x).Full n := by
  intro j
  by_cases e : j = i
  · subst e; rw [T.get_mod_same, ← h j]; split <;> simp_all
  · rw [T.get_mod_other _ _ _ _ e]; exact h j

theorem T.get_build (f : Nat → α) : ∀ (fuel n a b i : Nat), n < 2 ^ fuel → (T.build f fuel n a b).get i = if i < n then some (f (a * i + b)) else none := by
  intro fuel
  induction fuel with
  | zero => intro n a b i h; simp at h; subst h; simp [T.build, T.get_leaf]
  | succ fuel ih =>
    intro n a b i h
    unfold T.build
    by_cases h0 : n = 0
    · subst h0; simp [T.get_leaf]
    · have hb : Nat.beq n 0 = false := by
        cases hh : Nat.beq n 0
        · rfl
        · exact absurd (Nat.eq_of_beq_eq_true hh) h0
      rw [hb, cond_false, T.get_node]
      have hp : 2 ^ (fuel + 1) = 2 * 2 ^ fuel := by rw [Nat.pow_succ]; omega
      by_cases hi : i = 0
      · subst hi; simp; omega
      · rw [if_neg hi]
        by_cases h1 : i % 2 = 1
        · rw [if_pos h1, ih _ _ _ _ (by omega)]
          by_cases hn : i < n
          · rw [if_pos hn, if_pos (by omega)]
            have : i = 2 * (i / 2) + 1 := by omega
            congr 2
            conv => rhs; rw [this]
            rw [Nat.mul_add, ← Nat.mul_assoc, Nat.mul_comm a 2]; omega
          · rw [if_neg hn, if_neg (by omega)]
        · rw [if_neg h1, ih _ _ _ _ (by omega)]
          by_cases hn : i < n
          · rw [if_pos hn, if_pos (by omega)]
            have : i = 2 * (i / 2 - 1) + 2 := by omega
            congr 2
            conv => rhs; rw [this]
            rw [Nat.mul_add, ← Nat.mul_assoc, Nat.mul_comm a 2]; omega
          · rw [if_neg hn, if_neg (by omega)]

theorem T.full_build (f : Nat → α) (n : Nat) (h : n < 2 ^ 24) : (T.build f 24 n 1 0).Full n := by
  intro i
  rw [T.get_build f 24 n 1 0 i h]
  split <;> simp_all

theorem T.get_push (x : α) : ∀ (fuel : Nat) (t : T α) (n : Nat), n + 1 < 2 ^ fuel → t.Full n → ∀ i, (T.push x fuel t n).get i = if i = n then some x else t.get i := by
  intro fuel
  induction fuel with
  | zero => intro t n h; simp at h
  | succ fuel ih =>
    intro t n h hf i
    have hp : 2 ^ (fuel + 1) = 2 * 2 ^ fuel := by rw [Nat.pow_succ]; omega
    cases t with
    | leaf =>
      have : n = 0 := by have := hf 0; simp [T.get_leaf] at this; omega
      subst this
      show (T.node .leaf x .leaf).get i = _
      rw [T.get_node]; simp [T.get_leaf]
    | node l v r =>
      have h0 : 0 < n := by have := hf 0; simp [T.get_node] at this; omega
      show (bif Nat.beq (n % 2) 1 then T.node (T.push x fuel l (n / 2)) v r else .node l v (T.push x fuel r (n / 2 - 1))).get i = _
      by_cases h1 : n % 2 = 1
      · have e : Nat.beq (n % 2) 1 = true := by rw [h1]; rfl
        rw [e, cond_true, T.get_node, T.get_node]
        have hl : l.Full (n / 2) := by
          intro j
          have := hf (2 * j + 1)
          rw [T.get_node, if_neg (by omega), if_pos (by omega)] at this
          rw [show (2 * j + 1) / 2 = j by omega] at this
          rw [this]; congr 1; apply propext; omega
        by_cases hi : i = 0
        · subst hi; rw [if_pos rfl, if_neg (by omega), if_pos rfl]
        · rw [if_neg hi, if_neg hi]
          by_cases hi1 : i % 2 = 1
          · rw [if_pos hi1, if_pos hi1, ih l (n / 2) (by omega) hl]
            by_cases hin : i = n
            · rw [if_pos (by omega), if_pos hin]
            · rw [if_neg (by omega), if_neg hin]
          · rw [if_neg hi1, if_neg hi1, if_neg (by omega)]
      · have e : Nat.beq (n % 2) 1 = false := by
          cases hh : Nat.beq (n % 2) 1
          · rfl
          · exact absurd (Nat.eq_of_beq_eq_true hh) h1
        rw [e, cond_false, T.get_node, T.get_node]
        have hr : r.Full (n / 2 - 1) := by
          intro j
          have := hf (2 * j + 2)
          rw [T.get_node, if_neg (by omega), if_neg (by omega)] at this
          rw [show (2 * j + 2) / 2 - 1 = j by omega] at this
          rw [this]; congr 1; apply propext; omega
        by_cases hi : i = 0
        · subst hi; rw [if_pos rfl, if_neg (by omega), if_pos rfl]
        · rw [if_neg hi, if_neg hi]
          by_cases hi1 : i % 2 = 1
          · rw [if_pos hi1, if_pos hi1, if_neg (by omega)]
          · rw [if_neg hi1, if_neg hi1, ih r (n / 2 - 1) (by omega) hr]
            by_cases hin : i = n
            · rw [if_pos (by omega), if_pos hin]
            · rw [if_neg (by omega), if_neg hin]
end
end Go.AM
