/- AM: integers, quick for the kernel; each law says that the model has the same. -/
import GoSem.Dispatch
namespace Go.AM
open Go

def modulus : IntKind → Nat
  | .i8 | .u8 => 256
  | .i16 | .u16 => 65536
  | .i32 | .u32 => 4294967296
  | .i64 | .u64 => 18446744073709551616

theorem modulus_eq (k : IntKind) : modulus k = 2 ^ k.bits := by cases k <;> rfl

def wrapF (k : IntKind) (n : Int) : Int :=
  match k, n with
  | .u8, .ofNat m => .ofNat (Nat.mod m 256)
  | .u16, .ofNat m => .ofNat (Nat.mod m 65536)
  | .u32, .ofNat m => .ofNat (Nat.mod m 4294967296)
  | .u64, .ofNat m => .ofNat (Nat.mod m 18446744073709551616)
  | .i64, .ofNat m => bif Nat.ble m 9223372036854775807 then .ofNat m else IntKind.i64.wrap (.ofNat m)
  | .i64, .negSucc m => bif Nat.ble m 9223372036854775807 then .negSucc m else IntKind.i64.wrap (.negSucc m)
  | k, n => k.wrap n

theorem natMod (m j : Nat) : Nat.mod m j = m % j := rfl

theorem i64_in (n : Int) (h1 : -9223372036854775808 ≤ n) (h2 : n ≤ 9223372036854775807) : IntKind.i64.wrap n = n := by
  have e1 : ((2 : Int) ^ IntKind.i64.bits) = 18446744073709551616 := by decide +kernel
  have e2 : ((2 : Int) ^ (IntKind.i64.bits - 1)) = 9223372036854775808 := by decide +kernel
  have e3 : IntKind.i64.signed = true := rfl
  unfold IntKind.wrap
  rw [e1, e2, e3]
  simp only [Bool.true_and, decide_eq_true_eq, ge_iff_le]
  split <;> omega

theorem u_wrap (k : IntKind) (hk : k.signed = false) (m : Nat) : k.wrap (Int.ofNat m) = Int.ofNat (Nat.mod m (modulus k)) := by
  unfold IntKind.wrap
  rw [hk, modulus_eq]
  simp
  rfl

theorem wrapF_u8 (m : Nat) : wrapF .u8 (.ofNat m) = IntKind.u8.wrap (.ofNat m) := by rw [u_wrap .u8 rfl m]; rfl
theorem wrapF_u16 (m : Nat) : wrapF .u16 (.ofNat m) = IntKind.u16.wrap (.ofNat m) := by rw [u_wrap .u16 rfl m]; rfl
theorem wrapF_u32 (m : Nat) : wrapF .u32 (.ofNat m) = IntKind.u32.wrap (.ofNat m) := by rw [u_wrap .u32 rfl m]; rfl
theorem wrapF_u64 (m : Nat) : wrapF .u64 (.ofNat m) = IntKind.u64.wrap (.ofNat m) := by rw [u_wrap .u64 rfl m]; rfl
theorem wrapF_i64a (m : Nat) : wrapF .i64 (.ofNat m) = IntKind.i64.wrap (.ofNat m) := by
  unfold wrapF
  show (bif Nat.ble m 9223372036854775807 then Int.ofNat m else IntKind.i64.wrap (.ofNat m)) = _
  cases h : Nat.ble m 9223372036854775807
  · exact cond_false _ _
  · have h1 : m ≤ 9223372036854775807 := Nat.le_of_ble_eq_true h
    have h2 : IntKind.i64.wrap (Int.ofNat m) = Int.ofNat m := i64_in _ (by simp only [Int.ofNat_eq_natCast]; omega) (by simp only [Int.ofNat_eq_natCast]; omega)
    rw [h2]; exact cond_true _ _
theorem wrapF_i64b (m : Nat) : wrapF .i64 (.negSucc m) = IntKind.i64.wrap (.negSucc m) := by
  unfold wrapF
  show (bif Nat.ble m 9223372036854775807 then Int.negSucc m else IntKind.i64.wrap (.negSucc m)) = _
  cases h : Nat.ble m 9223372036854775807
  · exact cond_false _ _
  · have h1 : m ≤ 9223372036854775807 := Nat.le_of_ble_eq_true h
    have h2 : IntKind.i64.wrap (Int.negSucc m) = Int.negSucc m := i64_in _ (by omega) (by omega)
    rw [h2]; exact cond_true _ _

theorem wrapF_eq (k : IntKind) (n : Int) : wrapF k n = k.wrap n := by
  cases k with
  | u8 => cases n with | ofNat m => exact wrapF_u8 m | negSucc m => rfl
  | u16 => cases n with | ofNat m => exact wrapF_u16 m | negSucc m => rfl
  | u32 => cases n with | ofNat m => exact wrapF_u32 m | negSucc m => rfl
  | u64 => cases n with | ofNat m => exact wrapF_u64 m | negSucc m => rfl
  | i64 => cases n with | ofNat m => exact wrapF_i64a m | negSucc m => exact wrapF_i64b m
  | i8 => cases n <;> rfl
  | i16 => cases n <;> rfl
  | i32 => cases n <;> rfl

def intV (op : BinOp) (k : IntKind) (a b : Int) : Option Value :=
  match op, a, b with
  | .add, a, b => some (.int k (wrapF k (Int.add a b)))
  | .sub, a, b => some (.int k (wrapF k (Int.sub a b)))
  | .mul, a, b => some (.int k (wrapF k (Int.mul a b)))
  | .and, .ofNat m, .ofNat n => some (.int k (wrapF k (.ofNat (Nat.land (Nat.mod m (modulus k)) (Nat.mod n (modulus k))))))
  | .or, .ofNat m, .ofNat n => some (.int k (wrapF k (.ofNat (Nat.lor (Nat.mod m (modulus k)) (Nat.mod n (modulus k))))))
  | .xor, .ofNat m, .ofNat n => some (.int k (wrapF k (.ofNat (Nat.xor (Nat.mod m (modulus k)) (Nat.mod n (modulus k))))))
  | .eql, .ofNat m, .ofNat n => some (.bool (Nat.beq m n))
  | .neq, .ofNat m, .ofNat n => some (.bool (!Nat.beq m n))
  | .lss, .ofNat m, .ofNat n => some (.bool (Nat.ble (m + 1) n))
  | .leq, .ofNat m, .ofNat n => some (.bool (Nat.ble m n))
  | .gtr, .ofNat m, .ofNat n => some (.bool (Nat.ble (n + 1) m))
  | .geq, .ofNat m, .ofNat n => some (.bool (Nat.ble n m))
  | .quo, .ofNat m, .ofNat n => bif Nat.beq n 0 then none else some (.int k (wrapF k (.ofNat (Nat.div m n))))
  | .rem, .ofNat m, .ofNat n => bif Nat.beq n 0 then none else some (.int k (.ofNat (Nat.mod m n)))
  | op, a, b => match (match op with
      | .and | .or | .xor | .andNot => Op.intBits op k a b
      | .quo | .rem => Op.intDiv op k a b
      | _ => Op.intCmp op a b) with
    | .pure v => some v
    | _ => none

def shiftV (op : BinOp) (k : IntKind) (a : Int) (b : Int) : Option Value :=
  match op, a, b with
  | .shl, .ofNat m, .ofNat n => some (.int k (wrapF k (.ofNat (Nat.mul m (Nat.pow 2 (Nat.min n k.bits))))))
  | .shr, .ofNat m, .ofNat n => some (.int k (.ofNat (Nat.div m (Nat.pow 2 (Nat.min n k.bits)))))
  | op, a, b => match Op.shift op k a .i64 b with
    | .pure v => some v
    | _ => none

theorem ofInt_toNat (w m : Nat) : (BitVec.ofInt w (Int.ofNat m)).toNat = m % 2 ^ w := by
  simp

theorem shiftV_spec (op : BinOp) (hop : op = .shl ∨ op = .shr) (k yk : IntKind) (a b : Int) (t : TypeId) (v : Value) (h : shiftV op k a b = some v) :
    binOp op t (.int k a) (.int yk b) = .pure v := by
  have e : binOp op t (.int k a) (.int yk b) = Op.shift op k a yk b := by rcases hop with rfl | rfl <;> rfl
  rw [e]
  unfold shiftV at h
  split at h
  · rename_i m n
    simp only [Option.some.injEq] at h; subst h
    have h1 : ¬ (Int.ofNat n < 0) := by simp
    have h2 : (Int.ofNat n).toNat = n := rfl
    simp only [Op.shift, if_neg h1, h2, wrapF_eq]
    show Sem.pure _ = Sem.pure _
    congr 3
  · rename_i m n
    simp only [Option.some.injEq] at h; subst h
    have h1 : ¬ (Int.ofNat n < 0) := by simp
    have h2 : (Int.ofNat n).toNat = n := rfl
    simp only [Op.shift, if_neg h1, h2]
    show Sem.pure _ = Sem.pure _
    congr 2
    have : (2 : Int) ^ (min n k.bits) = ((2 ^ (min n k.bits) : Nat) : Int) := by simp
    rw [this, Int.fdiv_eq_ediv_of_nonneg _ (Int.natCast_nonneg _)]
    rfl
  · have : Op.shift op k a yk b = Op.shift op k a .i64 b := rfl
    rw [this]
    split at h
    · rename_i hh; rw [hh]; simpa using h
    · cases h

theorem modulus_pos (k : IntKind) : 0 < modulus k := by cases k <;> decide

theorem ofInt_nat (k : IntKind) (m : Nat) : (BitVec.ofInt k.bits (Int.ofNat m)).toNat = Nat.mod m (modulus k) := by
  rw [ofInt_toNat, ← modulus_eq]; rfl

theorem intV_spec (op : BinOp) (h1 : op ≠ .shl) (h2 : op ≠ .shr) (k : IntKind) (a b : Int) (t : TypeId) (v : Value) (h : intV op k a b = some v) :
    binOp op t (.int k a) (.int k b) = .pure v := by
  unfold intV at h
  split at h
  · simp only [Option.some.injEq] at h; subst h; simp only [wrapF_eq]; simp [binOp, Op.intArith]; rfl
  · simp only [Option.some.injEq] at h; subst h; simp only [wrapF_eq]; simp [binOp, Op.intArith]; rfl
  · simp only [Option.some.injEq] at h; subst h; simp only [wrapF_eq]; simp [binOp, Op.intArith]; rfl
  · rename_i m n
    simp only [Option.some.injEq] at h; subst h; simp only [wrapF_eq]
    have hb : binOp .and t (.int k (Int.ofNat m)) (.int k (Int.ofNat n)) = Op.intBits .and k (Int.ofNat m) (Int.ofNat n) := by simp [binOp]
    rw [hb]
    simp only [Op.intBits, BitVec.toNat_and, ofInt_nat]; rfl
  · rename_i m n
    simp only [Option.some.injEq] at h; subst h; simp only [wrapF_eq]
    have hb : binOp .or t (.int k (Int.ofNat m)) (.int k (Int.ofNat n)) = Op.intBits .or k (Int.ofNat m) (Int.ofNat n) := by simp [binOp]
    rw [hb]
    simp only [Op.intBits, BitVec.toNat_or, ofInt_nat]; rfl
  · rename_i m n
    simp only [Option.some.injEq] at h; subst h; simp only [wrapF_eq]
    have hb : binOp .xor t (.int k (Int.ofNat m)) (.int k (Int.ofNat n)) = Op.intBits .xor k (Int.ofNat m) (Int.ofNat n) := by simp [binOp]
    rw [hb]
    simp only [Op.intBits, BitVec.toNat_xor, ofInt_nat]; rfl
  · rename_i m n
    simp only [Option.some.injEq] at h; subst h
    have e : Nat.beq m n = (Int.ofNat m == Int.ofNat n) := by
      rw [Bool.eq_iff_iff]; simp; omega
    rw [e]; simp [binOp, Op.intCmp]; rfl
  · rename_i m n
    simp only [Option.some.injEq] at h; subst h
    have e : Nat.beq m n = (Int.ofNat m == Int.ofNat n) := by
      rw [Bool.eq_iff_iff]; simp; omega
    rw [e]; simp [binOp, Op.intCmp]; rfl
  · rename_i m n
    simp only [Option.some.injEq] at h; subst h
    have e : Nat.ble (m + 1) n = decide (Int.ofNat m < Int.ofNat n) := by
      rw [Bool.eq_iff_iff]; simp; omega
    rw [e]; simp [binOp, Op.intCmp]; rfl
  · rename_i m n
    simp only [Option.some.injEq] at h; subst h
    have e : Nat.ble m n = decide (Int.ofNat m ≤ Int.ofNat n) := by
      rw [Bool.eq_iff_iff]; simp
    rw [e]; simp [binOp, Op.intCmp]; rfl
  · rename_i m n
    simp only [Option.some.injEq] at h; subst h
    have e : Nat.ble (n + 1) m = decide (Int.ofNat m > Int.ofNat n) := by
      rw [Bool.eq_iff_iff]; simp; omega
    rw [e]; simp [binOp, Op.intCmp]; rfl
  · rename_i m n
    simp only [Option.some.injEq] at h; subst h
    have e : Nat.ble n m = decide (Int.ofNat m ≥ Int.ofNat n) := by
      rw [Bool.eq_iff_iff]; simp
    rw [e]; simp [binOp, Op.intCmp]; rfl
  · rename_i m n
    cases hn : Nat.beq n 0
    · rw [hn] at h; simp only [cond_false, Option.some.injEq] at h; subst h
      have h0 : ¬ (Int.ofNat n = 0) := by intro e; have : n = 0 := by simpa using e
                                          subst this; simp at hn
      have hb : binOp .quo t (.int k (Int.ofNat m)) (.int k (Int.ofNat n)) = Op.intDiv .quo k (Int.ofNat m) (Int.ofNat n) := by simp [binOp]
      rw [hb]
      simp only [Op.intDiv, if_neg h0, wrapF_eq]; rfl
    · rw [hn] at h; cases h
  · rename_i m n
    cases hn : Nat.beq n 0
    · rw [hn] at h; simp only [cond_false, Option.some.injEq] at h; subst h
      have h0 : ¬ (Int.ofNat n = 0) := by intro e; have : n = 0 := by simpa using e
                                          subst this; simp at hn
      have hb : binOp .rem t (.int k (Int.ofNat m)) (.int k (Int.ofNat n)) = Op.intDiv .rem k (Int.ofNat m) (Int.ofNat n) := by simp [binOp]
      rw [hb]
      simp only [Op.intDiv, if_neg h0]; rfl
    · rw [hn] at h; cases h
  · split at h
    · rename_i hh
      simp only [Option.some.injEq] at h; subst h
      rw [← hh]
      cases op <;> simp_all [binOp] <;> rfl
    · cases h

end Go.AM
