/- AM: integers, quick for the kernel; each law says that the model has the same. -/
import GoSem.Dispatch
import Derived.Below
namespace Go.AM
open Go

def modulus : IntKind → Nat
  | .i8 | .u8 => 256
  | .i16 | .u16 => 65536
  | .i32 | .u32 => 4294967296
  | .i64 | .u64 => 18446744073709551616

theorem modulus_eq (k : IntKind) : modulus k = 2 ^ k.bits := by cases k <;> rfl

def wrapF (k : IntKind) (n : Int) : Int :=
  match k, n with
  | .u8, .ofNat m => .ofNat (Nat.mod m 256)
  | .u16, .ofNat m => .ofNat (Nat.mod m 65536)
  | .u32, .ofNat m => .ofNat (Nat.mod m 4294967296)
  | .u64, .ofNat m => .ofNat (Nat.mod m 18446744073709551616)
  | .i64, .ofNat m => bif Nat.ble m 9223372036854775807 then .ofNat m else IntKind.i64.wrap (.ofNat m)
  | .i64, .negSucc m => bif Nat.ble m 9223372036854775807 then .negSucc m else IntKind.i64.wrap (.negSucc m)
  | k, n => k.wrap n

theorem natMod (m j : Nat) : Nat.mod m j = m % j := rfl

theorem i64_in (n : Int) (h1 : -9223372036854775808 ≤ n) (h2 : n ≤ 9223372036854775807) : IntKind.i64.wrap n = n := by
  have e1 : ((2 : Int) ^ IntKind.i64.bits) = 18446744073709551616 := by decide +kernel
  have e2 : ((2 : Int) ^ (IntKind.i64.bits - 1)) = 9223372036854775808 := by decide +kernel
  have e3 : IntKind.i64.signed = true := rfl
  unfold IntKind.wrap
  rw [e1, e2, e3]
  simp only [Bool.true_and, decide_eq_true_eq, ge_iff_le]
  split <;> omega

theorem u_wrap (k : IntKind) (hk : k.signed = false) (m : Nat) : k.wrap (Int.ofNat m) = Int.ofNat (Nat.mod m (modulus k)) := by
  unfold IntKind.wrap
  rw [hk, modulus_eq]
  simp
  rfl

theorem wrapF_u8 (m : Nat) : wrapF .u8 (.ofNat m) = IntKind.u8.wrap (.ofNat m) := by rw [u_wrap .u8 rfl m]; rfl
theorem wrapF_u16 (m : Nat) : wrapF .u16 (.ofNat m) = IntKind.u16.wrap (.ofNat m) := by rw [u_wrap .u16 rfl m]; rfl
theorem wrapF_u32 (m : Nat) : wrapF .u32 (.ofNat m) = IntKind.u32.wrap (.ofNat m) := by rw [u_wrap .u32 rfl m]; rfl
theorem wrapF_u64 (m : Nat) : wrapF .u64 (.ofNat m) = IntKind.u64.wrap (.ofNat m) := by rw [u_wrap .u64 rfl m]; rfl
theorem wrapF_i64a (m : Nat) : wrapF .i64 (.ofNat m) = IntKind.i64.wrap (.ofNat m) := by
  unfold wrapF
  show (bif Nat.ble m 9223372036854775807 then Int.ofNat m else IntKind.i64.wrap (.ofNat m)) = _
  cases h : Nat.ble m 9223372036854775807
  · exact cond_false _ _
  · have h1 : m ≤ 9223372036854775807 := Nat.le_of_ble_eq_true h
    have h2 : IntKind.i64.wrap (Int.ofNat m) = Int.ofNat m := i64_in _ (by simp only [Int.ofNat_eq_natCast]; omega) (by simp only [Int.ofNat_eq_natCast]; omega)
    rw [h2]; exact cond_true _ _
theorem wrapF_i64b (m : Nat) : wrapF .i64 (.negSucc m) = IntKind.i64.wrap (.negSucc m) := by
  unfold wrapF
  show (bif Nat.ble m 9223372036854775807 then Int.negSucc m else IntKind.i64.wrap (.negSucc m)) = _
  cases h : Nat.ble m 9223372036854775807
  · exact cond_false _ _
  · have h1 : m ≤ 9223372036854775807 := Nat.le_of_ble_eq_true h
    have h2 : IntKind.i64.wrap (Int.negSucc m) = Int.negSucc m := i64_in _ (by omega) (by omega)
    rw [h2]; exact cond_true _ _

theorem wrapF_eq (k : IntKind) (n : Int) : wrapF k n = k.wrap n := by
  cases k with
  | u8 => cases n with | ofNat m => exact wrapF_u8 m | negSucc m => rfl
  | u16 => cases n with | ofNat m => exact wrapF_u16 m | negSucc m => rfl
  | u32 => cases n with | ofNat m => exact wrapF_u32 m | negSucc m => rfl
  | u64 => cases n with | ofNat m => exact wrapF_u64 m | negSucc m => rfl
  | i64 => cases n with | ofNat m => exact wrapF_i64a m | negSucc m => exact wrapF_i64b m
  | i8 => cases n <;> rfl
  | i16 => cases n <;> rfl
  | i32 => cases n <;> rfl

def intV (op : BinOp) (k : IntKind) (a b : Int) : Option Value :=
  match op, a, b with
  | .add, a, b => some (.int k (wrapF k (Int.add a b)))
  | .sub, a, b => some (.int k (wrapF k (Int.sub a b)))
  | .mul, a, b => some (.int k (wrapF k (Int.mul a b)))
  | .and, .ofNat m, .ofNat n => some (.int k (wrapF k (.ofNat (Nat.land (Nat.mod m (modulus k)) (Nat.mod n (modulus k))))))
  | .or, .ofNat m, .ofNat n => some (.int k (wrapF k (.ofNat (Nat.lor (Nat.mod m (modulus k)) (Nat.mod n (modulus k))))))
  | .xor, .ofNat m, .ofNat n => some (.int k (wrapF k (.ofNat (Nat.xor (Nat.mod m (modulus k)) (Nat.mod n (modulus k))))))
  | .eql, .ofNat m, .ofNat n => some (.bool (Nat.beq m n))
  | .neq, .ofNat m, .ofNat n => some (.bool (!Nat.beq m n))
  | .lss, .ofNat m, .ofNat n => some (.bool (Nat.ble (m + 1) n))
  | .leq, .ofNat m, .ofNat n => some (.bool (Nat.ble m n))
  | .gtr, .ofNat m, .ofNat n => some (.bool (Nat.ble (n + 1) m))
  | .geq, .ofNat m, .ofNat n => some (.bool (Nat.ble n m))
  | .quo, .ofNat m, .ofNat n => bif Nat.beq n 0 then none else some (.int k (wrapF k (.ofNat (Nat.div m n))))
  | .rem, .ofNat m, .ofNat n => bif Nat.beq n 0 then none else some (.int k (.ofNat (Nat.mod m n)))
  | op, a, b => match (match op with
      | .and | .or | .xor | .andNot => Op.intBits op k a b
      | .quo | .rem => Op.intDiv op k a b
      | _ => Op.intCmp op a b) with
    | .pure v => some v
    | _ => none

def shiftV (op : BinOp) (k : IntKind) (a : Int) (b : Int) : Option Value :=
  match op, a, b with
  | .shl, .ofNat m, .ofNat n => some (.int k (wrapF k (.ofNat (Nat.mul m (Nat.pow 2 (Nat.min n k.bits))))))
  | .shr, .ofNat m, .ofNat n => some (.int k (.ofNat (Nat.div m (Nat.pow 2 (Nat.min n k.bits)))))
  | op, a, b => match Op.shift op k a .i64 b with
    | .pure v => some v
    | _ => none

theorem ofInt_toNat (w m : Nat) : (BitVec.ofInt w (Int.ofNat m)).toNat = m % 2 ^ w := by
  simp

theorem shiftV_spec (op : BinOp) (hop : op = .shl ∨ op = .shr) (k yk : IntKind) (a b : Int) (t : TypeId) (v : Value) (h : shiftV op k a b = some v) :
    binOp op t (.int k a) (.int yk b) = .pure v := by
  have e : binOp op t (.int k a) (.int yk b) = Op.shift op k a yk b := by rcases hop with rfl | rfl <;> rfl
  rw [e]
  unfold shiftV at h
  split at h
  · rename_i m n
    simp only [Option.some.injEq] at h; subst h
    have h1 : ¬ (Int.ofNat n < 0) := by simp
    have h2 : (Int.ofNat n).toNat = n := rfl
    simp only [Op.shift, if_neg h1, h2, wrapF_eq]
    show Sem.pure _ = Sem.pure _
    congr 3
  · rename_i m n
    simp only [Option.some.injEq] at h; subst h
    have h1 : ¬ (Int.ofNat n < 0) := by simp
    have h2 : (Int.ofNat n).toNat = n := rfl
    simp only [Op.shift, if_neg h1, h2]
    show Sem.pure _ = Sem.pure _
    congr 2
    have : (2 : Int) ^ (min n k.bits) = ((2 ^ (min n k.bits) : Nat) : Int) := by simp
    rw [this, Int.fdiv_eq_ediv_of_nonneg _ (Int.natCast_nonneg _)]
    rfl
  · have : Op.shift op k a yk b = Op.shift op k a .i64 b := rfl
    rw [this]
    split at h
    · rename_i hh; rw [hh]; simpa using h
    · cases h

theorem modulus_pos (k : IntKind) : 0 < modulus k := by cases k <;> decide

theorem ofInt_nat (k : IntKind) (m : Nat) : (BitVec.ofInt k.bits (Int.ofNat m)).toNat = Nat.mod m (modulus k) := by
  rw [ofInt_toNat, ← modulus_eq]; rfl

theorem intV_spec (op : BinOp) (h1 : op ≠ .shl) (h2 : op ≠ .shr) (k : IntKind) (a b : Int) (t : TypeId) (v : Value) (h : intV op k a b = some v) :
    binOp op t (.int k a) (.int k b) = .pure v := by
  unfold intV at h
  split at h
  · simp only [Option.some.injEq] at h; subst h; simp only [wrapF_eq]; simp [binOp, Op.intArith]; rfl
  · simp only [Option.some.injEq] at h; subst h; simp only [wrapF_eq]; simp [binOp, Op.intArith]; rfl
  · simp only [Option.some.injEq] at h; subst h; simp only [wrapF_eq]; simp [binOp, Op.intArith]; rfl
  · rename_i m n
    simp only [Option.some.injEq] at h; subst h; simp only [wrapF_eq]
    have hb : binOp .and t (.int k (Int.ofNat m)) (.int k (Int.ofNat n)) = Op.intBits .and k (Int.ofNat m) (Int.ofNat n) := by simp [binOp]
    rw [hb]
    simp only [Op.intBits, BitVec.toNat_and, ofInt_nat]; rfl
  · rename_i m n
    simp only [Option.some.injEq] at h; subst h; simp only [wrapF_eq]
    have hb : binOp .or t (.int k (Int.ofNat m)) (.int k (Int.ofNat n)) = Op.intBits .or k (Int.ofNat m) (Int.ofNat n) := by simp [binOp]
    rw [hb]
    simp only [Op.intBits, BitVec.toNat_or, ofInt_nat]; rfl
  · rename_i m n
    simp only [Option.some.injEq] at h; subst h; simp only [wrapF_eq]
    have hb : binOp .xor t (.int k (Int.ofNat m)) (.int k (Int.ofNat n)) = Op.intBits .xor k (Int.ofNat m) (Int.ofNat n) := by simp [binOp]
    rw [hb]
    simp only [Op.intBits, BitVec.toNat_xor, ofInt_nat]; rfl
  · rename_i m n
    simp only [Option.some.injEq] at h; subst h
    have e : Nat.beq m n = (Int.ofNat m == Int.ofNat n) := by
      rw [Bool.eq_iff_iff]; simp; omega
    rw [e]; simp [binOp, Op.intCmp]; rfl
  · rename_i m n
    simp only [Option.some.injEq] at h; subst h
    have e : Nat.beq m n = (Int.ofNat m == Int.ofNat n) := by
      rw [Bool.eq_iff_iff]; simp; omega
    rw [e]; simp [binOp, Op.intCmp]; rfl
  · rename_i m n
    simp only [Option.some.injEq] at h; subst h
    have e : Nat.ble (m + 1) n = decide (Int.ofNat m < Int.ofNat n) := by
      rw [Bool.eq_iff_iff]; simp; omega
    rw [e]; simp [binOp, Op.intCmp]; rfl
  · rename_i m n
    simp only [Option.some.injEq] at h; subst h
    have e : Nat.ble m n = decide (Int.ofNat m ≤ Int.ofNat n) := by
      rw [Bool.eq_iff_iff]; simp
    rw [e]; simp [binOp, Op.intCmp]; rfl
  · rename_i m n
    simp only [Option.some.injEq] at h; subst h
    have e : Nat.ble (n + 1) m = decide (Int.ofNat m > Int.ofNat n) := by
      rw [Bool.eq_iff_iff]; simp; omega
    rw [e]; simp [binOp, Op.intCmp]; rfl
  · rename_i m n
    simp only [Option.some.injEq] at h; subst h
    have e : Nat.ble n m = decide (Int.ofNat m ≥ Int.ofNat n) := by
      rw [Bool.eq_iff_iff]; simp
    rw [e]; simp [binOp, Op.intCmp]; rfl
  · rename_i m n
    cases hn : Nat.beq n 0
    · rw [hn] at h; simp only [cond_false, Option.some.injEq] at h; subst h
      have h0 : ¬ (Int.ofNat n = 0) := by intro e; have : n = 0 := by simpa using e
                                          subst this; simp at hn
      have hb : binOp .quo t (.int k (Int.ofNat m)) (.int k (Int.ofNat n)) = Op.intDiv .quo k (Int.ofNat m) (Int.ofNat n) := by simp [binOp]
      rw [hb]
      simp only [Op.intDiv, if_neg h0, wrapF_eq]; rfl
    · rw [hn] at h; cases h
  · rename_i m n
    cases hn : Nat.beq n 0
    · rw [hn] at h; simp only [cond_false, Option.some.injEq] at h; subst h
      have h0 : ¬ (Int.ofNat n = 0) := by intro e; have : n = 0 := by simpa using e
                                          subst this; simp at hn
      have hb : binOp .rem t (.int k (Int.ofNat m)) (.int k (Int.ofNat n)) = Op.intDiv .rem k (Int.ofNat m) (Int.ofNat n) := by simp [binOp]
      rw [hb]
      simp only [Op.intDiv, if_neg h0]; rfl
    · rw [hn] at h; cases h
  · split at h
    · rename_i hh
      simp only [Option.some.injEq] at h; subst h
      rw [← hh]
      cases op <;> simp_all [binOp] <;> rfl
    · cases h

end Go.AM
namespace Go.AM
open Go
noncomputable section

/-! trees of things by number -/
inductive T (α : Type) where
  | leaf
  | node (l : T α) (v : α) (r : T α)

def T.get {α : Type} (t : T α) : Nat → Option α :=
  T.rec (fun _ => none) (fun _ v _ ihl ihr n => bif Nat.beq n 0 then some v else bif Nat.beq (Nat.mod n 2) 1 then ihl (Nat.div n 2) else ihr (Nat.pred (Nat.div n 2))) t

/-- in place of what is there; nothing where nothing is -/
def T.mod {α : Type} (t : T α) : Nat → α → T α :=
  T.rec (fun _ _ => .leaf) (fun l v r ihl ihr n x => bif Nat.beq n 0 then .node l x r else bif Nat.beq (Nat.mod n 2) 1 then .node (ihl (Nat.div n 2) x) v r else .node l v (ihr (Nat.pred (Nat.div n 2)) x)) t

/-- a full tree of n things -/
def T.build {α : Type} (f : Nat → α) : Nat → Nat → Nat → Nat → T α
  | 0, _, _, _ => .leaf
  | fuel + 1, n, a, b => bif n.beq 0 then .leaf
    else .node (T.build f fuel (n / 2) (2 * a) (a + b)) (f b) (T.build f fuel ((n - 1) / 2) (2 * a) (2 * a + b))

/-- one more at the end, the n-th of a full tree -/
def T.push {α : Type} (x : α) : Nat → T α → Nat → T α
  | 0, t, _ => t
  | _ + 1, .leaf, _ => .node .leaf x .leaf
  | f + 1, .node l v r, n => bif (n % 2).beq 1 then .node (T.push x f l (n / 2)) v r else .node l v (T.push x f r (n / 2 - 1))

/-- how many cells of a block, from the first one on, a text shares; does something lie behind its end that is marked? -/
structure Fz where
  z : Nat
  s : Bool
  deriving DecidableEq

inductive Blk where
  | cells (elem : TypeId) (vs : List Value) (opn : Bool) (frz : Fz)
  | map (es : List (Value × Value × Nat)) (clock : Nat)
  | iter (m : Option Nat) (since : Nat) (seen : List Nat) (last : Nat)
  | dead
  /-- a table that none writes, of whatever type -/
  | tab (vs : List Value)

structure Heap where
  n : Nat
  t : T Blk

/-- the capacity of a slice of which it is not known -/
def OPEN : Nat := 2 ^ 64

/-- what is left of a slice behind its end: no element, whatever the address and the capacity -/
def EMP : Value := .slice (some ⟨0, 0, some 0⟩) 0 OPEN

/-- constants that stand for themselves, whatever the memory -/
def NANB : Nat := 2 ^ 64

def flat : Value → Bool
  | .float _ b => b.blt NANB
  | .slice none n c => Nat.beq n 0 && Nat.beq c 0
  | .bool _ | .int _ _ | .string _ | .pointer none | .map none | .nilFunc | .nilIface => true
  | _ => false

structure TI where
  u : TypeDesc
  agg : Bool
  size : Nat
  zero : Option Value
  bytes : Nat
  eqG : Bool
  stood : Bool
  methods : Array Method

def TI.of (P : Program) (t : TypeId) : Option TI :=
  match P.info? t, P.underlying t with
  | some i, some u => some ⟨u, (match u with | .struct _ | .array _ _ => true | _ => false), i.size, (match i.zero with | some z => bif z.cells.toList.all flat then some z else none | none => none), i.bytes, P.eqGuardType P.depth t, P.stoodInHeld t, i.methods⟩
  | _, _ => none

structure FI where
  body : Code
  ntmps : Nat
  results : List ResultVar

def FI.of (P : Program) (f : FuncId) : Option FI :=
  match P.funcs[f]? with
  | some fn => match fn.body with
    | some b => bif fn.name == "runtime.NumGoroutine" then none else some ⟨b, fn.ntmps, fn.results.toList⟩
    | none => none
  | none => none

abbrev Prim := List Value → Heap → Option (Value × Heap)

/-- what stands for a value that is not known -/
def symV (k : Nat) : Value := .chan (some k)
def isSym : Value → Bool
  | .chan _ => true
  | _ => false
def req : Value → Value → Bool
  | .chan (some a), .chan (some b) => Nat.beq a b
  | .int k a, .int j b => decide (k = j) && decide (a = b)
  | .string a, .string b => decide (a.data.toList = b.data.toList)
  | .bool a, .bool b => a == b
  | _, _ => false
def opIx : BinOp → Nat
  | .eql => 1 | .neq => 2 | .lss => 3 | .leq => 4 | .gtr => 5 | .geq => 6 | .add => 7 | .rem => 8 | _ => 0
/-- what an operation comes to on values that are not known: taken at its word -/
structure Rule where
  op : Nat
  t : TypeId
  x : Value
  y : Value
  r : Value

structure Ctx where
  P : Program
  ty : T (Option TI)
  fn : T (Option FI)
  pr : T (Option Prim)
  base : Nat
  /-- no number of a block below this is given anew: for proofs alone -/
  lo : Nat
  rules : List Rule

def Ctx.from (C : Ctx) (n : Nat) : Ctx := ⟨C.P, C.ty, C.fn, C.pr, C.base, n, C.rules⟩

def ruleIn (op : Nat) (t : TypeId) (x y : Value) : List Rule → Option Value
  | [] => none
  | u :: l => bif Nat.beq u.op op && Nat.beq u.t t && req u.x x && req u.y y then some u.r else ruleIn op t x y l

def Ctx.tyOf (C : Ctx) (t : TypeId) : Option TI := match C.ty.get t with | some x => x | none => none
def Ctx.fnOf (C : Ctx) (f : FuncId) : Option FI := match C.fn.get f with | some x => x | none => none
def Ctx.prOf (C : Ctx) (f : FuncId) : Option Prim := match C.pr.get f with | some x => x | none => none

/-! the heap -/
def Heap.blk (H : Heap) (b : Nat) : Option Blk := H.t.get b

def consO {α : Type} (x : α) : Option (List α) → Option (List α)
  | some l => some (x :: l)
  | none => none

def takeN {α : Type} : Nat → List α → Option (List α) :=
  Nat.rec (fun _ => some []) (fun _ ih l => match l with | [] => none | x :: xs => consO x (ih xs))

def Heap.cells (H : Heap) (b off n : Nat) : Option (List Value) :=
  match H.blk b with
  | some (.cells _ vs _ _) => takeN n (vs.drop off)
  | some (.tab vs) => takeN n (vs.drop off)
  | _ => none

def Heap.cell (H : Heap) (b off : Nat) : Option Value :=
  match H.blk b with
  | some (.cells _ vs _ _) => vs[off]?
  | some (.tab vs) => vs[off]?
  | _ => none

def Heap.set (H : Heap) (b : Nat) (x : Blk) : Heap := ⟨H.n, H.t.mod b x⟩

def LIMIT : Nat := 2 ^ 22

/-- a new block: its number, and the heap -/
def Heap.new (H : Heap) (x : Blk) : Option (Nat × Heap) :=
  bif H.n.blt LIMIT then some (H.n, ⟨H.n + 1, H.t.push x 24 H.n⟩) else none

def setAt {α : Type} : List α → Nat → List α → List α
  | [], _, _ => []
  | x :: xs, 0, ys => match ys with | [] => x :: xs | y :: ys => y :: setAt xs 0 ys
  | x :: xs, n + 1, ys => x :: setAt xs n ys

def oneCells : List Value → Bool
  | [] => true
  | .agg _ :: _ | .tuple _ :: _ => false
  | _ :: l => oneCells l

def Heap.store (H : Heap) (base b off : Nat) (l : List Value) : Option Heap :=
  match H.blk b with
  | some (.cells e vs o z) => bif base.ble b && (off + l.length).ble vs.length && Nat.ble z.z off && oneCells l then some (H.set b (.cells e (setAt vs off l) o z)) else none
  | _ => none

/-! values -/
abbrev Env := Operand → Option Value

def evT (base : Nat) (tm : T Value) : Env
  | .tmp t => tm.get t
  | .const v => bif flat v then some v else none
  | .global g => bif g.blt base then some (.pointer (some ⟨g, 0, none⟩)) else none
  | .func f => some (.func (.func f) #[] #[])

/-- the same, but of temporaries only those listed -/
def evR (base : Nat) (L : List Tmp) (tm : T Value) : Env
  | .tmp t => bif L.any (fun x => Nat.beq t x) then tm.get t else none
  | x => evT base tm x

def pureOf {α : Type} : Sem α → Option α
  | .pure a => some a
  | _ => none

def flatOf (s : Sem Value) : Option Value :=
  match s with
  | .pure v => bif flat v then some v else none
  | _ => none

def consV (v : Option Value) (l : Option (List Value)) : Option (List Value) :=
  match v with | some v => consO v l | none => none

def evL (ρ : Env) : List Operand → Option (List Value) :=
  List.rec (some []) (fun x _ ih => consV (ρ x) ih)

def evO (ρ : Env) : Option Operand → Option (Option Value)
  | none => some none
  | some x => match ρ x with | some v => some (some v) | none => none

def partV (agg : Bool) (size : Nat) (cs : Array Value) (off : Nat) : Option Value :=
  bif agg then (bif (off + size).ble cs.size then some (.agg (cs.extract off (off + size))) else none) else cs[off]?

def eqF (C : Ctx) (eq : TypeId → Value → Value → Option Bool) (xs ys : Array Value) : List Field → Option Bool
  | [] => some true
  | f :: fs =>
    bif f.name == "_" then none else
    match C.tyOf f.type with
    | none => none
    | some i => match partV i.agg i.size xs f.offset, partV i.agg i.size ys f.offset with
      | some a, some b => match eq f.type a b with
        | some true => eqF C eq xs ys fs
        | some false => some false
        | none => none
      | _, _ => none

def eqA (eq : Value → Value → Option Bool) (xs ys : Array Value) (size : Nat) (agg : Bool) : Nat → Nat → Option Bool
  | 0, _ => some true
  | n + 1, k =>
    match partV agg size xs (k * size), partV agg size ys (k * size) with
    | some a, some b => match eq a b with
      | some true => eqA eq xs ys size agg n (k + 1)
      | some false => some false
      | none => none
    | _, _ => none

/-- are two values of a type one? none: not known here. -/
def eqV (C : Ctx) : Nat → TypeId → Value → Value → Option Bool
  | 0, _, _, _ => none
  | d + 1, t, x, y =>
    match C.tyOf t with
    | none => none
    | some i =>
      match i.u, x, y with
      | .bool, .bool a, .bool b => some (a == b)
      | .int _, .int k a, .int k' b => if k = k' then some (a == b) else none
      | .string, .string a, .string b => some (a == b)
      | .pointer _, .pointer none, .pointer b => some b.isNone
      | .pointer _, .pointer (some _), .pointer none => some false
      | .pointer e, .pointer (some ⟨b, o, none⟩), .pointer (some ⟨b', o', none⟩) =>
        match C.tyOf e with
        | some j => bif b.beq b' && !j.size.beq 0 then some (o == o') else none
        | none => none
      | .slice _, .slice none _ _, .slice b _ _ => some b.isNone
      | .slice _, .slice (some _) _ _, .slice none _ _ => some false
      | .map _ _, .map none, .map b => some b.isNone
      | .map _ _, .map (some _), .map none => some false
      | .interface _, .nilIface, .iface _ _ => some false
      | .interface _, .iface _ _, .nilIface => some false
      | .struct fs, .agg xs, .agg ys => bif i.stood then none else eqF C (eqV C d) xs ys fs.toList
      | .array n e, .agg xs, .agg ys => match C.tyOf e with | some j => eqA (eqV C d e) xs ys j.size j.agg n 0 | none => none
      | _, _, _ => none

/-! operations that do not look at the heap -/
def floatV (op : BinOp) (k : FloatKind) (a : Nat) (k' : FloatKind) (b : Nat) : Option Value :=
  if k ≠ k' ∨ k ≠ .f64 then none else
  bif a.blt NANB && b.blt NANB then
    let r (x : Option Nat) : Option Value := match x with | some v => flatOf (.pure (.float k v)) | none => some (.float k NANB)
    match op with
    | .add => r (k.format.add a b)
    | .sub => r (k.format.sub a b)
    | .mul => r (k.format.mul a b)
    | .quo => r (k.format.div a b)
    | _ => flatOf (Op.floatCmp op k a b)
  else
    match op with
    | .eql | .lss | .leq | .gtr | .geq => some (.bool false)
    | .neq => some (.bool true)
    | _ => none

def isAggV : Value → Bool
  | .agg _ => true
  | _ => false

def binV (C : Ctx) (op : BinOp) (t : TypeId) (x y : Value) : Option Value :=
  match x, y with
  | .int k a, .int k' b => match op with
    | .shl | .shr => shiftV op k a b
    | op => if k = k' then intV op k a b else none
  | .float k a, .float k' b => floatV op k a k' b
  | .string a, .string b => flatOf (Op.stringOp op a b)
  | x, y =>
    match C.tyOf t with
    | none => none
    | some i =>
      bif i.eqG && isAggV x then none else
      match op with
      | .eql => match eqV C 12 t x y with | some b => some (.bool b) | none => none
      | .neq => match eqV C 12 t x y with | some b => some (.bool (!b)) | none => none
      | _ => none

def convV (C : Ctx) (dst : TypeId) (x : Value) : Option Value :=
  match C.tyOf dst, x with
  | some i, .int _ n => match i.u with
    | .int k => some (.int k (wrapF k n))
    | .float k => some (.float k (k.nearest n))
    | _ => none
  | some i, .string s => match i.u with | .string => some (.string s) | _ => none
  | _, _ => none

/-- bounds of a slice expression: low, high -/
def natOf : Value → Option Nat
  | .int _ (.ofNat n) => some n
  | _ => none

def boundOf (most : Nat) : Option Value → Nat → Option Nat
  | none, d => some d
  | some v, _ => match natOf v with | some n => bif n.ble most then some n else none | none => none

def sliceV (C : Ctx) (t : TypeId) (x : Value) (lo hi mx : Option Value) : Option Value :=
  match C.tyOf t, x with
  | some i, .string s =>
    match i.u, mx with
    | .string, none =>
      match boundOf s.size hi s.size with
      | some h => match boundOf h lo 0 with
        | some l => some (.string (s.extract l h))
        | none => none
      | none => none
    | _, _ => none
  | some i, .slice none len cap =>
    match i.u with
    | .slice e =>
      match C.tyOf e with
      | none => none
      | some _ =>
        match boundOf cap mx cap with
        | none => none
        | some m => match boundOf m hi len with
          | none => none
          | some h => match boundOf h lo 0 with
            | none => none
            | some _ => some (.slice none 0 0)
    | _ => none
  | some i, .slice (some a) len cap =>
    match i.u with
    | .slice e =>
      match C.tyOf e with
      | none => none
      | some j =>
        bif OPEN.ble cap then
          match mx with
          | some _ => none
          | none => match boundOf len hi len with
            | none => none
            | some h => match boundOf h lo 0 with
              | none => none
              | some l => bif a.spot.isNone && (l.blt len || l.beq 0) && cap.beq (OPEN + j.size) then some (.slice (some (a.add (l * j.size))) (h - l) cap)
                else bif a.spot.isNone && l.beq len && cap.beq (OPEN + j.size) then some EMP else none
        else
          match boundOf cap mx cap with
          | none => none
          | some m => match boundOf m hi len with
            | none => none
            | some h => match boundOf h lo 0 with
              | none => none
              | some l => some (.slice (some (bif Nat.beq m l then a else a.add (l * j.size))) (h - l) (m - l))
    | _ => none
  | some i, .pointer (some a) =>
    match i.u with
    | .array n e =>
      match C.tyOf e with
      | none => none
      | some j =>
        match boundOf n mx n with
        | none => none
        | some m => match boundOf m hi n with
          | none => none
          | some h => match boundOf h lo 0 with
            | none => none
            | some l => bif m.blt OPEN then some (.slice (some (bif Nat.beq m l then a else a.add (l * j.size))) (h - l) (m - l)) else none
    | _ => none
  | _, _ => none

def indexAddrV (C : Ctx) (t : TypeId) (x i : Value) : Option Value :=
  match C.tyOf t, natOf i with
  | some ti, some n =>
    match ti.u, x with
    | .array len e, .pointer (some a) =>
      bif n.blt len then (match C.tyOf e with | some j => some (.pointer (some (a.add (n * j.size)))) | none => none) else none
    | .slice e, .slice (some a) len _ =>
      bif n.blt len then (match C.tyOf e with | some j => some (.pointer (some (a.add (n * j.size)))) | none => none) else none
    | _, _ => none
  | _, _ => none

def indexV (C : Ctx) (t : TypeId) (x i : Value) : Option Value :=
  match C.tyOf t, natOf i with
  | some ti, some n =>
    match ti.u, x with
    | .array len e, .agg cs =>
      bif n.blt len then (match C.tyOf e with | some j => partV j.agg j.size cs (n * j.size) | none => none) else none
    | .string, .string s => match s[n]? with | some b => some (.int .u8 b.toNat) | none => none
    | _, _ => none
  | _, _ => none

def fieldOf (C : Ctx) (t : TypeId) (f : Nat) : Option (Field × TI) :=
  match C.tyOf t with
  | some i => match i.u with
    | .struct fs => match fs[f]? with
      | some fd => match C.tyOf fd.type with | some j => some (fd, j) | none => none
      | none => none
    | _ => none
  | none => none

def placesOf (C : Ctx) : List Field → Option (List (Nat × Nat))
  | [] => some []
  | f :: fs => match C.tyOf f.type, placesOf C fs with
    | some j, some l => some ((f.offset, j.size) :: l)
    | _, _ => none

def buildV (C : Ctx) (t : TypeId) (parts : List (Nat × Value)) : Option Value :=
  match C.tyOf t with
  | none => none
  | some i => match i.zero with
    | none => none
    | some z => match i.u with
      | .struct fs =>
        match placesOf C fs.toList with
        | some pl => match Instr.fill (fun n => pl[n]?) z.cells parts with
          | some cs => some (.agg cs)
          | none => none
        | none => none
      | .array _ e => match C.tyOf e with
        | some j => match Instr.fill (fun n => some (n * j.size, j.size)) z.cells parts with
          | some cs => some (.agg cs)
          | none => none
        | none => none
      | _ => none

def evP (ρ : Env) : List (Nat × Operand) → Option (List (Nat × Value))
  | [] => some []
  | (i, x) :: xs => match ρ x with
    | some v => match evP ρ xs with | some l => some ((i, v) :: l) | none => none
    | none => none

def minV (x y : Value) : Option Value :=
  match x, y with
  | .int k a, .int _ b => some (.int k (if b < a then b else a))
  | _, _ => none
def maxV (x y : Value) : Option Value :=
  match x, y with
  | .int k a, .int _ b => some (.int k (if b > a then b else a))
  | _, _ => none

def foldV (f : Value → Value → Option Value) : Value → List Value → Option Value
  | a, [] => some a
  | a, b :: l => match f a b with | some v => foldV f v l | none => none

inductive Cls where
  | p | r | b

def clsConv (C : Ctx) (s d : TypeId) : Cls :=
  match C.tyOf s, C.tyOf d with
  | some i, some j => match i.u, j.u with
    | .string, .slice _ => .b
    | .slice _, .string => .r
    | .pointer _, .unsafePointer => .r
    | .unsafePointer, .pointer _ => .r
    | _, _ => .p
  | _, _ => .p

def clsCall (c : Call) : Cls :=
  match c.callee with
  | .builtin .len => .r
  | .builtin .min | .builtin .max | .builtin .cap | .builtin .unsafeSliceData => .p
  | _ => .b

def cls (C : Ctx) : Op → Cls
  | .move _ | .assign _ | .pick .. | .binOp .. | .unOp .. | .nilCheck _ | .fieldAddr .. | .field .. | .indexAddr .. | .index .. | .slice ..
  | .makeInterface .. | .makeFunc .. | .extract .. | .typeAssert .. | .build .. | .sliceToArrayPointer .. => .p
  | .convert s d _ => clsConv C s d
  | .load .. | .lookup .. | .entry _ => .r
  | .call c => clsCall c
  | _ => .b

def pPick (ρ : Env) (c a b : Operand) : Option Value :=
  match ρ c with | some (.bool true) => ρ a | some (.bool false) => ρ b | _ => none
def pBin (C : Ctx) (ρ : Env) (op : BinOp) (t : TypeId) (x y : Operand) : Option Value :=
  match ρ x with
  | some a => match ρ y with | some b => bif isSym a || isSym b then (bif Nat.beq (opIx op) 0 then none else ruleIn (opIx op) t a b C.rules) else binV C op t a b | none => none
  | none => none
def pUn (ρ : Env) (op : UnOp) (x : Operand) : Option Value :=
  match ρ x with
  | some (.int k n) => flatOf (Op.unary op (.int k n))
  | some (.bool b) => flatOf (Op.unary op (.bool b))
  | _ => none
def symConv (C : Ctx) (d : TypeId) (v : Value) : Option Value :=
  match C.tyOf d with
  | some i => match i.u with | .int .i64 => ruleIn 101 0 v (.bool false) C.rules | _ => none
  | none => none
def pConv (C : Ctx) (ρ : Env) (s d : TypeId) (x : Operand) : Option Value :=
  match C.tyOf s, ρ x with | some _, some v => bif isSym v then symConv C d v else convV C d v | _, _ => none
def pNil (ρ : Env) (x : Operand) : Option Value :=
  match ρ x with
  | some (.pointer (some a)) => some (.pointer (some a))
  | some (.func (.func f) a b) => some (.func (.func f) a b)
  | some (.iface t v) => some (.iface t v)
  | _ => none
def pFieldAddr (C : Ctx) (ρ : Env) (s : TypeId) (x : Operand) (f : Nat) : Option Value :=
  match fieldOf C s f, ρ x with
  | some (fd, j), some (.pointer (some a)) => bif j.size.beq 0 then none else some (.pointer (some (a.add fd.offset)))
  | _, _ => none
def pField (C : Ctx) (ρ : Env) (s : TypeId) (x : Operand) (f : Nat) : Option Value :=
  match fieldOf C s f, ρ x with
  | some (fd, j), some (.agg cs) => partV j.agg j.size cs fd.offset
  | _, _ => none
def pIndexAddr (C : Ctx) (ρ : Env) (t : TypeId) (x i : Operand) : Option Value :=
  match ρ x, ρ i with | some a, some b => indexAddrV C t a b | _, _ => none
def pIndex (C : Ctx) (ρ : Env) (t : TypeId) (x i : Operand) : Option Value :=
  match ρ x, ρ i with | some a, some b => indexV C t a b | _, _ => none
def pSlice (C : Ctx) (ρ : Env) (t : TypeId) (x : Operand) (lo hi mx : Option Operand) : Option Value :=
  match mx, hi with
  | some _, none => none
  | _, _ => match ρ x, evO ρ lo, evO ρ hi, evO ρ mx with | some v, some l, some h, some m => sliceV C t v l h m | _, _, _, _ => none
def pIface (C : Ctx) (ρ : Env) (t : TypeId) (x : Operand) : Option Value :=
  match C.tyOf t, ρ x with
  | some i, some v => match i.u with | .interface _ => none | _ => some (.iface t v)
  | _, _ => none
def pFunc (ρ : Env) (fn : Fn) (first captured : Array Operand) : Option Value :=
  match fn with
  | .func f => match evL ρ first.toList, evL ρ captured.toList with
    | some a, some b => some (.func (.func f) a.toArray b.toArray)
    | _, _ => none
  | _ => none
def pExtract (ρ : Env) (x : Operand) (i : Nat) : Option Value :=
  match ρ x with
  | some (.tuple vs) => vs[i]?
  | _ => none
def pAssert (C : Ctx) (ρ : Env) (x : Operand) (t : TypeId) (ok : Bool) : Option Value :=
  match ρ x, C.tyOf t with
  | some (.iface u v), some i => match i.u with
    | .interface _ => none
    | _ => bif u.beq t then some (bif ok then .tuple #[v, .bool true] else v) else none
  | _, _ => none
def pBuild (C : Ctx) (ρ : Env) (t : TypeId) (parts : Array (Nat × Operand)) : Option Value :=
  match evP ρ parts.toList with | some l => buildV C t l | none => none
def pArr (C : Ctx) (ρ : Env) (t : TypeId) (x : Operand) : Option Value :=
  match C.tyOf t, ρ x with
  | some i, some (.slice (some a) len _) => match i.u with
    | .array n _ => bif len.blt n || a.spot.isSome then none else some (.pointer (some a))
    | _ => none
  | _, _ => none
def pCall (C : Ctx) (ρ : Env) (c : Call) : Option Value :=
  match c.callee with
  | .builtin .min => match evL ρ c.args.toList with | some (a :: l) => foldV minV a l | _ => none
  | .builtin .max => match evL ρ c.args.toList with | some (a :: l) => foldV maxV a l | _ => none
  | .builtin .cap => match c.args.toList, c.argTypes[0]? with
    | [x], some t => match C.tyOf t, ρ x with
      | some i, some (.slice _ _ cap) => match i.u with
        | .slice _ => bif OPEN.ble cap then none else some (.int .i64 cap)
        | _ => none
      | _, _ => none
    | _, _ => none
  | .builtin .unsafeSliceData => match evL ρ c.args.toList with
    | some [.slice none _ _] => some (.pointer none)
    | some [.slice (some a) len cap] => bif (OPEN.ble cap && len.beq 0) || cap.beq 0 then none else some (.pointer (some a))
    | _ => none
  | _ => none

def opP (C : Ctx) (ρ : Env) : Op → Option Value
  | .move x | .assign x => ρ x
  | .pick c a b => pPick ρ c a b
  | .binOp op t x y _ => pBin C ρ op t x y
  | .unOp op _ x => pUn ρ op x
  | .convert s d x => pConv C ρ s d x
  | .nilCheck x => pNil ρ x
  | .fieldAddr s x f => pFieldAddr C ρ s x f
  | .field s x f => pField C ρ s x f
  | .indexAddr t x i => pIndexAddr C ρ t x i
  | .index t x i => pIndex C ρ t x i
  | .slice t x lo hi mx => pSlice C ρ t x lo hi mx
  | .makeInterface t x => pIface C ρ t x
  | .makeFunc fn first captured => pFunc ρ fn first captured
  | .extract x i => pExtract ρ x i
  | .typeAssert x _ t ok => pAssert C ρ x t ok
  | .build t parts => pBuild C ρ t parts
  | .sliceToArrayPointer t x => pArr C ρ t x
  | .call c => pCall C ρ c
  | _ => none

/-! operations that read the heap -/
def bytesOf : List Value → Option (List UInt8)
  | [] => some []
  | .int .u8 n :: l => match bytesOf l with | some r => some (UInt8.ofNat n.toNat :: r) | none => none
  | _ => none

/-- a key's entry: its place and its value -/
def findK (eq : Value → Option Bool) : List (Value × Value × Nat) → Nat → Option (Option (Nat × Value))
  | [], _ => some none
  | e :: es, i => match eq e.1 with
    | some true => some (some (i, e.2.1))
    | some false => findK eq es (i + 1)
    | none => none

/-- how keys of a type are held against each other: plain ones at once, structs by eqV -/
def keyEq (C : Ctx) (t : TypeId) (u : TypeDesc) (k x : Value) : Option Bool :=
  match u, k, x with
  | .int _, .int j a, .int j' b => if j = j' then some (a == b) else none
  | .string, .string a, .string b => some (a == b)
  | .bool, .bool a, .bool b => some (a == b)
  | .struct _, k, x => eqV C 12 t k x
  | _, _, _ => none

/-- may a value be a key? -/
def chkF (C : Ctx) (chk : TypeId → Value → Bool) (cs : Array Value) : List Field → Bool
  | [] => true
  | f :: fs => (!(f.name == "_")) && (match C.tyOf f.type with
    | some i => (match partV i.agg i.size cs f.offset with | some v => chk f.type v | none => false)
    | none => false) && chkF C chk cs fs

def chkV (C : Ctx) : Nat → TypeId → Value → Bool
  | 0, _, _ => false
  | d + 1, t, v =>
    match C.tyOf t with
    | none => false
    | some i => match i.u, v with
      | .int _, _ | .string, _ | .bool, _ => true
      | .struct fs, .agg cs => chkF C (chkV C d) cs fs.toList
      | _, _ => false

/-- the entry of a key: its place and its value -/
def lookK (C : Ctx) (t : TypeId) (k : Value) (es : List (Value × Value × Nat)) : Option (Option (Nat × Value)) :=
  match C.tyOf t with
  | some i => bif chkV C 12 t k then findK (keyEq C t i.u k) es 0 else none
  | none => none

def loadV (C : Ctx) (H : Heap) (t : TypeId) (a : Value) : Option Value :=
  match a with
  | .pointer (some ⟨b, off, none⟩) =>
    match C.tyOf t with
    | some d => bif d.agg then (match H.cells b off d.size with | some l => some (.agg l.toArray) | none => none) else H.cell b off
    | none => none
  | _ => none

def rLoad (C : Ctx) (ρ : Env) (H : Heap) (t : TypeId) (a : Operand) : Option Value :=
  match ρ a with | some v => loadV C H t v | none => none

def rEntry (ρ : Env) (H : Heap) (it : Operand) : Option Value :=
  match ρ it with
  | some (.pointer (some ⟨r, 0, none⟩)) => match H.blk r with
    | some (.iter (some m) _ seen last) => match seen.getLast?, H.blk m with
      | some b, some (.map es clock) => bif clock.beq last then
          (match es.find? (fun e => e.2.2.beq b) with | some e => some (.tuple #[e.1, e.2.1]) | none => none)
        else none
      | _, _ => none
    | _ => none
  | _ => none

def rLookup (C : Ctx) (ρ : Env) (H : Heap) (t : TypeId) (x i : Operand) (ok : Bool) : Option Value :=
  match C.tyOf t, ρ x, ρ i with
  | some d, some (.map m), some k =>
    match d.u with
    | .map kt et =>
      let es := match m with
        | none => some []
        | some r => match H.blk r with | some (.map es _) => some es | _ => none
      match es, C.tyOf et with
      | some es, some e =>
        match lookK C kt k es, e.zero with
        | some (some (_, v)), _ => some (bif ok then .tuple #[v, .bool true] else v)
        | some none, some z => some (bif ok then .tuple #[z, .bool false] else z)
        | _, _ => none
      | _, _ => none
    | _ => none
  | _, _, _ => none

def rConv (C : Ctx) (ρ : Env) (H : Heap) (s d : TypeId) (x : Operand) : Option Value :=
  match C.tyOf s, C.tyOf d, ρ x with
  | some i, some j, some (.pointer none) =>
    match i.u, j.u with
    | .pointer _, .unsafePointer => some (.pointer none)
    | .unsafePointer, .pointer _ => some (.pointer none)
    | _, _ => none
  | some i, some j, some (.pointer (some ⟨b, off, none⟩)) =>
    match i.u, j.u, H.blk b with
    | .pointer t, .unsafePointer, some (.cells _ vs _ _) =>
      match C.tyOf t with
      | some ti => bif ti.size.beq 0 || !off.blt vs.length then none else some (.pointer (some ⟨b, off, none⟩))
      | none => none
    | .unsafePointer, .pointer u, some (.cells e vs false _) =>
      bif (C.tyOf u).isSome && liesAt C.P C.P.depth e (vs.length / C.P.cellsOf e) off u 1 then some (.pointer (some ⟨b, off, none⟩)) else none
    | _, _, _ => none
  | some i, some j, some (.slice a len _) =>
    match i.u, j.u with
    | .slice e, .string =>
      match C.tyOf e with
      | some ei => match ei.u, a with
        | .int .u8, none => some (.string .empty)
        | .int .u8, some ⟨b, off, none⟩ => match H.cells b off len with
          | some l => match bytesOf l with | some r => some (.string ⟨r.toArray⟩) | none => none
          | none => none
        | _, _ => none
      | none => none
    | _, _ => none
  | _, _, _ => none

def lenV (C : Ctx) (H : Heap) (t : TypeId) (v : Value) : Option Value :=
  match C.tyOf t with
  | some i => match i.u, v with
    | .string, .string s => some (.int .i64 s.size)
    | .slice _, .slice _ n _ => some (.int .i64 n)
    | .array n _, _ => some (.int .i64 n)
    | .map _ _, .map none => some (.int .i64 0)
    | .map _ _, .map (some r) => match H.blk r with | some (.map es _) => some (.int .i64 es.length) | _ => none
    | _, _ => none
  | none => none

def symLen (C : Ctx) (t : TypeId) (v : Value) : Option Value :=
  match C.tyOf t with
  | some i => match i.u with | .string => ruleIn 100 0 v (.bool false) C.rules | _ => none
  | none => none

def rCall (C : Ctx) (ρ : Env) (H : Heap) (c : Call) : Option Value :=
  match c.callee with
  | .builtin .len =>
    match c.args.toList, c.argTypes.toList with
    | [x], t :: _ => match ρ x with | some v => bif isSym v then symLen C t v else lenV C H t v | none => none
    | _, _ => none
  | _ => none

def opR (C : Ctx) (ρ : Env) (H : Heap) : Op → Option Value
  | .load t a => rLoad C ρ H t a
  | .entry it => rEntry ρ H it
  | .lookup t x i ok => rLookup C ρ H t x i ok
  | .convert s d x => rConv C ρ H s d x
  | .call c => rCall C ρ H c
  | _ => none
end
end Go.AM
