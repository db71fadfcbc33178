/- AM: the operations that write, the regions, the code. -/
import Derived.Test.YtmohbeomlpjljaaGreatDoorAmCore
namespace Go.AM
open Go
noncomputable section

abbrev Rec := FuncId → List Value → Heap → Option (Value × Heap)

/-- what is appended, or copied: its cells -/
def srcCells (H : Heap) (size n : Nat) : Value → Option (List Value)
  | .slice none _ _ => some []
  | .slice (some ⟨b, off, none⟩) _ _ => H.cells b off (n * size)
  | .string s => some ((s.data.toList.take n).map fun b => .int .u8 b.toNat)
  | _ => none

def srcLen : Value → Option Nat
  | .slice _ n _ => some n
  | .string s => some s.size
  | _ => none

def isIntT : TypeDesc → Bool
  | .int _ => true
  | _ => false

def zeroOk (ei : TI) : Bool :=
  match ei.zero with
  | some z => Nat.beq z.cells.size ei.size
  | none => false

/-- append to a slice of which the capacity is not known -/
def appendOpen (C : Ctx) (H : Heap) (e : TypeId) (size b off len cap n : Nat) (new : List Value) : Option (Value × Heap) :=
  bif !Nat.beq cap (OPEN + size) then none else
  bif Nat.beq n 0 then some (.slice (some ⟨b, off, none⟩) len cap, H) else
  match H.blk b with
  | some (.cells e' vs true z) =>
    bif Nat.beq e' e then
      bif Nat.ble (off + len * size + n * size) vs.length then
        match H.store C.base b (off + len * size) new with
        | some H => some (.slice (some ⟨b, off, none⟩) (len + n) cap, H)
        | none => none
      else bif Nat.beq (off + len * size) vs.length && Nat.ble C.base b && Nat.ble z.z (off + len * size) && oneCells new then
        match (H.set b .dead).new (.cells e (vs.drop off ++ new) true ⟨z.z - off, z.s⟩) with
        | some (b', H) => some (.slice (some ⟨b', 0, none⟩) (len + n) cap, H)
        | none => none
      else none
    else none
  | _ => none

/-- append to a slice of which it is -/
def appendExact (C : Ctx) (H : Heap) (e : TypeId) (size b off len cap n : Nat) (new : List Value) : Option (Value × Heap) :=
  bif Nat.ble (len + n) cap then
    bif Nat.beq n 0 then some (.slice (some ⟨b, off, none⟩) (len + n) cap, H) else
    match H.store C.base b (off + len * size) new with
    | some H => some (.slice (some ⟨b, off, none⟩) (len + n) cap, H)
    | none => none
  else
    match H.cells b off (len * size) with
    | some old => match H.new (.cells e (old ++ new) true ⟨0, false⟩) with
      | some (b', H) => some (.slice (some ⟨b', 0, none⟩) (len + n) (OPEN + size), H)
      | none => none
    | none => none

def appendNil (H : Heap) (e : TypeId) (size len cap n : Nat) (new : List Value) : Option (Value × Heap) :=
  bif Nat.beq len 0 && Nat.beq cap 0 then
    (bif Nat.beq n 0 then some (.slice none 0 0, H) else
      match H.new (.cells e new true ⟨0, false⟩) with
      | some (b, H) => some (.slice (some ⟨b, 0, none⟩) (len + n) (OPEN + size), H)
      | none => none)
    else none

def appendB (C : Ctx) (H : Heap) (st xt : TypeId) (s x : Value) : Option (Value × Heap) :=
  match C.tyOf st, C.tyOf xt with
  | some si, some xi =>
    bif isIntT xi.u then none else
    match si.u, s, srcLen x with
    | .slice e, .slice base len cap, some n =>
      match C.tyOf e with
      | none => none
      | some ei =>
        bif Nat.beq ei.size 0 || !(Nat.ble (len + n) LIMIT && Nat.ble ei.bytes 65536 && zeroOk ei) then none else
        match srcCells H ei.size n x with
        | none => none
        | some new =>
          bif !Nat.beq new.length (n * ei.size) then none else
          match base with
          | none => appendNil H e ei.size len cap n new
          | some ⟨b, off, none⟩ =>
            bif Nat.ble OPEN cap then appendOpen C H e ei.size b off len cap n new
            else appendExact C H e ei.size b off len cap n new
          | _ => none
    | _, _, _ => none
  | _, _ => none

def copyB (C : Ctx) (H : Heap) (dt : TypeId) (d x : Value) : Option (Value × Heap) :=
  match C.tyOf dt with
  | some di => match di.u, d, srcLen x with
    | .slice e, .slice base len _, some n =>
      match C.tyOf e with
      | some ei =>
        let m := Nat.min n len
        match srcCells H ei.size m x, base with
        | some l, none => bif l.length.beq 0 then some (.int .i64 m, H) else none
        | some l, some ⟨b, off, none⟩ =>
          bif l.length.beq 0 then some (.int .i64 m, H) else
          match H.store C.base b off l with
          | some H => some (.int .i64 m, H)
          | none => none
        | _, _ => none
      | none => none
    | _, _, _ => none
  | none => none

def all2 (eq : Value → Value → Bool) : List Value → List Value → Bool
  | [], [] => true
  | x :: xs, y :: ys => eq x y && all2 eq xs ys
  | _, _ => false

/-- surely one -/
def veq : Nat → Value → Value → Bool
  | 0, _, _ => false
  | n + 1, a, b =>
    match a, b with
    | .bool a, .bool b => a == b
    | .int k a, .int j b => decide (k = j) && decide (a = b)
    | .float k a, .float j b => decide (k = j) && a == b
    | .string a, .string b => decide (a.data.toList = b.data.toList)
    | .pointer a, .pointer b => decide (a = b)
    | .slice a l c, .slice b m d => decide (a = b) && l == m && c == d
    | .map a, .map b => decide (a = b)
    | .nilFunc, .nilFunc => true
    | .nilIface, .nilIface => true
    | .iface t a, .iface u b => t == u && veq n a b
    | .agg a, .agg b => all2 (veq n) a.toList b.toList
    | .tuple a, .tuple b => all2 (veq n) a.toList b.toList
    | .func (.func f) a c, .func (.func g) b d => f == g && all2 (veq n) a.toList b.toList && all2 (veq n) c.toList d.toList
    | _, _ => false

def setK : List (Value × Value × Nat) → Nat → Value × Value → List (Value × Value × Nat)
  | [], _, _ => []
  | e :: es, 0, x => (x.1, x.2, e.2.2) :: es
  | e :: es, i + 1, x => e :: setK es i x

def dropK : List (Value × Value × Nat) → Nat → List (Value × Value × Nat)
  | [], _ => []
  | _ :: es, 0 => es
  | e :: es, i + 1 => e :: dropK es i

/-- values that are the same wherever they stand -/
def plainV : Value → Bool
  | .int _ _ | .string _ | .bool _ => true
  | _ => false

def plainK : Value → Bool
  | .agg cs => cs.toList.all plainV
  | v => plainV v

def updateB (C : Ctx) (H : Heap) (t : TypeId) (m k x : Value) : Option Heap :=
  match C.tyOf t, m with
  | some i, .map (some r) => match i.u, H.blk r with
    | .map kt _, some (.map es clock) =>
      bif C.base.ble r then
        match lookK C kt k es with
        | some (some (i, _)) => match es[i]? with
          | some e => bif plainK k && veq 2 e.1 k then some (H.set r (.map (setK es i (k, x)) clock)) else none
          | none => none
        | some none => some (H.set r (.map (es ++ [(k, x, clock)]) (clock + 1)))
        | none => none
      else none
    | _, _ => none
  | _, _ => none

def deleteB (C : Ctx) (H : Heap) (t : TypeId) (m k : Value) : Option Heap :=
  match C.tyOf t, m with
  | some i, .map (some r) => match i.u, H.blk r with
    | .map kt _, some (.map es clock) =>
      bif C.base.ble r then
        match lookK C kt k es with
        | some (some (i, _)) => some (H.set r (.map (dropK es i) clock))
        | some none => some H
        | none => none
      else none
    | _, _ => none
  | _, _ => none

def nextB (C : Ctx) (H : Heap) (it : Value) : Option (Value × Heap) :=
  match it with
  | .pointer (some ⟨r, 0, none⟩) => match H.blk r with
    | some (.iter none _ _ _) => some (.tuple #[.bool false], H)
    | some (.iter (some m) since seen last) => match H.blk m with
      | some (.map es clock) =>
        bif C.base.ble r && since.ble last && (es.all fun e => e.2.2.blt since) then
          match es.filter (fun e => !seen.contains e.2.2) with
          | [] => some (.tuple #[.bool false], H)
          | [e] => some (.tuple #[.bool true, e.1, e.2.1], H.set r (.iter (some m) since (seen ++ [e.2.2]) clock))
          | _ => none
        else none
      | _ => none
    | _ => none
  | _ => none

def newP (H : Heap) (x : Blk) : Option (Value × Heap) :=
  match H.new x with
  | some (b, H) => some (.pointer (some ⟨b, 0, none⟩), H)
  | none => none

def rep {α : Type} : Nat → List α → List α
  | 0, _ => []
  | n + 1, l => l ++ rep n l

def allocB (C : Ctx) (ρ : Env) (H : Heap) : Op → Option (Value × Heap)
  | .alloc t => match C.tyOf t with
    | some i => match i.zero with | some z => newP H (.cells t z.cells.toList false ⟨0, false⟩) | none => none
    | none => none
  | .box t x => match ρ x with | some v => newP H (.cells t v.cells.toList false ⟨0, false⟩) | none => none
  | .buildSlice t len parts => match evP ρ parts.toList, C.tyOf t with
    | some l, some i => match i.u with
      | .slice e => match C.tyOf e with
        | some j => match j.zero with
          | some z =>
            bif j.size.beq 0 || !((len * j.size).ble 4096) || !(Nat.beq z.cells.size j.size) then none else
            match Instr.fill (fun n => some (n * j.size, j.size)) (rep len z.cells.toList).toArray l with
            | some cs => match H.new (.cells e cs.toList false ⟨0, false⟩) with
              | some (b, H) => some (.slice (some ⟨b, 0, none⟩) len len, H)
              | none => none
            | none => none
          | none => none
        | none => none
      | _ => none
    | _, _ => none
  | .makeMap _ none => match H.new (.map [] 0) with | some (b, H) => some (.map (some b), H) | none => none
  | .makeSlice t l c => match C.tyOf t, ρ l, ρ c with
    | some i, some lv, some cv => match i.u, natOf lv, natOf cv with
      | .slice e, some l, some c => match C.tyOf e with
        | some j => match j.zero with
          | some z =>
            bif l.ble c && c.ble LIMIT && j.bytes.ble 65536 && !j.size.beq 0 && Nat.beq z.cells.size j.size then
              match H.new (.cells e (rep c z.cells.toList) false ⟨0, false⟩) with
              | some (b, H) => some (.slice (some ⟨b, 0, none⟩) l c, H)
              | none => none
            else none
          | none => none
        | none => none
      | _, _, _ => none
    | _, _, _ => none
  | _ => none

def isA : Op → Bool
  | .alloc _ | .box .. | .buildSlice .. | .makeSlice .. => true
  | .makeMap _ none => true
  | _ => false

def invokeB (C : Ctx) (rec : Rec) (H : Heap) (recv : Value) (name : String) (args : List Value) : Option (Value × Heap) :=
  match recv with
  | .iface t v => match C.tyOf t with
    | some i => match i.methods.toList.find? (·.name == name) with
      | some m => match m.path.toList, m.func with
        | [], some (f, true) => match i.u with
          | .pointer _ => rec f (v :: args) H
          | _ => none
        | [], some (f, false) => match i.u with
          | .pointer e => match loadV C H e v with
            | some x => rec f (x :: args) H
            | none => none
          | _ => rec f (v :: args) H
        | _, _ => none
      | none => none
    | none => none
  | _ => none
def bInvoke (C : Ctx) (rec : Rec) (H : Heap) (recv : Option Value) (name : String) (args : Option (List Value)) : Option (Value × Heap) :=
  match recv, args with
  | some r, some l => invokeB C rec H r name l
  | _, _ => none

def bStore (C : Ctx) (ρ : Env) (H : Heap) (t : TypeId) (a x : Operand) : Option (Value × Heap) :=
  match C.tyOf t, ρ a, ρ x with
  | some d, some (.pointer (some ⟨b, off, none⟩)), some v =>
    bif Nat.beq v.cells.size d.size then (match H.store C.base b off v.cells.toList with | some H => some (undef, H) | none => none) else none
  | _, _, _ => none
def bUpdate (C : Ctx) (ρ : Env) (H : Heap) (t : TypeId) (m k x : Operand) : Option (Value × Heap) :=
  match ρ m, ρ k, ρ x with
  | some m, some k, some x => match updateB C H t m k x with | some H => some (undef, H) | none => none
  | _, _, _ => none
def bConv (C : Ctx) (ρ : Env) (H : Heap) (s d : TypeId) (x : Operand) : Option (Value × Heap) :=
  match C.tyOf s, C.tyOf d, ρ x with
  | some i, some j, some (.string s) =>
    match i.u, j.u with
    | .string, .slice e =>
      match C.tyOf e with
      | some ei => match ei.u with
        | .int .u8 => bif s.size.ble LIMIT then
            match H.new (.cells e (s.data.toList.map fun b => .int .u8 b.toNat) true ⟨0, true⟩) with
            | some (b, H) => some (.slice (some ⟨b, 0, none⟩) s.size (OPEN + 1), H)
            | none => none
          else none
        | _ => none
      | none => none
    | _, _ => none
  | _, _, _ => none
def bRange (C : Ctx) (ρ : Env) (H : Heap) (t : TypeId) (x : Operand) : Option (Value × Heap) :=
  match C.tyOf t, ρ x with
  | some i, some (.map m) => match i.u with
    | .map _ _ => match m with
      | none => newP H (.iter none 0 [] 0)
      | some r => match H.blk r with | some (.map _ clock) => newP H (.iter (some r) clock [] clock) | _ => none
    | _ => none
  | _, _ => none
def bString (C : Ctx) (H : Heap) (ts : List TypeId) (args : Option (List Value)) : Option (Value × Heap) :=
  match args, ts with
  | some [.pointer p, n], [pt, _] => match natOf n, C.tyOf pt with
    | some n, some pi => match pi.u with
      | .pointer u =>
        bif Nat.beq n 0 then some (.string .empty, H) else
        bif !Nat.ble n LIMIT then none else
        match p with
        | some ⟨b, off, none⟩ => match H.blk b with
          | some (.cells e vs o z) => match C.tyOf e, takeN n (vs.drop off) with
            | some i, some l => match bytesOf l with
              | some r =>
                bif Nat.ble C.base b && Nat.beq i.size 1 && !z.s && sameLayout C.P C.P.depth e u then
                  some (.string ⟨r.toArray⟩, H.set b (.cells e vs o ⟨bif Nat.ble z.z (off + n) then off + n else z.z, false⟩))
                else none
              | none => none
            | _, _ => none
          | _ => none
        | _ => none
      | _ => none
    | _, _ => none
  | _, _ => none
def bFun (rec : Rec) (H : Heap) (f : Option Value) (args : Option (List Value)) : Option (Value × Heap) :=
  match f with
  | some (.func (.func g) first captured) => match args with
    | some args => rec g (first.toList ++ args ++ captured.toList) H
    | none => none
  | _ => none
def clearB (C : Ctx) (H : Heap) (t : TypeId) (x : Value) : Option (Value × Heap) :=
  match C.tyOf t, x with
  | some i, .slice base len _ => bif Nat.beq len 0 then some (.tuple #[], H) else
    match i.u, base with
    | .slice e, some ⟨b, off, none⟩ => match C.tyOf e with
      | some j => match j.zero with
        | some z => match H.store C.base b off (rep len z.cells.toList) with | some H => some (.tuple #[], H) | none => none
        | none => none
      | none => none
    | _, _ => none
  | _, _ => none
def bBuiltin (C : Ctx) (H : Heap) (b : Builtin) (args : Option (List Value)) (ts : List TypeId) : Option (Value × Heap) :=
  match b with
  | .append => match args, ts with | some [s, x], [st, xt] => appendB C H st xt s x | _, _ => none
  | .copy => match args, ts with | some [d, x], dt :: _ => copyB C H dt d x | _, _ => none
  | .unsafeString => bString C H ts args
  | .clear => match args, ts with | some [x], t :: _ => clearB C H t x | _, _ => none
  | .delete => match args, ts with
    | some [m, k], t :: _ => match deleteB C H t m k with | some H => some (.tuple #[], H) | none => none
    | _, _ => none
  | _ => none
def bCall (C : Ctx) (rec : Rec) (ρ : Env) (H : Heap) (c : Call) : Option (Value × Heap) :=
  match c.callee with
  | .value f => bFun rec H (ρ f) (evL ρ c.args.toList)
  | .invoke x name => bInvoke C rec H (ρ x) name (evL ρ c.args.toList)
  | .builtin b => bBuiltin C H b (evL ρ c.args.toList) c.argTypes.toList

def opB (C : Ctx) (rec : Rec) (ρ : Env) (H : Heap) (o : Op) : Option (Value × Heap) :=
  match o with
  | .store t a x => bStore C ρ H t a x
  | .mapUpdate t m k x | .insert t m k x => bUpdate C ρ H t m k x
  | .convert s d x => bConv C ρ H s d x
  | .range t x => bRange C ρ H t x
  | .next it isString => bif isString then none else (match ρ it with | some v => nextB C H v | none => none)
  | .call c => bCall C rec ρ H c
  | o => allocB C ρ H o

def retV (H : Heap) : Option Value → Option (Value × Heap)
  | some v => some (v, H)
  | none => none

def opF (C : Ctx) (rec : Rec) (ρ : Env) (H : Heap) (o : Op) : Option (Value × Heap) :=
  match cls C o with
  | .p => retV H (opP C ρ o)
  | .r => retV H (opR C ρ H o)
  | .b => opB C rec ρ H o

/-! regions -/
def guardOk (ops : List Oper) (tm : T Value) (o : Oper) : Option Bool :=
  match o.guard with
  | none => some true
  | some (j, want) =>
    match ops[j]? with
    | some p => match p.dst with
      | some d => match tm.get d with
        | some (.bool b) => some (b == want)
        | some (.tuple _) => some false
        | _ => none
      | none => none
    | none => none

def put (tm : T Value) (d : Option Nat) (v : Value) : T Value :=
  match d with
  | some d => tm.mod d v
  | none => tm

inductive Ex where
  | normal | exit (id : Nat) | ret

inductive R where
  | bad
  | ok (e : Ex) (tm : T Value) (H : Heap)

def opsStep (C : Ctx) (rec : Rec) (all : List Oper) (o : Oper) (ih : T Value → Heap → R) (tm : T Value) (H : Heap) : R :=
  match guardOk all tm o with
  | some true => match opF C rec (evT C.base tm) H o.op with
    | some (v, H) => ih (put tm o.dst v) H
    | none => .bad
  | some false => ih (put tm o.dst undef) H
  | none => .bad

def opsF (C : Ctx) (rec : Rec) (all : List Oper) : List Oper → T Value → Heap → R :=
  List.rec (fun tm H => .ok .normal tm H) (fun o _ ih => opsStep C rec all o ih)

/-! a region that draws its order -/
def edgeOf (o : Oper) : List Nat := (o.after.toList.filter (Region.binds .any ·)).map (·.on)

/-- of each operation, as bits, all that must stand ahead of it -/
def ancs (anc : List Nat) : List Oper → List Nat
  | [] => anc
  | o :: os => ancs (anc ++ [(edgeOf o).foldl (fun s j => s ||| 2 ^ j ||| anc.getD j 0) 0]) os

def edgesBack : Nat → List Oper → Bool
  | _, [] => true
  | i, o :: os => (edgeOf o).all (·.blt i) && edgesBack (i + 1) os

def bit (anc : List Nat) (j i : Nat) : Bool := (anc.getD j 0).testBit i

def looks (all : List Oper) (o : Oper) : List Tmp :=
  (o.op.operands.toList.filterMap fun | .tmp t => some t | _ => none) ++
  (match o.guard with
   | some (g, _) => match all[g]? with | some p => p.dst.toList | none => []
   | none => [])

/-- i writes what j looks at: they are ordered; no two write one -/
def calm (anc : List Nat) (all : List Oper) : Bool :=
  (List.range all.length).all fun i => match all[i]? with
    | none => false
    | some x => match x.dst with
      | none => true
      | some d => (List.range all.length).all fun j => match all[j]? with
        | none => false
        | some y => i == j || (y.dst != some d && (!(looks all y).contains d || bit anc j i || bit anc i j))

inductive Sort3 where
  | p | r | a | b
def sort3 (C : Ctx) (o : Op) : Sort3 :=
  match cls C o with
  | .p => .p | .r => .r | .b => bif isA o then .a else .b

def isB (C : Ctx) (all : List Oper) (i : Nat) : Bool :=
  match all[i]? with | some o => (match sort3 C o.op with | .b => true | _ => false) | none => false
def isAt (C : Ctx) (all : List Oper) (i : Nat) : Bool :=
  match all[i]? with | some o => (match sort3 C o.op with | .a => true | _ => false) | none => false

def isPA (C : Ctx) (all : List Oper) (i : Nat) : Bool :=
  match all[i]? with | some o => (match sort3 C o.op with | .b => false | _ => true) | none => false
def badOf (p : Nat → Bool) : List Nat → Nat → Nat
  | [], s => s
  | i :: l, s => badOf p l (bif p i then s else s ||| 2 ^ i)
/-- what writes nothing, and nothing behind which it stands writes -/
def early (C : Ctx) (anc : List Nat) (all : List Oper) (bad i : Nat) : Bool := isPA C all i && ((anc.getD i 0) &&& bad).beq 0

/-- the order in which the machine goes: what makes memory out of nothing first -/
def order (C : Ctx) (anc : List Nat) (all : List Oper) : List Nat :=
  let r := List.range all.length
  let bad := badOf (isPA C all) r 0
  r.filter (early C anc all bad) ++ r.filter (fun i => !early C anc all bad i)

/-- all that write stand in one order; what makes memory stands behind those writers behind which the machine has it -/
def chained (C : Ctx) (anc : List Nat) (all : List Oper) : Option Nat → List Nat → Bool
  | _, [] => true
  | last, i :: is =>
    bif isB C all i then (match last with | some j => bit anc i j | none => true) && chained C anc all (some i) is
    else bif isAt C all i then (match last with | some j => bit anc i j | none => true) && chained C anc all last is
    else chained C anc all last is

def static (C : Ctx) (all : List Oper) : Bool :=
  let anc := ancs [] all
  edgesBack 0 all && calm anc all && chained C anc all none (order C anc all)

def blkEq : Blk → Blk → Bool
  | .cells e vs o z, .cells e' vs' o' z' => e == e' && all2 (veq 4) vs vs' && o == o' && decide (z = z')
  | .map [] 0, .map [] 0 => true
  | _, _ => false

structure Rd where
  i : Nat
  o : Oper
  tm : T Value
  v : Value

structure Nd where
  i : Nat
  b : Nat
  x : Blk

/-- the heap between two writers -/
structure Hd where
  l : Option Nat
  c : Option Nat
  H : Heap

/-- the region's operations, one behind the other; the heaps ahead of each writer, and the last one; what was read; what was made -/
def drawGo (C : Ctx) (rec : Rec) (all : List Oper) : List Nat → T Value → Heap → Option Nat → List Hd → List Rd → List Nd → Option (T Value × Heap × List Hd × List Rd × List Nd)
  | [], tm, H, l, hs, rs, ns => some (tm, H, ⟨l, none, H⟩ :: hs, rs, ns)
  | i :: is, tm, H, l, hs, rs, ns =>
    match all[i]? with
    | none => none
    | some o =>
      match guardOk all tm o with
      | none => none
      | some false => bif isB C all i then drawGo C rec all is (put tm o.dst undef) H (some i) (⟨l, some i, H⟩ :: hs) rs ns else drawGo C rec all is (put tm o.dst undef) H l hs rs ns
      | some true =>
        match sort3 C o.op with
        | .p => match opP C (evR C.base (looks all o) tm) o.op with
          | some v => drawGo C rec all is (put tm o.dst v) H l hs rs ns
          | none => none
        | .r => match opR C (evR C.base (looks all o) tm) H o.op with
          | some v => drawGo C rec all is (put tm o.dst v) H l hs (⟨i, o, tm, v⟩ :: rs) ns
          | none => none
        | .a => match allocB C (evR C.base (looks all o) tm) H o.op with
          | some (v, H') => match H'.blk H.n with
            | some x => drawGo C rec all is (put tm o.dst v) H' l hs rs (⟨i, H.n, x⟩ :: ns)
            | none => none
          | none => none
        | .b => match opB C rec (evR C.base (looks all o) tm) H o.op with
          | some (v, H') => drawGo C rec all is (put tm o.dst v) H' (some i) (⟨l, some i, H⟩ :: hs) rs ns
          | none => none

/-- such a thing never stands there -/
def away (anc : List Nat) (h : Hd) (i : Nat) : Bool :=
  (match h.c with | some j => bit anc i j | none => false) || (match h.l with | some j => bit anc j i | none => false)

def rdOk (C : Ctx) (anc : List Nat) (all : List Oper) (hs : List Hd) (r : Rd) : Bool :=
  hs.all fun h => away anc h r.i || match opR C (evR C.base (looks all r.o) r.tm) h.H r.o.op with | some v => veq 4 r.v v | none => false

def ndOk (anc : List Nat) (hs : List Hd) (n : Nd) : Bool :=
  hs.all fun h => away anc h n.i || match h.H.blk n.b with | some x => blkEq n.x x | none => false

def drawF (C : Ctx) (rec : Rec) (all : List Oper) (tm : T Value) (H : Heap) : R :=
  let anc := ancs [] all
  bif static C all then
    match drawGo C rec all (order C anc all) tm H none [] [] [] with
    | some (tm, H, hs, rs, ns) => bif rs.all (rdOk C anc all hs) && ns.all (ndOk anc hs) then .ok .normal tm H else .bad
    | none => .bad
  else .bad

/-! calls -/
def resV (C : Ctx) (tm : T Value) (H : Heap) : ResultVar → Option Value
  | .tmp t => tm.get t
  | .cell a t => match tm.get a with
    | some v => loadV C H t v
    | none => none

def resL (C : Ctx) (tm : T Value) (H : Heap) : List ResultVar → Option (List Value)
  | [] => some []
  | x :: xs => match resV C tm H x with
    | some v => match resL C tm H xs with | some l => some (v :: l) | none => none
    | none => none

def resOf (C : Ctx) (tm : T Value) (H : Heap) (rs : List ResultVar) : Option Value :=
  match resL C tm H rs with
  | some [v] => some v
  | some l => some (.tuple l.toArray)
  | none => none

def callF (C : Ctx) (rec : Code → T Value → Heap → R) (f : FuncId) (args : List Value) (H : Heap) : Option (Value × Heap) :=
  match C.prOf f with
  | some p => p args H
  | none =>
    match C.fnOf f with
    | some fi =>
      bif Nat.ble args.length fi.ntmps && Nat.ble fi.ntmps LIMIT then
        match rec fi.body (T.build (fun i => args.getD i undef) 24 fi.ntmps 1 0) H with
        | .ok .normal tm H | .ok .ret tm H => match resOf C tm H fi.results with | some v => some (v, H) | none => none
        | _ => none
      else none
    | none => none

def codeF (C : Ctx) (rec : Code → T Value → Heap → R) (c : Code) (tm : T Value) (H : Heap) : R :=
  match c with
  | .skip | .label _ => .ok .normal tm H
  | .region _ ops draw => bif draw then drawF C (callF C rec) ops.toList tm H else opsF C (callF C rec) ops.toList ops.toList tm H
  | .seq a b => match rec a tm H with | .ok .normal tm H => rec b tm H | r => r
  | .cond c a b => match evT C.base tm c with | some (.bool true) => rec a tm H | some (.bool false) => rec b tm H | _ => .bad
  | .block id b => match rec b tm H with
    | .ok (.exit i) tm H => bif i.beq id then .ok .normal tm H else .ok (.exit i) tm H
    | r => r
  | .loop b => match rec b tm H with | .ok .normal tm H => rec (.loop b) tm H | r => r
  | .exit id => .ok (.exit id) tm H
  | .ret => .ok .ret tm H
  | _ => .bad

def run (C : Ctx) : Nat → Code → T Value → Heap → R :=
  Nat.rec (fun _ _ _ => .bad) (fun _ ih => codeF C ih)

def call (C : Ctx) (n : Nat) (f : FuncId) (args : List Value) (H : Heap) : Option (Value × Heap) := callF C (run C n) f args H

/-- the machine of a program, with rules -/
def ctxR (P : Program) (pr : T (Option Prim)) (base : Nat) (rules : List Rule) : Ctx :=
  ⟨P, T.build (TI.of P) 24 1024 1 0, T.build (FI.of P) 24 2048 1 0, pr, base, 0, rules⟩
/-- the machine of a program -/
def ctx (P : Program) (pr : T (Option Prim)) (base : Nat) : Ctx :=
  ⟨P, T.build (TI.of P) 24 1024 1 0, T.build (FI.of P) 24 2048 1 0, pr, base, 0, []⟩
end
end Go.AM
namespace Go.AM
open Go
noncomputable section
def noEscape : Prim := fun args H => match args with | [v] => some (v, H) | _ => none
def makeNoZero (e : TypeId) : Prim := fun args H => match args with
  | [.int .i64 (.ofNat n)] => bif n.ble LIMIT then (match H.new (.cells e [] true ⟨0, false⟩) with | some (b, H) => some (.slice (some ⟨b, 0, none⟩) n (OPEN + 1), H) | none => none) else none
  | _ => none

/-- of numbered texts the last one of a number -/
def lastW (n : Int) : List Value → Option ByteArray → Option (Option ByteArray)
  | [], r => some r
  | .int .i64 m :: .string s :: l, r => lastW n l (if m = n then some s else r)
  | _, _ => none

def waitsOf (H : Heap) : Value → Option (List Value)
  | .slice none _ _ => some []
  | .slice (some ⟨wb, wo, none⟩) wl _ => bif wl.ble 1048576 then H.cells wb wo (2 * wl) else none
  | _ => none

def stableAt (H : Heap) (n : Int) : Value → Option ByteArray
  | .slice (some ⟨sb, so, none⟩) sl _ => match n with
    | .ofNat n => bif Nat.ble (n + 1) sl && sl.ble 1048576 then (match H.cell sb (so + n) with | some (.string d) => some d | _ => none) else none
    | _ => none
  | _ => none

/-- the text of a page of a disk: of what waits the last one of the page, else what is stable -/
def diskData : Prim := fun args H => match args with
  | [.pointer (some ⟨b, off, none⟩), .int .i64 n] =>
    match H.cells b off 2 with
    | some [st, wt] =>
      match waitsOf H wt with
      | some ws => match lastW n ws none with
        | some (some d) => some (.string d, H)
        | some none => match stableAt H n st with | some d => some (.string d, H) | none => none
        | none => none
      | none => none
    | _ => none
  | _ => none

/-! a sum (CRC-32C), four bits at a time -/
def crcBig : Nat := 12749536319551302420830055290731983042906869231766370170184255228463894984119587222357463453493748006886229547019502462691509165827871124329361635492757504
def crcT (k : Nat) : Nat := (crcBig >>> (32 * k)) &&& 4294967295
def crc1 (c : Nat) : Nat := (c >>> 4) ^^^ crcT (c &&& 15)
def crcL (l : List UInt8) : Nat → Nat := List.rec (fun c => c) (fun b _ ih c => ih (crc1 (crc1 (c ^^^ b.toNat)))) l
def crcTab : List Value := [.int .u32 0, .int .u32 274646895, .int .u32 549293790, .int .u32 820201905, .int .u32 1098587580, .int .u32 1361435347, .int .u32 1640403810, .int .u32 1905808397, .int .u32 2197175160, .int .u32 2460548119, .int .u32 2722870694, .int .u32 2987750089, .int .u32 3280807620, .int .u32 3553878443, .int .u32 3811616794, .int .u32 4084100981]

/-- a text's sum behind another one; g: the table's block -/
def sumAdd (g : Nat) : Prim := fun args H => match args with
  | [.int .u32 (.ofNat c), .string s] => match H.blk g with
    | some (.tab vs) => bif Nat.blt c 4294967296 && s.size.ble LIMIT && all2 (veq 2) vs crcTab then
        some (.int .u32 (.ofNat (4294967295 ^^^ crcL s.data.toList (4294967295 ^^^ c))), H) else none
    | _ => none
  | _ => none
end
end Go.AM
namespace Go.AM
open Go

theorem beq_iff (a b : Nat) : (Nat.beq a b = true) = (a = b) :=
  propext ⟨Nat.eq_of_beq_eq_true, fun h => by subst h; exact Nat.beq_refl a⟩

section
variable {α : Type}
theorem T.get_leaf (n : Nat) : (T.leaf : T α).get n = none := rfl
theorem T.get_node (l : T α) (v : α) (r : T α) (n : Nat) :
    (T.node l v r).get n = if n = 0 then some v else if n % 2 = 1 then l.get (n / 2) else r.get (n / 2 - 1) := by
  show (bif Nat.beq n 0 then some v else bif Nat.beq (Nat.mod n 2) 1 then l.get (Nat.div n 2) else r.get (Nat.pred (Nat.div n 2))) = _
  have h1 : Nat.mod n 2 = n % 2 := rfl
  have h2 : Nat.div n 2 = n / 2 := rfl
  rw [h1, h2, cond_eq_ite, cond_eq_ite]
  simp only [beq_iff]; rfl
theorem T.mod_node (l : T α) (v : α) (r : T α) (n : Nat) (x : α) :
    (T.node l v r).mod n x = if n = 0 then .node l x r else if n % 2 = 1 then .node (l.mod (n / 2) x) v r else .node l v (r.mod (n / 2 - 1) x) := by
  show (bif Nat.beq n 0 then T.node l x r else bif Nat.beq (Nat.mod n 2) 1 then .node (l.mod (Nat.div n 2) x) v r else .node l v (r.mod (Nat.pred (Nat.div n 2)) x)) = _
  have h1 : Nat.mod n 2 = n % 2 := rfl
  have h2 : Nat.div n 2 = n / 2 := rfl
  rw [h1, h2, cond_eq_ite, cond_eq_ite]
  simp only [beq_iff]; rfl
theorem T.mod_leaf (n : Nat) (x : α) : (T.leaf : T α).mod n x = .leaf := rfl

theorem T.get_mod_same (t : T α) : ∀ (n : Nat) (x : α), (t.mod n x).get n = if (t.get n).isSome then some x else none := by
  induction t with
  | leaf => intro n x; simp [T.mod_leaf, T.get_leaf]
  | node l v r ihl ihr =>
    intro n x
    rw [T.mod_node, T.get_node]
    by_cases h0 : n = 0
    · subst h0; simp [T.get_node]
    · rw [if_neg h0, if_neg h0]
      by_cases h1 : n % 2 = 1
      · rw [if_pos h1, if_pos h1, T.get_node, if_neg h0, if_pos h1, ihl]
      · rw [if_neg h1, if_neg h1, T.get_node, if_neg h0, if_neg h1, ihr]

theorem T.get_mod_other (t : T α) : ∀ (n m : Nat) (x : α), m ≠ n → (t.mod n x).get m = t.get m := by
  induction t with
  | leaf => intro n m x _; rfl
  | node l v r ihl ihr =>
    intro n m x h
    rw [T.mod_node]
    by_cases h0 : n = 0
    · have hm : m ≠ 0 := by omega
      rw [if_pos h0]; simp [T.get_node, hm]
    · rw [if_neg h0]
      by_cases h1 : n % 2 = 1
      · rw [if_pos h1, T.get_node, T.get_node]
        by_cases hm : m = 0
        · simp [hm]
        · rw [if_neg hm, if_neg hm]
          by_cases hm1 : m % 2 = 1
          · rw [if_pos hm1, if_pos hm1]; exact ihl _ _ _ (by omega)
          · rw [if_neg hm1, if_neg hm1]
      · rw [if_neg h1, T.get_node, T.get_node]
        by_cases hm : m = 0
        · simp [hm]
        · rw [if_neg hm, if_neg hm]
          by_cases hm1 : m % 2 = 1
          · rw [if_pos hm1, if_pos hm1]
          · rw [if_neg hm1, if_neg hm1]; exact ihr _ _ _ (by omega)

/-- its numbers are just those below n -/
def T.Full (t : T α) (n : Nat) : Prop := ∀ i, (t.get i).isSome = decide (i < n)

theorem T.Full.mod {t : T α} {n : Nat} (h : t.Full n) (i : Nat) (x : α) : (t.mod i x).Full n := by
  intro j
  by_cases e : j = i
  · subst e; rw [T.get_mod_same, ← h j]; split <;> simp_all
  · rw [T.get_mod_other _ _ _ _ e]; exact h j

theorem T.get_build (f : Nat → α) : ∀ (fuel n a b i : Nat), n < 2 ^ fuel → (T.build f fuel n a b).get i = if i < n then some (f (a * i + b)) else none := by
  intro fuel
  induction fuel with
  | zero => intro n a b i h; simp at h; subst h; simp [T.build, T.get_leaf]
  | succ fuel ih =>
    intro n a b i h
    unfold T.build
    by_cases h0 : n = 0
    · subst h0; simp [T.get_leaf]
    · have hb : Nat.beq n 0 = false := by
        cases hh : Nat.beq n 0
        · rfl
        · exact absurd (Nat.eq_of_beq_eq_true hh) h0
      rw [hb, cond_false, T.get_node]
      have hp : 2 ^ (fuel + 1) = 2 * 2 ^ fuel := by rw [Nat.pow_succ]; omega
      by_cases hi : i = 0
      · subst hi; simp; omega
      · rw [if_neg hi]
        by_cases h1 : i % 2 = 1
        · rw [if_pos h1, ih _ _ _ _ (by omega)]
          by_cases hn : i < n
          · rw [if_pos hn, if_pos (by omega)]
            have : i = 2 * (i / 2) + 1 := by omega
            congr 2
            conv => rhs; rw [this]
            rw [Nat.mul_add, ← Nat.mul_assoc, Nat.mul_comm a 2]; omega
          · rw [if_neg hn, if_neg (by omega)]
        · rw [if_neg h1, ih _ _ _ _ (by omega)]
          by_cases hn : i < n
          · rw [if_pos hn, if_pos (by omega)]
            have : i = 2 * (i / 2 - 1) + 2 := by omega
            congr 2
            conv => rhs; rw [this]
            rw [Nat.mul_add, ← Nat.mul_assoc, Nat.mul_comm a 2]; omega
          · rw [if_neg hn, if_neg (by omega)]

theorem T.full_build (f : Nat → α) (n : Nat) (h : n < 2 ^ 24) : (T.build f 24 n 1 0).Full n := by
  intro i
  rw [T.get_build f 24 n 1 0 i h]
  split <;> simp_all

theorem T.get_push (x : α) : ∀ (fuel : Nat) (t : T α) (n : Nat), n + 1 < 2 ^ fuel → t.Full n → ∀ i, (T.push x fuel t n).get i = if i = n then some x else t.get i := by
  intro fuel
  induction fuel with
  | zero => intro t n h; simp at h
  | succ fuel ih =>
    intro t n h hf i
    have hp : 2 ^ (fuel + 1) = 2 * 2 ^ fuel := by rw [Nat.pow_succ]; omega
    cases t with
    | leaf =>
      have : n = 0 := by have := hf 0; simp [T.get_leaf] at this; omega
      subst this
      show (T.node .leaf x .leaf).get i = _
      rw [T.get_node]; simp [T.get_leaf]
    | node l v r =>
      have h0 : 0 < n := by have := hf 0; simp [T.get_node] at this; omega
      show (bif Nat.beq (n % 2) 1 then T.node (T.push x fuel l (n / 2)) v r else .node l v (T.push x fuel r (n / 2 - 1))).get i = _
      by_cases h1 : n % 2 = 1
      · have e : Nat.beq (n % 2) 1 = true := by rw [h1]; rfl
        rw [e, cond_true, T.get_node, T.get_node]
        have hl : l.Full (n / 2) := by
          intro j
          have := hf (2 * j + 1)
          rw [T.get_node, if_neg (by omega), if_pos (by omega)] at this
          rw [show (2 * j + 1) / 2 = j by omega] at this
          rw [this]; congr 1; apply propext; omega
        by_cases hi : i = 0
        · subst hi; rw [if_pos rfl, if_neg (by omega), if_pos rfl]
        · rw [if_neg hi, if_neg hi]
          by_cases hi1 : i % 2 = 1
          · rw [if_pos hi1, if_pos hi1, ih l (n / 2) (by omega) hl]
            by_cases hin : i = n
            · rw [if_pos (by omega), if_pos hin]
            · rw [if_neg (by omega), if_neg hin]
          · rw [if_neg hi1, if_neg hi1, if_neg (by omega)]
      · have e : Nat.beq (n % 2) 1 = false := by
          cases hh : Nat.beq (n % 2) 1
          · rfl
          · exact absurd (Nat.eq_of_beq_eq_true hh) h1
        rw [e, cond_false, T.get_node, T.get_node]
        have hr : r.Full (n / 2 - 1) := by
          intro j
          have := hf (2 * j + 2)
          rw [T.get_node, if_neg (by omega), if_neg (by omega)] at this
          rw [show (2 * j + 2) / 2 - 1 = j by omega] at this
          rw [this]; congr 1; apply propext; omega
        by_cases hi : i = 0
        · subst hi; rw [if_pos rfl, if_neg (by omega), if_pos rfl]
        · rw [if_neg hi, if_neg hi]
          by_cases hi1 : i % 2 = 1
          · rw [if_pos hi1, if_pos hi1, if_neg (by omega)]
          · rw [if_neg hi1, if_neg hi1, ih r (n / 2 - 1) (by omega) hr]
            by_cases hin : i = n
            · rw [if_pos (by omega), if_pos hin]
            · rw [if_neg (by omega), if_neg hin]
end
end Go.AM
