/- AM: the operations that write, the regions, the code. -/
import Derived.Test.YtpmolggmafgeeaaGreatDoorAmInt
import Derived.Laws.Rows
import Derived.Orders
import Derived.Laws.Cells
namespace Go.AM
open Go
noncomputable section

abbrev Rec := FuncId → List Value → Heap → Option (Value × Heap)

/-- what is appended, or copied: its cells -/
def srcCells (H : Heap) (size n : Nat) : Value → Option (List Value)
  | .slice none _ _ => some []
  | .slice (some ⟨b, off, none⟩) _ _ => H.cells b off (n * size)
  | .slice (some ⟨_, _, some _⟩) _ _ => bif n.beq 0 then some [] else none
  | .string s => some ((s.data.toList.take n).map fun b => .int .u8 b.toNat)
  | _ => none

def srcLen : Value → Option Nat
  | .slice _ n _ => some n
  | .string s => some s.size
  | _ => none

def isIntT : TypeDesc → Bool
  | .int _ => true
  | _ => false

def zeroOk (ei : TI) : Bool :=
  match ei.zero with
  | some z => Nat.beq z.cells.size ei.size
  | none => false

def rep {α : Type} : Nat → List α → List α
  | 0, _ => []
  | n + 1, l => l ++ rep n l

/-- append to a slice of which the capacity is not known -/
def appendOpen (C : Ctx) (H : Heap) (e : TypeId) (size b off len cap n : Nat) (new : List Value) : Option (Value × Heap) :=
  bif !Nat.beq cap (OPEN + size) then none else
  bif Nat.beq n 0 then some (.slice (some ⟨b, off, none⟩) len cap, H) else
  match H.blk b with
  | some (.cells e' vs true z) =>
    bif Nat.beq e' e then
      bif Nat.ble (off + len * size + n * size) vs.length then
        match H.store C.base b (off + len * size) new with
        | some H => some (.slice (some ⟨b, off, none⟩) (len + n) cap, H)
        | none => none
      else bif Nat.beq (off + len * size) vs.length && Nat.ble C.base b && Nat.ble z.z (off + len * size) && oneCells new then
        match (H.set b .dead).new (.cells e (vs.drop off ++ new) true ⟨z.z - off, z.s⟩) with
        | some (b', H) => some (.slice (some ⟨b', 0, none⟩) (len + n) cap, H)
        | none => none
      else none
    else none
  | _ => none

/-- append to a slice of which it is -/
def appendExact (C : Ctx) (H : Heap) (e : TypeId) (size b off len cap n : Nat) (new : List Value) : Option (Value × Heap) :=
  bif Nat.ble (len + n) cap then
    bif Nat.beq n 0 then some (.slice (some ⟨b, off, none⟩) (len + n) cap, H) else
    match H.store C.base b (off + len * size) new with
    | some H => some (.slice (some ⟨b, off, none⟩) (len + n) cap, H)
    | none => none
  else
    match H.cells b off (len * size) with
    | some old => match H.new (.cells e (old ++ new) true ⟨0, false⟩) with
      | some (b', H) => some (.slice (some ⟨b', 0, none⟩) (len + n) (OPEN + size), H)
      | none => none
    | none => none

def appendNil (H : Heap) (e : TypeId) (size len cap n : Nat) (new : List Value) : Option (Value × Heap) :=
  bif Nat.beq len 0 && Nat.beq cap 0 then
    (bif Nat.beq n 0 then some (.slice none 0 0, H) else
      match H.new (.cells e new true ⟨0, false⟩) with
      | some (b, H) => some (.slice (some ⟨b, 0, none⟩) (len + n) (OPEN + size), H)
      | none => none)
    else none

/-- append of so many zeros, as made by make, to a slice that is nil -/
def appendZ (C : Ctx) (H : Heap) (si : TI) (s x : Value) : Option (Value × Heap) :=
  match si.u, s, natOf x with
  | .slice e, .slice none _ _, some n => match C.tyOf e with
    | some ei => match ei.zero with
      | some z => bif !Nat.beq n 0 && !Nat.beq ei.size 0 && Nat.ble n LIMIT && Nat.ble ei.bytes 65536 && Nat.beq z.cells.size ei.size then
          match H.new (.cells e (rep n z.cells.toList) true ⟨0, false⟩) with
          | some (b, H) => some (.slice (some ⟨b, 0, none⟩) n (OPEN + ei.size), H)
          | none => none
        else none
      | none => none
    | none => none
  | _, _, _ => none

def appendB (C : Ctx) (H : Heap) (st xt : TypeId) (s x : Value) : Option (Value × Heap) :=
  match C.tyOf st, C.tyOf xt with
  | some si, some xi =>
    bif isIntT xi.u then appendZ C H si s x else
    match si.u, s, srcLen x with
    | .slice e, .slice base len cap, some n =>
      match C.tyOf e with
      | none => none
      | some ei =>
        bif Nat.beq ei.size 0 || !(Nat.ble (len + n) LIMIT && Nat.ble ei.bytes 65536 && zeroOk ei) then none else
        match srcCells H ei.size n x with
        | none => none
        | some new =>
          bif !Nat.beq new.length (n * ei.size) then none else
          match base with
          | none => appendNil H e ei.size len cap n new
          | some ⟨b, off, none⟩ =>
            bif Nat.ble OPEN cap then appendOpen C H e ei.size b off len cap n new
            else appendExact C H e ei.size b off len cap n new
          | _ => none
    | _, _, _ => none
  | _, _ => none

def copyB (C : Ctx) (H : Heap) (dt : TypeId) (d x : Value) : Option (Value × Heap) :=
  match C.tyOf dt with
  | some di => match di.u, d, srcLen x with
    | .slice e, .slice base len _, some n =>
      match C.tyOf e with
      | some ei =>
        let m := Nat.min n len
        match srcCells H ei.size m x, base with
        | some l, none => bif l.length.beq 0 then some (.int .i64 m, H) else none
        | some l, some ⟨b, off, none⟩ =>
          bif l.length.beq 0 then some (.int .i64 m, H) else
          match H.store C.base b off l with
          | some H => some (.int .i64 m, H)
          | none => none
        | _, _ => none
      | none => none
    | _, _, _ => none
  | none => none

def all2 (eq : Value → Value → Bool) : List Value → List Value → Bool
  | [], [] => true
  | x :: xs, y :: ys => eq x y && all2 eq xs ys
  | _, _ => false

/-- surely one -/
def veq : Nat → Value → Value → Bool
  | 0, _, _ => false
  | n + 1, a, b =>
    match a, b with
    | .bool a, .bool b => a == b
    | .int k a, .int j b => decide (k = j) && decide (a = b)
    | .float k a, .float j b => decide (k = j) && a == b
    | .string a, .string b => decide (a.data.toList = b.data.toList)
    | .pointer a, .pointer b => decide (a = b)
    | .slice a l c, .slice b m d => decide (a = b) && l == m && c == d
    | .map a, .map b => decide (a = b)
    | .nilFunc, .nilFunc => true
    | .nilIface, .nilIface => true
    | .iface t a, .iface u b => t == u && veq n a b
    | .agg a, .agg b => all2 (veq n) a.toList b.toList
    | .tuple a, .tuple b => all2 (veq n) a.toList b.toList
    | .func (.func f) a c, .func (.func g) b d => f == g && all2 (veq n) a.toList b.toList && all2 (veq n) c.toList d.toList
    | _, _ => false

def setK : List (Value × Value × Nat) → Nat → Value × Value → List (Value × Value × Nat)
  | [], _, _ => []
  | e :: es, 0, x => (x.1, x.2, e.2.2) :: es
  | e :: es, i + 1, x => e :: setK es i x

def dropK : List (Value × Value × Nat) → Nat → List (Value × Value × Nat)
  | [], _ => []
  | _ :: es, 0 => es
  | e :: es, i + 1 => e :: dropK es i

/-- values that are the same wherever they stand -/
def plainV : Value → Bool
  | .int _ _ | .string _ | .bool _ => true
  | _ => false

def plainK : Value → Bool
  | .agg cs => cs.toList.all plainV
  | v => plainV v

def updateB (C : Ctx) (H : Heap) (t : TypeId) (m k x : Value) : Option Heap :=
  match C.tyOf t, m with
  | some i, .map (some r) => match i.u, H.blk r with
    | .map kt _, some (.map es clock) =>
      bif C.base.ble r then
        match lookK C kt k es with
        | some (some (i, _)) => match es[i]? with
          | some e => bif plainK k && veq 2 e.1 k then some (H.set r (.map (setK es i (k, x)) clock)) else none
          | none => none
        | some none => some (H.set r (.map (es ++ [(k, x, clock)]) (clock + 1)))
        | none => none
      else none
    | _, _ => none
  | _, _ => none

def deleteB (C : Ctx) (H : Heap) (t : TypeId) (m k : Value) : Option Heap :=
  match C.tyOf t, m with
  | some i, .map (some r) => match i.u, H.blk r with
    | .map kt _, some (.map es clock) =>
      bif C.base.ble r then
        match lookK C kt k es with
        | some (some (i, _)) => some (H.set r (.map (dropK es i) clock))
        | some none => some H
        | none => none
      else none
    | _, _ => none
  | _, _ => none

def nextB (C : Ctx) (H : Heap) (it : Value) : Option (Value × Heap) :=
  match it with
  | .pointer (some ⟨r, 0, none⟩) => match H.blk r with
    | some (.iter none _ _ _) => some (.tuple #[.bool false], H)
    | some (.iter (some m) since seen last) => match H.blk m with
      | some (.map es clock) =>
        bif C.base.ble r && since.ble last && (es.all fun e => e.2.2.blt since) then
          match es.filter (fun e => !seen.contains e.2.2) with
          | [] => some (.tuple #[.bool false], H)
          | [e] => some (.tuple #[.bool true, e.1, e.2.1], H.set r (.iter (some m) since (seen ++ [e.2.2]) clock))
          | _ => none
        else none
      | _ => none
    | _ => none
  | _ => none

def newP (H : Heap) (x : Blk) : Option (Value × Heap) :=
  match H.new x with
  | some (b, H) => some (.pointer (some ⟨b, 0, none⟩), H)
  | none => none

def allocB (C : Ctx) (ρ : Env) (H : Heap) : Op → Option (Value × Heap)
  | .alloc t => match C.tyOf t with
    | some i => match i.zero with | some z => newP H (.cells t z.cells.toList false ⟨0, false⟩) | none => none
    | none => none
  | .box t x => match ρ x with | some v => newP H (.cells t v.cells.toList false ⟨0, false⟩) | none => none
  | .buildSlice t len parts => match evP ρ parts.toList, C.tyOf t with
    | some l, some i => match i.u with
      | .slice e => match C.tyOf e with
        | some j => match j.zero with
          | some z =>
            bif j.size.beq 0 || !((len * j.size).ble 4096) || !(Nat.beq z.cells.size j.size) then none else
            match Instr.fill (fun n => some (n * j.size, j.size)) (rep len z.cells.toList).toArray l with
            | some cs => match H.new (.cells e cs.toList false ⟨0, false⟩) with
              | some (b, H) => some (.slice (some ⟨b, 0, none⟩) len len, H)
              | none => none
            | none => none
          | none => none
        | none => none
      | _ => none
    | _, _ => none
  | .makeMap _ none => match H.new (.map [] 0) with | some (b, H) => some (.map (some b), H) | none => none
  | .makeSlice t l c => match C.tyOf t, ρ l, ρ c with
    | some i, some lv, some cv => match i.u, natOf lv, natOf cv with
      | .slice e, some l, some c => match C.tyOf e with
        | some j => match j.zero with
          | some z =>
            bif l.ble c && c.ble LIMIT && j.bytes.ble 65536 && !j.size.beq 0 && Nat.beq z.cells.size j.size then
              match H.new (.cells e (rep c z.cells.toList) false ⟨0, false⟩) with
              | some (b, H) => some (.slice (some ⟨b, 0, none⟩) l c, H)
              | none => none
            else none
          | none => none
        | none => none
      | _, _, _ => none
    | _, _, _ => none
  | _ => none

def isA : Op → Bool
  | .alloc _ | .box .. | .buildSlice .. | .makeSlice .. => true
  | .makeMap _ none => true
  | _ => false

def invokeB (C : Ctx) (rec : Rec) (H : Heap) (recv : Value) (name : String) (args : List Value) : Option (Value × Heap) :=
  match recv with
  | .iface t v => match C.tyOf t with
    | some i => match i.methods.toList.find? (·.name == name) with
      | some m => match m.path.toList, m.func with
        | [], some (f, true) => match i.u with
          | .pointer _ => rec f (v :: args) H
          | _ => none
        | [], some (f, false) => match i.u with
          | .pointer e => match loadV C H e v with
            | some x => rec f (x :: args) H
            | none => none
          | _ => rec f (v :: args) H
        | _, _ => none
      | none => none
    | none => none
  | _ => none
def bInvoke (C : Ctx) (rec : Rec) (H : Heap) (recv : Option Value) (name : String) (args : Option (List Value)) : Option (Value × Heap) :=
  match recv, args with
  | some r, some l => invokeB C rec H r name l
  | _, _ => none

def bStore (C : Ctx) (ρ : Env) (H : Heap) (t : TypeId) (a x : Operand) : Option (Value × Heap) :=
  match C.tyOf t, ρ a, ρ x with
  | some d, some (.pointer (some ⟨b, off, none⟩)), some v =>
    bif Nat.beq v.cells.size d.size then (match H.store C.base b off v.cells.toList with | some H => some (undef, H) | none => none) else none
  | _, _, _ => none
def bUpdate (C : Ctx) (ρ : Env) (H : Heap) (t : TypeId) (m k x : Operand) : Option (Value × Heap) :=
  match ρ m, ρ k, ρ x with
  | some m, some k, some x => match updateB C H t m k x with | some H => some (undef, H) | none => none
  | _, _, _ => none
def bConv (C : Ctx) (ρ : Env) (H : Heap) (s d : TypeId) (x : Operand) : Option (Value × Heap) :=
  match C.tyOf s, C.tyOf d, ρ x with
  | some i, some j, some (.string s) =>
    match i.u, j.u with
    | .string, .slice e =>
      match C.tyOf e with
      | some ei => match ei.u with
        | .int .u8 => bif s.size.ble LIMIT then
            match H.new (.cells e (s.data.toList.map fun b => .int .u8 b.toNat) true ⟨0, true⟩) with
            | some (b, H) => some (.slice (some ⟨b, 0, none⟩) s.size (OPEN + 1), H)
            | none => none
          else none
        | _ => none
      | none => none
    | _, _ => none
  | _, _, _ => none
def bRange (C : Ctx) (ρ : Env) (H : Heap) (t : TypeId) (x : Operand) : Option (Value × Heap) :=
  match C.tyOf t, ρ x with
  | some i, some (.map m) => match i.u with
    | .map _ _ => match m with
      | none => newP H (.iter none 0 [] 0)
      | some r => match H.blk r with | some (.map _ clock) => newP H (.iter (some r) clock [] clock) | _ => none
    | _ => none
  | _, _ => none
def bString (C : Ctx) (H : Heap) (ts : List TypeId) (args : Option (List Value)) : Option (Value × Heap) :=
  match args, ts with
  | some [.pointer p, n], [pt, _] => match natOf n, C.tyOf pt with
    | some n, some pi => match pi.u with
      | .pointer u =>
        bif Nat.beq n 0 then some (.string .empty, H) else
        bif !Nat.ble n LIMIT then none else
        match p with
        | some ⟨b, off, none⟩ => match H.blk b with
          | some (.cells e vs o z) => match C.tyOf e, takeN n (vs.drop off) with
            | some i, some l => match bytesOf l with
              | some r =>
                bif Nat.ble C.base b && Nat.beq i.size 1 && !z.s && sameLayout C.P C.P.depth e u then
                  some (.string ⟨r.toArray⟩, H.set b (.cells e vs o ⟨bif Nat.ble z.z (off + n) then off + n else z.z, false⟩))
                else none
              | none => none
            | _, _ => none
          | _ => none
        | _ => none
      | _ => none
    | _, _ => none
  | _, _ => none
def bFun (rec : Rec) (H : Heap) (f : Option Value) (args : Option (List Value)) : Option (Value × Heap) :=
  match f with
  | some (.func (.func g) first captured) => match args with
    | some args => rec g (first.toList ++ args ++ captured.toList) H
    | none => none
  | _ => none
def clearB (C : Ctx) (H : Heap) (t : TypeId) (x : Value) : Option (Value × Heap) :=
  match C.tyOf t, x with
  | some i, .slice base len _ => bif Nat.beq len 0 then some (.tuple #[], H) else
    match i.u, base with
    | .slice e, some ⟨b, off, none⟩ => match C.tyOf e with
      | some j => match j.zero with
        | some z => match H.store C.base b off (rep len z.cells.toList) with | some H => some (.tuple #[], H) | none => none
        | none => none
      | none => none
    | _, _ => none
  | _, _ => none
def bBuiltin (C : Ctx) (H : Heap) (b : Builtin) (args : Option (List Value)) (ts : List TypeId) : Option (Value × Heap) :=
  match b with
  | .append => match args, ts with | some [s, x], [st, xt] => appendB C H st xt s x | _, _ => none
  | .copy => match args, ts with | some [d, x], dt :: _ => copyB C H dt d x | _, _ => none
  | .unsafeString => bString C H ts args
  | .clear => match args, ts with | some [x], t :: _ => clearB C H t x | _, _ => none
  | .delete => match args, ts with
    | some [m, k], t :: _ => match deleteB C H t m k with | some H => some (.tuple #[], H) | none => none
    | _, _ => none
  | _ => none
def bCall (C : Ctx) (rec : Rec) (ρ : Env) (H : Heap) (c : Call) : Option (Value × Heap) :=
  match c.callee with
  | .value f => bFun rec H (ρ f) (evL ρ c.args.toList)
  | .invoke x name => bInvoke C rec H (ρ x) name (evL ρ c.args.toList)
  | .builtin b => bBuiltin C H b (evL ρ c.args.toList) c.argTypes.toList

def opB (C : Ctx) (rec : Rec) (ρ : Env) (H : Heap) (o : Op) : Option (Value × Heap) :=
  match o with
  | .store t a x => bStore C ρ H t a x
  | .mapUpdate t m k x | .insert t m k x => bUpdate C ρ H t m k x
  | .convert s d x => bConv C ρ H s d x
  | .range t x => bRange C ρ H t x
  | .next it isString => bif isString then none else (match ρ it with | some v => nextB C H v | none => none)
  | .call c => bCall C rec ρ H c
  | o => allocB C ρ H o

def retV (H : Heap) : Option Value → Option (Value × Heap)
  | some v => some (v, H)
  | none => none

def opF (C : Ctx) (rec : Rec) (ρ : Env) (H : Heap) (o : Op) : Option (Value × Heap) :=
  match cls C o with
  | .p => retV H (opP C ρ o)
  | .r => retV H (opR C ρ H o)
  | .b => opB C rec ρ H o

/-! regions -/
def guardOk (ops : List Oper) (tm : T Value) (o : Oper) : Option Bool :=
  match o.guard with
  | none => some true
  | some (j, want) =>
    match ops[j]? with
    | some p => match p.dst with
      | some d => match tm.get d with
        | some (.bool b) => some (b == want)
        | some (.tuple _) => some false
        | _ => none
      | none => none
    | none => none

def put (tm : T Value) (d : Option Nat) (v : Value) : T Value :=
  match d with
  | some d => tm.mod d v
  | none => tm

inductive Ex where
  | normal | exit (id : Nat) | ret

inductive R where
  | bad
  | ok (e : Ex) (tm : T Value) (H : Heap)

def opsStep (C : Ctx) (rec : Rec) (all : List Oper) (o : Oper) (ih : T Value → Heap → R) (tm : T Value) (H : Heap) : R :=
  match guardOk all tm o with
  | some true => match opF C rec (evT C.base tm) H o.op with
    | some (v, H) => ih (put tm o.dst v) H
    | none => .bad
  | some false => ih (put tm o.dst undef) H
  | none => .bad

def opsF (C : Ctx) (rec : Rec) (all : List Oper) : List Oper → T Value → Heap → R :=
  List.rec (fun tm H => .ok .normal tm H) (fun o _ ih => opsStep C rec all o ih)

/-! a region that draws its order -/
def edgeOf (o : Oper) : List Nat := (o.after.toList.filter (Region.binds .any ·)).map (·.on)

/-- of each operation, as bits, all that must stand ahead of it -/
def ancs (anc : List Nat) : List Oper → List Nat
  | [] => anc
  | o :: os => ancs (anc ++ [(edgeOf o).foldl (fun s j => s ||| 2 ^ j ||| anc.getD j 0) 0]) os

def edgesBack : Nat → List Oper → Bool
  | _, [] => true
  | i, o :: os => (edgeOf o).all (·.blt i) && edgesBack (i + 1) os

def bit (anc : List Nat) (j i : Nat) : Bool := (anc.getD j 0).testBit i

def looks (all : List Oper) (o : Oper) : List Tmp :=
  (o.op.operands.toList.filterMap fun | .tmp t => some t | _ => none) ++
  (match o.guard with
   | some (g, _) => match all[g]? with | some p => p.dst.toList | none => []
   | none => [])

/-- i writes what j looks at: they are ordered; no two write one -/
def calm (anc : List Nat) (all : List Oper) : Bool :=
  (List.range all.length).all fun i => match all[i]? with
    | none => false
    | some x => match x.dst with
      | none => true
      | some d => (List.range all.length).all fun j => match all[j]? with
        | none => false
        | some y => i == j || (y.dst != some d && (!(looks all y).contains d || bit anc j i || bit anc i j))

inductive Sort3 where
  | p | r | a | b
def sort3 (C : Ctx) (o : Op) : Sort3 :=
  match cls C o with
  | .p => .p | .r => .r | .b => bif isA o then .a else .b

def isB (C : Ctx) (all : List Oper) (i : Nat) : Bool :=
  match all[i]? with | some o => (match sort3 C o.op with | .b => true | _ => false) | none => false
def isAt (C : Ctx) (all : List Oper) (i : Nat) : Bool :=
  match all[i]? with | some o => (match sort3 C o.op with | .a => true | _ => false) | none => false

def isPA (C : Ctx) (all : List Oper) (i : Nat) : Bool :=
  match all[i]? with | some o => (match sort3 C o.op with | .b => false | _ => true) | none => false
def badOf (p : Nat → Bool) : List Nat → Nat → Nat
  | [], s => s
  | i :: l, s => badOf p l (bif p i then s else s ||| 2 ^ i)
/-- what writes nothing, and nothing behind which it stands writes -/
def early (C : Ctx) (anc : List Nat) (all : List Oper) (bad i : Nat) : Bool := isPA C all i && ((anc.getD i 0) &&& bad).beq 0

/-- the order in which the machine goes: what makes memory out of nothing first -/
def order (C : Ctx) (anc : List Nat) (all : List Oper) : List Nat :=
  let r := List.range all.length
  let bad := badOf (isPA C all) r 0
  r.filter (early C anc all bad) ++ r.filter (fun i => !early C anc all bad i)

/-- all that write stand in one order; what makes memory stands behind those writers behind which the machine has it -/
def chained (C : Ctx) (anc : List Nat) (all : List Oper) : Option Nat → List Nat → Bool
  | _, [] => true
  | last, i :: is =>
    bif isB C all i then (match last with | some j => bit anc i j | none => true) && chained C anc all (some i) is
    else bif isAt C all i then (match last with | some j => bit anc i j | none => true) && chained C anc all last is
    else chained C anc all last is

def static (C : Ctx) (all : List Oper) : Bool :=
  let anc := ancs [] all
  edgesBack 0 all && calm anc all && chained C anc all none (order C anc all)

def blkEq : Blk → Blk → Bool
  | .cells e vs o z, .cells e' vs' o' z' => e == e' && all2 (veq 4) vs vs' && o == o' && decide (z = z')
  | .map [] 0, .map [] 0 => true
  | _, _ => false

structure Rd where
  i : Nat
  o : Oper
  tm : T Value
  v : Value

structure Nd where
  i : Nat
  b : Nat
  x : Blk

/-- the heap between two writers -/
structure Hd where
  l : Option Nat
  c : Option Nat
  H : Heap

/-- the region's operations, one behind the other; the heaps ahead of each writer, and the last one; what was read; what was made -/
def drawGo (C : Ctx) (rec : Rec) (all : List Oper) : List Nat → T Value → Heap → Option Nat → List Hd → List Rd → List Nd → Option (T Value × Heap × List Hd × List Rd × List Nd)
  | [], tm, H, l, hs, rs, ns => some (tm, H, ⟨l, none, H⟩ :: hs, rs, ns)
  | i :: is, tm, H, l, hs, rs, ns =>
    match all[i]? with
    | none => none
    | some o =>
      match guardOk all tm o with
      | none => none
      | some false => bif isB C all i then drawGo C rec all is (put tm o.dst undef) H (some i) (⟨l, some i, H⟩ :: hs) rs ns else drawGo C rec all is (put tm o.dst undef) H l hs rs ns
      | some true =>
        match sort3 C o.op with
        | .p => match opP C (evR C.base (looks all o) tm) o.op with
          | some v => drawGo C rec all is (put tm o.dst v) H l hs rs ns
          | none => none
        | .r => match opR C (evR C.base (looks all o) tm) H o.op with
          | some v => drawGo C rec all is (put tm o.dst v) H l hs (⟨i, o, tm, v⟩ :: rs) ns
          | none => none
        | .a => match allocB C (evR C.base (looks all o) tm) H o.op with
          | some (v, H') => match H'.blk H.n with
            | some x => drawGo C rec all is (put tm o.dst v) H' l hs rs (⟨i, H.n, x⟩ :: ns)
            | none => none
          | none => none
        | .b => match opB C rec (evR C.base (looks all o) tm) H o.op with
          | some (v, H') => drawGo C rec all is (put tm o.dst v) H' (some i) (⟨l, some i, H⟩ :: hs) rs ns
          | none => none

/-- such a thing never stands there -/
def away (anc : List Nat) (h : Hd) (i : Nat) : Bool :=
  (match h.c with | some j => bit anc i j | none => false) || (match h.l with | some j => bit anc j i | none => false)

def rdOk (C : Ctx) (anc : List Nat) (all : List Oper) (hs : List Hd) (r : Rd) : Bool :=
  hs.all fun h => away anc h r.i || match opR C (evR C.base (looks all r.o) r.tm) h.H r.o.op with | some v => veq 4 r.v v | none => false

def ndOk (anc : List Nat) (hs : List Hd) (n : Nd) : Bool :=
  hs.all fun h => away anc h n.i || match h.H.blk n.b with | some x => blkEq n.x x | none => false

def drawF (C : Ctx) (rec : Rec) (all : List Oper) (tm : T Value) (H : Heap) : R :=
  let anc := ancs [] all
  bif static C all then
    match drawGo C rec all (order C anc all) tm H none [] [] [] with
    | some (tm, H, hs, rs, ns) => bif rs.all (rdOk C anc all hs) && ns.all (ndOk anc hs) then .ok .normal tm H else .bad
    | none => .bad
  else .bad

/-! calls -/
def resV (C : Ctx) (tm : T Value) (H : Heap) : ResultVar → Option Value
  | .tmp t => tm.get t
  | .cell a t => match tm.get a with
    | some v => loadV C H t v
    | none => none

def resL (C : Ctx) (tm : T Value) (H : Heap) : List ResultVar → Option (List Value)
  | [] => some []
  | x :: xs => match resV C tm H x with
    | some v => match resL C tm H xs with | some l => some (v :: l) | none => none
    | none => none

def resOf (C : Ctx) (tm : T Value) (H : Heap) (rs : List ResultVar) : Option Value :=
  match resL C tm H rs with
  | some [v] => some v
  | some l => some (.tuple l.toArray)
  | none => none

def callF (C : Ctx) (rec : Code → T Value → Heap → R) (f : FuncId) (args : List Value) (H : Heap) : Option (Value × Heap) :=
  match C.prOf f with
  | some p => p args H
  | none =>
    match C.fnOf f with
    | some fi =>
      bif Nat.ble args.length fi.ntmps && Nat.ble fi.ntmps LIMIT then
        match rec fi.body (T.build (fun i => args.getD i undef) 24 fi.ntmps 1 0) H with
        | .ok .normal tm H | .ok .ret tm H => match resOf C tm H fi.results with | some v => some (v, H) | none => none
        | _ => none
      else none
    | none => none

def codeF (C : Ctx) (rec : Code → T Value → Heap → R) (c : Code) (tm : T Value) (H : Heap) : R :=
  match c with
  | .skip | .label _ => .ok .normal tm H
  | .region _ ops draw => bif draw then drawF C (callF C rec) ops.toList tm H else opsF C (callF C rec) ops.toList ops.toList tm H
  | .seq a b => match rec a tm H with | .ok .normal tm H => rec b tm H | r => r
  | .cond c a b => match evT C.base tm c with | some (.bool true) => rec a tm H | some (.bool false) => rec b tm H | _ => .bad
  | .block id b => match rec b tm H with
    | .ok (.exit i) tm H => bif i.beq id then .ok .normal tm H else .ok (.exit i) tm H
    | r => r
  | .loop b => match rec b tm H with | .ok .normal tm H => rec (.loop b) tm H | r => r
  | .exit id => .ok (.exit id) tm H
  | .ret => .ok .ret tm H
  | _ => .bad

def run (C : Ctx) : Nat → Code → T Value → Heap → R :=
  Nat.rec (fun _ _ _ => .bad) (fun _ ih => codeF C ih)

def call (C : Ctx) (n : Nat) (f : FuncId) (args : List Value) (H : Heap) : Option (Value × Heap) := callF C (run C n) f args H

/-- the machine of a program, with rules -/
def ctxR (P : Program) (pr : T (Option Prim)) (base : Nat) (rules : List Rule) : Ctx :=
  ⟨P, T.build (TI.of P) 24 1024 1 0, T.build (FI.of P) 24 2048 1 0, pr, base, 0, rules⟩
/-- the machine of a program -/
def ctx (P : Program) (pr : T (Option Prim)) (base : Nat) : Ctx :=
  ⟨P, T.build (TI.of P) 24 1024 1 0, T.build (FI.of P) 24 2048 1 0, pr, base, 0, []⟩
end
end Go.AM
namespace Go.AM
open Go
noncomputable section
def noEscape : Prim := fun args H => match args with | [v] => some (v, H) | _ => none
def makeNoZero (e : TypeId) : Prim := fun args H => match args with
  | [.int .i64 (.ofNat n)] => bif n.ble LIMIT then (match H.new (.cells e [] true ⟨0, false⟩) with | some (b, H) => some (.slice (some ⟨b, 0, none⟩) n (OPEN + 1), H) | none => none) else none
  | _ => none

/-- of numbered texts the last one of a number -/
def lastW (n : Int) : List Value → Option ByteArray → Option (Option ByteArray)
  | [], r => some r
  | .int .i64 m :: .string s :: l, r => lastW n l (if m = n then some s else r)
  | _, _ => none

def waitsOf (H : Heap) : Value → Option (List Value)
  | .slice none _ _ => some []
  | .slice (some ⟨wb, wo, none⟩) wl _ => bif wl.ble 1048576 then H.cells wb wo (2 * wl) else none
  | _ => none

def stableAt (H : Heap) (n : Int) : Value → Option ByteArray
  | .slice (some ⟨sb, so, none⟩) sl _ => match n with
    | .ofNat n => bif Nat.ble (n + 1) sl && sl.ble 1048576 then (match H.cell sb (so + n) with | some (.string d) => some d | _ => none) else none
    | _ => none
  | _ => none

/-- the text of a page of a disk: of what waits the last one of the page, else what is stable -/
def diskData : Prim := fun args H => match args with
  | [.pointer (some ⟨b, off, none⟩), .int .i64 n] =>
    match H.cells b off 2 with
    | some [st, wt] =>
      match waitsOf H wt with
      | some ws => match lastW n ws none with
        | some (some d) => some (.string d, H)
        | some none => match stableAt H n st with | some d => some (.string d, H) | none => none
        | none => none
      | none => none
    | _ => none
  | _ => none

/-! a sum (CRC-32C), four bits at a time -/
def crcBig : Nat := 12749536319551302420830055290731983042906869231766370170184255228463894984119587222357463453493748006886229547019502462691509165827871124329361635492757504
def crcT (k : Nat) : Nat := (crcBig >>> (32 * k)) &&& 4294967295
def crc1 (c : Nat) : Nat := (c >>> 4) ^^^ crcT (c &&& 15)
def crcL (l : List UInt8) : Nat → Nat := List.rec (fun c => c) (fun b _ ih c => ih (crc1 (crc1 (c ^^^ b.toNat)))) l
def crcTab : List Value := [.int .u32 0, .int .u32 274646895, .int .u32 549293790, .int .u32 820201905, .int .u32 1098587580, .int .u32 1361435347, .int .u32 1640403810, .int .u32 1905808397, .int .u32 2197175160, .int .u32 2460548119, .int .u32 2722870694, .int .u32 2987750089, .int .u32 3280807620, .int .u32 3553878443, .int .u32 3811616794, .int .u32 4084100981]

/-- a text's sum behind another one; g: the table's block -/
def sumAdd (g : Nat) : Prim := fun args H => match args with
  | [.int .u32 (.ofNat c), .string s] => match H.blk g with
    | some (.tab vs) => bif Nat.blt c 4294967296 && s.size.ble LIMIT && all2 (veq 2) vs crcTab then
        some (.int .u32 (.ofNat (4294967295 ^^^ crcL s.data.toList (4294967295 ^^^ c))), H) else none
    | _ => none
  | _ => none
end
end Go.AM
namespace Go.AM
open Go

theorem beq_iff (a b : Nat) : (Nat.beq a b = true) = (a = b) :=
  propext ⟨Nat.eq_of_beq_eq_true, fun h => by subst h; exact Nat.beq_refl a⟩

section
variable {α : Type}
theorem T.get_leaf (n : Nat) : (T.leaf : T α).get n = none := rfl
theorem T.get_node (l : T α) (v : α) (r : T α) (n : Nat) :
    (T.node l v r).get n = if n = 0 then some v else if n % 2 = 1 then l.get (n / 2) else r.get (n / 2 - 1) := by
  show (bif Nat.beq n 0 then some v else bif Nat.beq (Nat.mod n 2) 1 then l.get (Nat.div n 2) else r.get (Nat.pred (Nat.div n 2))) = _
  have h1 : Nat.mod n 2 = n % 2 := rfl
  have h2 : Nat.div n 2 = n / 2 := rfl
  rw [h1, h2, cond_eq_ite, cond_eq_ite]
  simp only [beq_iff]; rfl
theorem T.mod_node (l : T α) (v : α) (r : T α) (n : Nat) (x : α) :
    (T.node l v r).mod n x = if n = 0 then .node l x r else if n % 2 = 1 then .node (l.mod (n / 2) x) v r else .node l v (r.mod (n / 2 - 1) x) := by
  show (bif Nat.beq n 0 then T.node l x r else bif Nat.beq (Nat.mod n 2) 1 then .node (l.mod (Nat.div n 2) x) v r else .node l v (r.mod (Nat.pred (Nat.div n 2)) x)) = _
  have h1 : Nat.mod n 2 = n % 2 := rfl
  have h2 : Nat.div n 2 = n / 2 := rfl
  rw [h1, h2, cond_eq_ite, cond_eq_ite]
  simp only [beq_iff]; rfl
theorem T.mod_leaf (n : Nat) (x : α) : (T.leaf : T α).mod n x = .leaf := rfl

theorem T.get_mod_same (t : T α) : ∀ (n : Nat) (x : α), (t.mod n x).get n = if (t.get n).isSome then some x else none := by
  induction t with
  | leaf => intro n x; simp [T.mod_leaf, T.get_leaf]
  | node l v r ihl ihr =>
    intro n x
    rw [T.mod_node, T.get_node]
    by_cases h0 : n = 0
    · subst h0; simp [T.get_node]
    · rw [if_neg h0, if_neg h0]
      by_cases h1 : n % 2 = 1
      · rw [if_pos h1, if_pos h1, T.get_node, if_neg h0, if_pos h1, ihl]
      · rw [if_neg h1, if_neg h1, T.get_node, if_neg h0, if_neg h1, ihr]

theorem T.get_mod_other (t : T α) : ∀ (n m : Nat) (x : α), m ≠ n → (t.mod n x).get m = t.get m := by
  induction t with
  | leaf => intro n m x _; rfl
  | node l v r ihl ihr =>
    intro n m x h
    rw [T.mod_node]
    by_cases h0 : n = 0
    · have hm : m ≠ 0 := by omega
      rw [if_pos h0]; simp [T.get_node, hm]
    · rw [if_neg h0]
      by_cases h1 : n % 2 = 1
      · rw [if_pos h1, T.get_node, T.get_node]
        by_cases hm : m = 0
        · simp [hm]
        · rw [if_neg hm, if_neg hm]
          by_cases hm1 : m % 2 = 1
          · rw [if_pos hm1, if_pos hm1]; exact ihl _ _ _ (by omega)
          · rw [if_neg hm1, if_neg hm1]
      · rw [if_neg h1, T.get_node, T.get_node]
        by_cases hm : m = 0
        · simp [hm]
        · rw [if_neg hm, if_neg hm]
          by_cases hm1 : m % 2 = 1
          · rw [if_pos hm1, if_pos hm1]
          · rw [if_neg hm1, if_neg hm1]; exact ihr _ _ _ (by omega)

/-- its numbers are just those below n -/
def T.Full (t : T α) (n : Nat) : Prop := ∀ i, (t.get i).isSome = decide (i < n)

theorem T.Full.mod {t : T α} {n : Nat} (h : t.Full n) (i : Nat) (x : α) : (t.mod i x).Full n := by
  intro j
  by_cases e : j = i
  · subst e; rw [T.get_mod_same, ← h j]; split <;> simp_all
  · rw [T.get_mod_other _ _ _ _ e]; exact h j

theorem T.get_build (f : Nat → α) : ∀ (fuel n a b i : Nat), n < 2 ^ fuel → (T.build f fuel n a b).get i = if i < n then some (f (a * i + b)) else none := by
  intro fuel
  induction fuel with
  | zero => intro n a b i h; simp at h; subst h; simp [T.build, T.get_leaf]
  | succ fuel ih =>
    intro n a b i h
    unfold T.build
    by_cases h0 : n = 0
    · subst h0; simp [T.get_leaf]
    · have hb : Nat.beq n 0 = false := by
        cases hh : Nat.beq n 0
        · rfl
        · exact absurd (Nat.eq_of_beq_eq_true hh) h0
      rw [hb, cond_false, T.get_node]
      have hp : 2 ^ (fuel + 1) = 2 * 2 ^ fuel := by rw [Nat.pow_succ]; omega
      by_cases hi : i = 0
      · subst hi; simp; omega
      · rw [if_neg hi]
        by_cases h1 : i % 2 = 1
        · rw [if_pos h1, ih _ _ _ _ (by omega)]
          by_cases hn : i < n
          · rw [if_pos hn, if_pos (by omega)]
            have : i = 2 * (i / 2) + 1 := by omega
            congr 2
            conv => rhs; rw [this]
            rw [Nat.mul_add, ← Nat.mul_assoc, Nat.mul_comm a 2]; omega
          · rw [if_neg hn, if_neg (by omega)]
        · rw [if_neg h1, ih _ _ _ _ (by omega)]
          by_cases hn : i < n
          · rw [if_pos hn, if_pos (by omega)]
            have : i = 2 * (i / 2 - 1) + 2 := by omega
            congr 2
            conv => rhs; rw [this]
            rw [Nat.mul_add, ← Nat.mul_assoc, Nat.mul_comm a 2]; omega
          · rw [if_neg hn, if_neg (by omega)]

theorem T.full_build (f : Nat → α) (n : Nat) (h : n < 2 ^ 24) : (T.build f 24 n 1 0).Full n := by
  intro i
  rw [T.get_build f 24 n 1 0 i h]
  split <;> simp_all

theorem T.get_push (x : α) : ∀ (fuel : Nat) (t : T α) (n : Nat), n + 1 < 2 ^ fuel → t.Full n → ∀ i, (T.push x fuel t n).get i = if i = n then some x else t.get i := by
  intro fuel
  induction fuel with
  | zero => intro t n h; simp at h
  | succ fuel ih =>
    intro t n h hf i
    have hp : 2 ^ (fuel + 1) = 2 * 2 ^ fuel := by rw [Nat.pow_succ]; omega
    cases t with
    | leaf =>
      have : n = 0 := by have := hf 0; simp [T.get_leaf] at this; omega
      subst this
      show (T.node .leaf x .leaf).get i = _
      rw [T.get_node]; simp [T.get_leaf]
    | node l v r =>
      have h0 : 0 < n := by have := hf 0; simp [T.get_node] at this; omega
      show (bif Nat.beq (n % 2) 1 then T.node (T.push x fuel l (n / 2)) v r else .node l v (T.push x fuel r (n / 2 - 1))).get i = _
      by_cases h1 : n % 2 = 1
      · have e : Nat.beq (n % 2) 1 = true := by rw [h1]; rfl
        rw [e, cond_true, T.get_node, T.get_node]
        have hl : l.Full (n / 2) := by
          intro j
          have := hf (2 * j + 1)
          rw [T.get_node, if_neg (by omega), if_pos (by omega)] at this
          rw [show (2 * j + 1) / 2 = j by omega] at this
          rw [this]; congr 1; apply propext; omega
        by_cases hi : i = 0
        · subst hi; rw [if_pos rfl, if_neg (by omega), if_pos rfl]
        · rw [if_neg hi, if_neg hi]
          by_cases hi1 : i % 2 = 1
          · rw [if_pos hi1, if_pos hi1, ih l (n / 2) (by omega) hl]
            by_cases hin : i = n
            · rw [if_pos (by omega), if_pos hin]
            · rw [if_neg (by omega), if_neg hin]
          · rw [if_neg hi1, if_neg hi1, if_neg (by omega)]
      · have e : Nat.beq (n % 2) 1 = false := by
          cases hh : Nat.beq (n % 2) 1
          · rfl
          · exact absurd (Nat.eq_of_beq_eq_true hh) h1
        rw [e, cond_false, T.get_node, T.get_node]
        have hr : r.Full (n / 2 - 1) := by
          intro j
          have := hf (2 * j + 2)
          rw [T.get_node, if_neg (by omega), if_neg (by omega)] at this
          rw [show (2 * j + 2) / 2 - 1 = j by omega] at this
          rw [this]; congr 1; apply propext; omega
        by_cases hi : i = 0
        · subst hi; rw [if_pos rfl, if_neg (by omega), if_pos rfl]
        · rw [if_neg hi, if_neg hi]
          by_cases hi1 : i % 2 = 1
          · rw [if_pos hi1, if_pos hi1, if_neg (by omega)]
          · rw [if_neg hi1, if_neg hi1, ih r (n / 2 - 1) (by omega) hr]
            by_cases hin : i = n
            · rw [if_pos (by omega), if_pos hin]
            · rw [if_neg (by omega), if_neg hin]
end
end Go.AM
namespace Go.AM
open Go

/-- where a block of the machine lies: the model's block, how far on it begins there, how many cells that block has -/
structure Loc where
  c : Nat
  d : Nat
  n : Nat

abbrev Phi := Nat → Option Loc
def Le (φ φ' : Phi) : Prop := ∀ b l, φ b = some l → φ' b = some l
theorem Le.refl (φ : Phi) : Le φ φ := fun _ _ h => h
theorem Le.trans {a b c : Phi} (h : Le a b) (k : Le b c) : Le a c := fun _ _ e => k _ _ (h _ _ e)

def NaNish (b : Nat) : Prop := ∀ y, FloatKind.f64.format.order b y = none ∧ FloatKind.f64.format.order y b = none

/-- what the values that are not known are: numbers, texts, truths -/
class Syms where
  get : Nat → Value
  plain : ∀ k, (match get k with | .int _ _ | .string _ | .bool _ => true | _ => false) = true
variable [Syms]

mutual
inductive VRel (φ : Phi) : Value → Value → Prop
  | bool (b : Bool) : VRel φ (.bool b) (.bool b)
  | int (k : IntKind) (n : Int) : VRel φ (.int k n) (.int k n)
  | float (k : FloatKind) (b : Nat) (h : b < NANB) : VRel φ (.float k b) (.float k b)
  | nan (b : Nat) (h : NaNish b) : VRel φ (.float .f64 NANB) (.float .f64 b)
  | string (s : ByteArray) : VRel φ (.string s) (.string s)
  | pnil : VRel φ (.pointer none) (.pointer none)
  | ptr (b off : Nat) (l : Loc) (h : φ b = some l) : VRel φ (.pointer (some ⟨b, off, none⟩)) (.pointer (some ⟨l.c, l.d + off, none⟩))
  | snil : VRel φ (.slice none 0 0) (.slice none 0 0)
  | slc (b off n c : Nat) (l : Loc) (h : φ b = some l) (hc : c < OPEN) : VRel φ (.slice (some ⟨b, off, none⟩) n c) (.slice (some ⟨l.c, l.d + off, none⟩) n c)
  | opn (b off n c sz : Nat) (l : Loc) (h : φ b = some l) (hn : n ≤ c) (hc : l.d + off + c * sz = l.n) :
      VRel φ (.slice (some ⟨b, off, none⟩) n (OPEN + sz)) (.slice (some ⟨l.c, l.d + off, none⟩) n c)
  | emp (a : Addr) (c : Nat) : VRel φ (.slice (some ⟨0, 0, some 0⟩) 0 OPEN) (.slice (some a) 0 c)
  | mnil : VRel φ (.map none) (.map none)
  | map (r : Nat) (l : Loc) (h : φ r = some l) : VRel φ (.map (some r)) (.map (some l.c))
  | func (f : FuncId) (xs ys xs' ys' : List Value) (h : VRels φ xs xs') (k : VRels φ ys ys') : VRel φ (.func (.func f) ⟨xs⟩ ⟨ys⟩) (.func (.func f) ⟨xs'⟩ ⟨ys'⟩)
  | nilFunc : VRel φ .nilFunc .nilFunc
  | nilIface : VRel φ .nilIface .nilIface
  | iface (t : TypeId) (v v' : Value) (h : VRel φ v v') : VRel φ (.iface t v) (.iface t v')
  | agg (xs xs' : List Value) (h : VRels φ xs xs') : VRel φ (.agg ⟨xs⟩) (.agg ⟨xs'⟩)
  | tuple (xs xs' : List Value) (h : VRels φ xs xs') : VRel φ (.tuple ⟨xs⟩) (.tuple ⟨xs'⟩)
  | sym (k : Nat) : VRel φ (.chan (some k)) (Syms.get k)
inductive VRels (φ : Phi) : List Value → List Value → Prop
  | nil : VRels φ [] []
  | cons (v v' : Value) (l l' : List Value) (h : VRel φ v v') (k : VRels φ l l') : VRels φ (v :: l) (v' :: l')
end

mutual
theorem VRel.mono {φ φ' : Phi} (hle : Le φ φ') : ∀ {v v' : Value}, VRel φ v v' → VRel φ' v v'
  | _, _, .bool b => .bool b
  | _, _, .int k n => .int k n
  | _, _, .float k b h => .float k b h
  | _, _, .nan b h => .nan b h
  | _, _, .string s => .string s
  | _, _, .pnil => .pnil
  | _, _, .ptr b off l h => .ptr b off l (hle _ _ h)
  | _, _, .snil => .snil
  | _, _, .slc b off n c l h hc => .slc b off n c l (hle _ _ h) hc
  | _, _, .opn b off n c sz l h hn hc => .opn b off n c sz l (hle _ _ h) hn hc
  | _, _, .emp a c => .emp a c
  | _, _, .mnil => .mnil
  | _, _, .map r l h => .map r l (hle _ _ h)
  | _, _, .func f xs ys xs' ys' h k => .func f xs ys xs' ys' (VRels.mono hle h) (VRels.mono hle k)
  | _, _, .nilFunc => .nilFunc
  | _, _, .nilIface => .nilIface
  | _, _, .iface t v v' h => .iface t v v' (VRel.mono hle h)
  | _, _, .agg xs xs' h => .agg xs xs' (VRels.mono hle h)
  | _, _, .tuple xs xs' h => .tuple xs xs' (VRels.mono hle h)
  | _, _, .sym k => .sym k
theorem VRels.mono {φ φ' : Phi} (hle : Le φ φ') : ∀ {l l' : List Value}, VRels φ l l' → VRels φ' l l'
  | _, _, .nil => .nil
  | _, _, .cons v v' l l' h k => .cons v v' l l' (VRel.mono hle h) (VRels.mono hle k)
end

theorem VRels.length {φ : Phi} : ∀ {l l' : List Value}, VRels φ l l' → l.length = l'.length
  | _, _, .nil => rfl
  | _, _, .cons _ _ _ _ _ k => by simp [VRels.length k]

theorem VRels.get {φ : Phi} : ∀ {l l' : List Value}, VRels φ l l' → ∀ (i : Nat) (v : Value), l[i]? = some v → ∃ v', l'[i]? = some v' ∧ VRel φ v v'
  | _, _, .nil, i, v, h => by simp at h
  | _, _, .cons v v' l l' h k, 0, x, hx => ⟨v', rfl, by simp at hx; subst hx; exact h⟩
  | _, _, .cons v v' l l' h k, i + 1, x, hx => by simpa using VRels.get k i x (by simpa using hx)

theorem VRels.of {φ : Phi} : ∀ {l l' : List Value}, l.length = l'.length → (∀ (i : Nat) (v v' : Value), l[i]? = some v → l'[i]? = some v' → VRel φ v v') → VRels φ l l'
  | [], [], _, _ => .nil
  | [], _ :: _, h, _ => by simp at h
  | _ :: _, [], h, _ => by simp at h
  | v :: l, v' :: l', h, k => .cons v v' l l' (k 0 v v' rfl rfl) (VRels.of (by simpa using h) fun i x x' hx hx' => k (i + 1) x x' (by simpa using hx) (by simpa using hx'))

theorem VRels.append {φ : Phi} : ∀ {a a' b b' : List Value}, VRels φ a a' → VRels φ b b' → VRels φ (a ++ b) (a' ++ b')
  | _, _, _, _, .nil, k => k
  | _, _, _, _, .cons v v' l l' h t, k => .cons _ _ _ _ h (VRels.append t k)

theorem VRels.drop {φ : Phi} : ∀ {l l' : List Value}, VRels φ l l' → ∀ n, VRels φ (l.drop n) (l'.drop n)
  | _, _, .nil, n => by simp; exact .nil
  | _, _, .cons v v' l l' h k, 0 => .cons _ _ _ _ h k
  | _, _, .cons v v' l l' h k, n + 1 => by simpa using VRels.drop k n

theorem VRels.take {φ : Phi} : ∀ {l l' : List Value}, VRels φ l l' → ∀ n, VRels φ (l.take n) (l'.take n)
  | _, _, .nil, n => by simp; exact .nil
  | _, _, .cons v v' l l' h k, 0 => .nil
  | _, _, .cons v v' l l' h k, n + 1 => by simpa using VRels.cons _ _ _ _ h (VRels.take k n)

theorem VRels.rep {φ : Phi} {l l' : List Value} (h : VRels φ l l') : ∀ n, VRels φ (rep n l) (rep n l')
  | 0 => .nil
  | n + 1 => h.append (VRels.rep h n)

theorem flat_rel {φ : Phi} {v : Value} (h : flat v = true) : VRel φ v v := by
  unfold flat at h
  split at h
  · rename_i k b
    refine .float k b ?_
    have : Nat.ble (b + 1) NANB = true := h
    have := Nat.le_of_ble_eq_true this; omega
  · rename_i n c
    simp only [Bool.and_eq_true] at h
    have h1 := Nat.eq_of_beq_eq_true h.1
    have h2 := Nat.eq_of_beq_eq_true h.2
    subst h1; subst h2; exact .snil
  · exact .bool _
  · exact .int _ _
  · exact .string _
  · exact .pnil
  · exact .mnil
  · exact .nilFunc
  · exact .nilIface
  · cases h

def VA (φ : Phi) (a a' : Array Value) : Prop := VRels φ a.toList a'.toList

theorem VRel.cells {φ : Phi} {v v' : Value} (h : VRel φ v v') : VRels φ v.cells.toList v'.cells.toList := by
  cases h
  case sym k =>
    have hp := Syms.plain k
    have e : (Syms.get k).cells = #[Syms.get k] := by
      cases hg : Syms.get k <;> first | rfl | (rw [hg] at hp; cases hp)
    rw [e]
    exact .cons _ _ _ _ (.sym k) .nil
  all_goals first | exact .cons _ _ _ _ (by constructor <;> assumption) .nil | assumption

/-! blocks -/
inductive ERel (φ : Phi) : List (Value × Value × Nat) → List MapEntry → Prop
  | nil : ERel φ [] []
  | cons (k v : Value) (b : Nat) (k' v' : Value) (l : List (Value × Value × Nat)) (l' : List MapEntry) (hk : VRel φ k k') (hv : VRel φ v v') (h : ERel φ l l') :
      ERel φ ((k, v, b) :: l) (⟨k', v', b⟩ :: l')

theorem ERel.mono {φ φ' : Phi} (hle : Le φ φ') : ∀ {l l'}, ERel φ l l' → ERel φ' l l'
  | _, _, .nil => .nil
  | _, _, .cons _ _ _ _ _ _ _ hk hv h => .cons _ _ _ _ _ _ _ (hk.mono hle) (hv.mono hle) (h.mono hle)

inductive BRel (C : Ctx) (φ : Phi) (l : Loc) : Blk → Option Obj → Prop
  | dead (o : Option Obj) : BRel C φ l .dead o
  | cells (e : TypeId) (vs : List Value) (opn : Bool) (z : Fz) (cs : Array Value) (fr : Nat × Nat)
      (hn : cs.size = l.n) (hl : l.d + vs.length ≤ l.n) (hx : opn = false → l.d = 0 ∧ vs.length = l.n)
      (hv : VRels φ vs ((cs.toList.drop l.d).take vs.length))
      (hz : (∀ i, l.d + z.z ≤ i → i < l.n → ¬ (fr.1 ≤ i ∧ i < fr.2)) ∧ (z.s = false → fr.1 = fr.2 ∨ fr.2 ≤ l.d + z.z)) :
      BRel C φ l (.cells e vs opn z) (some (.cells cs e fr))
  | tab (vs : List Value) (cs : Array Value) (e : TypeId) (fr : Nat × Nat) (hl : l.d + vs.length ≤ cs.size) (hv : VRels φ vs ((cs.toList.drop l.d).take vs.length)) :
      BRel C φ l (.tab vs) (some (.cells cs e fr))
  | map (es : List (Value × Value × Nat)) (es' : List MapEntry) (clock : Nat) (h : ERel φ es es') : BRel C φ l (.map es clock) (some (.map ⟨es'⟩ clock))
  | iterNil (since last : Nat) (seen : List Nat) (hd : l.d = 0) : BRel C φ l (.iter none since seen last) (some (.mapIter none since ⟨seen⟩ last))
  | iter (m : Nat) (lm : Loc) (since last : Nat) (seen : List Nat) (h : φ m = some lm) (hd : l.d = 0) : BRel C φ l (.iter (some m) since seen last) (some (.mapIter (some lm.c) since ⟨seen⟩ last))

theorem BRel.mono {C : Ctx} {φ φ' : Phi} (hle : Le φ φ') {l : Loc} {x : Blk} {o : Option Obj} (h : BRel C φ l x o) : BRel C φ' l x o := by
  cases h with
  | dead => exact .dead _
  | cells e vs opn z cs fr hn hl hx hv hz => exact .cells e vs opn z cs fr hn hl hx (hv.mono hle) hz
  | tab vs cs e fr hl hv => exact .tab vs cs e fr hl (hv.mono hle)
  | map es es' clock h => exact .map es es' clock (h.mono hle)
  | iterNil _ _ _ hd => exact .iterNil _ _ _ hd
  | iter m lm since last seen h hd => exact .iter m lm since last seen (hle _ _ h) hd

def Blk.live : Blk → Bool
  | .dead => false
  | _ => true

structure HRel (C : Ctx) (φ : Phi) (H : Heap) (w : World) : Prop where
  full : H.t.Full H.n
  small : H.n ≤ LIMIT + 1
  base : ∀ g, g < C.base → ∃ l, φ g = some l ∧ l.c = g ∧ l.d = 0
  low : C.base ≤ H.n ∧ C.lo ≤ H.n
  dom : ∀ b l, φ b = some l → b < H.n ∧ l.c < w.heap.size ∧ (C.base ≤ b → C.base ≤ l.c)
  blk : ∀ b l x, φ b = some l → H.blk b = some x → BRel C φ l x w.heap[l.c]?
  sep : ∀ b b' l l' x x', φ b = some l → φ b' = some l' → b ≠ b' → H.blk b = some x → H.blk b' = some x' → x.live = true → x'.live = true → l.c ≠ l'.c

/-- what may have turned: the streams are as they were; no block that is none of the machine's own -/
structure Fr (C : Ctx) (φ : Phi) (w w' : World) : Prop where
  os : w'.os = w.os
  tape : w'.tape = w.tape
  output : w'.output = w.output
  size : w.heap.size ≤ w'.heap.size
  block : ∀ c, c < w.heap.size → (∀ b l, C.base ≤ b → φ b = some l → l.c ≠ c) → w'.heap[c]? = w.heap[c]?

structure Ext (C : Ctx) (φ : Phi) (w : World) (φ' : Phi) (w' : World) : Prop where
  le : Le φ φ'
  fr : Fr C φ w w'
  new : ∀ b l, φ' b = some l → φ b = some l ∨ ((C.base ≤ b ∧ C.lo ≤ b) ∧ (w.heap.size ≤ l.c ∨ ∃ b0 l0, C.base ≤ b0 ∧ φ b0 = some l0 ∧ l0.c = l.c))

omit [Syms] in
theorem Fr.refl (C : Ctx) (φ : Phi) (w : World) : Fr C φ w w := ⟨rfl, rfl, rfl, Nat.le_refl _, fun _ _ _ => rfl⟩
omit [Syms] in
theorem Ext.refl (C : Ctx) (φ : Phi) (w : World) : Ext C φ w φ w := ⟨Le.refl φ, Fr.refl C φ w, fun _ _ h => .inl h⟩

omit [Syms] in
theorem Ext.trans {C : Ctx} {φ φ' φ'' : Phi} {w w' w'' : World} (h : Ext C φ w φ' w') (k : Ext C φ' w' φ'' w'') : Ext C φ w φ'' w'' := by
  refine ⟨h.le.trans k.le, ⟨k.fr.os.trans h.fr.os, k.fr.tape.trans h.fr.tape, k.fr.output.trans h.fr.output, Nat.le_trans h.fr.size k.fr.size, ?_⟩, ?_⟩
  · intro c hc hno
    rw [k.fr.block c (Nat.lt_of_lt_of_le hc h.fr.size), h.fr.block c hc hno]
    intro b l hb hl e
    rcases h.new b l hl with hl | ⟨_, hl | ⟨b0, l0, hb0, hl0, e0⟩⟩
    · exact hno b l hb hl e
    · omega
    · exact hno b0 l0 hb0 hl0 (e0.trans e)
  · intro b l hl
    rcases k.new b l hl with hl | ⟨hb, hl | ⟨b0, l0, hb0, hl0, e0⟩⟩
    · rcases h.new b l hl with hl | ⟨hb, hl⟩
      · exact .inl hl
      · exact .inr ⟨hb, hl⟩
    · exact .inr ⟨hb, .inl (Nat.le_trans h.fr.size hl)⟩
    · rcases h.new b0 l0 hl0 with hl0 | ⟨_, hl0 | ⟨b1, l1, hb1, hl1, e1⟩⟩
      · exact .inr ⟨hb, .inr ⟨b0, l0, hb0, hl0, e0⟩⟩
      · exact .inr ⟨hb, .inl (by omega)⟩
      · exact .inr ⟨hb, .inr ⟨b1, l1, hb1, hl1, e1.trans e0⟩⟩

omit [Syms] in
/-- a draw from the tape -/
theorem Ext.drew (C : Ctx) (φ : Phi) (w : World) : Ext C φ w φ w.drew := ⟨Le.refl φ, ⟨rfl, rfl, rfl, Nat.le_refl _, fun _ _ _ => rfl⟩, fun _ _ h => .inl h⟩
theorem HRel.drew {C : Ctx} {φ : Phi} {H : Heap} {w : World} (h : HRel C φ H w) : HRel C φ H w.drew := ⟨h.full, h.small, h.base, h.low, h.dom, h.blk, h.sep⟩

omit [Syms] in
/-- a new block of the model that the machine need not know -/
theorem heap_push_old {w : World} {o : Obj} {c : Nat} (h : c < w.heap.size) : (w.alloc o).heap[c]? = w.heap[c]? := by
  show (w.heap.push o)[c]? = _
  rw [Array.getElem?_push, if_neg (by omega)]
omit [Syms] in
theorem heap_push_new {w : World} {o : Obj} : (w.alloc o).heap[w.heap.size]? = some o := by
  show (w.heap.push o)[w.heap.size]? = _
  simp

omit [Syms] in
theorem Heap.blk_lt {H : Heap} (hf : H.t.Full H.n) {b : Nat} {x : Blk} (h : H.blk b = some x) : b < H.n := by
  have := hf b
  unfold Heap.blk at h
  rw [h] at this; simpa using this.symm

omit [Syms] in
theorem Heap.blk_set {H : Heap} (b b' : Nat) (x : Blk) (hb : (H.blk b).isSome = true) : (H.set b x).blk b' = if b' = b then some x else H.blk b' := by
  unfold Heap.blk Heap.set at *
  by_cases e : b' = b
  · subst e; rw [if_pos rfl]; simp [T.get_mod_same, hb]
  · rw [if_neg e]; simp [T.get_mod_other _ _ _ _ e]

omit [Syms] in
theorem Heap.new_spec {H H' : Heap} {x : Blk} {b : Nat} (hf : H.t.Full H.n) (h : H.new x = some (b, H')) :
    b = H.n ∧ H'.n = H.n + 1 ∧ H.n < LIMIT ∧ H'.t.Full H'.n ∧ ∀ i, H'.blk i = if i = H.n then some x else H.blk i := by
  unfold Heap.new at h
  cases hb : Nat.blt H.n LIMIT
  · rw [hb] at h; cases h
  · rw [hb] at h; simp only [cond_true, Option.some.injEq, Prod.mk.injEq] at h
    obtain ⟨rfl, rfl⟩ := h
    have hlt : H.n < LIMIT := by
      have : Nat.ble (H.n + 1) LIMIT = true := hb
      have := Nat.le_of_ble_eq_true this; omega
    have hg : ∀ i, (T.push x 24 H.t H.n).get i = if i = H.n then some x else H.t.get i :=
      T.get_push x 24 H.t H.n (by unfold LIMIT at hlt; omega) hf
    refine ⟨rfl, rfl, hlt, ?_, hg⟩
    intro i
    show ((T.push x 24 H.t H.n).get i).isSome = _
    rw [hg i]
    have := hf i
    show _ = decide (i < H.n + 1)
    split
    · subst_vars; simp
    · rw [this]; congr 1; apply propext; omega
end Go.AM
namespace Go.AM
open Go
variable [Syms]

omit [Syms] in
theorem consO_some {α : Type} {x : α} {o : Option (List α)} {l : List α} (h : consO x o = some l) : ∃ t, o = some t ∧ l = x :: t := by
  cases o with
  | none => cases h
  | some t => exact ⟨t, rfl, by simpa [consO] using h.symm⟩

omit [Syms] in
theorem takeN_spec {α : Type} : ∀ (n : Nat) (l r : List α), takeN n l = some r → r = l.take n ∧ n ≤ l.length := by
  intro n
  induction n with
  | zero =>
    intro l r h
    have h' : some [] = some r := h
    cases h'; simp
  | succ n ih =>
    intro l r h
    cases l with
    | nil => exact absurd (show (none : Option (List α)) = some r from h) (by simp)
    | cons x xs =>
      have h' : consO x (takeN n xs) = some r := h
      obtain ⟨t, ht, rfl⟩ := consO_some h'
      obtain ⟨rfl, hl⟩ := ih xs t ht
      exact ⟨by simp, by simpa using hl⟩

def Blk.vals : Blk → Option (List Value)
  | .cells _ vs _ _ => some vs
  | .tab vs => some vs
  | _ => none

omit [Syms] in
theorem Heap.cells_spec {H : Heap} {b off n : Nat} {l : List Value} (h : H.cells b off n = some l) :
    ∃ x vs, H.blk b = some x ∧ x.vals = some vs ∧ l = (vs.drop off).take n ∧ (off + n ≤ vs.length ∨ n = 0) := by
  unfold Heap.cells at h
  split at h
  · rename_i e vs o z hb
    obtain ⟨h1, h2⟩ := takeN_spec _ _ _ h
    refine ⟨_, vs, hb, rfl, h1, ?_⟩
    simp at h2; omega
  · rename_i vs hb
    obtain ⟨h1, h2⟩ := takeN_spec _ _ _ h
    refine ⟨_, vs, hb, rfl, h1, ?_⟩
    simp at h2; omega
  · cases h

omit [Syms] in
theorem Heap.cell_spec {H : Heap} {b off : Nat} {v : Value} (h : H.cell b off = some v) :
    ∃ x vs, H.blk b = some x ∧ x.vals = some vs ∧ vs[off]? = some v := by
  unfold Heap.cell at h
  split at h
  · rename_i e vs o z hb; exact ⟨_, vs, hb, rfl, h⟩
  · rename_i vs hb; exact ⟨_, vs, hb, rfl, h⟩
  · cases h

section
variable {C : Ctx} {φ : Phi} {H : Heap} {w : World}

/-- a block of cells: what the model has there -/
theorem HRel.row (h : HRel C φ H w) {b : Nat} {l : Loc} (hl : φ b = some l) {e : TypeId} {vs : List Value} {o : Bool} {z : Fz}
    (hb : H.blk b = some (.cells e vs o z)) :
    ∃ cs fr, w.heap[l.c]? = some (.cells cs e fr) ∧ cs.size = l.n ∧ l.d + vs.length ≤ l.n ∧ (o = false → l.d = 0 ∧ vs.length = l.n) ∧
      VRels φ vs ((cs.toList.drop l.d).take vs.length) ∧ ((∀ i, l.d + z.z ≤ i → i < l.n → ¬ (fr.1 ≤ i ∧ i < fr.2)) ∧ (z.s = false → fr.1 = fr.2 ∨ fr.2 ≤ l.d + z.z)) := by
  have := h.blk b l _ hl hb
  generalize hg : w.heap[l.c]? = g at this
  cases this with
  | cells _ _ _ _ cs fr hn hl hx hv hz => exact ⟨cs, fr, rfl, hn, hl, hx, hv, hz⟩

/-- the same of what is read -/
theorem HRel.vals (h : HRel C φ H w) {b : Nat} {l : Loc} (hl : φ b = some l) {x : Blk} {vs : List Value} (hb : H.blk b = some x) (hv : x.vals = some vs) :
    ∃ cs e fr, w.heap[l.c]? = some (.cells cs e fr) ∧ l.d + vs.length ≤ cs.size ∧ VRels φ vs ((cs.toList.drop l.d).take vs.length) := by
  have := h.blk b l _ hl hb
  generalize hg : w.heap[l.c]? = g at this
  cases this with
  | cells e vs' _ _ cs fr hn hl hx hv' hz => cases hv; exact ⟨cs, e, fr, rfl, by omega, hv'⟩
  | tab vs' cs e fr hl hv' => cases hv; exact ⟨cs, e, fr, rfl, hl, hv'⟩
  | _ => cases hv

omit [Syms] in
theorem cell_of_heap {w : World} {c i : Nat} {cs : Array Value} {e : TypeId} {fr : Nat × Nat} (h : w.heap[c]? = some (.cells cs e fr)) :
    w.cell? ⟨c, i, none⟩ = cs.toList[i]? := by
  simp [World.cell?, h]

theorem HRel.cell (h : HRel C φ H w) {b off : Nat} {l : Loc} (hl : φ b = some l) {v : Value} (hv : H.cell b off = some v) :
    ∃ v', w.cell? ⟨l.c, l.d + off, none⟩ = some v' ∧ VRel φ v v' := by
  obtain ⟨x, vs, hb, hx, hi⟩ := Heap.cell_spec hv
  obtain ⟨cs, e, fr, hc, hlen, hr⟩ := h.vals hl hb hx
  obtain ⟨v', h1, h2⟩ := hr.get off v hi
  refine ⟨v', ?_, h2⟩
  rw [cell_of_heap hc]
  rw [List.getElem?_take] at h1
  split at h1
  · rw [List.getElem?_drop] at h1; exact h1
  · cases h1

theorem HRel.cells (h : HRel C φ H w) {b off n : Nat} {l : Loc} (hl : φ b = some l) {vs : List Value} (hv : H.cells b off n = some vs) :
    ∃ vs', VRels φ vs vs' ∧ vs'.length = n ∧ ∀ j v', vs'[j]? = some v' → w.cell? ⟨l.c, l.d + off + j, none⟩ = some v' := by
  obtain ⟨x, us, hb, hx, rfl, hn⟩ := Heap.cells_spec hv
  obtain ⟨cs, e, fr, hc, hlen, hr⟩ := h.vals hl hb hx
  refine ⟨_, (hr.drop off).take n, ?_, ?_⟩
  · have h1 : us.length ≤ (cs.toList.drop l.d).length := by simp; omega
    simp only [List.length_take, List.length_drop] at h1 ⊢
    omega
  · intro j v' hj
    rw [cell_of_heap hc]
    rw [List.getElem?_take] at hj
    split at hj
    · rw [List.getElem?_drop, List.getElem?_take] at hj
      split at hj
      · rw [List.getElem?_drop] at hj
        rw [← hj]; congr 1; omega
      · cases hj
    · cases hj

omit [Syms] in
theorem addr_add (c o n : Nat) : Addr.add ⟨c, o, none⟩ n = ⟨c, o + n, none⟩ := by
  unfold Addr.add; split
  · subst_vars; rfl
  · rfl

theorem HRel.run_cells (h : HRel C φ H w) (P : Program) {b off n : Nat} {l : Loc} (hl : φ b = some l) {vs : List Value} (hv : H.cells b off n = some vs) :
    ∃ vs' : Array Value, VRels φ vs vs'.toList ∧ (loadCells ⟨l.c, l.d + off, none⟩ n).run P w = .ok vs' w := by
  obtain ⟨vs', h1, h2, h3⟩ := h.cells hl hv
  refine ⟨vs'.toArray, by simpa using h1, ?_⟩
  have := run_loadCells_list (P := P) (w := w) ⟨l.c, l.d + off, none⟩ vs' (fun j v hj => by rw [addr_add]; exact h3 j v hj)
  rw [h2] at this; exact this

theorem HRel.base_le (h : HRel C φ H w) : C.base ≤ w.heap.size := by
  cases hb : C.base with
  | zero => omega
  | succ n =>
    obtain ⟨l, hl, hc, _⟩ := h.base n (by omega)
    have := (h.dom n l hl).2.1; omega

/-- a block more, on both sides -/
theorem HRel.alloc (h : HRel C φ H w) {x : Blk} {b : Nat} {H' : Heap} (hn : H.new x = some (b, H')) (o : Obj) (l : Loc) (hc : l.c = w.heap.size)
    (hb : ∀ φ', Le φ φ' → φ' H.n = some l → BRel C φ' l x (some o)) :
    b = H.n ∧ ∃ φ', φ' b = some l ∧ HRel C φ' H' (w.alloc o) ∧ Ext C φ w φ' (w.alloc o) := by
  obtain ⟨rfl, hn1, hlim, hfull, hblk⟩ := Heap.new_spec h.full hn
  refine ⟨rfl, fun i => if i = H.n then some l else φ i, by simp, ?_, ?_⟩
  all_goals
    have hle : Le φ (fun i => if i = H.n then some l else φ i) := by
      intro i k hk
      have := (h.dom i k hk).1
      show (if i = H.n then some l else φ i) = _
      rw [if_neg (by omega)]; exact hk
  · refine ⟨hfull, by omega, ?_, by have := h.low; omega, ?_, ?_, ?_⟩
    · intro g hg
      obtain ⟨k, hk, h2⟩ := h.base g hg
      exact ⟨k, hle _ _ hk, h2⟩
    · intro i k hk
      rw [World.size_alloc]
      split at hk
      · cases hk; subst_vars
        have := h.base_le
        exact ⟨by omega, by omega, fun _ => by omega⟩
      · have := h.dom i k hk
        exact ⟨by omega, by omega, this.2.2⟩
    · intro i k y hk hy
      rw [hblk] at hy
      by_cases hi : i = H.n
      · rw [if_pos hi] at hk hy; cases hk; cases hy
        rw [hc, heap_push_new]
        exact hb _ hle (by simp)
      · rw [if_neg hi] at hk hy
        rw [heap_push_old (h.dom i k hk).2.1]
        exact (h.blk i k y hk hy).mono hle
    · intro i j k m y y' hk hm hij hy hy' hly hly'
      rw [hblk] at hy hy'
      by_cases hi : i = H.n
      · have hj : j ≠ H.n := by omega
        rw [if_pos hi] at hk; cases hk
        rw [if_neg hj] at hm
        have := (h.dom j m hm).2.1; omega
      · rw [if_neg hi] at hk hy
        by_cases hj : j = H.n
        · rw [if_pos hj] at hm; cases hm
          have := (h.dom i k hk).2.1; omega
        · rw [if_neg hj] at hm hy'
          exact h.sep i j k m y y' hk hm hij hy hy' hly hly'
  · refine ⟨hle, ⟨rfl, rfl, rfl, by rw [World.size_alloc]; omega, fun c hc' _ => heap_push_old hc'⟩, ?_⟩
    intro i k hk
    split at hk
    · cases hk; subst_vars
      exact .inr ⟨h.low, .inl (by omega)⟩
    · exact .inl hk

/-- a block more on the machine's side alone: one that is not there yet -/
theorem HRel.pending (h : HRel C φ H w) {x : Blk} {b : Nat} {H' : Heap} (hn : H.new x = some (b, H')) : HRel C φ H' w := by
  obtain ⟨rfl, hn1, hlim, hfull, hblk⟩ := Heap.new_spec h.full hn
  refine ⟨hfull, by omega, h.base, by have := h.low; omega, ?_, ?_, ?_⟩
  · intro i k hk; have := h.dom i k hk; exact ⟨by omega, this.2⟩
  · intro i k y hk hy
    have := (h.dom i k hk).1
    rw [hblk, if_neg (by omega)] at hy
    exact h.blk i k y hk hy
  · intro i j k m y y' hk hm hij hy hy'
    have h1 := (h.dom i k hk).1
    have h2 := (h.dom j m hm).1
    rw [hblk, if_neg (by omega)] at hy hy'
    exact h.sep i j k m y y' hk hm hij hy hy'

/-- the block of one place turned, on both sides; the machine's own -/
theorem HRel.turn (h : HRel C φ H w) {b : Nat} {l : Loc} (hl : φ b = some l) (hbase : C.base ≤ b) {x y : Blk} (hx : H.blk b = some x) (hlive : x.live = true)
    {w' : World} (hy : BRel C φ l y w'.heap[l.c]?) (hsz : w'.heap.size = w.heap.size)
    (ho : ∀ c, c ≠ l.c → w'.heap[c]? = w.heap[c]?) (h1 : w'.os = w.os) (h2 : w'.tape = w.tape) (h3 : w'.output = w.output) :
    HRel C φ (H.set b y) w' ∧ Ext C φ w φ w' := by
  have hs : ∀ i, (H.set b y).blk i = if i = b then some y else H.blk i := fun i => Heap.blk_set b i y (by rw [hx]; rfl)
  refine ⟨⟨h.full.mod b y, h.small, h.base, h.low, ?_, ?_, ?_⟩, Le.refl φ, ⟨h1, h2, h3, by omega, ?_⟩, fun _ _ hk => .inl hk⟩
  · intro i k hk; rw [hsz]; exact h.dom i k hk
  · intro i k u hk hu
    rw [hs] at hu
    by_cases hi : i = b
    · subst hi; rw [if_pos rfl] at hu; cases hu
      rw [hl] at hk; cases hk; exact hy
    · rw [if_neg hi] at hu
      cases hul : u.live with
      | false => cases u <;> simp [Blk.live] at hul; exact .dead _
      | true =>
        rw [ho k.c (h.sep i b k l u x hk hl hi hu hx hul hlive)]
        exact h.blk i k u hk hu
  · intro i j k m u u' hk hm hij hu hu' hlu hlu'
    rw [hs] at hu hu'
    by_cases hi : i = b
    · subst hi
      have hj : j ≠ i := fun e => hij e.symm
      rw [if_neg hj] at hu'
      exact h.sep i j k m x u' hk hm hij hx hu' hlive hlu'
    · rw [if_neg hi] at hu
      by_cases hj : j = b
      · subst hj; exact h.sep i j k m u x hk hm hij hu hx hlu hlive
      · rw [if_neg hj] at hu'
        exact h.sep i j k m u u' hk hm hij hu hu' hlu hlu'
  · intro c hc hno
    exact ho c fun e => hno b l hbase hl e.symm
end

/-! storing cells -/
omit [Syms] in
theorem oneCells_spec : ∀ {l : List Value}, oneCells l = true → ∀ v ∈ l, v.oneCell' = true
  | [], _, v, hv => by cases hv
  | x :: l, h, v, hv => by
    cases x <;> first
      | (simp [oneCells] at h; done)
      | (rcases List.mem_cons.1 hv with rfl | hv
         · rfl
         · exact oneCells_spec (l := l) (by simpa [oneCells] using h) v hv)

omit [Syms] in
theorem setAt_length {α : Type} : ∀ (l : List α) (n : Nat) (ys : List α), (setAt l n ys).length = l.length
  | [], n, ys => rfl
  | x :: xs, 0, [] => rfl
  | x :: xs, 0, y :: ys => by simp [setAt, setAt_length]
  | x :: xs, n + 1, ys => by simp [setAt, setAt_length]

omit [Syms] in
theorem setAt_nil {α : Type} : ∀ (l : List α) (n : Nat), setAt l n [] = l
  | [], n => rfl
  | x :: xs, 0 => rfl
  | x :: xs, n + 1 => by simp [setAt, setAt_nil]

omit [Syms] in
theorem setAt_cons {α : Type} : ∀ (l : List α) (n : Nat) (y : α) (ys : List α), setAt l n (y :: ys) = setAt (l.set n y) (n + 1) ys
  | [], n, y, ys => by simp [setAt]
  | x :: xs, 0, y, ys => by simp [setAt]
  | x :: xs, n + 1, y, ys => by simp [setAt, setAt_cons]

omit [Syms] in
theorem setAt_get {α : Type} : ∀ (l : List α) (n : Nat) (ys : List α) (i : Nat), n + ys.length ≤ l.length →
    (setAt l n ys)[i]? = if n ≤ i ∧ i < n + ys.length then ys[i - n]? else l[i]?
  | [], n, ys, i, h => by
    have : ys = [] := by cases ys with | nil => rfl | cons _ _ => simp at h
    subst this; simp [setAt]
  | x :: xs, 0, [], i, h => by simp [setAt]
  | x :: xs, 0, y :: ys, 0, h => by simp [setAt]
  | x :: xs, 0, y :: ys, i + 1, h => by
    have := setAt_get xs 0 ys i (by simp at h ⊢; omega)
    simp [setAt, this]
  | x :: xs, n + 1, ys, 0, h => by simp [setAt]
  | x :: xs, n + 1, ys, i + 1, h => by
    have := setAt_get xs n ys i (by simp at h ⊢; omega)
    simp only [setAt, List.getElem?_cons_succ, this]
    by_cases hc : n ≤ i ∧ i < n + ys.length
    · rw [if_pos hc, if_pos (by omega)]; congr 1; omega
    · rw [if_neg hc, if_neg (by omega)]

omit [Syms] in
theorem run_storeCells (P : Program) (c : Nat) (e : TypeId) (fr : Nat × Nat) (off : Nat) : ∀ (l : List Value) (i : Nat) (w : World) (cs : Array Value),
    w.heap[c]? = some (.cells cs e fr) → (∀ v ∈ l, v.oneCell' = true) → off + i + l.length ≤ cs.size →
    (∀ k, off + i ≤ k → k < off + i + l.length → ¬ (fr.1 ≤ k ∧ k < fr.2)) →
    ∃ (w' : World) (cs' : Array Value), (storeCells ⟨c, off, none⟩ l i).run P w = .ok () w' ∧ w'.heap[c]? = some (.cells cs' e fr) ∧
      cs'.toList = setAt cs.toList (off + i) l ∧ (∀ k, k ≠ c → w'.heap[k]? = w.heap[k]?) ∧ w'.heap.size = w.heap.size ∧
      w'.os = w.os ∧ w'.tape = w.tape ∧ w'.output = w.output := by
  intro l
  induction l with
  | nil =>
    intro i w cs hc _ _ _
    exact ⟨w, cs, rfl, hc, by rw [setAt_nil], fun _ _ => rfl, rfl, rfl, rfl, rfl⟩
  | cons v l ih =>
    intro i w cs hc h1 hlen hfz
    simp only [List.length_cons] at hlen hfz
    have hcell : w.cell? ⟨c, off + i, none⟩ = cs[off + i]? := by rw [cell_of_heap hc]; simp
    have hsome : cs[off + i]? = some cs[off + i] := Array.getElem?_eq_getElem (by omega)
    have hnf : w.frozen? ⟨c, off + i, none⟩ = false := by
      have := hfz (off + i) (by omega) (by omega)
      simp only [World.frozen?, hc]
      cases hh : (decide (fr.1 ≤ off + i) && decide (off + i < fr.2))
      · rfl
      · simp at hh; exact absurd hh this
    have hst : (store (Addr.add ⟨c, off, none⟩ i) v).run P w = .ok () (w.setCell ⟨c, off + i, none⟩ v) := by
      rw [addr_add, run_store P w _ v _ (h1 v (by simp)), hcell, hsome]
      simp [hnf]
    have hb : (w.setCell ⟨c, off + i, none⟩ v).heap[c]? = some (.cells (cs.setIfInBounds (off + i) v) e fr) := by
      simp [World.setCell, Array.getElem?_modify, hc]
    obtain ⟨w', cs', hrun, hh, hcs, ho, hsz, a1, a2, a3⟩ := ih (i + 1) _ (cs.setIfInBounds (off + i) v) hb (fun u hu => h1 u (by simp [hu]))
      (by simp; omega) (fun k hk1 hk2 => hfz k (by omega) (by omega))
    refine ⟨w', cs', ?_, hh, ?_, ?_, by rw [hsz, World.size_setCell], a1, a2, a3⟩
    · show ((store (Addr.add ⟨c, off, none⟩ i) v) >>= fun _ => storeCells ⟨c, off, none⟩ l (i + 1)).run P w = _
      rw [Sem.run_bind, hst]; exact hrun
    · rw [hcs, setAt_cons]; simp [Nat.add_assoc]
    · intro k hk
      rw [ho k hk]; exact heap_setCell_other w _ k v hk

omit [Syms] in
theorem take_drop_set {l : List Value} {d n : Nat} {m : Nat} {ys : List Value} (h : d + n ≤ l.length) (hm : m + ys.length ≤ n) :
    ((setAt l (d + m) ys).drop d).take n = setAt ((l.drop d).take n) m ys := by
  apply List.ext_getElem?
  intro i
  rw [List.getElem?_take]
  rw [setAt_get ((l.drop d).take n) m ys i (by simp; omega)]
  rw [List.getElem?_drop, setAt_get l (d + m) ys (d + i) (by omega), List.getElem?_take, List.getElem?_drop]
  by_cases hi : i < n
  · rw [if_pos hi, if_pos hi]
    by_cases hc : m ≤ i ∧ i < m + ys.length
    · rw [if_pos hc, if_pos (by omega)]; congr 1; omega
    · rw [if_neg hc, if_neg (by omega)]
  · rw [if_neg hi, if_neg hi, if_neg (by omega)]

theorem VRels.setAt {φ : Phi} {l l' ys ys' : List Value} (h : VRels φ l l') (k : VRels φ ys ys') (m : Nat) (hm : m + ys.length ≤ l.length) :
    VRels φ (AM.setAt l m ys) (AM.setAt l' m ys') := by
  have e1 := h.length
  have e2 := k.length
  refine VRels.of (by rw [setAt_length, setAt_length, e1]) ?_
  intro i v v' hv hv'
  rw [setAt_get _ _ _ _ hm] at hv
  rw [setAt_get _ _ _ _ (by omega)] at hv'
  by_cases hc : m ≤ i ∧ i < m + ys.length
  · rw [if_pos hc] at hv; rw [if_pos (by omega)] at hv'
    obtain ⟨u, hu, hr⟩ := k.get _ _ hv
    rw [hv'] at hu; cases hu; exact hr
  · rw [if_neg hc] at hv; rw [if_neg (by omega)] at hv'
    obtain ⟨u, hu, hr⟩ := h.get _ _ hv
    rw [hv'] at hu; cases hu; exact hr

theorem oneCell_rel {φ : Phi} {v v' : Value} (h : VRel φ v v') (hv : v.oneCell' = true) : v'.oneCell' = true := by
  cases h
  case sym k =>
    have hp := Syms.plain k
    cases hg : Syms.get k <;> first | rfl | (rw [hg] at hp; cases hp)
  all_goals first | rfl | (simp [Value.oneCell'] at hv)

theorem oneCells_rel {φ : Phi} : ∀ {l l' : List Value}, VRels φ l l' → (∀ v ∈ l, v.oneCell' = true) → ∀ v ∈ l', v.oneCell' = true
  | _, _, .nil, _, v, hv => by cases hv
  | _, _, .cons x x' l l' hx k, h, v, hv => by
    rcases List.mem_cons.1 hv with rfl | hv
    · exact oneCell_rel hx (h x (by simp))
    · exact oneCells_rel k (fun u hu => h u (by simp [hu])) v hv

/-- a store of cells, on both sides -/
theorem HRel.store {C : Ctx} {φ : Phi} {H H' : Heap} {w : World} (h : HRel C φ H w) (P : Program) {b off : Nat} {l : Loc} (hl : φ b = some l) {ys ys' : List Value}
    (hs : H.store C.base b off ys = some H') (hy : VRels φ ys ys') :
    ∃ w', (storeCells ⟨l.c, l.d + off, none⟩ ys' 0).run P w = .ok () w' ∧ HRel C φ H' w' ∧ Ext C φ w φ w' := by
  unfold Heap.store at hs
  split at hs
  · rename_i e vs o z hb
    cases hc : (Nat.ble C.base b && Nat.ble (off + ys.length) vs.length && Nat.ble z.z off && oneCells ys)
    · rw [hc] at hs; cases hs
    · rw [hc] at hs; simp only [cond_true, Option.some.injEq] at hs; subst hs
      simp only [Bool.and_eq_true] at hc
      obtain ⟨⟨⟨hb1, hb2⟩, hb3⟩, hone⟩ := hc
      have hb1 := Nat.le_of_ble_eq_true hb1
      have hb2 := Nat.le_of_ble_eq_true hb2
      have hb3 := Nat.le_of_ble_eq_true hb3
      obtain ⟨cs, fr, hcs, hn, hlen, hx, hr, hz⟩ := h.row hl hb
      have hyl := hy.length
      obtain ⟨w', cs', hrun, hh, hcs', ho, hws, a1, a2, a3⟩ := run_storeCells P l.c e fr (l.d + off) ys' 0 w cs hcs
        (oneCells_rel hy (oneCells_spec hone)) (by omega) (fun k hk1 hk2 => hz.1 k (by omega) (by omega))
      refine ⟨w', hrun, ?_⟩
      refine h.turn hl hb1 hb (by rfl) (w' := w') ?_ hws ho a1 a2 a3
      rw [hh]
      refine .cells e _ o z cs' fr ?_ ?_ ?_ ?_ hz
      · have : cs'.toList.length = cs.toList.length := by rw [hcs', setAt_length]
        simpa [hn] using this
      · rw [setAt_length]; exact hlen
      · intro ho; rw [setAt_length]; exact hx ho
      · rw [setAt_length, hcs', Nat.add_zero, take_drop_set (by simp; omega) (by omega)]
        exact hr.setAt hy off (by omega)
  · cases hs
end Go.AM
