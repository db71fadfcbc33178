/- AM: functions that the machine takes at their contracts. -/
import Derived.Test.YtbloeaegccnlhaaGreatDoorAmRun
namespace Go.AM
open Go
noncomputable section
def noEscape : Prim := fun args H => match args with | [v] => some (v, H) | _ => none
def makeNoZero (e : TypeId) : Prim := fun args H => match args with
  | [.int .i64 (.ofNat n)] => bif n.ble LIMIT then (match H.new (.cells e [] true ⟨0, false⟩) with | some (b, H) => some (.slice (some ⟨b, 0, none⟩) n (OPEN + 1), H) | none => none) else none
  | _ => none

/-- of numbered texts the last one of a number -/
def lastW (n : Int) : List Value → Option ByteArray → Option (Option ByteArray)
  | [], r => some r
  | .int .i64 m :: .string s :: l, r => lastW n l (if m = n then some s else r)
  | _, _ => none

def waitsOf (H : Heap) : Value → Option (List Value)
  | .slice none _ _ => some []
  | .slice (some ⟨wb, wo, none⟩) wl _ => bif wl.ble 1048576 then H.cells wb wo (2 * wl) else none
  | _ => none

def stableAt (H : Heap) (n : Int) : Value → Option ByteArray
  | .slice (some ⟨sb, so, none⟩) sl _ => match n with
    | .ofNat n => bif Nat.ble (n + 1) sl && sl.ble 1048576 then (match H.cell sb (so + n) with | some (.string d) => some d | _ => none) else none
    | _ => none
  | _ => none

/-- the text of a page of a disk: of what waits the last one of the page, else what is stable -/
def diskData : Prim := fun args H => match args with
  | [.pointer (some ⟨b, off, none⟩), .int .i64 n] =>
    match H.cells b off 2 with
    | some [st, wt] =>
      match waitsOf H wt with
      | some ws => match lastW n ws none with
        | some (some d) => some (.string d, H)
        | some none => match stableAt H n st with | some d => some (.string d, H) | none => none
        | none => none
      | none => none
    | _ => none
  | _ => none

/-! a sum (CRC-32C), four bits at a time -/
def crcBig : Nat := 12749536319551302420830055290731983042906869231766370170184255228463894984119587222357463453493748006886229547019502462691509165827871124329361635492757504
def crcT (k : Nat) : Nat := (crcBig >>> (32 * k)) &&& 4294967295
def crc1 (c : Nat) : Nat := (c >>> 4) ^^^ crcT (c &&& 15)
def crcL (l : List UInt8) : Nat → Nat := List.rec (fun c => c) (fun b _ ih c => ih (crc1 (crc1 (c ^^^ b.toNat)))) l
def crcTab : List Value := [.int .u32 0, .int .u32 274646895, .int .u32 549293790, .int .u32 820201905, .int .u32 1098587580, .int .u32 1361435347, .int .u32 1640403810, .int .u32 1905808397, .int .u32 2197175160, .int .u32 2460548119, .int .u32 2722870694, .int .u32 2987750089, .int .u32 3280807620, .int .u32 3553878443, .int .u32 3811616794, .int .u32 4084100981]

/-- a text's sum behind another one; g: the table's block -/
def sumAdd (g : Nat) : Prim := fun args H => match args with
  | [.int .u32 (.ofNat c), .string s] => match H.blk g with
    | some (.tab vs) => bif Nat.blt c 4294967296 && s.size.ble LIMIT && all2 (veq 2) vs crcTab then
        some (.int .u32 (.ofNat (4294967295 ^^^ crcL s.data.toList (4294967295 ^^^ c))), H) else none
    | _ => none
  | _ => none
end
end Go.AM
