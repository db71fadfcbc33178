/- AM: what the machine's values and heaps have to do with the model's. -/
import Derived.Test.YtmohbeomlpjljaaGreatDoorAmRun
import Derived.Laws.Rows
import Derived.Orders
namespace Go.AM
open Go

/-- where a block of the machine lies: the model's block, how far on it begins there, how many cells that block has -/
structure Loc where
  c : Nat
  d : Nat
  n : Nat

abbrev Phi := Nat → Option Loc
def Le (φ φ' : Phi) : Prop := ∀ b l, φ b = some l → φ' b = some l
theorem Le.refl (φ : Phi) : Le φ φ := fun _ _ h => h
theorem Le.trans {a b c : Phi} (h : Le a b) (k : Le b c) : Le a c := fun _ _ e => k _ _ (h _ _ e)

def NaNish (b : Nat) : Prop := ∀ y, FloatKind.f64.format.order b y = none ∧ FloatKind.f64.format.order y b = none

/-- what the values that are not known are: numbers, texts, truths -/
class Syms where
  get : Nat → Value
  plain : ∀ k, (match get k with | .int _ _ | .string _ | .bool _ => true | _ => false) = true
variable [Syms]

mutual
inductive VRel (φ : Phi) : Value → Value → Prop
  | bool (b : Bool) : VRel φ (.bool b) (.bool b)
  | int (k : IntKind) (n : Int) : VRel φ (.int k n) (.int k n)
  | float (k : FloatKind) (b : Nat) (h : b < NANB) : VRel φ (.float k b) (.float k b)
  | nan (b : Nat) (h : NaNish b) : VRel φ (.float .f64 NANB) (.float .f64 b)
  | string (s : ByteArray) : VRel φ (.string s) (.string s)
  | pnil : VRel φ (.pointer none) (.pointer none)
  | ptr (b off : Nat) (l : Loc) (h : φ b = some l) : VRel φ (.pointer (some ⟨b, off, none⟩)) (.pointer (some ⟨l.c, l.d + off, none⟩))
  | snil : VRel φ (.slice none 0 0) (.slice none 0 0)
  | slc (b off n c : Nat) (l : Loc) (h : φ b = some l) (hc : c < OPEN) : VRel φ (.slice (some ⟨b, off, none⟩) n c) (.slice (some ⟨l.c, l.d + off, none⟩) n c)
  | opn (b off n c sz : Nat) (l : Loc) (h : φ b = some l) (hn : n ≤ c) (hc : l.d + off + c * sz = l.n) :
      VRel φ (.slice (some ⟨b, off, none⟩) n (OPEN + sz)) (.slice (some ⟨l.c, l.d + off, none⟩) n c)
  | mnil : VRel φ (.map none) (.map none)
  | map (r : Nat) (l : Loc) (h : φ r = some l) : VRel φ (.map (some r)) (.map (some l.c))
  | func (f : FuncId) (xs ys xs' ys' : List Value) (h : VRels φ xs xs') (k : VRels φ ys ys') : VRel φ (.func (.func f) ⟨xs⟩ ⟨ys⟩) (.func (.func f) ⟨xs'⟩ ⟨ys'⟩)
  | nilFunc : VRel φ .nilFunc .nilFunc
  | nilIface : VRel φ .nilIface .nilIface
  | iface (t : TypeId) (v v' : Value) (h : VRel φ v v') : VRel φ (.iface t v) (.iface t v')
  | agg (xs xs' : List Value) (h : VRels φ xs xs') : VRel φ (.agg ⟨xs⟩) (.agg ⟨xs'⟩)
  | tuple (xs xs' : List Value) (h : VRels φ xs xs') : VRel φ (.tuple ⟨xs⟩) (.tuple ⟨xs'⟩)
  | sym (k : Nat) : VRel φ (.chan (some k)) (Syms.get k)
inductive VRels (φ : Phi) : List Value → List Value → Prop
  | nil : VRels φ [] []
  | cons (v v' : Value) (l l' : List Value) (h : VRel φ v v') (k : VRels φ l l') : VRels φ (v :: l) (v' :: l')
end

mutual
theorem VRel.mono {φ φ' : Phi} (hle : Le φ φ') : ∀ {v v' : Value}, VRel φ v v' → VRel φ' v v'
  | _, _, .bool b => .bool b
  | _, _, .int k n => .int k n
  | _, _, .float k b h => .float k b h
  | _, _, .nan b h => .nan b h
  | _, _, .string s => .string s
  | _, _, .pnil => .pnil
  | _, _, .ptr b off l h => .ptr b off l (hle _ _ h)
  | _, _, .snil => .snil
  | _, _, .slc b off n c l h hc => .slc b off n c l (hle _ _ h) hc
  | _, _, .opn b off n c sz l h hn hc => .opn b off n c sz l (hle _ _ h) hn hc
  | _, _, .mnil => .mnil
  | _, _, .map r l h => .map r l (hle _ _ h)
  | _, _, .func f xs ys xs' ys' h k => .func f xs ys xs' ys' (VRels.mono hle h) (VRels.mono hle k)
  | _, _, .nilFunc => .nilFunc
  | _, _, .nilIface => .nilIface
  | _, _, .iface t v v' h => .iface t v v' (VRel.mono hle h)
  | _, _, .agg xs xs' h => .agg xs xs' (VRels.mono hle h)
  | _, _, .tuple xs xs' h => .tuple xs xs' (VRels.mono hle h)
  | _, _, .sym k => .sym k
theorem VRels.mono {φ φ' : Phi} (hle : Le φ φ') : ∀ {l l' : List Value}, VRels φ l l' → VRels φ' l l'
  | _, _, .nil => .nil
  | _, _, .cons v v' l l' h k => .cons v v' l l' (VRel.mono hle h) (VRels.mono hle k)
end

theorem VRels.length {φ : Phi} : ∀ {l l' : List Value}, VRels φ l l' → l.length = l'.length
  | _, _, .nil => rfl
  | _, _, .cons _ _ _ _ _ k => by simp [VRels.length k]

theorem VRels.get {φ : Phi} : ∀ {l l' : List Value}, VRels φ l l' → ∀ (i : Nat) (v : Value), l[i]? = some v → ∃ v', l'[i]? = some v' ∧ VRel φ v v'
  | _, _, .nil, i, v, h => by simp at h
  | _, _, .cons v v' l l' h k, 0, x, hx => ⟨v', rfl, by simp at hx; subst hx; exact h⟩
  | _, _, .cons v v' l l' h k, i + 1, x, hx => by simpa using VRels.get k i x (by simpa using hx)

theorem VRels.of {φ : Phi} : ∀ {l l' : List Value}, l.length = l'.length → (∀ (i : Nat) (v v' : Value), l[i]? = some v → l'[i]? = some v' → VRel φ v v') → VRels φ l l'
  | [], [], _, _ => .nil
  | [], _ :: _, h, _ => by simp at h
  | _ :: _, [], h, _ => by simp at h
  | v :: l, v' :: l', h, k => .cons v v' l l' (k 0 v v' rfl rfl) (VRels.of (by simpa using h) fun i x x' hx hx' => k (i + 1) x x' (by simpa using hx) (by simpa using hx'))

theorem VRels.append {φ : Phi} : ∀ {a a' b b' : List Value}, VRels φ a a' → VRels φ b b' → VRels φ (a ++ b) (a' ++ b')
  | _, _, _, _, .nil, k => k
  | _, _, _, _, .cons v v' l l' h t, k => .cons _ _ _ _ h (VRels.append t k)

theorem VRels.drop {φ : Phi} : ∀ {l l' : List Value}, VRels φ l l' → ∀ n, VRels φ (l.drop n) (l'.drop n)
  | _, _, .nil, n => by simp; exact .nil
  | _, _, .cons v v' l l' h k, 0 => .cons _ _ _ _ h k
  | _, _, .cons v v' l l' h k, n + 1 => by simpa using VRels.drop k n

theorem VRels.take {φ : Phi} : ∀ {l l' : List Value}, VRels φ l l' → ∀ n, VRels φ (l.take n) (l'.take n)
  | _, _, .nil, n => by simp; exact .nil
  | _, _, .cons v v' l l' h k, 0 => .nil
  | _, _, .cons v v' l l' h k, n + 1 => by simpa using VRels.cons _ _ _ _ h (VRels.take k n)

theorem VRels.rep {φ : Phi} {l l' : List Value} (h : VRels φ l l') : ∀ n, VRels φ (rep n l) (rep n l')
  | 0 => .nil
  | n + 1 => h.append (VRels.rep h n)

theorem flat_rel {φ : Phi} {v : Value} (h : flat v = true) : VRel φ v v := by
  unfold flat at h
  split at h
  · rename_i k b
    refine .float k b ?_
    have : Nat.ble (b + 1) NANB = true := h
    have := Nat.le_of_ble_eq_true this; omega
  · rename_i n c
    simp only [Bool.and_eq_true] at h
    have h1 := Nat.eq_of_beq_eq_true h.1
    have h2 := Nat.eq_of_beq_eq_true h.2
    subst h1; subst h2; exact .snil
  · exact .bool _
  · exact .int _ _
  · exact .string _
  · exact .pnil
  · exact .mnil
  · exact .nilFunc
  · exact .nilIface
  · cases h

def VA (φ : Phi) (a a' : Array Value) : Prop := VRels φ a.toList a'.toList

theorem VRel.cells {φ : Phi} {v v' : Value} (h : VRel φ v v') : VRels φ v.cells.toList v'.cells.toList := by
  cases h
  case sym k =>
    have hp := Syms.plain k
    have e : (Syms.get k).cells = #[Syms.get k] := by
      cases hg : Syms.get k <;> first | rfl | (rw [hg] at hp; cases hp)
    rw [e]
    exact .cons _ _ _ _ (.sym k) .nil
  all_goals first | exact .cons _ _ _ _ (by constructor <;> assumption) .nil | assumption

/-! blocks -/
inductive ERel (φ : Phi) : List (Value × Value × Nat) → List MapEntry → Prop
  | nil : ERel φ [] []
  | cons (k v : Value) (b : Nat) (k' v' : Value) (l : List (Value × Value × Nat)) (l' : List MapEntry) (hk : VRel φ k k') (hv : VRel φ v v') (h : ERel φ l l') :
      ERel φ ((k, v, b) :: l) (⟨k', v', b⟩ :: l')

theorem ERel.mono {φ φ' : Phi} (hle : Le φ φ') : ∀ {l l'}, ERel φ l l' → ERel φ' l l'
  | _, _, .nil => .nil
  | _, _, .cons _ _ _ _ _ _ _ hk hv h => .cons _ _ _ _ _ _ _ (hk.mono hle) (hv.mono hle) (h.mono hle)

inductive BRel (C : Ctx) (φ : Phi) (l : Loc) : Blk → Option Obj → Prop
  | dead (o : Option Obj) : BRel C φ l .dead o
  | cells (e : TypeId) (vs : List Value) (opn : Bool) (z : Fz) (cs : Array Value) (fr : Nat × Nat)
      (hn : cs.size = l.n) (hl : l.d + vs.length ≤ l.n) (hx : opn = false → l.d = 0 ∧ vs.length = l.n)
      (hv : VRels φ vs ((cs.toList.drop l.d).take vs.length))
      (hz : (∀ i, l.d + z.z ≤ i → i < l.n → ¬ (fr.1 ≤ i ∧ i < fr.2)) ∧ (z.s = false → fr.1 = fr.2 ∨ fr.2 ≤ l.d + z.z)) :
      BRel C φ l (.cells e vs opn z) (some (.cells cs e fr))
  | tab (vs : List Value) (cs : Array Value) (e : TypeId) (fr : Nat × Nat) (hl : l.d + vs.length ≤ cs.size) (hv : VRels φ vs ((cs.toList.drop l.d).take vs.length)) :
      BRel C φ l (.tab vs) (some (.cells cs e fr))
  | map (es : List (Value × Value × Nat)) (es' : List MapEntry) (clock : Nat) (h : ERel φ es es') : BRel C φ l (.map es clock) (some (.map ⟨es'⟩ clock))
  | iterNil (since last : Nat) (seen : List Nat) (hd : l.d = 0) : BRel C φ l (.iter none since seen last) (some (.mapIter none since ⟨seen⟩ last))
  | iter (m : Nat) (lm : Loc) (since last : Nat) (seen : List Nat) (h : φ m = some lm) (hd : l.d = 0) : BRel C φ l (.iter (some m) since seen last) (some (.mapIter (some lm.c) since ⟨seen⟩ last))

theorem BRel.mono {C : Ctx} {φ φ' : Phi} (hle : Le φ φ') {l : Loc} {x : Blk} {o : Option Obj} (h : BRel C φ l x o) : BRel C φ' l x o := by
  cases h with
  | dead => exact .dead _
  | cells e vs opn z cs fr hn hl hx hv hz => exact .cells e vs opn z cs fr hn hl hx (hv.mono hle) hz
  | tab vs cs e fr hl hv => exact .tab vs cs e fr hl (hv.mono hle)
  | map es es' clock h => exact .map es es' clock (h.mono hle)
  | iterNil _ _ _ hd => exact .iterNil _ _ _ hd
  | iter m lm since last seen h hd => exact .iter m lm since last seen (hle _ _ h) hd

def Blk.live : Blk → Bool
  | .dead => false
  | _ => true

structure HRel (C : Ctx) (φ : Phi) (H : Heap) (w : World) : Prop where
  full : H.t.Full H.n
  small : H.n ≤ LIMIT + 1
  base : ∀ g, g < C.base → ∃ l, φ g = some l ∧ l.c = g ∧ l.d = 0
  low : C.base ≤ H.n ∧ C.lo ≤ H.n
  dom : ∀ b l, φ b = some l → b < H.n ∧ l.c < w.heap.size ∧ (C.base ≤ b → C.base ≤ l.c)
  blk : ∀ b l x, φ b = some l → H.blk b = some x → BRel C φ l x w.heap[l.c]?
  sep : ∀ b b' l l' x x', φ b = some l → φ b' = some l' → b ≠ b' → H.blk b = some x → H.blk b' = some x' → x.live = true → x'.live = true → l.c ≠ l'.c

/-- what may have turned: the streams are as they were; no block that is none of the machine's own -/
structure Fr (C : Ctx) (φ : Phi) (w w' : World) : Prop where
  os : w'.os = w.os
  tape : w'.tape = w.tape
  output : w'.output = w.output
  size : w.heap.size ≤ w'.heap.size
  block : ∀ c, c < w.heap.size → (∀ b l, C.base ≤ b → φ b = some l → l.c ≠ c) → w'.heap[c]? = w.heap[c]?

structure Ext (C : Ctx) (φ : Phi) (w : World) (φ' : Phi) (w' : World) : Prop where
  le : Le φ φ'
  fr : Fr C φ w w'
  new : ∀ b l, φ' b = some l → φ b = some l ∨ ((C.base ≤ b ∧ C.lo ≤ b) ∧ (w.heap.size ≤ l.c ∨ ∃ b0 l0, C.base ≤ b0 ∧ φ b0 = some l0 ∧ l0.c = l.c))

omit [Syms] in
theorem Fr.refl (C : Ctx) (φ : Phi) (w : World) : Fr C φ w w := ⟨rfl, rfl, rfl, Nat.le_refl _, fun _ _ _ => rfl⟩
omit [Syms] in
theorem Ext.refl (C : Ctx) (φ : Phi) (w : World) : Ext C φ w φ w := ⟨Le.refl φ, Fr.refl C φ w, fun _ _ h => .inl h⟩

omit [Syms] in
theorem Ext.trans {C : Ctx} {φ φ' φ'' : Phi} {w w' w'' : World} (h : Ext C φ w φ' w') (k : Ext C φ' w' φ'' w'') : Ext C φ w φ'' w'' := by
  refine ⟨h.le.trans k.le, ⟨k.fr.os.trans h.fr.os, k.fr.tape.trans h.fr.tape, k.fr.output.trans h.fr.output, Nat.le_trans h.fr.size k.fr.size, ?_⟩, ?_⟩
  · intro c hc hno
    rw [k.fr.block c (Nat.lt_of_lt_of_le hc h.fr.size), h.fr.block c hc hno]
    intro b l hb hl e
    rcases h.new b l hl with hl | ⟨_, hl | ⟨b0, l0, hb0, hl0, e0⟩⟩
    · exact hno b l hb hl e
    · omega
    · exact hno b0 l0 hb0 hl0 (e0.trans e)
  · intro b l hl
    rcases k.new b l hl with hl | ⟨hb, hl | ⟨b0, l0, hb0, hl0, e0⟩⟩
    · rcases h.new b l hl with hl | ⟨hb, hl⟩
      · exact .inl hl
      · exact .inr ⟨hb, hl⟩
    · exact .inr ⟨hb, .inl (Nat.le_trans h.fr.size hl)⟩
    · rcases h.new b0 l0 hl0 with hl0 | ⟨_, hl0 | ⟨b1, l1, hb1, hl1, e1⟩⟩
      · exact .inr ⟨hb, .inr ⟨b0, l0, hb0, hl0, e0⟩⟩
      · exact .inr ⟨hb, .inl (by omega)⟩
      · exact .inr ⟨hb, .inr ⟨b1, l1, hb1, hl1, e1.trans e0⟩⟩

omit [Syms] in
/-- a draw from the tape -/
theorem Ext.drew (C : Ctx) (φ : Phi) (w : World) : Ext C φ w φ w.drew := ⟨Le.refl φ, ⟨rfl, rfl, rfl, Nat.le_refl _, fun _ _ _ => rfl⟩, fun _ _ h => .inl h⟩
theorem HRel.drew {C : Ctx} {φ : Phi} {H : Heap} {w : World} (h : HRel C φ H w) : HRel C φ H w.drew := ⟨h.full, h.small, h.base, h.low, h.dom, h.blk, h.sep⟩

omit [Syms] in
/-- a new block of the model that the machine need not know -/
theorem heap_push_old {w : World} {o : Obj} {c : Nat} (h : c < w.heap.size) : (w.alloc o).heap[c]? = w.heap[c]? := by
  show (w.heap.push o)[c]? = _
  rw [Array.getElem?_push, if_neg (by omega)]
omit [Syms] in
theorem heap_push_new {w : World} {o : Obj} : (w.alloc o).heap[w.heap.size]? = some o := by
  show (w.heap.push o)[w.heap.size]? = _
  simp

omit [Syms] in
theorem Heap.blk_lt {H : Heap} (hf : H.t.Full H.n) {b : Nat} {x : Blk} (h : H.blk b = some x) : b < H.n := by
  have := hf b
  unfold Heap.blk at h
  rw [h] at this; simpa using this.symm

omit [Syms] in
theorem Heap.blk_set {H : Heap} (b b' : Nat) (x : Blk) (hb : (H.blk b).isSome = true) : (H.set b x).blk b' = if b' = b then some x else H.blk b' := by
  unfold Heap.blk Heap.set at *
  by_cases e : b' = b
  · subst e; rw [if_pos rfl]; simp [T.get_mod_same, hb]
  · rw [if_neg e]; simp [T.get_mod_other _ _ _ _ e]

omit [Syms] in
theorem Heap.new_spec {H H' : Heap} {x : Blk} {b : Nat} (hf : H.t.Full H.n) (h : H.new x = some (b, H')) :
    b = H.n ∧ H'.n = H.n + 1 ∧ H.n < LIMIT ∧ H'.t.Full H'.n ∧ ∀ i, H'.blk i = if i = H.n then some x else H.blk i := by
  unfold Heap.new at h
  cases hb : Nat.blt H.n LIMIT
  · rw [hb] at h; cases h
  · rw [hb] at h; simp only [cond_true, Option.some.injEq, Prod.mk.injEq] at h
    obtain ⟨rfl, rfl⟩ := h
    have hlt : H.n < LIMIT := by
      have : Nat.ble (H.n + 1) LIMIT = true := hb
      have := Nat.le_of_ble_eq_true this; omega
    have hg : ∀ i, (T.push x 24 H.t H.n).get i = if i = H.n then some x else H.t.get i :=
      T.get_push x 24 H.t H.n (by unfold LIMIT at hlt; omega) hf
    refine ⟨rfl, rfl, hlt, ?_, hg⟩
    intro i
    show ((T.push x 24 H.t H.n).get i).isSome = _
    rw [hg i]
    have := hf i
    show _ = decide (i < H.n + 1)
    split
    · subst_vars; simp
    · rw [this]; congr 1; apply propext; omega
end Go.AM
