/- The reference's product of two numbers of 64 bits, in two halves. -/
import Derived.WalkKit
import Derived.WalkSpells
import Derived.WalkLawsBesides
import Derived.Laws.BitsAllLaws
import Derived.Test.YtpmolggmafgeeaaGreatDoorAmCode
import Derived.Test.YtpmolggmafgeeaaGreatDoorProg
namespace Go.Proofs.YtpmolggmafgeeaaGreatDoor
open Go.RowKit Go.AM

noncomputable def tMid (a b : Nat) : Nat := (a % 4294967296 * (b % 4294967296)) / 4294967296 + (a % 4294967296 * (b / 4294967296)) % 4294967296 + (a / 4294967296 * (b % 4294967296)) % 4294967296
noncomputable def tHi (a b : Nat) : Nat := a / 4294967296 * (b / 4294967296) + (a % 4294967296 * (b / 4294967296)) / 4294967296 + (a / 4294967296 * (b % 4294967296)) / 4294967296 + tMid a b / 4294967296
noncomputable def tLo (a b : Nat) : Nat := (a % 4294967296 * (b % 4294967296)) % 4294967296 ||| (tMid a b * 4294967296) % 18446744073709551616

theorem tand (n : Nat) (h : n < 18446744073709551616) : bits BinOp.and IntKind.u64 (n : Int) 4294967295 = ((n % 4294967296 : Nat) : Int) := by
  have := u64_and_nat n 4294967295 h (by omega)
  rw [show ((4294967295 : Nat) : Int) = 4294967295 from rfl] at this
  rw [this, show (4294967295 : Nat) = 2 ^ 32 - 1 from rfl, Nat.and_two_pow_sub_one_eq_mod]
theorem twrap (n : Nat) (h : n < 18446744073709551616) : IntKind.u64.wrap (n : Int) = (n : Int) := by
  rw [IntKind.wrap_u64]; omega
theorem tmul {x y : Nat} (hx : x < 4294967296) (hy : y < 4294967296) : x * y ≤ 18446744065119617025 := by
  have : x * y ≤ 4294967295 * 4294967295 := Nat.mul_le_mul (by omega) (by omega)
  omega

set_option maxHeartbeats 2000000 in
theorem times_any (a b : Nat) (ha : a < 18446744073709551616) (hb : b < 18446744073709551616) (w : World) :
    Calls Tryz.prog 427 #[.int .u64 a, .int .u64 b] w fun e w' => e = .returned (.tuple #[.int .u64 ((tHi a b % 18446744073709551616 : Nat) : Int), .int .u64 (tLo a b : Nat)]) ∧ w' = w := by
  go_enter Tryz.func427, Tryz.ntmps427
  have a1 := tand a ha
  have b1 := tand b hb
  have a2 : (a : Int) / 4294967296 = ((a / 4294967296 : Nat) : Int) := by omega
  have b2 : (b : Int) / 4294967296 = ((b / 4294967296 : Nat) : Int) := by omega
  have hal : a % 4294967296 < 4294967296 := Nat.mod_lt _ (by decide)
  have hbl : b % 4294967296 < 4294967296 := Nat.mod_lt _ (by decide)
  have hah : a / 4294967296 < 4294967296 := by omega
  have hbh : b / 4294967296 < 4294967296 := by omega
  unfold tHi tLo tMid
  generalize a % 4294967296 = al at *
  generalize b % 4294967296 = bl at *
  generalize a / 4294967296 = ah at *
  generalize b / 4294967296 = bh at *
  have m1 := tmul hal hbl
  have m2 := tmul hal hbh
  have m3 := tmul hah hbl
  have m4 := tmul hah hbh
  go_wp2
  refine bodyPost_ret (results_tmp2 (fn := Tryz.f427) rfl _ _ _) rfl ?_
  refine ⟨?_, rfl⟩
  show Ending.returned (.tuple #[Value.int IntKind.u64 _, Value.int IntKind.u64 _]) = _
  simp only [← Int.natCast_mul]
  generalize al * bl = ll at *
  generalize al * bh = lh at *
  generalize ah * bl = hl at *
  generalize ah * bh = hh at *
  have e1 : (ll : Int) / 4294967296 = ((ll / 4294967296 : Nat) : Int) := by omega
  have e2 : (lh : Int) / 4294967296 = ((lh / 4294967296 : Nat) : Int) := by omega
  have e3 : (hl : Int) / 4294967296 = ((hl / 4294967296 : Nat) : Int) := by omega
  rw [tand ll (by omega), tand lh (by omega), tand hl (by omega), e1, e2, e3]
  simp only [← Int.natCast_add]
  rw [twrap (ll / 4294967296 + lh % 4294967296) (by omega)]
  simp only [← Int.natCast_add]
  rw [twrap (ll / 4294967296 + lh % 4294967296 + hl % 4294967296) (by omega)]
  generalize hm : ll / 4294967296 + lh % 4294967296 + hl % 4294967296 = mid
  have hmid : mid < 17179869184 := by omega
  have e4 : (mid : Int) / 4294967296 = ((mid / 4294967296 : Nat) : Int) := by omega
  have e5 : IntKind.u64.wrap ((mid : Int) * 4294967296) = ((mid * 4294967296 % 18446744073709551616 : Nat) : Int) := by rw [IntKind.wrap_u64]; omega
  rw [e4, e5, u64_or_nat _ _ (by omega) (Nat.mod_lt _ (by decide))]
  simp only [← Int.natCast_add]
  rw [IntKind.wrap_u64]
  rfl

/-- two numbers' product -/
noncomputable def timesP : Prim := fun args H => match args with
  | [.int .u64 (.ofNat a), .int .u64 (.ofNat b)] => bif Nat.blt a 18446744073709551616 && Nat.blt b 18446744073709551616 then
      some (.tuple #[.int .u64 (.ofNat (tHi a b % 18446744073709551616)), .int .u64 (.ofNat (tLo a b))], H) else none
  | _ => none

theorem timesP_at [Syms] {C : Ctx} (hP : C.P = Tryz.prog) : PrimAt C 427 timesP := by
  intro args H v H' hr φ w args' hH ha
  left
  refine ⟨by rw [hP]; exact callFunc_enter Tryz.func427 rfl (by kernel_rfl) _ w, ?_⟩
  unfold timesP at hr
  split at hr
  · rename_i a b
    cases ha with
    | cons _ a' _ _ hA htl =>
    cases htl with
    | cons _ b' _ _ hB htl2 =>
    cases htl2; cases hA; cases hB
    cases hk : (Nat.blt a 18446744073709551616 && Nat.blt b 18446744073709551616)
    · rw [hk] at hr; cases hr
    · rw [hk] at hr; simp only [cond_true, Option.some.injEq, Prod.mk.injEq] at hr
      obtain ⟨rfl, rfl⟩ := hr
      simp only [Bool.and_eq_true] at hk
      rw [hP]
      refine (times_any a b (lt_of_blt hk.1) (lt_of_blt hk.2) w).mono ?_
      rintro e w' ⟨rfl, rfl⟩
      exact ⟨_, rfl, φ, Ext.refl _ _ _, hH, .tuple [_, _] [_, _] (.cons _ _ _ _ (.int _ _) (.cons _ _ _ _ (.int _ _) .nil))⟩
  · cases hr
end Go.Proofs.YtpmolggmafgeeaaGreatDoor
namespace Go.Proofs.YtpmolggmafgeeaaGreatDoor
open Go.RowKit
open Go.AM (wpL wpL.wp wpL.round crcT crc1 crcL crcL_snoc crcT_lt)

theorem and15 (c : Nat) : c &&& 15 < 16 := Nat.lt_of_le_of_lt Nat.and_le_right (by omega)
theorem crc1_lt (c : Nat) (h : c < 4294967296) : crc1 c < 4294967296 := by
  have h1 := crcT_lt (c &&& 15)
  have h2 : c >>> 4 < 2 ^ 32 := by rw [Nat.shiftRight_eq_div_pow]; omega
  exact Nat.xor_lt_two_pow (n := 32) h2 (by omega)
theorem crcand (c : Nat) (h : c < 4294967296) : bits BinOp.and IntKind.u32 (c : Int) 15 = ((c &&& 15 : Nat) : Int) := u32_and_nat c 15 h (by omega)
theorem crcxor (c : Nat) (h : c < 4294967296) : bits BinOp.xor IntKind.u32 ((c : Int) / 16) ((crcT (c &&& 15) : Nat) : Int) = ((crc1 c : Nat) : Int) := by
  have h1 := crcT_lt (c &&& 15)
  have e : (c : Int) / (16 : Int) = ((c >>> 4 : Nat) : Int) := by rw [Nat.shiftRight_eq_div_pow]; omega
  rw [e]
  exact u32_xor_nat _ _ (by rw [Nat.shiftRight_eq_div_pow]; omega) h1

theorem crcmax (c : Nat) (h : c < 4294967296) : bits BinOp.xor IntKind.u32 IntKind.u32.max (c : Int) = ((4294967295 ^^^ c : Nat) : Int) := u32_xor_nat 4294967295 c (by omega) h
theorem crcinv_lt (c : Nat) (h : c < 4294967296) : 4294967295 ^^^ c < 4294967296 := Nat.xor_lt_two_pow (n := 32) (by omega) (by omega)

set_option maxHeartbeats 400000 in
theorem add_any (c : Nat) (hcc : c < 4294967296) (s : ByteArray) (hs : s.size ≤ 4194304) (w : World) (hT : ∀ k, k < 16 → w.cell? ⟨2, k, none⟩ = some (.int .u32 (crcT k : Nat))) :
    Calls Tryz.prog 347 #[.int .u32 c, .string s] w fun e w' => e = .returned (.int .u32 ((4294967295 ^^^ crcL s.data.toList (4294967295 ^^^ c) : Nat) : Int)) ∧ w' = w := by
  go_enter Tryz.func347, Tryz.ntmps347
  go_wp2
  go_loopw [0, 5, 10, 11, 12,13,14,15,16,17,18,19,20,21,22,23,24,25,26,27,28,29] (fun x0 x5 x10 x11 x12 x13 x14 x15 x16 x17 x18 x19 x20 x21 x22 x23 x24 x25 x26 x27 x28 x29 wr => ∃ i c1 : Nat, i ≤ s.size ∧ x10 = .int .i64 i ∧ x0 = .int .u32 c1 ∧ c1 < 4294967296 ∧ crcL (s.data.toList.take i) (4294967295 ^^^ c) = c1 ∧ wr = w)
    (fun x0 x5 x10 x11 x12 x13 x14 x15 x16 x17 x18 x19 x20 x21 x22 x23 x24 x25 x26 x27 x28 x29 _ => s.size - (intOf x10).toNat)
  case atStart => exact ⟨0, 4294967295 ^^^ c, Nat.zero_le _, rfl, by rw [crcmax c hcc], crcinv_lt c hcc, by rfl, rfl⟩
  case round =>
    obtain ⟨i, c', hi, rfl, rfl, hc, hcr, rfl⟩ := hrel
    by_cases hlt : i < s.size
    · go_wp2
      have hx : bits BinOp.xor IntKind.u32 (c' : Int) ((s[i].toNat : Int) % 4294967296) = ((c' ^^^ s[i].toNat : Nat) : Int) := by
        have hb := s[i].toNat_lt
        rw [show ((s[i].toNat : Int) % 4294967296) = ((s[i].toNat : Nat) : Int) by omega]
        exact u32_xor_nat _ _ hc (by omega)
      rw [hx]
      generalize hc2 : c' ^^^ s[i].toNat = c2
      have hc2l : c2 < 4294967296 := by
        have hb := s[i].toNat_lt
        rw [← hc2]; exact Nat.xor_lt_two_pow (n := 32) (by omega) (by omega)
      refine wpL.wp (wpL.round ?_)
      have e1 := crcand c2 hc2l
      have e2 := and15 c2
      have e3 := hT _ e2
      have e4 := crcxor c2 hc2l
      have hc3l := crc1_lt c2 hc2l
      go_wp2
      clear e1 e2 e3 e4
      generalize hc3 : crc1 c2 = c3 at hc3l ⊢
      refine wpL.round ?_
      have e1 := crcand c3 hc3l
      have e2 := and15 c3
      have e3 := hT _ e2
      have e4 := crcxor c3 hc3l
      have hc4l := crc1_lt c3 hc3l
      go_wp2
      clear e1 e2 e3 e4
      refine wpL.round ?_
      go_wp2
      refine ⟨⟨i + 1, crc1 c3, by omega, ?_, rfl, crc1_lt c3 hc3l, ?_, trivial⟩, ?_⟩
      · rw [show (i : Int) + 1 = ((i + 1 : Nat) : Int) by omega]
      · have hi2 : i < s.data.toList.length := by simpa using hlt
        rw [List.take_add_one, List.getElem?_eq_getElem hi2]
        show crcL (s.data.toList.take i ++ [_]) _ = _
        rw [crcL_snoc, hcr, ← hc3, ← hc2]
        rfl
      · rw [show (i : Int) + 1 = ((i + 1 : Nat) : Int) by omega]
        show s.size - ((i + 1 : Nat) : Int).toNat < s.size - ((i : Nat) : Int).toNat
        simp; omega
    · go_wp2
      go_ret
      have hil : i = s.size := by omega
      have hfull : s.data.toList.take i = s.data.toList := List.take_of_length_le (by rw [hil]; simp)
      rw [hfull] at hcr
      rw [crcmax c' hc, hcr]
      exact ⟨rfl, rfl⟩
#print axioms add_any
end Go.Proofs.YtpmolggmafgeeaaGreatDoor
namespace Go.Proofs.YtpmolggmafgeeaaGreatDoor
open Go.RowKit Go.AM
structure Hid3 (p : Prop) : Prop where
  out : p

def bit1 (c : Nat) : Nat := bif Nat.beq (c &&& 1) 1 then (c >>> 1) ^^^ 2197175160 else c >>> 1
noncomputable def bits8 : Nat → Nat → Nat := Nat.rec (fun c => c) (fun _ ih c => bit1 (ih c))
noncomputable def bitL (l : List UInt8) : Nat → Nat := List.rec (fun c => c) (fun b _ ih c => ih (bits8 8 (c ^^^ b.toNat))) l
theorem bitL_cons (b : UInt8) (l : List UInt8) (c : Nat) : bitL (b :: l) c = bitL l (bits8 8 (c ^^^ b.toNat)) := rfl
theorem bitL_snoc : ∀ (l : List UInt8) (b : UInt8) (c : Nat), bitL (l ++ [b]) c = bits8 8 (bitL l c ^^^ b.toNat)
  | [], _, _ => rfl
  | x :: l, b, c => by rw [List.cons_append, bitL_cons, bitL_cons, bitL_snoc l b]
theorem bit1_lt (c : Nat) (h : c < 4294967296) : bit1 c < 4294967296 := by
  have h2 : c >>> 1 < 2 ^ 32 := by rw [Nat.shiftRight_eq_div_pow]; omega
  unfold bit1
  cases Nat.beq (c &&& 1) 1
  · exact h2
  · exact Nat.xor_lt_two_pow (n := 32) h2 (by omega)
theorem bits8_lt (k c : Nat) (h : c < 4294967296) : bits8 k c < 4294967296 := by
  induction k with
  | zero => exact h
  | succ k ih => exact bit1_lt _ ih
theorem bits8_succ (k c : Nat) : bits8 (k + 1) c = bit1 (bits8 k c) := rfl
theorem bitand (c : Nat) (h : c < 4294967296) : bits BinOp.and IntKind.u32 (c : Int) 1 = ((c % 2 : Nat) : Int) := by
  have := u32_and_nat c 1 h (by omega)
  rw [show ((1 : Nat) : Int) = 1 from rfl] at this
  rw [this, Nat.and_one_is_mod]
theorem bitodd (c : Nat) (h : c % 2 = 1) : bit1 c = (c >>> 1) ^^^ 2197175160 := by
  unfold bit1
  rw [Nat.and_one_is_mod, h]; rfl
theorem biteven (c : Nat) (h : c % 2 = 0) : bit1 c = c >>> 1 := by
  unfold bit1
  rw [Nat.and_one_is_mod, h]; rfl
theorem bitxor (c : Nat) (h : c < 4294967296) : bits BinOp.xor IntKind.u32 ((c : Int) / 2) 2197175160 = (((c >>> 1) ^^^ 2197175160 : Nat) : Int) := by
  have e : (c : Int) / (2 : Int) = ((c >>> 1 : Nat) : Int) := by rw [Nat.shiftRight_eq_div_pow]; omega
  rw [e]
  exact u32_xor_nat _ 2197175160 (by rw [Nat.shiftRight_eq_div_pow]; omega) (by omega)

set_option maxHeartbeats 1000000 in
theorem ref03_any (s : ByteArray) (hs : s.size ≤ 4194304) (w : World) :
    Calls Tryz.prog 111 #[.string s] w fun e w' => e = .returned (.int .u32 ((4294967295 ^^^ bitL s.data.toList 4294967295 : Nat) : Int)) ∧ w' = w := by
  go_enter Tryz.func111, Tryz.ntmps111
  go_wp2
  go_loop [3, 4, 5, 6, 7, 8, 9, 10, 11, 12, 13, 14, 15, 16, 17, 18, 19, 20, 21, 22, 23, 24, 25, 26, 27, 28, 29] (fun x3 x4 x5 x6 x7 x8 x9 x10 x11 x12 x13 x14 x15 x16 x17 x18 x19 x20 x21 x22 x23 x24 x25 x26 x27 x28 x29 => ∃ i c1 : Nat, i ≤ s.size ∧ x4 = .int .i64 i ∧ x3 = .int .u32 c1 ∧ c1 < 4294967296 ∧ bitL (s.data.toList.take i) 4294967295 = c1)
    (fun x3 x4 x5 x6 x7 x8 x9 x10 x11 x12 x13 x14 x15 x16 x17 x18 x19 x20 x21 x22 x23 x24 x25 x26 x27 x28 x29 => s.size - (Go.RowKit.intOf x4).toNat)
  case atStart => exact ⟨0, 4294967295, Nat.zero_le _, rfl, rfl, by omega, by rfl⟩
  case round =>
    obtain ⟨i, c', hi, rfl, rfl, hc, hcr⟩ := hrel
    by_cases hlt : i < s.size
    · go_wp2
      have hx : bits BinOp.xor IntKind.u32 (c' : Int) ((s[i].toNat : Int) % 4294967296) = ((c' ^^^ s[i].toNat : Nat) : Int) := by
        have hb := s[i].toNat_lt
        rw [show ((s[i].toNat : Int) % 4294967296) = ((s[i].toNat : Nat) : Int) by omega]
        exact u32_xor_nat _ _ hc (by omega)
      rw [hx]
      generalize hc2 : c' ^^^ s[i].toNat = c2
      have hc2l : c2 < 4294967296 := by
        have hb := s[i].toNat_lt
        rw [← hc2]; exact Nat.xor_lt_two_pow (n := 32) (by omega) (by omega)
      clear hx
      go_loop [3, 5, 18, 19, 20, 21, 22, 23, 24, 25, 26, 27, 28, 29] (fun x3 x5 x18 x19 x20 x21 x22 x23 x24 x25 x26 x27 x28 x29 => ∃ k : Nat, k ≤ 8 ∧ x5 = .int .i64 k ∧ x3 = .int .u32 ((bits8 k c2 : Nat) : Int))
        (fun x3 x5 x18 x19 x20 x21 x22 x23 x24 x25 x26 x27 x28 x29 => 8 - (Go.RowKit.intOf x5).toNat)
      case atStart => exact ⟨0, by omega, rfl, rfl⟩
      case round =>
        obtain ⟨k, hk, rfl, rfl⟩ := hrel
        by_cases hk8 : k < 8
        · have hl := bits8_lt k c2 hc2l
          have hsuc := bits8_succ k c2
          generalize bits8 k c2 = d at hl hsuc ⊢
          have ea := bitand d hl
          have ex := bitxor d hl
          have ed : (d : Int) / (2 : Int) = ((d >>> 1 : Nat) : Int) := by rw [Nat.shiftRight_eq_div_pow]; omega
          rcases Nat.mod_two_eq_zero_or_one d with hm | hm
          · have eb := Hid3.mk (hsuc.trans (biteven d hm))
            have ed := Hid3.mk ed
            rw [hm] at ea
            clear ex hsuc
            go_wp2
            go_round
            case rel => exact ⟨k + 1, by omega, by go_num, by first | (rw [eb.out, ed.out]; done) | (rw [eb.out]; rfl)⟩
            case measure => simp [Go.RowKit.intOf]; omega
          · have eb := Hid3.mk (hsuc.trans (bitodd d hm))
            rw [hm] at ea
            clear hsuc ed
            go_wp2
            go_round
            case rel => exact ⟨k + 1, by omega, by go_num, by rw [eb.out]⟩
            case measure => simp [Go.RowKit.intOf]; omega
        · obtain rfl : k = 8 := by omega
          have hl := bits8_lt 8 c2 hc2l
          have hts : s.data.toList.take (i + 1) = s.data.toList.take i ++ [s[i]] := by
            have hi2 : i < s.data.toList.length := by simpa using hlt
            rw [List.take_add_one, List.getElem?_eq_getElem hi2]; rfl
          have hn : bitL (s.data.toList.take (i + 1)) 4294967295 = bits8 8 c2 := by rw [hts, bitL_snoc, hcr, hc2]
          have hn := Hid3.mk hn
          clear hts
          go_wp2
          go_round
          case rel => exact ⟨i + 1, _, by omega, by go_num, rfl, hl, hn.out⟩
          case measure => simp [Go.RowKit.intOf]; omega
    · have hi2 : i = s.size := by omega
      have hc3 : bitL s.data.toList 4294967295 = c' := by
        rw [← hcr, List.take_of_length_le (by simp; omega)]
      have hc3 := Hid3.mk hc3
      have hm := crcmax c' hc
      go_wp2
      go_ret
      refine ⟨?_, rfl⟩
      first | rfl | rw [hc3.out]

/-- a text's sum -/
noncomputable def ref03 : Prim := fun args H => match args with
  | [.string s] => bif s.size.ble LIMIT then some (.int .u32 (.ofNat (4294967295 ^^^ bitL s.data.toList 4294967295)), H) else none
  | _ => none

theorem ref03_at [Syms] {C : Ctx} (hP : C.P = Tryz.prog) : PrimAt C 111 ref03 := by
  intro args H v H' hr φ w args' hH ha
  left
  refine ⟨by rw [hP]; exact callFunc_enter Tryz.func111 rfl (by kernel_rfl) _ w, ?_⟩
  unfold ref03 at hr
  split at hr
  · rename_i s
    cases ha with
    | cons _ s' _ _ hs htl =>
    cases htl; cases hs
    cases hk : s.size.ble LIMIT
    · rw [hk] at hr; cases hr
    · rw [hk] at hr; simp only [cond_true, Option.some.injEq, Prod.mk.injEq] at hr
      obtain ⟨rfl, rfl⟩ := hr
      have h2 := Nat.le_of_ble_eq_true hk
      have hL : LIMIT = 4194304 := by decide
      rw [hP]
      refine (ref03_any s (by omega) w).mono ?_
      rintro e w' ⟨rfl, rfl⟩
      exact ⟨_, rfl, φ, Ext.refl _ _ _, hH, .int _ _⟩
  · cases hr
end Go.Proofs.YtpmolggmafgeeaaGreatDoor
