/- The reference's product of two numbers of 64 bits, in two halves. -/
import Derived.WalkKit
import Derived.WalkSpells
import Derived.WalkLawsBesides
import Derived.Laws.BitsAllLaws
import Derived.Test.YtmohbeomlpjljaaGreatDoorAmMemo
import Derived.Test.YtmohbeomlpjljaaGreatDoorProg
namespace Go.Proofs.YtmohbeomlpjljaaGreatDoor
open Go.RowKit Go.AM

noncomputable def tMid (a b : Nat) : Nat := (a % 4294967296 * (b % 4294967296)) / 4294967296 + (a % 4294967296 * (b / 4294967296)) % 4294967296 + (a / 4294967296 * (b % 4294967296)) % 4294967296
noncomputable def tHi (a b : Nat) : Nat := a / 4294967296 * (b / 4294967296) + (a % 4294967296 * (b / 4294967296)) / 4294967296 + (a / 4294967296 * (b % 4294967296)) / 4294967296 + tMid a b / 4294967296
noncomputable def tLo (a b : Nat) : Nat := (a % 4294967296 * (b % 4294967296)) % 4294967296 ||| (tMid a b * 4294967296) % 18446744073709551616

theorem tand (n : Nat) (h : n < 18446744073709551616) : bits BinOp.and IntKind.u64 (n : Int) 4294967295 = ((n % 4294967296 : Nat) : Int) := by
  have := u64_and_nat n 4294967295 h (by omega)
  rw [show ((4294967295 : Nat) : Int) = 4294967295 from rfl] at this
  rw [this, show (4294967295 : Nat) = 2 ^ 32 - 1 from rfl, Nat.and_two_pow_sub_one_eq_mod]
theorem twrap (n : Nat) (h : n < 18446744073709551616) : IntKind.u64.wrap (n : Int) = (n : Int) := by
  rw [IntKind.wrap_u64]; omega
theorem tmul {x y : Nat} (hx : x < 4294967296) (hy : y < 4294967296) : x * y ≤ 18446744065119617025 := by
  have : x * y ≤ 4294967295 * 4294967295 := Nat.mul_le_mul (by omega) (by omega)
  omega

set_option maxHeartbeats 2000000 in
theorem times_any (a b : Nat) (ha : a < 18446744073709551616) (hb : b < 18446744073709551616) (w : World) :
    Calls Tryz.prog 202 #[.int .u64 a, .int .u64 b] w fun e w' => e = .returned (.tuple #[.int .u64 ((tHi a b % 18446744073709551616 : Nat) : Int), .int .u64 (tLo a b : Nat)]) ∧ w' = w := by
  go_enter Tryz.func202, Tryz.ntmps202
  have a1 := tand a ha
  have b1 := tand b hb
  have a2 : (a : Int) / 4294967296 = ((a / 4294967296 : Nat) : Int) := by omega
  have b2 : (b : Int) / 4294967296 = ((b / 4294967296 : Nat) : Int) := by omega
  have hal : a % 4294967296 < 4294967296 := Nat.mod_lt _ (by decide)
  have hbl : b % 4294967296 < 4294967296 := Nat.mod_lt _ (by decide)
  have hah : a / 4294967296 < 4294967296 := by omega
  have hbh : b / 4294967296 < 4294967296 := by omega
  unfold tHi tLo tMid
  generalize a % 4294967296 = al at *
  generalize b % 4294967296 = bl at *
  generalize a / 4294967296 = ah at *
  generalize b / 4294967296 = bh at *
  have m1 := tmul hal hbl
  have m2 := tmul hal hbh
  have m3 := tmul hah hbl
  have m4 := tmul hah hbh
  go_wp2
  refine bodyPost_ret (results_tmp2 (fn := Tryz.f202) rfl _ _ _) rfl ?_
  refine ⟨?_, rfl⟩
  show Ending.returned (.tuple #[Value.int IntKind.u64 _, Value.int IntKind.u64 _]) = _
  simp only [← Int.natCast_mul]
  generalize al * bl = ll at *
  generalize al * bh = lh at *
  generalize ah * bl = hl at *
  generalize ah * bh = hh at *
  have e1 : (ll : Int) / 4294967296 = ((ll / 4294967296 : Nat) : Int) := by omega
  have e2 : (lh : Int) / 4294967296 = ((lh / 4294967296 : Nat) : Int) := by omega
  have e3 : (hl : Int) / 4294967296 = ((hl / 4294967296 : Nat) : Int) := by omega
  rw [tand ll (by omega), tand lh (by omega), tand hl (by omega), e1, e2, e3]
  simp only [← Int.natCast_add]
  rw [twrap (ll / 4294967296 + lh % 4294967296) (by omega)]
  simp only [← Int.natCast_add]
  rw [twrap (ll / 4294967296 + lh % 4294967296 + hl % 4294967296) (by omega)]
  generalize hm : ll / 4294967296 + lh % 4294967296 + hl % 4294967296 = mid
  have hmid : mid < 17179869184 := by omega
  have e4 : (mid : Int) / 4294967296 = ((mid / 4294967296 : Nat) : Int) := by omega
  have e5 : IntKind.u64.wrap ((mid : Int) * 4294967296) = ((mid * 4294967296 % 18446744073709551616 : Nat) : Int) := by rw [IntKind.wrap_u64]; omega
  rw [e4, e5, u64_or_nat _ _ (by omega) (Nat.mod_lt _ (by decide))]
  simp only [← Int.natCast_add]
  rw [IntKind.wrap_u64]
  rfl

/-- two numbers' product -/
noncomputable def timesP : Prim := fun args H => match args with
  | [.int .u64 (.ofNat a), .int .u64 (.ofNat b)] => bif Nat.blt a 18446744073709551616 && Nat.blt b 18446744073709551616 then
      some (.tuple #[.int .u64 (.ofNat (tHi a b % 18446744073709551616)), .int .u64 (.ofNat (tLo a b))], H) else none
  | _ => none

theorem timesP_at [Syms] {C : Ctx} (hP : C.P = Tryz.prog) : PrimAt C 202 timesP := by
  intro args H v H' hr φ w args' hH ha
  left
  refine ⟨by rw [hP]; exact callFunc_enter Tryz.func202 rfl (by kernel_rfl) _ w, ?_⟩
  unfold timesP at hr
  split at hr
  · rename_i a b
    cases ha with
    | cons _ a' _ _ hA htl =>
    cases htl with
    | cons _ b' _ _ hB htl2 =>
    cases htl2; cases hA; cases hB
    cases hk : (Nat.blt a 18446744073709551616 && Nat.blt b 18446744073709551616)
    · rw [hk] at hr; cases hr
    · rw [hk] at hr; simp only [cond_true, Option.some.injEq, Prod.mk.injEq] at hr
      obtain ⟨rfl, rfl⟩ := hr
      simp only [Bool.and_eq_true] at hk
      rw [hP]
      refine (times_any a b (lt_of_blt hk.1) (lt_of_blt hk.2) w).mono ?_
      rintro e w' ⟨rfl, rfl⟩
      exact ⟨_, rfl, φ, Ext.refl _ _ _, hH, .tuple [_, _] [_, _] (.cons _ _ _ _ (.int _ _) (.cons _ _ _ _ (.int _ _) .nil))⟩
  · cases hr
end Go.Proofs.YtmohbeomlpjljaaGreatDoor
