/- sum.Add over the program. -/
import Derived.WalkKit
import Derived.WalkSpells
import Derived.WalkLawsBesides
import Derived.Laws.BitsAllLaws
import Derived.Test.YtmohbeomlpjljaaGreatDoorAmData
import Derived.Test.YtmohbeomlpjljaaGreatDoorProg
namespace Go.Proofs.YtmohbeomlpjljaaGreatDoor
open Go.RowKit
open Go.AM (wpL wpL.wp wpL.round crcT crc1 crcL crcL_snoc crcT_lt)

theorem and15 (c : Nat) : c &&& 15 < 16 := Nat.lt_of_le_of_lt Nat.and_le_right (by omega)
theorem crc1_lt (c : Nat) (h : c < 4294967296) : crc1 c < 4294967296 := by
  have h1 := crcT_lt (c &&& 15)
  have h2 : c >>> 4 < 2 ^ 32 := by rw [Nat.shiftRight_eq_div_pow]; omega
  exact Nat.xor_lt_two_pow (n := 32) h2 (by omega)
theorem crcand (c : Nat) (h : c < 4294967296) : bits BinOp.and IntKind.u32 (c : Int) 15 = ((c &&& 15 : Nat) : Int) := u32_and_nat c 15 h (by omega)
theorem crcxor (c : Nat) (h : c < 4294967296) : bits BinOp.xor IntKind.u32 ((c : Int) / 16) ((crcT (c &&& 15) : Nat) : Int) = ((crc1 c : Nat) : Int) := by
  have h1 := crcT_lt (c &&& 15)
  have e : (c : Int) / (16 : Int) = ((c >>> 4 : Nat) : Int) := by rw [Nat.shiftRight_eq_div_pow]; omega
  rw [e]
  exact u32_xor_nat _ _ (by rw [Nat.shiftRight_eq_div_pow]; omega) h1

theorem crcmax (c : Nat) (h : c < 4294967296) : bits BinOp.xor IntKind.u32 IntKind.u32.max (c : Int) = ((4294967295 ^^^ c : Nat) : Int) := u32_xor_nat 4294967295 c (by omega) h
theorem crcinv_lt (c : Nat) (h : c < 4294967296) : 4294967295 ^^^ c < 4294967296 := Nat.xor_lt_two_pow (n := 32) (by omega) (by omega)

set_option maxHeartbeats 400000 in
theorem add_any (c : Nat) (hcc : c < 4294967296) (s : ByteArray) (hs : s.size ≤ 4194304) (w : World) (hT : ∀ k, k < 16 → w.cell? ⟨2, k, none⟩ = some (.int .u32 (crcT k : Nat))) :
    Calls Tryz.prog 306 #[.int .u32 c, .string s] w fun e w' => e = .returned (.int .u32 ((4294967295 ^^^ crcL s.data.toList (4294967295 ^^^ c) : Nat) : Int)) ∧ w' = w := by
  go_enter Tryz.func306, Tryz.ntmps306
  go_wp2
  go_loopw [0, 5, 10, 11, 12,13,14,15,16,17,18,19,20,21,22,23,24,25,26,27,28,29] (fun x0 x5 x10 x11 x12 x13 x14 x15 x16 x17 x18 x19 x20 x21 x22 x23 x24 x25 x26 x27 x28 x29 wr => ∃ i c1 : Nat, i ≤ s.size ∧ x10 = .int .i64 i ∧ x0 = .int .u32 c1 ∧ c1 < 4294967296 ∧ crcL (s.data.toList.take i) (4294967295 ^^^ c) = c1 ∧ wr = w)
    (fun x0 x5 x10 x11 x12 x13 x14 x15 x16 x17 x18 x19 x20 x21 x22 x23 x24 x25 x26 x27 x28 x29 _ => s.size - (intOf x10).toNat)
  case atStart => exact ⟨0, 4294967295 ^^^ c, Nat.zero_le _, rfl, by rw [crcmax c hcc], crcinv_lt c hcc, by rfl, rfl⟩
  case round =>
    obtain ⟨i, c', hi, rfl, rfl, hc, hcr, rfl⟩ := hrel
    by_cases hlt : i < s.size
    · go_wp2
      have hx : bits BinOp.xor IntKind.u32 (c' : Int) ((s[i].toNat : Int) % 4294967296) = ((c' ^^^ s[i].toNat : Nat) : Int) := by
        have hb := s[i].toNat_lt
        rw [show ((s[i].toNat : Int) % 4294967296) = ((s[i].toNat : Nat) : Int) by omega]
        exact u32_xor_nat _ _ hc (by omega)
      rw [hx]
      generalize hc2 : c' ^^^ s[i].toNat = c2
      have hc2l : c2 < 4294967296 := by
        have hb := s[i].toNat_lt
        rw [← hc2]; exact Nat.xor_lt_two_pow (n := 32) (by omega) (by omega)
      refine wpL.wp (wpL.round ?_)
      have e1 := crcand c2 hc2l
      have e2 := and15 c2
      have e3 := hT _ e2
      have e4 := crcxor c2 hc2l
      have hc3l := crc1_lt c2 hc2l
      go_wp2
      clear e1 e2 e3 e4
      generalize hc3 : crc1 c2 = c3 at hc3l ⊢
      refine wpL.round ?_
      have e1 := crcand c3 hc3l
      have e2 := and15 c3
      have e3 := hT _ e2
      have e4 := crcxor c3 hc3l
      have hc4l := crc1_lt c3 hc3l
      go_wp2
      clear e1 e2 e3 e4
      refine wpL.round ?_
      go_wp2
      refine ⟨⟨i + 1, crc1 c3, by omega, ?_, rfl, crc1_lt c3 hc3l, ?_, trivial⟩, ?_⟩
      · rw [show (i : Int) + 1 = ((i + 1 : Nat) : Int) by omega]
      · have hi2 : i < s.data.toList.length := by simpa using hlt
        rw [List.take_add_one, List.getElem?_eq_getElem hi2]
        show crcL (s.data.toList.take i ++ [_]) _ = _
        rw [crcL_snoc, hcr, ← hc3, ← hc2]
        rfl
      · rw [show (i : Int) + 1 = ((i + 1 : Nat) : Int) by omega]
        show s.size - ((i + 1 : Nat) : Int).toNat < s.size - ((i : Nat) : Int).toNat
        simp; omega
    · go_wp2
      go_ret
      have hil : i = s.size := by omega
      have hfull : s.data.toList.take i = s.data.toList := List.take_of_length_le (by rw [hil]; simp)
      rw [hfull] at hcr
      rw [crcmax c' hc, hcr]
      exact ⟨rfl, rfl⟩
#print axioms add_any
end Go.Proofs.YtmohbeomlpjljaaGreatDoor
