/- pool.New over the program: of any number of frames from 1 to 64. -/
import Derived.WalkKit
import Derived.WalkSpells
import Derived.WalkLawsBesides
import Derived.OwnWalk
import Derived.Laws.OwnMore
import Derived.Test.YtpmolggmafgeeaaGreatDoorAmHeld
import Derived.KernelRfl
import Derived.Test.YtpmolggmafgeeaaGreatDoorProg
namespace Go.Proofs.YtpmolggmafgeeaaGreatDoor
open Go.RowKit

structure Hidden (p : Prop) : Prop where
  out : p

theorem infoFrame : (Tryz.prog.info? 139).map (fun i => (i.zero.isSome, i.size, i.bytes)) = some (true, 5, 40) := by kernel_rfl
theorem infoFrame' : ∃ i z, Tryz.prog.info? 139 = some i ∧ i.zero = some z ∧ i.size = 5 ∧ i.bytes = 40 := by
  have h := infoFrame
  cases hi : Tryz.prog.info? 139 with
  | none => rw [hi] at h; cases h
  | some i =>
    rw [hi] at h
    simp only [Option.map_some, Option.some.injEq, Prod.mk.injEq] at h
    obtain ⟨h1, h2, h3⟩ := h
    obtain ⟨z, hz⟩ := Option.isSome_iff_exists.1 h1
    exact ⟨i, z, rfl, hz, h2, h3⟩

set_option maxRecDepth 100000 in
set_option maxHeartbeats 1000000 in
theorem poolnew_any (b off n : Nat) (w : World) (h1 : 1 ≤ n) (h64 : n ≤ 64) :
    Calls Tryz.prog 24 #[.pointer (some ⟨b, off, none⟩), .int .i64 n] w fun e w' =>
      ∃ c, e = .returned (.tuple #[.pointer (some ⟨c, 0, none⟩), .bool true]) ∧ w.heap.size ≤ c ∧ c < w'.heap.size ∧ Below w.heap.size w w' := by
  have e1 : decide ((n : Int) < 1) = false := by simp; omega
  have e2 : decide ((n : Int) > 64) = false := by simp; omega
  obtain ⟨i0, z0, hi, hz0, hz1, hz2⟩ := infoFrame'
  have hmm := @run_makeMap Tryz.prog
  go_enter Tryz.func24, Tryz.ntmps24
  go_wp2_with (at_make; refine wpList_make_full _ rfl _ _ 134 rfl w.heap.size 139 i0 z0 5 Tryz.underlying134 hi hz0 hz1 _ _ _ _ n rfl rfl rfl rfl (by rw [hz2]; omega) (by unfold maxLen; omega) (Nat.le_refl _) ?_; intro w1 hown1 hgrow1)
  have hsz1 := hgrow1.size
  have hB1 : Below w.heap.size w w1 := (Below.refl _ w).grown hgrow1 (Nat.le_refl _) (fun k e => by cases e)
  obtain ⟨pb, hpb⟩ : ∃ pb, w1.heap.size + 1 = pb := ⟨_, rfl⟩
  have hpw : w.heap.size < pb := by omega
  rw [hpb]
  go_loopw [7, 29, 30, 31, 32, 33, 34, 35, 36, 37, 38, 39] (fun x7 x29 x30 x31 x32 x33 x34 x35 x36 x37 x38 x39 wr => ∃ k : Nat, k ≤ n ∧ x29 = .int .i64 k ∧ (∃ xs, wr.ownsRow w.heap.size 139 5 (.slice (some ⟨w.heap.size, 0, none⟩) n n) n xs) ∧
      wr.cell? ⟨pb, 1, none⟩ = some (.slice (some ⟨w.heap.size, 0, none⟩) n n) ∧ pb < wr.heap.size ∧ Below w.heap.size w wr)
    (fun x7 x29 x30 x31 x32 x33 x34 x35 x36 x37 x38 x39 _ => n - (Go.RowKit.intOf x29).toNat)
  case atStart =>
    refine ⟨0, Nat.zero_le _, rfl, ⟨_, (hown1.alloc _).alloc _⟩, ?_, by simp; omega, (hB1.alloc (by omega) _).alloc (by simp; omega) _⟩
    rw [← hpb]
    simp
  case round =>
    obtain ⟨k, hk, rfl, ⟨xs, hown⟩, hp, hps, hbel⟩ := hrel
    by_cases hlt : k < n
    · have hc := hown.cellAt (k * 5) (by omega)
      have hx : k * 5 < xs.length := by rw [hown.1]; omega
      rw [List.getElem?_eq_getElem hx] at hc
      have hf := hown.frozenAt (k * 5)
      obtain ⟨hs1, hs2⟩ := hown.stored (k * 5) (.int .i64 (-1))
      have hs1 := Hidden.mk hs1
      have hs2 := Hidden.mk hs2
      go_wp2
      go_roundw
      case rel =>
        refine ⟨k + 1, by omega, by go_num, ⟨_, hs1.out⟩, ?_, by have := hs2.out.size; omega, hbel.setCell (p := ⟨w.heap.size, k * 5, none⟩) (Nat.le_refl _) _⟩
        have hne : (⟨w.heap.size, k * 5, none⟩ : Addr) ≠ ⟨pb, 1, none⟩ := by intro e; injection e; omega
        exact (World.cell?_setCell_other wr _ _ _ hne).trans hp
      case measure => simp [Go.RowKit.intOf]; omega
    · go_wp2
      go_ret2
      exact ⟨pb, rfl, by omega, hps, hbel⟩
theorem pool_law : Go.AM.PoolLaw Tryz.prog 24 := poolnew_any
end Go.Proofs.YtpmolggmafgeeaaGreatDoor
