/- The library contracts on a map's keys, sorted, and on a copy of a slice, laid at this program. -/
import Derived.Shelf.SlIterI.Nil
import Derived.Shelf.SortM.Plain
import Derived.Shelf.SortM.SortNone
import Derived.Shelf.Slices.Clone
import Derived.Test.YtpmolggmafgeeaaGreatDoorProg
import Derived.Test.YtpmolggmafgeeaaGreatDoorAmHeld
import Derived.RangeFuncNested
import Derived.RangeFuncBox
import Derived.RangeFuncLeaves
import Derived.Shelf.Abstract
import Derived.Shelf.RegionOpen
import Derived.WalkKit
import Derived.OwnWalkIn
import Derived.TacticsInMore
import Derived.LoopNIn
import Derived.LoopIn
import Derived.StillTailTactics
namespace Go.Proofs.YtpmolggmafgeeaaGreatDoor
open Go.RowKit Go.Maps Go.Sort Go.Shelf
def Tryz.keysA_ren : Go.Shelf.Ren := ⟨fun | 7 => 363 | 10 => 412 | n => n, fun | 23 => 135 | 26 => 3 | 3 => 3 | 28 => 511 | 0 => 0 | 27 => 510 | 33 => 192 | 4 => 4 | n => n, fun | n => n⟩
theorem Tryz.keysA : Go.Proofs.SlLaysZI.n7 Tryz.prog Tryz.keysA_ren := {
  mixed := by kernel_rfl
  f7 := ⟨Tryz.f363.name, by decide, Tryz.func363.trans (congrArg some (by kernel_rfl))⟩
  f10 := ⟨Tryz.f412.name, by decide, Tryz.func412.trans (congrArg some (by kernel_rfl))⟩
  t0 := Tryz.underlying0
  a0 := Tryz.isAgg0
  z0 := Tryz.sizeOf0
  v0 := Tryz.zeroValue0
  t4 := Tryz.underlying4
  a4 := Tryz.isAgg4
  z4 := Tryz.sizeOf4
  v4 := Tryz.zeroValue4
  t23 := Tryz.underlying135
  a23 := Tryz.isAgg135
  z23 := Tryz.sizeOf135
  v23 := Tryz.zeroValue135
  t26 := Tryz.underlying3
  a26 := Tryz.isAgg3
  z26 := Tryz.sizeOf3
  v26 := Tryz.zeroValue3
  t27 := Tryz.underlying510
  a27 := Tryz.isAgg510
  z27 := Tryz.sizeOf510
  v27 := Tryz.zeroValue510
  t28 := Tryz.underlying511
  a28 := Tryz.isAgg511
  z28 := Tryz.sizeOf511
  v28 := Tryz.zeroValue511
  t33 := Tryz.underlying192
  a33 := Tryz.isAgg192
  z33 := Tryz.sizeOf192
  v33 := Tryz.zeroValue192 }
def Tryz.sortedA_ren : Go.Shelf.Ren := ⟨fun | 6 => 362 | 8 => 411 | 9 => 65 | 11 => 433 | 13 => 132 | 12 => 131 | 23 => 207 | 24 => 208 | 14 => 198 | 15 => 199 | 16 => 200 | 17 => 201 | 18 => 202 | 19 => 203 | 20 => 204 | 21 => 205 | 22 => 206 | 25 => 295 | 26 => 296 | 27 => 297 | 28 => 298 | 29 => 299 | 30 => 300 | 31 => 364 | n => n, fun | 26 => 3 | 28 => 511 | 24 => 56 | 0 => 0 | 3 => 3 | 37 => 242 | 48 => 200 | 50 => 341 | 4 => 4 | 40 => 333 | 39 => 332 | 45 => 325 | 5 => 5 | 9 => 9 | 51 => 436 | 55 => 440 | 57 => 513 | 58 => 419 | 33 => 192 | n => n, fun | n => n⟩
theorem Tryz.sortedA : Go.Proofs.SlLaysZI.n6 Tryz.prog Tryz.sortedA_ren := {
  mixed := by kernel_rfl
  f6 := ⟨Tryz.f362.name, by decide, Tryz.func362.trans (congrArg some (by kernel_rfl))⟩
  f8 := ⟨Tryz.f411.name, by decide, Tryz.func411.trans (congrArg some (by kernel_rfl))⟩
  f11 := ⟨Tryz.f433.name, by decide, Tryz.func433.trans (congrArg some (by kernel_rfl))⟩
  t0 := Tryz.underlying0
  a0 := Tryz.isAgg0
  z0 := Tryz.sizeOf0
  v0 := Tryz.zeroValue0
  t24 := Tryz.underlying56
  a24 := Tryz.isAgg56
  z24 := Tryz.sizeOf56
  v24 := Tryz.zeroValue56
  t26 := Tryz.underlying3
  a26 := Tryz.isAgg3
  z26 := Tryz.sizeOf3
  v26 := Tryz.zeroValue3
  t28 := Tryz.underlying511
  a28 := Tryz.isAgg511
  z28 := Tryz.sizeOf511
  v28 := Tryz.zeroValue511
  i26 := by kernel_rfl }
def Tryz.sortA_ren : Go.Shelf.Ren := ⟨fun | 5 => 65 | 8 => 132 | 7 => 131 | 19 => 207 | 20 => 208 | 10 => 198 | 11 => 199 | 12 => 200 | 13 => 201 | 14 => 202 | 15 => 203 | 16 => 204 | 17 => 205 | 18 => 206 | 30 => 295 | 31 => 296 | 32 => 297 | 33 => 298 | 34 => 299 | 35 => 300 | 40 => 364 | n => n, fun | 23 => 56 | 25 => 3 | 3 => 3 | 32 => 242 | 22 => 56 | 0 => 0 | 44 => 200 | 46 => 341 | 4 => 4 | 36 => 333 | 35 => 332 | 41 => 325 | 5 => 5 | 9 => 9 | 53 => 436 | 57 => 440 | 63 => 513 | 64 => 419 | n => n, fun | n => n⟩
theorem Tryz.sortA : Go.Proofs.SlLaysM.n5 Tryz.prog Tryz.sortA_ren := {
  mixed := by kernel_rfl
  f5 := ⟨Tryz.f65.name, by decide, Tryz.func65.trans (congrArg some (by kernel_rfl))⟩
  f7 := ⟨Tryz.f131.name, by decide, Tryz.func131.trans (congrArg some (by kernel_rfl))⟩
  f8 := Tryz.func132.trans (congrArg some (by kernel_rfl))
  f10 := ⟨Tryz.f198.name, by decide, Tryz.func198.trans (congrArg some (by kernel_rfl))⟩
  f11 := ⟨Tryz.f199.name, by decide, Tryz.func199.trans (congrArg some (by kernel_rfl))⟩
  f12 := ⟨Tryz.f200.name, by decide, Tryz.func200.trans (congrArg some (by kernel_rfl))⟩
  f13 := ⟨Tryz.f201.name, by decide, Tryz.func201.trans (congrArg some (by kernel_rfl))⟩
  f14 := ⟨Tryz.f202.name, by decide, Tryz.func202.trans (congrArg some (by kernel_rfl))⟩
  f15 := ⟨Tryz.f203.name, by decide, Tryz.func203.trans (congrArg some (by kernel_rfl))⟩
  f16 := ⟨Tryz.f204.name, by decide, Tryz.func204.trans (congrArg some (by kernel_rfl))⟩
  f17 := ⟨Tryz.f205.name, by decide, Tryz.func205.trans (congrArg some (by kernel_rfl))⟩
  f18 := ⟨Tryz.f206.name, by decide, Tryz.func206.trans (congrArg some (by kernel_rfl))⟩
  f19 := Tryz.func207.trans (congrArg some (by kernel_rfl))
  f20 := Tryz.func208.trans (congrArg some (by kernel_rfl))
  f30 := ⟨Tryz.f295.name, by decide, Tryz.func295.trans (congrArg some (by kernel_rfl))⟩
  f31 := Tryz.func296.trans (congrArg some (by kernel_rfl))
  f32 := Tryz.func297.trans (congrArg some (by kernel_rfl))
  f33 := ⟨Tryz.f298.name, by decide, Tryz.func298.trans (congrArg some (by kernel_rfl))⟩
  f34 := ⟨Tryz.f299.name, by decide, Tryz.func299.trans (congrArg some (by kernel_rfl))⟩
  f35 := ⟨Tryz.f300.name, by decide, Tryz.func300.trans (congrArg some (by kernel_rfl))⟩
  f40 := ⟨Tryz.f364.name, by decide, Tryz.func364.trans (congrArg some (by kernel_rfl))⟩
  t0 := Tryz.underlying0
  a0 := Tryz.isAgg0
  z0 := Tryz.sizeOf0
  v0 := Tryz.zeroValue0
  t3 := Tryz.underlying3
  a3 := Tryz.isAgg3
  z3 := Tryz.sizeOf3
  v3 := Tryz.zeroValue3
  t4 := Tryz.underlying4
  a4 := Tryz.isAgg4
  z4 := Tryz.sizeOf4
  v4 := Tryz.zeroValue4
  t5 := Tryz.underlying5
  a5 := Tryz.isAgg5
  z5 := Tryz.sizeOf5
  v5 := Tryz.zeroValue5
  t9 := Tryz.underlying9
  a9 := Tryz.isAgg9
  z9 := Tryz.sizeOf9
  v9 := Tryz.zeroValue9
  t22 := Tryz.underlying56
  a22 := Tryz.isAgg56
  z22 := Tryz.sizeOf56
  v22 := Tryz.zeroValue56
  t23 := Tryz.underlying56
  a23 := Tryz.isAgg56
  z23 := Tryz.sizeOf56
  v23 := Tryz.zeroValue56
  t25 := Tryz.underlying3
  a25 := Tryz.isAgg3
  z25 := Tryz.sizeOf3
  v25 := Tryz.zeroValue3
  t32 := Tryz.underlying242
  a32 := Tryz.isAgg242
  z32 := Tryz.sizeOf242
  v32 := Tryz.zeroValue242
  t35 := Tryz.underlying332
  a35 := Tryz.isAgg332
  z35 := Tryz.sizeOf332
  v35 := Tryz.zeroValue332
  t36 := Tryz.underlying333
  a36 := Tryz.isAgg333
  z36 := Tryz.sizeOf333
  v36 := Tryz.zeroValue333
  t41 := Tryz.underlying325
  a41 := Tryz.isAgg325
  z41 := Tryz.sizeOf325
  v41 := Tryz.zeroValue325
  t44 := Tryz.underlying200
  a44 := Tryz.isAgg200
  z44 := Tryz.sizeOf200
  v44 := Tryz.zeroValue200
  t46 := Tryz.underlying341
  a46 := Tryz.isAgg341
  z46 := Tryz.sizeOf341
  v46 := Tryz.zeroValue341
  t53 := Tryz.underlying436
  a53 := Tryz.isAgg436
  z53 := Tryz.sizeOf436
  v53 := Tryz.zeroValue436
  t57 := Tryz.underlying440
  a57 := Tryz.isAgg440
  z57 := Tryz.sizeOf440
  v57 := Tryz.zeroValue440
  t63 := Tryz.underlying513
  a63 := Tryz.isAgg513
  z63 := Tryz.sizeOf513
  v63 := Tryz.zeroValue513
  t64 := Tryz.underlying419
  a64 := Tryz.isAgg419
  z64 := Tryz.sizeOf419
  v64 := Tryz.zeroValue419 }
def Tryz.cloneA_ren : Go.Shelf.Ren := ⟨fun | 15 => 121 | n => n, fun | 22 => 56 | 3 => 3 | 4 => 4 | n => n, fun | n => n⟩
theorem Tryz.cloneA : Go.Proofs.Lays2.n15 Tryz.prog Tryz.cloneA_ren := {
  mixed := by kernel_rfl
  f15 := Tryz.func121.trans (congrArg some (by kernel_rfl))
  t3 := Tryz.underlying3
  a3 := Tryz.isAgg3
  z3 := Tryz.sizeOf3
  v3 := Tryz.zeroValue3
  t4 := Tryz.underlying4
  a4 := Tryz.isAgg4
  z4 := Tryz.sizeOf4
  v4 := Tryz.zeroValue4
  t22 := Tryz.underlying56
  a22 := Tryz.isAgg56
  z22 := Tryz.sizeOf56
  v22 := Tryz.zeroValue56
  i3 := by kernel_rfl }
end Go.Proofs.YtpmolggmafgeeaaGreatDoor
namespace Go.Proofs.YtpmolggmafgeeaaGreatDoor
open Go.RowKit Go.Maps Go.Sort Go.Shelf

theorem held_sorts (m : Nat) : AnyZI.SortsIn Tryz.prog Tryz.sortedA_ren Fence.wide m :=
  ⟨fun blk off cap ss W hH hblk hsz => callsIn_wide.2 (AnyM.slices_Sort_int Tryz.sortA blk off cap ss W hH hblk hsz),
   fun p cap W => callsIn_wide.2 (AnyM.slices_Sort_int_none Tryz.sortA p cap W)⟩

/-- such a map reads as its keys -/
def keyR : Value → Option (DataW Unit × List MemPlace) := fun _ => some (.nil, [])

theorem int_inj : ∀ (l l' : List Int), l.map (Value.int .i64) = l'.map (Value.int .i64) → l = l'
  | [], [], _ => rfl
  | [], _ :: _, h => by cases h
  | _ :: _, [], h => by cases h
  | a :: l, b :: l', h => by
    simp only [List.map_cons, List.cons.injEq, Value.int.injEq, true_and] at h
    rw [h.1, int_inj l l' h.2]

theorem held_own {es : List MapEntry} {clock : Nat} {l : List Int} {w : World} {m : Nat} (hw : w.heap[m]? = some (.map ⟨es⟩ clock)) (hk : es.map (·.key) = l.map (.int .i64)) (hwf : ∀ x ∈ l, (Lit.int .i64 x).wf = true)
    (hl : l.Nodup) (hb : (es.map (·.born)).Nodup) (hc : ∀ e ∈ es, e.born < clock) (hn : es.length ≤ 1000) :
    ∃ D, w.ownsMap Tryz.prog 3 keyR m es.length D ∧ (intKeys D).Perm l ∧ Maps.size D = es.length := by
  have hint : Tryz.prog.underlying 3 = some (.int .i64) := Tryz.underlying3
  have hrd : ∀ x ∈ es, ∃ n, n ∈ l ∧ x.key = .int .i64 n ∧ Go.WideElems.rd Tryz.prog 3 keyR x = some (.int .i64 n, .nil) := by
    intro x hx
    have : x.key ∈ l.map (Value.int .i64) := by rw [← hk]; exact List.mem_map_of_mem hx
    obtain ⟨n, hn, he⟩ := List.mem_map.1 this
    refine ⟨n, hn, he.symm, ?_⟩
    obtain ⟨key, val, born⟩ := x
    simp only at he
    subst he
    exact Go.WideElems.rd_mk (P := Tryz.prog) (k := 3) (R := keyR) (key := .int .i64 n) (val := val) (kl := .int .i64 n) (yv := (.nil, [])) (by simp [keyOf, mapKey, hint, hwf n hn]) rfl
  refine ⟨_, ⟨⟨es⟩, clock, hw, ⟨by show es.length ≤ maxLen; have : maxLen = 9223372036854775807 := rfl; omega, ⟨by simpa using hc, by simpa using hb, ?_⟩, ?_⟩, by simp, rfl⟩, ?_, ?_⟩
  · show (es.map (·.key)).Nodup
    rw [hk]
    exact List.pairwise_map.2 (hl.imp (fun h e => h (by simpa using e)))
  · intro x hx
    obtain ⟨n, _, _, h⟩ := hrd x hx
    exact ⟨_, h⟩
  · refine (List.Perm.map _ (Go.WideShapes.sorted_perm _)).trans ?_
    have : ((es.map (Go.WideElems.rg Tryz.prog 3 keyR)).map fun p => Go.intOf p.1) = l := by
      have h2 : ∀ x ∈ es, Value.int .i64 (Go.intOf (Go.WideElems.rg Tryz.prog 3 keyR x).1) = x.key := by
        intro x hx
        obtain ⟨n, _, h1, h3⟩ := hrd x hx
        rw [Go.WideElems.rg_of h3, h1]; rfl
      have h4 : ((es.map (Go.WideElems.rg Tryz.prog 3 keyR)).map fun p => Go.intOf p.1).map (Value.int .i64) = l.map (Value.int .i64) := by
        rw [← hk, List.map_map, List.map_map]
        exact List.map_congr_left h2
      exact int_inj _ _ h4
    exact List.Perm.of_eq this
  · rw [Maps.size_eq, (Go.WideShapes.sorted_perm _).length_eq]; simp

set_option maxHeartbeats 1000000 in
theorem held_law : Go.AM.HeldLaw Tryz.prog 293 3 := by
  intro pb po m es clock l w hp hw hk hwf hl hb hc hn
  obtain ⟨D0, hown, hperm, hsize⟩ := held_own hw hk hwf hl hb hc hn
  refine (callsIn_wide (n := 6)).1 ?_
  have hbl := hown.lt
  have hmL : maxLen = 9223372036854775807 := rfl
  have hmax : Maps.size D0 ≤ maxLen := by omega
  have hbytes : Maps.size D0 * 8 ≤ 140737488355328 := by omega
  have hseq : SeqGives Fence.wide 2 Tryz.prog 412 #[.pointer (some ⟨w.heap.size, 0, none⟩)] encZ (fun ss => ss.Perm (intKeys D0)) (Maps.size D0) (w.alloc (.cells #[.map (some m)] 135)) :=
    AnyZI.keys_gives (ρ := Tryz.keysA_ren) { Tryz.keysA with } Fence.wide _ trivial rfl (by omega) w.heap.size m es.length D0 _ (by simp) (by simp) (by
      obtain ⟨es, clock, hb, Ft, hs, hD⟩ := hown
      exact ⟨es, clock, (Below.heap_alloc _ _ m hbl).trans hb, Ft, hs, hD⟩)
  have cK : ∀ mb W, CallsIn Fence.wide 5 Tryz.prog 363 #[.map mb] W fun e w' => e = .returned (.func (.func 412) #[] #[.pointer (some ⟨W.heap.size, 0, none⟩)]) ∧ w' = W.alloc (.cells #[.map mb] 135) := fun mb W => AnyZI.keys_in Tryz.keysA Fence.wide 5 trivial rfl mb W
  have cS := AnyZI.sorted_in Tryz.sortedA Fence.wide 5 trivial trivial trivial trivial rfl (by omega) (held_sorts _) (enters_of Tryz.func65 (by kernel_rfl) rfl) 412 #[.pointer (some ⟨w.heap.size, 0, none⟩)] trivial (enters_of Tryz.func412 (by kernel_rfl) rfl) _ _ hmax hbytes _ hseq
  change CallsIn _ _ Tryz.prog 362 _ _ _ at cS
  have hfK : Fence.wide.fn 363 := trivial
  have hfS : Fence.wide.fn 362 := trivial
  refine callsIn_of_wp Tryz.func293 rfl trivial ?_ rfl
  simp only [Tryz.ntmps293, List.size_toArray, List.length_cons, List.length_nil, Nat.reduceAdd, Nat.reduceSub, Array.replicate_succ, Array.replicate_zero, List.push_toArray, List.append_toArray, List.nil_append, List.cons_append]
  gi_wp2_with (first
    | (gi_at_call 363; refine (cK _ _).mono ?_; rintro e w' ⟨rfl, rfl⟩)
    | (gi_at_call 362; refine cS.mono ?_; rintro e w' ⟨v, ss, rfl, hS, hrow, hnil, hb⟩))
  go_ret
  have hsl : ss.Perm l := hS.trans hperm
  have hlen : ss.length = l.length := hsl.length_eq
  rw [Go.AM.merge_sortI hsl, hlen] at hrow
  refine ⟨v, rfl, ownsRow_base_a hrow (by simp), ?_, ((Below.refl _ w).alloc (Nat.le_refl _) _).trans (hb.mono (by simp))⟩
  rw [hnil]
  constructor
  · rintro rfl; exact List.eq_nil_of_length_eq_zero (by rw [← hlen]; rfl)
  · rintro rfl; exact List.eq_nil_of_length_eq_zero hlen
#print axioms held_law
end Go.Proofs.YtpmolggmafgeeaaGreatDoor
namespace Go.Proofs.YtpmolggmafgeeaaGreatDoor
open Go.RowKit Go.Shelf

attribute [local go_sem] Oper.semAt_some

/-- these blocks are as they were -/
def KP (lo n : Nat) (A B : World) : Prop := ∀ k, lo ≤ k → k < n → B.heap[k]? = A.heap[k]?
theorem KP.trans {lo n : Nat} {A B C : World} (h : KP lo n A B) (k : KP lo n B C) : KP lo n A C := fun i h1 h2 => (k i h1 h2).trans (h i h1 h2)
theorem KP.cell {lo n : Nat} {A B : World} (h : KP lo n A B) {b : Nat} (h1 : lo ≤ b) (h2 : b < n) : B.cell? ⟨b, 0, none⟩ = A.cell? ⟨b, 0, none⟩ := World.cell?_of_block (h b h1 h2)
theorem KP.put {lo n : Nat} {w : World} (hn : n ≤ w.heap.size) (W : World) (l : Nat) (o o' : Obj) (hl : w.heap.size ≤ l) (h : W.heap[l]? = some o) (_ : o.isCells = false) (_ : o.isWalk = false) : KP lo n W (W.putObj l o') := fun k _ h2 =>
  (grownBy_putObj' W l o').block k (by have := (Array.getElem?_eq_some_iff.1 h).1; omega) (fun e => by cases e; omega)

set_option maxRecDepth 100000 in
set_option maxHeartbeats 2000000 in
/-- the iterator, where there is one part -/
theorem chunk1_in (n : Nat) (hn : 1 ≤ n) (l Bs Bn lo n₀ b off len cap : Nat) (h1 : 1 ≤ len) (h20 : len ≤ 20) (hcap : len ≤ cap) (J Jx : List Unit → World → Prop)
    (hY : ∀ pre x W, J pre W → pre.length < 1 → YieldAt Fence.wide (n - 1) Tryz.prog l #[.slice (some ⟨b, off, none⟩) len len] W fun e W' =>
      (e = .returned (.bool true) ∧ J (pre ++ [x]) W' ∧ KP lo n₀ W W') ∨ (e = .returned (.bool false) ∧ Jx (pre ++ [x]) W'))
    (hJd : ∀ pre W, J pre W → J pre W.drew)
    (W : World) (hBs : W.cell? ⟨Bs, 0, none⟩ = some (.slice (some ⟨b, off, none⟩) len cap)) (hBn : W.cell? ⟨Bn, 0, none⟩ = some (.int .i64 20)) (h0 : J [] W) (hBl : Bs < n₀) (hBnl : Bn < n₀) (hlo : lo ≤ Bs) (hlon : lo ≤ Bn) :
    CallsIn Fence.wide n Tryz.prog 368 #[.func (.yield l) #[] #[], .pointer (some ⟨Bs, 0, none⟩), .pointer (some ⟨Bn, 0, none⟩)] W fun e W' => (∃ v, e = .returned v) ∧
      (J [()] W' ∨ Jx [()] W') := by
  have hro : Fence.wide.round = none := rfl
  have mixed : Tryz.prog.follows .mixedOrders = true := by kernel_rfl
  refine callsIn_of_wp Tryz.func368 rfl trivial ?_ hro
  simp only [Tryz.ntmps368, List.size_toArray, List.length_cons, List.length_nil, Nat.reduceAdd, Nat.reduceSub, Array.replicate_succ, Array.replicate_zero, List.push_toArray, List.append_toArray, List.nil_append, List.cons_append]
  gi_wp2
  gi_loopw [4] (fun i wr => (i = .int .i64 0 ∧ J [] wr ∧ KP lo n₀ W wr) ∨ (i = .int .i64 20 ∧ J [()] wr ∧ KP lo n₀ W wr))
    (fun i _ => (20 - intOf i).toNat)
  case atStart => exact .inl ⟨rfl, h0, fun _ _ _ => rfl⟩
  case round =>
    rcases hrel with ⟨rfl, hJs, hnx⟩ | ⟨rfl, hJs, hnx⟩
    · have hBs1 := (hnx.cell hlo hBl).trans hBs
      have hBn1 := (hnx.cell hlon hBnl).trans hBn
      have hmin : min (20 : Int) (len : Int) = (len : Int) := by omega
      gi_wp2
      gi_region
      obtain ⟨fn, tmps, assign, body, hy, hR⟩ := hY [] () wr.drew (hJd _ _ hJs) (by simp)
      gi_wp2
      refine hR.mono ?_
      rintro e W3 (⟨rfl, hJ3, hk3⟩ | ⟨rfl, hJx3⟩)
      · have hBn3 := (hk3.cell hlon hBnl).trans (show wr.drew.cell? ⟨Bn, 0, none⟩ = _ from hBn1)
        gi_wp2
        go_roundw
        case rel => exact .inr ⟨rfl, hJ3, hnx.trans (KP.trans (B := wr.drew) (fun _ _ _ => rfl) hk3)⟩
        case measure => simp [intOf]
      · gi_wp2
        refine bodyPost_ret (results_none rfl _ _ _) rfl ?_
        exact ⟨⟨_, rfl⟩, .inr hJx3⟩
    · have hBs1 := (hnx.cell hlo hBl).trans hBs
      gi_wp2
      go_end0
      exact ⟨⟨_, rfl⟩, .inl hJs⟩

set_option maxHeartbeats 1000000 in
theorem chunk_in (n : Nat) (a : Option Addr) (len cap : Nat) (w : World) :
    CallsIn Fence.wide n Tryz.prog 306 #[.slice a len cap, .int .i64 20] w fun e w' =>
      e = .returned (.func (.func 368) #[] #[.pointer (some ⟨w.heap.size, 0, none⟩), .pointer (some ⟨w.heap.size + 1, 0, none⟩)]) ∧ w' = (w.alloc (.cells #[.slice a len cap] 56)).alloc (.cells #[.int .i64 20] 3) := by
  have hro : Fence.wide.round = none := rfl
  refine callsIn_of_wp Tryz.func306 rfl trivial ?_ hro
  simp only [Tryz.ntmps306, List.size_toArray, List.length_cons, List.length_nil, Nat.reduceAdd, Nat.reduceSub, Array.replicate_succ, Array.replicate_zero, List.push_toArray, List.append_toArray, List.nil_append, List.cons_append]
  gi_wp2
  go_ret
  exact ⟨by simp, rfl⟩

/-- what out holds -/
def OutIs (n₀ Bo : Nat) (xs : List Value) (pre : List Unit) (W : World) : Prop :=
  (pre = [] ∧ Boxed W Bo 81 (.slice none 0 0)) ∨
  (pre.length = 1 ∧ ∃ g1 cap1 cur1 g2 cap2 cur2, Boxed W Bo 81 (.slice (some ⟨g2, 0, none⟩) 1 cap2) ∧
    W.heap[g2]? = some (.cells cur2 56 (0, 0)) ∧ cur2.size = cap2 ∧ 1 ≤ cap2 ∧ cur2.toList.take 1 = [.slice (some ⟨g1, 0, none⟩) xs.length cap1] ∧
    W.heap[g1]? = some (.cells cur1 3 (0, 0)) ∧ cur1.size = cap1 ∧ xs.length ≤ cap1 ∧ cur1.toList.take xs.length = xs ∧ n₀ ≤ g1 ∧ n₀ ≤ g2 ∧ g1 ≠ g2)

theorem chunk_stops (Bs Bn lo n₀ b off len cap : Nat) (h1 : 1 ≤ len) (h20 : len ≤ 20) (hcap : len ≤ cap) (w : World) (hBs : Bs < n₀) (hBn : Bn < n₀) (hlo : lo ≤ Bs) (hlon : lo ≤ Bn) (hn₀ : n₀ ≤ w.heap.size)
    (hc : w.cell? ⟨Bs, 0, none⟩ = some (.slice (some ⟨b, off, none⟩) len cap)) (hc2 : w.cell? ⟨Bn, 0, none⟩ = some (.int .i64 20)) :
    SeqStopsK Fence.wide 3 Tryz.prog 368 #[.pointer (some ⟨Bs, 0, none⟩), .pointer (some ⟨Bn, 0, none⟩)] (fun _ : Unit => #[.slice (some ⟨b, off, none⟩) len len]) (KP lo n₀)
      (fun ys => ys = [()]) (fun ys => ys = [()]) 1 w := fun l J Jx W hW hJ _ hY h0 => by
  refine (chunk1_in 3 (by omega) l Bs Bn lo n₀ b off len cap h1 h20 hcap J Jx hY (fun pre W hp => hJ pre W W.drew none hp ⟨rfl, rfl, rfl, Nat.le_refl _, fun _ _ _ => rfl⟩ (fun r e => by cases e)) W
    ((hW.cell (p := ⟨Bs, 0, none⟩) (by show Bs < _; omega)).trans hc) ((hW.cell (p := ⟨Bn, 0, none⟩) (by show Bn < _; omega)).trans hc2) h0 hBs hBn hlo hlon).mono ?_
  rintro e W' ⟨hv, h | h⟩
  · exact ⟨hv, .inl ⟨_, rfl, h⟩⟩
  · exact ⟨hv, .inr ⟨_, rfl, h⟩⟩

theorem own_out {W : World} {n0 e n : Nat} {v : Value} {xs : List Value} (h : W.ownsRow n0 e 1 v n xs) (hne : v ≠ .slice none 0 0) :
    ∃ g c cur, v = .slice (some ⟨g, 0, none⟩) n c ∧ n0 ≤ g ∧ W.heap[g]? = some (.cells cur e (0, 0)) ∧ n ≤ c ∧ cur.size = c ∧ cur.toList.take n = xs := by
  rcases h.2 with ⟨hv, _⟩ | ⟨g, c, cur, hv, h1, h2, h3, h4, h5, h6⟩
  · exact absurd hv hne
  · exact ⟨g, c, cur, hv, h1, h2, h3, by omega, by rw [← h6, Nat.mul_one]⟩

theorem cell_alloc0 (w : World) (v : Value) (t : TypeId) : (w.alloc (.cells #[v] t)).cell? ⟨w.heap.size, 0, none⟩ = some v := (Boxed.new w t v).cell

theorem step_app {F : Fence} {n : Nat} {ops : Array Oper} {o : Oper} {a : Act} {w : World} {K : Act → World → Prop} {Q : Exit → Act → World → Prop} {E : Prop} (x : Value) {w0 : World} (hw0 : w = w0.alloc (.cells #[x] 56)) (h1c : x.oneCell' = true)
    (hg : o.guard = none) (hop : o.op = Op.call { callee := Callee.builtin Builtin.append, args := #[.tmp 8, .tmp 11], argTypes := #[81, 81] })
    (hs : a.eval (.tmp 8) = .slice none 0 0) (hx : a.eval (.tmp 11) = .slice (some ⟨w0.heap.size, 0, none⟩) 1 1)
    (hK : ∀ v' w', w'.ownsRow w.heap.size 56 1 v' 1 [x] → w.grownBy w' none → v' ≠ .slice none 0 0 → K (a.put o.dst v') w') :
    if Region.wanted o (yielded ops a.tmps) = true then Oper.wpIn F n Tryz.prog o a w K Q else E := by
  have hw : Region.wanted o (yielded ops a.tmps) = true := by simp [Region.wanted, hg]
  rw [if_pos hw]
  obtain ⟨i0, hi, hz0, hz1, hz2⟩ := info_parts (P := Tryz.prog) (e := 56) (z := .slice none 0 0) (size := 1) (bytes := 24) (by kernel_rfl)
  have hm : maxLen = 9223372036854775807 := rfl
  obtain ⟨v', w', hrun, r1, r2, r3⟩ := run_append_own (P := Tryz.prog) w w.heap.size 81 o.type 56 i0 (.slice none 0 0) 1 24 Tryz.underlying81 hi hz0 hz1 hz2 rfl (by decide) (.slice none 0 0) 0 [] (World.ownsRow_nil w _ _ 1) ⟨w0.heap.size, 0, none⟩ 1 1 [x] rfl
    (fun j u h => by
      rcases j with _ | j
      · simp at h; subst h; rw [hw0]; exact cell_alloc0 w0 x _
      · simp at h) (by simpa using h1c) (by omega) (by omega) (Nat.le_refl _)
  unfold Oper.wpIn
  refine ⟨by simp [Oper.about, hop, resolve, Target.leads, Sem.run_pure], ?_⟩
  rw [Oper.semAt_plain F _ _ (by rw [hop]; intro c hc'; cases hc')]
  simp [execOp, hop, resolve, invoke, builtin, hs, hx, hrun, Result.andThen]
  refine hK _ _ r1 r2 (fun e => ?_)
  have := (r3.1 e).2
  cases this

theorem grown_of_below {W w1 : World} (h : Below W.drew.heap.size W.drew w1) : W.grownBy w1 none := ⟨h.os, h.tape, h.output, h.size, fun k hk _ => h.block k hk⟩

set_option maxRecDepth 100000 in
set_option maxHeartbeats 2000000 in
theorem split_in (b off len cap : Nat) (zs : List Int) (h1 : 1 ≤ len) (h20 : len ≤ 20) (hcap : len ≤ cap) (hzl : zs.length = len)
    (w : World) (hz : ∀ j, j < zs.length → w.cell? ⟨b, off + j, none⟩ = some (.int .i64 (zs.getD j 0))) :
    CallsIn Fence.wide 4 Tryz.prog 213 #[.slice (some ⟨b, off, none⟩) len cap] w fun e W' =>
      ∃ g1 cap1 cur1 g2 cap2 cur2, e = .returned (.slice (some ⟨g2, 0, none⟩) 1 cap2) ∧
        W'.heap[g2]? = some (.cells cur2 56 (0, 0)) ∧ cur2.size = cap2 ∧ 1 ≤ cap2 ∧ cur2.toList.take 1 = [.slice (some ⟨g1, 0, none⟩) len cap1] ∧
        W'.heap[g1]? = some (.cells cur1 3 (0, 0)) ∧ cur1.size = cap1 ∧ len ≤ cap1 ∧ cur1.toList.take len = zs.map (.int .i64) ∧ w.heap.size ≤ g1 ∧ w.heap.size ≤ g2 ∧ g1 ≠ g2 ∧ Below w.heap.size w W' := by
  have hro : Fence.wide.round = none := rfl
  have mixed : Tryz.prog.follows .mixedOrders = true := by kernel_rfl
  have h213 : Fence.wide.fn 306 := trivial
  have h271 : Fence.wide.fn 368 := trivial
  have hbw : b < w.heap.size := by
    obtain ⟨o, ho, _⟩ := cells_of_cell (hz 0 (by omega))
    exact (Array.getElem?_eq_some_iff.1 ho).1
  refine callsIn_of_wp_marks Tryz.func213 rfl trivial ?_ hro
  simp only [Tryz.ntmps213, List.size_toArray, List.length_cons, List.length_nil, Nat.reduceAdd, Nat.reduceSub, Array.replicate_succ, Array.replicate_zero, List.push_toArray, List.append_toArray, List.nil_append, List.cons_append]
  gi_wp2_with (gi_at_call 306; refine (chunk_in 3 _ _ _ _).mono ?_; rintro e w' ⟨rfl, rfl⟩)
  have b3 := Boxed.new w 81 (.slice none 0 0)
  have b4 := Boxed.new (w.alloc (.cells #[.slice none 0 0] 81)) 56 (.slice (some ⟨b, off, none⟩) len cap)
  have b5 := Boxed.new ((w.alloc (.cells #[.slice none 0 0] 81)).alloc (.cells #[.slice (some ⟨b, off, none⟩) len cap] 56)) 3 (.int .i64 20)
  rw [World.size_alloc] at b4
  rw [World.size_alloc, World.size_alloc] at b5
  obtain ⟨W0, hW0⟩ : ∃ W0, ((w.alloc (.cells #[.slice none 0 0] 81)).alloc (.cells #[.slice (some ⟨b, off, none⟩) len cap] 56)).alloc (.cells #[.int .i64 20] 3) = W0 := ⟨_, rfl⟩
  have hB0 : Below w.heap.size w W0 := by
    rw [← hW0]; exact (((Below.refl _ w).alloc (Nat.le_refl _) _).alloc (by simp) _).alloc (by simp; omega) _
  have c3 : Boxed W0 w.heap.size 81 (.slice none 0 0) := by rw [← hW0]; exact (b3.alloc _).alloc _
  have c4 : Boxed W0 (w.heap.size + 1) 56 (.slice (some ⟨b, off, none⟩) len cap) := by rw [← hW0]; exact b4.alloc _
  have c5 : Boxed W0 (w.heap.size + 1 + 1) 3 (.int .i64 20) := by rw [← hW0]; exact b5
  have hsz : W0.heap.size = w.heap.size + 3 := by rw [← hW0]; simp
  rw [hW0]
  refine wpIn_rangeFunc_ownH hro (by omega) (gf := 368) (lb := #[.pointer (some ⟨w.heap.size + 1, 0, none⟩), .pointer (some ⟨w.heap.size + 1 + 1, 0, none⟩)]) rfl h271 (enters_of Tryz.func368 (by kernel_rfl) rfl)
    (chunk_stops (w.heap.size + 1) (w.heap.size + 1 + 1) (w.heap.size + 1) (w.heap.size + 3) b off len cap h1 h20 hcap W0 (by omega) (by omega) (by omega) (by omega) (by omega) c4.cell c5.cell) KP.trans (KP.put (by omega)) (Below.refl _ _) (fun _ => rfl)
    (fun pre W => (OutIs w.heap.size w.heap.size (zs.map (.int .i64)) pre W ∧ w.heap.size + 3 ≤ W.heap.size) ∧ Below w.heap.size w W)
    (fun _ _ _ => False)
    ?ownI ?ownIx ⟨⟨.inl ⟨rfl, c3⟩, by omega⟩, hB0⟩
    (fun x a' _ => a' = { tmps := #[.slice (some ⟨b, off, none⟩) len cap, undef, .slice none 0 0,   .pointer (some ⟨w.heap.size, 0, none⟩), .slice (some ⟨b, off, none⟩) len len, .slice (some ⟨b, off, none⟩) len cap,
        .func (.func 368) #[] #[.pointer (some ⟨w.heap.size + 1, 0, none⟩), .pointer (some ⟨w.heap.size + 1 + 1, 0, none⟩)], .slice (some ⟨b, off, none⟩) len len, undef, undef, undef, undef, undef, undef], defers := [] })
    ?ownA ?assign ?body ?done ?stop
  case ownI =>
    refine OwnFrom.and (Own.from (fun s A B row hs hg hr => ?_) _) (ownFrom_below (Nat.le_refl _) (by omega))
    have kb : ∀ {k : Nat} {o : Obj}, A.heap[k]? = some o → o.isCells = true → B.heap[k]? = some o := fun h1 h2 => (grownBy_keeps_cells hg hr h1 h2).trans h1
    refine ⟨?_, Nat.le_trans hs.2 hg.size⟩
    rcases hs.1 with ⟨h, hb⟩ | ⟨h, g1, cap1, cur1, g2, cap2, cur2, hbx, q1, q2, q3, q4, q5, q6⟩
    · exact .inl ⟨h, kb hb rfl⟩
    · exact .inr ⟨h, g1, cap1, cur1, g2, cap2, cur2, kb hbx rfl, kb q1 rfl, q2, q3, q4, kb q5 rfl, q6⟩
  case ownIx => exact fun c => fun _ _ _ _ h _ _ => h.elim
  case ownA => exact fun x a' => fun _ _ _ _ h _ _ => h
  case assign =>
    rintro l pre x W K hI hK
    gi_wp2
    exact hK _ _ (KeepsFrom.refl _ _) (fun _ _ _ => rfl) hI rfl
  case body =>
    rintro l pre x a' W hl hr ⟨⟨hp, hsW⟩, hB⟩ rfl hlen
    obtain rfl : pre = [] := List.eq_nil_of_length_eq_zero (by omega)
    have hbox : Boxed W w.heap.size 81 (.slice none 0 0) := by
      rcases hp with ⟨_, h⟩ | ⟨h, _⟩
      · exact h
      · cases h
    have hzW : ∀ j, j < zs.length → W.cell? ⟨b, off + j, none⟩ = some (.int .i64 (zs.getD j 0)) := fun j hj => (hB.cell (p := ⟨b, off + j, none⟩) hbw).trans (hz j hj)
    have hcl := Any.slices_Clone_int Tryz.cloneA b off len len zs W.drew (by omega) (by omega) hzW
    have h60 : Fence.wide.fn 121 := trivial
    have e4 := hbox.cell
    have e5 := hbox.frozen
    gi_wp2
    refine wpIn_region_any mixed ?_
    change wpAnyIn _ _ _ _ _ _ _ _ _ W.drew
    have f4 : W.drew.cell? ⟨w.heap.size, 0, none⟩ = some (.slice none 0 0) := e4
    have f5 : W.drew.frozen? ⟨w.heap.size, 0, none⟩ = false := e5
    clear e4 e5
    repeat' (first
      | (refine wpAnyIn_done (by decide +kernel) ?_ _)
      | (refine wpAnyIn_ready (rs := [0, 1]) (by decide +kernel) (by simp) ?_)
      | (refine wpAnyIn_ready (rs := [0, 2]) (by decide +kernel) (by simp) ?_)
      | (refine wpAnyIn_ready (rs := [0, 3]) (by decide +kernel) (by simp) ?_)
      | (refine wpAnyIn_ready (rs := [0]) (by decide +kernel) (by simp) ?_)
      | (refine wpAnyIn_ready (rs := [1]) (by decide +kernel) (by simp) ?_)
      | (refine wpAnyIn_ready (rs := [2]) (by decide +kernel) (by simp) ?_)
      | (refine wpAnyIn_ready (rs := [3]) (by decide +kernel) (by simp) ?_)
      | (refine wpAnyIn_ready (rs := [4]) (by decide +kernel) (by simp) ?_)
      | (refine wpAnyIn_ready (rs := [5]) (by decide +kernel) (by simp) ?_)
      | exact AllReadyIn.nil
      | (refine AllReadyIn.cons rfl (fun K hK => ?_) ?_)
      | (refine step_app _ rfl rfl rfl rfl rfl rfl (fun v' w2 hown2 hgr2 hne2 => ?_); obtain ⟨g2, c2, cur2, rfl, hg2, hg2c, hn2, hcs2, htk2⟩ := own_out hown2 hne2; have G2 := (G1.trans (World.grownBy_alloc _ _ none)).trans hgr2; have e8 := (hbox.kept G2 (by simp)).cell; have e9 := (hbox.kept G2 (by simp)).frozen; refine hK _ _ ?_; clear hK K)
      | (go_simp; refine hK _ _ ?_; clear hK K)
      | (go_simp; gi_at_call 121; refine (CallsIn.inRound l (callsIn_wide.2 hcl)).mono ?_; rintro e w' ⟨v', rfl, hown, hne, hbel⟩; obtain ⟨g1, c1, cur1, rfl, hg1, hgc, hnc, hcs, htk⟩ := own_out hown hne; have G1 := grown_of_below hbel; have e6 := (hbox.kept G1 (by simp)).cell; have e7 := (hbox.kept G1 (by simp)).frozen; have e6b := (fun o => ((hbox.kept G1 (by simp)).alloc o).cell : ∀ o, (w'.alloc o).cell? ⟨w.heap.size, 0, none⟩ = some (.slice none 0 0)); dsimp only; refine hK _ _ ?_; clear hK K))
    all_goals gi_wp2
    all_goals
      have Hb := hbox.kept G2 (by simp)
      have hS2 := grownBy_setCell' w2 w.heap.size (.slice (some ⟨g2, 0, none⟩) 1 c2)
      have hgW : W.heap.size ≤ g1 := hg1
      have hg1lt : g1 < w'.heap.size := (Array.getElem?_eq_some_iff.1 hgc).1
      have hg2' : w'.heap.size + 1 ≤ g2 := by rw [World.size_alloc] at hg2; exact hg2
      have hw1 : W.heap.size ≤ w'.heap.size := hbel.size
      have k1 : w2.heap[g1]? = some (.cells cur1 3 (0, 0)) := by
        rw [hgr2.block g1 (by rw [World.size_alloc]; omega) (by simp), Below.heap_alloc _ _ g1 hg1lt]; exact hgc
      refine ⟨((KeepsOthers.of_grownBy G2 (fun j o e => by cases e)).trans (KeepsOthers.setCell _ _ _)).from _, fun k hk1 hk2 => (hS2.block k (by have := G2.size; omega) (by simp; omega)).trans (G2.block k (by omega) (by simp)),
        ⟨.inr ⟨rfl, g1, c1, cur1, g2, c2, cur2, Hb.set _, (hS2.block g2 (Array.getElem?_eq_some_iff.1 hg2c).1 (by simp; omega)).trans hg2c, hcs2, hn2, ?_, (hS2.block g1 (Array.getElem?_eq_some_iff.1 k1).1 (by simp; omega)).trans k1, hcs, ?_, ?_, by omega, by omega, by omega⟩, ?_⟩, ?_⟩
      · rw [List.length_map, hzl]; exact htk2
      · rw [List.length_map, hzl]; exact hnc
      · rw [List.length_map, hzl, htk, List.take_of_length_le (by omega)]
      · have := G2.size; have := hS2.size; omega
      · exact (hB.grown G2 (by omega) (fun k e => by cases e)).setCell (p := ⟨w.heap.size, 0, none⟩) (Nat.le_refl _) _
  case done =>
    rintro D ys W hD rfl ⟨⟨hp, hsW⟩, hB⟩ hK
    rcases hp with ⟨h, _⟩ | ⟨_, g1, cap1, cur1, g2, cap2, cur2, hbx, q1, q2, q3, q4, q5, q6, q7, q8, q9, q10, q11⟩
    · cases h
    · have e4 := hbx.cell
      have e5 := hbx.frozen
      gi_wp2
      refine ⟨by simp, .inl ⟨_, _, rfl, run_takeDeferred hK, ?_⟩⟩
      have kp : ∀ {k : Nat} {o : Obj}, W.heap[k]? = some o → o.isCells = true → (W.putObj D (.deferred none)).heap[k]? = some o := fun {k o} h1 h2 =>
        (grownBy_keeps_cells (grownBy_putObj' W D (.deferred none)) (fun r e => by cases e; exact ⟨_, hK, rfl⟩) h1 h2).trans h1
      rw [List.length_map, hzl] at q4 q7 q8
      exact ⟨_, results_tmp rfl _ _ _, g1, cap1, cur1, g2, cap2, cur2, rfl, kp q1 rfl, q2, q3, q4, kp q5 rfl, q6, q7, q8, q9, q10, q11, hB.trans (belowK_b (w := w) (Nat.le_refl _) W D _ _ (by omega) hK rfl rfl)⟩
  case stop =>
    rintro D c pre W hD hpre h
    exact h.elim

set_option maxRecDepth 100000 in
set_option maxHeartbeats 2000000 in
/-- the iterator, where there is no part -/
theorem chunk0_in (n : Nat) (l Bs Bn cap : Nat) (a : Option Addr) (J : List Unit → World → Prop) (W : World) (hBs : W.cell? ⟨Bs, 0, none⟩ = some (.slice a 0 cap)) (h0 : J [] W) :
    CallsIn Fence.wide n Tryz.prog 368 #[.func (.yield l) #[] #[], .pointer (some ⟨Bs, 0, none⟩), .pointer (some ⟨Bn, 0, none⟩)] W fun e W' => (∃ v, e = .returned v) ∧ J [] W' := by
  have hro : Fence.wide.round = none := rfl
  have mixed : Tryz.prog.follows .mixedOrders = true := by kernel_rfl
  refine callsIn_of_wp Tryz.func368 rfl trivial ?_ hro
  simp only [Tryz.ntmps368, List.size_toArray, List.length_cons, List.length_nil, Nat.reduceAdd, Nat.reduceSub, Array.replicate_succ, Array.replicate_zero, List.push_toArray, List.append_toArray, List.nil_append, List.cons_append]
  gi_wp2
  gi_loopw [4] (fun i wr => i = .int .i64 0 ∧ J [] wr ∧ wr.cell? ⟨Bs, 0, none⟩ = some (.slice a 0 cap)) (fun _ _ => 0)
  case atStart => exact ⟨rfl, h0, hBs⟩
  case round =>
    obtain ⟨rfl, hJs, hBs1⟩ := hrel
    gi_wp2
    go_end0
    exact ⟨⟨_, rfl⟩, hJs⟩

theorem chunk0_stops (Bs Bn cap : Nat) (a : Option Addr) (w : World) (hBs : Bs < w.heap.size) (hc : w.cell? ⟨Bs, 0, none⟩ = some (.slice a 0 cap)) :
    SeqStopsK Fence.wide 3 Tryz.prog 368 #[.pointer (some ⟨Bs, 0, none⟩), .pointer (some ⟨Bn, 0, none⟩)] (fun _ : Unit => #[.slice none 0 0]) (KP 0 0)
      (fun ys => ys = []) (fun _ => False) 0 w := fun l J Jx W hW hJ _ hY h0 => by
  refine (chunk0_in 3 l Bs Bn cap a J W ((hW.cell (p := ⟨Bs, 0, none⟩) (by show Bs < _; omega)).trans hc) h0).mono ?_
  rintro e W' ⟨hv, h⟩
  exact ⟨hv, .inl ⟨_, rfl, h⟩⟩

set_option maxRecDepth 100000 in
set_option maxHeartbeats 2000000 in
theorem split0_in (a : Option Addr) (cap : Nat) (w : World) :
    CallsIn Fence.wide 4 Tryz.prog 213 #[.slice a 0 cap] w fun e W' => e = .returned (.slice none 0 0) ∧ Below w.heap.size w W' := by
  have hro : Fence.wide.round = none := rfl
  have h213 : Fence.wide.fn 306 := trivial
  have h271 : Fence.wide.fn 368 := trivial
  refine callsIn_of_wp_marks Tryz.func213 rfl trivial ?_ hro
  simp only [Tryz.ntmps213, List.size_toArray, List.length_cons, List.length_nil, Nat.reduceAdd, Nat.reduceSub, Array.replicate_succ, Array.replicate_zero, List.push_toArray, List.append_toArray, List.nil_append, List.cons_append]
  gi_wp2_with (gi_at_call 306; refine (chunk_in 3 _ _ _ _).mono ?_; rintro e w' ⟨rfl, rfl⟩)
  have b3 := Boxed.new w 81 (.slice none 0 0)
  have b4 := Boxed.new (w.alloc (.cells #[.slice none 0 0] 81)) 56 (.slice a 0 cap)
  rw [World.size_alloc] at b4
  obtain ⟨W0, hW0⟩ : ∃ W0, ((w.alloc (.cells #[.slice none 0 0] 81)).alloc (.cells #[.slice a 0 cap] 56)).alloc (.cells #[.int .i64 20] 3) = W0 := ⟨_, rfl⟩
  have hB0 : Below w.heap.size w W0 := by
    rw [← hW0]; exact (((Below.refl _ w).alloc (Nat.le_refl _) _).alloc (by simp) _).alloc (by simp; omega) _
  have c3 : Boxed W0 w.heap.size 81 (.slice none 0 0) := by rw [← hW0]; exact (b3.alloc _).alloc _
  have c4 : Boxed W0 (w.heap.size + 1) 56 (.slice a 0 cap) := by rw [← hW0]; exact b4.alloc _
  have hsz : W0.heap.size = w.heap.size + 3 := by rw [← hW0]; simp
  rw [hW0]
  refine wpIn_rangeFunc_ownH hro (by omega) (gf := 368) (lb := #[.pointer (some ⟨w.heap.size + 1, 0, none⟩), .pointer (some ⟨w.heap.size + 1 + 1, 0, none⟩)]) rfl h271 (enters_of Tryz.func368 (by kernel_rfl) rfl)
    (chunk0_stops (w.heap.size + 1) (w.heap.size + 1 + 1) cap a W0 (by omega) c4.cell) KP.trans (KP.put (by omega)) (Below.refl _ _) (fun _ => rfl)
    (fun pre W => (Boxed W w.heap.size 81 (.slice none 0 0) ∧ w.heap.size + 3 ≤ W.heap.size) ∧ Below w.heap.size w W)
    (fun _ _ _ => False)
    ?ownI ?ownIx ⟨⟨c3, by omega⟩, hB0⟩
    (fun x a' _ => True)
    ?ownA ?assign ?body ?done ?stop
  case ownI =>
    refine OwnFrom.and (Own.from (fun s A B row hs hg hr => ?_) _) (ownFrom_below (Nat.le_refl _) (by omega))
    exact ⟨(grownBy_keeps_cells hg hr hs.1 rfl).trans hs.1, Nat.le_trans hs.2 hg.size⟩
  case ownIx => exact fun c => fun _ _ _ _ h _ _ => h.elim
  case ownA => exact fun x a' => fun _ _ _ _ h _ _ => h
  case assign =>
    rintro l pre x W K hI hK
    gi_wp2
    exact hK _ _ (KeepsFrom.refl _ _) (fun _ _ _ => rfl) hI trivial
  case body =>
    rintro l pre x a' W hl hr _ _ hlen
    omega
  case done =>
    rintro D ys W hD rfl ⟨⟨hbx, hsW⟩, hB⟩ hK
    have e4 := hbx.cell
    have e5 := hbx.frozen
    gi_wp2
    refine ⟨by simp, .inl ⟨_, _, rfl, run_takeDeferred hK, ?_⟩⟩
    exact ⟨_, results_tmp rfl _ _ _, rfl, hB.trans (belowK_b (w := w) (Nat.le_refl _) W D _ _ (by omega) hK rfl rfl)⟩
  case stop =>
    rintro D c pre W hD hpre h
    exact h.elim

theorem split_law : Go.AM.SplitLaw Tryz.prog 213 3 56 :=
  ⟨fun a cap w => callsIn_wide.1 (split0_in a cap w), fun b off len cap zs w h1 h2 h3 h4 h5 => callsIn_wide.1 (split_in b off len cap zs h1 h2 h3 h4 w h5)⟩
end Go.Proofs.YtpmolggmafgeeaaGreatDoor
