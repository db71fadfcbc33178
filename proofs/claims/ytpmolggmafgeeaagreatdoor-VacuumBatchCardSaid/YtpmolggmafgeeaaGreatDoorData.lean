/- The iterator over what waits on a disk (slices.Backward), and disk.data, over the program. -/
import Derived.RangeFuncNested
import Derived.RangeFuncBox
import Derived.RangeFuncLeaves
import Derived.Shelf.Abstract
import Derived.WalkKit
import Derived.OwnWalkIn
import Derived.TacticsInMore
import Derived.LoopNIn
import Derived.LoopIn
import Derived.StillTailTactics
import Derived.Test.YtpmolggmafgeeaaGreatDoorAmCode
import Derived.Test.YtpmolggmafgeeaaGreatDoorProg
namespace Go.Proofs.YtpmolggmafgeeaaGreatDoor
open Go.RowKit Go.Shelf
open Go.AM (Waits)

attribute [local go_sem] Oper.semAt_some

def dupto {α : Type} (f : Nat → α) (k : Nat) : List α := (List.range k).map f
theorem dupto_succ {α : Type} (f : Nat → α) (k : Nat) : dupto f (k + 1) = dupto f k ++ [f k] := by simp [dupto, List.range_succ]
theorem dupto_length {α : Type} (f : Nat → α) (k : Nat) : (dupto f k).length = k := by simp [dupto]

/-- what comes: the writes from the last one on -/
abbrev Wr := Int × (Int × ByteArray)
def wrAt (zs : List (Int × ByteArray)) (k : Nat) : Wr := ((zs.length : Int) - 1 - (k : Int), zs[zs.length - 1 - k]?.getD (0, ByteArray.empty))
def wrEnc (x : Wr) : Array Value := #[.int .i64 x.1, .agg #[.int .i64 x.2.1, .string x.2.2]]

set_option maxRecDepth 100000 in
set_option maxHeartbeats 2000000 in
theorem back1_in (F : Fence) (n : Nat) (h7 : F.fn 122) (hro : F.round = none) (hn : 1 ≤ n) (l Bs n₀ b off cap : Nat) (zs : List (Int × ByteArray)) (hreach : zs.length ≤ 1048576) (hb : b < n₀) (J Jx : List Wr → World → Prop)
    (hY : ∀ pre x W, J pre W → pre.length < zs.length → YieldAt F (n - 1) Tryz.prog l (wrEnc x) W fun e W' =>
      (e = .returned (.bool true) ∧ J (pre ++ [x]) W' ∧ Below n₀ W W') ∨ (e = .returned (.bool false) ∧ Jx (pre ++ [x]) W'))
    (W : World) (hBs : W.cell? ⟨Bs, 0, none⟩ = some (.slice (some ⟨b, off, none⟩) zs.length cap))
    (hc : ∀ (j : Nat) z, zs[j]? = some z → W.cell? ⟨b, off + j * 2, none⟩ = some (.int .i64 z.1) ∧ W.cell? ⟨b, off + j * 2 + 1, none⟩ = some (.string z.2)) (h0 : J [] W) (hBl : Bs < n₀):
    CallsIn F n Tryz.prog 122 #[.func (.yield l) #[] #[], .pointer (some ⟨Bs, 0, none⟩)] W fun e W' => (∃ v, e = .returned v) ∧
      ((∃ ys, ys = dupto (wrAt zs) zs.length ∧ J ys W') ∨ (∃ pre, (∃ k, k ≤ zs.length ∧ pre = dupto (wrAt zs) k) ∧ Jx pre W')) := by
  refine callsIn_of_wp Tryz.func122 rfl h7 ?_ hro
  simp only [Tryz.ntmps122, List.size_toArray, List.length_cons, List.length_nil, Nat.reduceAdd, Nat.reduceSub, Array.replicate_succ, Array.replicate_zero, List.push_toArray, List.append_toArray, List.nil_append, List.cons_append]
  gi_wp2
  gi_loopw [3] (fun i wr => ∃ k : Nat, k ≤ zs.length ∧ i = .int .i64 ((zs.length : Int) - 1 - (k : Int)) ∧ J (dupto (wrAt zs) k) wr ∧ Below n₀ W wr)
    (fun i _ => ((intOf i) + 1).toNat)
  case atStart => exact ⟨0, Nat.zero_le _, by simp, h0, Below.refl _ _⟩
  case round =>
    obtain ⟨k, hk, rfl, hJs, hnx⟩ := hrel
    by_cases hlt : k < zs.length
    · obtain ⟨z, hz⟩ : ∃ z, zs[zs.length - 1 - k]? = some z := ⟨_, List.getElem?_eq_getElem (by omega)⟩
      have hcs := hc _ z hz
      have hc1 := (hnx.cell (p := ⟨b, off + (zs.length - 1 - k) * 2, none⟩) hb).trans hcs.1
      have hc2 := (hnx.cell (p := ⟨b, off + (zs.length - 1 - k) * 2 + 1, none⟩) hb).trans hcs.2
      have hBw := (hnx.cell (p := ⟨Bs, 0, none⟩) hBl).trans hBs
      obtain ⟨fn, tmps, assign, body, hy, hR⟩ := hY _ (wrAt zs k) wr hJs (by rw [dupto_length]; exact hlt)
      simp only [wrEnc, wrAt, hz, Option.getD_some] at hy
      gi_wp2
      refine hR.mono ?_
      rintro e W3 (⟨rfl, hJ3, hk3⟩ | ⟨rfl, hJx3⟩)
      · gi_wp2
        go_roundw
        case rel => exact ⟨k + 1, by omega, by simp; omega, by rw [dupto_succ]; exact hJ3, hnx.trans hk3⟩
        case measure => simp [intOf]; omega
      · gi_wp2
        refine bodyPost_ret (results_none rfl _ _ _) rfl ?_
        exact ⟨⟨_, rfl⟩, .inr ⟨_, ⟨k + 1, by omega, (dupto_succ _ _).symm⟩, hJx3⟩⟩
    · obtain rfl : k = zs.length := by omega
      gi_wp2
      go_end0
      exact ⟨⟨_, rfl⟩, .inl ⟨_, rfl, hJs⟩⟩

set_option maxRecDepth 100000 in
set_option maxHeartbeats 1000000 in
theorem back1_nil_in (F : Fence) (n : Nat) (h7 : F.fn 122) (hro : F.round = none) (l Bs : Nat) (J : List Wr → World → Prop) (W : World) (hBs : W.cell? ⟨Bs, 0, none⟩ = some (.slice none 0 0)) (h0 : J [] W) :
    CallsIn F n Tryz.prog 122 #[.func (.yield l) #[] #[], .pointer (some ⟨Bs, 0, none⟩)] W fun e W' => (∃ v, e = .returned v) ∧ J [] W' := by
  refine callsIn_of_wp Tryz.func122 rfl h7 ?_ hro
  simp only [Tryz.ntmps122, List.size_toArray, List.length_cons, List.length_nil, Nat.reduceAdd, Nat.reduceSub, Array.replicate_succ, Array.replicate_zero, List.push_toArray, List.append_toArray, List.nil_append, List.cons_append]
  gi_wp2
  gi_loopw [3] (fun i wr => i = .int .i64 (-1) ∧ J [] wr) (fun _ _ => 0)
  case atStart => exact ⟨rfl, h0⟩
  case round =>
    obtain ⟨rfl, hJs⟩ := hrel
    gi_wp2
    go_end0
    exact ⟨⟨_, rfl⟩, hJs⟩

set_option maxHeartbeats 1000000 in
theorem back_in (F : Fence) (n : Nat) (h5 : F.fn 58) (hro : F.round = none) (a : Option Addr) (len cap : Nat) (w : World) :
    CallsIn F n Tryz.prog 58 #[.slice a len cap] w fun e w' => e = .returned (.func (.func 122) #[] #[.pointer (some ⟨w.heap.size, 0, none⟩)]) ∧ w' = w.alloc (.cells #[.slice a len cap] 65) := by
  refine callsIn_of_wp Tryz.func58 rfl h5 ?_ hro
  simp only [Tryz.ntmps58, List.size_toArray, List.length_cons, List.length_nil, Nat.reduceAdd, Nat.reduceSub, Array.replicate_succ, Array.replicate_zero, List.push_toArray, List.append_toArray, List.nil_append, List.cons_append]
  gi_wp2
  go_ret
  exact ⟨rfl, rfl⟩

theorem _root_.Go.AM.Waits.below {n₀ : Nat} {A B : World} (h : Below n₀ A B) {sv : Value} {zs : List (Int × ByteArray)} : Waits n₀ A sv zs → Waits n₀ B sv zs
  | .inl e => .inl e
  | .inr ⟨b, off, cap, e, hb, hc⟩ => .inr ⟨b, off, cap, e, hb, fun j z hj => ⟨(h.cell (p := ⟨b, off + j * 2, none⟩) hb).trans (hc j z hj).1, (h.cell (p := ⟨b, off + j * 2 + 1, none⟩) hb).trans (hc j z hj).2⟩⟩
theorem back_stops (F : Fence) (n : Nat) (h7 : F.fn 122) (hro : F.round = none) (hn : 1 ≤ n) (Bs n₀ : Nat) (sv : Value) (zs : List (Int × ByteArray)) (hreach : zs.length ≤ 1048576) (w : World) (hBs : Bs < n₀) (hn₀ : n₀ ≤ w.heap.size)
    (hc : w.cell? ⟨Bs, 0, none⟩ = some sv) (hI : Waits n₀ w sv zs) :
    SeqStopsK F n Tryz.prog 122 #[.pointer (some ⟨Bs, 0, none⟩)] wrEnc (Below n₀) (fun ys => ys = dupto (wrAt zs) zs.length)
      (fun pre => ∃ k, k ≤ zs.length ∧ pre = dupto (wrAt zs) k) zs.length w := fun l J Jx W hW _ _ hY h0 => by
  have hc' := (hW.cell (p := ⟨Bs, 0, none⟩) (by show Bs < _; omega)).trans hc
  rcases hI.below (hW.mono hn₀) with ⟨rfl, rfl⟩ | ⟨b, off, cap, rfl, hb, hcs⟩
  · exact (back1_nil_in F n h7 hro l Bs J W hc' h0).mono fun e W' ⟨he, hj⟩ => ⟨he, .inl ⟨_, rfl, hj⟩⟩
  · exact back1_in F n h7 hro hn l Bs n₀ b off cap zs hreach hb J Jx hY W hc' hcs h0 hBs

set_option maxRecDepth 100000 in
set_option maxHeartbeats 2000000 in
/-- disk.data: of what waits the last one of the page; else what is stable -/
theorem data_in (db doff : Nat) (at_ : Int) (a : Option Addr) (len cap : Nat) (zs : List (Int × ByteArray)) (d : ByteArray) (hreach : zs.length ≤ 1048576)
    (w : World) (hd1 : w.cell? ⟨db, doff + 1, none⟩ = some (.slice a len cap)) (hI : Waits w.heap.size w (.slice a len cap) zs)
    (hres : (∃ (k : Nat) (z : Int × ByteArray), zs[k]? = some z ∧ z.1 = at_ ∧ z.2 = d ∧ ∀ (j : Nat) z', k < j → zs[j]? = some z' → z'.1 ≠ at_) ∨
      ((∀ (j : Nat) z, zs[j]? = some z → z.1 ≠ at_) ∧ ∃ (sb so sl sc k : Nat), w.cell? ⟨db, doff, none⟩ = some (.slice (some ⟨sb, so, none⟩) sl sc) ∧ at_ = (k : Int) ∧ k < sl ∧ sl ≤ 1048576 ∧ w.cell? ⟨sb, so + k, none⟩ = some (.string d))) :
    CallsIn Fence.wide 3 Tryz.prog 21 #[.pointer (some ⟨db, doff, none⟩), .int .i64 at_] w fun e W' => e = .returned (.string d) ∧ Below w.heap.size w W' := by
  have h111 : Fence.wide.fn 58 := trivial
  have h133 : Fence.wide.fn 122 := trivial
  have hro : Fence.wide.round = none := rfl
  have hdb : db < w.heap.size := by
    obtain ⟨o, ho, _⟩ := cells_of_cell hd1
    exact (Array.getElem?_eq_some_iff.1 ho).1
  refine callsIn_of_wp_marks Tryz.func21 rfl trivial ?_ hro
  simp only [Tryz.ntmps21, List.size_toArray, List.length_cons, List.length_nil, Nat.reduceAdd, Nat.reduceSub, Array.replicate_succ, Array.replicate_zero, List.push_toArray, List.append_toArray, List.nil_append, List.cons_append]
  gi_wp2_with (gi_at_call 58; refine (back_in Fence.wide 2 h111 hro _ _ _ _).mono ?_; rintro e w' ⟨rfl, rfl⟩)
  have b3 := Boxed.new w 3 (.int .i64 at_)
  have b4 := Boxed.new (w.alloc (.cells #[.int .i64 at_] 3)) 9 (.string ByteArray.empty)
  have b5 := Boxed.new ((w.alloc (.cells #[.int .i64 at_] 3)).alloc (.cells #[.string ByteArray.empty] 9)) 65 (.slice a len cap)
  rw [World.size_alloc] at b4
  rw [World.size_alloc, World.size_alloc] at b5
  obtain ⟨W0, hW0⟩ : ∃ W0, ((w.alloc (.cells #[.int .i64 at_] 3)).alloc (.cells #[.string ByteArray.empty] 9)).alloc (.cells #[.slice a len cap] 65) = W0 := ⟨_, rfl⟩
  have hB0 : Below w.heap.size w W0 := by
    rw [← hW0]; exact (((Below.refl _ w).alloc (Nat.le_refl _) _).alloc (by simp) _).alloc (by simp; omega) _
  have c3 : Boxed W0 w.heap.size 3 (.int .i64 at_) := by rw [← hW0]; exact (b3.alloc _).alloc _
  have c4 : Boxed W0 (w.heap.size + 1) 9 (.string ByteArray.empty) := by rw [← hW0]; exact b4.alloc _
  have c5 : Boxed W0 (w.heap.size + 1 + 1) 65 (.slice a len cap) := by rw [← hW0]; exact b5
  have hsz : W0.heap.size = w.heap.size + 3 := by rw [← hW0]; simp
  rw [show (Value.string { data := #[] }) = .string ByteArray.empty from rfl, hW0]
  have hI0 : Waits (w.heap.size + 3) W0 (.slice a len cap) zs := by
    rcases hI.below hB0 with h | ⟨b, off, cap', e, hb, hc⟩
    · exact .inl h
    · exact .inr ⟨b, off, cap', e, by omega, hc⟩
  refine wpIn_rangeFunc_ownH hro (by omega) (gf := 122) (lb := #[.pointer (some ⟨w.heap.size + 1 + 1, 0, none⟩)]) rfl h133 (enters_of Tryz.func122 (by kernel_rfl) rfl)
    (back_stops Fence.wide 2 h133 hro (by omega) (w.heap.size + 1 + 1) (w.heap.size + 3) _ zs hreach W0 (by omega) (by omega) c5.cell hI0) belowK_t (belowK_b (by omega)) (Below.refl _ _) (fun _ => rfl)
    (fun pre W => ((∀ p ∈ pre, p.2.1 ≠ at_) ∧ Boxed W w.heap.size 3 (.int .i64 at_) ∧ Boxed W (w.heap.size + 1) 9 (.string ByteArray.empty) ∧ w.heap.size + 3 ≤ W.heap.size) ∧ Below w.heap.size w W)
    (fun c pre W => (c = .ret ∧ ∃ ini last, pre = ini ++ [last] ∧ (∀ p ∈ ini, p.2.1 ≠ at_) ∧ last.2.1 = at_ ∧ Boxed W (w.heap.size + 1) 9 (.string last.2.2)) ∧ Below w.heap.size w W)
    ?ownI ?ownIx ⟨⟨by simp, c3, c4, by omega⟩, hB0⟩
    (fun x a' W => ∃ B, W.heap[B]? = some (.cells #[.int .i64 x.2.1, .string x.2.2] 103 (0, 0)) ∧ w.heap.size + 3 ≤ B ∧
      a' = { tmps := #[.pointer (some ⟨db, doff, none⟩), .int .i64 at_, undef, .pointer (some ⟨w.heap.size, 0, none⟩), .pointer (some ⟨w.heap.size + 1, 0, none⟩), undef, .pointer (some ⟨B, 0, none⟩),
        .pointer (some ⟨db, doff, none⟩), .pointer (some ⟨db, doff, none⟩), .pointer (some ⟨db, doff + 1, none⟩), .slice a len cap, .func (.func 122) #[] #[.pointer (some ⟨w.heap.size + 1 + 1, 0, none⟩)], .int .i64 x.1, .agg #[.int .i64 x.2.1, .string x.2.2],
        undef, undef, undef, undef, undef, undef, undef, undef, undef, undef, undef, undef, undef], defers := [] })
    ?ownA ?assign ?body ?done ?stop
  case ownI =>
    exact OwnFrom.and (Own.from (fun s A B row hs hg hr => ⟨hs.1, hs.2.1.kept hg (fun e => by obtain ⟨o, ho, hc⟩ := hr _ e.symm; rw [show A.heap[w.heap.size]? = _ from hs.2.1] at ho; cases ho; cases hc), hs.2.2.1.kept hg (fun e => by obtain ⟨o, ho, hc⟩ := hr _ e.symm; rw [show A.heap[w.heap.size + 1]? = _ from hs.2.2.1] at ho; cases ho; cases hc), Nat.le_trans hs.2.2.2 hg.size⟩) _) (ownFrom_below (Nat.le_refl _) (by omega))
  case ownIx =>
    exact fun c => OwnFrom.and (Own.from (fun s A B row hs hg hr => by
      obtain ⟨hc, ini, last, e1, e2, e3, e4⟩ := hs
      exact ⟨hc, ini, last, e1, e2, e3, e4.kept hg (fun e => by obtain ⟨o, ho, hc⟩ := hr _ e.symm; rw [show A.heap[w.heap.size + 1]? = _ from e4] at ho; cases ho; cases hc)⟩) _) (ownFrom_below (Nat.le_refl _) (by omega))
  case ownA =>
    exact fun x a' => Own.from (fun s A B row hs hg hr => by
      obtain ⟨B', h1, h2, h3⟩ := hs
      exact ⟨B', (grownBy_keeps_cells hg hr h1 rfl).trans h1, h2, h3⟩) _
  case assign =>
    rintro l pre x W K ⟨⟨hp, hb3, hb4, hsW⟩, hB⟩ hK
    simp only [wrEnc]
    gi_wp2
    refine hK _ _ ((KeepsOthers.alloc _ _).from _) ((Below.refl _ W).alloc ?_ _) ⟨⟨hp, hb3.alloc _, hb4.alloc _, by rw [World.size_alloc]; omega⟩, hB.alloc hB.size _⟩ ⟨W.heap.size, World.alloc_heap_new W _, ?_, rfl⟩
    · omega
    · omega
  case body =>
    rintro l pre x a' W hl hr ⟨⟨hp, hb3, hb4, hsW⟩, hB⟩ ⟨B, hBk, hBB, rfl⟩ hlen
    have e1 : W.cell? ⟨B, 0, none⟩ = some (.int .i64 x.2.1) := by simp [World.cell?, hBk]
    have e2 : W.cell? ⟨B, 1, none⟩ = some (.string x.2.2) := by simp [World.cell?, hBk]
    have e3 := hb3.cell
    have e4 := hb4.cell
    have e5 := hb4.frozen
    gi_wp2
    · have hx : x.2.1 = at_ := by rename_i h; simpa using h
      exact ⟨(KeepsOthers.setCell _ _ _).from _, ⟨rfl, pre, x, rfl, hp, hx, hb4.set _⟩, hB.setCell (p := ⟨w.heap.size + 1, 0, none⟩) (by show w.heap.size ≤ w.heap.size + 1; omega) _⟩
    · have hx : ¬ x.2.1 = at_ := by rename_i h; simpa using h
      exact ⟨KeepsFrom.refl _ _, Below.refl _ _, ⟨fun p hp' => (List.mem_append.1 hp').elim (hp p) (fun e => by simp at e; subst e; exact hx), hb3, hb4, hsW⟩, hB⟩
  case done =>
    rintro D ys W hD rfl ⟨⟨hp, hb3, hb4, hsW⟩, hB⟩ hK
    rcases hres with ⟨k, z, hz, hz1, hz2, hz3⟩ | ⟨hno, sb, so, sl, sc, k, hd0, rfl, hks, hsl, hcd⟩
    · exfalso
      have hkl := (List.getElem?_eq_some_iff.1 hz).1
      refine hp (wrAt zs (zs.length - 1 - k)) ?_ ?_
      · simp only [dupto, List.mem_map, List.mem_range]
        exact ⟨_, by omega, rfl⟩
      · show (zs[zs.length - 1 - (zs.length - 1 - k)]?.getD _).1 = at_
        rw [show zs.length - 1 - (zs.length - 1 - k) = k by omega, hz]; exact hz1
    · have hsb : sb < w.heap.size := by
        obtain ⟨o, ho, _⟩ := cells_of_cell hcd
        exact (Array.getElem?_eq_some_iff.1 ho).1
      have f0 := (hB.cell (p := ⟨db, doff, none⟩) hdb).trans hd0
      have f1 := (hB.cell (p := ⟨sb, so + k, none⟩) hsb).trans hcd
      have f3 := hb3.cell
      have f4 := hb4.cell
      have f5 := hb4.frozen
      gi_wp2
      refine wpIn_wide.2 ?_
      have mixed : Tryz.prog.follows .mixedOrders = true := by kernel_rfl
      go_still_tail 7, (by kernel_rfl)
      change wpList _ _ _ _ _ W.drew
      have g4 : W.drew.cell? ⟨w.heap.size + 1, 0, none⟩ = some (.string ByteArray.empty) := f4
      have g5 : W.drew.frozen? ⟨w.heap.size + 1, 0, none⟩ = false := f5
      go_wp2
      gi_wp2
      have hK0 : W.drew.heap[D]? = some (.deferred (some [])) := hK
      have hK' := (KeepsOthers.setCell W.drew ⟨w.heap.size + 1, 0, none⟩ (.string d)).same D _ hK0 rfl
      refine ⟨by simp, .inl ⟨_, _, rfl, run_takeDeferred hK', ?_⟩⟩
      have hc5 := cell_kept (World.cell?_setCell_same' W.drew ⟨w.heap.size + 1, 0, none⟩ (.string d) (by rw [g4]; rfl)) (grownBy_putObj' _ D (.deferred none)) (fun r e => by cases e; exact ⟨_, hK', rfl⟩)
      have hBd : Below w.heap.size w W.drew := ⟨hB.os, hB.tape, hB.output, hB.size, hB.block⟩
      refine ⟨.string d, ?_, rfl, (hBd.setCell (p := ⟨w.heap.size + 1, 0, none⟩) (by show w.heap.size ≤ w.heap.size + 1; omega) _).trans (belowK_b (w := w) (Nat.le_refl _) _ D _ _ (by omega) hK' rfl rfl)⟩
      have hc6 : ((W.setCell ⟨w.heap.size + 1, 0, none⟩ (.string d)).drew.putObj D (.deferred none)).cell? ⟨w.heap.size + 1, 0, none⟩ = some (.string d) := hc5
      simp [results, Tryz.f21, go_sem, hc6]
  case stop =>
    rintro D c pre W hD ⟨k, hk, rfl⟩ ⟨⟨rfl, ini, last, e1, e2, e3, hb4⟩, hB⟩ hK
    gi_wp2
    refine ⟨by simp, .inl ⟨_, _, rfl, run_takeDeferred hK, ?_⟩⟩
    have hc5 := cell_kept hb4.cell (grownBy_putObj' _ D (.deferred none)) (fun r e => by cases e; exact ⟨_, hK, rfl⟩)
    obtain ⟨k', rfl⟩ : ∃ k', k = k' + 1 := by
      cases k with
      | zero => simp [dupto] at e1
      | succ k' => exact ⟨k', rfl⟩
    rw [dupto_succ] at e1
    obtain ⟨rfl, e5⟩ := List.append_inj' e1 rfl
    obtain rfl : wrAt zs k' = last := by simpa using e5
    have hlast : (wrAt zs k').2 = zs[zs.length - 1 - k']?.getD (0, ByteArray.empty) := rfl
    obtain ⟨z, hz⟩ : ∃ z, zs[zs.length - 1 - k']? = some z := ⟨_, List.getElem?_eq_getElem (by omega)⟩
    rw [hlast, hz] at e3 hc5
    have hd : z.2 = d := by
      rcases hres with ⟨k2, z2, hz2, hz3, hz4, hz5⟩ | ⟨hno, _⟩
      · have hk2 := (List.getElem?_eq_some_iff.1 hz2).1
        have heq : k2 = zs.length - 1 - k' := by
          rcases Nat.lt_trichotomy k2 (zs.length - 1 - k') with h | h | h
          · exact absurd e3 (hz5 _ z h hz)
          · exact h
          · exfalso
            refine e2 (wrAt zs (zs.length - 1 - k2)) ?_ ?_
            · simp only [dupto, List.mem_map, List.mem_range]
              exact ⟨_, by omega, rfl⟩
            · show (zs[zs.length - 1 - (zs.length - 1 - k2)]?.getD _).1 = at_
              rw [show zs.length - 1 - (zs.length - 1 - k2) = k2 by omega, hz2]; exact hz3
        subst heq
        rw [hz] at hz2; cases hz2; exact hz4
      · exact absurd e3 (hno _ z hz)
    refine ⟨.string d, ?_, rfl, hB.trans (belowK_b (w := w) (Nat.le_refl _) W D _ _ (by omega) hK rfl rfl)⟩
    rw [← hd]
    simp [results, Tryz.f21, go_sem, hc5]

theorem data_law : Go.AM.DataLaw Tryz.prog 21 := fun db doff at_ a len cap zs d h1 w h2 h3 h4 => callsIn_wide.1 (data_in db doff at_ a len cap zs d h1 w h2 h3 h4)
#print axioms data_law
end Go.Proofs.YtpmolggmafgeeaaGreatDoor
