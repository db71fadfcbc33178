/- list.Split over the program, where there is no page or at most one list's. -/
import Derived.RangeFuncNested
import Derived.RangeFuncBox
import Derived.RangeFuncLeaves
import Derived.Shelf.Abstract
import Derived.Shelf.RegionOpen
import Derived.WalkKit
import Derived.OwnWalkIn
import Derived.TacticsInMore
import Derived.LoopNIn
import Derived.LoopIn
import Derived.StillTailTactics
import Derived.Test.YtmohbeomlpjljaaGreatDoorLay
import Derived.Test.YtmohbeomlpjljaaGreatDoorAmHeld
namespace Go.Proofs.YtmohbeomlpjljaaGreatDoor
open Go.RowKit Go.Shelf

attribute [local go_sem] Oper.semAt_some

/-- these blocks are as they were -/
def KP (lo n : Nat) (A B : World) : Prop := ∀ k, lo ≤ k → k < n → B.heap[k]? = A.heap[k]?
theorem KP.trans {lo n : Nat} {A B C : World} (h : KP lo n A B) (k : KP lo n B C) : KP lo n A C := fun i h1 h2 => (k i h1 h2).trans (h i h1 h2)
theorem KP.cell {lo n : Nat} {A B : World} (h : KP lo n A B) {b : Nat} (h1 : lo ≤ b) (h2 : b < n) : B.cell? ⟨b, 0, none⟩ = A.cell? ⟨b, 0, none⟩ := World.cell?_of_block (h b h1 h2)
theorem KP.put {lo n : Nat} {w : World} (hn : n ≤ w.heap.size) (W : World) (l : Nat) (o o' : Obj) (hl : w.heap.size ≤ l) (h : W.heap[l]? = some o) (_ : o.isCells = false) (_ : o.isWalk = false) : KP lo n W (W.putObj l o') := fun k _ h2 =>
  (grownBy_putObj' W l o').block k (by have := (Array.getElem?_eq_some_iff.1 h).1; omega) (fun e => by cases e; omega)

set_option maxRecDepth 100000 in
set_option maxHeartbeats 2000000 in
/-- the iterator, where there is one part -/
theorem chunk1_in (n : Nat) (hn : 1 ≤ n) (l Bs Bn lo n₀ b off len cap : Nat) (h1 : 1 ≤ len) (h20 : len ≤ 20) (hcap : len ≤ cap) (J Jx : List Unit → World → Prop)
    (hY : ∀ pre x W, J pre W → pre.length < 1 → YieldAt Fence.wide (n - 1) Tryz.prog l #[.slice (some ⟨b, off, none⟩) len len] W fun e W' =>
      (e = .returned (.bool true) ∧ J (pre ++ [x]) W' ∧ KP lo n₀ W W') ∨ (e = .returned (.bool false) ∧ Jx (pre ++ [x]) W'))
    (hJd : ∀ pre W, J pre W → J pre W.drew)
    (W : World) (hBs : W.cell? ⟨Bs, 0, none⟩ = some (.slice (some ⟨b, off, none⟩) len cap)) (hBn : W.cell? ⟨Bn, 0, none⟩ = some (.int .i64 20)) (h0 : J [] W) (hBl : Bs < n₀) (hBnl : Bn < n₀) (hlo : lo ≤ Bs) (hlon : lo ≤ Bn) :
    CallsIn Fence.wide n Tryz.prog 324 #[.func (.yield l) #[] #[], .pointer (some ⟨Bs, 0, none⟩), .pointer (some ⟨Bn, 0, none⟩)] W fun e W' => (∃ v, e = .returned v) ∧
      (J [()] W' ∨ Jx [()] W') := by
  have hro : Fence.wide.round = none := rfl
  have mixed : Tryz.prog.follows .mixedOrders = true := by kernel_rfl
  refine callsIn_of_wp Tryz.func324 rfl trivial ?_ hro
  simp only [Tryz.ntmps324, List.size_toArray, List.length_cons, List.length_nil, Nat.reduceAdd, Nat.reduceSub, Array.replicate_succ, Array.replicate_zero, List.push_toArray, List.append_toArray, List.nil_append, List.cons_append]
  gi_wp2
  gi_loopw [4] (fun i wr => (i = .int .i64 0 ∧ J [] wr ∧ KP lo n₀ W wr) ∨ (i = .int .i64 20 ∧ J [()] wr ∧ KP lo n₀ W wr))
    (fun i _ => (20 - intOf i).toNat)
  case atStart => exact .inl ⟨rfl, h0, fun _ _ _ => rfl⟩
  case round =>
    rcases hrel with ⟨rfl, hJs, hnx⟩ | ⟨rfl, hJs, hnx⟩
    · have hBs1 := (hnx.cell hlo hBl).trans hBs
      have hBn1 := (hnx.cell hlon hBnl).trans hBn
      have hmin : min (20 : Int) (len : Int) = (len : Int) := by omega
      gi_wp2
      gi_region
      obtain ⟨fn, tmps, assign, body, hy, hR⟩ := hY [] () wr.drew (hJd _ _ hJs) (by simp)
      gi_wp2
      refine hR.mono ?_
      rintro e W3 (⟨rfl, hJ3, hk3⟩ | ⟨rfl, hJx3⟩)
      · have hBn3 := (hk3.cell hlon hBnl).trans (show wr.drew.cell? ⟨Bn, 0, none⟩ = _ from hBn1)
        gi_wp2
        go_roundw
        case rel => exact .inr ⟨rfl, hJ3, hnx.trans (KP.trans (B := wr.drew) (fun _ _ _ => rfl) hk3)⟩
        case measure => simp [intOf]
      · gi_wp2
        refine bodyPost_ret (results_none rfl _ _ _) rfl ?_
        exact ⟨⟨_, rfl⟩, .inr hJx3⟩
    · have hBs1 := (hnx.cell hlo hBl).trans hBs
      gi_wp2
      go_end0
      exact ⟨⟨_, rfl⟩, .inl hJs⟩

set_option maxHeartbeats 1000000 in
theorem chunk_in (n : Nat) (a : Option Addr) (len cap : Nat) (w : World) :
    CallsIn Fence.wide n Tryz.prog 281 #[.slice a len cap, .int .i64 20] w fun e w' =>
      e = .returned (.func (.func 324) #[] #[.pointer (some ⟨w.heap.size, 0, none⟩), .pointer (some ⟨w.heap.size + 1, 0, none⟩)]) ∧ w' = (w.alloc (.cells #[.slice a len cap] 46)).alloc (.cells #[.int .i64 20] 3) := by
  have hro : Fence.wide.round = none := rfl
  refine callsIn_of_wp Tryz.func281 rfl trivial ?_ hro
  simp only [Tryz.ntmps281, List.size_toArray, List.length_cons, List.length_nil, Nat.reduceAdd, Nat.reduceSub, Array.replicate_succ, Array.replicate_zero, List.push_toArray, List.append_toArray, List.nil_append, List.cons_append]
  gi_wp2
  go_ret
  exact ⟨by simp, rfl⟩

/-- what out holds -/
def OutIs (n₀ Bo : Nat) (xs : List Value) (pre : List Unit) (W : World) : Prop :=
  (pre = [] ∧ Boxed W Bo 93 (.slice none 0 0)) ∨
  (pre.length = 1 ∧ ∃ g1 cap1 cur1 g2 cap2 cur2, Boxed W Bo 93 (.slice (some ⟨g2, 0, none⟩) 1 cap2) ∧
    W.heap[g2]? = some (.cells cur2 46 (0, 0)) ∧ cur2.size = cap2 ∧ 1 ≤ cap2 ∧ cur2.toList.take 1 = [.slice (some ⟨g1, 0, none⟩) xs.length cap1] ∧
    W.heap[g1]? = some (.cells cur1 3 (0, 0)) ∧ cur1.size = cap1 ∧ xs.length ≤ cap1 ∧ cur1.toList.take xs.length = xs ∧ n₀ ≤ g1 ∧ n₀ ≤ g2 ∧ g1 ≠ g2)

theorem chunk_stops (Bs Bn lo n₀ b off len cap : Nat) (h1 : 1 ≤ len) (h20 : len ≤ 20) (hcap : len ≤ cap) (w : World) (hBs : Bs < n₀) (hBn : Bn < n₀) (hlo : lo ≤ Bs) (hlon : lo ≤ Bn) (hn₀ : n₀ ≤ w.heap.size)
    (hc : w.cell? ⟨Bs, 0, none⟩ = some (.slice (some ⟨b, off, none⟩) len cap)) (hc2 : w.cell? ⟨Bn, 0, none⟩ = some (.int .i64 20)) :
    SeqStopsK Fence.wide 3 Tryz.prog 324 #[.pointer (some ⟨Bs, 0, none⟩), .pointer (some ⟨Bn, 0, none⟩)] (fun _ : Unit => #[.slice (some ⟨b, off, none⟩) len len]) (KP lo n₀)
      (fun ys => ys = [()]) (fun ys => ys = [()]) 1 w := fun l J Jx W hW hJ _ hY h0 => by
  refine (chunk1_in 3 (by omega) l Bs Bn lo n₀ b off len cap h1 h20 hcap J Jx hY (fun pre W hp => hJ pre W W.drew none hp ⟨rfl, rfl, rfl, Nat.le_refl _, fun _ _ _ => rfl⟩ (fun r e => by cases e)) W
    ((hW.cell (p := ⟨Bs, 0, none⟩) (by show Bs < _; omega)).trans hc) ((hW.cell (p := ⟨Bn, 0, none⟩) (by show Bn < _; omega)).trans hc2) h0 hBs hBn hlo hlon).mono ?_
  rintro e W' ⟨hv, h | h⟩
  · exact ⟨hv, .inl ⟨_, rfl, h⟩⟩
  · exact ⟨hv, .inr ⟨_, rfl, h⟩⟩

theorem own_out {W : World} {n0 e n : Nat} {v : Value} {xs : List Value} (h : W.ownsRow n0 e 1 v n xs) (hne : v ≠ .slice none 0 0) :
    ∃ g c cur, v = .slice (some ⟨g, 0, none⟩) n c ∧ n0 ≤ g ∧ W.heap[g]? = some (.cells cur e (0, 0)) ∧ n ≤ c ∧ cur.size = c ∧ cur.toList.take n = xs := by
  rcases h.2 with ⟨hv, _⟩ | ⟨g, c, cur, hv, h1, h2, h3, h4, h5, h6⟩
  · exact absurd hv hne
  · exact ⟨g, c, cur, hv, h1, h2, h3, by omega, by rw [← h6, Nat.mul_one]⟩

theorem cell_alloc0 (w : World) (v : Value) (t : TypeId) : (w.alloc (.cells #[v] t)).cell? ⟨w.heap.size, 0, none⟩ = some v := (Boxed.new w t v).cell

theorem step_app {F : Fence} {n : Nat} {ops : Array Oper} {o : Oper} {a : Act} {w : World} {K : Act → World → Prop} {Q : Exit → Act → World → Prop} {E : Prop} (x : Value) {w0 : World} (hw0 : w = w0.alloc (.cells #[x] 46)) (h1c : x.oneCell' = true)
    (hg : o.guard = none) (hop : o.op = Op.call { callee := Callee.builtin Builtin.append, args := #[.tmp 8, .tmp 11], argTypes := #[93, 93] })
    (hs : a.eval (.tmp 8) = .slice none 0 0) (hx : a.eval (.tmp 11) = .slice (some ⟨w0.heap.size, 0, none⟩) 1 1)
    (hK : ∀ v' w', w'.ownsRow w.heap.size 46 1 v' 1 [x] → w.grownBy w' none → v' ≠ .slice none 0 0 → K (a.put o.dst v') w') :
    if Region.wanted o (yielded ops a.tmps) = true then Oper.wpIn F n Tryz.prog o a w K Q else E := by
  have hw : Region.wanted o (yielded ops a.tmps) = true := by simp [Region.wanted, hg]
  rw [if_pos hw]
  obtain ⟨i0, hi, hz0, hz1, hz2⟩ := info_parts (P := Tryz.prog) (e := 46) (z := .slice none 0 0) (size := 1) (bytes := 24) (by kernel_rfl)
  have hm : maxLen = 9223372036854775807 := rfl
  obtain ⟨v', w', hrun, r1, r2, r3⟩ := run_append_own (P := Tryz.prog) w w.heap.size 93 o.type 46 i0 (.slice none 0 0) 1 24 Tryz.underlying93 hi hz0 hz1 hz2 rfl (by decide) (.slice none 0 0) 0 [] (World.ownsRow_nil w _ _ 1) ⟨w0.heap.size, 0, none⟩ 1 1 [x] rfl
    (fun j u h => by
      rcases j with _ | j
      · simp at h; subst h; rw [hw0]; exact cell_alloc0 w0 x _
      · simp at h) (by simpa using h1c) (by omega) (by omega) (Nat.le_refl _)
  unfold Oper.wpIn
  refine ⟨by simp [Oper.about, hop, resolve, Target.leads, Sem.run_pure], ?_⟩
  rw [Oper.semAt_plain F _ _ (by rw [hop]; intro c hc'; cases hc')]
  simp [execOp, hop, resolve, invoke, builtin, hs, hx, hrun, Result.andThen]
  refine hK _ _ r1 r2 (fun e => ?_)
  have := (r3.1 e).2
  cases this

theorem grown_of_below {W w1 : World} (h : Below W.drew.heap.size W.drew w1) : W.grownBy w1 none := ⟨h.os, h.tape, h.output, h.size, fun k hk _ => h.block k hk⟩

set_option maxRecDepth 100000 in
set_option maxHeartbeats 2000000 in
theorem split_in (b off len cap : Nat) (zs : List Int) (h1 : 1 ≤ len) (h20 : len ≤ 20) (hcap : len ≤ cap) (hzl : zs.length = len)
    (w : World) (hz : ∀ j, j < zs.length → w.cell? ⟨b, off + j, none⟩ = some (.int .i64 (zs.getD j 0))) :
    CallsIn Fence.wide 4 Tryz.prog 216 #[.slice (some ⟨b, off, none⟩) len cap] w fun e W' =>
      ∃ g1 cap1 cur1 g2 cap2 cur2, e = .returned (.slice (some ⟨g2, 0, none⟩) 1 cap2) ∧
        W'.heap[g2]? = some (.cells cur2 46 (0, 0)) ∧ cur2.size = cap2 ∧ 1 ≤ cap2 ∧ cur2.toList.take 1 = [.slice (some ⟨g1, 0, none⟩) len cap1] ∧
        W'.heap[g1]? = some (.cells cur1 3 (0, 0)) ∧ cur1.size = cap1 ∧ len ≤ cap1 ∧ cur1.toList.take len = zs.map (.int .i64) ∧ w.heap.size ≤ g1 ∧ w.heap.size ≤ g2 ∧ g1 ≠ g2 ∧ Below w.heap.size w W' := by
  have hro : Fence.wide.round = none := rfl
  have mixed : Tryz.prog.follows .mixedOrders = true := by kernel_rfl
  have h213 : Fence.wide.fn 281 := trivial
  have h271 : Fence.wide.fn 324 := trivial
  have hbw : b < w.heap.size := by
    obtain ⟨o, ho, _⟩ := cells_of_cell (hz 0 (by omega))
    exact (Array.getElem?_eq_some_iff.1 ho).1
  refine callsIn_of_wp_marks Tryz.func216 rfl trivial ?_ hro
  simp only [Tryz.ntmps216, List.size_toArray, List.length_cons, List.length_nil, Nat.reduceAdd, Nat.reduceSub, Array.replicate_succ, Array.replicate_zero, List.push_toArray, List.append_toArray, List.nil_append, List.cons_append]
  gi_wp2_with (gi_at_call 281; refine (chunk_in 3 _ _ _ _).mono ?_; rintro e w' ⟨rfl, rfl⟩)
  have b3 := Boxed.new w 93 (.slice none 0 0)
  have b4 := Boxed.new (w.alloc (.cells #[.slice none 0 0] 93)) 46 (.slice (some ⟨b, off, none⟩) len cap)
  have b5 := Boxed.new ((w.alloc (.cells #[.slice none 0 0] 93)).alloc (.cells #[.slice (some ⟨b, off, none⟩) len cap] 46)) 3 (.int .i64 20)
  rw [World.size_alloc] at b4
  rw [World.size_alloc, World.size_alloc] at b5
  obtain ⟨W0, hW0⟩ : ∃ W0, ((w.alloc (.cells #[.slice none 0 0] 93)).alloc (.cells #[.slice (some ⟨b, off, none⟩) len cap] 46)).alloc (.cells #[.int .i64 20] 3) = W0 := ⟨_, rfl⟩
  have hB0 : Below w.heap.size w W0 := by
    rw [← hW0]; exact (((Below.refl _ w).alloc (Nat.le_refl _) _).alloc (by simp) _).alloc (by simp; omega) _
  have c3 : Boxed W0 w.heap.size 93 (.slice none 0 0) := by rw [← hW0]; exact (b3.alloc _).alloc _
  have c4 : Boxed W0 (w.heap.size + 1) 46 (.slice (some ⟨b, off, none⟩) len cap) := by rw [← hW0]; exact b4.alloc _
  have c5 : Boxed W0 (w.heap.size + 1 + 1) 3 (.int .i64 20) := by rw [← hW0]; exact b5
  have hsz : W0.heap.size = w.heap.size + 3 := by rw [← hW0]; simp
  rw [hW0]
  refine wpIn_rangeFunc_ownH hro (by omega) (gf := 324) (lb := #[.pointer (some ⟨w.heap.size + 1, 0, none⟩), .pointer (some ⟨w.heap.size + 1 + 1, 0, none⟩)]) rfl h271 (enters_of Tryz.func324 (by kernel_rfl) rfl)
    (chunk_stops (w.heap.size + 1) (w.heap.size + 1 + 1) (w.heap.size + 1) (w.heap.size + 3) b off len cap h1 h20 hcap W0 (by omega) (by omega) (by omega) (by omega) (by omega) c4.cell c5.cell) KP.trans (KP.put (by omega)) (Below.refl _ _) (fun _ => rfl)
    (fun pre W => (OutIs w.heap.size w.heap.size (zs.map (.int .i64)) pre W ∧ w.heap.size + 3 ≤ W.heap.size) ∧ Below w.heap.size w W)
    (fun _ _ _ => False)
    ?ownI ?ownIx ⟨⟨.inl ⟨rfl, c3⟩, by omega⟩, hB0⟩
    (fun x a' _ => a' = { tmps := #[.slice (some ⟨b, off, none⟩) len cap, undef, .slice none 0 0,   .pointer (some ⟨w.heap.size, 0, none⟩), .slice (some ⟨b, off, none⟩) len len, .slice (some ⟨b, off, none⟩) len cap,
        .func (.func 324) #[] #[.pointer (some ⟨w.heap.size + 1, 0, none⟩), .pointer (some ⟨w.heap.size + 1 + 1, 0, none⟩)], .slice (some ⟨b, off, none⟩) len len, undef, undef, undef, undef, undef, undef], defers := [] })
    ?ownA ?assign ?body ?done ?stop
  case ownI =>
    refine OwnFrom.and (Own.from (fun s A B row hs hg hr => ?_) _) (ownFrom_below (Nat.le_refl _) (by omega))
    have kb : ∀ {k : Nat} {o : Obj}, A.heap[k]? = some o → o.isCells = true → B.heap[k]? = some o := fun h1 h2 => (grownBy_keeps_cells hg hr h1 h2).trans h1
    refine ⟨?_, Nat.le_trans hs.2 hg.size⟩
    rcases hs.1 with ⟨h, hb⟩ | ⟨h, g1, cap1, cur1, g2, cap2, cur2, hbx, q1, q2, q3, q4, q5, q6⟩
    · exact .inl ⟨h, kb hb rfl⟩
    · exact .inr ⟨h, g1, cap1, cur1, g2, cap2, cur2, kb hbx rfl, kb q1 rfl, q2, q3, q4, kb q5 rfl, q6⟩
  case ownIx => exact fun c => fun _ _ _ _ h _ _ => h.elim
  case ownA => exact fun x a' => fun _ _ _ _ h _ _ => h
  case assign =>
    rintro l pre x W K hI hK
    gi_wp2
    exact hK _ _ (KeepsFrom.refl _ _) (fun _ _ _ => rfl) hI rfl
  case body =>
    rintro l pre x a' W hl hr ⟨⟨hp, hsW⟩, hB⟩ rfl hlen
    obtain rfl : pre = [] := List.eq_nil_of_length_eq_zero (by omega)
    have hbox : Boxed W w.heap.size 93 (.slice none 0 0) := by
      rcases hp with ⟨_, h⟩ | ⟨h, _⟩
      · exact h
      · cases h
    have hzW : ∀ j, j < zs.length → W.cell? ⟨b, off + j, none⟩ = some (.int .i64 (zs.getD j 0)) := fun j hj => (hB.cell (p := ⟨b, off + j, none⟩) hbw).trans (hz j hj)
    have hcl := Any.slices_Clone_int Tryz.cloneA b off len len zs W.drew (by omega) (by omega) hzW
    have h60 : Fence.wide.fn 96 := trivial
    have e4 := hbox.cell
    have e5 := hbox.frozen
    gi_wp2
    refine wpIn_region_any mixed ?_
    change wpAnyIn _ _ _ _ _ _ _ _ _ W.drew
    have f4 : W.drew.cell? ⟨w.heap.size, 0, none⟩ = some (.slice none 0 0) := e4
    have f5 : W.drew.frozen? ⟨w.heap.size, 0, none⟩ = false := e5
    clear e4 e5
    repeat' (first
      | (refine wpAnyIn_done (by decide +kernel) ?_ _)
      | (refine wpAnyIn_ready (rs := [0, 1]) (by decide +kernel) (by simp) ?_)
      | (refine wpAnyIn_ready (rs := [0, 2]) (by decide +kernel) (by simp) ?_)
      | (refine wpAnyIn_ready (rs := [0, 3]) (by decide +kernel) (by simp) ?_)
      | (refine wpAnyIn_ready (rs := [0]) (by decide +kernel) (by simp) ?_)
      | (refine wpAnyIn_ready (rs := [1]) (by decide +kernel) (by simp) ?_)
      | (refine wpAnyIn_ready (rs := [2]) (by decide +kernel) (by simp) ?_)
      | (refine wpAnyIn_ready (rs := [3]) (by decide +kernel) (by simp) ?_)
      | (refine wpAnyIn_ready (rs := [4]) (by decide +kernel) (by simp) ?_)
      | (refine wpAnyIn_ready (rs := [5]) (by decide +kernel) (by simp) ?_)
      | exact AllReadyIn.nil
      | (refine AllReadyIn.cons rfl (fun K hK => ?_) ?_)
      | (refine step_app _ rfl rfl rfl rfl rfl rfl (fun v' w2 hown2 hgr2 hne2 => ?_); obtain ⟨g2, c2, cur2, rfl, hg2, hg2c, hn2, hcs2, htk2⟩ := own_out hown2 hne2; have G2 := (G1.trans (World.grownBy_alloc _ _ none)).trans hgr2; have e8 := (hbox.kept G2 (by simp)).cell; have e9 := (hbox.kept G2 (by simp)).frozen; refine hK _ _ ?_; clear hK K)
      | (go_simp; refine hK _ _ ?_; clear hK K)
      | (go_simp; gi_at_call 96; refine (CallsIn.inRound l (callsIn_wide.2 hcl)).mono ?_; rintro e w' ⟨v', rfl, hown, hne, hbel⟩; obtain ⟨g1, c1, cur1, rfl, hg1, hgc, hnc, hcs, htk⟩ := own_out hown hne; have G1 := grown_of_below hbel; have e6 := (hbox.kept G1 (by simp)).cell; have e7 := (hbox.kept G1 (by simp)).frozen; have e6b := (fun o => ((hbox.kept G1 (by simp)).alloc o).cell : ∀ o, (w'.alloc o).cell? ⟨w.heap.size, 0, none⟩ = some (.slice none 0 0)); dsimp only; refine hK _ _ ?_; clear hK K))
    all_goals gi_wp2
    all_goals
      have Hb := hbox.kept G2 (by simp)
      have hS2 := grownBy_setCell' w2 w.heap.size (.slice (some ⟨g2, 0, none⟩) 1 c2)
      have hgW : W.heap.size ≤ g1 := hg1
      have hg1lt : g1 < w'.heap.size := (Array.getElem?_eq_some_iff.1 hgc).1
      have hg2' : w'.heap.size + 1 ≤ g2 := by rw [World.size_alloc] at hg2; exact hg2
      have hw1 : W.heap.size ≤ w'.heap.size := hbel.size
      have k1 : w2.heap[g1]? = some (.cells cur1 3 (0, 0)) := by
        rw [hgr2.block g1 (by rw [World.size_alloc]; omega) (by simp), Below.heap_alloc _ _ g1 hg1lt]; exact hgc
      refine ⟨((KeepsOthers.of_grownBy G2 (fun j o e => by cases e)).trans (KeepsOthers.setCell _ _ _)).from _, fun k hk1 hk2 => (hS2.block k (by have := G2.size; omega) (by simp; omega)).trans (G2.block k (by omega) (by simp)),
        ⟨.inr ⟨rfl, g1, c1, cur1, g2, c2, cur2, Hb.set _, (hS2.block g2 (Array.getElem?_eq_some_iff.1 hg2c).1 (by simp; omega)).trans hg2c, hcs2, hn2, ?_, (hS2.block g1 (Array.getElem?_eq_some_iff.1 k1).1 (by simp; omega)).trans k1, hcs, ?_, ?_, by omega, by omega, by omega⟩, ?_⟩, ?_⟩
      · rw [List.length_map, hzl]; exact htk2
      · rw [List.length_map, hzl]; exact hnc
      · rw [List.length_map, hzl, htk, List.take_of_length_le (by omega)]
      · have := G2.size; have := hS2.size; omega
      · exact (hB.grown G2 (by omega) (fun k e => by cases e)).setCell (p := ⟨w.heap.size, 0, none⟩) (Nat.le_refl _) _
  case done =>
    rintro D ys W hD rfl ⟨⟨hp, hsW⟩, hB⟩ hK
    rcases hp with ⟨h, _⟩ | ⟨_, g1, cap1, cur1, g2, cap2, cur2, hbx, q1, q2, q3, q4, q5, q6, q7, q8, q9, q10, q11⟩
    · cases h
    · have e4 := hbx.cell
      have e5 := hbx.frozen
      gi_wp2
      refine ⟨by simp, .inl ⟨_, _, rfl, run_takeDeferred hK, ?_⟩⟩
      have kp : ∀ {k : Nat} {o : Obj}, W.heap[k]? = some o → o.isCells = true → (W.putObj D (.deferred none)).heap[k]? = some o := fun {k o} h1 h2 =>
        (grownBy_keeps_cells (grownBy_putObj' W D (.deferred none)) (fun r e => by cases e; exact ⟨_, hK, rfl⟩) h1 h2).trans h1
      rw [List.length_map, hzl] at q4 q7 q8
      exact ⟨_, results_tmp rfl _ _ _, g1, cap1, cur1, g2, cap2, cur2, rfl, kp q1 rfl, q2, q3, q4, kp q5 rfl, q6, q7, q8, q9, q10, q11, hB.trans (belowK_b (w := w) (Nat.le_refl _) W D _ _ (by omega) hK rfl rfl)⟩
  case stop =>
    rintro D c pre W hD hpre h
    exact h.elim

set_option maxRecDepth 100000 in
set_option maxHeartbeats 2000000 in
/-- the iterator, where there is no part -/
theorem chunk0_in (n : Nat) (l Bs Bn cap : Nat) (a : Option Addr) (J : List Unit → World → Prop) (W : World) (hBs : W.cell? ⟨Bs, 0, none⟩ = some (.slice a 0 cap)) (h0 : J [] W) :
    CallsIn Fence.wide n Tryz.prog 324 #[.func (.yield l) #[] #[], .pointer (some ⟨Bs, 0, none⟩), .pointer (some ⟨Bn, 0, none⟩)] W fun e W' => (∃ v, e = .returned v) ∧ J [] W' := by
  have hro : Fence.wide.round = none := rfl
  have mixed : Tryz.prog.follows .mixedOrders = true := by kernel_rfl
  refine callsIn_of_wp Tryz.func324 rfl trivial ?_ hro
  simp only [Tryz.ntmps324, List.size_toArray, List.length_cons, List.length_nil, Nat.reduceAdd, Nat.reduceSub, Array.replicate_succ, Array.replicate_zero, List.push_toArray, List.append_toArray, List.nil_append, List.cons_append]
  gi_wp2
  gi_loopw [4] (fun i wr => i = .int .i64 0 ∧ J [] wr ∧ wr.cell? ⟨Bs, 0, none⟩ = some (.slice a 0 cap)) (fun _ _ => 0)
  case atStart => exact ⟨rfl, h0, hBs⟩
  case round =>
    obtain ⟨rfl, hJs, hBs1⟩ := hrel
    gi_wp2
    go_end0
    exact ⟨⟨_, rfl⟩, hJs⟩

theorem chunk0_stops (Bs Bn cap : Nat) (a : Option Addr) (w : World) (hBs : Bs < w.heap.size) (hc : w.cell? ⟨Bs, 0, none⟩ = some (.slice a 0 cap)) :
    SeqStopsK Fence.wide 3 Tryz.prog 324 #[.pointer (some ⟨Bs, 0, none⟩), .pointer (some ⟨Bn, 0, none⟩)] (fun _ : Unit => #[.slice none 0 0]) (KP 0 0)
      (fun ys => ys = []) (fun _ => False) 0 w := fun l J Jx W hW hJ _ hY h0 => by
  refine (chunk0_in 3 l Bs Bn cap a J W ((hW.cell (p := ⟨Bs, 0, none⟩) (by show Bs < _; omega)).trans hc) h0).mono ?_
  rintro e W' ⟨hv, h⟩
  exact ⟨hv, .inl ⟨_, rfl, h⟩⟩

set_option maxRecDepth 100000 in
set_option maxHeartbeats 2000000 in
theorem split0_in (a : Option Addr) (cap : Nat) (w : World) :
    CallsIn Fence.wide 4 Tryz.prog 216 #[.slice a 0 cap] w fun e W' => e = .returned (.slice none 0 0) ∧ Below w.heap.size w W' := by
  have hro : Fence.wide.round = none := rfl
  have h213 : Fence.wide.fn 281 := trivial
  have h271 : Fence.wide.fn 324 := trivial
  refine callsIn_of_wp_marks Tryz.func216 rfl trivial ?_ hro
  simp only [Tryz.ntmps216, List.size_toArray, List.length_cons, List.length_nil, Nat.reduceAdd, Nat.reduceSub, Array.replicate_succ, Array.replicate_zero, List.push_toArray, List.append_toArray, List.nil_append, List.cons_append]
  gi_wp2_with (gi_at_call 281; refine (chunk_in 3 _ _ _ _).mono ?_; rintro e w' ⟨rfl, rfl⟩)
  have b3 := Boxed.new w 93 (.slice none 0 0)
  have b4 := Boxed.new (w.alloc (.cells #[.slice none 0 0] 93)) 46 (.slice a 0 cap)
  rw [World.size_alloc] at b4
  obtain ⟨W0, hW0⟩ : ∃ W0, ((w.alloc (.cells #[.slice none 0 0] 93)).alloc (.cells #[.slice a 0 cap] 46)).alloc (.cells #[.int .i64 20] 3) = W0 := ⟨_, rfl⟩
  have hB0 : Below w.heap.size w W0 := by
    rw [← hW0]; exact (((Below.refl _ w).alloc (Nat.le_refl _) _).alloc (by simp) _).alloc (by simp; omega) _
  have c3 : Boxed W0 w.heap.size 93 (.slice none 0 0) := by rw [← hW0]; exact (b3.alloc _).alloc _
  have c4 : Boxed W0 (w.heap.size + 1) 46 (.slice a 0 cap) := by rw [← hW0]; exact b4.alloc _
  have hsz : W0.heap.size = w.heap.size + 3 := by rw [← hW0]; simp
  rw [hW0]
  refine wpIn_rangeFunc_ownH hro (by omega) (gf := 324) (lb := #[.pointer (some ⟨w.heap.size + 1, 0, none⟩), .pointer (some ⟨w.heap.size + 1 + 1, 0, none⟩)]) rfl h271 (enters_of Tryz.func324 (by kernel_rfl) rfl)
    (chunk0_stops (w.heap.size + 1) (w.heap.size + 1 + 1) cap a W0 (by omega) c4.cell) KP.trans (KP.put (by omega)) (Below.refl _ _) (fun _ => rfl)
    (fun pre W => (Boxed W w.heap.size 93 (.slice none 0 0) ∧ w.heap.size + 3 ≤ W.heap.size) ∧ Below w.heap.size w W)
    (fun _ _ _ => False)
    ?ownI ?ownIx ⟨⟨c3, by omega⟩, hB0⟩
    (fun x a' _ => True)
    ?ownA ?assign ?body ?done ?stop
  case ownI =>
    refine OwnFrom.and (Own.from (fun s A B row hs hg hr => ?_) _) (ownFrom_below (Nat.le_refl _) (by omega))
    exact ⟨(grownBy_keeps_cells hg hr hs.1 rfl).trans hs.1, Nat.le_trans hs.2 hg.size⟩
  case ownIx => exact fun c => fun _ _ _ _ h _ _ => h.elim
  case ownA => exact fun x a' => fun _ _ _ _ h _ _ => h
  case assign =>
    rintro l pre x W K hI hK
    gi_wp2
    exact hK _ _ (KeepsFrom.refl _ _) (fun _ _ _ => rfl) hI trivial
  case body =>
    rintro l pre x a' W hl hr _ _ hlen
    omega
  case done =>
    rintro D ys W hD rfl ⟨⟨hbx, hsW⟩, hB⟩ hK
    have e4 := hbx.cell
    have e5 := hbx.frozen
    gi_wp2
    refine ⟨by simp, .inl ⟨_, _, rfl, run_takeDeferred hK, ?_⟩⟩
    exact ⟨_, results_tmp rfl _ _ _, rfl, hB.trans (belowK_b (w := w) (Nat.le_refl _) W D _ _ (by omega) hK rfl rfl)⟩
  case stop =>
    rintro D c pre W hD hpre h
    exact h.elim

theorem split_law : Go.AM.SplitLaw Tryz.prog 216 3 46 :=
  ⟨fun a cap w => callsIn_wide.1 (split0_in a cap w), fun b off len cap zs w h1 h2 h3 h4 h5 => callsIn_wide.1 (split_in b off len cap zs h1 h2 h3 h4 w h5)⟩
end Go.Proofs.YtmohbeomlpjljaaGreatDoor
