/- (*Pool).Held over the program: the keys of the pool's map, sorted. -/
import Derived.Test.YtmohbeomlpjljaaGreatDoorLay
import Derived.Test.YtmohbeomlpjljaaGreatDoorAmHeld
namespace Go.Proofs.YtmohbeomlpjljaaGreatDoor
open Go.RowKit Go.Maps Go.Sort Go.Shelf

theorem held_sorts (m : Nat) : AnyZI.SortsIn Tryz.prog Tryz.sortedA_ren Fence.wide m :=
  ⟨fun blk off cap ss W hH hblk hsz => callsIn_wide.2 (AnyM.slices_Sort_int Tryz.sortA blk off cap ss W hH hblk hsz),
   fun p cap W => callsIn_wide.2 (AnyM.slices_Sort_int_none Tryz.sortA p cap W)⟩

/-- such a map reads as its keys -/
def keyR : Value → Option (DataW Unit × List MemPlace) := fun _ => some (.nil, [])

theorem int_inj : ∀ (l l' : List Int), l.map (Value.int .i64) = l'.map (Value.int .i64) → l = l'
  | [], [], _ => rfl
  | [], _ :: _, h => by cases h
  | _ :: _, [], h => by cases h
  | a :: l, b :: l', h => by
    simp only [List.map_cons, List.cons.injEq, Value.int.injEq, true_and] at h
    rw [h.1, int_inj l l' h.2]

theorem held_own {es : List MapEntry} {clock : Nat} {l : List Int} {w : World} {m : Nat} (hw : w.heap[m]? = some (.map ⟨es⟩ clock)) (hk : es.map (·.key) = l.map (.int .i64)) (hwf : ∀ x ∈ l, (Lit.int .i64 x).wf = true)
    (hl : l.Nodup) (hb : (es.map (·.born)).Nodup) (hc : ∀ e ∈ es, e.born < clock) (hn : es.length ≤ 1000) :
    ∃ D, w.ownsMap Tryz.prog 3 keyR m es.length D ∧ (intKeys D).Perm l ∧ Maps.size D = es.length := by
  have hint : Tryz.prog.underlying 3 = some (.int .i64) := Tryz.underlying3
  have hrd : ∀ x ∈ es, ∃ n, n ∈ l ∧ x.key = .int .i64 n ∧ Go.WideElems.rd Tryz.prog 3 keyR x = some (.int .i64 n, .nil) := by
    intro x hx
    have : x.key ∈ l.map (Value.int .i64) := by rw [← hk]; exact List.mem_map_of_mem hx
    obtain ⟨n, hn, he⟩ := List.mem_map.1 this
    refine ⟨n, hn, he.symm, ?_⟩
    obtain ⟨key, val, born⟩ := x
    simp only at he
    subst he
    exact Go.WideElems.rd_mk (P := Tryz.prog) (k := 3) (R := keyR) (key := .int .i64 n) (val := val) (kl := .int .i64 n) (yv := (.nil, [])) (by simp [keyOf, mapKey, hint, hwf n hn]) rfl
  refine ⟨_, ⟨⟨es⟩, clock, hw, ⟨by show es.length ≤ maxLen; have : maxLen = 9223372036854775807 := rfl; omega, ⟨by simpa using hc, by simpa using hb, ?_⟩, ?_⟩, by simp, rfl⟩, ?_, ?_⟩
  · show (es.map (·.key)).Nodup
    rw [hk]
    exact List.pairwise_map.2 (hl.imp (fun h e => h (by simpa using e)))
  · intro x hx
    obtain ⟨n, _, _, h⟩ := hrd x hx
    exact ⟨_, h⟩
  · refine (List.Perm.map _ (Go.WideShapes.sorted_perm _)).trans ?_
    have : ((es.map (Go.WideElems.rg Tryz.prog 3 keyR)).map fun p => Go.intOf p.1) = l := by
      have h2 : ∀ x ∈ es, Value.int .i64 (Go.intOf (Go.WideElems.rg Tryz.prog 3 keyR x).1) = x.key := by
        intro x hx
        obtain ⟨n, _, h1, h3⟩ := hrd x hx
        rw [Go.WideElems.rg_of h3, h1]; rfl
      have h4 : ((es.map (Go.WideElems.rg Tryz.prog 3 keyR)).map fun p => Go.intOf p.1).map (Value.int .i64) = l.map (Value.int .i64) := by
        rw [← hk, List.map_map, List.map_map]
        exact List.map_congr_left h2
      exact int_inj _ _ h4
    exact List.Perm.of_eq this
  · rw [Maps.size_eq, (Go.WideShapes.sorted_perm _).length_eq]; simp

set_option maxHeartbeats 1000000 in
theorem held_law : Go.AM.HeldLaw Tryz.prog 227 3 := by
  intro pb po m es clock l w hp hw hk hwf hl hb hc hn
  obtain ⟨D0, hown, hperm, hsize⟩ := held_own hw hk hwf hl hb hc hn
  refine (callsIn_wide (n := 6)).1 ?_
  have hbl := hown.lt
  have hmL : maxLen = 9223372036854775807 := rfl
  have hmax : Maps.size D0 ≤ maxLen := by omega
  have hbytes : Maps.size D0 * 8 ≤ 140737488355328 := by omega
  have hseq : SeqGives Fence.wide 2 Tryz.prog 332 #[.pointer (some ⟨w.heap.size, 0, none⟩)] encZ (fun ss => ss.Perm (intKeys D0)) (Maps.size D0) (w.alloc (.cells #[.map (some m)] 225)) :=
    AnyZI.keys_gives (ρ := Tryz.keysA_ren) { Tryz.keysA with } Fence.wide _ trivial rfl (by omega) w.heap.size m es.length D0 _ (by simp) (by simp) (by
      obtain ⟨es, clock, hb, Ft, hs, hD⟩ := hown
      exact ⟨es, clock, (Below.heap_alloc _ _ m hbl).trans hb, Ft, hs, hD⟩)
  have cK : ∀ mb W, CallsIn Fence.wide 5 Tryz.prog 294 #[.map mb] W fun e w' => e = .returned (.func (.func 332) #[] #[.pointer (some ⟨W.heap.size, 0, none⟩)]) ∧ w' = W.alloc (.cells #[.map mb] 225) := fun mb W => AnyZI.keys_in Tryz.keysA Fence.wide 5 trivial rfl mb W
  have cS := AnyZI.sorted_in Tryz.sortedA Fence.wide 5 trivial trivial trivial trivial rfl (by omega) (held_sorts _) (enters_of Tryz.func331 (by kernel_rfl) rfl) 332 #[.pointer (some ⟨w.heap.size, 0, none⟩)] trivial (enters_of Tryz.func332 (by kernel_rfl) rfl) _ _ hmax hbytes _ hseq
  change CallsIn _ _ Tryz.prog 293 _ _ _ at cS
  have hfK : Fence.wide.fn 294 := trivial
  have hfS : Fence.wide.fn 293 := trivial
  refine callsIn_of_wp Tryz.func227 rfl trivial ?_ rfl
  simp only [Tryz.ntmps227, List.size_toArray, List.length_cons, List.length_nil, Nat.reduceAdd, Nat.reduceSub, Array.replicate_succ, Array.replicate_zero, List.push_toArray, List.append_toArray, List.nil_append, List.cons_append]
  gi_wp2_with (first
    | (gi_at_call 294; refine (cK _ _).mono ?_; rintro e w' ⟨rfl, rfl⟩)
    | (gi_at_call 293; refine cS.mono ?_; rintro e w' ⟨v, ss, rfl, hS, hrow, hnil, hb⟩))
  go_ret
  have hsl : ss.Perm l := hS.trans hperm
  have hlen : ss.length = l.length := hsl.length_eq
  rw [Go.AM.merge_sortI hsl, hlen] at hrow
  refine ⟨v, rfl, ownsRow_base_a hrow (by simp), ?_, ((Below.refl _ w).alloc (Nat.le_refl _) _).trans (hb.mono (by simp))⟩
  rw [hnil]
  constructor
  · rintro rfl; exact List.eq_nil_of_length_eq_zero (by rw [← hlen]; rfl)
  · rintro rfl; exact List.eq_nil_of_length_eq_zero hlen
#print axioms held_law
end Go.Proofs.YtmohbeomlpjljaaGreatDoor
