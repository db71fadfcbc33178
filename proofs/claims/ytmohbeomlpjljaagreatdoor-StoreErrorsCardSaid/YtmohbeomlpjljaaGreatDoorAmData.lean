/- AM: the text of a page of a disk, taken at its contract. -/
import Derived.Test.YtmohbeomlpjljaaGreatDoorAmPrimOk
import Derived.Below
namespace Go.AM
open Go
variable [Syms]
open Go.RowKit (Below)

/-- what waits: numbered texts in a row -/
def Waits (n₀ : Nat) (W : World) (sv : Value) (zs : List (Int × ByteArray)) : Prop :=
  (sv = .slice none 0 0 ∧ zs = []) ∨ ∃ b off cap, sv = .slice (some ⟨b, off, none⟩) zs.length cap ∧ b < n₀ ∧
    ∀ (j : Nat) z, zs[j]? = some z → W.cell? ⟨b, off + j * 2, none⟩ = some (.int .i64 z.1) ∧ W.cell? ⟨b, off + j * 2 + 1, none⟩ = some (.string z.2)

/-- the law that a program's disk.data keeps -/
def DataLaw (P : Program) (g : FuncId) : Prop :=
  ∀ (db doff : Nat) (at_ : Int) (a : Option Addr) (len cap : Nat) (zs : List (Int × ByteArray)) (d : ByteArray), zs.length ≤ 1048576 →
    ∀ w : World, w.cell? ⟨db, doff + 1, none⟩ = some (.slice a len cap) → Waits w.heap.size w (.slice a len cap) zs →
    ((∃ (k : Nat) (z : Int × ByteArray), zs[k]? = some z ∧ z.1 = at_ ∧ z.2 = d ∧ ∀ (j : Nat) z', k < j → zs[j]? = some z' → z'.1 ≠ at_) ∨
      ((∀ (j : Nat) z, zs[j]? = some z → z.1 ≠ at_) ∧ ∃ (sb so sl sc k : Nat), w.cell? ⟨db, doff, none⟩ = some (.slice (some ⟨sb, so, none⟩) sl sc) ∧ at_ = (k : Int) ∧ k < sl ∧ sl ≤ 1048576 ∧ w.cell? ⟨sb, so + k, none⟩ = some (.string d))) →
    Calls P g #[.pointer (some ⟨db, doff, none⟩), .int .i64 at_] w fun e W' => e = .returned (.string d) ∧ Below w.heap.size w W'

theorem HRel.aside {C : Ctx} {φ : Phi} {H : Heap} {w w' : World} (h : HRel C φ H w) (hs : w.heap.size ≤ w'.heap.size) (hb : ∀ c, c < w.heap.size → w'.heap[c]? = w.heap[c]?) : HRel C φ H w' :=
  ⟨h.full, h.small, h.base, h.low, fun b l hl => by have := h.dom b l hl; exact ⟨this.1, by omega, this.2.2⟩,
    fun b l x hl hx => by rw [hb _ (h.dom b l hl).2.1]; exact h.blk b l x hl hx, h.sep⟩

omit [Syms] in
theorem Ext.aside {C : Ctx} {φ : Phi} {w w' : World} (h : Below w.heap.size w w') : Ext C φ w φ w' :=
  ⟨Le.refl φ, ⟨h.os, h.tape, h.output, h.size, fun c hc _ => h.block c hc⟩, fun _ _ h => .inl h⟩

def flatW (zs : List (Int × ByteArray)) : List Value := zs.flatMap fun z => [.int .i64 z.1, .string z.2]
omit [Syms] in
theorem flatW_cons (z : Int × ByteArray) (zs : List (Int × ByteArray)) : flatW (z :: zs) = .int .i64 z.1 :: .string z.2 :: flatW zs := rfl
omit [Syms] in
theorem flatW_length : ∀ zs, (flatW zs).length = 2 * zs.length
  | [] => rfl
  | z :: zs => by rw [flatW_cons]; simp [flatW_length zs]; omega
omit [Syms] in
theorem flatW_get : ∀ (zs : List (Int × ByteArray)) (j : Nat) z, zs[j]? = some z → (flatW zs)[j * 2]? = some (.int .i64 z.1) ∧ (flatW zs)[j * 2 + 1]? = some (.string z.2)
  | [], j, z, h => by simp at h
  | y :: zs, 0, z, h => by simp at h; subst h; rw [flatW_cons]; exact ⟨rfl, rfl⟩
  | y :: zs, j + 1, z, h => by
    have := flatW_get zs j z (by simpa using h)
    rw [flatW_cons, show (j + 1) * 2 = j * 2 + 1 + 1 by omega, show j * 2 + 1 + 1 + 1 = (j * 2 + 1) + 1 + 1 by omega]
    simpa using this
theorem flatW_rel {φ : Phi} : ∀ (zs : List (Int × ByteArray)) (l : List Value), VRels φ (flatW zs) l → l = flatW zs
  | [], l, h => by cases h; rfl
  | z :: zs, l, h => by
    rw [flatW_cons] at h ⊢
    cases h with
    | cons _ a _ l1 h1 h2 =>
      cases h1
      cases h2 with
      | cons _ b _ l2 h3 h4 =>
        cases h3
        rw [flatW_rel zs l2 h4]

omit [Syms] in
theorem lastW_spec (n : Int) : ∀ (ws : List Value) (r q : Option ByteArray), lastW n ws r = some q → ∃ zs, ws = flatW zs ∧
    ((∃ (k : Nat) (z : Int × ByteArray), zs[k]? = some z ∧ z.1 = n ∧ q = some z.2 ∧ ∀ (j : Nat) z', k < j → zs[j]? = some z' → z'.1 ≠ n) ∨
     ((∀ (j : Nat) z, zs[j]? = some z → z.1 ≠ n) ∧ q = r)) := by
  intro ws r
  induction ws, r using lastW.induct n with
  | case1 r =>
    intro q h
    simp only [lastW, Option.some.injEq] at h
    exact ⟨[], rfl, .inr ⟨fun j z hz => by simp at hz, h.symm⟩⟩
  | case2 m s l r ih =>
    intro q h
    simp only [lastW] at h
    obtain ⟨zs, rfl, h1⟩ := ih q h
    refine ⟨(m, s) :: zs, rfl, ?_⟩
    rcases h1 with ⟨k, z, h1, h2, h3, h4⟩ | ⟨h1, h2⟩
    · refine .inl ⟨k + 1, z, by simpa using h1, h2, h3, ?_⟩
      intro j z' hj hz
      cases j with
      | zero => omega
      | succ j => exact h4 j z' (by omega) (by simpa using hz)
    · by_cases e : m = n
      · rw [if_pos e] at h2
        refine .inl ⟨0, (m, s), rfl, e, h2, ?_⟩
        intro j z' hj hz
        cases j with
        | zero => omega
        | succ j => exact h1 j z' (by simpa using hz)
      · rw [if_neg e] at h2
        refine .inr ⟨?_, h2⟩
        intro j z hz
        cases j with
        | zero => simp at hz; subst hz; exact e
        | succ j => exact h1 j z (by simpa using hz)
  | case3 ws r hn1 hn2 =>
    intro q h
    unfold lastW at h
    split at h
    · exact absurd rfl hn1
    · rename_i m s l; exact absurd rfl (hn2 m s l)
    · cases h

theorem diskData_at {C : Ctx} {g : FuncId} {fn : Func} {b : Code} (hg : C.P.funcs[g]? = some fn) (hb : fn.body = some b) (hname : (fn.name == "runtime.NumGoroutine") = false) (hD : DataLaw C.P g) : PrimAt C g diskData := by
  intro args H v H' hr φ w args' hH ha
  left
  refine ⟨callFunc_enter hg hb hname _ w, ?_⟩
  unfold diskData at hr
  split at hr
  · rename_i bb off n
    cases ha with
    | cons _ p' _ _ hp htl =>
    cases htl with
    | cons _ n' _ _ hn htl2 =>
    cases htl2
    cases hn
    cases hp with
    | ptr _ _ l hl =>
    split at hr
    · rename_i st wt hcells
      obtain ⟨vs', hv1, hv2, hv3⟩ := hH.cells hl hcells
      cases hv1 with
      | cons _ st' _ _ hst htl =>
      cases htl with
      | cons _ wt' _ _ hwt htl2 =>
      cases htl2
      have hc0 : w.cell? ⟨l.c, l.d + off, none⟩ = some st' := hv3 0 _ rfl
      have hc1 : w.cell? ⟨l.c, l.d + off + 1, none⟩ = some wt' := hv3 1 _ rfl
      -- what waits
      have hwaits : ∀ ws, waitsOf H wt = some ws → ∀ q, lastW n ws none = some q → ∃ a len cap zs, wt' = .slice a len cap ∧ zs.length ≤ 1048576 ∧ Waits w.heap.size w (.slice a len cap) zs ∧
          ((∃ (k : Nat) (z : Int × ByteArray), zs[k]? = some z ∧ z.1 = n ∧ q = some z.2 ∧ ∀ (j : Nat) z', k < j → zs[j]? = some z' → z'.1 ≠ n) ∨
           ((∀ (j : Nat) z, zs[j]? = some z → z.1 ≠ n) ∧ q = none)) := by
        intro ws hws q hq
        obtain ⟨zs, rfl, hz⟩ := lastW_spec n ws none q hq
        unfold waitsOf at hws
        split at hws
        · simp only [Option.some.injEq] at hws
          have hz0 : zs = [] := by
            cases zs with
            | nil => rfl
            | cons z zs => rw [flatW_cons] at hws; cases hws
          subst hz0
          cases hwt
          exact ⟨none, 0, 0, [], rfl, by simp, .inl ⟨rfl, rfl⟩, hz⟩
        · rename_i wb wo wl wc
          cases hcc : wl.ble 1048576
          · rw [hcc] at hws; cases hws
          · rw [hcc] at hws; simp only [cond_true] at hws
            have hle := Nat.le_of_ble_eq_true hcc
            have key : ∀ (lw : Loc) (cap : Nat), φ wb = some lw → ∃ a len cap' zs', Value.slice (some ⟨lw.c, lw.d + wo, none⟩) wl cap = .slice a len cap' ∧ zs'.length ≤ 1048576 ∧ Waits w.heap.size w (.slice a len cap') zs' ∧
                ((∃ (k : Nat) (z : Int × ByteArray), zs'[k]? = some z ∧ z.1 = n ∧ q = some z.2 ∧ ∀ (j : Nat) z', k < j → zs'[j]? = some z' → z'.1 ≠ n) ∨
                 ((∀ (j : Nat) z, zs'[j]? = some z → z.1 ≠ n) ∧ q = none)) := by
              intro lw cap hlw
              obtain ⟨us, hu1, hu2, hu3⟩ := hH.cells hlw hws
              have hus := flatW_rel zs us hu1
              subst hus
              have hlen : zs.length = wl := by rw [flatW_length] at hu2; omega
              subst hlen
              refine ⟨_, _, _, zs, rfl, hle, .inr ⟨lw.c, lw.d + wo, cap, rfl, (hH.dom wb lw hlw).2.1, ?_⟩, hz⟩
              intro j z hj
              obtain ⟨g1, g2⟩ := flatW_get zs j z hj
              exact ⟨hu3 _ _ g1, by have := hu3 _ _ g2; rw [← Nat.add_assoc] at this; exact this⟩
            cases hwt with
            | slc _ _ _ _ lw hlw => exact key lw _ hlw
            | opn _ _ _ _ _ lw hlw => exact key lw _ hlw
        · cases hws
      have hend : ∀ d : ByteArray, (∃ a len cap zs, wt' = .slice a len cap ∧ zs.length ≤ 1048576 ∧ Waits w.heap.size w (.slice a len cap) zs ∧
          ((∃ (k : Nat) (z : Int × ByteArray), zs[k]? = some z ∧ z.1 = n ∧ z.2 = d ∧ ∀ (j : Nat) z', k < j → zs[j]? = some z' → z'.1 ≠ n) ∨
           ((∀ (j : Nat) z, zs[j]? = some z → z.1 ≠ n) ∧ ∃ (sb so sl sc k : Nat), w.cell? ⟨l.c, l.d + off, none⟩ = some (.slice (some ⟨sb, so, none⟩) sl sc) ∧ n = (k : Int) ∧ k < sl ∧ sl ≤ 1048576 ∧ w.cell? ⟨sb, so + k, none⟩ = some (.string d)))) →
          Calls C.P g ⟨[.pointer (some ⟨l.c, l.d + off, none⟩), .int .i64 n]⟩ w (fun e w' => ∃ v', e = .returned v' ∧ Post C φ w H (.string d) v' w') := by
        rintro d ⟨a, len, cap, zs, rfl, h1, h2, h3⟩
        refine (hD l.c (l.d + off) n a len cap zs d h1 w hc1 h2 h3).mono ?_
        rintro e w' ⟨rfl, hbel⟩
        exact ⟨_, rfl, φ, Ext.aside hbel, hH.aside hbel.size hbel.block, .string d⟩
      split at hr
      · rename_i ws hws
        split at hr
        · rename_i d hq
          simp only [Option.some.injEq, Prod.mk.injEq] at hr
          obtain ⟨rfl, rfl⟩ := hr
          refine hend d ?_
          obtain ⟨a, len, cap, zs, h1, h2, h3, h4⟩ := hwaits ws hws _ hq
          refine ⟨a, len, cap, zs, h1, h2, h3, ?_⟩
          rcases h4 with ⟨k, z, g1, g2, g3, g4⟩ | ⟨_, g⟩
          · cases g3; exact .inl ⟨k, z, g1, g2, rfl, g4⟩
          · cases g
        · rename_i hq
          split at hr
          · rename_i d hs
            simp only [Option.some.injEq, Prod.mk.injEq] at hr
            obtain ⟨rfl, rfl⟩ := hr
            refine hend d ?_
            obtain ⟨a, len, cap, zs, h1, h2, h3, h4⟩ := hwaits ws hws _ hq
            refine ⟨a, len, cap, zs, h1, h2, h3, ?_⟩
            rcases h4 with ⟨k, z, g1, g2, g3, g4⟩ | ⟨g, _⟩
            · cases g3
            · refine .inr ⟨g, ?_⟩
              unfold stableAt at hs
              split at hs
              · rename_i sb so sl sc
                split at hs
                · rename_i n0
                  cases hcc : (Nat.ble (n0 + 1) sl && sl.ble 1048576)
                  · rw [hcc] at hs; cases hs
                  · rw [hcc] at hs; simp only [cond_true] at hs
                    simp only [Bool.and_eq_true] at hcc
                    have k1 := Nat.le_of_ble_eq_true hcc.1
                    have k2 := Nat.le_of_ble_eq_true hcc.2
                    split at hs
                    · rename_i d' hcell
                      simp only [Option.some.injEq] at hs; subst hs
                      have key : ∀ (ls : Loc) (cap : Nat), φ sb = some ls → st' = .slice (some ⟨ls.c, ls.d + so, none⟩) sl cap → ∃ (sb so sl sc k : Nat), w.cell? ⟨l.c, l.d + off, none⟩ = some (.slice (some ⟨sb, so, none⟩) sl sc) ∧ Int.ofNat n0 = (k : Int) ∧ k < sl ∧ sl ≤ 1048576 ∧ w.cell? ⟨sb, so + k, none⟩ = some (.string d') := by
                        intro ls cap hls he
                        obtain ⟨x', e1, e2⟩ := hH.cell hls hcell
                        cases e2
                        exact ⟨ls.c, ls.d + so, sl, cap, n0, by rw [hc0, he], rfl, by omega, k2, by rw [Nat.add_assoc]; exact e1⟩
                      cases hst with
                      | slc _ _ _ _ ls hls => exact key ls _ hls rfl
                      | opn _ _ _ _ _ ls hls => exact key ls _ hls rfl
                    · cases hs
                · cases hs
              · cases hs
          · cases hr
        · cases hr
      · cases hr
    · cases hr
  · cases hr
end Go.AM
namespace Go.AM
open Go
variable [Syms]

omit [Syms] in
theorem crcL_nil (c : Nat) : crcL [] c = c := rfl
omit [Syms] in
theorem crcL_cons (b : UInt8) (l : List UInt8) (c : Nat) : crcL (b :: l) c = crcL l (crc1 (crc1 (c ^^^ b.toNat))) := rfl
omit [Syms] in
theorem crcL_snoc : ∀ (l : List UInt8) (b : UInt8) (c : Nat), crcL (l ++ [b]) c = crc1 (crc1 (crcL l c ^^^ b.toNat))
  | [], _, _ => rfl
  | x :: l, b, c => by rw [List.cons_append, crcL_cons, crcL_cons, crcL_snoc l b]

omit [Syms] in
theorem crcT_lt (k : Nat) : crcT k < 4294967296 := by
  unfold crcT
  exact Nat.lt_of_le_of_lt Nat.and_le_right (by omega)

/-- the law that a program's sum.Add keeps; its table lies at block t -/
def AddLaw (P : Program) (g : FuncId) (t : Nat) : Prop :=
  ∀ (c : Nat), c < 4294967296 → ∀ s : ByteArray, s.size ≤ 4194304 → ∀ w : World, (∀ k, k < 16 → w.cell? ⟨t, k, none⟩ = some (.int .u32 (crcT k : Nat))) →
    Calls P g #[.int .u32 c, .string s] w fun e w' => e = .returned (.int .u32 ((4294967295 ^^^ crcL s.data.toList (4294967295 ^^^ c) : Nat) : Int)) ∧ w' = w

omit [Syms] in
theorem crcTab_get : ∀ k, k < 16 → crcTab[k]? = some (.int .u32 (crcT k : Nat))
  | 0, _ => rfl | 1, _ => rfl | 2, _ => rfl | 3, _ => rfl | 4, _ => rfl | 5, _ => rfl | 6, _ => rfl | 7, _ => rfl
  | 8, _ => rfl | 9, _ => rfl | 10, _ => rfl | 11, _ => rfl | 12, _ => rfl | 13, _ => rfl | 14, _ => rfl | 15, _ => rfl
  | k + 16, h => by omega

theorem sumAdd_at {C : Ctx} {g : FuncId} {fn : Func} {b : Code} {t : Nat} (hg : C.P.funcs[g]? = some fn) (hb : fn.body = some b) (hname : (fn.name == "runtime.NumGoroutine") = false) (ht : t < C.base) (hA : AddLaw C.P g t) :
    PrimAt C g (sumAdd t) := by
  intro args H v H' hr φ w args' hH ha
  left
  refine ⟨callFunc_enter hg hb hname _ w, ?_⟩
  unfold sumAdd at hr
  split at hr
  · rename_i c s
    cases ha with
    | cons _ c' _ _ hc htl =>
    cases htl with
    | cons _ s' _ _ hs htl2 =>
    cases htl2; cases hc; cases hs
    split at hr
    · rename_i vs hblk
      cases hk : (Nat.blt c 4294967296 && s.size.ble LIMIT && all2 (veq 2) vs crcTab)
      · rw [hk] at hr; cases hr
      · rw [hk] at hr; simp only [cond_true, Option.some.injEq, Prod.mk.injEq] at hr
        obtain ⟨rfl, rfl⟩ := hr
        simp only [Bool.and_eq_true] at hk
        obtain ⟨⟨h1, h2⟩, h3⟩ := hk
        have h1 : c < 4294967296 := lt_of_blt h1
        have h2 := Nat.le_of_ble_eq_true h2
        have hL : LIMIT = 4194304 := by decide
        have hvs := all2_eq (veq_eq 2) h3
        subst hvs
        obtain ⟨l, hl, hlc, hld⟩ := hH.base t ht
        have hcell : ∀ k, k < 16 → w.cell? ⟨t, k, none⟩ = some (.int .u32 (crcT k : Nat)) := by
          intro k hk
          have hck : H.cell t k = some (.int .u32 (crcT k : Nat)) := by
            unfold Heap.cell; rw [hblk]; exact crcTab_get k hk
          obtain ⟨v', e1, e2⟩ := hH.cell hl hck
          cases e2
          rw [hlc, hld, Nat.zero_add] at e1; exact e1
        refine (hA c h1 s (by omega) w hcell).mono ?_
        rintro e w' ⟨rfl, rfl⟩
        exact ⟨_, rfl, φ, Ext.refl _ _ _, hH, .int _ _⟩
    · cases hr
  · cases hr
end Go.AM
