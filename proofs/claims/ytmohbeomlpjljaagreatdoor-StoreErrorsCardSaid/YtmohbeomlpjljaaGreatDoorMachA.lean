/- The machine with the first memos. -/
import Derived.Test.YtmohbeomlpjljaaGreatDoorMemoA0
import Derived.Test.YtmohbeomlpjljaaGreatDoorMemoA1
import Derived.Test.YtmohbeomlpjljaaGreatDoorMemoA2
namespace Go.Proofs.YtmohbeomlpjljaaGreatDoor
open Go Go.AM
set_option maxRecDepth 1000000
def mSuperGoodR : List Row := [mSuperGood0, mSuperGood1, mSuperGood2, mSuperGood3]
theorem mSuperGoodR_ok : ∀ r ∈ mSuperGoodR, ∃ n, rowB C0 40 n noTabs r = true := by
  intro r hr
  simp only [mSuperGoodR, List.mem_cons, List.not_mem_nil, or_false] at hr
  rcases hr with rfl | rfl | rfl | rfl
  · exact ⟨3000, mSuperGood0_ok⟩
  · exact ⟨3000, mSuperGood1_ok⟩
  · exact ⟨3000, mSuperGood2_ok⟩
  · exact ⟨3000, mSuperGood3_ok⟩
def mStringsRepeatR : List Row := [mStringsRepeat0, mStringsRepeat1, mStringsRepeat2, mStringsRepeat3, mStringsRepeat4, mStringsRepeat5]
theorem mStringsRepeatR_ok : ∀ r ∈ mStringsRepeatR, ∃ n, rowB C0 111 n noTabs r = true := by
  intro r hr
  simp only [mStringsRepeatR, List.mem_cons, List.not_mem_nil, or_false] at hr
  rcases hr with rfl | rfl | rfl | rfl | rfl | rfl
  · exact ⟨3000, mStringsRepeat0_ok⟩
  · exact ⟨3000, mStringsRepeat1_ok⟩
  · exact ⟨3000, mStringsRepeat2_ok⟩
  · exact ⟨3000, mStringsRepeat3_ok⟩
  · exact ⟨3000, mStringsRepeat4_ok⟩
  · exact ⟨3000, mStringsRepeat5_ok⟩
def mUmbelref04WithR : List Row := [mUmbelref04With0, mUmbelref04With1]
theorem mUmbelref04WithR_ok : ∀ r ∈ mUmbelref04WithR, ∃ n, rowB C0 72 n noTabs r = true := by
  intro r hr
  simp only [mUmbelref04WithR, List.mem_cons, List.not_mem_nil, or_false] at hr
  rcases hr with rfl | rfl
  · exact ⟨3000, mUmbelref04With0_ok⟩
  · exact ⟨3000, mUmbelref04With1_ok⟩
def mDigestOfR : List Row := [mDigestOf0, mDigestOf1]
theorem mDigestOfR_ok : ∀ r ∈ mDigestOfR, ∃ n, rowB C0 235 n tabs r = true := by
  intro r hr
  simp only [mDigestOfR, List.mem_cons, List.not_mem_nil, or_false] at hr
  rcases hr with rfl | rfl
  · exact ⟨3000, mDigestOf0_ok⟩
  · exact ⟨3000, mDigestOf1_ok⟩
def mNibbleOfR : List Row := [mNibbleOf0]
theorem mNibbleOfR_ok : ∀ r ∈ mNibbleOfR, ∃ n, rowB C0 143 n noTabs r = true := by
  intro r hr
  simp only [mNibbleOfR, List.mem_cons, List.not_mem_nil, or_false] at hr
  rcases hr with rfl
  · exact ⟨3000, mNibbleOf0_ok⟩
def mNibbleKeyR : List Row := [mNibbleKey0]
theorem mNibbleKeyR_ok : ∀ r ∈ mNibbleKeyR, ∃ n, rowB C0 313 n noTabs r = true := by
  intro r hr
  simp only [mNibbleKeyR, List.mem_cons, List.not_mem_nil, or_false] at hr
  rcases hr with rfl
  · exact ⟨3000, mNibbleKey0_ok⟩
def mNibblePackR : List Row := [mNibblePack0]
theorem mNibblePackR_ok : ∀ r ∈ mNibblePackR, ∃ n, rowB C0 169 n noTabs r = true := by
  intro r hr
  simp only [mNibblePackR, List.mem_cons, List.not_mem_nil, or_false] at hr
  rcases hr with rfl
  · exact ⟨3000, mNibblePack0_ok⟩
noncomputable def prA (i : Nat) : Option Prim :=
  bif i.beq 307 then some (noEscape) else
  bif i.beq 308 then some (makeNoZero 5) else
  bif i.beq 306 then some (sumAdd 2) else
  bif i.beq 202 then some (timesP) else
  bif i.beq 40 then some (memo 3 noTabs mSuperGoodR) else
  bif i.beq 111 then some (memo 3 noTabs mStringsRepeatR) else
  bif i.beq 72 then some (memo 3 noTabs mUmbelref04WithR) else
  bif i.beq 235 then some (memo 3 tabs mDigestOfR) else
  bif i.beq 143 then some (memo 3 noTabs mNibbleOfR) else
  bif i.beq 313 then some (memo 3 noTabs mNibbleKeyR) else
  bif i.beq 169 then some (memo 3 noTabs mNibblePackR) else none
noncomputable def Ca : Ctx := ctxR Tryz.prog (T.build prA 24 512 1 0) 3 []
theorem Ca_ok [Syms] : COk Ca := ctxR_ok mixed (fun _ h => by cases h)
theorem Ca_prims [Syms] (n : Nat) : PrimOk (Ca.from n) := by
  refine PrimOk.of fun g p h => ?_
  have h' : prA g = some p := ctxR_prim (P := Tryz.prog) (base := 3) (n := 512) (rules := []) (by decide) h
  unfold prA at h'
  cases h0 : g.beq 307
  case true =>
    rw [h0] at h'; cases h'
    obtain rfl := Nat.eq_of_beq_eq_true h0
    exact noEscape_at (C := Ca.from n) Tryz.func307 (by kernel_rfl) (by kernel_rfl) (by kernel_rfl) (by kernel_rfl)
  case false =>
    rw [h0] at h'; simp only [cond_false] at h'
    cases h1 : g.beq 308
    case true =>
      rw [h1] at h'; cases h'
      obtain rfl := Nat.eq_of_beq_eq_true h1
      exact makeNoZero_at (C := Ca.from n) (fn := Tryz.f308) (t := 217) Tryz.func308 (by kernel_rfl) (by kernel_rfl) (by kernel_rfl) (by kernel_rfl) (by kernel_rfl)
    case false =>
      rw [h1] at h'; simp only [cond_false] at h'
      cases h2 : g.beq 306
      case true =>
        rw [h2] at h'; cases h'
        obtain rfl := Nat.eq_of_beq_eq_true h2
        exact sumAdd_at (C := Ca.from n) Tryz.func306 rfl (by kernel_rfl) (by show 2 < 3; decide) (fun c hc s hs w hT => add_any c hc s hs w hT)
      case false =>
        rw [h2] at h'; simp only [cond_false] at h'
        cases h3 : g.beq 202
        case true =>
          rw [h3] at h'; cases h'
          obtain rfl := Nat.eq_of_beq_eq_true h3
          exact timesP_at (C := Ca.from n) rfl
        case false =>
          rw [h3] at h'; simp only [cond_false] at h'
          cases h4 : g.beq 40
          case true =>
            rw [h4] at h'; cases h'
            obtain rfl := Nat.eq_of_beq_eq_true h4
            exact memo_at (C := Ca.from n) C0_ok C0_prims rfl rfl (Nat.zero_le _) (by decide) Tryz.func40 rfl (by kernel_rfl) mSuperGoodR_ok
          case false =>
            rw [h4] at h'; simp only [cond_false] at h'
            cases h5 : g.beq 111
            case true =>
              rw [h5] at h'; cases h'
              obtain rfl := Nat.eq_of_beq_eq_true h5
              exact memo_at (C := Ca.from n) C0_ok C0_prims rfl rfl (Nat.zero_le _) (by decide) Tryz.func111 rfl (by kernel_rfl) mStringsRepeatR_ok
            case false =>
              rw [h5] at h'; simp only [cond_false] at h'
              cases h6 : g.beq 72
              case true =>
                rw [h6] at h'; cases h'
                obtain rfl := Nat.eq_of_beq_eq_true h6
                exact memo_at (C := Ca.from n) C0_ok C0_prims rfl rfl (Nat.zero_le _) (by decide) Tryz.func72 rfl (by kernel_rfl) mUmbelref04WithR_ok
              case false =>
                rw [h6] at h'; simp only [cond_false] at h'
                cases h7 : g.beq 235
                case true =>
                  rw [h7] at h'; cases h'
                  obtain rfl := Nat.eq_of_beq_eq_true h7
                  exact memo_at (C := Ca.from n) C0_ok C0_prims rfl rfl (Nat.zero_le _) (by decide) Tryz.func235 rfl (by kernel_rfl) mDigestOfR_ok
                case false =>
                  rw [h7] at h'; simp only [cond_false] at h'
                  cases h8 : g.beq 143
                  case true =>
                    rw [h8] at h'; cases h'
                    obtain rfl := Nat.eq_of_beq_eq_true h8
                    exact memo_at (C := Ca.from n) C0_ok C0_prims rfl rfl (Nat.zero_le _) (by decide) Tryz.func143 rfl (by kernel_rfl) mNibbleOfR_ok
                  case false =>
                    rw [h8] at h'; simp only [cond_false] at h'
                    cases h9 : g.beq 313
                    case true =>
                      rw [h9] at h'; cases h'
                      obtain rfl := Nat.eq_of_beq_eq_true h9
                      exact memo_at (C := Ca.from n) C0_ok C0_prims rfl rfl (Nat.zero_le _) (by decide) Tryz.func313 rfl (by kernel_rfl) mNibbleKeyR_ok
                    case false =>
                      rw [h9] at h'; simp only [cond_false] at h'
                      cases h10 : g.beq 169
                      case true =>
                        rw [h10] at h'; cases h'
                        obtain rfl := Nat.eq_of_beq_eq_true h10
                        exact memo_at (C := Ca.from n) C0_ok C0_prims rfl rfl (Nat.zero_le _) (by decide) Tryz.func169 rfl (by kernel_rfl) mNibblePackR_ok
                      case false =>
                        rw [h10] at h'; simp only [cond_false] at h'
                        cases h'
end Go.Proofs.YtmohbeomlpjljaaGreatDoor
