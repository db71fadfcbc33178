/- The machine with the first memos. -/
import Derived.Test.YtofccfejfbekaaaGreatDoorMemoA0
import Derived.Test.YtofccfejfbekaaaGreatDoorMemoA1
namespace Go.Proofs.YtofccfejfbekaaaGreatDoor
open Go Go.AM
set_option maxRecDepth 1000000
def mSuperGoodR : List Row := [mSuperGood0, mSuperGood1, mSuperGood2]
theorem mSuperGoodR_ok : ∀ r ∈ mSuperGoodR, ∃ n, rowB C0 29 n noTabs r = true := by
  intro r hr
  simp only [mSuperGoodR, List.mem_cons, List.not_mem_nil, or_false] at hr
  rcases hr with rfl | rfl | rfl
  · exact ⟨3000, mSuperGood0_ok⟩
  · exact ⟨3000, mSuperGood1_ok⟩
  · exact ⟨3000, mSuperGood2_ok⟩
def mStringsRepeatR : List Row := [mStringsRepeat0, mStringsRepeat1, mStringsRepeat2, mStringsRepeat3, mStringsRepeat4, mStringsRepeat5]
theorem mStringsRepeatR_ok : ∀ r ∈ mStringsRepeatR, ∃ n, rowB C0 97 n noTabs r = true := by
  intro r hr
  simp only [mStringsRepeatR, List.mem_cons, List.not_mem_nil, or_false] at hr
  rcases hr with rfl | rfl | rfl | rfl | rfl | rfl
  · exact ⟨3000, mStringsRepeat0_ok⟩
  · exact ⟨3000, mStringsRepeat1_ok⟩
  · exact ⟨3000, mStringsRepeat2_ok⟩
  · exact ⟨3000, mStringsRepeat3_ok⟩
  · exact ⟨3000, mStringsRepeat4_ok⟩
  · exact ⟨3000, mStringsRepeat5_ok⟩
def mNibbleOfR : List Row := [mNibbleOf0]
theorem mNibbleOfR_ok : ∀ r ∈ mNibbleOfR, ∃ n, rowB C0 78 n noTabs r = true := by
  intro r hr
  simp only [mNibbleOfR, List.mem_cons, List.not_mem_nil, or_false] at hr
  rcases hr with rfl
  · exact ⟨3000, mNibbleOf0_ok⟩
def mNibbleKeyR : List Row := [mNibbleKey0]
theorem mNibbleKeyR_ok : ∀ r ∈ mNibbleKeyR, ∃ n, rowB C0 259 n noTabs r = true := by
  intro r hr
  simp only [mNibbleKeyR, List.mem_cons, List.not_mem_nil, or_false] at hr
  rcases hr with rfl
  · exact ⟨3000, mNibbleKey0_ok⟩
def mNibblePackR : List Row := [mNibblePack0]
theorem mNibblePackR_ok : ∀ r ∈ mNibblePackR, ∃ n, rowB C0 107 n noTabs r = true := by
  intro r hr
  simp only [mNibblePackR, List.mem_cons, List.not_mem_nil, or_false] at hr
  rcases hr with rfl
  · exact ⟨3000, mNibblePack0_ok⟩
def mDigestOfR : List Row := [mDigestOf0, mDigestOf1]
theorem mDigestOfR_ok : ∀ r ∈ mDigestOfR, ∃ n, rowB C0 174 n tabs r = true := by
  intro r hr
  simp only [mDigestOfR, List.mem_cons, List.not_mem_nil, or_false] at hr
  rcases hr with rfl | rfl
  · exact ⟨3000, mDigestOf0_ok⟩
  · exact ⟨3000, mDigestOf1_ok⟩
def mUmbelref04WithR : List Row := [mUmbelref04With0]
theorem mUmbelref04WithR_ok : ∀ r ∈ mUmbelref04WithR, ∃ n, rowB C0 129 n noTabs r = true := by
  intro r hr
  simp only [mUmbelref04WithR, List.mem_cons, List.not_mem_nil, or_false] at hr
  rcases hr with rfl
  · exact ⟨3000, mUmbelref04With0_ok⟩
noncomputable def prA (i : Nat) : Option Prim :=
  bif i.beq 278 then some (noEscape) else
  bif i.beq 279 then some (makeNoZero 5) else
  bif i.beq 270 then some (sumAdd 2) else
  bif i.beq 255 then some (timesP) else
  bif i.beq 29 then some (memo 3 noTabs mSuperGoodR) else
  bif i.beq 97 then some (memo 3 noTabs mStringsRepeatR) else
  bif i.beq 78 then some (memo 3 noTabs mNibbleOfR) else
  bif i.beq 259 then some (memo 3 noTabs mNibbleKeyR) else
  bif i.beq 107 then some (memo 3 noTabs mNibblePackR) else
  bif i.beq 174 then some (memo 3 tabs mDigestOfR) else
  bif i.beq 129 then some (memo 3 noTabs mUmbelref04WithR) else none
noncomputable def Ca : Ctx := ctx Tryz.prog (T.build prA 24 512 1 0) 3
theorem Ca_ok : COk Ca := ctx_ok mixed
theorem Ca_prims (n : Nat) : PrimOk (Ca.from n) := by
  refine PrimOk.of fun g p h => ?_
  have h' : prA g = some p := ctx_prim (P := Tryz.prog) (base := 3) (n := 512) (by decide) h
  unfold prA at h'
  cases h0 : g.beq 278
  case true =>
    rw [h0] at h'; cases h'
    obtain rfl := Nat.eq_of_beq_eq_true h0
    exact noEscape_at (C := Ca.from n) Tryz.func278 (by kernel_rfl) (by kernel_rfl) (by kernel_rfl) (by kernel_rfl)
  case false =>
    rw [h0] at h'; simp only [cond_false] at h'
    cases h1 : g.beq 279
    case true =>
      rw [h1] at h'; cases h'
      obtain rfl := Nat.eq_of_beq_eq_true h1
      exact makeNoZero_at (C := Ca.from n) (fn := Tryz.f279) (t := 209) Tryz.func279 (by kernel_rfl) (by kernel_rfl) (by kernel_rfl) (by kernel_rfl) (by kernel_rfl)
    case false =>
      rw [h1] at h'; simp only [cond_false] at h'
      cases h2 : g.beq 270
      case true =>
        rw [h2] at h'; cases h'
        obtain rfl := Nat.eq_of_beq_eq_true h2
        exact sumAdd_at (C := Ca.from n) Tryz.func270 rfl (by kernel_rfl) (by show 2 < 3; decide) (fun c hc s hs w hT => add_any c hc s hs w hT)
      case false =>
        rw [h2] at h'; simp only [cond_false] at h'
        cases h3 : g.beq 255
        case true =>
          rw [h3] at h'; cases h'
          obtain rfl := Nat.eq_of_beq_eq_true h3
          exact timesP_at (C := Ca.from n) rfl
        case false =>
          rw [h3] at h'; simp only [cond_false] at h'
          cases h4 : g.beq 29
          case true =>
            rw [h4] at h'; cases h'
            obtain rfl := Nat.eq_of_beq_eq_true h4
            exact memo_at (C := Ca.from n) C0_ok C0_prims rfl rfl (Nat.zero_le _) (by decide) Tryz.func29 rfl (by kernel_rfl) mSuperGoodR_ok
          case false =>
            rw [h4] at h'; simp only [cond_false] at h'
            cases h5 : g.beq 97
            case true =>
              rw [h5] at h'; cases h'
              obtain rfl := Nat.eq_of_beq_eq_true h5
              exact memo_at (C := Ca.from n) C0_ok C0_prims rfl rfl (Nat.zero_le _) (by decide) Tryz.func97 rfl (by kernel_rfl) mStringsRepeatR_ok
            case false =>
              rw [h5] at h'; simp only [cond_false] at h'
              cases h6 : g.beq 78
              case true =>
                rw [h6] at h'; cases h'
                obtain rfl := Nat.eq_of_beq_eq_true h6
                exact memo_at (C := Ca.from n) C0_ok C0_prims rfl rfl (Nat.zero_le _) (by decide) Tryz.func78 rfl (by kernel_rfl) mNibbleOfR_ok
              case false =>
                rw [h6] at h'; simp only [cond_false] at h'
                cases h7 : g.beq 259
                case true =>
                  rw [h7] at h'; cases h'
                  obtain rfl := Nat.eq_of_beq_eq_true h7
                  exact memo_at (C := Ca.from n) C0_ok C0_prims rfl rfl (Nat.zero_le _) (by decide) Tryz.func259 rfl (by kernel_rfl) mNibbleKeyR_ok
                case false =>
                  rw [h7] at h'; simp only [cond_false] at h'
                  cases h8 : g.beq 107
                  case true =>
                    rw [h8] at h'; cases h'
                    obtain rfl := Nat.eq_of_beq_eq_true h8
                    exact memo_at (C := Ca.from n) C0_ok C0_prims rfl rfl (Nat.zero_le _) (by decide) Tryz.func107 rfl (by kernel_rfl) mNibblePackR_ok
                  case false =>
                    rw [h8] at h'; simp only [cond_false] at h'
                    cases h9 : g.beq 174
                    case true =>
                      rw [h9] at h'; cases h'
                      obtain rfl := Nat.eq_of_beq_eq_true h9
                      exact memo_at (C := Ca.from n) C0_ok C0_prims rfl rfl (Nat.zero_le _) (by decide) Tryz.func174 rfl (by kernel_rfl) mDigestOfR_ok
                    case false =>
                      rw [h9] at h'; simp only [cond_false] at h'
                      cases h10 : g.beq 129
                      case true =>
                        rw [h10] at h'; cases h'
                        obtain rfl := Nat.eq_of_beq_eq_true h10
                        exact memo_at (C := Ca.from n) C0_ok C0_prims rfl rfl (Nat.zero_le _) (by decide) Tryz.func129 rfl (by kernel_rfl) mUmbelref04WithR_ok
                      case false =>
                        rw [h10] at h'; simp only [cond_false] at h'
                        cases h'
end Go.Proofs.YtofccfejfbekaaaGreatDoor
