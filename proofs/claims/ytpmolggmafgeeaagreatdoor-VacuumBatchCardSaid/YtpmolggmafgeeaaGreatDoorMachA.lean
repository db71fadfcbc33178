/- The machine with the first memos. -/
import Derived.Test.YtpmolggmafgeeaaGreatDoorMemoA0
import Derived.Test.YtpmolggmafgeeaaGreatDoorMemoA1
import Derived.Test.YtpmolggmafgeeaaGreatDoorMemoA2
import Derived.Test.YtpmolggmafgeeaaGreatDoorMemoA3
import Derived.Test.YtpmolggmafgeeaaGreatDoorMemoA4
import Derived.Test.YtpmolggmafgeeaaGreatDoorMemoA5
import Derived.Test.YtpmolggmafgeeaaGreatDoorMemoA6
import Derived.Test.YtpmolggmafgeeaaGreatDoorMemoA7
namespace Go.Proofs.YtpmolggmafgeeaaGreatDoor
open Go Go.AM
set_option maxRecDepth 1000000
def mSuperGoodR : List Row := [mSuperGood0, mSuperGood1, mSuperGood2, mSuperGood3, mSuperGood4, mSuperGood5, mSuperGood6, mSuperGood7, mSuperGood8]
theorem mSuperGoodR_ok : ∀ r ∈ mSuperGoodR, ∃ n, rowB C0 62 n noTabs r = true := by
  intro r hr
  simp only [mSuperGoodR, List.mem_cons, List.not_mem_nil, or_false] at hr
  rcases hr with rfl | rfl | rfl | rfl | rfl | rfl | rfl | rfl | rfl
  · exact ⟨3000, mSuperGood0_ok⟩
  · exact ⟨3000, mSuperGood1_ok⟩
  · exact ⟨3000, mSuperGood2_ok⟩
  · exact ⟨3000, mSuperGood3_ok⟩
  · exact ⟨3000, mSuperGood4_ok⟩
  · exact ⟨3000, mSuperGood5_ok⟩
  · exact ⟨3000, mSuperGood6_ok⟩
  · exact ⟨3000, mSuperGood7_ok⟩
  · exact ⟨3000, mSuperGood8_ok⟩
def mStringsRepeatR : List Row := [mStringsRepeat0, mStringsRepeat1, mStringsRepeat2, mStringsRepeat3, mStringsRepeat4, mStringsRepeat5, mStringsRepeat6, mStringsRepeat7, mStringsRepeat8, mStringsRepeat9]
theorem mStringsRepeatR_ok : ∀ r ∈ mStringsRepeatR, ∃ n, rowB C0 100 n noTabs r = true := by
  intro r hr
  simp only [mStringsRepeatR, List.mem_cons, List.not_mem_nil, or_false] at hr
  rcases hr with rfl | rfl | rfl | rfl | rfl | rfl | rfl | rfl | rfl | rfl
  · exact ⟨3000, mStringsRepeat0_ok⟩
  · exact ⟨3000, mStringsRepeat1_ok⟩
  · exact ⟨3000, mStringsRepeat2_ok⟩
  · exact ⟨3000, mStringsRepeat3_ok⟩
  · exact ⟨3000, mStringsRepeat4_ok⟩
  · exact ⟨3000, mStringsRepeat5_ok⟩
  · exact ⟨3000, mStringsRepeat6_ok⟩
  · exact ⟨3000, mStringsRepeat7_ok⟩
  · exact ⟨3000, mStringsRepeat8_ok⟩
  · exact ⟨3000, mStringsRepeat9_ok⟩
def mNibbleOfR : List Row := [mNibbleOf0]
theorem mNibbleOfR_ok : ∀ r ∈ mNibbleOfR, ∃ n, rowB C0 319 n noTabs r = true := by
  intro r hr
  simp only [mNibbleOfR, List.mem_cons, List.not_mem_nil, or_false] at hr
  rcases hr with rfl
  · exact ⟨3000, mNibbleOf0_ok⟩
def mUmbelref02OfR : List Row := [mUmbelref02Of0]
theorem mUmbelref02OfR_ok : ∀ r ∈ mUmbelref02OfR, ∃ n, rowB C0 315 n noTabs r = true := by
  intro r hr
  simp only [mUmbelref02OfR, List.mem_cons, List.not_mem_nil, or_false] at hr
  rcases hr with rfl
  · exact ⟨3000, mUmbelref02Of0_ok⟩
def mNibbleKeyR : List Row := [mNibbleKey0]
theorem mNibbleKeyR_ok : ∀ r ∈ mNibbleKeyR, ∃ n, rowB C0 409 n noTabs r = true := by
  intro r hr
  simp only [mNibbleKeyR, List.mem_cons, List.not_mem_nil, or_false] at hr
  rcases hr with rfl
  · exact ⟨3000, mNibbleKey0_ok⟩
def mNibblePackR : List Row := [mNibblePack0]
theorem mNibblePackR_ok : ∀ r ∈ mNibblePackR, ∃ n, rowB C0 342 n noTabs r = true := by
  intro r hr
  simp only [mNibblePackR, List.mem_cons, List.not_mem_nil, or_false] at hr
  rcases hr with rfl
  · exact ⟨3000, mNibblePack0_ok⟩
def mDigestOfR : List Row := [mDigestOf0, mDigestOf1, mDigestOf2, mDigestOf3]
theorem mDigestOfR_ok : ∀ r ∈ mDigestOfR, ∃ n, rowB C0 194 n tabs r = true := by
  intro r hr
  simp only [mDigestOfR, List.mem_cons, List.not_mem_nil, or_false] at hr
  rcases hr with rfl | rfl | rfl | rfl
  · exact ⟨3000, mDigestOf0_ok⟩
  · exact ⟨3000, mDigestOf1_ok⟩
  · exact ⟨3000, mDigestOf2_ok⟩
  · exact ⟨3000, mDigestOf3_ok⟩
def mUmbelref02PackR : List Row := [mUmbelref02Pack0]
theorem mUmbelref02PackR_ok : ∀ r ∈ mUmbelref02PackR, ∃ n, rowB C0 346 n noTabs r = true := by
  intro r hr
  simp only [mUmbelref02PackR, List.mem_cons, List.not_mem_nil, or_false] at hr
  rcases hr with rfl
  · exact ⟨3000, mUmbelref02Pack0_ok⟩
def mUmbelref04WithR : List Row := [mUmbelref04With0, mUmbelref04With1, mUmbelref04With2, mUmbelref04With3]
theorem mUmbelref04WithR_ok : ∀ r ∈ mUmbelref04WithR, ∃ n, rowB C0 332 n noTabs r = true := by
  intro r hr
  simp only [mUmbelref04WithR, List.mem_cons, List.not_mem_nil, or_false] at hr
  rcases hr with rfl | rfl | rfl | rfl
  · exact ⟨3000, mUmbelref04With0_ok⟩
  · exact ⟨3000, mUmbelref04With1_ok⟩
  · exact ⟨3000, mUmbelref04With2_ok⟩
  · exact ⟨3000, mUmbelref04With3_ok⟩
noncomputable def prA (i : Nat) : Option Prim :=
  bif i.beq 348 then some (noEscape) else
  bif i.beq 349 then some (makeNoZero 5) else
  bif i.beq 347 then some (sumAdd 2) else
  bif i.beq 427 then some (timesP) else
  bif i.beq 111 then some (ref03) else
  bif i.beq 62 then some (memo 3 noTabs mSuperGoodR) else
  bif i.beq 100 then some (memo 3 noTabs mStringsRepeatR) else
  bif i.beq 319 then some (memo 3 noTabs mNibbleOfR) else
  bif i.beq 315 then some (memo 3 noTabs mUmbelref02OfR) else
  bif i.beq 409 then some (memo 3 noTabs mNibbleKeyR) else
  bif i.beq 342 then some (memo 3 noTabs mNibblePackR) else
  bif i.beq 194 then some (memo 3 tabs mDigestOfR) else
  bif i.beq 346 then some (memo 3 noTabs mUmbelref02PackR) else
  bif i.beq 332 then some (memo 3 noTabs mUmbelref04WithR) else none
noncomputable def Ca : Ctx := ctxR Tryz.prog (T.build prA 24 512 1 0) 3 []
theorem Ca_ok [Syms] : COk Ca := ctxR_ok mixed (fun _ h => by cases h)
theorem Ca_prims [Syms] (n : Nat) : PrimOk (Ca.from n) := by
  refine PrimOk.of fun g p h => ?_
  have h' : prA g = some p := ctxR_prim (P := Tryz.prog) (base := 3) (n := 512) (rules := []) (by decide) h
  unfold prA at h'
  cases h0 : g.beq 348
  case true =>
    rw [h0] at h'; cases h'
    obtain rfl := Nat.eq_of_beq_eq_true h0
    exact noEscape_at (C := Ca.from n) Tryz.func348 (by kernel_rfl) (by kernel_rfl) (by kernel_rfl) (by kernel_rfl)
  case false =>
    rw [h0] at h'; simp only [cond_false] at h'
    cases h1 : g.beq 349
    case true =>
      rw [h1] at h'; cases h'
      obtain rfl := Nat.eq_of_beq_eq_true h1
      exact makeNoZero_at (C := Ca.from n) (fn := Tryz.f349) (t := 94) Tryz.func349 (by kernel_rfl) (by kernel_rfl) (by kernel_rfl) (by kernel_rfl) (by kernel_rfl)
    case false =>
      rw [h1] at h'; simp only [cond_false] at h'
      cases h2 : g.beq 347
      case true =>
        rw [h2] at h'; cases h'
        obtain rfl := Nat.eq_of_beq_eq_true h2
        exact sumAdd_at (C := Ca.from n) Tryz.func347 rfl (by kernel_rfl) (by show 2 < 3; decide) (fun c hc s hs w hT => add_any c hc s hs w hT)
      case false =>
        rw [h2] at h'; simp only [cond_false] at h'
        cases h3 : g.beq 427
        case true =>
          rw [h3] at h'; cases h'
          obtain rfl := Nat.eq_of_beq_eq_true h3
          exact timesP_at (C := Ca.from n) rfl
        case false =>
          rw [h3] at h'; simp only [cond_false] at h'
          cases h4 : g.beq 111
          case true =>
            rw [h4] at h'; cases h'
            obtain rfl := Nat.eq_of_beq_eq_true h4
            exact ref03_at (C := Ca.from n) rfl
          case false =>
            rw [h4] at h'; simp only [cond_false] at h'
            cases h5 : g.beq 62
            case true =>
              rw [h5] at h'; cases h'
              obtain rfl := Nat.eq_of_beq_eq_true h5
              exact memo_at (C := Ca.from n) C0_ok C0_prims rfl rfl (Nat.zero_le _) (by decide) Tryz.func62 rfl (by kernel_rfl) mSuperGoodR_ok
            case false =>
              rw [h5] at h'; simp only [cond_false] at h'
              cases h6 : g.beq 100
              case true =>
                rw [h6] at h'; cases h'
                obtain rfl := Nat.eq_of_beq_eq_true h6
                exact memo_at (C := Ca.from n) C0_ok C0_prims rfl rfl (Nat.zero_le _) (by decide) Tryz.func100 rfl (by kernel_rfl) mStringsRepeatR_ok
              case false =>
                rw [h6] at h'; simp only [cond_false] at h'
                cases h7 : g.beq 319
                case true =>
                  rw [h7] at h'; cases h'
                  obtain rfl := Nat.eq_of_beq_eq_true h7
                  exact memo_at (C := Ca.from n) C0_ok C0_prims rfl rfl (Nat.zero_le _) (by decide) Tryz.func319 rfl (by kernel_rfl) mNibbleOfR_ok
                case false =>
                  rw [h7] at h'; simp only [cond_false] at h'
                  cases h8 : g.beq 315
                  case true =>
                    rw [h8] at h'; cases h'
                    obtain rfl := Nat.eq_of_beq_eq_true h8
                    exact memo_at (C := Ca.from n) C0_ok C0_prims rfl rfl (Nat.zero_le _) (by decide) Tryz.func315 rfl (by kernel_rfl) mUmbelref02OfR_ok
                  case false =>
                    rw [h8] at h'; simp only [cond_false] at h'
                    cases h9 : g.beq 409
                    case true =>
                      rw [h9] at h'; cases h'
                      obtain rfl := Nat.eq_of_beq_eq_true h9
                      exact memo_at (C := Ca.from n) C0_ok C0_prims rfl rfl (Nat.zero_le _) (by decide) Tryz.func409 rfl (by kernel_rfl) mNibbleKeyR_ok
                    case false =>
                      rw [h9] at h'; simp only [cond_false] at h'
                      cases h10 : g.beq 342
                      case true =>
                        rw [h10] at h'; cases h'
                        obtain rfl := Nat.eq_of_beq_eq_true h10
                        exact memo_at (C := Ca.from n) C0_ok C0_prims rfl rfl (Nat.zero_le _) (by decide) Tryz.func342 rfl (by kernel_rfl) mNibblePackR_ok
                      case false =>
                        rw [h10] at h'; simp only [cond_false] at h'
                        cases h11 : g.beq 194
                        case true =>
                          rw [h11] at h'; cases h'
                          obtain rfl := Nat.eq_of_beq_eq_true h11
                          exact memo_at (C := Ca.from n) C0_ok C0_prims rfl rfl (Nat.zero_le _) (by decide) Tryz.func194 rfl (by kernel_rfl) mDigestOfR_ok
                        case false =>
                          rw [h11] at h'; simp only [cond_false] at h'
                          cases h12 : g.beq 346
                          case true =>
                            rw [h12] at h'; cases h'
                            obtain rfl := Nat.eq_of_beq_eq_true h12
                            exact memo_at (C := Ca.from n) C0_ok C0_prims rfl rfl (Nat.zero_le _) (by decide) Tryz.func346 rfl (by kernel_rfl) mUmbelref02PackR_ok
                          case false =>
                            rw [h12] at h'; simp only [cond_false] at h'
                            cases h13 : g.beq 332
                            case true =>
                              rw [h13] at h'; cases h'
                              obtain rfl := Nat.eq_of_beq_eq_true h13
                              exact memo_at (C := Ca.from n) C0_ok C0_prims rfl rfl (Nat.zero_le _) (by decide) Tryz.func332 rfl (by kernel_rfl) mUmbelref04WithR_ok
                            case false =>
                              rw [h13] at h'; simp only [cond_false] at h'
                              cases h'
end Go.Proofs.YtpmolggmafgeeaaGreatDoor
