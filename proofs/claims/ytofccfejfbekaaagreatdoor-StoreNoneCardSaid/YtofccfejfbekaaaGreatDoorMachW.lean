/- The machine with all prims and memos. -/
import Derived.Test.YtofccfejfbekaaaGreatDoorAmHeld
import Derived.Test.YtofccfejfbekaaaGreatDoorData
import Derived.Test.YtofccfejfbekaaaGreatDoorHeld
import Derived.Test.YtofccfejfbekaaaGreatDoorSplit
import Derived.Test.YtofccfejfbekaaaGreatDoorSha1
import Derived.Test.YtofccfejfbekaaaGreatDoorMemoB0
import Derived.Test.YtofccfejfbekaaaGreatDoorMemoB1
namespace Go.Proofs.YtofccfejfbekaaaGreatDoor
open Go Go.AM
set_option maxRecDepth 1000000
def mPagePutR : List Row := [mPagePut0, mPagePut1, mPagePut2, mPagePut3]
theorem mPagePutR_ok : ∀ r ∈ mPagePutR, ∃ n, rowB Ca 144 n tabs r = true := by
  intro r hr
  simp only [mPagePutR, List.mem_cons, List.not_mem_nil, or_false] at hr
  rcases hr with rfl | rfl | rfl | rfl
  · exact ⟨3000, mPagePut0_ok⟩
  · exact ⟨3000, mPagePut1_ok⟩
  · exact ⟨3000, mPagePut2_ok⟩
  · exact ⟨3000, mPagePut3_ok⟩
def mSuperEncodeR : List Row := [mSuperEncode0, mSuperEncode1]
theorem mSuperEncodeR_ok : ∀ r ∈ mSuperEncodeR, ∃ n, rowB Ca 102 n tabs r = true := by
  intro r hr
  simp only [mSuperEncodeR, List.mem_cons, List.not_mem_nil, or_false] at hr
  rcases hr with rfl | rfl
  · exact ⟨3000, mSuperEncode0_ok⟩
  · exact ⟨3000, mSuperEncode1_ok⟩
def mSuperDecodeR : List Row := [mSuperDecode0, mSuperDecode1, mSuperDecode2]
theorem mSuperDecodeR_ok : ∀ r ∈ mSuperDecodeR, ∃ n, rowB Ca 123 n tabs r = true := by
  intro r hr
  simp only [mSuperDecodeR, List.mem_cons, List.not_mem_nil, or_false] at hr
  rcases hr with rfl | rfl | rfl
  · exact ⟨3000, mSuperDecode0_ok⟩
  · exact ⟨3000, mSuperDecode1_ok⟩
  · exact ⟨3000, mSuperDecode2_ok⟩
def mPageRightR : List Row := [mPageRight0, mPageRight1, mPageRight2, mPageRight3]
theorem mPageRightR_ok : ∀ r ∈ mPageRightR, ∃ n, rowB Ca 285 n tabs r = true := by
  intro r hr
  simp only [mPageRightR, List.mem_cons, List.not_mem_nil, or_false] at hr
  rcases hr with rfl | rfl | rfl | rfl
  · exact ⟨3000, mPageRight0_ok⟩
  · exact ⟨3000, mPageRight1_ok⟩
  · exact ⟨3000, mPageRight2_ok⟩
  · exact ⟨3000, mPageRight3_ok⟩
def mPageGetR : List Row := [mPageGet0, mPageGet1, mPageGet2, mPageGet3]
theorem mPageGetR_ok : ∀ r ∈ mPageGetR, ∃ n, rowB Ca 241 n tabs r = true := by
  intro r hr
  simp only [mPageGetR, List.mem_cons, List.not_mem_nil, or_false] at hr
  rcases hr with rfl | rfl | rfl | rfl
  · exact ⟨3000, mPageGet0_ok⟩
  · exact ⟨3000, mPageGet1_ok⟩
  · exact ⟨3000, mPageGet2_ok⟩
  · exact ⟨3000, mPageGet3_ok⟩
def mNodeHashR : List Row := [mNodeHash0]
theorem mNodeHashR_ok : ∀ r ∈ mNodeHashR, ∃ n, rowB Ca 166 n tabs r = true := by
  intro r hr
  simp only [mNodeHashR, List.mem_cons, List.not_mem_nil, or_false] at hr
  rcases hr with rfl
  · exact ⟨3000, mNodeHash0_ok⟩
noncomputable def prW (i : Nat) : Option Prim :=
  bif i.beq 278 then some (noEscape) else
  bif i.beq 279 then some (makeNoZero 5) else
  bif i.beq 270 then some (sumAdd 2) else
  bif i.beq 255 then some (timesP) else
  bif i.beq 181 then some (diskData) else
  bif i.beq 162 then some (heldP 3) else
  bif i.beq 145 then some (splitP 3 44) else
  bif i.beq 128 then some (memo 3 noTabs [shaKrow]) else
  bif i.beq 127 then some (memo 3 noTabs [shaBrow]) else
  bif i.beq 29 then some (memo 3 noTabs mSuperGoodR) else
  bif i.beq 97 then some (memo 3 noTabs mStringsRepeatR) else
  bif i.beq 78 then some (memo 3 noTabs mNibbleOfR) else
  bif i.beq 259 then some (memo 3 noTabs mNibbleKeyR) else
  bif i.beq 107 then some (memo 3 noTabs mNibblePackR) else
  bif i.beq 174 then some (memo 3 tabs mDigestOfR) else
  bif i.beq 129 then some (memo 3 noTabs mUmbelref04WithR) else
  bif i.beq 144 then some (memo 3 tabs mPagePutR) else
  bif i.beq 102 then some (memo 3 tabs mSuperEncodeR) else
  bif i.beq 123 then some (memo 3 tabs mSuperDecodeR) else
  bif i.beq 285 then some (memo 3 tabs mPageRightR) else
  bif i.beq 241 then some (memo 3 tabs mPageGetR) else
  bif i.beq 166 then some (memo 3 tabs mNodeHashR) else none
noncomputable def Cw : Ctx := ctx Tryz.prog (T.build prW 24 512 1 0) 3
theorem Cw_ok : COk Cw := ctx_ok mixed
theorem Cw_prims (n : Nat) : PrimOk (Cw.from n) := by
  refine PrimOk.of fun g p h => ?_
  have h' : prW g = some p := ctx_prim (P := Tryz.prog) (base := 3) (n := 512) (by decide) h
  unfold prW at h'
  cases h0 : g.beq 278
  case true =>
    rw [h0] at h'; cases h'
    obtain rfl := Nat.eq_of_beq_eq_true h0
    exact noEscape_at (C := Cw.from n) Tryz.func278 (by kernel_rfl) (by kernel_rfl) (by kernel_rfl) (by kernel_rfl)
  case false =>
    rw [h0] at h'; simp only [cond_false] at h'
    cases h1 : g.beq 279
    case true =>
      rw [h1] at h'; cases h'
      obtain rfl := Nat.eq_of_beq_eq_true h1
      exact makeNoZero_at (C := Cw.from n) (fn := Tryz.f279) (t := 209) Tryz.func279 (by kernel_rfl) (by kernel_rfl) (by kernel_rfl) (by kernel_rfl) (by kernel_rfl)
    case false =>
      rw [h1] at h'; simp only [cond_false] at h'
      cases h2 : g.beq 270
      case true =>
        rw [h2] at h'; cases h'
        obtain rfl := Nat.eq_of_beq_eq_true h2
        exact sumAdd_at (C := Cw.from n) Tryz.func270 rfl (by kernel_rfl) (by show 2 < 3; decide) (fun c hc s hs w hT => add_any c hc s hs w hT)
      case false =>
        rw [h2] at h'; simp only [cond_false] at h'
        cases h3 : g.beq 255
        case true =>
          rw [h3] at h'; cases h'
          obtain rfl := Nat.eq_of_beq_eq_true h3
          exact timesP_at (C := Cw.from n) rfl
        case false =>
          rw [h3] at h'; simp only [cond_false] at h'
          cases h4 : g.beq 181
          case true =>
            rw [h4] at h'; cases h'
            obtain rfl := Nat.eq_of_beq_eq_true h4
            exact diskData_at (C := Cw.from n) Tryz.func181 rfl (by kernel_rfl) data_law
          case false =>
            rw [h4] at h'; simp only [cond_false] at h'
            cases h5 : g.beq 162
            case true =>
              rw [h5] at h'; cases h'
              obtain rfl := Nat.eq_of_beq_eq_true h5
              exact heldP_at (C := Cw.from n) Tryz.func162 rfl (by kernel_rfl) held_law
            case false =>
              rw [h5] at h'; simp only [cond_false] at h'
              cases h6 : g.beq 145
              case true =>
                rw [h6] at h'; cases h'
                obtain rfl := Nat.eq_of_beq_eq_true h6
                exact splitP_at (C := Cw.from n) Tryz.func145 rfl (by kernel_rfl) split_law
              case false =>
                rw [h6] at h'; simp only [cond_false] at h'
                cases h7 : g.beq 128
                case true =>
                  rw [h7] at h'; cases h'
                  obtain rfl := Nat.eq_of_beq_eq_true h7
                  exact memo_at (C := Cw.from n) C1_ok C1_prims rfl rfl (Nat.zero_le _) (by decide) Tryz.func128 rfl (by kernel_rfl) (fun r hr => ⟨2000, by rw [List.mem_singleton.1 hr]; exact shaK_ok⟩)
                case false =>
                  rw [h7] at h'; simp only [cond_false] at h'
                  cases h8 : g.beq 127
                  case true =>
                    rw [h8] at h'; cases h'
                    obtain rfl := Nat.eq_of_beq_eq_true h8
                    exact memo_at (C := Cw.from n) C0_ok C0_prims rfl rfl (Nat.zero_le _) (by decide) Tryz.func127 rfl (by kernel_rfl) (fun r hr => ⟨2000, by rw [List.mem_singleton.1 hr]; exact shaB_ok⟩)
                  case false =>
                    rw [h8] at h'; simp only [cond_false] at h'
                    cases h9 : g.beq 29
                    case true =>
                      rw [h9] at h'; cases h'
                      obtain rfl := Nat.eq_of_beq_eq_true h9
                      exact memo_at (C := Cw.from n) C0_ok C0_prims rfl rfl (Nat.zero_le _) (by decide) Tryz.func29 rfl (by kernel_rfl) mSuperGoodR_ok
                    case false =>
                      rw [h9] at h'; simp only [cond_false] at h'
                      cases h10 : g.beq 97
                      case true =>
                        rw [h10] at h'; cases h'
                        obtain rfl := Nat.eq_of_beq_eq_true h10
                        exact memo_at (C := Cw.from n) C0_ok C0_prims rfl rfl (Nat.zero_le _) (by decide) Tryz.func97 rfl (by kernel_rfl) mStringsRepeatR_ok
                      case false =>
                        rw [h10] at h'; simp only [cond_false] at h'
                        cases h11 : g.beq 78
                        case true =>
                          rw [h11] at h'; cases h'
                          obtain rfl := Nat.eq_of_beq_eq_true h11
                          exact memo_at (C := Cw.from n) C0_ok C0_prims rfl rfl (Nat.zero_le _) (by decide) Tryz.func78 rfl (by kernel_rfl) mNibbleOfR_ok
                        case false =>
                          rw [h11] at h'; simp only [cond_false] at h'
                          cases h12 : g.beq 259
                          case true =>
                            rw [h12] at h'; cases h'
                            obtain rfl := Nat.eq_of_beq_eq_true h12
                            exact memo_at (C := Cw.from n) C0_ok C0_prims rfl rfl (Nat.zero_le _) (by decide) Tryz.func259 rfl (by kernel_rfl) mNibbleKeyR_ok
                          case false =>
                            rw [h12] at h'; simp only [cond_false] at h'
                            cases h13 : g.beq 107
                            case true =>
                              rw [h13] at h'; cases h'
                              obtain rfl := Nat.eq_of_beq_eq_true h13
                              exact memo_at (C := Cw.from n) C0_ok C0_prims rfl rfl (Nat.zero_le _) (by decide) Tryz.func107 rfl (by kernel_rfl) mNibblePackR_ok
                            case false =>
                              rw [h13] at h'; simp only [cond_false] at h'
                              cases h14 : g.beq 174
                              case true =>
                                rw [h14] at h'; cases h'
                                obtain rfl := Nat.eq_of_beq_eq_true h14
                                exact memo_at (C := Cw.from n) C0_ok C0_prims rfl rfl (Nat.zero_le _) (by decide) Tryz.func174 rfl (by kernel_rfl) mDigestOfR_ok
                              case false =>
                                rw [h14] at h'; simp only [cond_false] at h'
                                cases h15 : g.beq 129
                                case true =>
                                  rw [h15] at h'; cases h'
                                  obtain rfl := Nat.eq_of_beq_eq_true h15
                                  exact memo_at (C := Cw.from n) C0_ok C0_prims rfl rfl (Nat.zero_le _) (by decide) Tryz.func129 rfl (by kernel_rfl) mUmbelref04WithR_ok
                                case false =>
                                  rw [h15] at h'; simp only [cond_false] at h'
                                  cases h16 : g.beq 144
                                  case true =>
                                    rw [h16] at h'; cases h'
                                    obtain rfl := Nat.eq_of_beq_eq_true h16
                                    exact memo_at (C := Cw.from n) Ca_ok Ca_prims rfl rfl (Nat.zero_le _) (by decide) Tryz.func144 rfl (by kernel_rfl) mPagePutR_ok
                                  case false =>
                                    rw [h16] at h'; simp only [cond_false] at h'
                                    cases h17 : g.beq 102
                                    case true =>
                                      rw [h17] at h'; cases h'
                                      obtain rfl := Nat.eq_of_beq_eq_true h17
                                      exact memo_at (C := Cw.from n) Ca_ok Ca_prims rfl rfl (Nat.zero_le _) (by decide) Tryz.func102 rfl (by kernel_rfl) mSuperEncodeR_ok
                                    case false =>
                                      rw [h17] at h'; simp only [cond_false] at h'
                                      cases h18 : g.beq 123
                                      case true =>
                                        rw [h18] at h'; cases h'
                                        obtain rfl := Nat.eq_of_beq_eq_true h18
                                        exact memo_at (C := Cw.from n) Ca_ok Ca_prims rfl rfl (Nat.zero_le _) (by decide) Tryz.func123 rfl (by kernel_rfl) mSuperDecodeR_ok
                                      case false =>
                                        rw [h18] at h'; simp only [cond_false] at h'
                                        cases h19 : g.beq 285
                                        case true =>
                                          rw [h19] at h'; cases h'
                                          obtain rfl := Nat.eq_of_beq_eq_true h19
                                          exact memo_at (C := Cw.from n) Ca_ok Ca_prims rfl rfl (Nat.zero_le _) (by decide) Tryz.func285 rfl (by kernel_rfl) mPageRightR_ok
                                        case false =>
                                          rw [h19] at h'; simp only [cond_false] at h'
                                          cases h20 : g.beq 241
                                          case true =>
                                            rw [h20] at h'; cases h'
                                            obtain rfl := Nat.eq_of_beq_eq_true h20
                                            exact memo_at (C := Cw.from n) Ca_ok Ca_prims rfl rfl (Nat.zero_le _) (by decide) Tryz.func241 rfl (by kernel_rfl) mPageGetR_ok
                                          case false =>
                                            rw [h20] at h'; simp only [cond_false] at h'
                                            cases h21 : g.beq 166
                                            case true =>
                                              rw [h21] at h'; cases h'
                                              obtain rfl := Nat.eq_of_beq_eq_true h21
                                              exact memo_at (C := Cw.from n) Ca_ok Ca_prims rfl rfl (Nat.zero_le _) (by decide) Tryz.func166 rfl (by kernel_rfl) mNodeHashR_ok
                                            case false =>
                                              rw [h21] at h'; simp only [cond_false] at h'
                                              cases h'

theorem tabs_given {w : World} (h0 : ∃ cs e fr, w.heap[0]? = some (.cells cs e fr) ∧ cs.toList = shaB) (h1 : ∃ cs e fr, w.heap[1]? = some (.cells cs e fr) ∧ cs.toList = shaK)
    (h2 : ∃ cs e fr, w.heap[2]? = some (.cells cs e fr) ∧ cs.toList = crcTab) (g : Nat) : Given w g (tabs g) := by
  unfold tabs
  cases e0 : g.beq 0
  · cases e1 : g.beq 1
    · cases e2 : g.beq 2
      · exact .inl rfl
      · obtain rfl := Nat.eq_of_beq_eq_true e2
        obtain ⟨cs, e, fr, h1, h2⟩ := h2
        exact .inr ⟨e, crcTab, cs, fr, rfl, h1, by rfl, h2⟩
    · obtain rfl := Nat.eq_of_beq_eq_true e1
      obtain ⟨cs, e, fr, h1, h2⟩ := h1
      exact .inr ⟨e, shaK, cs, fr, rfl, h1, by rfl, h2⟩
  · obtain rfl := Nat.eq_of_beq_eq_true e0
    obtain ⟨cs, e, fr, h1, h2⟩ := h0
    exact .inr ⟨e, shaB, cs, fr, rfl, h1, by rfl, h2⟩
end Go.Proofs.YtofccfejfbekaaaGreatDoor
