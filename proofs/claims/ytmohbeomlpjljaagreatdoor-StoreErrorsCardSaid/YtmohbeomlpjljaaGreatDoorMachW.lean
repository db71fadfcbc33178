/- The machine with all prims and memos. -/
import Derived.Test.YtmohbeomlpjljaaGreatDoorAmHeld
import Derived.Test.YtmohbeomlpjljaaGreatDoorData
import Derived.Test.YtmohbeomlpjljaaGreatDoorHeld
import Derived.Test.YtmohbeomlpjljaaGreatDoorSplit
import Derived.Test.YtmohbeomlpjljaaGreatDoorSha1
import Derived.Test.YtmohbeomlpjljaaGreatDoorMemoB0
import Derived.Test.YtmohbeomlpjljaaGreatDoorMemoB1
import Derived.Test.YtmohbeomlpjljaaGreatDoorMemoB2
import Derived.Test.YtmohbeomlpjljaaGreatDoorMemoB3
namespace Go.Proofs.YtmohbeomlpjljaaGreatDoor
open Go Go.AM
set_option maxRecDepth 1000000
def mPagePutR : List Row := [mPagePut0, mPagePut1, mPagePut2, mPagePut3, mPagePut4, mPagePut5]
theorem mPagePutR_ok : ∀ r ∈ mPagePutR, ∃ n, rowB Ca 174 n tabs r = true := by
  intro r hr
  simp only [mPagePutR, List.mem_cons, List.not_mem_nil, or_false] at hr
  rcases hr with rfl | rfl | rfl | rfl | rfl | rfl
  · exact ⟨3000, mPagePut0_ok⟩
  · exact ⟨3000, mPagePut1_ok⟩
  · exact ⟨3000, mPagePut2_ok⟩
  · exact ⟨3000, mPagePut3_ok⟩
  · exact ⟨3000, mPagePut4_ok⟩
  · exact ⟨3000, mPagePut5_ok⟩
def mSuperEncodeR : List Row := [mSuperEncode0, mSuperEncode1, mSuperEncode2]
theorem mSuperEncodeR_ok : ∀ r ∈ mSuperEncodeR, ∃ n, rowB Ca 115 n tabs r = true := by
  intro r hr
  simp only [mSuperEncodeR, List.mem_cons, List.not_mem_nil, or_false] at hr
  rcases hr with rfl | rfl | rfl
  · exact ⟨3000, mSuperEncode0_ok⟩
  · exact ⟨3000, mSuperEncode1_ok⟩
  · exact ⟨3000, mSuperEncode2_ok⟩
def mUmbelref03OfR : List Row := [mUmbelref03Of0]
theorem mUmbelref03OfR_ok : ∀ r ∈ mUmbelref03OfR, ∃ n, rowB Ca 122 n tabs r = true := by
  intro r hr
  simp only [mUmbelref03OfR, List.mem_cons, List.not_mem_nil, or_false] at hr
  rcases hr with rfl
  · exact ⟨3000, mUmbelref03Of0_ok⟩
def mUmbelref23EncodeR : List Row := [mUmbelref23Encode0, mUmbelref23Encode1]
theorem mUmbelref23EncodeR_ok : ∀ r ∈ mUmbelref23EncodeR, ∃ n, rowB Ca 58 n tabs r = true := by
  intro r hr
  simp only [mUmbelref23EncodeR, List.mem_cons, List.not_mem_nil, or_false] at hr
  rcases hr with rfl | rfl
  · exact ⟨3000, mUmbelref23Encode0_ok⟩
  · exact ⟨3000, mUmbelref23Encode1_ok⟩
def mSuperDecodeR : List Row := [mSuperDecode0, mSuperDecode1, mSuperDecode2]
theorem mSuperDecodeR_ok : ∀ r ∈ mSuperDecodeR, ∃ n, rowB Ca 125 n tabs r = true := by
  intro r hr
  simp only [mSuperDecodeR, List.mem_cons, List.not_mem_nil, or_false] at hr
  rcases hr with rfl | rfl | rfl
  · exact ⟨3000, mSuperDecode0_ok⟩
  · exact ⟨3000, mSuperDecode1_ok⟩
  · exact ⟨3000, mSuperDecode2_ok⟩
def mPageRightR : List Row := [mPageRight0, mPageRight1, mPageRight2, mPageRight3]
theorem mPageRightR_ok : ∀ r ∈ mPageRightR, ∃ n, rowB Ca 309 n tabs r = true := by
  intro r hr
  simp only [mPageRightR, List.mem_cons, List.not_mem_nil, or_false] at hr
  rcases hr with rfl | rfl | rfl | rfl
  · exact ⟨3000, mPageRight0_ok⟩
  · exact ⟨3000, mPageRight1_ok⟩
  · exact ⟨3000, mPageRight2_ok⟩
  · exact ⟨3000, mPageRight3_ok⟩
def mPageGetR : List Row := [mPageGet0, mPageGet1, mPageGet2, mPageGet3]
theorem mPageGetR_ok : ∀ r ∈ mPageGetR, ∃ n, rowB Ca 255 n tabs r = true := by
  intro r hr
  simp only [mPageGetR, List.mem_cons, List.not_mem_nil, or_false] at hr
  rcases hr with rfl | rfl | rfl | rfl
  · exact ⟨3000, mPageGet0_ok⟩
  · exact ⟨3000, mPageGet1_ok⟩
  · exact ⟨3000, mPageGet2_ok⟩
  · exact ⟨3000, mPageGet3_ok⟩
def mUmbelref23NumR : List Row := [mUmbelref23Num0, mUmbelref23Num1, mUmbelref23Num2, mUmbelref23Num3, mUmbelref23Num4, mUmbelref23Num5, mUmbelref23Num6]
theorem mUmbelref23NumR_ok : ∀ r ∈ mUmbelref23NumR, ∃ n, rowB Ca 196 n tabs r = true := by
  intro r hr
  simp only [mUmbelref23NumR, List.mem_cons, List.not_mem_nil, or_false] at hr
  rcases hr with rfl | rfl | rfl | rfl | rfl | rfl | rfl
  · exact ⟨3000, mUmbelref23Num0_ok⟩
  · exact ⟨3000, mUmbelref23Num1_ok⟩
  · exact ⟨3000, mUmbelref23Num2_ok⟩
  · exact ⟨3000, mUmbelref23Num3_ok⟩
  · exact ⟨3000, mUmbelref23Num4_ok⟩
  · exact ⟨3000, mUmbelref23Num5_ok⟩
  · exact ⟨3000, mUmbelref23Num6_ok⟩
def mNodeHashR : List Row := [mNodeHash0]
theorem mNodeHashR_ok : ∀ r ∈ mNodeHashR, ∃ n, rowB Ca 237 n tabs r = true := by
  intro r hr
  simp only [mNodeHashR, List.mem_cons, List.not_mem_nil, or_false] at hr
  rcases hr with rfl
  · exact ⟨3000, mNodeHash0_ok⟩
noncomputable def prW (i : Nat) : Option Prim :=
  bif i.beq 307 then some (noEscape) else
  bif i.beq 308 then some (makeNoZero 5) else
  bif i.beq 306 then some (sumAdd 2) else
  bif i.beq 202 then some (timesP) else
  bif i.beq 59 then some (diskData) else
  bif i.beq 227 then some (heldP 3) else
  bif i.beq 216 then some (splitP 3 46) else
  bif i.beq 74 then some (memo 3 noTabs [shaKrow]) else
  bif i.beq 73 then some (memo 3 noTabs [shaBrow]) else
  bif i.beq 40 then some (memo 3 noTabs mSuperGoodR) else
  bif i.beq 111 then some (memo 3 noTabs mStringsRepeatR) else
  bif i.beq 72 then some (memo 3 noTabs mUmbelref04WithR) else
  bif i.beq 235 then some (memo 3 tabs mDigestOfR) else
  bif i.beq 143 then some (memo 3 noTabs mNibbleOfR) else
  bif i.beq 313 then some (memo 3 noTabs mNibbleKeyR) else
  bif i.beq 169 then some (memo 3 noTabs mNibblePackR) else
  bif i.beq 174 then some (memo 3 tabs mPagePutR) else
  bif i.beq 115 then some (memo 3 tabs mSuperEncodeR) else
  bif i.beq 122 then some (memo 3 tabs mUmbelref03OfR) else
  bif i.beq 58 then some (memo 3 tabs mUmbelref23EncodeR) else
  bif i.beq 125 then some (memo 3 tabs mSuperDecodeR) else
  bif i.beq 309 then some (memo 3 tabs mPageRightR) else
  bif i.beq 255 then some (memo 3 tabs mPageGetR) else
  bif i.beq 196 then some (memo 3 tabs mUmbelref23NumR) else
  bif i.beq 237 then some (memo 3 tabs mNodeHashR) else none
noncomputable def Cw : Ctx := ctxR Tryz.prog (T.build prW 24 512 1 0) 3 []
theorem Cw_ok [Syms] : COk Cw := ctxR_ok mixed (fun _ h => by cases h)
theorem Cw_prims [Syms] (n : Nat) : PrimOk (Cw.from n) := by
  refine PrimOk.of fun g p h => ?_
  have h' : prW g = some p := ctxR_prim (P := Tryz.prog) (base := 3) (n := 512) (rules := []) (by decide) h
  unfold prW at h'
  cases h0 : g.beq 307
  case true =>
    rw [h0] at h'; cases h'
    obtain rfl := Nat.eq_of_beq_eq_true h0
    exact noEscape_at (C := Cw.from n) Tryz.func307 (by kernel_rfl) (by kernel_rfl) (by kernel_rfl) (by kernel_rfl)
  case false =>
    rw [h0] at h'; simp only [cond_false] at h'
    cases h1 : g.beq 308
    case true =>
      rw [h1] at h'; cases h'
      obtain rfl := Nat.eq_of_beq_eq_true h1
      exact makeNoZero_at (C := Cw.from n) (fn := Tryz.f308) (t := 217) Tryz.func308 (by kernel_rfl) (by kernel_rfl) (by kernel_rfl) (by kernel_rfl) (by kernel_rfl)
    case false =>
      rw [h1] at h'; simp only [cond_false] at h'
      cases h2 : g.beq 306
      case true =>
        rw [h2] at h'; cases h'
        obtain rfl := Nat.eq_of_beq_eq_true h2
        exact sumAdd_at (C := Cw.from n) Tryz.func306 rfl (by kernel_rfl) (by show 2 < 3; decide) (fun c hc s hs w hT => add_any c hc s hs w hT)
      case false =>
        rw [h2] at h'; simp only [cond_false] at h'
        cases h3 : g.beq 202
        case true =>
          rw [h3] at h'; cases h'
          obtain rfl := Nat.eq_of_beq_eq_true h3
          exact timesP_at (C := Cw.from n) rfl
        case false =>
          rw [h3] at h'; simp only [cond_false] at h'
          cases h4 : g.beq 59
          case true =>
            rw [h4] at h'; cases h'
            obtain rfl := Nat.eq_of_beq_eq_true h4
            exact diskData_at (C := Cw.from n) Tryz.func59 rfl (by kernel_rfl) data_law
          case false =>
            rw [h4] at h'; simp only [cond_false] at h'
            cases h5 : g.beq 227
            case true =>
              rw [h5] at h'; cases h'
              obtain rfl := Nat.eq_of_beq_eq_true h5
              exact heldP_at (C := Cw.from n) Tryz.func227 rfl (by kernel_rfl) held_law
            case false =>
              rw [h5] at h'; simp only [cond_false] at h'
              cases h6 : g.beq 216
              case true =>
                rw [h6] at h'; cases h'
                obtain rfl := Nat.eq_of_beq_eq_true h6
                exact splitP_at (C := Cw.from n) Tryz.func216 rfl (by kernel_rfl) split_law
              case false =>
                rw [h6] at h'; simp only [cond_false] at h'
                cases h7 : g.beq 74
                case true =>
                  rw [h7] at h'; cases h'
                  obtain rfl := Nat.eq_of_beq_eq_true h7
                  exact memo_at (C := Cw.from n) C1_ok C1_prims rfl rfl (Nat.zero_le _) (by decide) Tryz.func74 rfl (by kernel_rfl) (fun r hr => ⟨2000, by rw [List.mem_singleton.1 hr]; exact shaK_ok⟩)
                case false =>
                  rw [h7] at h'; simp only [cond_false] at h'
                  cases h8 : g.beq 73
                  case true =>
                    rw [h8] at h'; cases h'
                    obtain rfl := Nat.eq_of_beq_eq_true h8
                    exact memo_at (C := Cw.from n) C0_ok C0_prims rfl rfl (Nat.zero_le _) (by decide) Tryz.func73 rfl (by kernel_rfl) (fun r hr => ⟨2000, by rw [List.mem_singleton.1 hr]; exact shaB_ok⟩)
                  case false =>
                    rw [h8] at h'; simp only [cond_false] at h'
                    cases h9 : g.beq 40
                    case true =>
                      rw [h9] at h'; cases h'
                      obtain rfl := Nat.eq_of_beq_eq_true h9
                      exact memo_at (C := Cw.from n) C0_ok C0_prims rfl rfl (Nat.zero_le _) (by decide) Tryz.func40 rfl (by kernel_rfl) mSuperGoodR_ok
                    case false =>
                      rw [h9] at h'; simp only [cond_false] at h'
                      cases h10 : g.beq 111
                      case true =>
                        rw [h10] at h'; cases h'
                        obtain rfl := Nat.eq_of_beq_eq_true h10
                        exact memo_at (C := Cw.from n) C0_ok C0_prims rfl rfl (Nat.zero_le _) (by decide) Tryz.func111 rfl (by kernel_rfl) mStringsRepeatR_ok
                      case false =>
                        rw [h10] at h'; simp only [cond_false] at h'
                        cases h11 : g.beq 72
                        case true =>
                          rw [h11] at h'; cases h'
                          obtain rfl := Nat.eq_of_beq_eq_true h11
                          exact memo_at (C := Cw.from n) C0_ok C0_prims rfl rfl (Nat.zero_le _) (by decide) Tryz.func72 rfl (by kernel_rfl) mUmbelref04WithR_ok
                        case false =>
                          rw [h11] at h'; simp only [cond_false] at h'
                          cases h12 : g.beq 235
                          case true =>
                            rw [h12] at h'; cases h'
                            obtain rfl := Nat.eq_of_beq_eq_true h12
                            exact memo_at (C := Cw.from n) C0_ok C0_prims rfl rfl (Nat.zero_le _) (by decide) Tryz.func235 rfl (by kernel_rfl) mDigestOfR_ok
                          case false =>
                            rw [h12] at h'; simp only [cond_false] at h'
                            cases h13 : g.beq 143
                            case true =>
                              rw [h13] at h'; cases h'
                              obtain rfl := Nat.eq_of_beq_eq_true h13
                              exact memo_at (C := Cw.from n) C0_ok C0_prims rfl rfl (Nat.zero_le _) (by decide) Tryz.func143 rfl (by kernel_rfl) mNibbleOfR_ok
                            case false =>
                              rw [h13] at h'; simp only [cond_false] at h'
                              cases h14 : g.beq 313
                              case true =>
                                rw [h14] at h'; cases h'
                                obtain rfl := Nat.eq_of_beq_eq_true h14
                                exact memo_at (C := Cw.from n) C0_ok C0_prims rfl rfl (Nat.zero_le _) (by decide) Tryz.func313 rfl (by kernel_rfl) mNibbleKeyR_ok
                              case false =>
                                rw [h14] at h'; simp only [cond_false] at h'
                                cases h15 : g.beq 169
                                case true =>
                                  rw [h15] at h'; cases h'
                                  obtain rfl := Nat.eq_of_beq_eq_true h15
                                  exact memo_at (C := Cw.from n) C0_ok C0_prims rfl rfl (Nat.zero_le _) (by decide) Tryz.func169 rfl (by kernel_rfl) mNibblePackR_ok
                                case false =>
                                  rw [h15] at h'; simp only [cond_false] at h'
                                  cases h16 : g.beq 174
                                  case true =>
                                    rw [h16] at h'; cases h'
                                    obtain rfl := Nat.eq_of_beq_eq_true h16
                                    exact memo_at (C := Cw.from n) Ca_ok Ca_prims rfl rfl (Nat.zero_le _) (by decide) Tryz.func174 rfl (by kernel_rfl) mPagePutR_ok
                                  case false =>
                                    rw [h16] at h'; simp only [cond_false] at h'
                                    cases h17 : g.beq 115
                                    case true =>
                                      rw [h17] at h'; cases h'
                                      obtain rfl := Nat.eq_of_beq_eq_true h17
                                      exact memo_at (C := Cw.from n) Ca_ok Ca_prims rfl rfl (Nat.zero_le _) (by decide) Tryz.func115 rfl (by kernel_rfl) mSuperEncodeR_ok
                                    case false =>
                                      rw [h17] at h'; simp only [cond_false] at h'
                                      cases h18 : g.beq 122
                                      case true =>
                                        rw [h18] at h'; cases h'
                                        obtain rfl := Nat.eq_of_beq_eq_true h18
                                        exact memo_at (C := Cw.from n) Ca_ok Ca_prims rfl rfl (Nat.zero_le _) (by decide) Tryz.func122 rfl (by kernel_rfl) mUmbelref03OfR_ok
                                      case false =>
                                        rw [h18] at h'; simp only [cond_false] at h'
                                        cases h19 : g.beq 58
                                        case true =>
                                          rw [h19] at h'; cases h'
                                          obtain rfl := Nat.eq_of_beq_eq_true h19
                                          exact memo_at (C := Cw.from n) Ca_ok Ca_prims rfl rfl (Nat.zero_le _) (by decide) Tryz.func58 rfl (by kernel_rfl) mUmbelref23EncodeR_ok
                                        case false =>
                                          rw [h19] at h'; simp only [cond_false] at h'
                                          cases h20 : g.beq 125
                                          case true =>
                                            rw [h20] at h'; cases h'
                                            obtain rfl := Nat.eq_of_beq_eq_true h20
                                            exact memo_at (C := Cw.from n) Ca_ok Ca_prims rfl rfl (Nat.zero_le _) (by decide) Tryz.func125 rfl (by kernel_rfl) mSuperDecodeR_ok
                                          case false =>
                                            rw [h20] at h'; simp only [cond_false] at h'
                                            cases h21 : g.beq 309
                                            case true =>
                                              rw [h21] at h'; cases h'
                                              obtain rfl := Nat.eq_of_beq_eq_true h21
                                              exact memo_at (C := Cw.from n) Ca_ok Ca_prims rfl rfl (Nat.zero_le _) (by decide) Tryz.func309 rfl (by kernel_rfl) mPageRightR_ok
                                            case false =>
                                              rw [h21] at h'; simp only [cond_false] at h'
                                              cases h22 : g.beq 255
                                              case true =>
                                                rw [h22] at h'; cases h'
                                                obtain rfl := Nat.eq_of_beq_eq_true h22
                                                exact memo_at (C := Cw.from n) Ca_ok Ca_prims rfl rfl (Nat.zero_le _) (by decide) Tryz.func255 rfl (by kernel_rfl) mPageGetR_ok
                                              case false =>
                                                rw [h22] at h'; simp only [cond_false] at h'
                                                cases h23 : g.beq 196
                                                case true =>
                                                  rw [h23] at h'; cases h'
                                                  obtain rfl := Nat.eq_of_beq_eq_true h23
                                                  exact memo_at (C := Cw.from n) Ca_ok Ca_prims rfl rfl (Nat.zero_le _) (by decide) Tryz.func196 rfl (by kernel_rfl) mUmbelref23NumR_ok
                                                case false =>
                                                  rw [h23] at h'; simp only [cond_false] at h'
                                                  cases h24 : g.beq 237
                                                  case true =>
                                                    rw [h24] at h'; cases h'
                                                    obtain rfl := Nat.eq_of_beq_eq_true h24
                                                    exact memo_at (C := Cw.from n) Ca_ok Ca_prims rfl rfl (Nat.zero_le _) (by decide) Tryz.func237 rfl (by kernel_rfl) mNodeHashR_ok
                                                  case false =>
                                                    rw [h24] at h'; simp only [cond_false] at h'
                                                    cases h'

theorem tabs_given {w : World} (h0 : ∃ cs e fr, w.heap[0]? = some (.cells cs e fr) ∧ cs.toList = shaB) (h1 : ∃ cs e fr, w.heap[1]? = some (.cells cs e fr) ∧ cs.toList = shaK)
    (h2 : ∃ cs e fr, w.heap[2]? = some (.cells cs e fr) ∧ cs.toList = crcTab) (g : Nat) : Given w g (tabs g) := by
  unfold tabs
  cases e0 : g.beq 0
  · cases e1 : g.beq 1
    · cases e2 : g.beq 2
      · exact .inl rfl
      · obtain rfl := Nat.eq_of_beq_eq_true e2
        obtain ⟨cs, e, fr, h1, h2⟩ := h2
        exact .inr ⟨e, crcTab, cs, fr, rfl, h1, by rfl, h2⟩
    · obtain rfl := Nat.eq_of_beq_eq_true e1
      obtain ⟨cs, e, fr, h1, h2⟩ := h1
      exact .inr ⟨e, shaK, cs, fr, rfl, h1, by rfl, h2⟩
  · obtain rfl := Nat.eq_of_beq_eq_true e0
    obtain ⟨cs, e, fr, h1, h2⟩ := h0
    exact .inr ⟨e, shaB, cs, fr, rfl, h1, by rfl, h2⟩
end Go.Proofs.YtmohbeomlpjljaaGreatDoor
