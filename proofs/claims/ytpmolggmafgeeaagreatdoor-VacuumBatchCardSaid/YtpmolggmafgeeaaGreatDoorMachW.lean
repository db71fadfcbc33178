/- The machine with all prims and memos. -/
import Derived.Test.YtpmolggmafgeeaaGreatDoorAmHeld
import Derived.Test.YtpmolggmafgeeaaGreatDoorData
import Derived.Test.YtpmolggmafgeeaaGreatDoorLay
import Derived.Test.YtpmolggmafgeeaaGreatDoorSha1
import Derived.Test.YtpmolggmafgeeaaGreatDoorMemoC
import Derived.Test.YtpmolggmafgeeaaGreatDoorMemoB0
import Derived.Test.YtpmolggmafgeeaaGreatDoorMemoB1
import Derived.Test.YtpmolggmafgeeaaGreatDoorMemoB2
import Derived.Test.YtpmolggmafgeeaaGreatDoorMemoB3
namespace Go.Proofs.YtpmolggmafgeeaaGreatDoor
open Go Go.AM
set_option maxRecDepth 1000000
def mPagePutR : List Row := [mPagePut0, mPagePut1, mPagePut2, mPagePut3, mPagePut4, mPagePut5, mPagePut6, mPagePut7, mPagePut8, mPagePut9, mPagePut10, mPagePut11, mPagePut12, mPagePut13, mPagePut14, mPagePut15, mPagePut16, mPagePut17, mPagePut18, mPagePut19]
theorem mPagePutR_ok : ∀ r ∈ mPagePutR, ∃ n, rowB Ca 164 n tabs r = true := by
  intro r hr
  simp only [mPagePutR, List.mem_cons, List.not_mem_nil, or_false] at hr
  rcases hr with rfl | rfl | rfl | rfl | rfl | rfl | rfl | rfl | rfl | rfl | rfl | rfl | rfl | rfl | rfl | rfl | rfl | rfl | rfl | rfl
  · exact ⟨3000, mPagePut0_ok⟩
  · exact ⟨3000, mPagePut1_ok⟩
  · exact ⟨3000, mPagePut2_ok⟩
  · exact ⟨3000, mPagePut3_ok⟩
  · exact ⟨3000, mPagePut4_ok⟩
  · exact ⟨3000, mPagePut5_ok⟩
  · exact ⟨3000, mPagePut6_ok⟩
  · exact ⟨3000, mPagePut7_ok⟩
  · exact ⟨3000, mPagePut8_ok⟩
  · exact ⟨3000, mPagePut9_ok⟩
  · exact ⟨3000, mPagePut10_ok⟩
  · exact ⟨3000, mPagePut11_ok⟩
  · exact ⟨3000, mPagePut12_ok⟩
  · exact ⟨3000, mPagePut13_ok⟩
  · exact ⟨3000, mPagePut14_ok⟩
  · exact ⟨3000, mPagePut15_ok⟩
  · exact ⟨3000, mPagePut16_ok⟩
  · exact ⟨3000, mPagePut17_ok⟩
  · exact ⟨3000, mPagePut18_ok⟩
  · exact ⟨3000, mPagePut19_ok⟩
def mSuperEncodeR : List Row := [mSuperEncode0, mSuperEncode1, mSuperEncode2, mSuperEncode3, mSuperEncode4, mSuperEncode5, mSuperEncode6, mSuperEncode7]
theorem mSuperEncodeR_ok : ∀ r ∈ mSuperEncodeR, ∃ n, rowB Ca 104 n tabs r = true := by
  intro r hr
  simp only [mSuperEncodeR, List.mem_cons, List.not_mem_nil, or_false] at hr
  rcases hr with rfl | rfl | rfl | rfl | rfl | rfl | rfl | rfl
  · exact ⟨3000, mSuperEncode0_ok⟩
  · exact ⟨3000, mSuperEncode1_ok⟩
  · exact ⟨3000, mSuperEncode2_ok⟩
  · exact ⟨3000, mSuperEncode3_ok⟩
  · exact ⟨3000, mSuperEncode4_ok⟩
  · exact ⟨3000, mSuperEncode5_ok⟩
  · exact ⟨3000, mSuperEncode6_ok⟩
  · exact ⟨3000, mSuperEncode7_ok⟩
def mUmbelref07PutR : List Row := [mUmbelref07Put0, mUmbelref07Put1, mUmbelref07Put2, mUmbelref07Put3, mUmbelref07Put4, mUmbelref07Put5, mUmbelref07Put6, mUmbelref07Put7, mUmbelref07Put8, mUmbelref07Put9]
theorem mUmbelref07PutR_ok : ∀ r ∈ mUmbelref07PutR, ∃ n, rowB Ca 173 n tabs r = true := by
  intro r hr
  simp only [mUmbelref07PutR, List.mem_cons, List.not_mem_nil, or_false] at hr
  rcases hr with rfl | rfl | rfl | rfl | rfl | rfl | rfl | rfl | rfl | rfl
  · exact ⟨3000, mUmbelref07Put0_ok⟩
  · exact ⟨3000, mUmbelref07Put1_ok⟩
  · exact ⟨3000, mUmbelref07Put2_ok⟩
  · exact ⟨3000, mUmbelref07Put3_ok⟩
  · exact ⟨3000, mUmbelref07Put4_ok⟩
  · exact ⟨3000, mUmbelref07Put5_ok⟩
  · exact ⟨3000, mUmbelref07Put6_ok⟩
  · exact ⟨3000, mUmbelref07Put7_ok⟩
  · exact ⟨3000, mUmbelref07Put8_ok⟩
  · exact ⟨3000, mUmbelref07Put9_ok⟩
def mUmbelref23EncodeR : List Row := [mUmbelref23Encode0, mUmbelref23Encode1, mUmbelref23Encode2, mUmbelref23Encode3, mUmbelref23Encode4]
theorem mUmbelref23EncodeR_ok : ∀ r ∈ mUmbelref23EncodeR, ∃ n, rowB Ca 46 n tabs r = true := by
  intro r hr
  simp only [mUmbelref23EncodeR, List.mem_cons, List.not_mem_nil, or_false] at hr
  rcases hr with rfl | rfl | rfl | rfl | rfl
  · exact ⟨3000, mUmbelref23Encode0_ok⟩
  · exact ⟨3000, mUmbelref23Encode1_ok⟩
  · exact ⟨3000, mUmbelref23Encode2_ok⟩
  · exact ⟨3000, mUmbelref23Encode3_ok⟩
  · exact ⟨3000, mUmbelref23Encode4_ok⟩
def mSuperDecodeR : List Row := [mSuperDecode0, mSuperDecode1]
theorem mSuperDecodeR_ok : ∀ r ∈ mSuperDecodeR, ∃ n, rowB Ca 113 n tabs r = true := by
  intro r hr
  simp only [mSuperDecodeR, List.mem_cons, List.not_mem_nil, or_false] at hr
  rcases hr with rfl | rfl
  · exact ⟨3000, mSuperDecode0_ok⟩
  · exact ⟨3000, mSuperDecode1_ok⟩
def mPageRightR : List Row := [mPageRight0, mPageRight1, mPageRight2, mPageRight3]
theorem mPageRightR_ok : ∀ r ∈ mPageRightR, ∃ n, rowB Ca 350 n tabs r = true := by
  intro r hr
  simp only [mPageRightR, List.mem_cons, List.not_mem_nil, or_false] at hr
  rcases hr with rfl | rfl | rfl | rfl
  · exact ⟨3000, mPageRight0_ok⟩
  · exact ⟨3000, mPageRight1_ok⟩
  · exact ⟨3000, mPageRight2_ok⟩
  · exact ⟨3000, mPageRight3_ok⟩
def mPageGetR : List Row := [mPageGet0, mPageGet1, mPageGet2, mPageGet3]
theorem mPageGetR_ok : ∀ r ∈ mPageGetR, ∃ n, rowB Ca 270 n tabs r = true := by
  intro r hr
  simp only [mPageGetR, List.mem_cons, List.not_mem_nil, or_false] at hr
  rcases hr with rfl | rfl | rfl | rfl
  · exact ⟨3000, mPageGet0_ok⟩
  · exact ⟨3000, mPageGet1_ok⟩
  · exact ⟨3000, mPageGet2_ok⟩
  · exact ⟨3000, mPageGet3_ok⟩
def mUmbelref23NumR : List Row := [mUmbelref23Num0, mUmbelref23Num1, mUmbelref23Num2, mUmbelref23Num3, mUmbelref23Num4, mUmbelref23Num5, mUmbelref23Num6]
theorem mUmbelref23NumR_ok : ∀ r ∈ mUmbelref23NumR, ∃ n, rowB Ca 185 n tabs r = true := by
  intro r hr
  simp only [mUmbelref23NumR, List.mem_cons, List.not_mem_nil, or_false] at hr
  rcases hr with rfl | rfl | rfl | rfl | rfl | rfl | rfl
  · exact ⟨3000, mUmbelref23Num0_ok⟩
  · exact ⟨3000, mUmbelref23Num1_ok⟩
  · exact ⟨3000, mUmbelref23Num2_ok⟩
  · exact ⟨3000, mUmbelref23Num3_ok⟩
  · exact ⟨3000, mUmbelref23Num4_ok⟩
  · exact ⟨3000, mUmbelref23Num5_ok⟩
  · exact ⟨3000, mUmbelref23Num6_ok⟩
def mUmbelref07GetR : List Row := [mUmbelref07Get0, mUmbelref07Get1, mUmbelref07Get2]
theorem mUmbelref07GetR_ok : ∀ r ∈ mUmbelref07GetR, ∃ n, rowB Ca 188 n tabs r = true := by
  intro r hr
  simp only [mUmbelref07GetR, List.mem_cons, List.not_mem_nil, or_false] at hr
  rcases hr with rfl | rfl | rfl
  · exact ⟨3000, mUmbelref07Get0_ok⟩
  · exact ⟨3000, mUmbelref07Get1_ok⟩
  · exact ⟨3000, mUmbelref07Get2_ok⟩
def mNodeEncodeR : List Row := [mNodeEncode0, mNodeEncode1, mNodeEncode2]
theorem mNodeEncodeR_ok : ∀ r ∈ mNodeEncodeR, ∃ n, rowB Ca 252 n tabs r = true := by
  intro r hr
  simp only [mNodeEncodeR, List.mem_cons, List.not_mem_nil, or_false] at hr
  rcases hr with rfl | rfl | rfl
  · exact ⟨3000, mNodeEncode0_ok⟩
  · exact ⟨3000, mNodeEncode1_ok⟩
  · exact ⟨3000, mNodeEncode2_ok⟩
def mNodeHashR : List Row := [mNodeHash0, mNodeHash1, mNodeHash2]
theorem mNodeHashR_ok : ∀ r ∈ mNodeHashR, ∃ n, rowB Ca 284 n tabs r = true := by
  intro r hr
  simp only [mNodeHashR, List.mem_cons, List.not_mem_nil, or_false] at hr
  rcases hr with rfl | rfl | rfl
  · exact ⟨3000, mNodeHash0_ok⟩
  · exact ⟨3000, mNodeHash1_ok⟩
  · exact ⟨3000, mNodeHash2_ok⟩
def mUmbelref02KeyR : List Row := [mUmbelref02Key0]
theorem mUmbelref02KeyR_ok : ∀ r ∈ mUmbelref02KeyR, ∃ n, rowB Ca 312 n tabs r = true := by
  intro r hr
  simp only [mUmbelref02KeyR, List.mem_cons, List.not_mem_nil, or_false] at hr
  rcases hr with rfl
  · exact ⟨3000, mUmbelref02Key0_ok⟩
def mNibbleUnpackR : List Row := [mNibbleUnpack0, mNibbleUnpack1, mNibbleUnpack2]
theorem mNibbleUnpackR_ok : ∀ r ∈ mNibbleUnpackR, ∃ n, rowB Ca 407 n tabs r = true := by
  intro r hr
  simp only [mNibbleUnpackR, List.mem_cons, List.not_mem_nil, or_false] at hr
  rcases hr with rfl | rfl | rfl
  · exact ⟨3000, mNibbleUnpack0_ok⟩
  · exact ⟨3000, mNibbleUnpack1_ok⟩
  · exact ⟨3000, mNibbleUnpack2_ok⟩
def mUmbelref02UnpackR : List Row := [mUmbelref02Unpack0, mUmbelref02Unpack1]
theorem mUmbelref02UnpackR_ok : ∀ r ∈ mUmbelref02UnpackR, ∃ n, rowB Ca 437 n tabs r = true := by
  intro r hr
  simp only [mUmbelref02UnpackR, List.mem_cons, List.not_mem_nil, or_false] at hr
  rcases hr with rfl | rfl
  · exact ⟨3000, mUmbelref02Unpack0_ok⟩
  · exact ⟨3000, mUmbelref02Unpack1_ok⟩
noncomputable def prW (i : Nat) : Option Prim :=
  bif i.beq 348 then some (noEscape) else
  bif i.beq 349 then some (makeNoZero 5) else
  bif i.beq 347 then some (sumAdd 2) else
  bif i.beq 427 then some (timesP) else
  bif i.beq 111 then some (ref03) else
  bif i.beq 21 then some (diskData) else
  bif i.beq 293 then some (heldP 3) else
  bif i.beq 213 then some (splitP 3 56) else
  bif i.beq 331 then some (memo 3 noTabs [shaKrow]) else
  bif i.beq 330 then some (memo 3 noTabs [shaBrow]) else
  bif i.beq 62 then some (memo 3 noTabs mSuperGoodR) else
  bif i.beq 100 then some (memo 3 noTabs mStringsRepeatR) else
  bif i.beq 319 then some (memo 3 noTabs mNibbleOfR) else
  bif i.beq 315 then some (memo 3 noTabs mUmbelref02OfR) else
  bif i.beq 409 then some (memo 3 noTabs mNibbleKeyR) else
  bif i.beq 342 then some (memo 3 noTabs mNibblePackR) else
  bif i.beq 194 then some (memo 3 tabs mDigestOfR) else
  bif i.beq 346 then some (memo 3 noTabs mUmbelref02PackR) else
  bif i.beq 332 then some (memo 3 noTabs mUmbelref04WithR) else
  bif i.beq 164 then some (memo 3 tabs mPagePutR) else
  bif i.beq 104 then some (memo 3 tabs mSuperEncodeR) else
  bif i.beq 173 then some (memo 3 tabs mUmbelref07PutR) else
  bif i.beq 46 then some (memo 3 tabs mUmbelref23EncodeR) else
  bif i.beq 113 then some (memo 3 tabs mSuperDecodeR) else
  bif i.beq 350 then some (memo 3 tabs mPageRightR) else
  bif i.beq 270 then some (memo 3 tabs mPageGetR) else
  bif i.beq 185 then some (memo 3 tabs mUmbelref23NumR) else
  bif i.beq 188 then some (memo 3 tabs mUmbelref07GetR) else
  bif i.beq 252 then some (memo 3 tabs mNodeEncodeR) else
  bif i.beq 284 then some (memo 3 tabs mNodeHashR) else
  bif i.beq 312 then some (memo 3 tabs mUmbelref02KeyR) else
  bif i.beq 407 then some (memo 3 tabs mNibbleUnpackR) else
  bif i.beq 437 then some (memo 3 tabs mUmbelref02UnpackR) else
  bif i.beq 334 then some (memo 3 tabs mUmbelref04OfR) else none
noncomputable def Cw : Ctx := ctxR Tryz.prog (T.build prW 24 512 1 0) 3 []
theorem Cw_ok [Syms] : COk Cw := ctxR_ok mixed (fun _ h => by cases h)
theorem Cw_prims [Syms] (n : Nat) : PrimOk (Cw.from n) := by
  refine PrimOk.of fun g p h => ?_
  have h' : prW g = some p := ctxR_prim (P := Tryz.prog) (base := 3) (n := 512) (rules := []) (by decide) h
  unfold prW at h'
  cases h0 : g.beq 348
  case true =>
    rw [h0] at h'; cases h'
    obtain rfl := Nat.eq_of_beq_eq_true h0
    exact noEscape_at (C := Cw.from n) Tryz.func348 (by kernel_rfl) (by kernel_rfl) (by kernel_rfl) (by kernel_rfl)
  case false =>
    rw [h0] at h'; simp only [cond_false] at h'
    cases h1 : g.beq 349
    case true =>
      rw [h1] at h'; cases h'
      obtain rfl := Nat.eq_of_beq_eq_true h1
      exact makeNoZero_at (C := Cw.from n) (fn := Tryz.f349) (t := 94) Tryz.func349 (by kernel_rfl) (by kernel_rfl) (by kernel_rfl) (by kernel_rfl) (by kernel_rfl)
    case false =>
      rw [h1] at h'; simp only [cond_false] at h'
      cases h2 : g.beq 347
      case true =>
        rw [h2] at h'; cases h'
        obtain rfl := Nat.eq_of_beq_eq_true h2
        exact sumAdd_at (C := Cw.from n) Tryz.func347 rfl (by kernel_rfl) (by show 2 < 3; decide) (fun c hc s hs w hT => add_any c hc s hs w hT)
      case false =>
        rw [h2] at h'; simp only [cond_false] at h'
        cases h3 : g.beq 427
        case true =>
          rw [h3] at h'; cases h'
          obtain rfl := Nat.eq_of_beq_eq_true h3
          exact timesP_at (C := Cw.from n) rfl
        case false =>
          rw [h3] at h'; simp only [cond_false] at h'
          cases h4 : g.beq 111
          case true =>
            rw [h4] at h'; cases h'
            obtain rfl := Nat.eq_of_beq_eq_true h4
            exact ref03_at (C := Cw.from n) rfl
          case false =>
            rw [h4] at h'; simp only [cond_false] at h'
            cases h5 : g.beq 21
            case true =>
              rw [h5] at h'; cases h'
              obtain rfl := Nat.eq_of_beq_eq_true h5
              exact diskData_at (C := Cw.from n) Tryz.func21 rfl (by kernel_rfl) data_law
            case false =>
              rw [h5] at h'; simp only [cond_false] at h'
              cases h6 : g.beq 293
              case true =>
                rw [h6] at h'; cases h'
                obtain rfl := Nat.eq_of_beq_eq_true h6
                exact heldP_at (C := Cw.from n) Tryz.func293 rfl (by kernel_rfl) held_law
              case false =>
                rw [h6] at h'; simp only [cond_false] at h'
                cases h7 : g.beq 213
                case true =>
                  rw [h7] at h'; cases h'
                  obtain rfl := Nat.eq_of_beq_eq_true h7
                  exact splitP_at (C := Cw.from n) Tryz.func213 rfl (by kernel_rfl) split_law
                case false =>
                  rw [h7] at h'; simp only [cond_false] at h'
                  cases h8 : g.beq 331
                  case true =>
                    rw [h8] at h'; cases h'
                    obtain rfl := Nat.eq_of_beq_eq_true h8
                    exact memo_at (C := Cw.from n) C1_ok C1_prims rfl rfl (Nat.zero_le _) (by decide) Tryz.func331 rfl (by kernel_rfl) (fun r hr => ⟨2000, by rw [List.mem_singleton.1 hr]; exact shaK_ok⟩)
                  case false =>
                    rw [h8] at h'; simp only [cond_false] at h'
                    cases h9 : g.beq 330
                    case true =>
                      rw [h9] at h'; cases h'
                      obtain rfl := Nat.eq_of_beq_eq_true h9
                      exact memo_at (C := Cw.from n) C0_ok C0_prims rfl rfl (Nat.zero_le _) (by decide) Tryz.func330 rfl (by kernel_rfl) (fun r hr => ⟨2000, by rw [List.mem_singleton.1 hr]; exact shaB_ok⟩)
                    case false =>
                      rw [h9] at h'; simp only [cond_false] at h'
                      cases h10 : g.beq 62
                      case true =>
                        rw [h10] at h'; cases h'
                        obtain rfl := Nat.eq_of_beq_eq_true h10
                        exact memo_at (C := Cw.from n) C0_ok C0_prims rfl rfl (Nat.zero_le _) (by decide) Tryz.func62 rfl (by kernel_rfl) mSuperGoodR_ok
                      case false =>
                        rw [h10] at h'; simp only [cond_false] at h'
                        cases h11 : g.beq 100
                        case true =>
                          rw [h11] at h'; cases h'
                          obtain rfl := Nat.eq_of_beq_eq_true h11
                          exact memo_at (C := Cw.from n) C0_ok C0_prims rfl rfl (Nat.zero_le _) (by decide) Tryz.func100 rfl (by kernel_rfl) mStringsRepeatR_ok
                        case false =>
                          rw [h11] at h'; simp only [cond_false] at h'
                          cases h12 : g.beq 319
                          case true =>
                            rw [h12] at h'; cases h'
                            obtain rfl := Nat.eq_of_beq_eq_true h12
                            exact memo_at (C := Cw.from n) C0_ok C0_prims rfl rfl (Nat.zero_le _) (by decide) Tryz.func319 rfl (by kernel_rfl) mNibbleOfR_ok
                          case false =>
                            rw [h12] at h'; simp only [cond_false] at h'
                            cases h13 : g.beq 315
                            case true =>
                              rw [h13] at h'; cases h'
                              obtain rfl := Nat.eq_of_beq_eq_true h13
                              exact memo_at (C := Cw.from n) C0_ok C0_prims rfl rfl (Nat.zero_le _) (by decide) Tryz.func315 rfl (by kernel_rfl) mUmbelref02OfR_ok
                            case false =>
                              rw [h13] at h'; simp only [cond_false] at h'
                              cases h14 : g.beq 409
                              case true =>
                                rw [h14] at h'; cases h'
                                obtain rfl := Nat.eq_of_beq_eq_true h14
                                exact memo_at (C := Cw.from n) C0_ok C0_prims rfl rfl (Nat.zero_le _) (by decide) Tryz.func409 rfl (by kernel_rfl) mNibbleKeyR_ok
                              case false =>
                                rw [h14] at h'; simp only [cond_false] at h'
                                cases h15 : g.beq 342
                                case true =>
                                  rw [h15] at h'; cases h'
                                  obtain rfl := Nat.eq_of_beq_eq_true h15
                                  exact memo_at (C := Cw.from n) C0_ok C0_prims rfl rfl (Nat.zero_le _) (by decide) Tryz.func342 rfl (by kernel_rfl) mNibblePackR_ok
                                case false =>
                                  rw [h15] at h'; simp only [cond_false] at h'
                                  cases h16 : g.beq 194
                                  case true =>
                                    rw [h16] at h'; cases h'
                                    obtain rfl := Nat.eq_of_beq_eq_true h16
                                    exact memo_at (C := Cw.from n) C0_ok C0_prims rfl rfl (Nat.zero_le _) (by decide) Tryz.func194 rfl (by kernel_rfl) mDigestOfR_ok
                                  case false =>
                                    rw [h16] at h'; simp only [cond_false] at h'
                                    cases h17 : g.beq 346
                                    case true =>
                                      rw [h17] at h'; cases h'
                                      obtain rfl := Nat.eq_of_beq_eq_true h17
                                      exact memo_at (C := Cw.from n) C0_ok C0_prims rfl rfl (Nat.zero_le _) (by decide) Tryz.func346 rfl (by kernel_rfl) mUmbelref02PackR_ok
                                    case false =>
                                      rw [h17] at h'; simp only [cond_false] at h'
                                      cases h18 : g.beq 332
                                      case true =>
                                        rw [h18] at h'; cases h'
                                        obtain rfl := Nat.eq_of_beq_eq_true h18
                                        exact memo_at (C := Cw.from n) C0_ok C0_prims rfl rfl (Nat.zero_le _) (by decide) Tryz.func332 rfl (by kernel_rfl) mUmbelref04WithR_ok
                                      case false =>
                                        rw [h18] at h'; simp only [cond_false] at h'
                                        cases h19 : g.beq 164
                                        case true =>
                                          rw [h19] at h'; cases h'
                                          obtain rfl := Nat.eq_of_beq_eq_true h19
                                          exact memo_at (C := Cw.from n) Ca_ok Ca_prims rfl rfl (Nat.zero_le _) (by decide) Tryz.func164 rfl (by kernel_rfl) mPagePutR_ok
                                        case false =>
                                          rw [h19] at h'; simp only [cond_false] at h'
                                          cases h20 : g.beq 104
                                          case true =>
                                            rw [h20] at h'; cases h'
                                            obtain rfl := Nat.eq_of_beq_eq_true h20
                                            exact memo_at (C := Cw.from n) Ca_ok Ca_prims rfl rfl (Nat.zero_le _) (by decide) Tryz.func104 rfl (by kernel_rfl) mSuperEncodeR_ok
                                          case false =>
                                            rw [h20] at h'; simp only [cond_false] at h'
                                            cases h21 : g.beq 173
                                            case true =>
                                              rw [h21] at h'; cases h'
                                              obtain rfl := Nat.eq_of_beq_eq_true h21
                                              exact memo_at (C := Cw.from n) Ca_ok Ca_prims rfl rfl (Nat.zero_le _) (by decide) Tryz.func173 rfl (by kernel_rfl) mUmbelref07PutR_ok
                                            case false =>
                                              rw [h21] at h'; simp only [cond_false] at h'
                                              cases h22 : g.beq 46
                                              case true =>
                                                rw [h22] at h'; cases h'
                                                obtain rfl := Nat.eq_of_beq_eq_true h22
                                                exact memo_at (C := Cw.from n) Ca_ok Ca_prims rfl rfl (Nat.zero_le _) (by decide) Tryz.func46 rfl (by kernel_rfl) mUmbelref23EncodeR_ok
                                              case false =>
                                                rw [h22] at h'; simp only [cond_false] at h'
                                                cases h23 : g.beq 113
                                                case true =>
                                                  rw [h23] at h'; cases h'
                                                  obtain rfl := Nat.eq_of_beq_eq_true h23
                                                  exact memo_at (C := Cw.from n) Ca_ok Ca_prims rfl rfl (Nat.zero_le _) (by decide) Tryz.func113 rfl (by kernel_rfl) mSuperDecodeR_ok
                                                case false =>
                                                  rw [h23] at h'; simp only [cond_false] at h'
                                                  cases h24 : g.beq 350
                                                  case true =>
                                                    rw [h24] at h'; cases h'
                                                    obtain rfl := Nat.eq_of_beq_eq_true h24
                                                    exact memo_at (C := Cw.from n) Ca_ok Ca_prims rfl rfl (Nat.zero_le _) (by decide) Tryz.func350 rfl (by kernel_rfl) mPageRightR_ok
                                                  case false =>
                                                    rw [h24] at h'; simp only [cond_false] at h'
                                                    cases h25 : g.beq 270
                                                    case true =>
                                                      rw [h25] at h'; cases h'
                                                      obtain rfl := Nat.eq_of_beq_eq_true h25
                                                      exact memo_at (C := Cw.from n) Ca_ok Ca_prims rfl rfl (Nat.zero_le _) (by decide) Tryz.func270 rfl (by kernel_rfl) mPageGetR_ok
                                                    case false =>
                                                      rw [h25] at h'; simp only [cond_false] at h'
                                                      cases h26 : g.beq 185
                                                      case true =>
                                                        rw [h26] at h'; cases h'
                                                        obtain rfl := Nat.eq_of_beq_eq_true h26
                                                        exact memo_at (C := Cw.from n) Ca_ok Ca_prims rfl rfl (Nat.zero_le _) (by decide) Tryz.func185 rfl (by kernel_rfl) mUmbelref23NumR_ok
                                                      case false =>
                                                        rw [h26] at h'; simp only [cond_false] at h'
                                                        cases h27 : g.beq 188
                                                        case true =>
                                                          rw [h27] at h'; cases h'
                                                          obtain rfl := Nat.eq_of_beq_eq_true h27
                                                          exact memo_at (C := Cw.from n) Ca_ok Ca_prims rfl rfl (Nat.zero_le _) (by decide) Tryz.func188 rfl (by kernel_rfl) mUmbelref07GetR_ok
                                                        case false =>
                                                          rw [h27] at h'; simp only [cond_false] at h'
                                                          cases h28 : g.beq 252
                                                          case true =>
                                                            rw [h28] at h'; cases h'
                                                            obtain rfl := Nat.eq_of_beq_eq_true h28
                                                            exact memo_at (C := Cw.from n) Ca_ok Ca_prims rfl rfl (Nat.zero_le _) (by decide) Tryz.func252 rfl (by kernel_rfl) mNodeEncodeR_ok
                                                          case false =>
                                                            rw [h28] at h'; simp only [cond_false] at h'
                                                            cases h29 : g.beq 284
                                                            case true =>
                                                              rw [h29] at h'; cases h'
                                                              obtain rfl := Nat.eq_of_beq_eq_true h29
                                                              exact memo_at (C := Cw.from n) Ca_ok Ca_prims rfl rfl (Nat.zero_le _) (by decide) Tryz.func284 rfl (by kernel_rfl) mNodeHashR_ok
                                                            case false =>
                                                              rw [h29] at h'; simp only [cond_false] at h'
                                                              cases h30 : g.beq 312
                                                              case true =>
                                                                rw [h30] at h'; cases h'
                                                                obtain rfl := Nat.eq_of_beq_eq_true h30
                                                                exact memo_at (C := Cw.from n) Ca_ok Ca_prims rfl rfl (Nat.zero_le _) (by decide) Tryz.func312 rfl (by kernel_rfl) mUmbelref02KeyR_ok
                                                              case false =>
                                                                rw [h30] at h'; simp only [cond_false] at h'
                                                                cases h31 : g.beq 407
                                                                case true =>
                                                                  rw [h31] at h'; cases h'
                                                                  obtain rfl := Nat.eq_of_beq_eq_true h31
                                                                  exact memo_at (C := Cw.from n) Ca_ok Ca_prims rfl rfl (Nat.zero_le _) (by decide) Tryz.func407 rfl (by kernel_rfl) mNibbleUnpackR_ok
                                                                case false =>
                                                                  rw [h31] at h'; simp only [cond_false] at h'
                                                                  cases h32 : g.beq 437
                                                                  case true =>
                                                                    rw [h32] at h'; cases h'
                                                                    obtain rfl := Nat.eq_of_beq_eq_true h32
                                                                    exact memo_at (C := Cw.from n) Ca_ok Ca_prims rfl rfl (Nat.zero_le _) (by decide) Tryz.func437 rfl (by kernel_rfl) mUmbelref02UnpackR_ok
                                                                  case false =>
                                                                    rw [h32] at h'; simp only [cond_false] at h'
                                                                    cases h33 : g.beq 334
                                                                    case true =>
                                                                      rw [h33] at h'; cases h'
                                                                      obtain rfl := Nat.eq_of_beq_eq_true h33
                                                                      exact memo_at (C := Cw.from n) Cy_ok Cy_prims rfl rfl (Nat.zero_le _) (by decide) Tryz.func334 rfl (by kernel_rfl) mUmbelref04OfR_ok
                                                                    case false =>
                                                                      rw [h33] at h'; simp only [cond_false] at h'
                                                                      cases h'

theorem tabs_given {w : World} (h0 : ∃ cs e fr, w.heap[0]? = some (.cells cs e fr) ∧ cs.toList = shaB) (h1 : ∃ cs e fr, w.heap[1]? = some (.cells cs e fr) ∧ cs.toList = shaK)
    (h2 : ∃ cs e fr, w.heap[2]? = some (.cells cs e fr) ∧ cs.toList = crcTab) (g : Nat) : Given w g (tabs g) := by
  unfold tabs
  cases e0 : g.beq 0
  · cases e1 : g.beq 1
    · cases e2 : g.beq 2
      · exact .inl rfl
      · obtain rfl := Nat.eq_of_beq_eq_true e2
        obtain ⟨cs, e, fr, h1, h2⟩ := h2
        exact .inr ⟨e, crcTab, cs, fr, rfl, h1, by rfl, h2⟩
    · obtain rfl := Nat.eq_of_beq_eq_true e1
      obtain ⟨cs, e, fr, h1, h2⟩ := h1
      exact .inr ⟨e, shaK, cs, fr, rfl, h1, by rfl, h2⟩
  · obtain rfl := Nat.eq_of_beq_eq_true e0
    obtain ⟨cs, e, fr, h1, h2⟩ := h0
    exact .inr ⟨e, shaB, cs, fr, rfl, h1, by rfl, h2⟩
end Go.Proofs.YtpmolggmafgeeaaGreatDoor
