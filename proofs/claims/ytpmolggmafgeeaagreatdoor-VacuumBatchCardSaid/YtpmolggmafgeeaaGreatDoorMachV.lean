/- The machine that has wakes. -/
import Derived.Test.YtpmolggmafgeeaaGreatDoorWakes
import Derived.Test.YtpmolggmafgeeaaGreatDoorPoolNew
import Derived.Test.YtpmolggmafgeeaaGreatDoorAmHeld
namespace Go.Proofs.YtpmolggmafgeeaaGreatDoor
open Go Go.AM
set_option maxRecDepth 1000000
noncomputable def prV (i : Nat) : Option Prim :=
  bif i.beq 348 then some (noEscape) else
  bif i.beq 349 then some (makeNoZero 5) else
  bif i.beq 347 then some (sumAdd 2) else
  bif i.beq 427 then some (timesP) else
  bif i.beq 111 then some (ref03) else
  bif i.beq 21 then some (diskData) else
  bif i.beq 293 then some (heldP 3) else
  bif i.beq 213 then some (splitP 3 56) else
  bif i.beq 331 then some (memo 3 noTabs [shaKrow]) else
  bif i.beq 330 then some (memo 3 noTabs [shaBrow]) else
  bif i.beq 62 then some (memo 3 noTabs mSuperGoodR) else
  bif i.beq 100 then some (memo 3 noTabs mStringsRepeatR) else
  bif i.beq 319 then some (memo 3 noTabs mNibbleOfR) else
  bif i.beq 315 then some (memo 3 noTabs mUmbelref02OfR) else
  bif i.beq 409 then some (memo 3 noTabs mNibbleKeyR) else
  bif i.beq 342 then some (memo 3 noTabs mNibblePackR) else
  bif i.beq 194 then some (memo 3 tabs mDigestOfR) else
  bif i.beq 346 then some (memo 3 noTabs mUmbelref02PackR) else
  bif i.beq 332 then some (memo 3 noTabs mUmbelref04WithR) else
  bif i.beq 164 then some (memo 3 tabs mPagePutR) else
  bif i.beq 104 then some (memo 3 tabs mSuperEncodeR) else
  bif i.beq 173 then some (memo 3 tabs mUmbelref07PutR) else
  bif i.beq 46 then some (memo 3 tabs mUmbelref23EncodeR) else
  bif i.beq 113 then some (memo 3 tabs mSuperDecodeR) else
  bif i.beq 350 then some (memo 3 tabs mPageRightR) else
  bif i.beq 270 then some (memo 3 tabs mPageGetR) else
  bif i.beq 185 then some (memo 3 tabs mUmbelref23NumR) else
  bif i.beq 188 then some (memo 3 tabs mUmbelref07GetR) else
  bif i.beq 252 then some (memo 3 tabs mNodeEncodeR) else
  bif i.beq 284 then some (memo 3 tabs mNodeHashR) else
  bif i.beq 312 then some (memo 3 tabs mUmbelref02KeyR) else
  bif i.beq 407 then some (memo 3 tabs mNibbleUnpackR) else
  bif i.beq 437 then some (memo 3 tabs mUmbelref02UnpackR) else
  bif i.beq 334 then some (memo 3 tabs mUmbelref04OfR) else
  bif i.beq 24 then some (poolP Cw 2000 24 3) else
  bif i.beq 11 then some (memo 3 tabs [wakesRow]) else none
noncomputable def Cv (rules : List Rule) : Ctx := ctxR Tryz.prog (T.build prV 24 512 1 0) 3 rules
theorem Cv_ok [Syms] {rules : List Rule} (hr : ∀ u ∈ rules, RuleOk Tryz.prog u) : COk (Cv rules) := ctxR_ok mixed hr
theorem Cv_prims [Syms] (rules : List Rule) {np : Nat} (hs : Syms.get 3 = .int .i64 (np : Int)) (hp1 : 1 ≤ np) (hp64 : np ≤ 64) (n : Nat) : PrimOk ((Cv rules).from n) := by
  refine PrimOk.of fun g p h => ?_
  have h' : prV g = some p := ctxR_prim (P := Tryz.prog) (base := 3) (n := 512) (rules := rules) (by decide) h
  unfold prV at h'
  cases h0 : g.beq 348
  case true =>
    rw [h0] at h'; cases h'
    obtain rfl := Nat.eq_of_beq_eq_true h0
    exact noEscape_at (C := (Cv rules).from n) Tryz.func348 (by kernel_rfl) (by kernel_rfl) (by kernel_rfl) (by kernel_rfl)
  case false =>
    rw [h0] at h'; simp only [cond_false] at h'
    cases h1 : g.beq 349
    case true =>
      rw [h1] at h'; cases h'
      obtain rfl := Nat.eq_of_beq_eq_true h1
      exact makeNoZero_at (C := (Cv rules).from n) (fn := Tryz.f349) (t := 94) Tryz.func349 (by kernel_rfl) (by kernel_rfl) (by kernel_rfl) (by kernel_rfl) (by kernel_rfl)
    case false =>
      rw [h1] at h'; simp only [cond_false] at h'
      cases h2 : g.beq 347
      case true =>
        rw [h2] at h'; cases h'
        obtain rfl := Nat.eq_of_beq_eq_true h2
        exact sumAdd_at (C := (Cv rules).from n) Tryz.func347 rfl (by kernel_rfl) (by show 2 < 3; decide) (fun c hc s hs w hT => add_any c hc s hs w hT)
      case false =>
        rw [h2] at h'; simp only [cond_false] at h'
        cases h3 : g.beq 427
        case true =>
          rw [h3] at h'; cases h'
          obtain rfl := Nat.eq_of_beq_eq_true h3
          exact timesP_at (C := (Cv rules).from n) rfl
        case false =>
          rw [h3] at h'; simp only [cond_false] at h'
          cases h4 : g.beq 111
          case true =>
            rw [h4] at h'; cases h'
            obtain rfl := Nat.eq_of_beq_eq_true h4
            exact ref03_at (C := (Cv rules).from n) rfl
          case false =>
            rw [h4] at h'; simp only [cond_false] at h'
            cases h5 : g.beq 21
            case true =>
              rw [h5] at h'; cases h'
              obtain rfl := Nat.eq_of_beq_eq_true h5
              exact diskData_at (C := (Cv rules).from n) Tryz.func21 rfl (by kernel_rfl) data_law
            case false =>
              rw [h5] at h'; simp only [cond_false] at h'
              cases h6 : g.beq 293
              case true =>
                rw [h6] at h'; cases h'
                obtain rfl := Nat.eq_of_beq_eq_true h6
                exact heldP_at (C := (Cv rules).from n) Tryz.func293 rfl (by kernel_rfl) held_law
              case false =>
                rw [h6] at h'; simp only [cond_false] at h'
                cases h7 : g.beq 213
                case true =>
                  rw [h7] at h'; cases h'
                  obtain rfl := Nat.eq_of_beq_eq_true h7
                  exact splitP_at (C := (Cv rules).from n) Tryz.func213 rfl (by kernel_rfl) split_law
                case false =>
                  rw [h7] at h'; simp only [cond_false] at h'
                  cases h8 : g.beq 331
                  case true =>
                    rw [h8] at h'; cases h'
                    obtain rfl := Nat.eq_of_beq_eq_true h8
                    exact memo_at (C := (Cv rules).from n) C1_ok C1_prims rfl rfl (Nat.zero_le _) (by decide) Tryz.func331 rfl (by kernel_rfl) (fun r hr => ⟨2000, by rw [List.mem_singleton.1 hr]; exact shaK_ok⟩)
                  case false =>
                    rw [h8] at h'; simp only [cond_false] at h'
                    cases h9 : g.beq 330
                    case true =>
                      rw [h9] at h'; cases h'
                      obtain rfl := Nat.eq_of_beq_eq_true h9
                      exact memo_at (C := (Cv rules).from n) C0_ok C0_prims rfl rfl (Nat.zero_le _) (by decide) Tryz.func330 rfl (by kernel_rfl) (fun r hr => ⟨2000, by rw [List.mem_singleton.1 hr]; exact shaB_ok⟩)
                    case false =>
                      rw [h9] at h'; simp only [cond_false] at h'
                      cases h10 : g.beq 62
                      case true =>
                        rw [h10] at h'; cases h'
                        obtain rfl := Nat.eq_of_beq_eq_true h10
                        exact memo_at (C := (Cv rules).from n) C0_ok C0_prims rfl rfl (Nat.zero_le _) (by decide) Tryz.func62 rfl (by kernel_rfl) mSuperGoodR_ok
                      case false =>
                        rw [h10] at h'; simp only [cond_false] at h'
                        cases h11 : g.beq 100
                        case true =>
                          rw [h11] at h'; cases h'
                          obtain rfl := Nat.eq_of_beq_eq_true h11
                          exact memo_at (C := (Cv rules).from n) C0_ok C0_prims rfl rfl (Nat.zero_le _) (by decide) Tryz.func100 rfl (by kernel_rfl) mStringsRepeatR_ok
                        case false =>
                          rw [h11] at h'; simp only [cond_false] at h'
                          cases h12 : g.beq 319
                          case true =>
                            rw [h12] at h'; cases h'
                            obtain rfl := Nat.eq_of_beq_eq_true h12
                            exact memo_at (C := (Cv rules).from n) C0_ok C0_prims rfl rfl (Nat.zero_le _) (by decide) Tryz.func319 rfl (by kernel_rfl) mNibbleOfR_ok
                          case false =>
                            rw [h12] at h'; simp only [cond_false] at h'
                            cases h13 : g.beq 315
                            case true =>
                              rw [h13] at h'; cases h'
                              obtain rfl := Nat.eq_of_beq_eq_true h13
                              exact memo_at (C := (Cv rules).from n) C0_ok C0_prims rfl rfl (Nat.zero_le _) (by decide) Tryz.func315 rfl (by kernel_rfl) mUmbelref02OfR_ok
                            case false =>
                              rw [h13] at h'; simp only [cond_false] at h'
                              cases h14 : g.beq 409
                              case true =>
                                rw [h14] at h'; cases h'
                                obtain rfl := Nat.eq_of_beq_eq_true h14
                                exact memo_at (C := (Cv rules).from n) C0_ok C0_prims rfl rfl (Nat.zero_le _) (by decide) Tryz.func409 rfl (by kernel_rfl) mNibbleKeyR_ok
                              case false =>
                                rw [h14] at h'; simp only [cond_false] at h'
                                cases h15 : g.beq 342
                                case true =>
                                  rw [h15] at h'; cases h'
                                  obtain rfl := Nat.eq_of_beq_eq_true h15
                                  exact memo_at (C := (Cv rules).from n) C0_ok C0_prims rfl rfl (Nat.zero_le _) (by decide) Tryz.func342 rfl (by kernel_rfl) mNibblePackR_ok
                                case false =>
                                  rw [h15] at h'; simp only [cond_false] at h'
                                  cases h16 : g.beq 194
                                  case true =>
                                    rw [h16] at h'; cases h'
                                    obtain rfl := Nat.eq_of_beq_eq_true h16
                                    exact memo_at (C := (Cv rules).from n) C0_ok C0_prims rfl rfl (Nat.zero_le _) (by decide) Tryz.func194 rfl (by kernel_rfl) mDigestOfR_ok
                                  case false =>
                                    rw [h16] at h'; simp only [cond_false] at h'
                                    cases h17 : g.beq 346
                                    case true =>
                                      rw [h17] at h'; cases h'
                                      obtain rfl := Nat.eq_of_beq_eq_true h17
                                      exact memo_at (C := (Cv rules).from n) C0_ok C0_prims rfl rfl (Nat.zero_le _) (by decide) Tryz.func346 rfl (by kernel_rfl) mUmbelref02PackR_ok
                                    case false =>
                                      rw [h17] at h'; simp only [cond_false] at h'
                                      cases h18 : g.beq 332
                                      case true =>
                                        rw [h18] at h'; cases h'
                                        obtain rfl := Nat.eq_of_beq_eq_true h18
                                        exact memo_at (C := (Cv rules).from n) C0_ok C0_prims rfl rfl (Nat.zero_le _) (by decide) Tryz.func332 rfl (by kernel_rfl) mUmbelref04WithR_ok
                                      case false =>
                                        rw [h18] at h'; simp only [cond_false] at h'
                                        cases h19 : g.beq 164
                                        case true =>
                                          rw [h19] at h'; cases h'
                                          obtain rfl := Nat.eq_of_beq_eq_true h19
                                          exact memo_at (C := (Cv rules).from n) Ca_ok Ca_prims rfl rfl (Nat.zero_le _) (by decide) Tryz.func164 rfl (by kernel_rfl) mPagePutR_ok
                                        case false =>
                                          rw [h19] at h'; simp only [cond_false] at h'
                                          cases h20 : g.beq 104
                                          case true =>
                                            rw [h20] at h'; cases h'
                                            obtain rfl := Nat.eq_of_beq_eq_true h20
                                            exact memo_at (C := (Cv rules).from n) Ca_ok Ca_prims rfl rfl (Nat.zero_le _) (by decide) Tryz.func104 rfl (by kernel_rfl) mSuperEncodeR_ok
                                          case false =>
                                            rw [h20] at h'; simp only [cond_false] at h'
                                            cases h21 : g.beq 173
                                            case true =>
                                              rw [h21] at h'; cases h'
                                              obtain rfl := Nat.eq_of_beq_eq_true h21
                                              exact memo_at (C := (Cv rules).from n) Ca_ok Ca_prims rfl rfl (Nat.zero_le _) (by decide) Tryz.func173 rfl (by kernel_rfl) mUmbelref07PutR_ok
                                            case false =>
                                              rw [h21] at h'; simp only [cond_false] at h'
                                              cases h22 : g.beq 46
                                              case true =>
                                                rw [h22] at h'; cases h'
                                                obtain rfl := Nat.eq_of_beq_eq_true h22
                                                exact memo_at (C := (Cv rules).from n) Ca_ok Ca_prims rfl rfl (Nat.zero_le _) (by decide) Tryz.func46 rfl (by kernel_rfl) mUmbelref23EncodeR_ok
                                              case false =>
                                                rw [h22] at h'; simp only [cond_false] at h'
                                                cases h23 : g.beq 113
                                                case true =>
                                                  rw [h23] at h'; cases h'
                                                  obtain rfl := Nat.eq_of_beq_eq_true h23
                                                  exact memo_at (C := (Cv rules).from n) Ca_ok Ca_prims rfl rfl (Nat.zero_le _) (by decide) Tryz.func113 rfl (by kernel_rfl) mSuperDecodeR_ok
                                                case false =>
                                                  rw [h23] at h'; simp only [cond_false] at h'
                                                  cases h24 : g.beq 350
                                                  case true =>
                                                    rw [h24] at h'; cases h'
                                                    obtain rfl := Nat.eq_of_beq_eq_true h24
                                                    exact memo_at (C := (Cv rules).from n) Ca_ok Ca_prims rfl rfl (Nat.zero_le _) (by decide) Tryz.func350 rfl (by kernel_rfl) mPageRightR_ok
                                                  case false =>
                                                    rw [h24] at h'; simp only [cond_false] at h'
                                                    cases h25 : g.beq 270
                                                    case true =>
                                                      rw [h25] at h'; cases h'
                                                      obtain rfl := Nat.eq_of_beq_eq_true h25
                                                      exact memo_at (C := (Cv rules).from n) Ca_ok Ca_prims rfl rfl (Nat.zero_le _) (by decide) Tryz.func270 rfl (by kernel_rfl) mPageGetR_ok
                                                    case false =>
                                                      rw [h25] at h'; simp only [cond_false] at h'
                                                      cases h26 : g.beq 185
                                                      case true =>
                                                        rw [h26] at h'; cases h'
                                                        obtain rfl := Nat.eq_of_beq_eq_true h26
                                                        exact memo_at (C := (Cv rules).from n) Ca_ok Ca_prims rfl rfl (Nat.zero_le _) (by decide) Tryz.func185 rfl (by kernel_rfl) mUmbelref23NumR_ok
                                                      case false =>
                                                        rw [h26] at h'; simp only [cond_false] at h'
                                                        cases h27 : g.beq 188
                                                        case true =>
                                                          rw [h27] at h'; cases h'
                                                          obtain rfl := Nat.eq_of_beq_eq_true h27
                                                          exact memo_at (C := (Cv rules).from n) Ca_ok Ca_prims rfl rfl (Nat.zero_le _) (by decide) Tryz.func188 rfl (by kernel_rfl) mUmbelref07GetR_ok
                                                        case false =>
                                                          rw [h27] at h'; simp only [cond_false] at h'
                                                          cases h28 : g.beq 252
                                                          case true =>
                                                            rw [h28] at h'; cases h'
                                                            obtain rfl := Nat.eq_of_beq_eq_true h28
                                                            exact memo_at (C := (Cv rules).from n) Ca_ok Ca_prims rfl rfl (Nat.zero_le _) (by decide) Tryz.func252 rfl (by kernel_rfl) mNodeEncodeR_ok
                                                          case false =>
                                                            rw [h28] at h'; simp only [cond_false] at h'
                                                            cases h29 : g.beq 284
                                                            case true =>
                                                              rw [h29] at h'; cases h'
                                                              obtain rfl := Nat.eq_of_beq_eq_true h29
                                                              exact memo_at (C := (Cv rules).from n) Ca_ok Ca_prims rfl rfl (Nat.zero_le _) (by decide) Tryz.func284 rfl (by kernel_rfl) mNodeHashR_ok
                                                            case false =>
                                                              rw [h29] at h'; simp only [cond_false] at h'
                                                              cases h30 : g.beq 312
                                                              case true =>
                                                                rw [h30] at h'; cases h'
                                                                obtain rfl := Nat.eq_of_beq_eq_true h30
                                                                exact memo_at (C := (Cv rules).from n) Ca_ok Ca_prims rfl rfl (Nat.zero_le _) (by decide) Tryz.func312 rfl (by kernel_rfl) mUmbelref02KeyR_ok
                                                              case false =>
                                                                rw [h30] at h'; simp only [cond_false] at h'
                                                                cases h31 : g.beq 407
                                                                case true =>
                                                                  rw [h31] at h'; cases h'
                                                                  obtain rfl := Nat.eq_of_beq_eq_true h31
                                                                  exact memo_at (C := (Cv rules).from n) Ca_ok Ca_prims rfl rfl (Nat.zero_le _) (by decide) Tryz.func407 rfl (by kernel_rfl) mNibbleUnpackR_ok
                                                                case false =>
                                                                  rw [h31] at h'; simp only [cond_false] at h'
                                                                  cases h32 : g.beq 437
                                                                  case true =>
                                                                    rw [h32] at h'; cases h'
                                                                    obtain rfl := Nat.eq_of_beq_eq_true h32
                                                                    exact memo_at (C := (Cv rules).from n) Ca_ok Ca_prims rfl rfl (Nat.zero_le _) (by decide) Tryz.func437 rfl (by kernel_rfl) mUmbelref02UnpackR_ok
                                                                  case false =>
                                                                    rw [h32] at h'; simp only [cond_false] at h'
                                                                    cases h33 : g.beq 334
                                                                    case true =>
                                                                      rw [h33] at h'; cases h'
                                                                      obtain rfl := Nat.eq_of_beq_eq_true h33
                                                                      exact memo_at (C := (Cv rules).from n) Cy_ok Cy_prims rfl rfl (Nat.zero_le _) (by decide) Tryz.func334 rfl (by kernel_rfl) mUmbelref04OfR_ok
                                                                    case false =>
                                                                      rw [h33] at h'; simp only [cond_false] at h'
                                                                      cases h34 : g.beq 24
                                                                      case true =>
                                                                        rw [h34] at h'; cases h'
                                                                        obtain rfl := Nat.eq_of_beq_eq_true h34
                                                                        exact poolP_at (C := (Cv rules).from n) Cw_ok Cw_prims rfl rfl 2000 Tryz.func24 rfl (by kernel_rfl) pool_law hs hp1 hp64
                                                                      case false =>
                                                                        rw [h34] at h'; simp only [cond_false] at h'
                                                                        cases h35 : g.beq 11
                                                                        case true =>
                                                                          rw [h35] at h'; cases h'
                                                                          obtain rfl := Nat.eq_of_beq_eq_true h35
                                                                          exact memo_at (C := (Cv rules).from n) Cx2_ok Cx2_prims rfl rfl (Nat.zero_le _) (by decide) Tryz.func11 rfl (by kernel_rfl) (fun r hr => ⟨100000, by rw [List.mem_singleton.1 hr]; exact wakesRow_ok⟩)
                                                                        case false =>
                                                                          rw [h35] at h'; simp only [cond_false] at h'
                                                                          cases h'
end Go.Proofs.YtpmolggmafgeeaaGreatDoor
namespace Go.Proofs.YtpmolggmafgeeaaGreatDoor
open Go Go.AM
set_option maxRecDepth 1000000
def rulesB : List Rule := [⟨101, 0, symV 0, .bool false, symV 1⟩, ⟨8, 3, symV 1, .int .i64 64, symV 2⟩, ⟨7, 3, .int .i64 1, symV 2, symV 3⟩]
end Go.Proofs.YtpmolggmafgeeaaGreatDoor
