/- Closed calls that want the constants of SHA-256. -/
import Derived.Test.YtpmolggmafgeeaaGreatDoorMachA
import Derived.Test.YtpmolggmafgeeaaGreatDoorSha1
namespace Go.Proofs.YtpmolggmafgeeaaGreatDoor
open Go Go.AM
set_option maxRecDepth 1000000
noncomputable def prY (i : Nat) : Option Prim :=
  bif i.beq 348 then some (noEscape) else
  bif i.beq 349 then some (makeNoZero 5) else
  bif i.beq 347 then some (sumAdd 2) else
  bif i.beq 427 then some (timesP) else
  bif i.beq 111 then some (ref03) else
  bif i.beq 62 then some (memo 3 noTabs mSuperGoodR) else
  bif i.beq 100 then some (memo 3 noTabs mStringsRepeatR) else
  bif i.beq 319 then some (memo 3 noTabs mNibbleOfR) else
  bif i.beq 315 then some (memo 3 noTabs mUmbelref02OfR) else
  bif i.beq 409 then some (memo 3 noTabs mNibbleKeyR) else
  bif i.beq 342 then some (memo 3 noTabs mNibblePackR) else
  bif i.beq 194 then some (memo 3 tabs mDigestOfR) else
  bif i.beq 346 then some (memo 3 noTabs mUmbelref02PackR) else
  bif i.beq 332 then some (memo 3 noTabs mUmbelref04WithR) else
  bif i.beq 331 then some (memo 3 noTabs [shaKrow]) else
  bif i.beq 330 then some (memo 3 noTabs [shaBrow]) else none
noncomputable def Cy : Ctx := ctxR Tryz.prog (T.build prY 24 512 1 0) 3 []
theorem Cy_ok [Syms] : COk Cy := ctxR_ok mixed (fun _ h => by cases h)
theorem Cy_prims [Syms] (n : Nat) : PrimOk (Cy.from n) := by
  refine PrimOk.of fun g p h => ?_
  have h' : prY g = some p := ctxR_prim (P := Tryz.prog) (base := 3) (n := 512) (rules := []) (by decide) h
  unfold prY at h'
  cases h0 : g.beq 348
  case true =>
    rw [h0] at h'; cases h'
    obtain rfl := Nat.eq_of_beq_eq_true h0
    exact noEscape_at (C := Cy.from n) Tryz.func348 (by kernel_rfl) (by kernel_rfl) (by kernel_rfl) (by kernel_rfl)
  case false =>
    rw [h0] at h'; simp only [cond_false] at h'
    cases h1 : g.beq 349
    case true =>
      rw [h1] at h'; cases h'
      obtain rfl := Nat.eq_of_beq_eq_true h1
      exact makeNoZero_at (C := Cy.from n) (fn := Tryz.f349) (t := 94) Tryz.func349 (by kernel_rfl) (by kernel_rfl) (by kernel_rfl) (by kernel_rfl) (by kernel_rfl)
    case false =>
      rw [h1] at h'; simp only [cond_false] at h'
      cases h2 : g.beq 347
      case true =>
        rw [h2] at h'; cases h'
        obtain rfl := Nat.eq_of_beq_eq_true h2
        exact sumAdd_at (C := Cy.from n) Tryz.func347 rfl (by kernel_rfl) (by show 2 < 3; decide) (fun c hc s hs w hT => add_any c hc s hs w hT)
      case false =>
        rw [h2] at h'; simp only [cond_false] at h'
        cases h3 : g.beq 427
        case true =>
          rw [h3] at h'; cases h'
          obtain rfl := Nat.eq_of_beq_eq_true h3
          exact timesP_at (C := Cy.from n) rfl
        case false =>
          rw [h3] at h'; simp only [cond_false] at h'
          cases h4 : g.beq 111
          case true =>
            rw [h4] at h'; cases h'
            obtain rfl := Nat.eq_of_beq_eq_true h4
            exact ref03_at (C := Cy.from n) rfl
          case false =>
            rw [h4] at h'; simp only [cond_false] at h'
            cases h5 : g.beq 62
            case true =>
              rw [h5] at h'; cases h'
              obtain rfl := Nat.eq_of_beq_eq_true h5
              exact memo_at (C := Cy.from n) C0_ok C0_prims rfl rfl (Nat.zero_le _) (by decide) Tryz.func62 rfl (by kernel_rfl) mSuperGoodR_ok
            case false =>
              rw [h5] at h'; simp only [cond_false] at h'
              cases h6 : g.beq 100
              case true =>
                rw [h6] at h'; cases h'
                obtain rfl := Nat.eq_of_beq_eq_true h6
                exact memo_at (C := Cy.from n) C0_ok C0_prims rfl rfl (Nat.zero_le _) (by decide) Tryz.func100 rfl (by kernel_rfl) mStringsRepeatR_ok
              case false =>
                rw [h6] at h'; simp only [cond_false] at h'
                cases h7 : g.beq 319
                case true =>
                  rw [h7] at h'; cases h'
                  obtain rfl := Nat.eq_of_beq_eq_true h7
                  exact memo_at (C := Cy.from n) C0_ok C0_prims rfl rfl (Nat.zero_le _) (by decide) Tryz.func319 rfl (by kernel_rfl) mNibbleOfR_ok
                case false =>
                  rw [h7] at h'; simp only [cond_false] at h'
                  cases h8 : g.beq 315
                  case true =>
                    rw [h8] at h'; cases h'
                    obtain rfl := Nat.eq_of_beq_eq_true h8
                    exact memo_at (C := Cy.from n) C0_ok C0_prims rfl rfl (Nat.zero_le _) (by decide) Tryz.func315 rfl (by kernel_rfl) mUmbelref02OfR_ok
                  case false =>
                    rw [h8] at h'; simp only [cond_false] at h'
                    cases h9 : g.beq 409
                    case true =>
                      rw [h9] at h'; cases h'
                      obtain rfl := Nat.eq_of_beq_eq_true h9
                      exact memo_at (C := Cy.from n) C0_ok C0_prims rfl rfl (Nat.zero_le _) (by decide) Tryz.func409 rfl (by kernel_rfl) mNibbleKeyR_ok
                    case false =>
                      rw [h9] at h'; simp only [cond_false] at h'
                      cases h10 : g.beq 342
                      case true =>
                        rw [h10] at h'; cases h'
                        obtain rfl := Nat.eq_of_beq_eq_true h10
                        exact memo_at (C := Cy.from n) C0_ok C0_prims rfl rfl (Nat.zero_le _) (by decide) Tryz.func342 rfl (by kernel_rfl) mNibblePackR_ok
                      case false =>
                        rw [h10] at h'; simp only [cond_false] at h'
                        cases h11 : g.beq 194
                        case true =>
                          rw [h11] at h'; cases h'
                          obtain rfl := Nat.eq_of_beq_eq_true h11
                          exact memo_at (C := Cy.from n) C0_ok C0_prims rfl rfl (Nat.zero_le _) (by decide) Tryz.func194 rfl (by kernel_rfl) mDigestOfR_ok
                        case false =>
                          rw [h11] at h'; simp only [cond_false] at h'
                          cases h12 : g.beq 346
                          case true =>
                            rw [h12] at h'; cases h'
                            obtain rfl := Nat.eq_of_beq_eq_true h12
                            exact memo_at (C := Cy.from n) C0_ok C0_prims rfl rfl (Nat.zero_le _) (by decide) Tryz.func346 rfl (by kernel_rfl) mUmbelref02PackR_ok
                          case false =>
                            rw [h12] at h'; simp only [cond_false] at h'
                            cases h13 : g.beq 332
                            case true =>
                              rw [h13] at h'; cases h'
                              obtain rfl := Nat.eq_of_beq_eq_true h13
                              exact memo_at (C := Cy.from n) C0_ok C0_prims rfl rfl (Nat.zero_le _) (by decide) Tryz.func332 rfl (by kernel_rfl) mUmbelref04WithR_ok
                            case false =>
                              rw [h13] at h'; simp only [cond_false] at h'
                              cases h14 : g.beq 331
                              case true =>
                                rw [h14] at h'; cases h'
                                obtain rfl := Nat.eq_of_beq_eq_true h14
                                exact memo_at (C := Cy.from n) C1_ok C1_prims rfl rfl (Nat.zero_le _) (by decide) Tryz.func331 rfl (by kernel_rfl) (fun r hr => ⟨2000, by rw [List.mem_singleton.1 hr]; exact shaK_ok⟩)
                              case false =>
                                rw [h14] at h'; simp only [cond_false] at h'
                                cases h15 : g.beq 330
                                case true =>
                                  rw [h15] at h'; cases h'
                                  obtain rfl := Nat.eq_of_beq_eq_true h15
                                  exact memo_at (C := Cy.from n) C0_ok C0_prims rfl rfl (Nat.zero_le _) (by decide) Tryz.func330 rfl (by kernel_rfl) (fun r hr => ⟨2000, by rw [List.mem_singleton.1 hr]; exact shaB_ok⟩)
                                case false =>
                                  rw [h15] at h'; simp only [cond_false] at h'
                                  cases h'
def mUmbelref04Of0 : Row := ([.string ⟨#[0]⟩], .string ⟨#[110, 52, 11, 156, 255, 179, 122, 152, 156, 165, 68, 230, 187, 120, 10, 44, 120, 144, 29, 63, 179, 55, 56, 118, 133, 17, 163, 6, 23, 175, 160, 29]⟩)
theorem mUmbelref04Of0_ok : rowB Cy 334 3000 tabs mUmbelref04Of0 = true := by kernel_rfl
def mUmbelref04OfR : List Row := [mUmbelref04Of0]
theorem mUmbelref04OfR_ok : ∀ r ∈ mUmbelref04OfR, ∃ n, rowB Cy 334 n tabs r = true := by
  intro r hr
  simp only [mUmbelref04OfR, List.mem_cons, List.not_mem_nil, or_false] at hr
  rcases hr with rfl
  · exact ⟨3000, mUmbelref04Of0_ok⟩
end Go.Proofs.YtpmolggmafgeeaaGreatDoor
