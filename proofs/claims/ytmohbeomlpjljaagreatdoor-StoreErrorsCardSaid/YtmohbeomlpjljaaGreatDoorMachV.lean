/- wakes, as a closed call of the machine, reckoned once; the machine that has it. -/
import Derived.Test.YtmohbeomlpjljaaGreatDoorMachW
import Derived.Test.YtmohbeomlpjljaaGreatDoorAmHeld
namespace Go.Proofs.YtmohbeomlpjljaaGreatDoor
open Go Go.AM
set_option maxRecDepth 1000000
def wakesRow : Row := ([], .bool true)
theorem wakesRow_ok : rowB Cw 6 100000 tabs wakesRow = true := by kernel_rfl
noncomputable def prV (i : Nat) : Option Prim :=
  bif i.beq 307 then some (noEscape) else
  bif i.beq 308 then some (makeNoZero 5) else
  bif i.beq 306 then some (sumAdd 2) else
  bif i.beq 202 then some (timesP) else
  bif i.beq 59 then some (diskData) else
  bif i.beq 227 then some (heldP 3) else
  bif i.beq 216 then some (splitP 3 46) else
  bif i.beq 74 then some (memo 3 noTabs [shaKrow]) else
  bif i.beq 73 then some (memo 3 noTabs [shaBrow]) else
  bif i.beq 40 then some (memo 3 noTabs mSuperGoodR) else
  bif i.beq 111 then some (memo 3 noTabs mStringsRepeatR) else
  bif i.beq 72 then some (memo 3 noTabs mUmbelref04WithR) else
  bif i.beq 235 then some (memo 3 tabs mDigestOfR) else
  bif i.beq 143 then some (memo 3 noTabs mNibbleOfR) else
  bif i.beq 313 then some (memo 3 noTabs mNibbleKeyR) else
  bif i.beq 169 then some (memo 3 noTabs mNibblePackR) else
  bif i.beq 174 then some (memo 3 tabs mPagePutR) else
  bif i.beq 115 then some (memo 3 tabs mSuperEncodeR) else
  bif i.beq 122 then some (memo 3 tabs mUmbelref03OfR) else
  bif i.beq 58 then some (memo 3 tabs mUmbelref23EncodeR) else
  bif i.beq 125 then some (memo 3 tabs mSuperDecodeR) else
  bif i.beq 309 then some (memo 3 tabs mPageRightR) else
  bif i.beq 255 then some (memo 3 tabs mPageGetR) else
  bif i.beq 196 then some (memo 3 tabs mUmbelref23NumR) else
  bif i.beq 237 then some (memo 3 tabs mNodeHashR) else
  bif i.beq 6 then some (memo 3 tabs [wakesRow]) else none
noncomputable def Cv (rules : List Rule) : Ctx := ctxR Tryz.prog (T.build prV 24 512 1 0) 3 rules
theorem Cv_ok [Syms] {rules : List Rule} (hr : ∀ u ∈ rules, RuleOk Tryz.prog u) : COk (Cv rules) := ctxR_ok mixed hr
theorem Cv_prims [Syms] (rules : List Rule) (n : Nat) : PrimOk ((Cv rules).from n) := by
  refine PrimOk.of fun g p h => ?_
  have h' : prV g = some p := ctxR_prim (P := Tryz.prog) (base := 3) (n := 512) (rules := rules) (by decide) h
  unfold prV at h'
  cases h0 : g.beq 307
  case true =>
    rw [h0] at h'; cases h'
    obtain rfl := Nat.eq_of_beq_eq_true h0
    exact noEscape_at (C := (Cv rules).from n) Tryz.func307 (by kernel_rfl) (by kernel_rfl) (by kernel_rfl) (by kernel_rfl)
  case false =>
    rw [h0] at h'; simp only [cond_false] at h'
    cases h1 : g.beq 308
    case true =>
      rw [h1] at h'; cases h'
      obtain rfl := Nat.eq_of_beq_eq_true h1
      exact makeNoZero_at (C := (Cv rules).from n) (fn := Tryz.f308) (t := 217) Tryz.func308 (by kernel_rfl) (by kernel_rfl) (by kernel_rfl) (by kernel_rfl) (by kernel_rfl)
    case false =>
      rw [h1] at h'; simp only [cond_false] at h'
      cases h2 : g.beq 306
      case true =>
        rw [h2] at h'; cases h'
        obtain rfl := Nat.eq_of_beq_eq_true h2
        exact sumAdd_at (C := (Cv rules).from n) Tryz.func306 rfl (by kernel_rfl) (by show 2 < 3; decide) (fun c hc s hs w hT => add_any c hc s hs w hT)
      case false =>
        rw [h2] at h'; simp only [cond_false] at h'
        cases h3 : g.beq 202
        case true =>
          rw [h3] at h'; cases h'
          obtain rfl := Nat.eq_of_beq_eq_true h3
          exact timesP_at (C := (Cv rules).from n) rfl
        case false =>
          rw [h3] at h'; simp only [cond_false] at h'
          cases h4 : g.beq 59
          case true =>
            rw [h4] at h'; cases h'
            obtain rfl := Nat.eq_of_beq_eq_true h4
            exact diskData_at (C := (Cv rules).from n) Tryz.func59 rfl (by kernel_rfl) data_law
          case false =>
            rw [h4] at h'; simp only [cond_false] at h'
            cases h5 : g.beq 227
            case true =>
              rw [h5] at h'; cases h'
              obtain rfl := Nat.eq_of_beq_eq_true h5
              exact heldP_at (C := (Cv rules).from n) Tryz.func227 rfl (by kernel_rfl) held_law
            case false =>
              rw [h5] at h'; simp only [cond_false] at h'
              cases h6 : g.beq 216
              case true =>
                rw [h6] at h'; cases h'
                obtain rfl := Nat.eq_of_beq_eq_true h6
                exact splitP_at (C := (Cv rules).from n) Tryz.func216 rfl (by kernel_rfl) split_law
              case false =>
                rw [h6] at h'; simp only [cond_false] at h'
                cases h7 : g.beq 74
                case true =>
                  rw [h7] at h'; cases h'
                  obtain rfl := Nat.eq_of_beq_eq_true h7
                  exact memo_at (C := (Cv rules).from n) C1_ok C1_prims rfl rfl (Nat.zero_le _) (by decide) Tryz.func74 rfl (by kernel_rfl) (fun r hr => ⟨2000, by rw [List.mem_singleton.1 hr]; exact shaK_ok⟩)
                case false =>
                  rw [h7] at h'; simp only [cond_false] at h'
                  cases h8 : g.beq 73
                  case true =>
                    rw [h8] at h'; cases h'
                    obtain rfl := Nat.eq_of_beq_eq_true h8
                    exact memo_at (C := (Cv rules).from n) C0_ok C0_prims rfl rfl (Nat.zero_le _) (by decide) Tryz.func73 rfl (by kernel_rfl) (fun r hr => ⟨2000, by rw [List.mem_singleton.1 hr]; exact shaB_ok⟩)
                  case false =>
                    rw [h8] at h'; simp only [cond_false] at h'
                    cases h9 : g.beq 40
                    case true =>
                      rw [h9] at h'; cases h'
                      obtain rfl := Nat.eq_of_beq_eq_true h9
                      exact memo_at (C := (Cv rules).from n) C0_ok C0_prims rfl rfl (Nat.zero_le _) (by decide) Tryz.func40 rfl (by kernel_rfl) mSuperGoodR_ok
                    case false =>
                      rw [h9] at h'; simp only [cond_false] at h'
                      cases h10 : g.beq 111
                      case true =>
                        rw [h10] at h'; cases h'
                        obtain rfl := Nat.eq_of_beq_eq_true h10
                        exact memo_at (C := (Cv rules).from n) C0_ok C0_prims rfl rfl (Nat.zero_le _) (by decide) Tryz.func111 rfl (by kernel_rfl) mStringsRepeatR_ok
                      case false =>
                        rw [h10] at h'; simp only [cond_false] at h'
                        cases h11 : g.beq 72
                        case true =>
                          rw [h11] at h'; cases h'
                          obtain rfl := Nat.eq_of_beq_eq_true h11
                          exact memo_at (C := (Cv rules).from n) C0_ok C0_prims rfl rfl (Nat.zero_le _) (by decide) Tryz.func72 rfl (by kernel_rfl) mUmbelref04WithR_ok
                        case false =>
                          rw [h11] at h'; simp only [cond_false] at h'
                          cases h12 : g.beq 235
                          case true =>
                            rw [h12] at h'; cases h'
                            obtain rfl := Nat.eq_of_beq_eq_true h12
                            exact memo_at (C := (Cv rules).from n) C0_ok C0_prims rfl rfl (Nat.zero_le _) (by decide) Tryz.func235 rfl (by kernel_rfl) mDigestOfR_ok
                          case false =>
                            rw [h12] at h'; simp only [cond_false] at h'
                            cases h13 : g.beq 143
                            case true =>
                              rw [h13] at h'; cases h'
                              obtain rfl := Nat.eq_of_beq_eq_true h13
                              exact memo_at (C := (Cv rules).from n) C0_ok C0_prims rfl rfl (Nat.zero_le _) (by decide) Tryz.func143 rfl (by kernel_rfl) mNibbleOfR_ok
                            case false =>
                              rw [h13] at h'; simp only [cond_false] at h'
                              cases h14 : g.beq 313
                              case true =>
                                rw [h14] at h'; cases h'
                                obtain rfl := Nat.eq_of_beq_eq_true h14
                                exact memo_at (C := (Cv rules).from n) C0_ok C0_prims rfl rfl (Nat.zero_le _) (by decide) Tryz.func313 rfl (by kernel_rfl) mNibbleKeyR_ok
                              case false =>
                                rw [h14] at h'; simp only [cond_false] at h'
                                cases h15 : g.beq 169
                                case true =>
                                  rw [h15] at h'; cases h'
                                  obtain rfl := Nat.eq_of_beq_eq_true h15
                                  exact memo_at (C := (Cv rules).from n) C0_ok C0_prims rfl rfl (Nat.zero_le _) (by decide) Tryz.func169 rfl (by kernel_rfl) mNibblePackR_ok
                                case false =>
                                  rw [h15] at h'; simp only [cond_false] at h'
                                  cases h16 : g.beq 174
                                  case true =>
                                    rw [h16] at h'; cases h'
                                    obtain rfl := Nat.eq_of_beq_eq_true h16
                                    exact memo_at (C := (Cv rules).from n) Ca_ok Ca_prims rfl rfl (Nat.zero_le _) (by decide) Tryz.func174 rfl (by kernel_rfl) mPagePutR_ok
                                  case false =>
                                    rw [h16] at h'; simp only [cond_false] at h'
                                    cases h17 : g.beq 115
                                    case true =>
                                      rw [h17] at h'; cases h'
                                      obtain rfl := Nat.eq_of_beq_eq_true h17
                                      exact memo_at (C := (Cv rules).from n) Ca_ok Ca_prims rfl rfl (Nat.zero_le _) (by decide) Tryz.func115 rfl (by kernel_rfl) mSuperEncodeR_ok
                                    case false =>
                                      rw [h17] at h'; simp only [cond_false] at h'
                                      cases h18 : g.beq 122
                                      case true =>
                                        rw [h18] at h'; cases h'
                                        obtain rfl := Nat.eq_of_beq_eq_true h18
                                        exact memo_at (C := (Cv rules).from n) Ca_ok Ca_prims rfl rfl (Nat.zero_le _) (by decide) Tryz.func122 rfl (by kernel_rfl) mUmbelref03OfR_ok
                                      case false =>
                                        rw [h18] at h'; simp only [cond_false] at h'
                                        cases h19 : g.beq 58
                                        case true =>
                                          rw [h19] at h'; cases h'
                                          obtain rfl := Nat.eq_of_beq_eq_true h19
                                          exact memo_at (C := (Cv rules).from n) Ca_ok Ca_prims rfl rfl (Nat.zero_le _) (by decide) Tryz.func58 rfl (by kernel_rfl) mUmbelref23EncodeR_ok
                                        case false =>
                                          rw [h19] at h'; simp only [cond_false] at h'
                                          cases h20 : g.beq 125
                                          case true =>
                                            rw [h20] at h'; cases h'
                                            obtain rfl := Nat.eq_of_beq_eq_true h20
                                            exact memo_at (C := (Cv rules).from n) Ca_ok Ca_prims rfl rfl (Nat.zero_le _) (by decide) Tryz.func125 rfl (by kernel_rfl) mSuperDecodeR_ok
                                          case false =>
                                            rw [h20] at h'; simp only [cond_false] at h'
                                            cases h21 : g.beq 309
                                            case true =>
                                              rw [h21] at h'; cases h'
                                              obtain rfl := Nat.eq_of_beq_eq_true h21
                                              exact memo_at (C := (Cv rules).from n) Ca_ok Ca_prims rfl rfl (Nat.zero_le _) (by decide) Tryz.func309 rfl (by kernel_rfl) mPageRightR_ok
                                            case false =>
                                              rw [h21] at h'; simp only [cond_false] at h'
                                              cases h22 : g.beq 255
                                              case true =>
                                                rw [h22] at h'; cases h'
                                                obtain rfl := Nat.eq_of_beq_eq_true h22
                                                exact memo_at (C := (Cv rules).from n) Ca_ok Ca_prims rfl rfl (Nat.zero_le _) (by decide) Tryz.func255 rfl (by kernel_rfl) mPageGetR_ok
                                              case false =>
                                                rw [h22] at h'; simp only [cond_false] at h'
                                                cases h23 : g.beq 196
                                                case true =>
                                                  rw [h23] at h'; cases h'
                                                  obtain rfl := Nat.eq_of_beq_eq_true h23
                                                  exact memo_at (C := (Cv rules).from n) Ca_ok Ca_prims rfl rfl (Nat.zero_le _) (by decide) Tryz.func196 rfl (by kernel_rfl) mUmbelref23NumR_ok
                                                case false =>
                                                  rw [h23] at h'; simp only [cond_false] at h'
                                                  cases h24 : g.beq 237
                                                  case true =>
                                                    rw [h24] at h'; cases h'
                                                    obtain rfl := Nat.eq_of_beq_eq_true h24
                                                    exact memo_at (C := (Cv rules).from n) Ca_ok Ca_prims rfl rfl (Nat.zero_le _) (by decide) Tryz.func237 rfl (by kernel_rfl) mNodeHashR_ok
                                                  case false =>
                                                    rw [h24] at h'; simp only [cond_false] at h'
                                                    cases h25 : g.beq 6
                                                    case true =>
                                                      rw [h25] at h'; cases h'
                                                      obtain rfl := Nat.eq_of_beq_eq_true h25
                                                      exact memo_at (C := (Cv rules).from n) Cw_ok Cw_prims rfl rfl (Nat.zero_le _) (by decide) Tryz.func6 rfl (by kernel_rfl) (fun r hr => ⟨100000, by rw [List.mem_singleton.1 hr]; exact wakesRow_ok⟩)
                                                    case false =>
                                                      rw [h25] at h'; simp only [cond_false] at h'
                                                      cases h'
end Go.Proofs.YtmohbeomlpjljaaGreatDoor
namespace Go.Proofs.YtmohbeomlpjljaaGreatDoor
open Go Go.AM
set_option maxRecDepth 1000000
def emptyHash : ByteArray := ⟨#[110, 52, 11, 156, 255, 179, 122, 152, 156, 165, 68, 230, 187, 120, 10, 44, 120, 144, 29, 63, 179, 55, 56, 118, 133, 17, 163, 6, 23, 175, 160, 29]⟩
def rulesLen (b : Bool) : List Rule := [⟨100, 0, symV 0, .bool false, symV 3⟩, ⟨100, 0, symV 1, .bool false, symV 4⟩, ⟨100, 0, symV 2, .bool false, symV 5⟩,
  ⟨7, 3, symV 3, symV 4, symV 6⟩, ⟨7, 3, symV 6, symV 5, symV 7⟩, ⟨5, 3, symV 7, .int .i64 300, .bool b⟩]
def rulesA : List Rule := rulesLen true
def rulesB : List Rule := rulesLen false ++ [⟨1, 9, symV 0, .string emptyHash, .bool true⟩]
def rulesC : List Rule := rulesLen false ++ [⟨1, 9, symV 0, .string emptyHash, .bool false⟩, ⟨1, 9, .string emptyHash, symV 0, .bool false⟩]
end Go.Proofs.YtmohbeomlpjljaaGreatDoor
