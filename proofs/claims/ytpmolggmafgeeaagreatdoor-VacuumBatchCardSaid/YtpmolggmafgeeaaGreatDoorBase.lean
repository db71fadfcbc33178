/- The machine with four prims; the tables. -/
import Derived.Test.YtpmolggmafgeeaaGreatDoorAmCode
import Derived.Test.YtpmolggmafgeeaaGreatDoorTimes
import Derived.KernelRfl
import Derived.Test.YtpmolggmafgeeaaGreatDoorProg
namespace Go.Proofs.YtpmolggmafgeeaaGreatDoor
open Go Go.AM
set_option maxRecDepth 1000000
def shaB : List Value := [.int .u32 1779033703, .int .u32 3144134277, .int .u32 1013904242, .int .u32 2773480762, .int .u32 1359893119, .int .u32 2600822924, .int .u32 528734635, .int .u32 1541459225]
def shaK : List Value := [.int .u32 1116352408, .int .u32 1899447441, .int .u32 3049323471, .int .u32 3921009573, .int .u32 961987163, .int .u32 1508970993, .int .u32 2453635748, .int .u32 2870763221, .int .u32 3624381080, .int .u32 310598401, .int .u32 607225278, .int .u32 1426881987, .int .u32 1925078388, .int .u32 2162078206, .int .u32 2614888103, .int .u32 3248222580, .int .u32 3835390401, .int .u32 4022224774, .int .u32 264347078, .int .u32 604807628, .int .u32 770255983, .int .u32 1249150122, .int .u32 1555081692, .int .u32 1996064986, .int .u32 2554220882, .int .u32 2821834349, .int .u32 2952996808, .int .u32 3210313671, .int .u32 3336571891, .int .u32 3584528711, .int .u32 113926993, .int .u32 338241895, .int .u32 666307205, .int .u32 773529912, .int .u32 1294757372, .int .u32 1396182291, .int .u32 1695183700, .int .u32 1986661051, .int .u32 2177026350, .int .u32 2456956037, .int .u32 2730485921, .int .u32 2820302411, .int .u32 3259730800, .int .u32 3345764771, .int .u32 3516065817, .int .u32 3600352804, .int .u32 4094571909, .int .u32 275423344, .int .u32 430227734, .int .u32 506948616, .int .u32 659060556, .int .u32 883997877, .int .u32 958139571, .int .u32 1322822218, .int .u32 1537002063, .int .u32 1747873779, .int .u32 1955562222, .int .u32 2024104815, .int .u32 2227730452, .int .u32 2361852424, .int .u32 2428436474, .int .u32 2756734187, .int .u32 3204031479, .int .u32 3329325298]
theorem mixed : Tryz.prog.follows .mixedOrders = true := by kernel_rfl
def noTabs : Nat → Blk := fun _ => .dead
noncomputable def tabs (g : Nat) : Blk := bif g.beq 0 then .tab shaB else bif g.beq 1 then .tab shaK else bif g.beq 2 then .tab crcTab else .dead
def cubes (l : List (Nat × Nat)) : List Row := l.map fun x => ([.int .u64 x.1], .int .u32 x.2)
noncomputable def pr0 (i : Nat) : Option Prim :=
  bif i.beq 348 then some (noEscape) else
  bif i.beq 349 then some (makeNoZero 5) else
  bif i.beq 347 then some (sumAdd 2) else
  bif i.beq 427 then some (timesP) else
  bif i.beq 111 then some (ref03) else none
noncomputable def C0 : Ctx := ctxR Tryz.prog (T.build pr0 24 512 1 0) 3 []
theorem C0_ok [Syms] : COk C0 := ctxR_ok mixed (fun _ h => by cases h)
theorem C0_prims [Syms] (n : Nat) : PrimOk (C0.from n) := by
  refine PrimOk.of fun g p h => ?_
  have h' : pr0 g = some p := ctxR_prim (P := Tryz.prog) (base := 3) (n := 512) (rules := []) (by decide) h
  unfold pr0 at h'
  cases h0 : g.beq 348
  case true =>
    rw [h0] at h'; cases h'
    obtain rfl := Nat.eq_of_beq_eq_true h0
    exact noEscape_at (C := C0.from n) Tryz.func348 (by kernel_rfl) (by kernel_rfl) (by kernel_rfl) (by kernel_rfl)
  case false =>
    rw [h0] at h'; simp only [cond_false] at h'
    cases h1 : g.beq 349
    case true =>
      rw [h1] at h'; cases h'
      obtain rfl := Nat.eq_of_beq_eq_true h1
      exact makeNoZero_at (C := C0.from n) (fn := Tryz.f349) (t := 94) Tryz.func349 (by kernel_rfl) (by kernel_rfl) (by kernel_rfl) (by kernel_rfl) (by kernel_rfl)
    case false =>
      rw [h1] at h'; simp only [cond_false] at h'
      cases h2 : g.beq 347
      case true =>
        rw [h2] at h'; cases h'
        obtain rfl := Nat.eq_of_beq_eq_true h2
        exact sumAdd_at (C := C0.from n) Tryz.func347 rfl (by kernel_rfl) (by show 2 < 3; decide) (fun c hc s hs w hT => add_any c hc s hs w hT)
      case false =>
        rw [h2] at h'; simp only [cond_false] at h'
        cases h3 : g.beq 427
        case true =>
          rw [h3] at h'; cases h'
          obtain rfl := Nat.eq_of_beq_eq_true h3
          exact timesP_at (C := C0.from n) rfl
        case false =>
          rw [h3] at h'; simp only [cond_false] at h'
          cases h4 : g.beq 111
          case true =>
            rw [h4] at h'; cases h'
            obtain rfl := Nat.eq_of_beq_eq_true h4
            exact ref03_at (C := C0.from n) rfl
          case false =>
            rw [h4] at h'; simp only [cond_false] at h'
            cases h'
end Go.Proofs.YtpmolggmafgeeaaGreatDoor
