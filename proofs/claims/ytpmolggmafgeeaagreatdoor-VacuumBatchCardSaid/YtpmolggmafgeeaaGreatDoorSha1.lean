/- The constants of the reference's SHA-256. -/
import Derived.Test.YtpmolggmafgeeaaGreatDoorCube0
import Derived.Test.YtpmolggmafgeeaaGreatDoorCube1
namespace Go.Proofs.YtpmolggmafgeeaaGreatDoor
open Go Go.AM
set_option maxRecDepth 1000000
def cubesAll : List Row := cubes0 ++ cubes1
theorem cubesAll_ok : ∀ r ∈ cubesAll, ∃ n, rowB C0 394 n noTabs r = true := by
  intro r hr
  refine ⟨1000, ?_⟩
  unfold cubesAll at hr
  simp only [List.mem_append] at hr
  rcases hr with h | h
  · exact List.all_eq_true.1 cubes0_ok r h
  · exact List.all_eq_true.1 cubes1_ok r h
noncomputable def pr1 (i : Nat) : Option Prim := bif i.beq 394 then some (memo 3 noTabs cubesAll) else none
noncomputable def C1 : Ctx := ctxR Tryz.prog (T.build pr1 24 512 1 0) 3 []
theorem C1_ok [Syms] : COk C1 := ctxR_ok mixed (fun _ h => by cases h)
theorem C1_prims [Syms] (n : Nat) : PrimOk (C1.from n) := by
  refine PrimOk.of fun g p h => ?_
  have h' : pr1 g = some p := ctxR_prim (P := Tryz.prog) (base := 3) (n := 512) (rules := []) (by decide) h
  unfold pr1 at h'
  cases h1 : g.beq 394
  · rw [h1] at h'; cases h'
  · rw [h1] at h'; cases h'
    obtain rfl := Nat.eq_of_beq_eq_true h1
    exact memo_at (C := C1.from n) C0_ok C0_prims rfl rfl (Nat.zero_le _) (by decide) Tryz.func394 rfl (by kernel_rfl) cubesAll_ok
def shaKrow : Row := ([], .agg #[.int .u32 1116352408, .int .u32 1899447441, .int .u32 3049323471, .int .u32 3921009573, .int .u32 961987163, .int .u32 1508970993, .int .u32 2453635748, .int .u32 2870763221, .int .u32 3624381080, .int .u32 310598401, .int .u32 607225278, .int .u32 1426881987, .int .u32 1925078388, .int .u32 2162078206, .int .u32 2614888103, .int .u32 3248222580, .int .u32 3835390401, .int .u32 4022224774, .int .u32 264347078, .int .u32 604807628, .int .u32 770255983, .int .u32 1249150122, .int .u32 1555081692, .int .u32 1996064986, .int .u32 2554220882, .int .u32 2821834349, .int .u32 2952996808, .int .u32 3210313671, .int .u32 3336571891, .int .u32 3584528711, .int .u32 113926993, .int .u32 338241895, .int .u32 666307205, .int .u32 773529912, .int .u32 1294757372, .int .u32 1396182291, .int .u32 1695183700, .int .u32 1986661051, .int .u32 2177026350, .int .u32 2456956037, .int .u32 2730485921, .int .u32 2820302411, .int .u32 3259730800, .int .u32 3345764771, .int .u32 3516065817, .int .u32 3600352804, .int .u32 4094571909, .int .u32 275423344, .int .u32 430227734, .int .u32 506948616, .int .u32 659060556, .int .u32 883997877, .int .u32 958139571, .int .u32 1322822218, .int .u32 1537002063, .int .u32 1747873779, .int .u32 1955562222, .int .u32 2024104815, .int .u32 2227730452, .int .u32 2361852424, .int .u32 2428436474, .int .u32 2756734187, .int .u32 3204031479, .int .u32 3329325298])
def shaBrow : Row := ([], .agg #[.int .u32 1779033703, .int .u32 3144134277, .int .u32 1013904242, .int .u32 2773480762, .int .u32 1359893119, .int .u32 2600822924, .int .u32 528734635, .int .u32 1541459225])
theorem shaK_ok : rowB C1 331 2000 noTabs shaKrow = true := by kernel_rfl
theorem shaB_ok : rowB C0 330 2000 noTabs shaBrow = true := by kernel_rfl
end Go.Proofs.YtpmolggmafgeeaaGreatDoor
