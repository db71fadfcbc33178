/- No function of the program starts a goroutine. -/
import Derived.Test.YtpmolggmafgeeaaGreatDoorChecked
import GoSem.ClaimGoes
import Derived.KernelRfl
namespace Go.Proofs.YtpmolggmafgeeaaGreatDoor
open Go
set_option maxRecDepth 1000000
noncomputable def noGo (g : Nat) : Bool := !(Tryz.prog.funcs[g]?).any Func.goes
theorem noGo0 : (List.range' 0 40).all noGo = true := by kernel_rfl
theorem noGo1 : (List.range' 40 40).all noGo = true := by kernel_rfl
theorem noGo2 : (List.range' 80 40).all noGo = true := by kernel_rfl
theorem noGo3 : (List.range' 120 40).all noGo = true := by kernel_rfl
theorem noGo4 : (List.range' 160 40).all noGo = true := by kernel_rfl
theorem noGo5 : (List.range' 200 40).all noGo = true := by kernel_rfl
theorem noGo6 : (List.range' 240 40).all noGo = true := by kernel_rfl
theorem noGo7 : (List.range' 280 40).all noGo = true := by kernel_rfl
theorem noGo8 : (List.range' 320 40).all noGo = true := by kernel_rfl
theorem noGo9 : (List.range' 360 40).all noGo = true := by kernel_rfl
theorem noGo10 : (List.range' 400 40).all noGo = true := by kernel_rfl
theorem noGo11 : (List.range' 440 35).all noGo = true := by kernel_rfl
theorem noGoSize : Tryz.prog.funcs.size = 475 := by kernel_rfl
theorem noGoAt (g : Nat) : (Tryz.prog.funcs[g]?).any Func.goes = false := by
  have key : noGo g = true → (Tryz.prog.funcs[g]?).any Func.goes = false := fun h => by
    unfold noGo at h
    cases hb : (Tryz.prog.funcs[g]?).any Func.goes
    · rfl
    · rw [hb] at h; cases h
  by_cases hg : g < 475
  · apply key
    by_cases h0 : g < 40
    · exact List.all_eq_true.1 noGo0 g (List.mem_range'_1.2 ⟨by omega, by omega⟩)
    by_cases h1 : g < 80
    · exact List.all_eq_true.1 noGo1 g (List.mem_range'_1.2 ⟨by omega, by omega⟩)
    by_cases h2 : g < 120
    · exact List.all_eq_true.1 noGo2 g (List.mem_range'_1.2 ⟨by omega, by omega⟩)
    by_cases h3 : g < 160
    · exact List.all_eq_true.1 noGo3 g (List.mem_range'_1.2 ⟨by omega, by omega⟩)
    by_cases h4 : g < 200
    · exact List.all_eq_true.1 noGo4 g (List.mem_range'_1.2 ⟨by omega, by omega⟩)
    by_cases h5 : g < 240
    · exact List.all_eq_true.1 noGo5 g (List.mem_range'_1.2 ⟨by omega, by omega⟩)
    by_cases h6 : g < 280
    · exact List.all_eq_true.1 noGo6 g (List.mem_range'_1.2 ⟨by omega, by omega⟩)
    by_cases h7 : g < 320
    · exact List.all_eq_true.1 noGo7 g (List.mem_range'_1.2 ⟨by omega, by omega⟩)
    by_cases h8 : g < 360
    · exact List.all_eq_true.1 noGo8 g (List.mem_range'_1.2 ⟨by omega, by omega⟩)
    by_cases h9 : g < 400
    · exact List.all_eq_true.1 noGo9 g (List.mem_range'_1.2 ⟨by omega, by omega⟩)
    by_cases h10 : g < 440
    · exact List.all_eq_true.1 noGo10 g (List.mem_range'_1.2 ⟨by omega, by omega⟩)
    exact List.all_eq_true.1 noGo11 g (List.mem_range'_1.2 ⟨by omega, by omega⟩)
  · have : Tryz.prog.funcs[g]? = none := Array.getElem?_eq_none (by rw [noGoSize]; omega)
    rw [this]; rfl
theorem noGoAny (f : FuncId) : Tryz.prog.goes f = false := by
  unfold Program.goes
  have h1 : ((Tryz.prog.closure f).any fun g => (Tryz.prog.funcs[g]?).any Func.goes) = false := by
    rw [Bool.eq_false_iff]
    intro h
    rw [List.any_eq_true] at h
    obtain ⟨g, _, hg⟩ := h
    rw [noGoAt g] at hg; cases hg
  have h2 : Tryz.prog.funcs.any Func.goes = false := by
    rw [Bool.eq_false_iff]
    intro h
    rw [Array.any_eq_true] at h
    obtain ⟨i, hi, hg⟩ := h
    have := noGoAt i
    rw [Array.getElem?_eq_getElem hi] at this
    rw [show (some Tryz.prog.funcs[i]).any Func.goes = Func.goes Tryz.prog.funcs[i] from rfl, hg] at this
    cases this
  rw [h1, h2, Bool.and_false]; rfl
end Go.Proofs.YtpmolggmafgeeaaGreatDoor
