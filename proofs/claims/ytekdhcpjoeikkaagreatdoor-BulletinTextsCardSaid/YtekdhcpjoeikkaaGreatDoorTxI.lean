/-
  A part of the proof of: The row of BulletinTexts and its tied card, out of the lifted form.
-/
import Derived.Test.YtekdhcpjoeikkaaGreatDoorRows
import Derived.KernelRfl
set_option linter.unusedSectionVars false
set_option linter.unusedVariables false
set_option linter.unusedSimpArgs false
set_option maxRecDepth 100000
namespace Go.Air
noncomputable abbrev P9 : Program := Go.Proofs.Tryz.prog
theorem types_size : P9.types.size = 598 := by kernel_rfl
theorem fine0 : (List.range' 0 200).all (rowFine P9) = true := by kernel_rfl
theorem fine1 : (List.range' 200 200).all (rowFine P9) = true := by kernel_rfl
theorem fine2 : (List.range' 400 198).all (rowFine P9) = true := by kernel_rfl
theorem fineG : P9.globals.all (fun g => Nat.blt g.type 598) = true := by kernel_rfl
theorem fineF : P9.funcs.all (fun f => f.params.all fun t => Nat.blt t 598) = true := by kernel_rfl
theorem lt_blt (t : Nat) : decide (t < P9.types.size) = Nat.blt t 598 := by
  rw [types_size, Bool.eq_iff_iff, decide_eq_true_iff, Nat.blt_eq]
theorem laid : laidOutB P9 = true := by
  unfold laidOutB
  rw [types_size, Bool.and_eq_true, Bool.and_eq_true]
  refine ⟨⟨?_, ?_⟩, ?_⟩
  · rw [List.all_eq_true]
    intro t ht
    have ht := List.mem_range.1 ht
    by_cases h0 : t < 200
    · exact List.all_eq_true.1 fine0 t (List.mem_range'_1.2 ⟨by omega, by omega⟩)
    by_cases h1 : t < 400
    · exact List.all_eq_true.1 fine1 t (List.mem_range'_1.2 ⟨by omega, by omega⟩)
    · exact List.all_eq_true.1 fine2 t (List.mem_range'_1.2 ⟨by omega, by omega⟩)
  · have : (fun g : Global => decide (g.type < 598)) = fun g => Nat.blt g.type 598 := by
      funext g
      rw [← lt_blt, types_size]
    rw [this]; exact fineG
  · have : (fun f : Func => f.params.all fun t => decide (t < 598)) = fun f => f.params.all fun t => Nat.blt t 598 := by
      funext f
      congr 1
      funext t
      rw [← lt_blt, types_size]
    rw [this]; exact fineF
end Go.Air
