/-
  alive() returns true: run by the kernel in Air, from the empty heap; and each mirror is one (by the kernel).
-/
import Derived.Test.YtlldpmkdjpmlpaaAirPTbl
import Derived.Test.YtlldpmkdjpmlpaaFastEq3
import Derived.Test.YtlldpmkdjpmlpaaCheck
import Derived.Test.YtlldpmkdjpmlpaaProg
import Derived.KernelRfl
set_option linter.unusedSectionVars false
set_option linter.unusedVariables false
set_option linter.unusedSimpArgs false
set_option maxRecDepth 1000000
namespace Go.Air.Try
open Go.Air.Fast

theorem alive_air : runK (tblK tree) 1000000 22 [] H.empty false (fun v _ => isTrue v) = true := by kernel_rfl

noncomputable def okAt (k : Nat) : Bool := match tree.get k with
  | some fi => okFI Go.Proofs.Try.prog k fi
  | none => true
theorem all_ok : (List.range 256).all okAt = true := by kernel_rfl
def bound : T FI → Nat
  | .e => 0
  | .n l _ r => max 1 (max (2 * bound l) (2 * bound r + 1))
theorem get_high : ∀ (t : T FI) (k : Nat), bound t ≤ k → t.get k = none
  | .e, _, _ => rfl
  | .n l x r, 0, h => by simp only [bound] at h; omega
  | .n l x r, k + 1, h => by
    simp only [bound] at h
    simp only [T.get]
    split
    · exact get_high l (k / 2) (by omega)
    · rename_i hk
      exact get_high r (k / 2) (by omega)
theorem bound_tree : Nat.ble (bound tree) 256 = true := by kernel_rfl
theorem mixed : Go.Proofs.Try.prog.follows .mixedOrders = true := by kernel_rfl
end Go.Air.Try
