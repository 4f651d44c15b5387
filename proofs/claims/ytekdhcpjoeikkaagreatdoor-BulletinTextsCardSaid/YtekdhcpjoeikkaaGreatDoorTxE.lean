/-
  A part of the proof of: The row of BulletinTexts and its tied card, out of the lifted form.
-/
import Derived.Test.YtekdhcpjoeikkaaGreatDoorTxD
set_option linter.unusedSectionVars false
set_option linter.unusedVariables false
set_option linter.unusedSimpArgs false
set_option maxRecDepth 1000000
namespace Go.Air.Try
open Go.Air.Fast
theorem alive_air : runK (tkV Bool) 1000000 4 [] bareH false (fun v h => isTrue v && h.log.all (Nat.ble topBlk)) = true := by kernel_rfl
theorem run_pred {tK : TbK Bool} {tbl : Tb} (ht : TEq tK tbl) {k f : Nat} {args : List V} {h : H} {g : V → H → Bool} (hk : runK tK k f args h false g = true) : ∃ v h', run tbl k f args h = .ok v h' ∧ g v h' = true := by
  rw [runK_eq ht] at hk
  cases hq : run tbl k f args h with
  | fail => rw [hq] at hk; simp [RO.el] at hk
  | pan v h' => rw [hq] at hk; simp [RO.el] at hk
  | ok v h' => rw [hq] at hk; exact ⟨v, h', rfl, hk⟩
end Go.Air.Try
