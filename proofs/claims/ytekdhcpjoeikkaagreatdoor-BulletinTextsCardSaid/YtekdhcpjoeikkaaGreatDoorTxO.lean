/-
  The row of BulletinTexts and its tied card, out of the lifted form.
-/
import Derived.Test.YtekdhcpjoeikkaaGreatDoorTie
import Derived.Test.YtekdhcpjoeikkaaGreatDoorCards
import Derived.SevenTiedAt
import Derived.Test.YtekdhcpjoeikkaaGreatDoorTxL
import Derived.Test.YtekdhcpjoeikkaaGreatDoorTxM
import Derived.Test.YtekdhcpjoeikkaaGreatDoorTxN
set_option linter.unusedSectionVars false
set_option linter.unusedVariables false
set_option linter.unusedSimpArgs false
set_option maxRecDepth 100000
namespace Go.Proofs.YtekdhcpjoeikkaaGreatDoor
open Go
theorem bulletinTexts_holds : Rows.BulletinTextsSaid :=
  OpenClaim.holds_of_wide 3 Tryz.f3 rfl rfl rfl rfl rfl rfl rfl ⟨rfl, rfl, rfl, rfl, rfl⟩ rfl rfl rfl rfl rfl (by kernel_rfl) Tryz.func3 bulletinTextsRow_closed
    (of_decide_eq_true (by kernel_rfl)) (by unfold Func.isWrapper; first | (rw [if_pos (by decide +kernel)]; kernel_rfl) | (rw [if_neg (by decide +kernel)]; exact ⟨rfl, rfl⟩))
    (fun os started H enc _ => texts_lifted os started H enc)
theorem bulletinTexts_card : Rows.BulletinTextsCardSaid :=
  Claim7.holds_tied_plain_at .later [] [.data, .data, .data, .data, .sentinel, .sentinel, .pinned, .pinned] true (true, "62fe5f63f339b72825eb0e0ec4c5f80e56b004b2d08318258504a2103f6d6ade") true
    bulletinTexts_holds (fun _ h => by cases h) (by kernel_rfl) (fun _ h => by cases h) bulletinTexts_row_tie rfl ⟨rfl, rfl⟩ (by kernel_rfl) rfl
    (fun f fn hf hfn => by
      obtain rfl : f = 3 := Option.some.inj ((show Tryz.prog.funcNamed "sennet/sennetlaw09.BulletinTexts" = some 3 by kernel_rfl).symm.trans hf) |>.symm
      obtain rfl : fn = Tryz.f3 := (Option.some.inj (Tryz.func3.symm.trans hfn)).symm
      exact ⟨by kernel_rfl, fun j t ht => by
        rw [Tryz.params3] at ht
        have hm : t ∈ [25, 9] := by simpa using Array.mem_of_getElem? ht
        have hall : ([25, 9].all fun u => !Tryz.prog.wantsStandIn u) = true := by kernel_rfl
        exact (show Tryz.prog.wantsStandIn t = false by simpa using List.all_eq_true.1 hall t hm)⟩)
    (Go.Air.goesBy_no _ rfl)
end Go.Proofs.YtekdhcpjoeikkaaGreatDoor
