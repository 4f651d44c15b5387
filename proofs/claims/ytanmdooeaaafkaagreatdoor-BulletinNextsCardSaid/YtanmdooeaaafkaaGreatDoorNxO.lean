/-
  The row of BulletinNexts and its tied card, out of the lifted form.
-/
import Derived.Test.YtanmdooeaaafkaaGreatDoorTie
import Derived.Test.YtanmdooeaaafkaaGreatDoorCards
import Derived.SevenTiedAt
import Derived.Test.YtanmdooeaaafkaaGreatDoorNxL
import Derived.Test.YtanmdooeaaafkaaGreatDoorNxM
import Derived.Test.YtanmdooeaaafkaaGreatDoorNxN
set_option linter.unusedSectionVars false
set_option linter.unusedVariables false
set_option linter.unusedSimpArgs false
set_option maxRecDepth 100000
namespace Go.Proofs.YtanmdooeaaafkaaGreatDoor
open Go
theorem bulletinNexts_holds : Rows.BulletinNextsSaid :=
  OpenClaim.holds_of_wide 4 Tryz.f4 rfl rfl rfl rfl rfl rfl rfl ⟨rfl, rfl, rfl, rfl, rfl⟩ rfl rfl rfl rfl rfl (by kernel_rfl) Tryz.func4 bulletinNextsRow_closed
    (of_decide_eq_true (by kernel_rfl)) (by unfold Func.isWrapper; first | (rw [if_pos (by decide +kernel)]; kernel_rfl) | (rw [if_neg (by decide +kernel)]; exact ⟨rfl, rfl⟩))
    (fun os started H enc _ => nexts_lifted os started H enc)
theorem bulletinNexts_card : Rows.BulletinNextsCardSaid :=
  Claim7.holds_tied_plain_at .later [] [.data, .data, .data, .data, .sentinel, .sentinel, .pinned] true (true, "46764648e32fe722d284563d26bb1822674c7c4b489d44be6ed8b25ad3983281") true
    bulletinNexts_holds (fun _ h => by cases h) (by kernel_rfl) (fun _ h => by cases h) bulletinNexts_row_tie rfl ⟨rfl, rfl⟩ (by kernel_rfl) rfl
    (fun f fn hf hfn => by
      obtain rfl : f = 4 := Option.some.inj ((show Tryz.prog.funcNamed "sennet/sennetlaw09.BulletinNexts" = some 4 by kernel_rfl).symm.trans hf) |>.symm
      obtain rfl : fn = Tryz.f4 := (Option.some.inj (Tryz.func4.symm.trans hfn)).symm
      exact ⟨by kernel_rfl, fun j t ht => by
        rw [Tryz.params4] at ht
        have hm : t ∈ [28, 3, 3, 5, 9, 3] := by simpa using Array.mem_of_getElem? ht
        have hall : ([28, 3, 3, 5, 9, 3].all fun u => !Tryz.prog.wantsStandIn u) = true := by kernel_rfl
        exact (show Tryz.prog.wantsStandIn t = false by simpa using List.all_eq_true.1 hall t hm)⟩)
    (Go.Air.goesBy_no _ rfl)
end Go.Proofs.YtanmdooeaaafkaaGreatDoor
