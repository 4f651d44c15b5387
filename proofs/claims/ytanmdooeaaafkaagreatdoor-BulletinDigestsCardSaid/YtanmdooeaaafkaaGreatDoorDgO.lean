/-
  The row of BulletinDigests and its tied card, out of the lifted form.
-/
import Derived.Test.YtanmdooeaaafkaaGreatDoorTie
import Derived.Test.YtanmdooeaaafkaaGreatDoorCards
import Derived.SevenTiedAt
import Derived.Test.YtanmdooeaaafkaaGreatDoorDgL
import Derived.Test.YtanmdooeaaafkaaGreatDoorDgM
import Derived.Test.YtanmdooeaaafkaaGreatDoorDgN
set_option linter.unusedSectionVars false
set_option linter.unusedVariables false
set_option linter.unusedSimpArgs false
set_option maxRecDepth 100000
namespace Go.Proofs.YtanmdooeaaafkaaGreatDoor
open Go
theorem bulletinDigests_holds : Rows.BulletinDigestsSaid :=
  OpenClaim.holds_of_wide 5 Tryz.f5 rfl rfl rfl rfl rfl rfl rfl ⟨rfl, rfl, rfl, rfl, rfl⟩ rfl rfl rfl rfl rfl (by kernel_rfl) Tryz.func5 bulletinDigestsRow_closed
    (of_decide_eq_true (by kernel_rfl)) (by unfold Func.isWrapper; first | (rw [if_pos (by decide +kernel)]; kernel_rfl) | (rw [if_neg (by decide +kernel)]; exact ⟨rfl, rfl⟩))
    (fun os started H enc _ => digests_lifted os started H enc)
theorem bulletinDigests_card : Rows.BulletinDigestsCardSaid :=
  Claim7.holds_tied_plain_at .later [] [.data, .data, .data, .data, .sentinel, .sentinel, .pinned] true (true, "46764648e32fe722d284563d26bb1822674c7c4b489d44be6ed8b25ad3983281") true
    bulletinDigests_holds (fun _ h => by cases h) (by kernel_rfl) (fun _ h => by cases h) bulletinDigests_row_tie rfl ⟨rfl, rfl⟩ (by kernel_rfl) rfl
    (fun f fn hf hfn => by
      obtain rfl : f = 5 := Option.some.inj ((show Tryz.prog.funcNamed "sennet/sennetlaw09.BulletinDigests" = some 5 by kernel_rfl).symm.trans hf) |>.symm
      obtain rfl : fn = Tryz.f5 := (Option.some.inj (Tryz.func5.symm.trans hfn)).symm
      exact ⟨by kernel_rfl, fun j t ht => by
        rw [Tryz.params5] at ht
        have hm : t ∈ [31] := by simpa using Array.mem_of_getElem? ht
        have hall : ([31].all fun u => !Tryz.prog.wantsStandIn u) = true := by kernel_rfl
        exact (show Tryz.prog.wantsStandIn t = false by simpa using List.all_eq_true.1 hall t hm)⟩)
    (Go.Air.goesBy_no _ rfl)
end Go.Proofs.YtanmdooeaaafkaaGreatDoor
