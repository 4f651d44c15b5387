/-
  The row of BulletinAnnounces and its tied card, out of the lifted form.
-/
import Derived.Test.YtolfigdgknfdaaaGreatDoorTie
import Derived.Test.YtolfigdgknfdaaaGreatDoorCards
import Derived.SevenTiedAt
import Derived.Test.YtolfigdgknfdaaaGreatDoorAnM
import Derived.Test.YtolfigdgknfdaaaGreatDoorAnN
import Derived.Test.YtolfigdgknfdaaaGreatDoorAnO
set_option linter.unusedSectionVars false
set_option linter.unusedVariables false
set_option linter.unusedSimpArgs false
set_option maxRecDepth 100000
namespace Go.Proofs.YtolfigdgknfdaaaGreatDoor
open Go
theorem bulletinAnnounces_holds : Rows.BulletinAnnouncesSaid :=
  OpenClaim.holds_of_wide 3 Tryz.f3 rfl rfl rfl rfl rfl rfl rfl ⟨rfl, rfl, rfl, rfl, rfl⟩ rfl rfl rfl rfl rfl (by kernel_rfl) Tryz.func3 bulletinAnnouncesRow_closed
    (of_decide_eq_true (by kernel_rfl)) (by unfold Func.isWrapper; first | (rw [if_pos (by decide +kernel)]; kernel_rfl) | (rw [if_neg (by decide +kernel)]; exact ⟨rfl, rfl⟩))
    (fun os started H enc _ => announces_lifted os started H enc)
theorem bulletinAnnounces_card : Rows.BulletinAnnouncesCardSaid :=
  Claim7.holds_tied_plain_at .later [] [.data, .data, .data, .data, .sentinel, .sentinel, .pinned] true (true, "a765bed0a41ea539d540649a933b1a9751f571aa9801f887c799555814416929") true
    bulletinAnnounces_holds (fun _ h => by cases h) (by kernel_rfl) (fun _ h => by cases h) bulletinAnnounces_row_tie rfl ⟨rfl, rfl⟩ (by kernel_rfl) rfl
    (fun f fn hf hfn => by
      obtain rfl : f = 3 := Option.some.inj ((show Tryz.prog.funcNamed "sennet/sennetlaw09.BulletinAnnounces" = some 3 by kernel_rfl).symm.trans hf) |>.symm
      obtain rfl : fn = Tryz.f3 := (Option.some.inj (Tryz.func3.symm.trans hfn)).symm
      exact ⟨by kernel_rfl, fun j t ht => by
        rw [Tryz.params3] at ht
        have hm : t ∈ [27, 9] := by simpa using Array.mem_of_getElem? ht
        have hall : ([27, 9].all fun u => !Tryz.prog.wantsStandIn u) = true := by kernel_rfl
        exact (show Tryz.prog.wantsStandIn t = false by simpa using List.all_eq_true.1 hall t hm)⟩)
    (Go.Air.goesBy_no _ rfl)
end Go.Proofs.YtolfigdgknfdaaaGreatDoor
