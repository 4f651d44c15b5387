/-
 The row of BulletinViews and its tied card,out of the lifted form.
-/
import Derived.Test.YtfdbelnklcjogaaGreatDoorCards
import Derived.SevenTiedAt
import Derived.Test.YtfdbelnklcjogaaGreatDoorVwN
import Derived.Test.YtfdbelnklcjogaaGreatDoorVwO
import Derived.Test.YtfdbelnklcjogaaGreatDoorVwP
import Derived.Test.YtfdbelnklcjogaaGreatDoorVwQ
set_option linter.unusedSectionVars false
set_option linter.unusedVariables false
set_option linter.unusedSimpArgs false
set_option maxRecDepth 100000
namespace Go.Proofs.YtfdbelnklcjogaaGreatDoor
open Go
theorem zgn:Rows.BulletinViewsSaid:=
 OpenClaim.holds_of_wide 4 Tryz.f4 rfl rfl rfl rfl rfl rfl rfl ⟨rfl,rfl,rfl,rfl,rfl⟩ rfl rfl rfl rfl rfl (by kernel_rfl) Tryz.func4 zep
  (of_decide_eq_true (by kernel_rfl)) (by unfold Func.isWrapper;first|(rw[if_pos (by decide +kernel)];kernel_rfl)|(rw[if_neg (by decide +kernel)];exact⟨rfl,rfl⟩))
  (fun os started H enc _=>zkE os started H enc)
theorem bulletinViews_card:Rows.BulletinViewsCardSaid:=
 Claim7.holds_tied_plain_at .later [] [.data,.data,.data,.sentinel,.sentinel,.pinned,.data] true (true,"ac7d65eac63ce782356203ceaa4d96dc50626dc94df8a22403508c489c429d94") true
  zgn (fun _ h=>by cases h) (by kernel_rfl) (fun _ h=>by cases h) zjL rfl ⟨rfl,rfl⟩ (by kernel_rfl) rfl
  (fun f fn hf hfn=>by
    obtain rfl:f=4:=Option.some.inj ((show Tryz.prog.funcNamed "sennet/sennetlaw09.BulletinViews" = some 4 by kernel_rfl).symm.trans hf) |>.symm
    obtain rfl:fn=Tryz.f4:=(Option.some.inj (Tryz.func4.symm.trans hfn)).symm
    exact⟨by kernel_rfl,fun j t ht=>by
     rw[Tryz.params4]at ht
     have hm:t∈[22,3]:=by simpa using Array.mem_of_getElem? ht
     have hall:([22,3].all fun u => !Tryz.prog.wantsStandIn u)=true:=by kernel_rfl
     exact (show Tryz.prog.wantsStandIn t=false by simpa using List.all_eq_true.1 hall t hm)⟩)
  (Go.Air.goesBy_no _ rfl)
end Go.Proofs.YtfdbelnklcjogaaGreatDoor
