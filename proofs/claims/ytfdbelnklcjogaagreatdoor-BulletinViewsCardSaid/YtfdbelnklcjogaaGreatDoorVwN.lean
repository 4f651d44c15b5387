/-
 A part of the proof of: The row of BulletinViews and its tied card,out of the lifted form.
-/
import Derived.JoinedOf
import Derived.Test.YtfdbelnklcjogaaGreatDoorVwF
import Derived.Test.YtfdbelnklcjogaaGreatDoorVwM
set_option linter.unusedSectionVars false
set_option linter.unusedVariables false
set_option linter.unusedSimpArgs false
set_option maxRecDepth 100000
namespace Go.Proofs.YtfdbelnklcjogaaGreatDoor
open Go.ChangeShapes Go.WideShapes Go.ChangeAt Go.RowKit Go.Air
theorem zkE (os:Os) (started:os.Started) (H:Type) (enc:TypeId × Value→H) :
 ReturnsInHanded {} Tryz.checked os 4 .any (fun w args=>(Rows.bulletinViewsSpec.pre enc P9 Tryz.f4 [] false w args∧laidMetH P9 laidList w)∧sizedMet enc P9 Tryz.f4 (OpenSpec.ofChange Rows.bulletinViewsSpec) false w args) (Rows.bulletinViewsSpec.post enc P9 Tryz.f4 false true false false):=by
 refine row_laid (bt:=4) (args0 := #[.slice none 0 0,.int .i64 0]) rfl Tryz.func4 rfl ?_ (by kernel_rfl) (by kernel_rfl) (by kernel_rfl) (by kernel_rfl) os started H enc (by kernel_rfl) (by kernel_rfl) (by kernel_rfl) (by kernel_rfl) (by kernel_rfl) ?_
 ·intro H ds hl
  rw[Tryz.params4]at hl
  match ds,hl with
  |[d1,d2],_=>rfl
 ·intro W args ds ps base hval hA _ ht
  rw[Tryz.params4]at hA hval
  have hA':DataW.TrodAll enc Tryz.prog W 0 (fun _=>true) true [22,3] args ds ps:=hA
  obtain⟨v1,vs1,d1,ds1,a1,b1,rfl,rfl,rfl,q1,hA'⟩:=trodAll_cons hA'
  obtain⟨v2,vs2,d2,ds2,a2,b2,rfl,rfl,rfl,q2,hA'⟩:=trodAll_cons hA'
  obtain⟨rfl,rfl,rfl⟩:=trodAll_nil hA'
  obtain⟨u1,bs,g1,g2,g3⟩:=zon (hval 0 22 v1 rfl rfl) q1
  obtain⟨n,i1,i2⟩:=zpG (k:=.i64) (by kernel_rfl) (hval 1 3 v2 rfl rfl) q2
  exact⟨[u1,.i .i64 n],zah.2 ⟨v1,[v2],g1,zah.2 ⟨v2,[],i2 _,zbI _,rfl⟩,rfl⟩,zpZ (tb4_of ht) g2 g3⟩
end Go.Proofs.YtfdbelnklcjogaaGreatDoor
