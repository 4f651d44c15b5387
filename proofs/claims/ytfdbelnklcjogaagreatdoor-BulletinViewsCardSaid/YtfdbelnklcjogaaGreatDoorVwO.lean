/-
 A part of the proof of: The row of BulletinViews and its tied card,out of the lifted form.
-/
import Derived.Test.YtfdbelnklcjogaaGreatDoorRows
import Derived.JoinedOf
import Derived.KernelRfl
import Derived.Test.YtfdbelnklcjogaaGreatDoorVwK
set_option linter.unusedSectionVars false
set_option linter.unusedVariables false
set_option linter.unusedSimpArgs false
set_option maxRecDepth 100000
namespace Go.Proofs.YtfdbelnklcjogaaGreatDoor
open Go
theorem zgx:(fun (P:Program) (f:FuncId) (fn:Func) (s:ChangeSpec) (c:OpenClaim)=>(c.wf (OpenSpec.ofChange s):Bool)) Tryz.prog 4 Tryz.f4 Rows.bulletinViewsSpec Rows.bulletinViewsRow=true:=by kernel_rfl
theorem zgw:(fun (P:Program) (f:FuncId) (fn:Func) (s:ChangeSpec) (c:OpenClaim)=>(mapsRowed P:Bool)) Tryz.prog 4 Tryz.f4 Rows.bulletinViewsSpec Rows.bulletinViewsRow=true:=by kernel_rfl
theorem zgv:(fun (P:Program) (f:FuncId) (fn:Func) (s:ChangeSpec) (c:OpenClaim)=>(fn.params.all (P.readableRec ·):Bool)) Tryz.prog 4 Tryz.f4 Rows.bulletinViewsSpec Rows.bulletinViewsRow=true:=by kernel_rfl
theorem zgu:(fun (P:Program) (f:FuncId) (fn:Func) (s:ChangeSpec) (c:OpenClaim)=>(namedTie P c.named s.vars:Bool)) Tryz.prog 4 Tryz.f4 Rows.bulletinViewsSpec Rows.bulletinViewsRow=true:=by kernel_rfl
theorem zgt:(fun (P:Program) (f:FuncId) (fn:Func) (s:ChangeSpec) (c:OpenClaim)=>((c.stops==[]):Bool)) Tryz.prog 4 Tryz.f4 Rows.bulletinViewsSpec Rows.bulletinViewsRow=true:=by kernel_rfl
theorem zgs:(fun (P:Program) (f:FuncId) (fn:Func) (s:ChangeSpec) (c:OpenClaim)=>((P.stops==[]):Bool)) Tryz.prog 4 Tryz.f4 Rows.bulletinViewsSpec Rows.bulletinViewsRow=true:=by kernel_rfl
theorem zgr:(fun (P:Program) (f:FuncId) (fn:Func) (s:ChangeSpec) (c:OpenClaim)=>((c.knobs==[]):Bool)) Tryz.prog 4 Tryz.f4 Rows.bulletinViewsSpec Rows.bulletinViewsRow=true:=by kernel_rfl
theorem zgq:(fun (P:Program) (f:FuncId) (fn:Func) (s:ChangeSpec) (c:OpenClaim)=>((P.stopKnobs==[]):Bool)) Tryz.prog 4 Tryz.f4 Rows.bulletinViewsSpec Rows.bulletinViewsRow=true:=by kernel_rfl
theorem zgp:(fun (P:Program) (f:FuncId) (fn:Func) (s:ChangeSpec) (c:OpenClaim)=>((c.inPlace==P.inPlace f):Bool)) Tryz.prog 4 Tryz.f4 Rows.bulletinViewsSpec Rows.bulletinViewsRow=true:=by kernel_rfl
theorem zgo:(fun (P:Program) (f:FuncId) (fn:Func) (s:ChangeSpec) (c:OpenClaim)=>((c.unfollowed==P.unfollowed f):Bool)) Tryz.prog 4 Tryz.f4 Rows.bulletinViewsSpec Rows.bulletinViewsRow=true:=by kernel_rfl
theorem zfL:(fun (P:Program) (f:FuncId) (fn:Func) (s:ChangeSpec) (c:OpenClaim)=>((c.recurses==P.recurses f):Bool)) Tryz.prog 4 Tryz.f4 Rows.bulletinViewsSpec Rows.bulletinViewsRow=true:=by kernel_rfl
theorem zfK:(fun (P:Program) (f:FuncId) (fn:Func) (s:ChangeSpec) (c:OpenClaim)=>((c.named==P.varsNamed f):Bool)) Tryz.prog 4 Tryz.f4 Rows.bulletinViewsSpec Rows.bulletinViewsRow=true:=by kernel_rfl
theorem zfJ:(fun (P:Program) (f:FuncId) (fn:Func) (s:ChangeSpec) (c:OpenClaim)=>((c.maps==(fn.params.toList++s.plain.varTypes P).any (P.mapsRec ·)):Bool)) Tryz.prog 4 Tryz.f4 Rows.bulletinViewsSpec Rows.bulletinViewsRow=true:=by kernel_rfl
theorem zfI:(fun (P:Program) (f:FuncId) (fn:Func) (s:ChangeSpec) (c:OpenClaim)=>((c.ifaces==(fn.params.toList++s.plain.varTypes P).any (P.ifacesRec ·)):Bool)) Tryz.prog 4 Tryz.f4 Rows.bulletinViewsSpec Rows.bulletinViewsRow=true:=by kernel_rfl
theorem zfH:(fun (P:Program) (f:FuncId) (fn:Func) (s:ChangeSpec) (c:OpenClaim)=>((c.mapsOut==P.mapsAmong fn.resultTypes.toList):Bool)) Tryz.prog 4 Tryz.f4 Rows.bulletinViewsSpec Rows.bulletinViewsRow=true:=by kernel_rfl
theorem zfG:(fun (P:Program) (f:FuncId) (fn:Func) (s:ChangeSpec) (c:OpenClaim)=>((c.loops==(fn.params.toList++s.plain.varTypes P).any (P.loopsFrom ·)):Bool)) Tryz.prog 4 Tryz.f4 Rows.bulletinViewsSpec Rows.bulletinViewsRow=true:=by kernel_rfl
theorem zfF:(fun (P:Program) (f:FuncId) (fn:Func) (s:ChangeSpec) (c:OpenClaim)=>((c.wideKeys==(fn.params.toList++s.plain.varTypes P++fn.resultTypes.toList).any (P.wideKeysFrom ·)):Bool)) Tryz.prog 4 Tryz.f4 Rows.bulletinViewsSpec Rows.bulletinViewsRow=true:=by kernel_rfl
theorem zfE:(fun (P:Program) (f:FuncId) (fn:Func) (s:ChangeSpec) (c:OpenClaim)=>(s.vars.all (P.varReadable ·):Bool)) Tryz.prog 4 Tryz.f4 Rows.bulletinViewsSpec Rows.bulletinViewsRow=true:=by kernel_rfl
theorem zfD:(fun (P:Program) (f:FuncId) (fn:Func) (s:ChangeSpec) (c:OpenClaim)=>(fn.resultTypes.all (fun t=>P.readableRec t&&decide (t<P.types.size)):Bool)) Tryz.prog 4 Tryz.f4 Rows.bulletinViewsSpec Rows.bulletinViewsRow=true:=by kernel_rfl
theorem zfC:(fun (P:Program) (f:FuncId) (fn:Func) (s:ChangeSpec) (c:OpenClaim)=>((c.ifacesOut==fn.resultTypes.toList.any (P.ifacesRec ·)):Bool)) Tryz.prog 4 Tryz.f4 Rows.bulletinViewsSpec Rows.bulletinViewsRow=true:=by kernel_rfl
theorem zfB:(fun (P:Program) (f:FuncId) (fn:Func) (s:ChangeSpec) (c:OpenClaim)=>((c.loopsOut==fn.resultTypes.toList.any (P.loopsFrom ·)):Bool)) Tryz.prog 4 Tryz.f4 Rows.bulletinViewsSpec Rows.bulletinViewsRow=true:=by kernel_rfl
theorem zfA:(fun (P:Program) (f:FuncId) (fn:Func) (s:ChangeSpec) (c:OpenClaim)=>((c.plainKeys==P.plainKeys):Bool)) Tryz.prog 4 Tryz.f4 Rows.bulletinViewsSpec Rows.bulletinViewsRow=true:=by kernel_rfl
theorem zfz:(fun (P:Program) (f:FuncId) (fn:Func) (s:ChangeSpec) (c:OpenClaim)=>(c.shortTexts.isNone:Bool)) Tryz.prog 4 Tryz.f4 Rows.bulletinViewsSpec Rows.bulletinViewsRow=true:=by kernel_rfl
theorem zfy:(fun (P:Program) (f:FuncId) (fn:Func) (s:ChangeSpec) (c:OpenClaim)=>(P.stopsHeard:Bool)) Tryz.prog 4 Tryz.f4 Rows.bulletinViewsSpec Rows.bulletinViewsRow=true:=by kernel_rfl
theorem zfx:(fun (P:Program) (f:FuncId) (fn:Func) (s:ChangeSpec) (c:OpenClaim)=>(P.mayEnter:Bool)) Tryz.prog 4 Tryz.f4 Rows.bulletinViewsSpec Rows.bulletinViewsRow=true:=by kernel_rfl
theorem zfw:(fun (P:Program) (f:FuncId) (fn:Func) (s:ChangeSpec) (c:OpenClaim)=>((c.lifted==P.liftsFinal):Bool)) Tryz.prog 4 Tryz.f4 Rows.bulletinViewsSpec Rows.bulletinViewsRow=true:=by kernel_rfl
theorem zfv:(fun (P:Program) (f:FuncId) (fn:Func) (s:ChangeSpec) (c:OpenClaim)=>((P.make==some c.make):Bool)) Tryz.prog 4 Tryz.f4 Rows.bulletinViewsSpec Rows.bulletinViewsRow=true:=by kernel_rfl
theorem zfu:(fun (P:Program) (f:FuncId) (fn:Func) (s:ChangeSpec) (c:OpenClaim)=>((c.kinds==(if c.domain.isEmpty then [] else fn.params.toList.map fun t=>match P.underlying t with|some (.int k)=>some k|_=>none)):Bool)) Tryz.prog 4 Tryz.f4 Rows.bulletinViewsSpec Rows.bulletinViewsRow=true:=by kernel_rfl
theorem zft:(fun (P:Program) (f:FuncId) (fn:Func) (s:ChangeSpec) (c:OpenClaim)=>((c.pinned==c.pinnedBy):Bool)) Tryz.prog 4 Tryz.f4 Rows.bulletinViewsSpec Rows.bulletinViewsRow=true:=by kernel_rfl
theorem zfs:(fun (P:Program) (f:FuncId) (fn:Func) (s:ChangeSpec) (c:OpenClaim)=>((c.veiled==(fn.params.toList++s.plain.varTypes P++fn.resultTypes.toList).any (P.veiledRec ·)):Bool)) Tryz.prog 4 Tryz.f4 Rows.bulletinViewsSpec Rows.bulletinViewsRow=true:=by kernel_rfl
theorem zfr:(fun (P:Program) (f:FuncId) (fn:Func) (s:ChangeSpec) (c:OpenClaim)=>(c.veiledFits P fn.params.toList (fn.params.toList++s.plain.varTypes P++fn.resultTypes.toList):Bool)) Tryz.prog 4 Tryz.f4 Rows.bulletinViewsSpec Rows.bulletinViewsRow=true:=by kernel_rfl
theorem zep:joinedFacts Tryz.prog 4 Tryz.f4 Rows.bulletinViewsSpec Rows.bulletinViewsRow=true:=by
 unfold joinedFacts
 simp only[Bool.and_eq_true]
 exact⟨⟨⟨⟨⟨⟨⟨⟨⟨⟨⟨⟨⟨⟨⟨⟨⟨⟨⟨⟨⟨⟨⟨⟨⟨⟨⟨⟨⟨⟨⟨zgx,Go.Air.laid⟩,zgw⟩,zgv⟩,zgu⟩,zgt⟩,zgs⟩,zgr⟩,zgq⟩,zgp⟩,zgo⟩,zfL⟩,zfK⟩,zfJ⟩,zfI⟩,zfH⟩,zfG⟩,zfF⟩,zfE⟩,zfD⟩,zfC⟩,zfB⟩,zfA⟩,zfz⟩,zfy⟩,zfx⟩,zfw⟩,zfv⟩,zfu⟩,zft⟩,zfs⟩,zfr⟩
end Go.Proofs.YtfdbelnklcjogaaGreatDoor
