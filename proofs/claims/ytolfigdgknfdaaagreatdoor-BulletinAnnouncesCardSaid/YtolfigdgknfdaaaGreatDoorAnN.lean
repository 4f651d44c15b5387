/-
  A part of the proof of: The row of BulletinAnnounces and its tied card, out of the lifted form.
-/
import Derived.Test.YtolfigdgknfdaaaGreatDoorRows
import Derived.JoinedOf
import Derived.KernelRfl
import Derived.Test.YtolfigdgknfdaaaGreatDoorAnJ
set_option linter.unusedSectionVars false
set_option linter.unusedVariables false
set_option linter.unusedSimpArgs false
set_option maxRecDepth 100000
namespace Go.Proofs.YtolfigdgknfdaaaGreatDoor
open Go
theorem bulletinAnnouncesRow_k0 : (fun (P : Program) (f : FuncId) (fn : Func) (s : ChangeSpec) (c : OpenClaim) => (c.wf (OpenSpec.ofChange s) : Bool)) Tryz.prog 3 Tryz.f3 Rows.bulletinAnnouncesSpec Rows.bulletinAnnouncesRow = true := by kernel_rfl
theorem bulletinAnnouncesRow_k1 : (fun (P : Program) (f : FuncId) (fn : Func) (s : ChangeSpec) (c : OpenClaim) => (mapsRowed P : Bool)) Tryz.prog 3 Tryz.f3 Rows.bulletinAnnouncesSpec Rows.bulletinAnnouncesRow = true := by kernel_rfl
theorem bulletinAnnouncesRow_k2 : (fun (P : Program) (f : FuncId) (fn : Func) (s : ChangeSpec) (c : OpenClaim) => (fn.params.all (P.readableRec ·) : Bool)) Tryz.prog 3 Tryz.f3 Rows.bulletinAnnouncesSpec Rows.bulletinAnnouncesRow = true := by kernel_rfl
theorem bulletinAnnouncesRow_k3 : (fun (P : Program) (f : FuncId) (fn : Func) (s : ChangeSpec) (c : OpenClaim) => (namedTie P c.named s.vars : Bool)) Tryz.prog 3 Tryz.f3 Rows.bulletinAnnouncesSpec Rows.bulletinAnnouncesRow = true := by kernel_rfl
theorem bulletinAnnouncesRow_k4 : (fun (P : Program) (f : FuncId) (fn : Func) (s : ChangeSpec) (c : OpenClaim) => ((c.stops == []) : Bool)) Tryz.prog 3 Tryz.f3 Rows.bulletinAnnouncesSpec Rows.bulletinAnnouncesRow = true := by kernel_rfl
theorem bulletinAnnouncesRow_k5 : (fun (P : Program) (f : FuncId) (fn : Func) (s : ChangeSpec) (c : OpenClaim) => ((P.stops == []) : Bool)) Tryz.prog 3 Tryz.f3 Rows.bulletinAnnouncesSpec Rows.bulletinAnnouncesRow = true := by kernel_rfl
theorem bulletinAnnouncesRow_k6 : (fun (P : Program) (f : FuncId) (fn : Func) (s : ChangeSpec) (c : OpenClaim) => ((c.knobs == []) : Bool)) Tryz.prog 3 Tryz.f3 Rows.bulletinAnnouncesSpec Rows.bulletinAnnouncesRow = true := by kernel_rfl
theorem bulletinAnnouncesRow_k7 : (fun (P : Program) (f : FuncId) (fn : Func) (s : ChangeSpec) (c : OpenClaim) => ((P.stopKnobs == []) : Bool)) Tryz.prog 3 Tryz.f3 Rows.bulletinAnnouncesSpec Rows.bulletinAnnouncesRow = true := by kernel_rfl
theorem bulletinAnnouncesRow_k8 : (fun (P : Program) (f : FuncId) (fn : Func) (s : ChangeSpec) (c : OpenClaim) => ((c.inPlace == P.inPlace f) : Bool)) Tryz.prog 3 Tryz.f3 Rows.bulletinAnnouncesSpec Rows.bulletinAnnouncesRow = true := by kernel_rfl
theorem bulletinAnnouncesRow_k9 : (fun (P : Program) (f : FuncId) (fn : Func) (s : ChangeSpec) (c : OpenClaim) => ((c.unfollowed == P.unfollowed f) : Bool)) Tryz.prog 3 Tryz.f3 Rows.bulletinAnnouncesSpec Rows.bulletinAnnouncesRow = true := by kernel_rfl
theorem bulletinAnnouncesRow_k10 : (fun (P : Program) (f : FuncId) (fn : Func) (s : ChangeSpec) (c : OpenClaim) => ((c.recurses == P.recurses f) : Bool)) Tryz.prog 3 Tryz.f3 Rows.bulletinAnnouncesSpec Rows.bulletinAnnouncesRow = true := by kernel_rfl
theorem bulletinAnnouncesRow_k11 : (fun (P : Program) (f : FuncId) (fn : Func) (s : ChangeSpec) (c : OpenClaim) => ((c.named == P.varsNamed f) : Bool)) Tryz.prog 3 Tryz.f3 Rows.bulletinAnnouncesSpec Rows.bulletinAnnouncesRow = true := by kernel_rfl
theorem bulletinAnnouncesRow_k12 : (fun (P : Program) (f : FuncId) (fn : Func) (s : ChangeSpec) (c : OpenClaim) => ((c.maps == (fn.params.toList ++ s.plain.varTypes P).any (P.mapsRec ·)) : Bool)) Tryz.prog 3 Tryz.f3 Rows.bulletinAnnouncesSpec Rows.bulletinAnnouncesRow = true := by kernel_rfl
theorem bulletinAnnouncesRow_k13 : (fun (P : Program) (f : FuncId) (fn : Func) (s : ChangeSpec) (c : OpenClaim) => ((c.ifaces == (fn.params.toList ++ s.plain.varTypes P).any (P.ifacesRec ·)) : Bool)) Tryz.prog 3 Tryz.f3 Rows.bulletinAnnouncesSpec Rows.bulletinAnnouncesRow = true := by kernel_rfl
theorem bulletinAnnouncesRow_k14 : (fun (P : Program) (f : FuncId) (fn : Func) (s : ChangeSpec) (c : OpenClaim) => ((c.mapsOut == P.mapsAmong fn.resultTypes.toList) : Bool)) Tryz.prog 3 Tryz.f3 Rows.bulletinAnnouncesSpec Rows.bulletinAnnouncesRow = true := by kernel_rfl
theorem bulletinAnnouncesRow_k15 : (fun (P : Program) (f : FuncId) (fn : Func) (s : ChangeSpec) (c : OpenClaim) => ((c.loops == (fn.params.toList ++ s.plain.varTypes P).any (P.loopsFrom ·)) : Bool)) Tryz.prog 3 Tryz.f3 Rows.bulletinAnnouncesSpec Rows.bulletinAnnouncesRow = true := by kernel_rfl
theorem bulletinAnnouncesRow_k16 : (fun (P : Program) (f : FuncId) (fn : Func) (s : ChangeSpec) (c : OpenClaim) => ((c.wideKeys == (fn.params.toList ++ s.plain.varTypes P ++ fn.resultTypes.toList).any (P.wideKeysFrom ·)) : Bool)) Tryz.prog 3 Tryz.f3 Rows.bulletinAnnouncesSpec Rows.bulletinAnnouncesRow = true := by kernel_rfl
theorem bulletinAnnouncesRow_k17 : (fun (P : Program) (f : FuncId) (fn : Func) (s : ChangeSpec) (c : OpenClaim) => (s.vars.all (P.varReadable ·) : Bool)) Tryz.prog 3 Tryz.f3 Rows.bulletinAnnouncesSpec Rows.bulletinAnnouncesRow = true := by kernel_rfl
theorem bulletinAnnouncesRow_k18 : (fun (P : Program) (f : FuncId) (fn : Func) (s : ChangeSpec) (c : OpenClaim) => (fn.resultTypes.all (fun t => P.readableRec t && decide (t < P.types.size)) : Bool)) Tryz.prog 3 Tryz.f3 Rows.bulletinAnnouncesSpec Rows.bulletinAnnouncesRow = true := by kernel_rfl
theorem bulletinAnnouncesRow_k19 : (fun (P : Program) (f : FuncId) (fn : Func) (s : ChangeSpec) (c : OpenClaim) => ((c.ifacesOut == fn.resultTypes.toList.any (P.ifacesRec ·)) : Bool)) Tryz.prog 3 Tryz.f3 Rows.bulletinAnnouncesSpec Rows.bulletinAnnouncesRow = true := by kernel_rfl
theorem bulletinAnnouncesRow_k20 : (fun (P : Program) (f : FuncId) (fn : Func) (s : ChangeSpec) (c : OpenClaim) => ((c.loopsOut == fn.resultTypes.toList.any (P.loopsFrom ·)) : Bool)) Tryz.prog 3 Tryz.f3 Rows.bulletinAnnouncesSpec Rows.bulletinAnnouncesRow = true := by kernel_rfl
theorem bulletinAnnouncesRow_k21 : (fun (P : Program) (f : FuncId) (fn : Func) (s : ChangeSpec) (c : OpenClaim) => ((c.plainKeys == P.plainKeys) : Bool)) Tryz.prog 3 Tryz.f3 Rows.bulletinAnnouncesSpec Rows.bulletinAnnouncesRow = true := by kernel_rfl
theorem bulletinAnnouncesRow_k22 : (fun (P : Program) (f : FuncId) (fn : Func) (s : ChangeSpec) (c : OpenClaim) => (c.shortTexts.isNone : Bool)) Tryz.prog 3 Tryz.f3 Rows.bulletinAnnouncesSpec Rows.bulletinAnnouncesRow = true := by kernel_rfl
theorem bulletinAnnouncesRow_k23 : (fun (P : Program) (f : FuncId) (fn : Func) (s : ChangeSpec) (c : OpenClaim) => (P.stopsHeard : Bool)) Tryz.prog 3 Tryz.f3 Rows.bulletinAnnouncesSpec Rows.bulletinAnnouncesRow = true := by kernel_rfl
theorem bulletinAnnouncesRow_k24 : (fun (P : Program) (f : FuncId) (fn : Func) (s : ChangeSpec) (c : OpenClaim) => (P.mayEnter : Bool)) Tryz.prog 3 Tryz.f3 Rows.bulletinAnnouncesSpec Rows.bulletinAnnouncesRow = true := by kernel_rfl
theorem bulletinAnnouncesRow_k25 : (fun (P : Program) (f : FuncId) (fn : Func) (s : ChangeSpec) (c : OpenClaim) => ((c.lifted == P.liftsFinal) : Bool)) Tryz.prog 3 Tryz.f3 Rows.bulletinAnnouncesSpec Rows.bulletinAnnouncesRow = true := by kernel_rfl
theorem bulletinAnnouncesRow_k26 : (fun (P : Program) (f : FuncId) (fn : Func) (s : ChangeSpec) (c : OpenClaim) => ((P.make == some c.make) : Bool)) Tryz.prog 3 Tryz.f3 Rows.bulletinAnnouncesSpec Rows.bulletinAnnouncesRow = true := by kernel_rfl
theorem bulletinAnnouncesRow_k27 : (fun (P : Program) (f : FuncId) (fn : Func) (s : ChangeSpec) (c : OpenClaim) => ((c.kinds == (if c.domain.isEmpty then [] else fn.params.toList.map fun t => match P.underlying t with | some (.int k) => some k | _ => none)) : Bool)) Tryz.prog 3 Tryz.f3 Rows.bulletinAnnouncesSpec Rows.bulletinAnnouncesRow = true := by kernel_rfl
theorem bulletinAnnouncesRow_k28 : (fun (P : Program) (f : FuncId) (fn : Func) (s : ChangeSpec) (c : OpenClaim) => ((c.pinned == c.pinnedBy) : Bool)) Tryz.prog 3 Tryz.f3 Rows.bulletinAnnouncesSpec Rows.bulletinAnnouncesRow = true := by kernel_rfl
theorem bulletinAnnouncesRow_k29 : (fun (P : Program) (f : FuncId) (fn : Func) (s : ChangeSpec) (c : OpenClaim) => ((c.veiled == (fn.params.toList ++ s.plain.varTypes P ++ fn.resultTypes.toList).any (P.veiledRec ·)) : Bool)) Tryz.prog 3 Tryz.f3 Rows.bulletinAnnouncesSpec Rows.bulletinAnnouncesRow = true := by kernel_rfl
theorem bulletinAnnouncesRow_k30 : (fun (P : Program) (f : FuncId) (fn : Func) (s : ChangeSpec) (c : OpenClaim) => (c.veiledFits P fn.params.toList (fn.params.toList ++ s.plain.varTypes P ++ fn.resultTypes.toList) : Bool)) Tryz.prog 3 Tryz.f3 Rows.bulletinAnnouncesSpec Rows.bulletinAnnouncesRow = true := by kernel_rfl
theorem bulletinAnnouncesRow_closed : joinedFacts Tryz.prog 3 Tryz.f3 Rows.bulletinAnnouncesSpec Rows.bulletinAnnouncesRow = true := by
  unfold joinedFacts
  simp only [Bool.and_eq_true]
  exact ⟨⟨⟨⟨⟨⟨⟨⟨⟨⟨⟨⟨⟨⟨⟨⟨⟨⟨⟨⟨⟨⟨⟨⟨⟨⟨⟨⟨⟨⟨⟨bulletinAnnouncesRow_k0, Go.Air.laid⟩, bulletinAnnouncesRow_k1⟩, bulletinAnnouncesRow_k2⟩, bulletinAnnouncesRow_k3⟩, bulletinAnnouncesRow_k4⟩, bulletinAnnouncesRow_k5⟩, bulletinAnnouncesRow_k6⟩, bulletinAnnouncesRow_k7⟩, bulletinAnnouncesRow_k8⟩, bulletinAnnouncesRow_k9⟩, bulletinAnnouncesRow_k10⟩, bulletinAnnouncesRow_k11⟩, bulletinAnnouncesRow_k12⟩, bulletinAnnouncesRow_k13⟩, bulletinAnnouncesRow_k14⟩, bulletinAnnouncesRow_k15⟩, bulletinAnnouncesRow_k16⟩, bulletinAnnouncesRow_k17⟩, bulletinAnnouncesRow_k18⟩, bulletinAnnouncesRow_k19⟩, bulletinAnnouncesRow_k20⟩, bulletinAnnouncesRow_k21⟩, bulletinAnnouncesRow_k22⟩, bulletinAnnouncesRow_k23⟩, bulletinAnnouncesRow_k24⟩, bulletinAnnouncesRow_k25⟩, bulletinAnnouncesRow_k26⟩, bulletinAnnouncesRow_k27⟩, bulletinAnnouncesRow_k28⟩, bulletinAnnouncesRow_k29⟩, bulletinAnnouncesRow_k30⟩
end Go.Proofs.YtolfigdgknfdaaaGreatDoor
