/-
  A part of the proof of: The row of BulletinNexts and its tied card, out of the lifted form.
-/
import Derived.Test.YtanmdooeaaafkaaGreatDoorRows
import Derived.JoinedOf
import Derived.KernelRfl
import Derived.Test.YtanmdooeaaafkaaGreatDoorNxI
set_option linter.unusedSectionVars false
set_option linter.unusedVariables false
set_option linter.unusedSimpArgs false
set_option maxRecDepth 100000
namespace Go.Proofs.YtanmdooeaaafkaaGreatDoor
open Go
theorem bulletinNextsRow_k0 : (fun (P : Program) (f : FuncId) (fn : Func) (s : ChangeSpec) (c : OpenClaim) => (c.wf (OpenSpec.ofChange s) : Bool)) Tryz.prog 4 Tryz.f4 Rows.bulletinNextsSpec Rows.bulletinNextsRow = true := by kernel_rfl
theorem bulletinNextsRow_k1 : (fun (P : Program) (f : FuncId) (fn : Func) (s : ChangeSpec) (c : OpenClaim) => (mapsRowed P : Bool)) Tryz.prog 4 Tryz.f4 Rows.bulletinNextsSpec Rows.bulletinNextsRow = true := by kernel_rfl
theorem bulletinNextsRow_k2 : (fun (P : Program) (f : FuncId) (fn : Func) (s : ChangeSpec) (c : OpenClaim) => (fn.params.all (P.readableRec ·) : Bool)) Tryz.prog 4 Tryz.f4 Rows.bulletinNextsSpec Rows.bulletinNextsRow = true := by kernel_rfl
theorem bulletinNextsRow_k3 : (fun (P : Program) (f : FuncId) (fn : Func) (s : ChangeSpec) (c : OpenClaim) => (namedTie P c.named s.vars : Bool)) Tryz.prog 4 Tryz.f4 Rows.bulletinNextsSpec Rows.bulletinNextsRow = true := by kernel_rfl
theorem bulletinNextsRow_k4 : (fun (P : Program) (f : FuncId) (fn : Func) (s : ChangeSpec) (c : OpenClaim) => ((c.stops == []) : Bool)) Tryz.prog 4 Tryz.f4 Rows.bulletinNextsSpec Rows.bulletinNextsRow = true := by kernel_rfl
theorem bulletinNextsRow_k5 : (fun (P : Program) (f : FuncId) (fn : Func) (s : ChangeSpec) (c : OpenClaim) => ((P.stops == []) : Bool)) Tryz.prog 4 Tryz.f4 Rows.bulletinNextsSpec Rows.bulletinNextsRow = true := by kernel_rfl
theorem bulletinNextsRow_k6 : (fun (P : Program) (f : FuncId) (fn : Func) (s : ChangeSpec) (c : OpenClaim) => ((c.knobs == []) : Bool)) Tryz.prog 4 Tryz.f4 Rows.bulletinNextsSpec Rows.bulletinNextsRow = true := by kernel_rfl
theorem bulletinNextsRow_k7 : (fun (P : Program) (f : FuncId) (fn : Func) (s : ChangeSpec) (c : OpenClaim) => ((P.stopKnobs == []) : Bool)) Tryz.prog 4 Tryz.f4 Rows.bulletinNextsSpec Rows.bulletinNextsRow = true := by kernel_rfl
theorem bulletinNextsRow_k8 : (fun (P : Program) (f : FuncId) (fn : Func) (s : ChangeSpec) (c : OpenClaim) => ((c.inPlace == P.inPlace f) : Bool)) Tryz.prog 4 Tryz.f4 Rows.bulletinNextsSpec Rows.bulletinNextsRow = true := by kernel_rfl
theorem bulletinNextsRow_k9 : (fun (P : Program) (f : FuncId) (fn : Func) (s : ChangeSpec) (c : OpenClaim) => ((c.unfollowed == P.unfollowed f) : Bool)) Tryz.prog 4 Tryz.f4 Rows.bulletinNextsSpec Rows.bulletinNextsRow = true := by kernel_rfl
theorem bulletinNextsRow_k10 : (fun (P : Program) (f : FuncId) (fn : Func) (s : ChangeSpec) (c : OpenClaim) => ((c.recurses == P.recurses f) : Bool)) Tryz.prog 4 Tryz.f4 Rows.bulletinNextsSpec Rows.bulletinNextsRow = true := by kernel_rfl
theorem bulletinNextsRow_k11 : (fun (P : Program) (f : FuncId) (fn : Func) (s : ChangeSpec) (c : OpenClaim) => ((c.named == P.varsNamed f) : Bool)) Tryz.prog 4 Tryz.f4 Rows.bulletinNextsSpec Rows.bulletinNextsRow = true := by kernel_rfl
theorem bulletinNextsRow_k12 : (fun (P : Program) (f : FuncId) (fn : Func) (s : ChangeSpec) (c : OpenClaim) => ((c.maps == (fn.params.toList ++ s.plain.varTypes P).any (P.mapsRec ·)) : Bool)) Tryz.prog 4 Tryz.f4 Rows.bulletinNextsSpec Rows.bulletinNextsRow = true := by kernel_rfl
theorem bulletinNextsRow_k13 : (fun (P : Program) (f : FuncId) (fn : Func) (s : ChangeSpec) (c : OpenClaim) => ((c.ifaces == (fn.params.toList ++ s.plain.varTypes P).any (P.ifacesRec ·)) : Bool)) Tryz.prog 4 Tryz.f4 Rows.bulletinNextsSpec Rows.bulletinNextsRow = true := by kernel_rfl
theorem bulletinNextsRow_k14 : (fun (P : Program) (f : FuncId) (fn : Func) (s : ChangeSpec) (c : OpenClaim) => ((c.mapsOut == P.mapsAmong fn.resultTypes.toList) : Bool)) Tryz.prog 4 Tryz.f4 Rows.bulletinNextsSpec Rows.bulletinNextsRow = true := by kernel_rfl
theorem bulletinNextsRow_k15 : (fun (P : Program) (f : FuncId) (fn : Func) (s : ChangeSpec) (c : OpenClaim) => ((c.loops == (fn.params.toList ++ s.plain.varTypes P).any (P.loopsFrom ·)) : Bool)) Tryz.prog 4 Tryz.f4 Rows.bulletinNextsSpec Rows.bulletinNextsRow = true := by kernel_rfl
theorem bulletinNextsRow_k16 : (fun (P : Program) (f : FuncId) (fn : Func) (s : ChangeSpec) (c : OpenClaim) => ((c.wideKeys == (fn.params.toList ++ s.plain.varTypes P ++ fn.resultTypes.toList).any (P.wideKeysFrom ·)) : Bool)) Tryz.prog 4 Tryz.f4 Rows.bulletinNextsSpec Rows.bulletinNextsRow = true := by kernel_rfl
theorem bulletinNextsRow_k17 : (fun (P : Program) (f : FuncId) (fn : Func) (s : ChangeSpec) (c : OpenClaim) => (s.vars.all (P.varReadable ·) : Bool)) Tryz.prog 4 Tryz.f4 Rows.bulletinNextsSpec Rows.bulletinNextsRow = true := by kernel_rfl
theorem bulletinNextsRow_k18 : (fun (P : Program) (f : FuncId) (fn : Func) (s : ChangeSpec) (c : OpenClaim) => (fn.resultTypes.all (fun t => P.readableRec t && decide (t < P.types.size)) : Bool)) Tryz.prog 4 Tryz.f4 Rows.bulletinNextsSpec Rows.bulletinNextsRow = true := by kernel_rfl
theorem bulletinNextsRow_k19 : (fun (P : Program) (f : FuncId) (fn : Func) (s : ChangeSpec) (c : OpenClaim) => ((c.ifacesOut == fn.resultTypes.toList.any (P.ifacesRec ·)) : Bool)) Tryz.prog 4 Tryz.f4 Rows.bulletinNextsSpec Rows.bulletinNextsRow = true := by kernel_rfl
theorem bulletinNextsRow_k20 : (fun (P : Program) (f : FuncId) (fn : Func) (s : ChangeSpec) (c : OpenClaim) => ((c.loopsOut == fn.resultTypes.toList.any (P.loopsFrom ·)) : Bool)) Tryz.prog 4 Tryz.f4 Rows.bulletinNextsSpec Rows.bulletinNextsRow = true := by kernel_rfl
theorem bulletinNextsRow_k21 : (fun (P : Program) (f : FuncId) (fn : Func) (s : ChangeSpec) (c : OpenClaim) => ((c.plainKeys == P.plainKeys) : Bool)) Tryz.prog 4 Tryz.f4 Rows.bulletinNextsSpec Rows.bulletinNextsRow = true := by kernel_rfl
theorem bulletinNextsRow_k22 : (fun (P : Program) (f : FuncId) (fn : Func) (s : ChangeSpec) (c : OpenClaim) => (c.shortTexts.isNone : Bool)) Tryz.prog 4 Tryz.f4 Rows.bulletinNextsSpec Rows.bulletinNextsRow = true := by kernel_rfl
theorem bulletinNextsRow_k23 : (fun (P : Program) (f : FuncId) (fn : Func) (s : ChangeSpec) (c : OpenClaim) => (P.stopsHeard : Bool)) Tryz.prog 4 Tryz.f4 Rows.bulletinNextsSpec Rows.bulletinNextsRow = true := by kernel_rfl
theorem bulletinNextsRow_k24 : (fun (P : Program) (f : FuncId) (fn : Func) (s : ChangeSpec) (c : OpenClaim) => (P.mayEnter : Bool)) Tryz.prog 4 Tryz.f4 Rows.bulletinNextsSpec Rows.bulletinNextsRow = true := by kernel_rfl
theorem bulletinNextsRow_k25 : (fun (P : Program) (f : FuncId) (fn : Func) (s : ChangeSpec) (c : OpenClaim) => ((c.lifted == P.liftsFinal) : Bool)) Tryz.prog 4 Tryz.f4 Rows.bulletinNextsSpec Rows.bulletinNextsRow = true := by kernel_rfl
theorem bulletinNextsRow_k26 : (fun (P : Program) (f : FuncId) (fn : Func) (s : ChangeSpec) (c : OpenClaim) => ((P.make == some c.make) : Bool)) Tryz.prog 4 Tryz.f4 Rows.bulletinNextsSpec Rows.bulletinNextsRow = true := by kernel_rfl
theorem bulletinNextsRow_k27 : (fun (P : Program) (f : FuncId) (fn : Func) (s : ChangeSpec) (c : OpenClaim) => ((c.kinds == (if c.domain.isEmpty then [] else fn.params.toList.map fun t => match P.underlying t with | some (.int k) => some k | _ => none)) : Bool)) Tryz.prog 4 Tryz.f4 Rows.bulletinNextsSpec Rows.bulletinNextsRow = true := by kernel_rfl
theorem bulletinNextsRow_k28 : (fun (P : Program) (f : FuncId) (fn : Func) (s : ChangeSpec) (c : OpenClaim) => ((c.pinned == c.pinnedBy) : Bool)) Tryz.prog 4 Tryz.f4 Rows.bulletinNextsSpec Rows.bulletinNextsRow = true := by kernel_rfl
theorem bulletinNextsRow_k29 : (fun (P : Program) (f : FuncId) (fn : Func) (s : ChangeSpec) (c : OpenClaim) => ((c.veiled == (fn.params.toList ++ s.plain.varTypes P ++ fn.resultTypes.toList).any (P.veiledRec ·)) : Bool)) Tryz.prog 4 Tryz.f4 Rows.bulletinNextsSpec Rows.bulletinNextsRow = true := by kernel_rfl
theorem bulletinNextsRow_k30 : (fun (P : Program) (f : FuncId) (fn : Func) (s : ChangeSpec) (c : OpenClaim) => (c.veiledFits P fn.params.toList (fn.params.toList ++ s.plain.varTypes P ++ fn.resultTypes.toList) : Bool)) Tryz.prog 4 Tryz.f4 Rows.bulletinNextsSpec Rows.bulletinNextsRow = true := by kernel_rfl
theorem bulletinNextsRow_closed : joinedFacts Tryz.prog 4 Tryz.f4 Rows.bulletinNextsSpec Rows.bulletinNextsRow = true := by
  unfold joinedFacts
  simp only [Bool.and_eq_true]
  exact ⟨⟨⟨⟨⟨⟨⟨⟨⟨⟨⟨⟨⟨⟨⟨⟨⟨⟨⟨⟨⟨⟨⟨⟨⟨⟨⟨⟨⟨⟨⟨bulletinNextsRow_k0, Go.Air.laid⟩, bulletinNextsRow_k1⟩, bulletinNextsRow_k2⟩, bulletinNextsRow_k3⟩, bulletinNextsRow_k4⟩, bulletinNextsRow_k5⟩, bulletinNextsRow_k6⟩, bulletinNextsRow_k7⟩, bulletinNextsRow_k8⟩, bulletinNextsRow_k9⟩, bulletinNextsRow_k10⟩, bulletinNextsRow_k11⟩, bulletinNextsRow_k12⟩, bulletinNextsRow_k13⟩, bulletinNextsRow_k14⟩, bulletinNextsRow_k15⟩, bulletinNextsRow_k16⟩, bulletinNextsRow_k17⟩, bulletinNextsRow_k18⟩, bulletinNextsRow_k19⟩, bulletinNextsRow_k20⟩, bulletinNextsRow_k21⟩, bulletinNextsRow_k22⟩, bulletinNextsRow_k23⟩, bulletinNextsRow_k24⟩, bulletinNextsRow_k25⟩, bulletinNextsRow_k26⟩, bulletinNextsRow_k27⟩, bulletinNextsRow_k28⟩, bulletinNextsRow_k29⟩, bulletinNextsRow_k30⟩
end Go.Proofs.YtanmdooeaaafkaaGreatDoor
