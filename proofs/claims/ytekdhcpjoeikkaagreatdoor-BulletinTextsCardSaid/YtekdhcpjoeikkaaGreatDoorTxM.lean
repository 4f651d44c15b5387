/-
  A part of the proof of: The row of BulletinTexts and its tied card, out of the lifted form.
-/
import Derived.Test.YtekdhcpjoeikkaaGreatDoorRows
import Derived.JoinedOf
import Derived.KernelRfl
import Derived.Test.YtekdhcpjoeikkaaGreatDoorTxI
set_option linter.unusedSectionVars false
set_option linter.unusedVariables false
set_option linter.unusedSimpArgs false
set_option maxRecDepth 100000
namespace Go.Proofs.YtekdhcpjoeikkaaGreatDoor
open Go
theorem bulletinTextsRow_k0 : (fun (P : Program) (f : FuncId) (fn : Func) (s : ChangeSpec) (c : OpenClaim) => (c.wf (OpenSpec.ofChange s) : Bool)) Tryz.prog 3 Tryz.f3 Rows.bulletinTextsSpec Rows.bulletinTextsRow = true := by kernel_rfl
theorem bulletinTextsRow_k1 : (fun (P : Program) (f : FuncId) (fn : Func) (s : ChangeSpec) (c : OpenClaim) => (mapsRowed P : Bool)) Tryz.prog 3 Tryz.f3 Rows.bulletinTextsSpec Rows.bulletinTextsRow = true := by kernel_rfl
theorem bulletinTextsRow_k2 : (fun (P : Program) (f : FuncId) (fn : Func) (s : ChangeSpec) (c : OpenClaim) => (fn.params.all (P.readableRec ·) : Bool)) Tryz.prog 3 Tryz.f3 Rows.bulletinTextsSpec Rows.bulletinTextsRow = true := by kernel_rfl
theorem bulletinTextsRow_k3 : (fun (P : Program) (f : FuncId) (fn : Func) (s : ChangeSpec) (c : OpenClaim) => (namedTie P c.named s.vars : Bool)) Tryz.prog 3 Tryz.f3 Rows.bulletinTextsSpec Rows.bulletinTextsRow = true := by kernel_rfl
theorem bulletinTextsRow_k4 : (fun (P : Program) (f : FuncId) (fn : Func) (s : ChangeSpec) (c : OpenClaim) => ((c.stops == []) : Bool)) Tryz.prog 3 Tryz.f3 Rows.bulletinTextsSpec Rows.bulletinTextsRow = true := by kernel_rfl
theorem bulletinTextsRow_k5 : (fun (P : Program) (f : FuncId) (fn : Func) (s : ChangeSpec) (c : OpenClaim) => ((P.stops == []) : Bool)) Tryz.prog 3 Tryz.f3 Rows.bulletinTextsSpec Rows.bulletinTextsRow = true := by kernel_rfl
theorem bulletinTextsRow_k6 : (fun (P : Program) (f : FuncId) (fn : Func) (s : ChangeSpec) (c : OpenClaim) => ((c.knobs == []) : Bool)) Tryz.prog 3 Tryz.f3 Rows.bulletinTextsSpec Rows.bulletinTextsRow = true := by kernel_rfl
theorem bulletinTextsRow_k7 : (fun (P : Program) (f : FuncId) (fn : Func) (s : ChangeSpec) (c : OpenClaim) => ((P.stopKnobs == []) : Bool)) Tryz.prog 3 Tryz.f3 Rows.bulletinTextsSpec Rows.bulletinTextsRow = true := by kernel_rfl
theorem bulletinTextsRow_k8 : (fun (P : Program) (f : FuncId) (fn : Func) (s : ChangeSpec) (c : OpenClaim) => ((c.inPlace == P.inPlace f) : Bool)) Tryz.prog 3 Tryz.f3 Rows.bulletinTextsSpec Rows.bulletinTextsRow = true := by kernel_rfl
theorem bulletinTextsRow_k9 : (fun (P : Program) (f : FuncId) (fn : Func) (s : ChangeSpec) (c : OpenClaim) => ((c.unfollowed == P.unfollowed f) : Bool)) Tryz.prog 3 Tryz.f3 Rows.bulletinTextsSpec Rows.bulletinTextsRow = true := by kernel_rfl
theorem bulletinTextsRow_k10 : (fun (P : Program) (f : FuncId) (fn : Func) (s : ChangeSpec) (c : OpenClaim) => ((c.recurses == P.recurses f) : Bool)) Tryz.prog 3 Tryz.f3 Rows.bulletinTextsSpec Rows.bulletinTextsRow = true := by kernel_rfl
theorem bulletinTextsRow_k11 : (fun (P : Program) (f : FuncId) (fn : Func) (s : ChangeSpec) (c : OpenClaim) => ((c.named == P.varsNamed f) : Bool)) Tryz.prog 3 Tryz.f3 Rows.bulletinTextsSpec Rows.bulletinTextsRow = true := by kernel_rfl
theorem bulletinTextsRow_k12 : (fun (P : Program) (f : FuncId) (fn : Func) (s : ChangeSpec) (c : OpenClaim) => ((c.maps == (fn.params.toList ++ s.plain.varTypes P).any (P.mapsRec ·)) : Bool)) Tryz.prog 3 Tryz.f3 Rows.bulletinTextsSpec Rows.bulletinTextsRow = true := by kernel_rfl
theorem bulletinTextsRow_k13 : (fun (P : Program) (f : FuncId) (fn : Func) (s : ChangeSpec) (c : OpenClaim) => ((c.ifaces == (fn.params.toList ++ s.plain.varTypes P).any (P.ifacesRec ·)) : Bool)) Tryz.prog 3 Tryz.f3 Rows.bulletinTextsSpec Rows.bulletinTextsRow = true := by kernel_rfl
theorem bulletinTextsRow_k14 : (fun (P : Program) (f : FuncId) (fn : Func) (s : ChangeSpec) (c : OpenClaim) => ((c.mapsOut == P.mapsAmong fn.resultTypes.toList) : Bool)) Tryz.prog 3 Tryz.f3 Rows.bulletinTextsSpec Rows.bulletinTextsRow = true := by kernel_rfl
theorem bulletinTextsRow_k15 : (fun (P : Program) (f : FuncId) (fn : Func) (s : ChangeSpec) (c : OpenClaim) => ((c.loops == (fn.params.toList ++ s.plain.varTypes P).any (P.loopsFrom ·)) : Bool)) Tryz.prog 3 Tryz.f3 Rows.bulletinTextsSpec Rows.bulletinTextsRow = true := by kernel_rfl
theorem bulletinTextsRow_k16 : (fun (P : Program) (f : FuncId) (fn : Func) (s : ChangeSpec) (c : OpenClaim) => ((c.wideKeys == (fn.params.toList ++ s.plain.varTypes P ++ fn.resultTypes.toList).any (P.wideKeysFrom ·)) : Bool)) Tryz.prog 3 Tryz.f3 Rows.bulletinTextsSpec Rows.bulletinTextsRow = true := by kernel_rfl
theorem bulletinTextsRow_k17 : (fun (P : Program) (f : FuncId) (fn : Func) (s : ChangeSpec) (c : OpenClaim) => (s.vars.all (P.varReadable ·) : Bool)) Tryz.prog 3 Tryz.f3 Rows.bulletinTextsSpec Rows.bulletinTextsRow = true := by kernel_rfl
theorem bulletinTextsRow_k18 : (fun (P : Program) (f : FuncId) (fn : Func) (s : ChangeSpec) (c : OpenClaim) => (fn.resultTypes.all (fun t => P.readableRec t && decide (t < P.types.size)) : Bool)) Tryz.prog 3 Tryz.f3 Rows.bulletinTextsSpec Rows.bulletinTextsRow = true := by kernel_rfl
theorem bulletinTextsRow_k19 : (fun (P : Program) (f : FuncId) (fn : Func) (s : ChangeSpec) (c : OpenClaim) => ((c.ifacesOut == fn.resultTypes.toList.any (P.ifacesRec ·)) : Bool)) Tryz.prog 3 Tryz.f3 Rows.bulletinTextsSpec Rows.bulletinTextsRow = true := by kernel_rfl
theorem bulletinTextsRow_k20 : (fun (P : Program) (f : FuncId) (fn : Func) (s : ChangeSpec) (c : OpenClaim) => ((c.loopsOut == fn.resultTypes.toList.any (P.loopsFrom ·)) : Bool)) Tryz.prog 3 Tryz.f3 Rows.bulletinTextsSpec Rows.bulletinTextsRow = true := by kernel_rfl
theorem bulletinTextsRow_k21 : (fun (P : Program) (f : FuncId) (fn : Func) (s : ChangeSpec) (c : OpenClaim) => ((c.plainKeys == P.plainKeys) : Bool)) Tryz.prog 3 Tryz.f3 Rows.bulletinTextsSpec Rows.bulletinTextsRow = true := by kernel_rfl
theorem bulletinTextsRow_k22 : (fun (P : Program) (f : FuncId) (fn : Func) (s : ChangeSpec) (c : OpenClaim) => (c.shortTexts.isNone : Bool)) Tryz.prog 3 Tryz.f3 Rows.bulletinTextsSpec Rows.bulletinTextsRow = true := by kernel_rfl
theorem bulletinTextsRow_k23 : (fun (P : Program) (f : FuncId) (fn : Func) (s : ChangeSpec) (c : OpenClaim) => (P.stopsHeard : Bool)) Tryz.prog 3 Tryz.f3 Rows.bulletinTextsSpec Rows.bulletinTextsRow = true := by kernel_rfl
theorem bulletinTextsRow_k24 : (fun (P : Program) (f : FuncId) (fn : Func) (s : ChangeSpec) (c : OpenClaim) => (P.mayEnter : Bool)) Tryz.prog 3 Tryz.f3 Rows.bulletinTextsSpec Rows.bulletinTextsRow = true := by kernel_rfl
theorem bulletinTextsRow_k25 : (fun (P : Program) (f : FuncId) (fn : Func) (s : ChangeSpec) (c : OpenClaim) => ((c.lifted == P.liftsFinal) : Bool)) Tryz.prog 3 Tryz.f3 Rows.bulletinTextsSpec Rows.bulletinTextsRow = true := by kernel_rfl
theorem bulletinTextsRow_k26 : (fun (P : Program) (f : FuncId) (fn : Func) (s : ChangeSpec) (c : OpenClaim) => ((P.make == some c.make) : Bool)) Tryz.prog 3 Tryz.f3 Rows.bulletinTextsSpec Rows.bulletinTextsRow = true := by kernel_rfl
theorem bulletinTextsRow_k27 : (fun (P : Program) (f : FuncId) (fn : Func) (s : ChangeSpec) (c : OpenClaim) => ((c.kinds == (if c.domain.isEmpty then [] else fn.params.toList.map fun t => match P.underlying t with | some (.int k) => some k | _ => none)) : Bool)) Tryz.prog 3 Tryz.f3 Rows.bulletinTextsSpec Rows.bulletinTextsRow = true := by kernel_rfl
theorem bulletinTextsRow_k28 : (fun (P : Program) (f : FuncId) (fn : Func) (s : ChangeSpec) (c : OpenClaim) => ((c.pinned == c.pinnedBy) : Bool)) Tryz.prog 3 Tryz.f3 Rows.bulletinTextsSpec Rows.bulletinTextsRow = true := by kernel_rfl
theorem bulletinTextsRow_k29 : (fun (P : Program) (f : FuncId) (fn : Func) (s : ChangeSpec) (c : OpenClaim) => ((c.veiled == (fn.params.toList ++ s.plain.varTypes P ++ fn.resultTypes.toList).any (P.veiledRec ·)) : Bool)) Tryz.prog 3 Tryz.f3 Rows.bulletinTextsSpec Rows.bulletinTextsRow = true := by kernel_rfl
theorem bulletinTextsRow_k30 : (fun (P : Program) (f : FuncId) (fn : Func) (s : ChangeSpec) (c : OpenClaim) => (c.veiledFits P fn.params.toList (fn.params.toList ++ s.plain.varTypes P ++ fn.resultTypes.toList) : Bool)) Tryz.prog 3 Tryz.f3 Rows.bulletinTextsSpec Rows.bulletinTextsRow = true := by kernel_rfl
theorem bulletinTextsRow_closed : joinedFacts Tryz.prog 3 Tryz.f3 Rows.bulletinTextsSpec Rows.bulletinTextsRow = true := by
  unfold joinedFacts
  simp only [Bool.and_eq_true]
  exact ⟨⟨⟨⟨⟨⟨⟨⟨⟨⟨⟨⟨⟨⟨⟨⟨⟨⟨⟨⟨⟨⟨⟨⟨⟨⟨⟨⟨⟨⟨⟨bulletinTextsRow_k0, Go.Air.laid⟩, bulletinTextsRow_k1⟩, bulletinTextsRow_k2⟩, bulletinTextsRow_k3⟩, bulletinTextsRow_k4⟩, bulletinTextsRow_k5⟩, bulletinTextsRow_k6⟩, bulletinTextsRow_k7⟩, bulletinTextsRow_k8⟩, bulletinTextsRow_k9⟩, bulletinTextsRow_k10⟩, bulletinTextsRow_k11⟩, bulletinTextsRow_k12⟩, bulletinTextsRow_k13⟩, bulletinTextsRow_k14⟩, bulletinTextsRow_k15⟩, bulletinTextsRow_k16⟩, bulletinTextsRow_k17⟩, bulletinTextsRow_k18⟩, bulletinTextsRow_k19⟩, bulletinTextsRow_k20⟩, bulletinTextsRow_k21⟩, bulletinTextsRow_k22⟩, bulletinTextsRow_k23⟩, bulletinTextsRow_k24⟩, bulletinTextsRow_k25⟩, bulletinTextsRow_k26⟩, bulletinTextsRow_k27⟩, bulletinTextsRow_k28⟩, bulletinTextsRow_k29⟩, bulletinTextsRow_k30⟩
end Go.Proofs.YtekdhcpjoeikkaaGreatDoor
