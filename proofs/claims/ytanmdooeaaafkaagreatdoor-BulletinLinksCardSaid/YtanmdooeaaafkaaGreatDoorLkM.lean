/-
  A part of the proof of: The row of BulletinLinks and its tied card, out of the lifted form.
-/
import Derived.Test.YtanmdooeaaafkaaGreatDoorRows
import Derived.JoinedOf
import Derived.KernelRfl
import Derived.Test.YtanmdooeaaafkaaGreatDoorLkI
set_option linter.unusedSectionVars false
set_option linter.unusedVariables false
set_option linter.unusedSimpArgs false
set_option maxRecDepth 100000
namespace Go.Proofs.YtanmdooeaaafkaaGreatDoor
open Go
theorem bulletinLinksRow_k0 : (fun (P : Program) (f : FuncId) (fn : Func) (s : ChangeSpec) (c : OpenClaim) => (c.wf (OpenSpec.ofChange s) : Bool)) Tryz.prog 6 Tryz.f6 Rows.bulletinLinksSpec Rows.bulletinLinksRow = true := by kernel_rfl
theorem bulletinLinksRow_k1 : (fun (P : Program) (f : FuncId) (fn : Func) (s : ChangeSpec) (c : OpenClaim) => (mapsRowed P : Bool)) Tryz.prog 6 Tryz.f6 Rows.bulletinLinksSpec Rows.bulletinLinksRow = true := by kernel_rfl
theorem bulletinLinksRow_k2 : (fun (P : Program) (f : FuncId) (fn : Func) (s : ChangeSpec) (c : OpenClaim) => (fn.params.all (P.readableRec ·) : Bool)) Tryz.prog 6 Tryz.f6 Rows.bulletinLinksSpec Rows.bulletinLinksRow = true := by kernel_rfl
theorem bulletinLinksRow_k3 : (fun (P : Program) (f : FuncId) (fn : Func) (s : ChangeSpec) (c : OpenClaim) => (namedTie P c.named s.vars : Bool)) Tryz.prog 6 Tryz.f6 Rows.bulletinLinksSpec Rows.bulletinLinksRow = true := by kernel_rfl
theorem bulletinLinksRow_k4 : (fun (P : Program) (f : FuncId) (fn : Func) (s : ChangeSpec) (c : OpenClaim) => ((c.stops == []) : Bool)) Tryz.prog 6 Tryz.f6 Rows.bulletinLinksSpec Rows.bulletinLinksRow = true := by kernel_rfl
theorem bulletinLinksRow_k5 : (fun (P : Program) (f : FuncId) (fn : Func) (s : ChangeSpec) (c : OpenClaim) => ((P.stops == []) : Bool)) Tryz.prog 6 Tryz.f6 Rows.bulletinLinksSpec Rows.bulletinLinksRow = true := by kernel_rfl
theorem bulletinLinksRow_k6 : (fun (P : Program) (f : FuncId) (fn : Func) (s : ChangeSpec) (c : OpenClaim) => ((c.knobs == []) : Bool)) Tryz.prog 6 Tryz.f6 Rows.bulletinLinksSpec Rows.bulletinLinksRow = true := by kernel_rfl
theorem bulletinLinksRow_k7 : (fun (P : Program) (f : FuncId) (fn : Func) (s : ChangeSpec) (c : OpenClaim) => ((P.stopKnobs == []) : Bool)) Tryz.prog 6 Tryz.f6 Rows.bulletinLinksSpec Rows.bulletinLinksRow = true := by kernel_rfl
theorem bulletinLinksRow_k8 : (fun (P : Program) (f : FuncId) (fn : Func) (s : ChangeSpec) (c : OpenClaim) => ((c.inPlace == P.inPlace f) : Bool)) Tryz.prog 6 Tryz.f6 Rows.bulletinLinksSpec Rows.bulletinLinksRow = true := by kernel_rfl
theorem bulletinLinksRow_k9 : (fun (P : Program) (f : FuncId) (fn : Func) (s : ChangeSpec) (c : OpenClaim) => ((c.unfollowed == P.unfollowed f) : Bool)) Tryz.prog 6 Tryz.f6 Rows.bulletinLinksSpec Rows.bulletinLinksRow = true := by kernel_rfl
theorem bulletinLinksRow_k10 : (fun (P : Program) (f : FuncId) (fn : Func) (s : ChangeSpec) (c : OpenClaim) => ((c.recurses == P.recurses f) : Bool)) Tryz.prog 6 Tryz.f6 Rows.bulletinLinksSpec Rows.bulletinLinksRow = true := by kernel_rfl
theorem bulletinLinksRow_k11 : (fun (P : Program) (f : FuncId) (fn : Func) (s : ChangeSpec) (c : OpenClaim) => ((c.named == P.varsNamed f) : Bool)) Tryz.prog 6 Tryz.f6 Rows.bulletinLinksSpec Rows.bulletinLinksRow = true := by kernel_rfl
theorem bulletinLinksRow_k12 : (fun (P : Program) (f : FuncId) (fn : Func) (s : ChangeSpec) (c : OpenClaim) => ((c.maps == (fn.params.toList ++ s.plain.varTypes P).any (P.mapsRec ·)) : Bool)) Tryz.prog 6 Tryz.f6 Rows.bulletinLinksSpec Rows.bulletinLinksRow = true := by kernel_rfl
theorem bulletinLinksRow_k13 : (fun (P : Program) (f : FuncId) (fn : Func) (s : ChangeSpec) (c : OpenClaim) => ((c.ifaces == (fn.params.toList ++ s.plain.varTypes P).any (P.ifacesRec ·)) : Bool)) Tryz.prog 6 Tryz.f6 Rows.bulletinLinksSpec Rows.bulletinLinksRow = true := by kernel_rfl
theorem bulletinLinksRow_k14 : (fun (P : Program) (f : FuncId) (fn : Func) (s : ChangeSpec) (c : OpenClaim) => ((c.mapsOut == P.mapsAmong fn.resultTypes.toList) : Bool)) Tryz.prog 6 Tryz.f6 Rows.bulletinLinksSpec Rows.bulletinLinksRow = true := by kernel_rfl
theorem bulletinLinksRow_k15 : (fun (P : Program) (f : FuncId) (fn : Func) (s : ChangeSpec) (c : OpenClaim) => ((c.loops == (fn.params.toList ++ s.plain.varTypes P).any (P.loopsFrom ·)) : Bool)) Tryz.prog 6 Tryz.f6 Rows.bulletinLinksSpec Rows.bulletinLinksRow = true := by kernel_rfl
theorem bulletinLinksRow_k16 : (fun (P : Program) (f : FuncId) (fn : Func) (s : ChangeSpec) (c : OpenClaim) => ((c.wideKeys == (fn.params.toList ++ s.plain.varTypes P ++ fn.resultTypes.toList).any (P.wideKeysFrom ·)) : Bool)) Tryz.prog 6 Tryz.f6 Rows.bulletinLinksSpec Rows.bulletinLinksRow = true := by kernel_rfl
theorem bulletinLinksRow_k17 : (fun (P : Program) (f : FuncId) (fn : Func) (s : ChangeSpec) (c : OpenClaim) => (s.vars.all (P.varReadable ·) : Bool)) Tryz.prog 6 Tryz.f6 Rows.bulletinLinksSpec Rows.bulletinLinksRow = true := by kernel_rfl
theorem bulletinLinksRow_k18 : (fun (P : Program) (f : FuncId) (fn : Func) (s : ChangeSpec) (c : OpenClaim) => (fn.resultTypes.all (fun t => P.readableRec t && decide (t < P.types.size)) : Bool)) Tryz.prog 6 Tryz.f6 Rows.bulletinLinksSpec Rows.bulletinLinksRow = true := by kernel_rfl
theorem bulletinLinksRow_k19 : (fun (P : Program) (f : FuncId) (fn : Func) (s : ChangeSpec) (c : OpenClaim) => ((c.ifacesOut == fn.resultTypes.toList.any (P.ifacesRec ·)) : Bool)) Tryz.prog 6 Tryz.f6 Rows.bulletinLinksSpec Rows.bulletinLinksRow = true := by kernel_rfl
theorem bulletinLinksRow_k20 : (fun (P : Program) (f : FuncId) (fn : Func) (s : ChangeSpec) (c : OpenClaim) => ((c.loopsOut == fn.resultTypes.toList.any (P.loopsFrom ·)) : Bool)) Tryz.prog 6 Tryz.f6 Rows.bulletinLinksSpec Rows.bulletinLinksRow = true := by kernel_rfl
theorem bulletinLinksRow_k21 : (fun (P : Program) (f : FuncId) (fn : Func) (s : ChangeSpec) (c : OpenClaim) => ((c.plainKeys == P.plainKeys) : Bool)) Tryz.prog 6 Tryz.f6 Rows.bulletinLinksSpec Rows.bulletinLinksRow = true := by kernel_rfl
theorem bulletinLinksRow_k22 : (fun (P : Program) (f : FuncId) (fn : Func) (s : ChangeSpec) (c : OpenClaim) => (c.shortTexts.isNone : Bool)) Tryz.prog 6 Tryz.f6 Rows.bulletinLinksSpec Rows.bulletinLinksRow = true := by kernel_rfl
theorem bulletinLinksRow_k23 : (fun (P : Program) (f : FuncId) (fn : Func) (s : ChangeSpec) (c : OpenClaim) => (P.stopsHeard : Bool)) Tryz.prog 6 Tryz.f6 Rows.bulletinLinksSpec Rows.bulletinLinksRow = true := by kernel_rfl
theorem bulletinLinksRow_k24 : (fun (P : Program) (f : FuncId) (fn : Func) (s : ChangeSpec) (c : OpenClaim) => (P.mayEnter : Bool)) Tryz.prog 6 Tryz.f6 Rows.bulletinLinksSpec Rows.bulletinLinksRow = true := by kernel_rfl
theorem bulletinLinksRow_k25 : (fun (P : Program) (f : FuncId) (fn : Func) (s : ChangeSpec) (c : OpenClaim) => ((c.lifted == P.liftsFinal) : Bool)) Tryz.prog 6 Tryz.f6 Rows.bulletinLinksSpec Rows.bulletinLinksRow = true := by kernel_rfl
theorem bulletinLinksRow_k26 : (fun (P : Program) (f : FuncId) (fn : Func) (s : ChangeSpec) (c : OpenClaim) => ((P.make == some c.make) : Bool)) Tryz.prog 6 Tryz.f6 Rows.bulletinLinksSpec Rows.bulletinLinksRow = true := by kernel_rfl
theorem bulletinLinksRow_k27 : (fun (P : Program) (f : FuncId) (fn : Func) (s : ChangeSpec) (c : OpenClaim) => ((c.kinds == (if c.domain.isEmpty then [] else fn.params.toList.map fun t => match P.underlying t with | some (.int k) => some k | _ => none)) : Bool)) Tryz.prog 6 Tryz.f6 Rows.bulletinLinksSpec Rows.bulletinLinksRow = true := by kernel_rfl
theorem bulletinLinksRow_k28 : (fun (P : Program) (f : FuncId) (fn : Func) (s : ChangeSpec) (c : OpenClaim) => ((c.pinned == c.pinnedBy) : Bool)) Tryz.prog 6 Tryz.f6 Rows.bulletinLinksSpec Rows.bulletinLinksRow = true := by kernel_rfl
theorem bulletinLinksRow_k29 : (fun (P : Program) (f : FuncId) (fn : Func) (s : ChangeSpec) (c : OpenClaim) => ((c.veiled == (fn.params.toList ++ s.plain.varTypes P ++ fn.resultTypes.toList).any (P.veiledRec ·)) : Bool)) Tryz.prog 6 Tryz.f6 Rows.bulletinLinksSpec Rows.bulletinLinksRow = true := by kernel_rfl
theorem bulletinLinksRow_k30 : (fun (P : Program) (f : FuncId) (fn : Func) (s : ChangeSpec) (c : OpenClaim) => (c.veiledFits P fn.params.toList (fn.params.toList ++ s.plain.varTypes P ++ fn.resultTypes.toList) : Bool)) Tryz.prog 6 Tryz.f6 Rows.bulletinLinksSpec Rows.bulletinLinksRow = true := by kernel_rfl
theorem bulletinLinksRow_closed : joinedFacts Tryz.prog 6 Tryz.f6 Rows.bulletinLinksSpec Rows.bulletinLinksRow = true := by
  unfold joinedFacts
  simp only [Bool.and_eq_true]
  exact ⟨⟨⟨⟨⟨⟨⟨⟨⟨⟨⟨⟨⟨⟨⟨⟨⟨⟨⟨⟨⟨⟨⟨⟨⟨⟨⟨⟨⟨⟨⟨bulletinLinksRow_k0, Go.Air.laid⟩, bulletinLinksRow_k1⟩, bulletinLinksRow_k2⟩, bulletinLinksRow_k3⟩, bulletinLinksRow_k4⟩, bulletinLinksRow_k5⟩, bulletinLinksRow_k6⟩, bulletinLinksRow_k7⟩, bulletinLinksRow_k8⟩, bulletinLinksRow_k9⟩, bulletinLinksRow_k10⟩, bulletinLinksRow_k11⟩, bulletinLinksRow_k12⟩, bulletinLinksRow_k13⟩, bulletinLinksRow_k14⟩, bulletinLinksRow_k15⟩, bulletinLinksRow_k16⟩, bulletinLinksRow_k17⟩, bulletinLinksRow_k18⟩, bulletinLinksRow_k19⟩, bulletinLinksRow_k20⟩, bulletinLinksRow_k21⟩, bulletinLinksRow_k22⟩, bulletinLinksRow_k23⟩, bulletinLinksRow_k24⟩, bulletinLinksRow_k25⟩, bulletinLinksRow_k26⟩, bulletinLinksRow_k27⟩, bulletinLinksRow_k28⟩, bulletinLinksRow_k29⟩, bulletinLinksRow_k30⟩
end Go.Proofs.YtanmdooeaaafkaaGreatDoor
