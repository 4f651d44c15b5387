/-
  The row RowsCircles, from the law in Air.
-/
import Derived.Test.YtlldpmkdjpmlpaaCiG
set_option linter.unusedSectionVars false
set_option linter.unusedVariables false
set_option linter.unusedSimpArgs false
set_option maxRecDepth 100000
namespace Go.Proofs.Ytlldpmkdjpmlpaa
open Go.ChangeShapes Go.WideShapes Go.ChangeAt Go.RowKit Go.Air
theorem circles_lifted (os : Os) (started : os.Started) (H : Type) (enc : TypeId × Value → H) :
    ReturnsInHanded {} Try.checked os 8 .any (Rows.rowsCirclesSpec.pre6 enc Try.prog Try.f8 Rows.rowsCirclesRow.domain false) (Rows.rowsCirclesSpec.post enc Try.prog Try.f8 false true false false) := by
  refine row_true (bt := 4) Try.func8 rfl ?_ (by kernel_rfl) (by kernel_rfl) (by kernel_rfl) (by kernel_rfl) os started H enc
    (ChangeSpec.witness6 (enc := enc) (C := Try.checked) false ⟨#[], #[.agg #[.int .i64 0, .slice none 0 0]], []⟩ 8 (by kernel_rfl) (by kernel_rfl) (by kernel_rfl) (by kernel_rfl)) ?_
  · intro H ds hl
    rw [Try.params8] at hl
    match ds, hl with
    | [d1], _ => rfl
  · intro W args ds ps base hval hA _
    rw [Try.params8] at hA hval
    have hA' : DataW.TrodAll enc Try.prog W 0 (fun _ => true) true [24] args ds ps := hA
    obtain ⟨v1, vs1, d1, ds1, a1, b1, rfl, rfl, rfl, q1, hA'⟩ := trodAll_cons hA'
    obtain ⟨rfl, rfl, rfl⟩ := trodAll_nil hA'
    obtain ⟨N1, u1, rs1, hr1, sr1⟩ := open_relA (hval 0 24 v1 rfl rfl) q1
    exact ⟨[.agg [.i .i64 N1, u1]], concL_cons.2 ⟨v1, [], hr1, concL_nil _, rfl⟩, law_circles sr1⟩
theorem circles_holds : Rows.RowsCirclesSaid :=
  OpenClaim.holds_of_wide 8 Try.f8 rfl rfl rfl rfl rfl rfl rfl ⟨rfl, rfl, rfl, rfl, rfl⟩ rfl rfl rfl rfl rfl (by kernel_rfl) Try.func8 (by kernel_rfl)
    (of_decide_eq_true (by kernel_rfl)) (by unfold Func.isWrapper; first | (rw [if_pos (by decide +kernel)]; kernel_rfl) | (rw [if_neg (by decide +kernel)]; exact ⟨rfl, rfl⟩))
    (fun os started H enc _ => circles_lifted os started H enc)
#print axioms circles_holds
end Go.Proofs.Ytlldpmkdjpmlpaa
