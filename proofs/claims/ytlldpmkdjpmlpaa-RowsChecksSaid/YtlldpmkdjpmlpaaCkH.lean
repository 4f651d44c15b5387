/-
  RowsChecks: for every relation of at most 8 guests and plan, CheckPlan returns what the document's returns (D4).
  No condition: beyond the law's own bounds it says nothing and returns true.
-/
import Derived.Test.YtlldpmkdjpmlpaaCkG
set_option linter.unusedSectionVars false
set_option linter.unusedVariables false
set_option linter.unusedSimpArgs false
set_option maxRecDepth 100000
namespace Go.Proofs.Ytlldpmkdjpmlpaa
open Go.ChangeShapes Go.WideShapes Go.ChangeAt Go.RowKit Go.Air
theorem checks_lifted (os : Os) (started : os.Started) (H : Type) (enc : TypeId × Value → H) :
    ReturnsInHanded {} Try.checked os 18 .any (Rows.rowsChecksSpec.pre6 enc Try.prog Try.f18 Rows.rowsChecksRow.domain false) (Rows.rowsChecksSpec.post enc Try.prog Try.f18 false true false false) := by
  refine row_true (bt := 4) Try.func18 rfl ?_ (by kernel_rfl) (by kernel_rfl) (by kernel_rfl) (by kernel_rfl) os started H enc
    (ChangeSpec.witness6 (enc := enc) (C := Try.checked) false ⟨#[], #[.agg #[.int .i64 0, .slice none 0 0], .agg #[.slice none 0 0, .int .i64 0, .slice none 0 0]], []⟩ 8 (by kernel_rfl) (by kernel_rfl) (by kernel_rfl) (by kernel_rfl)) ?_
  · intro H ds hl
    rw [Try.params18] at hl
    match ds, hl with
    | [d1, d2], _ => rfl
  · intro W args ds ps base hval hA _
    rw [Try.params18] at hA hval
    have hA' : DataW.TrodAll enc Try.prog W 0 (fun _ => true) true [24, 30] args ds ps := hA
    obtain ⟨v1, vs1, d1, ds1, a1, b1, rfl, rfl, rfl, q1, hA'⟩ := trodAll_cons hA'
    obtain ⟨v2, vs2, d2, ds2, a2, b2, rfl, rfl, rfl, q2, hA'⟩ := trodAll_cons hA'
    obtain ⟨rfl, rfl, rfl⟩ := trodAll_nil hA'
    obtain ⟨N, u, rs, hr, sr⟩ := open_relA (hval 0 24 v1 rfl rfl) q1
    obtain ⟨p, P, hp, sp⟩ := open_planA (hval 1 30 v2 rfl rfl) q2
    exact ⟨[.agg [.i .i64 N, u], p], concL_cons.2 ⟨v1, _, hr, concL_cons.2 ⟨v2, [], hp, concL_nil _, rfl⟩, rfl⟩, law_checks sr sp⟩
theorem checks_holds : Rows.RowsChecksSaid :=
  OpenClaim.holds_of_wide 18 Try.f18 rfl rfl rfl rfl rfl rfl rfl ⟨rfl, rfl, rfl, rfl, rfl⟩ rfl rfl rfl rfl rfl (by kernel_rfl) Try.func18 (by kernel_rfl)
    (of_decide_eq_true (by kernel_rfl)) (by unfold Func.isWrapper; first | (rw [if_pos (by decide +kernel)]; kernel_rfl) | (rw [if_neg (by decide +kernel)]; exact ⟨rfl, rfl⟩))
    (fun os started H enc _ => checks_lifted os started H enc)
#print axioms checks_holds
end Go.Proofs.Ytlldpmkdjpmlpaa
