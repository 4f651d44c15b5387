/-
  The row RowsFewer, from the law in Air.
-/
import Derived.Test.YtlldpmkdjpmlpaaFeG
set_option linter.unusedSectionVars false
set_option linter.unusedVariables false
set_option linter.unusedSimpArgs false
set_option maxRecDepth 100000
namespace Go.Proofs.Ytlldpmkdjpmlpaa
open Go.ChangeShapes Go.WideShapes Go.ChangeAt Go.RowKit Go.Air
theorem fewer_lifted (os : Os) (started : os.Started) (H : Type) (enc : TypeId × Value → H) :
    ReturnsInHanded {} Try.checked os 5 .any (Rows.rowsFewerSpec.pre6 enc Try.prog Try.f5 Rows.rowsFewerRow.domain false) (Rows.rowsFewerSpec.post enc Try.prog Try.f5 false true false false) := by
  refine row_true (bt := 4) Try.func5 rfl ?_ (by kernel_rfl) (by kernel_rfl) (by kernel_rfl) (by kernel_rfl) os started H enc
    (ChangeSpec.witness6 (enc := enc) (C := Try.checked) false ⟨#[], #[.agg #[.int .i64 0, .slice none 0 0], .int .i64 0, .int .i64 0], []⟩ 8 (by kernel_rfl) (by kernel_rfl) (by kernel_rfl) (by kernel_rfl)) ?_
  · intro H ds hl
    rw [Try.params5] at hl
    match ds, hl with
    | [d1, d2, d3], _ => rfl
  · intro W args ds ps base hval hA _
    rw [Try.params5] at hA hval
    have hA' : DataW.TrodAll enc Try.prog W 0 (fun _ => true) true [24, 3, 3] args ds ps := hA
    obtain ⟨v1, vs1, d1, ds1, a1, b1, rfl, rfl, rfl, q1, hA'⟩ := trodAll_cons hA'
    obtain ⟨v2, vs2, d2, ds2, a2, b2, rfl, rfl, rfl, q2, hA'⟩ := trodAll_cons hA'
    obtain ⟨v3, vs3, d3, ds3, a3, b3, rfl, rfl, rfl, q3, hA'⟩ := trodAll_cons hA'
    obtain ⟨rfl, rfl, rfl⟩ := trodAll_nil hA'
    obtain ⟨N1, u1, rs1, hr1, sr1⟩ := open_relAA (hval 0 24 v1 rfl rfl) q1
    obtain ⟨n2, rfl, _, _, _⟩ := open_int Try.underlying3 (hval 1 3 v2 rfl rfl) q2
    obtain ⟨n3, rfl, _, _, _⟩ := open_int Try.underlying3 (hval 2 3 v3 rfl rfl) q3
    exact ⟨[.agg [.i .i64 N1, u1], .i .i64 n2, .i .i64 n3], concL_cons.2 ⟨v1, _, hr1, concL_cons.2 ⟨.int .i64 n2, _, by simp [conc], concL_cons.2 ⟨.int .i64 n3, [], by simp [conc], concL_nil _, rfl⟩, rfl⟩, rfl⟩, law_fewer sr1⟩
theorem fewer_holds : Rows.RowsFewerSaid :=
  OpenClaim.holds_of_wide 5 Try.f5 rfl rfl rfl rfl rfl rfl rfl ⟨rfl, rfl, rfl, rfl, rfl⟩ rfl rfl rfl rfl rfl (by kernel_rfl) Try.func5 (by kernel_rfl)
    (of_decide_eq_true (by kernel_rfl)) (by unfold Func.isWrapper; first | (rw [if_pos (by decide +kernel)]; kernel_rfl) | (rw [if_neg (by decide +kernel)]; exact ⟨rfl, rfl⟩))
    (fun os started H enc _ => fewer_lifted os started H enc)
#print axioms fewer_holds
end Go.Proofs.Ytlldpmkdjpmlpaa
