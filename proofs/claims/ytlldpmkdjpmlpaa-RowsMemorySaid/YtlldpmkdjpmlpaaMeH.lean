/-
  The row RowsMemory, from the law in Air.
-/
import Derived.Test.YtlldpmkdjpmlpaaMeG
set_option linter.unusedSectionVars false
set_option linter.unusedVariables false
set_option linter.unusedSimpArgs false
set_option maxRecDepth 100000
namespace Go.Proofs.Ytlldpmkdjpmlpaa
open Go.ChangeShapes Go.WideShapes Go.ChangeAt Go.RowKit Go.Air
theorem memory_lifted (os : Os) (started : os.Started) (H : Type) (enc : TypeId × Value → H) :
    ReturnsInHanded {} Try.checked os 19 .any (Rows.rowsMemorySpec.pre6 enc Try.prog Try.f19 Rows.rowsMemoryRow.domain false) (Rows.rowsMemorySpec.post enc Try.prog Try.f19 false true false false) := by
  refine row_true (bt := 4) Try.func19 rfl ?_ (by kernel_rfl) (by kernel_rfl) (by kernel_rfl) (by kernel_rfl) os started H enc
    (ChangeSpec.witness6 (enc := enc) (C := Try.checked) false ⟨#[], #[.agg #[.int .i64 0, .slice none 0 0], .slice none 0 0], []⟩ 8 (by kernel_rfl) (by kernel_rfl) (by kernel_rfl) (by kernel_rfl)) ?_
  · intro H ds hl
    rw [Try.params19] at hl
    match ds, hl with
    | [d1, d2], _ => rfl
  · intro W args ds ps base hval hA _
    rw [Try.params19] at hA hval
    have hA' : DataW.TrodAll enc Try.prog W 0 (fun _ => true) true [24, 27] args ds ps := hA
    obtain ⟨v1, vs1, d1, ds1, a1, b1, rfl, rfl, rfl, q1, hA'⟩ := trodAll_cons hA'
    obtain ⟨v2, vs2, d2, ds2, a2, b2, rfl, rfl, rfl, q2, hA'⟩ := trodAll_cons hA'
    obtain ⟨rfl, rfl, rfl⟩ := trodAll_nil hA'
    obtain ⟨N1, u1, rs1, hr1, sr1⟩ := open_relA (hval 0 24 v1 rfl rfl) q1
    obtain ⟨o2, m2, xs2, _, ho2, so2, _, hm2, _⟩ := open_intsA Try.underlying27 Try.underlying3 (by kernel_rfl) (hval 1 27 v2 rfl rfl) q2
    subst hm2
    exact ⟨[.agg [.i .i64 N1, u1], o2], concL_cons.2 ⟨v1, _, hr1, concL_cons.2 ⟨v2, [], ho2, concL_nil _, rfl⟩, rfl⟩, law_memory sr1 so2⟩
theorem memory_holds : Rows.RowsMemorySaid :=
  OpenClaim.holds_of_wide 19 Try.f19 rfl rfl rfl rfl rfl rfl rfl ⟨rfl, rfl, rfl, rfl, rfl⟩ rfl rfl rfl rfl rfl (by kernel_rfl) Try.func19 (by kernel_rfl)
    (of_decide_eq_true (by kernel_rfl)) (by unfold Func.isWrapper; first | (rw [if_pos (by decide +kernel)]; kernel_rfl) | (rw [if_neg (by decide +kernel)]; exact ⟨rfl, rfl⟩))
    (fun os started H enc _ => memory_lifted os started H enc)
#print axioms memory_holds
end Go.Proofs.Ytlldpmkdjpmlpaa
