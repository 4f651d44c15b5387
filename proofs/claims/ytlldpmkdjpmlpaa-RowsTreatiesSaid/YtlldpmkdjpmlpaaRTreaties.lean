/-
  RowsTreaties: for every list of at most 30 guests, guest and copies, Alternat, Copy and CheckAlternat return what the document's return (D12).
  No condition: whatever the lists (of longer ones the law says nothing and returns true).
-/
import Derived.Test.YtlldpmkdjpmlpaaTreaties2
import Derived.Test.YtlldpmkdjpmlpaaOpenLists
set_option linter.unusedSectionVars false
set_option linter.unusedVariables false
set_option linter.unusedSimpArgs false
set_option maxRecDepth 100000
namespace Go.Proofs.Ytlldpmkdjpmlpaa
open Go.ChangeShapes Go.WideShapes Go.ChangeAt Go.RowKit Go.Air

theorem treaties_lifted (os : Os) (started : os.Started) (H : Type) (enc : TypeId × Value → H) :
    ReturnsInHanded {} Try.checked os 17 .any (Rows.rowsTreatiesSpec.pre6 enc Try.prog Try.f17 Rows.rowsTreatiesRow.domain false) (Rows.rowsTreatiesSpec.post enc Try.prog Try.f17 false true false false) := by
  refine row_true (bt := 4) Try.func17 rfl ?_ (by kernel_rfl) (by kernel_rfl) (by kernel_rfl) (by kernel_rfl) os started H enc
    (ChangeSpec.witness6 (enc := enc) (C := Try.checked) false ⟨#[], #[.slice none 0 0, .int .i64 0, .slice none 0 0], []⟩ 8 (by kernel_rfl) (by kernel_rfl) (by kernel_rfl) (by kernel_rfl)) ?_
  · intro H ds hl
    rw [Try.params17] at hl
    match ds, hl with
    | [d1, d2, d3], _ => rfl
  · intro W args ds ps base hval hA _
    rw [Try.params17] at hA hval
    have hA' : DataW.TrodAll enc Try.prog W 0 (fun _ => true) true [27, 3, 43] args ds ps := hA
    obtain ⟨v1, vs1, d1, ds1, a1, b1, rfl, rfl, rfl, q1, hA'⟩ := trodAll_cons hA'
    obtain ⟨v2, vs2, d2, ds2, a2, b2, rfl, rfl, rfl, q2, hA'⟩ := trodAll_cons hA'
    obtain ⟨v3, vs3, d3, ds3, a3, b3, rfl, rfl, rfl, q3, hA'⟩ := trodAll_cons hA'
    obtain ⟨rfl, rfl, rfl⟩ := trodAll_nil hA'
    obtain ⟨u, n, xs, _, hu, ha, _, _, _⟩ := open_intsA Try.underlying27 Try.underlying3 (by kernel_rfl) (hval 0 27 v1 rfl rfl) q1
    obtain ⟨g, rfl, _, _, _⟩ := open_int Try.underlying3 (hval 1 3 v2 rfl rfl) q2
    obtain ⟨c, yss, _, hc, hl⟩ := open_listsA (hval 2 43 v3 rfl rfl) q3
    exact ⟨[u, .i .i64 g, c], concL_cons.2 ⟨v1, _, hu, concL_cons.2 ⟨.int .i64 g, _, by simp [conc], concL_cons.2 ⟨v3, [], hc, concL_nil _, rfl⟩, rfl⟩, rfl⟩, law_treaties ha hl⟩

theorem treaties_holds : Rows.RowsTreatiesSaid :=
  OpenClaim.holds_of_wide 17 Try.f17 rfl rfl rfl rfl rfl rfl rfl ⟨rfl, rfl, rfl, rfl, rfl⟩ rfl rfl rfl rfl rfl (by kernel_rfl) Try.func17 (by kernel_rfl)
    (of_decide_eq_true (by kernel_rfl)) (by unfold Func.isWrapper; first | (rw [if_pos (by decide +kernel)]; kernel_rfl) | (rw [if_neg (by decide +kernel)]; exact ⟨rfl, rfl⟩))
    (fun os started H enc _ => treaties_lifted os started H enc)

#print axioms treaties_holds
end Go.Proofs.Ytlldpmkdjpmlpaa
