/-
  RowsCopies (P4.8): for every list the law returns true: each guest is the first in exactly one copy, and of two guests the one who comes earlier in the list does so in every copy but that of the other one.
  No condition: whatever the list.
-/
import Derived.Test.YtlldpmkdjpmlpaaLawCopies
import Derived.Test.YtlldpmkdjpmlpaaOpen
set_option linter.unusedSectionVars false
set_option linter.unusedVariables false
set_option linter.unusedSimpArgs false
set_option maxRecDepth 100000
namespace Go.Proofs.Ytlldpmkdjpmlpaa
open Go.ChangeShapes Go.WideShapes Go.ChangeAt Go.RowKit Go.Air

theorem copies_lifted (os : Os) (started : os.Started) (H : Type) (enc : TypeId × Value → H) :
    ReturnsInHanded {} Try.checked os 6 .any (Rows.rowsCopiesSpec.pre6 enc Try.prog Try.f6 Rows.rowsCopiesRow.domain false) (Rows.rowsCopiesSpec.post enc Try.prog Try.f6 false true false false) := by
  refine row_true (bt := 4) Try.func6 rfl ?_ (by kernel_rfl) (by kernel_rfl) (by kernel_rfl) (by kernel_rfl) os started H enc
    (ChangeSpec.witness6 (enc := enc) (C := Try.checked) false ⟨#[], #[.slice none 0 0], []⟩ 8 (by kernel_rfl) (by kernel_rfl) (by kernel_rfl) (by kernel_rfl)) ?_
  · intro H ds hl
    rw [Try.params6] at hl
    match ds, hl with
    | [d], _ => rfl
  · intro W args ds ps base hval hA _
    rw [Try.params6] at hA hval
    have hA' : DataW.TrodAll enc Try.prog W 0 (fun _ => true) true [27] args ds ps := hA
    obtain ⟨v, vs1, d, ds1, a, b, rfl, rfl, rfl, q1, q2⟩ := trodAll_cons hA'
    obtain ⟨rfl, rfl, rfl⟩ := trodAll_nil q2
    obtain ⟨u, n, xs, _, hu, ha, hn, _, _⟩ := open_intsA Try.underlying27 Try.underlying3 (by kernel_rfl) (hval 0 27 v rfl rfl) q1
    refine ⟨[u], concL_cons.2 ⟨v, [], hu, concL_nil _, rfl⟩, law_copies ha⟩

theorem copies_holds : Rows.RowsCopiesSaid :=
  OpenClaim.holds_of_wide 6 Try.f6 rfl rfl rfl rfl rfl rfl rfl ⟨rfl, rfl, rfl, rfl, rfl⟩ rfl rfl rfl rfl rfl (by kernel_rfl) Try.func6 (by kernel_rfl)
    (of_decide_eq_true (by kernel_rfl)) (by unfold Func.isWrapper; first | (rw [if_pos (by decide +kernel)]; kernel_rfl) | (rw [if_neg (by decide +kernel)]; exact ⟨rfl, rfl⟩))
    (fun os started H enc _ => copies_lifted os started H enc)

#print axioms copies_holds
end Go.Proofs.Ytlldpmkdjpmlpaa
