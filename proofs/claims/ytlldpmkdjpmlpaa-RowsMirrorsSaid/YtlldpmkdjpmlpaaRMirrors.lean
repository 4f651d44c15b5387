/-
  RowsMirrors: for every list of at most 100 places the program's Mirror returns what the document's returns, and inverts itself.
  No condition: whatever the list (of more than 100 places the law says nothing and returns true).
-/
import Derived.Test.YtlldpmkdjpmlpaaMirror2
import Derived.Test.YtlldpmkdjpmlpaaOpenSpots
set_option linter.unusedSectionVars false
set_option linter.unusedVariables false
set_option linter.unusedSimpArgs false
set_option maxRecDepth 100000
namespace Go.Proofs.Ytlldpmkdjpmlpaa
open Go.ChangeShapes Go.WideShapes Go.ChangeAt Go.RowKit Go.Air

theorem mirrors_lifted (os : Os) (started : os.Started) (H : Type) (enc : TypeId × Value → H) :
    ReturnsInHanded {} Try.checked os 12 .any (Rows.rowsMirrorsSpec.pre6 enc Try.prog Try.f12 Rows.rowsMirrorsRow.domain false) (Rows.rowsMirrorsSpec.post enc Try.prog Try.f12 false true false false) := by
  refine row_true (bt := 4) Try.func12 rfl ?_ (by kernel_rfl) (by kernel_rfl) (by kernel_rfl) (by kernel_rfl) os started H enc
    (ChangeSpec.witness6 (enc := enc) (C := Try.checked) false ⟨#[], #[.slice none 0 0], []⟩ 8 (by kernel_rfl) (by kernel_rfl) (by kernel_rfl) (by kernel_rfl)) ?_
  · intro H ds hl
    rw [Try.params12] at hl
    match ds, hl with
    | [d], _ => rfl
  · intro W args ds ps base hval hA _
    rw [Try.params12] at hA hval
    have hA' : DataW.TrodAll enc Try.prog W 0 (fun _ => true) true [65] args ds ps := hA
    obtain ⟨v, vs1, d, ds1, a, b, rfl, rfl, rfl, q1, q2⟩ := trodAll_cons hA'
    obtain ⟨rfl, rfl, rfl⟩ := trodAll_nil q2
    obtain ⟨u, n, qs, _, hu, ha, _, _, hr⟩ := open_spotsA (hval 0 65 v rfl rfl) q1
    exact ⟨[u], concL_cons.2 ⟨v, [], hu, concL_nil _, rfl⟩, law_mirrors ha.sl fun q hq => (hr q hq).2⟩

theorem mirrors_holds : Rows.RowsMirrorsSaid :=
  OpenClaim.holds_of_wide 12 Try.f12 rfl rfl rfl rfl rfl rfl rfl ⟨rfl, rfl, rfl, rfl, rfl⟩ rfl rfl rfl rfl rfl (by kernel_rfl) Try.func12 (by kernel_rfl)
    (of_decide_eq_true (by kernel_rfl)) (by unfold Func.isWrapper; first | (rw [if_pos (by decide +kernel)]; kernel_rfl) | (rw [if_neg (by decide +kernel)]; exact ⟨rfl, rfl⟩))
    (fun os started H enc _ => mirrors_lifted os started H enc)

#print axioms mirrors_holds
end Go.Proofs.Ytlldpmkdjpmlpaa
