/-
  A part of the proof of: The row of BulletinSums and its tied card, out of the lifted form.
-/
import Derived.JoinedOf
import Derived.Test.YtanmdooeaaafkaaGreatDoorSmJ
set_option linter.unusedSectionVars false
set_option linter.unusedVariables false
set_option linter.unusedSimpArgs false
set_option maxRecDepth 100000
namespace Go.Proofs.YtanmdooeaaafkaaGreatDoor
open Go.ChangeShapes Go.WideShapes Go.ChangeAt Go.RowKit Go.Air
theorem sums_lifted (os : Os) (started : os.Started) (H : Type) (enc : TypeId × Value → H) :
    ReturnsInHanded {} Tryz.checked os 3 .any (fun w args => (Rows.bulletinSumsSpec.pre enc P9 Tryz.f3 [] false w args ∧ laidMetH P9 laidList w) ∧ sizedMet enc P9 Tryz.f3 (OpenSpec.ofChange Rows.bulletinSumsSpec) false w args) (Rows.bulletinSumsSpec.post enc P9 Tryz.f3 false true false false) := by
  refine row_laid (bt := 4) (args0 := #[.slice none 0 0]) rfl Tryz.func3 rfl ?_ (by kernel_rfl) (by kernel_rfl) (by kernel_rfl) (by kernel_rfl) os started H enc (by kernel_rfl) (by kernel_rfl) (by kernel_rfl) (by kernel_rfl) (by kernel_rfl) ?_
  · intro H ds hl
    rw [Tryz.params3] at hl
    match ds, hl with
    | [d1], _ => rfl
  · intro W args ds ps base hval hA _ _
    rw [Tryz.params3] at hA hval
    have hA' : DataW.TrodAll enc Tryz.prog W 0 (fun _ => true) true [22] args ds ps := hA
    obtain ⟨v1, vs1, d1, ds1, a1, b1, rfl, rfl, rfl, q1, hA'⟩ := trodAll_cons hA'
    obtain ⟨rfl, rfl, rfl⟩ := trodAll_nil hA'
    obtain ⟨u, bs, h1, h2, h3, h4⟩ := open_bytesA (e := 5) (by kernel_rfl) (by kernel_rfl) (by kernel_rfl) (hval 0 22 v1 rfl rfl) q1
    exact ⟨[u], concL_cons.2 ⟨v1, [], h1, concL_nil _, rfl⟩, law_sums h2.sl h4 (by unfold maxLen at h3; omega)⟩
end Go.Proofs.YtanmdooeaaafkaaGreatDoor
