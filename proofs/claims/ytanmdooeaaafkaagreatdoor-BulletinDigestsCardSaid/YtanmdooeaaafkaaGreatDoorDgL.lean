/-
  A part of the proof of: The row of BulletinDigests and its tied card, out of the lifted form.
-/
import Derived.JoinedOf
import Derived.Test.YtanmdooeaaafkaaGreatDoorDgK
set_option linter.unusedSectionVars false
set_option linter.unusedVariables false
set_option linter.unusedSimpArgs false
set_option maxRecDepth 100000
namespace Go.Proofs.YtanmdooeaaafkaaGreatDoor
open Go.ChangeShapes Go.WideShapes Go.ChangeAt Go.RowKit Go.Air
theorem digests_lifted (os : Os) (started : os.Started) (H : Type) (enc : TypeId × Value → H) :
    ReturnsInHanded {} Tryz.checked os 5 .any (fun w args => (Rows.bulletinDigestsSpec.pre enc P9 Tryz.f5 [] false w args ∧ laidMetH P9 laidList w) ∧ sizedMet enc P9 Tryz.f5 (OpenSpec.ofChange Rows.bulletinDigestsSpec) false w args) (Rows.bulletinDigestsSpec.post enc P9 Tryz.f5 false true false false) := by
  refine row_laid (bt := 4) (args0 := #[.agg (#[.int .i64 0, .int .i64 0, .int .i64 0, .int .u8 0, .bool false, .string ⟨#[]⟩, .int .i64 0] ++ Array.replicate 64 (.int .u8 0))]) rfl Tryz.func5 rfl ?_ (by kernel_rfl) (by kernel_rfl) (by kernel_rfl) (by kernel_rfl) os started H enc (by kernel_rfl) (by kernel_rfl) (by kernel_rfl) (by kernel_rfl) (by kernel_rfl) ?_
  · intro H ds hl
    rw [Tryz.params5] at hl
    match ds, hl with
    | [d1], _ => rfl
  · intro W args ds ps base hval hA _ ht
    rw [Tryz.params5] at hA hval
    have hA' : DataW.TrodAll enc Tryz.prog W 0 (fun _ => true) true [31] args ds ps := hA
    obtain ⟨v1, vs1, d1, ds1, a1, b1, rfl, rfl, rfl, q1, hA'⟩ := trodAll_cons hA'
    obtain ⟨rfl, rfl, rfl⟩ := trodAll_nil hA'
    obtain ⟨b, h1, h2⟩ := open_bulA (hval 0 31 v1 rfl rfl) q1
    exact ⟨[.agg b.cells], concL_cons.2 ⟨v1, [], h2 _, concL_nil _, rfl⟩, law_digests (tb4_of ht) h1⟩
end Go.Proofs.YtanmdooeaaafkaaGreatDoor
