/-
  A part of the proof of: The row of BulletinTexts and its tied card, out of the lifted form.
-/
import Derived.JoinedOf
import Derived.Test.YtekdhcpjoeikkaaGreatDoorTxK
set_option linter.unusedSectionVars false
set_option linter.unusedVariables false
set_option linter.unusedSimpArgs false
set_option maxRecDepth 100000
namespace Go.Proofs.YtekdhcpjoeikkaaGreatDoor
open Go.ChangeShapes Go.WideShapes Go.ChangeAt Go.RowKit Go.Air
theorem texts_lifted (os : Os) (started : os.Started) (H : Type) (enc : TypeId × Value → H) :
    ReturnsInHanded {} Tryz.checked os 3 .any (fun w args => (Rows.bulletinTextsSpec.pre enc P9 Tryz.f3 [] false w args ∧ laidMetH P9 laidList w) ∧ sizedMet enc P9 Tryz.f3 (OpenSpec.ofChange Rows.bulletinTextsSpec) false w args) (Rows.bulletinTextsSpec.post enc P9 Tryz.f3 false true false false) := by
  refine row_laid2 (bt := 4) (args0 := #[.agg (#[.int .i64 0, .int .i64 0, .int .i64 0, .int .u8 0, .bool false, .string ⟨#[]⟩, .int .i64 0] ++ Array.replicate 64 (.int .u8 0)), .string ⟨#[]⟩]) rfl Tryz.func3 rfl ?_ (by kernel_rfl) (by kernel_rfl) (by kernel_rfl) (by kernel_rfl) os started H enc (World.shaped_of_RefB (by kernel_rfl) (by kernel_rfl)) (by kernel_rfl) (by kernel_rfl) (by kernel_rfl) ?_
  · intro H ds hl
    rw [Tryz.params3] at hl
    match ds, hl with
    | [d1, d2], _ => rfl
  · intro W args ds ps base hval hA _ ht hL
    rw [Tryz.params3] at hA hval
    have hA' : DataW.TrodAll enc Tryz.prog W 0 (fun _ => true) true [25, 9] args ds ps := hA
    obtain ⟨v1, vs1, d1, ds1, a1, b1, rfl, rfl, rfl, q1, hA'⟩ := trodAll_cons hA'
    obtain ⟨v2, vs2, d2, ds2, a2, b2, rfl, rfl, rfl, q2, hA'⟩ := trodAll_cons hA'
    obtain ⟨rfl, rfl, rfl⟩ := trodAll_nil hA'
    obtain ⟨b, h1, h2⟩ := open_bulA (hval 0 25 v1 rfl rfl) q1
    obtain ⟨s, k1, _, k2⟩ := open_strA (by kernel_rfl) (hval 1 9 v2 rfl rfl) q2
    have t4 := tb4_of2 ht (lib_of hL).1
    exact ⟨[.agg b.cells, .s s], concL_cons.2 ⟨v1, [v2], h2 _, concL_cons.2 ⟨v2, [], k2 _, concL_nil _, rfl⟩, rfl⟩, law_texts t4 (tbU_of t4.lt hL) h1 k1⟩
end Go.Proofs.YtekdhcpjoeikkaaGreatDoor
