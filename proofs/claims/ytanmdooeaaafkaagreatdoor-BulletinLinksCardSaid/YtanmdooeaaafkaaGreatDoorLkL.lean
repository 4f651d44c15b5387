/-
  A part of the proof of: The row of BulletinLinks and its tied card, out of the lifted form.
-/
import Derived.JoinedOf
import Derived.Test.YtanmdooeaaafkaaGreatDoorLkD
import Derived.Test.YtanmdooeaaafkaaGreatDoorLkK
set_option linter.unusedSectionVars false
set_option linter.unusedVariables false
set_option linter.unusedSimpArgs false
set_option maxRecDepth 100000
namespace Go.Proofs.YtanmdooeaaafkaaGreatDoor
open Go.ChangeShapes Go.WideShapes Go.ChangeAt Go.RowKit Go.Air
theorem links_lifted (os : Os) (started : os.Started) (H : Type) (enc : TypeId × Value → H) :
    ReturnsInHanded {} Tryz.checked os 6 .any (fun w args => (Rows.bulletinLinksSpec.pre enc P9 Tryz.f6 [] false w args ∧ laidMetH P9 laidList w) ∧ sizedMet enc P9 Tryz.f6 (OpenSpec.ofChange Rows.bulletinLinksSpec) false w args) (Rows.bulletinLinksSpec.post enc P9 Tryz.f6 false true false false) := by
  refine row_laid (bt := 4) (args0 := #[.slice none 0 0, .slice none 0 0, .int .i64 0]) rfl Tryz.func6 rfl ?_ (by kernel_rfl) (by kernel_rfl) (by kernel_rfl) (by kernel_rfl) os started H enc (by kernel_rfl) (by kernel_rfl) (by kernel_rfl) (by kernel_rfl) (by kernel_rfl) ?_
  · intro H ds hl
    rw [Tryz.params6] at hl
    match ds, hl with
    | [d1, d2, d3], _ => rfl
  · intro W args ds ps base hval hA _ ht
    rw [Tryz.params6] at hA hval
    have hA' : DataW.TrodAll enc Tryz.prog W 0 (fun _ => true) true [28, 28, 3] args ds ps := hA
    obtain ⟨v1, vs1, d1, ds1, a1, b1, rfl, rfl, rfl, q1, hA'⟩ := trodAll_cons hA'
    obtain ⟨v2, vs2, d2, ds2, a2, b2, rfl, rfl, rfl, q2, hA'⟩ := trodAll_cons hA'
    obtain ⟨v3, vs3, d3, ds3, a3, b3, rfl, rfl, rfl, q3, hA'⟩ := trodAll_cons hA'
    obtain ⟨rfl, rfl, rfl⟩ := trodAll_nil hA'
    obtain ⟨u1, bs, g1, g2, g3⟩ := open_bulsA (hval 0 28 v1 rfl rfl) q1
    obtain ⟨u2, cs, k1, k2, k3⟩ := open_bulsA (hval 1 28 v2 rfl rfl) q2
    obtain ⟨n, i1, i2⟩ := open_intA (by kernel_rfl) (hval 2 3 v3 rfl rfl) q3
    exact ⟨[u1, u2, .i .i64 n], concL_cons.2 ⟨v1, [v2, v3], g1, concL_cons.2 ⟨v2, [v3], k1, concL_cons.2 ⟨v3, [], i2 _, concL_nil _, rfl⟩, rfl⟩, rfl⟩, law_links (tb4_of ht) g2 g3 ⟨k2.sl, k3⟩ (wf_i64 i1)⟩
end Go.Proofs.YtanmdooeaaafkaaGreatDoor
