/-
  A part of the proof of: The row of BulletinNexts and its tied card, out of the lifted form.
-/
import Derived.JoinedOf
import Derived.Test.YtanmdooeaaafkaaGreatDoorNxK
set_option linter.unusedSectionVars false
set_option linter.unusedVariables false
set_option linter.unusedSimpArgs false
set_option maxRecDepth 100000
namespace Go.Proofs.YtanmdooeaaafkaaGreatDoor
open Go.ChangeShapes Go.WideShapes Go.ChangeAt Go.RowKit Go.Air
theorem nexts_lifted (os : Os) (started : os.Started) (H : Type) (enc : TypeId × Value → H) :
    ReturnsInHanded {} Tryz.checked os 4 .any (fun w args => (Rows.bulletinNextsSpec.pre enc P9 Tryz.f4 [] false w args ∧ laidMetH P9 laidList w) ∧ sizedMet enc P9 Tryz.f4 (OpenSpec.ofChange Rows.bulletinNextsSpec) false w args) (Rows.bulletinNextsSpec.post enc P9 Tryz.f4 false true false false) := by
  refine row_laid (bt := 4) (args0 := #[.slice none 0 0, .int .i64 0, .int .i64 0, .int .u8 0, .string ⟨#[]⟩, .int .i64 0]) rfl Tryz.func4 rfl ?_ (by kernel_rfl) (by kernel_rfl) (by kernel_rfl) (by kernel_rfl) os started H enc (by kernel_rfl) (by kernel_rfl) (by kernel_rfl) (by kernel_rfl) (by kernel_rfl) ?_
  · intro H ds hl
    rw [Tryz.params4] at hl
    match ds, hl with
    | [d1, d2, d3, d4, d5, d6], _ => rfl
  · intro W args ds ps base hval hA _ ht
    rw [Tryz.params4] at hA hval
    have hA' : DataW.TrodAll enc Tryz.prog W 0 (fun _ => true) true [28, 3, 3, 5, 9, 3] args ds ps := hA
    obtain ⟨v1, vs1, d1, ds1, a1, b1, rfl, rfl, rfl, q1, hA'⟩ := trodAll_cons hA'
    obtain ⟨v2, vs2, d2, ds2, a2, b2, rfl, rfl, rfl, q2, hA'⟩ := trodAll_cons hA'
    obtain ⟨v3, vs3, d3, ds3, a3, b3, rfl, rfl, rfl, q3, hA'⟩ := trodAll_cons hA'
    obtain ⟨v4, vs4, d4, ds4, a4, b4, rfl, rfl, rfl, q4, hA'⟩ := trodAll_cons hA'
    obtain ⟨v5, vs5, d5, ds5, a5, b5, rfl, rfl, rfl, q5, hA'⟩ := trodAll_cons hA'
    obtain ⟨v6, vs6, d6, ds6, a6, b6, rfl, rfl, rfl, q6, hA'⟩ := trodAll_cons hA'
    obtain ⟨rfl, rfl, rfl⟩ := trodAll_nil hA'
    obtain ⟨u1, bs, g1, g2, g3⟩ := open_bulsA (hval 0 28 v1 rfl rfl) q1
    obtain ⟨x2, i2, c2⟩ := open_intA (k := .i64) (by kernel_rfl) (hval 1 3 v2 rfl rfl) q2
    obtain ⟨x3, i3, c3⟩ := open_intA (k := .i64) (by kernel_rfl) (hval 2 3 v3 rfl rfl) q3
    obtain ⟨x4, i4, c4⟩ := open_intA (k := .u8) (by kernel_rfl) (hval 3 5 v4 rfl rfl) q4
    obtain ⟨l5, i5, j5, c5⟩ := open_strA (by kernel_rfl) (hval 4 9 v5 rfl rfl) q5
    obtain ⟨x6, i6, c6⟩ := open_intA (k := .i64) (by kernel_rfl) (hval 5 3 v6 rfl rfl) q6
    have hk := wf_u8 i4
    have hkn : ((x4.toNat : Nat) : Int) = x4 := Int.toNat_of_nonneg hk.1
    have hl := law_nexts (tb4_of ht) (v := u1) (bs := bs) (a := { day := x2, author := x3, kind := x4.toNat, body := l5, salt := x6 }) ⟨g2.sl, g3⟩ ⟨wf_i64 i2, wf_i64 i3, by show x4.toNat < 256; omega, wf_i64 i6, i5, j5⟩
    rw [show ((({ day := x2, author := x3, kind := x4.toNat, body := l5, salt := x6 } : NArg).kind : Nat) : Int) = x4 from hkn] at hl
    exact ⟨[u1, .i .i64 x2, .i .i64 x3, .i .u8 x4, .s l5, .i .i64 x6], concL_cons.2 ⟨v1, _, g1, concL_cons.2 ⟨v2, _, c2 _, concL_cons.2 ⟨v3, _, c3 _, concL_cons.2 ⟨v4, _, c4 _, concL_cons.2 ⟨v5, _, c5 _, concL_cons.2 ⟨v6, _, c6 _, concL_nil _, rfl⟩, rfl⟩, rfl⟩, rfl⟩, rfl⟩, rfl⟩, hl⟩
end Go.Proofs.YtanmdooeaaafkaaGreatDoor
