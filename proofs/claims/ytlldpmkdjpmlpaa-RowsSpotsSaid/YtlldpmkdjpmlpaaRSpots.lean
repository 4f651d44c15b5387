/-
  RowsSpots: for every kind, number of guests, k and place, Spots and Honour return what the document's return (D8, D9).
  No condition.
-/
import Derived.Test.YtlldpmkdjpmlpaaHonour
import Derived.Test.YtlldpmkdjpmlpaaOpenSpots
set_option linter.unusedSectionVars false
set_option linter.unusedVariables false
set_option linter.unusedSimpArgs false
set_option maxRecDepth 100000
namespace Go.Proofs.Ytlldpmkdjpmlpaa
open Go.ChangeShapes Go.WideShapes Go.ChangeAt Go.RowKit Go.Air

theorem spots_lifted (os : Os) (started : os.Started) (H : Type) (enc : TypeId × Value → H) :
    ReturnsInHanded {} Try.checked os 11 .any (Rows.rowsSpotsSpec.pre6 enc Try.prog Try.f11 Rows.rowsSpotsRow.domain false) (Rows.rowsSpotsSpec.post enc Try.prog Try.f11 false true false false) := by
  refine row_true (bt := 4) Try.func11 rfl ?_ (by kernel_rfl) (by kernel_rfl) (by kernel_rfl) (by kernel_rfl) os started H enc
    (ChangeSpec.witness6 (enc := enc) (C := Try.checked) false ⟨#[], #[.int .u8 0, .int .i64 0, .int .i64 0, .agg #[.int .i64 0, .int .i64 0]], []⟩ 8 (by kernel_rfl) (by kernel_rfl) (by kernel_rfl) (by kernel_rfl)) ?_
  · intro H ds hl
    rw [Try.params11] at hl
    match ds, hl with
    | [d1, d2, d3, d4], _ => rfl
  · intro W args ds ps base hval hA _
    rw [Try.params11] at hA hval
    have hA' : DataW.TrodAll enc Try.prog W 0 (fun _ => true) true [5, 3, 3, 64] args ds ps := hA
    obtain ⟨v1, vs1, d1, ds1, a1, b1, rfl, rfl, rfl, q1, hA'⟩ := trodAll_cons hA'
    obtain ⟨v2, vs2, d2, ds2, a2, b2, rfl, rfl, rfl, q2, hA'⟩ := trodAll_cons hA'
    obtain ⟨v3, vs3, d3, ds3, a3, b3, rfl, rfl, rfl, q3, hA'⟩ := trodAll_cons hA'
    obtain ⟨v4, vs4, d4, ds4, a4, b4, rfl, rfl, rfl, q4, hA'⟩ := trodAll_cons hA'
    obtain ⟨rfl, rfl, rfl⟩ := trodAll_nil hA'
    obtain ⟨kd, rfl, _, _, _⟩ := open_int Try.underlying5 (hval 0 5 v1 rfl rfl) q1
    obtain ⟨n, rfl, _, _, _⟩ := open_int Try.underlying3 (hval 1 3 v2 rfl rfl) q2
    obtain ⟨k, rfl, _, _, _⟩ := open_int Try.underlying3 (hval 2 3 v3 rfl rfl) q3
    obtain ⟨q, hq⟩ := open_spotA (hval 3 64 v4 rfl rfl) q4
    exact ⟨[.i .u8 kd, .i .i64 n, .i .i64 k, .agg [.i .i64 q.1, .i .i64 q.2]], concL_cons.2 ⟨.int .u8 kd, _, by simp [conc], concL_cons.2 ⟨.int .i64 n, _, by simp [conc], concL_cons.2 ⟨.int .i64 k, _, by simp [conc], concL_cons.2 ⟨v4, [], hq, concL_nil _, rfl⟩, rfl⟩, rfl⟩, rfl⟩, law_spots⟩

theorem spots_holds : Rows.RowsSpotsSaid :=
  OpenClaim.holds_of_wide 11 Try.f11 rfl rfl rfl rfl rfl rfl rfl ⟨rfl, rfl, rfl, rfl, rfl⟩ rfl rfl rfl rfl rfl (by kernel_rfl) Try.func11 (by kernel_rfl)
    (of_decide_eq_true (by kernel_rfl)) (by unfold Func.isWrapper; first | (rw [if_pos (by decide +kernel)]; kernel_rfl) | (rw [if_neg (by decide +kernel)]; exact ⟨rfl, rfl⟩))
    (fun os started H enc _ => spots_lifted os started H enc)

#print axioms spots_holds
end Go.Proofs.Ytlldpmkdjpmlpaa
