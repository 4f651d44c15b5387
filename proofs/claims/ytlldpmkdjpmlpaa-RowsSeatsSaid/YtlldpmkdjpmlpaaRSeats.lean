/-
  RowsSeats: for every list of at most 220 guests, kind and k, Place and Abreast return what the document's return (D11).
-/
import Derived.Test.YtlldpmkdjpmlpaaSeats
import Derived.Test.YtlldpmkdjpmlpaaOpen
set_option linter.unusedSectionVars false
set_option linter.unusedVariables false
set_option linter.unusedSimpArgs false
set_option maxRecDepth 100000
namespace Go.Proofs.Ytlldpmkdjpmlpaa
open Go.ChangeShapes Go.WideShapes Go.ChangeAt Go.RowKit Go.Air

theorem seats_lifted (os : Os) (started : os.Started) (H : Type) (enc : TypeId × Value → H) :
    ReturnsInHanded {} Try.checked os 16 .any (Rows.rowsSeatsSpec.pre6 enc Try.prog Try.f16 Rows.rowsSeatsRow.domain false) (Rows.rowsSeatsSpec.post enc Try.prog Try.f16 false true false false) := by
  refine row_true (bt := 4) Try.func16 rfl ?_ (by kernel_rfl) (by kernel_rfl) (by kernel_rfl) (by kernel_rfl) os started H enc
    (ChangeSpec.witness6 (enc := enc) (C := Try.checked) false ⟨#[], #[.slice none 0 0, .int .u8 0, .int .i64 0], []⟩ 8 (by kernel_rfl) (by kernel_rfl) (by kernel_rfl) (by kernel_rfl)) ?_
  · intro H ds hl
    rw [Try.params16] at hl
    match ds, hl with
    | [d1, d2, d3], _ => rfl
  · intro W args ds ps base hval hA _
    rw [Try.params16] at hA hval
    have hA' : DataW.TrodAll enc Try.prog W 0 (fun _ => true) true [27, 5, 3] args ds ps := hA
    obtain ⟨v1, vs1, d1, ds1, a1, b1, rfl, rfl, rfl, q1, hA'⟩ := trodAll_cons hA'
    obtain ⟨v2, vs2, d2, ds2, a2, b2, rfl, rfl, rfl, q2, hA'⟩ := trodAll_cons hA'
    obtain ⟨v3, vs3, d3, ds3, a3, b3, rfl, rfl, rfl, q3, hA'⟩ := trodAll_cons hA'
    obtain ⟨rfl, rfl, rfl⟩ := trodAll_nil hA'
    obtain ⟨o, m, xs, _, ho, so, _, hm, _⟩ := open_intsA Try.underlying27 Try.underlying3 (by kernel_rfl) (hval 0 27 v1 rfl rfl) q1
    obtain ⟨kd, rfl, _, _, _⟩ := open_int Try.underlying5 (hval 1 5 v2 rfl rfl) q2
    obtain ⟨k, rfl, _, _, _⟩ := open_int Try.underlying3 (hval 2 3 v3 rfl rfl) q3
    subst hm
    exact ⟨[o, .i .u8 kd, .i .i64 k], concL_cons.2 ⟨v1, _, ho, concL_cons.2 ⟨.int .u8 kd, _, by simp [conc], concL_cons.2 ⟨.int .i64 k, [], by simp [conc], concL_nil _, rfl⟩, rfl⟩, rfl⟩, law_seats so⟩

theorem seats_holds : Rows.RowsSeatsSaid :=
  OpenClaim.holds_of_wide 16 Try.f16 rfl rfl rfl rfl rfl rfl rfl ⟨rfl, rfl, rfl, rfl, rfl⟩ rfl rfl rfl rfl rfl (by kernel_rfl) Try.func16 (by kernel_rfl)
    (of_decide_eq_true (by kernel_rfl)) (by unfold Func.isWrapper; first | (rw [if_pos (by decide +kernel)]; kernel_rfl) | (rw [if_neg (by decide +kernel)]; exact ⟨rfl, rfl⟩))
    (fun os started H enc _ => seats_lifted os started H enc)

#print axioms seats_holds
end Go.Proofs.Ytlldpmkdjpmlpaa
