/-
  The program's function alive() returns true and changes nothing of what there was (by Air's soundness, from Air's run); the table in which it is not looked into.
-/
import Derived.Test.YtlldpmkdjpmlpaaAlive0
import Derived.Test.YtlldpmkdjpmlpaaDraw5
set_option linter.unusedSectionVars false
set_option linter.unusedVariables false
set_option linter.unusedSimpArgs false
set_option maxRecDepth 100000
namespace Go.Air.Try
open Go.Air.Fast

theorem okTree (k : Nat) (fi : FI) (h : tree.get k = some fi) : okFI Go.Proofs.Try.prog k fi = true := by
  have hk : k < 256 := by
    rcases Nat.lt_or_ge k 256 with hk | hk
    · exact hk
    · have h1 : bound tree ≤ 256 := Nat.le_of_ble_eq_true bound_tree
      rw [get_high tree k (by omega)] at h
      cases h
  have := List.all_eq_true.1 all_ok k (List.mem_range.2 hk)
  unfold okAt at this
  rw [h] at this
  exact this

theorem true22 : TrueFn Go.Proofs.Try.prog 22 := by
  obtain ⟨h', he⟩ := run_true alive_air
  have hs : ∀ w : World, Sim Go.Proofs.Try.prog allB (fun _ => none) H.empty.get w := fun w => ⟨fun _ _ _ _ _ hb _ => by simp at hb, fun _ _ _ _ _ _ _ _ _ hb => by simp at hb, fun _ _ _ hb => by simp at hb⟩
  have hall := fun w : World => air_fn (R := fun _ => none) (vs := []) mixed (fun k fi hk => .inl (okTree k fi hk)) he (hs w) (fun _ _ _ => rfl) ⟨fun b _ => by cases b <;> rfl, fun _ hb => by simp [H.empty] at hb⟩ (by simp [concL])
  refine ⟨fun w => (hall w).1, fun w ro n => ((hall w).2 ro n).mono ?_⟩
  intro e w' q
  cases e with
  | returned x =>
    obtain ⟨R', l, f, _, hx⟩ := q
    refine ⟨by simpa [conc] using hx.symm, f.io, f.size, fun c hc => f.frame c hc fun b sz hb => by simp at hb⟩
  | _ => exact q.elim

/-- the table in which alive() is not looked into. -/
def tblA (k : Nat) : Option FI := if k = 22 then some trueFI else tree.get k
theorem okA (k : Nat) (fi : FI) (h : tblA k = some fi) : FnOk Go.Proofs.Try.prog k fi := by
  unfold tblA at h
  split at h
  · rename_i hk
    subst hk
    cases h
    exact .inr ⟨rfl, true22⟩
  · exact .inl (okTree k fi h)
end Go.Air.Try
