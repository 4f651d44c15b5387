/-
  What all laws' proofs share: lists of ints, alive().
-/
import Derived.Test.YtlldpmkdjpmlpaaAlive
import Derived.Test.YtlldpmkdjpmlpaaEqs
set_option linter.unusedSectionVars false
set_option linter.unusedVariables false
set_option linter.unusedSimpArgs false
set_option maxRecDepth 100000
namespace Go.Air
open Go.Air.Try

def ints (xs : List Int) : List V := xs.map (V.i .i64)
theorem ints_one {xs : List Int} : ∀ u ∈ ints xs, u.oneCell = true := by
  intro u hu
  obtain ⟨x, _, rfl⟩ := List.mem_map.1 hu
  rfl
theorem ints_get (xs : List Int) (i : Nat) : (ints xs)[i]? = xs[i]?.map (V.i .i64) := by simp [ints]

theorem wrap_succ {i : Nat} (hi : i < 1000000000) : IntKind.i64.wrap ((i : Int) + 1) = ((i + 1 : Nat) : Int) := by rw [wrap_in (by omega) (by omega)]; simp


theorem take_succ' {α : Type} {xs : List α} {i : Nat} {x : α} (hx : xs[i]? = some x) : xs.take (i + 1) = xs.take i ++ [x] := by
  rw [List.take_add_one, hx]; rfl

@[go_sem ↓] theorem fn_alive {h : H} {S : V → H → Prop} : WC tblA (.fn 22 [] []) [] h S ↔ S (.b true) h := by
  rw [WC_in (m := 0) (res := [.only (.b true)]) (body := .skip) rfl, W_skip]
  rfl
/-- of the temporaries only so much is carried on. -/
theorem WL_gen {tbl : Nat → Option FI} {l : List O} {t : List V} {h : H} {T : List V → H → Prop} (P : List V → Prop) (hp : P t) (H : ∀ t', P t' → WL tbl l t' h T) : WL tbl l t h T := H t hp
theorem W_gen {tbl : Nat → Option FI} {c : C} {t : List V} {h : H} {Q : Out → List V → H → Prop} (P : List V → Prop) (hp : P t) (H : ∀ t', P t' → W tbl c t' h Q) : W tbl c t h Q := H t hp
end Go.Air
