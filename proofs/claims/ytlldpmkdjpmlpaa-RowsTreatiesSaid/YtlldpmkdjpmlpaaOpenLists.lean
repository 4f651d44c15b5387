/-
  An argument that is a list of lists of ints, opened.
-/
import Derived.Test.YtlldpmkdjpmlpaaOpen
import Derived.Test.YtlldpmkdjpmlpaaLists
import Derived.Deep.Matrix
set_option linter.unusedSectionVars false
set_option linter.unusedVariables false
set_option linter.unusedSimpArgs false
set_option maxRecDepth 100000
namespace Go.Air
open Go.ChangeShapes Go.WideShapes Go.ChangeAt Go.RowKit Go.Air.Try Go.Deep
variable {W : World}

theorem slice_ints {a : Option Addr} {len cap : Nat} {zs : List Int} (hl : len ≤ cap) (hz : zs.length = cap) (hn : a = none → cap = 0) (hcell : ∀ a', a = some a' → ∀ i, i < cap → W.cell? (a'.add i) = some (.int .i64 (zs.getD i 0))) :
    ∃ u, absV W.heap.size (.slice a len cap) = some u ∧ conc (R0 W) u = some (.slice a len cap) ∧ Arg 1 (h0 W) u len (ints (zs.take len)) := by
  cases a with
  | none =>
    obtain rfl := hn rfl
    obtain rfl : len = 0 := by omega
    exact ⟨.sn, rfl, by simp [conc], .inl ⟨rfl, by simp [ints], .inl rfl⟩⟩
  | some a =>
    by_cases h0 : cap = 0
    · subst h0
      obtain rfl : len = 0 := by omega
      obtain ⟨b, o, s⟩ := a
      refine ⟨.se ⟨b, o, s⟩, ?_, by simp [conc], .inl ⟨rfl, by simp [ints], .inr ⟨_, rfl⟩⟩⟩
      cases s <;> simp [absV]
    · have hc := hcell a rfl
      exact arg_of (W := W) (a := a) (len := len) (cap := cap) (esz := 1) (cs := ints (zs.take len)) (by simp [ints]; omega) (by omega) (by omega) hl (hc 0 (by omega)) (by
        intro i u hi
        rw [ints_get, Option.map_eq_some_iff] at hi
        obtain ⟨x, h1, rfl⟩ := hi
        have hlt := (List.getElem?_eq_some_iff.1 h1).1
        simp at hlt
        refine ⟨_, hc i (by omega), ?_⟩
        have : zs.getD i 0 = x := by
          rw [List.getElem?_take_of_lt (by omega)] at h1
          rw [List.getD_eq_getElem?_getD, h1]; rfl
        rw [this]
        rfl)

theorem open_listsA {H : Type} {enc : TypeId × Value → H} {base : Nat} {v : Value} {d : DataW H} {p : List MemPlace} (hval : Value.okWide Go.Proofs.Try.prog W .any base 43 v)
    (hd : DataW.Trod enc Go.Proofs.Try.prog W 0 (fun _ => true) true 43 v d p) : ∃ u yss, absV W.heap.size v = some u ∧ conc (R0 W) u = some v ∧ LL (h0 W) u yss := by
  obtain ⟨a0, len, cap, rfl⟩ := okWide_slice Go.Proofs.Try.underlying43 hval
  obtain ⟨fuel, hf⟩ := hd
  rcases open_int_rows Go.Proofs.Try.underlying43 Go.Proofs.Try.underlying27 Go.Proofs.Try.underlying3 (by kernel_rfl) (by kernel_rfl) hf with ⟨hcs, hx⟩ | ⟨a, l', c', A, L, C, Z, hcs, _, hl, hm, hx, hall⟩
  · simp [Value.cells] at hcs
    obtain ⟨rfl, rfl, rfl⟩ := hcs
    exact ⟨.sn, [], rfl, by simp [conc], LL.nil⟩
  · simp [Value.cells] at hcs
    obtain ⟨rfl, rfl, rfl⟩ := hcs
    by_cases h0' : cap = 0
    · subst h0'
      obtain rfl : len = 0 := by omega
      obtain ⟨b, o, s⟩ := a
      refine ⟨.se ⟨b, o, s⟩, [], ?_, by simp [conc], [], .inl ⟨rfl, rfl, .inr ⟨_, rfl⟩⟩, fun j xs hj => by simp at hj⟩
      cases s <;> simp [absV]
    · have each : ∀ r, ∃ u : V, r < cap → absV W.heap.size (.slice (A r) (L r) (C r)) = some u ∧ Arg 1 (h0 W) u (L r) (ints ((Z r).take (L r))) := by
        intro r
        by_cases hr : r < cap
        · obtain ⟨_, q1, _, q3, _, q5, q6⟩ := hall r hr
          obtain ⟨u, r1, _, r2⟩ := slice_ints (W := W) (a := A r) q1 q3 q5 (fun a' ha i hi => (q6 a' ha).2 i hi)
          exact ⟨u, fun _ => ⟨r1, r2⟩⟩
        · exact ⟨.sn, fun h => absurd h hr⟩
      obtain ⟨f, hf'⟩ := Classical.axiomOfChoice each
      obtain ⟨u, q1, q2, q3⟩ := arg_of (W := W) (a := a) (len := len) (cap := cap) (esz := 1) (cs := (List.range len).map f) (by simp) (by omega) (by omega) hl (hall 0 (by omega)).1 (by
        intro i u hi
        have hlt := (List.getElem?_eq_some_iff.1 hi).1
        simp at hlt
        simp [hlt] at hi
        subst hi
        exact ⟨_, (hall i (by omega)).1, (hf' i (by omega)).1⟩)
      refine ⟨u, (List.range len).map fun r => (Z r).take (L r), q1, q2, _, by simpa using q3.sl, fun j xs hj => ?_⟩
      have hlt := (List.getElem?_eq_some_iff.1 hj).1
      simp at hlt
      simp [hlt] at hj
      subst hj
      exact ⟨f j, by simp [hlt], (Ints.of (hf' j (by omega)).2.sl).1⟩
end Go.Air
