/-
  An argument that is a list of places, opened.
-/
import Derived.Test.YtlldpmkdjpmlpaaOpen
import Derived.Test.YtlldpmkdjpmlpaaMirror
import Derived.Deep.SlicePairs
set_option linter.unusedSectionVars false
set_option linter.unusedVariables false
set_option linter.unusedSimpArgs false
set_option maxRecDepth 100000
namespace Go.Air
open Go.ChangeShapes Go.WideShapes Go.ChangeAt Go.RowKit Go.Air.Try Go.Deep
variable {W : World}

theorem wf64 {x : Int} (h : (Lit.int .i64 x).wf = true) : R64 x := by
  simp only [Lit.wf, Bool.and_eq_true, decide_eq_true_eq] at h
  exact h

theorem open_spotsA {H : Type} {enc : TypeId × Value → H} {base : Nat} {v : Value} {d : DataW H} {p : List MemPlace} (hval : Value.okWide Go.Proofs.Try.prog W .any base 65 v)
    (hd : DataW.Trod enc Go.Proofs.Try.prog W 0 (fun _ => true) true 65 v d p) :
    ∃ u n ps, absV W.heap.size v = some u ∧ conc (R0 W) u = some v ∧ Arg 2 (h0 W) u n (spots ps) ∧ n ≤ maxLen ∧ ps.length = n ∧ ∀ q ∈ ps, R64 q.1 ∧ R64 q.2 := by
  obtain ⟨a0, len, cap, rfl⟩ := okWide_slice Go.Proofs.Try.underlying65 hval
  obtain ⟨fuel, hf⟩ := hd
  rcases open_slice_pairs Go.Proofs.Try.underlying65 Go.Proofs.Try.underlying64 (by kernel_rfl) rfl rfl (by kernel_rfl) (by kernel_rfl) hf with ⟨hcs, hx⟩ | ⟨a, l', c', m, k, V0, V1, D0, D1, P0, P1, hcs, _, hl, hm, hmm, hx, hall⟩
  · simp [Value.cells] at hcs
    obtain ⟨rfl, rfl, rfl⟩ := hcs
    exact ⟨.sn, 0, [], rfl, by simp [conc], .inl ⟨rfl, rfl, .inl rfl⟩, by simp, rfl, by simp⟩
  · simp [Value.cells] at hcs
    obtain ⟨rfl, rfl, rfl⟩ := hcs
    simp only [if_true] at hmm
    subst hmm
    by_cases h0 : m = 0
    · subst h0
      obtain rfl : len = 0 := by omega
      obtain ⟨b, o, s⟩ := a
      refine ⟨.se ⟨b, o, s⟩, 0, [], ?_, by simp [conc], .inl ⟨rfl, rfl, .inr ⟨_, rfl⟩⟩, by simp, rfl, by simp⟩
      cases s <;> simp [absV]
    · have hz : ∀ i, i < m → ∃ q : Pt, V0 i = .int .i64 q.1 ∧ V1 i = .int .i64 q.2 ∧ R64 q.1 ∧ R64 q.2 := by
        intro i hi
        obtain ⟨_, _, q1, q2⟩ := hall i hi
        obtain ⟨x, e1, _, w1⟩ := DataW.trod_int Go.Proofs.Try.underlying3 q1
        obtain ⟨y, e2, _, w2⟩ := DataW.trod_int Go.Proofs.Try.underlying3 q2
        simp at e1 e2
        exact ⟨(x, y), e1, e2, wf64 w1, wf64 w2⟩
      have hz' : ∀ i, ∃ q : Pt, i < m → V0 i = .int .i64 q.1 ∧ V1 i = .int .i64 q.2 ∧ R64 q.1 ∧ R64 q.2 := by
        intro i
        by_cases hi : i < m
        · obtain ⟨q, hq⟩ := hz i hi
          exact ⟨q, fun _ => hq⟩
        · exact ⟨(0, 0), fun h => absurd h hi⟩
      obtain ⟨f, hf'⟩ := Classical.axiomOfChoice hz'
      have hget : ∀ i, i < len → ((List.range len).map f)[i]? = some (f i) := by intro i hi; simp [hi]
      obtain ⟨u, q1, q2, q3⟩ := arg_of (W := W) (a := a) (len := len) (cap := m) (esz := 2) (cs := spots ((List.range len).map f)) (by rw [spots_length]; simp) (by omega) (by omega) hl (x0 := V0 0) (by simpa using (hall 0 (by omega)).1) (by
        intro i u hi
        have hlt : i < len * 2 := by
          have := (List.getElem?_eq_some_iff.1 hi).1
          rw [spots_length] at this
          simpa using this
        obtain ⟨j, hj⟩ : ∃ j, i = j * 2 + 0 ∨ i = j * 2 + 1 := ⟨i / 2, by omega⟩
        have hjl : j < len := by omega
        obtain ⟨x1, x2, _, _⟩ := hall j (by omega)
        obtain ⟨y1, y2, _, _⟩ := hf' j (by omega)
        rcases hj with rfl | rfl
        · rw [spots_get0, hget j hjl] at hi
          simp at hi
          subst hi
          exact ⟨_, x1, by rw [y1]; rfl⟩
        · rw [spots_get1, hget j hjl] at hi
          simp at hi
          subst hi
          exact ⟨_, x2, by rw [y2]; rfl⟩)
      refine ⟨u, len, _, q1, q2, q3, by omega, by simp, fun q hq => ?_⟩
      obtain ⟨j, hj, rfl⟩ := List.mem_map.1 hq
      obtain ⟨_, _, r1, r2⟩ := hf' j (by have := List.mem_range.1 hj; omega)
      exact ⟨r1, r2⟩

/-- one place. -/
theorem open_spotA {H : Type} {enc : TypeId × Value → H} {base : Nat} {v : Value} {d : DataW H} {p : List MemPlace} (hval : Value.okWide Go.Proofs.Try.prog W .any base 64 v)
    (hd : DataW.Trod enc Go.Proofs.Try.prog W 0 (fun _ => true) true 64 v d p) : ∃ q : Pt, conc (R0 W) (.agg [.i .i64 q.1, .i .i64 q.2]) = some v := by
  have c3 : Go.Proofs.Try.prog.cellsOf 3 = 1 := by kernel_rfl
  have c64 : Go.Proofs.Try.prog.cellsOf 64 = 2 := by kernel_rfl
  obtain ⟨cs, rfl, hsz⟩ := okWide_struct Go.Proofs.Try.underlying64 hval
  obtain ⟨fuel, hf⟩ := hd
  obtain ⟨y0, y1, n, _, hl, q0, q1⟩ := trod_struct2 Go.Proofs.Try.underlying64 hf
  rw [c64] at hsz
  obtain ⟨l⟩ := cs
  simp only [Value.cells, List.size_toArray] at hsz q0 q1
  match l, hsz with
  | [x, y], _ =>
    rw [c3] at q0 q1
    obtain ⟨a, e1, _⟩ := DataW.trod_int Go.Proofs.Try.underlying3 q0
    obtain ⟨b, e2, _⟩ := DataW.trod_int Go.Proofs.Try.underlying3 q1
    simp at e1 e2
    subst e1 e2
    exact ⟨(a, b), by simp [conc, concL]⟩
end Go.Air
