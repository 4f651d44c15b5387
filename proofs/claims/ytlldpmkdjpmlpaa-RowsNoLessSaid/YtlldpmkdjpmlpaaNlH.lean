/-
  A part of the proof of: The row RowsNoLess, from the law in Air.
-/
import Derived.Test.YtlldpmkdjpmlpaaNlG
set_option linter.unusedSectionVars false
set_option linter.unusedVariables false
set_option linter.unusedSimpArgs false
set_option maxRecDepth 100000
namespace Go.Air
open Go.ChangeShapes Go.WideShapes Go.ChangeAt Go.RowKit Go.Air.Try Go.Deep
variable {W : World}
theorem trod_struct3 {H : Type} {enc : TypeId × Value → H} {P : Program} {w : World} {base : Nat} {spare : Nat → Bool} {held : Bool} {t : TypeId} {f0 f1 f2 : Field} {fuel : Nat} {cs : List Value} {x : DataW H × List MemPlace} (ht : P.underlying t = some (.struct #[f0, f1, f2])) (h : DataW.trod enc P w base spare held fuel t cs = some x) :
    ∃ y0 y1 y2 n, cs.length = P.cellsOf t ∧ DataW.trod enc P w base spare held n f0.type ((cs.drop f0.offset).take (P.cellsOf f0.type)) = some y0 ∧
      DataW.trod enc P w base spare held n f1.type ((cs.drop f1.offset).take (P.cellsOf f1.type)) = some y1 ∧ DataW.trod enc P w base spare held n f2.type ((cs.drop f2.offset).take (P.cellsOf f2.type)) = some y2 := by
  obtain ⟨xs, n, _, rfl, hl, hlen, hf⟩ := DataW.trod_struct ht h
  match xs, hlen with
  | [y0, y1, y2], _ => exact ⟨y0, y1, y2, n, hl, by simpa using hf 0 f0 rfl, by simpa using hf 1 f1 rfl, by simpa using hf 2 f2 rfl⟩
theorem open_cellI {H : Type} {enc : TypeId × Value → H} {fuel : Nat} {v : Value} {x : DataW H × List MemPlace} (h : DataW.trod enc Go.Proofs.Try.prog W 0 (fun _ => true) true fuel 27 [v] = some x) :
    ∃ u xs, absV W.heap.size v = some u ∧ conc (R0 W) u = some v ∧ Ints (h0 W) u xs := by
  rcases open_ints Go.Proofs.Try.underlying27 Go.Proofs.Try.underlying3 (by kernel_rfl) h with ⟨hcs, _⟩ | ⟨a, len, cap, zs, hcs, _, hl, hm, hz, hx, hcell, hw⟩
  · simp at hcs
    subst hcs
    exact ⟨.sn, [], rfl, by simp [conc], .nil⟩
  · simp at hcs
    subst hcs
    simp only [if_true] at hz
    obtain ⟨u, q1, q2, q3⟩ := slice_ints (W := W) (a := some a) hl hz (fun q => by cases q) (fun a' ha i hi => by
      cases ha
      exact hcell i (by omega))
    exact ⟨u, zs.take len, q1, q2, (Ints.of q3.sl).1⟩
theorem open_tablesA {H : Type} {enc : TypeId × Value → H} {fuel : Nat} {v : Value} {x : DataW H × List MemPlace} (hf : DataW.trod enc Go.Proofs.Try.prog W 0 (fun _ => true) true fuel 28 [v] = some x) :
    ∃ u tb, absV W.heap.size v = some u ∧ conc (R0 W) u = some v ∧ TB (h0 W) u tb := by
  rcases open_slice_pairs Go.Proofs.Try.underlying28 Go.Proofs.Try.underlying91 (by kernel_rfl) rfl rfl (by kernel_rfl) (by kernel_rfl) hf with ⟨hcs, _⟩ | ⟨a, len, cap, m, k, V0, V1, D0, D1, P0, P1, hcs, _, hl, hm, hmm, _, hall⟩
  · simp at hcs
    subst hcs
    exact ⟨.sn, [], rfl, by simp [conc], [], .inl ⟨rfl, rfl, .inl rfl⟩, fun j g vals hj => by simp at hj⟩
  · simp at hcs
    subst hcs
    simp only [if_true] at hmm
    subst hmm
    by_cases h0' : m = 0
    · subst h0'
      obtain rfl : len = 0 := by omega
      obtain ⟨b, o, s⟩ := a
      refine ⟨.se ⟨b, o, s⟩, [], ?_, by simp [conc], [], .inl ⟨rfl, rfl, .inr ⟨_, rfl⟩⟩, fun j g vals hj => by simp at hj⟩
      cases s <;> simp [absV]
    · have each : ∀ i, ∃ q : (V × List Int) × (V × List Int), i < m → absV W.heap.size (V0 i) = some q.1.1 ∧ Ints (h0 W) q.1.1 q.1.2 ∧ absV W.heap.size (V1 i) = some q.2.1 ∧ Ints (h0 W) q.2.1 q.2.2 := by
        intro i
        by_cases hi : i < m
        · obtain ⟨_, _, q1, q2⟩ := hall i hi
          obtain ⟨u1, x1, r1, _, s1⟩ := open_cellI q1
          obtain ⟨u2, x2, r2, _, s2⟩ := open_cellI q2
          exact ⟨((u1, x1), (u2, x2)), fun _ => ⟨r1, s1, r2, s2⟩⟩
        · exact ⟨((.sn, []), (.sn, [])), fun h => absurd h hi⟩
      obtain ⟨f, hf'⟩ := Classical.axiomOfChoice each
      let pr : (V × List Int) × (V × List Int) → List V := fun q => [q.1.1, q.2.1]
      have hpr : ∀ q, (pr q).length = 2 := fun q => rfl
      have hget : ∀ i, i < len → ((List.range len).map f)[i]? = some (f i) := by intro i hi; simp [hi]
      have hrl := recs_len hpr ((List.range len).map f)
      obtain ⟨u, q1, q2, q3⟩ := arg_of (W := W) (a := a) (len := len) (cap := m) (esz := 2) (cs := recs pr ((List.range len).map f)) (by rw [hrl]; simp) (by omega) (by omega) hl (x0 := V0 0) (by simpa using (hall 0 (by omega)).1) (by
        intro i u hi
        have hlt : i < len * 2 := by
          have := (List.getElem?_eq_some_iff.1 hi).1
          rw [hrl] at this
          simpa using this
        have hjl : i / 2 < len := by omega
        have hi' : i = i / 2 * 2 + i % 2 := by omega
        rw [hi'] at hi ⊢
        rw [recs_get hpr (hget _ hjl) (by omega)] at hi
        obtain ⟨x1, x2, _, _⟩ := hall (i / 2) (by omega)
        obtain ⟨y1, _, y2, _⟩ := hf' (i / 2) (by omega)
        rcases Nat.lt_or_ge (i % 2) 1 with z | z
        · rw [show i % 2 = 0 by omega] at hi ⊢
          simp [pr] at hi
          subst hi
          exact ⟨_, by simpa using x1, y1⟩
        · rw [show i % 2 = 1 by omega] at hi ⊢
          simp [pr] at hi
          subst hi
          exact ⟨_, x2, y2⟩)
      refine ⟨u, ((List.range len).map f).map fun q => (q.1.2, q.2.2), q1, q2, recs pr ((List.range len).map f), by simpa using q3.sl, fun j g vals hj => ?_⟩
      have hlt := (List.getElem?_eq_some_iff.1 hj).1
      simp at hlt
      rw [List.getElem?_map, hget j hlt] at hj
      simp at hj
      obtain ⟨rfl, rfl⟩ := hj
      obtain ⟨_, s1, _, s2⟩ := hf' j (by omega)
      exact ⟨(f j).1.1, (f j).2.1, by have := recs_get hpr (hget j hlt) (j := 0) (by omega); simpa [pr] using this, by have := recs_get hpr (hget j hlt) (j := 1) (by omega); simpa [pr] using this, s1, s2⟩
theorem open_planA {H : Type} {enc : TypeId × Value → H} {base : Nat} {v : Value} {d : DataW H} {p : List MemPlace} (hval : Value.okWide Go.Proofs.Try.prog W .any base 30 v)
    (hd : DataW.Trod enc Go.Proofs.Try.prog W 0 (fun _ => true) true 30 v d p) : ∃ (q : V) (P : PlanS), conc (R0 W) q = some v ∧ PlanR (h0 W) q P := by
  have c3 : Go.Proofs.Try.prog.cellsOf 3 = 1 := by kernel_rfl
  have c27 : Go.Proofs.Try.prog.cellsOf 27 = 1 := by kernel_rfl
  have c28 : Go.Proofs.Try.prog.cellsOf 28 = 1 := by kernel_rfl
  have c30 : Go.Proofs.Try.prog.cellsOf 30 = 3 := by kernel_rfl
  obtain ⟨cs, rfl, hsz⟩ := okWide_struct Go.Proofs.Try.underlying30 hval
  obtain ⟨fuel, hf⟩ := hd
  obtain ⟨y0, y1, y2, n, hl, q0, q1, q2⟩ := trod_struct3 Go.Proofs.Try.underlying30 hf
  rw [c30] at hsz
  obtain ⟨l⟩ := cs
  simp only [Value.cells, List.size_toArray] at hsz q0 q1 q2
  match l, hsz with
  | [x, y, z], _ =>
    rw [c27] at q0
    rw [c3] at q1
    rw [c28] at q2
    obtain ⟨u, xs, _, r2, r3⟩ := open_cellI (by simpa using q0)
    obtain ⟨N, e1, _⟩ := DataW.trod_int Go.Proofs.Try.underlying3 q1
    simp at e1
    subst e1
    obtain ⟨w, tb, _, s2, s3⟩ := open_tablesA (by simpa using q2)
    exact ⟨.agg [u, .i .i64 N, w], ⟨xs, N, tb⟩, by simp [conc, concL, r2, s2], u, w, rfl, r3, s3⟩
end Go.Air
