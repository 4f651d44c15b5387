/-
  A law's arguments, opened: what the row's form says of them, in Air's words.
-/
import Derived.Test.YtlldpmkdjpmlpaaGlue
import Derived.Test.YtlldpmkdjpmlpaaBase
set_option linter.unusedSectionVars false
set_option linter.unusedVariables false
set_option linter.unusedSimpArgs false
set_option maxRecDepth 100000
namespace Go.Air
open Go.ChangeShapes Go.WideShapes Go.ChangeAt Go.RowKit Go.Air.Try

theorem cutO_of : ∀ {cs : List (Option V)} {o n : Nat} {l : List V}, l.length = n → (∀ (i : Nat) (v : V), l[i]? = some v → cs[o + i]? = some (some v)) → o + n ≤ cs.length → cutO cs o n = some l
  | [], 0, 0, l, hl, _, _ => by
    obtain rfl := List.eq_nil_of_length_eq_zero hl
    rfl
  | _ :: _, 0, 0, l, hl, _, _ => by
    obtain rfl := List.eq_nil_of_length_eq_zero hl
    rfl
  | [], 0, n + 1, _, _, _, h => by simp at h
  | [], o + 1, n, _, _, _, h => by simp at h
  | x :: cs, 0, n + 1, l, hl, h, hle => by
    cases l with
    | nil => simp at hl
    | cons v l =>
      have h0 := h 0 v rfl
      simp only [Nat.add_zero, List.getElem?_cons_zero, Option.some.injEq] at h0
      subst h0
      have ih := cutO_of (cs := cs) (o := 0) (n := n) (l := l) (by simpa using hl) (fun i v hi => by
        have := h (i + 1) v (by simpa using hi)
        rw [show 0 + (i + 1) = (0 + i) + 1 by omega] at this
        simpa using this) (by simp at hle ⊢; omega)
      simp only [cutO, ih, Option.map_some]
  | x :: cs, o + 1, n, l, hl, h, hle => by
    simp only [cutO]
    refine cutO_of (o := o) hl (fun i v hi => ?_) (by simp at hle; omega)
    have := h i v hi
    rw [show o + 1 + i = (o + i) + 1 by omega] at this
    simpa using this

variable {W : World}
theorem cell_inv {a : Addr} {x : Value} (h : W.cell? a = some x) : a.spot = none ∧ ∃ arr e f, W.heap[a.block]? = some (.cells arr e f) ∧ arr.toList[a.off]? = some x := by
  unfold World.cell? at h
  split at h <;> try simp at h
  rename_i arr e f ho
  exact ⟨h.1, arr, e, f, ho, by simpa using h.2⟩

/-- a slice of the world's, with room. -/
theorem arg_of {a : Addr} {len cap esz : Nat} {cs : List V} (hlen : cs.length = len * esz) (hc : 0 < cap) (hz : 0 < esz) (hle : len ≤ cap) {x0 : Value} (hx0 : W.cell? (a.add 0) = some x0)
    (hcell : ∀ i u, cs[i]? = some u → ∃ x, W.cell? (a.add i) = some x ∧ absV W.heap.size x = some u) :
    ∃ v, absV W.heap.size (.slice (some a) len cap) = some v ∧ conc (R0 W) v = some (.slice (some a) len cap) ∧ Arg esz (h0 W) v len cs := by
  obtain ⟨b, o, s⟩ := a
  obtain ⟨hs, arr, e, f, ho, _⟩ := cell_inv hx0
  obtain rfl : s = none := by simpa [Addr.add] using hs
  simp only [add_spot] at hcell ho
  have hb : b < W.heap.size := by
    rcases Nat.lt_or_ge b W.heap.size with h | h
    · exact h
    · rw [Array.getElem?_eq_none h] at ho; cases ho
  have hv : absV W.heap.size (.slice (some ⟨b, o, none⟩) len cap) = some (.sl b o len cap none) := by
    simp only [absV]
    rw [if_pos ⟨hb, hle, hc⟩]
  refine ⟨_, hv, absV_conc hv, .inr ⟨b, o, cap, _, rfl, hle, hb, by rw [h0_get, if_pos hb, ho]; rfl, ?_⟩⟩
  have hcell' : ∀ (i : Nat) (u : V), cs[i]? = some u → ∃ x, arr.toList[o + i]? = some x ∧ absV W.heap.size x = some u := by
    intro i u hi
    obtain ⟨x, h1, h2⟩ := hcell i u hi
    obtain ⟨_, arr', e', f', q1, q2⟩ := cell_inv h1
    simp only at q1 q2
    rw [ho] at q1
    cases q1
    exact ⟨x, q2, h2⟩
  simp only [Blk.rd]
  refine cutO_of hlen (fun i u hi => ?_) ?_
  · obtain ⟨x, h1, h2⟩ := hcell' i u hi
    rw [List.getElem?_map, h1, Option.map_some, h2]
  · by_cases h0 : len * esz = 0
    · have hx : o ≤ arr.toList.length := by
        obtain ⟨_, arr', e', f', q1, q2⟩ := cell_inv hx0
        simp only [add_spot] at q1 q2
        rw [ho] at q1
        cases q1
        have := (List.getElem?_eq_some_iff.1 q2).1
        simp only [Nat.add_zero] at this
        omega
      simp only [List.length_map]; omega
    · have hlt : len * esz - 1 < cs.length := by omega
      obtain ⟨x, h1, _⟩ := hcell' (len * esz - 1) cs[len * esz - 1] (List.getElem?_eq_getElem hlt)
      have := (List.getElem?_eq_some_iff.1 h1).1
      simp only [List.length_map]; omega

/-- an argument that is a list of ints. -/
theorem open_intsA {H : Type} {enc : TypeId × Value → H} {t e : TypeId} {base : Nat} {v : Value} {d : DataW H} {p : List MemPlace} (ht : Go.Proofs.Try.prog.underlying t = some (.slice e)) (he : Go.Proofs.Try.prog.underlying e = some (.int .i64))
    (hc : Go.Proofs.Try.prog.cellsOf e = 1) (hval : Value.okWide Go.Proofs.Try.prog W .any base t v) (hd : DataW.Trod enc Go.Proofs.Try.prog W 0 (fun _ => true) true t v d p) :
    ∃ u n xs, absV W.heap.size v = some u ∧ conc (R0 W) u = some v ∧ Arg 1 (h0 W) u n (ints xs) ∧ n ≤ maxLen ∧ xs.length = n ∧ ∀ x ∈ xs, (Lit.int .i64 x).wf = true := by
  obtain ⟨a0, len, cap, rfl⟩ := okWide_slice ht hval
  obtain ⟨fuel, hf⟩ := hd
  rcases open_ints ht he hc hf with ⟨hcs, hx⟩ | ⟨a, l', c', zs, hcs, _, hl, hm, hz, hx, hcell, hw⟩
  · simp [Value.cells] at hcs
    obtain ⟨rfl, rfl, rfl⟩ := hcs
    exact ⟨.sn, 0, [], rfl, by simp [conc], .inl ⟨rfl, rfl, .inl rfl⟩, by simp, rfl, by simp⟩
  · simp [Value.cells] at hcs
    obtain ⟨rfl, rfl, rfl⟩ := hcs
    simp only [if_true] at hz
    by_cases h0 : cap = 0
    · subst h0
      obtain rfl : len = 0 := by omega
      obtain ⟨b, o, s⟩ := a
      refine ⟨.se ⟨b, o, s⟩, 0, [], ?_, by simp [conc], .inl ⟨rfl, rfl, .inr ⟨_, rfl⟩⟩, by simp, rfl, by simp⟩
      cases s <;> simp [absV]
    · obtain ⟨u, q1, q2, q3⟩ := arg_of (W := W) (a := a) (len := len) (cap := cap) (esz := 1) (cs := ints (zs.take len)) (by simp [ints]; omega) (by omega) (by omega) hl (hcell 0 (by omega)) (by
        intro i u hi
        rw [ints_get, Option.map_eq_some_iff] at hi
        obtain ⟨x, h1, rfl⟩ := hi
        have hlt := (List.getElem?_eq_some_iff.1 h1).1
        simp at hlt
        refine ⟨_, hcell i (by omega), ?_⟩
        have : zs.getD i 0 = x := by
          rw [List.getElem?_take_of_lt (by omega)] at h1
          rw [List.getD_eq_getElem?_getD, h1]; rfl
        rw [this]
        rfl)
      exact ⟨u, len, zs.take len, q1, q2, q3, by omega, by simp; omega, fun x hx => hw x (List.mem_of_mem_take hx)⟩
end Go.Air
