/-
  RowsBest: for every relation of at most 10 guests and order, Best returns what the document's returns (D5).
  No condition: beyond the law's own bounds it says nothing and returns true.
-/
import Derived.Deep.SlicePairs
import Derived.Test.YtlldpmkdjpmlpaaBtG
set_option linter.unusedSectionVars false
set_option linter.unusedVariables false
set_option linter.unusedSimpArgs false
set_option maxRecDepth 100000
namespace Go.Air
open Go.ChangeShapes Go.WideShapes Go.ChangeAt Go.RowKit Go.Air.Try
theorem cutO_of : ∀ {cs : List (Option V)} {o n : Nat} {l : List V}, l.length = n → (∀ (i : Nat) (v : V), l[i]? = some v → cs[o + i]? = some (some v)) → o + n ≤ cs.length → cutO cs o n = some l
  | [], 0, 0, l, hl, _, _ => by
    obtain rfl := List.eq_nil_of_length_eq_zero hl
    rfl
  | _ :: _, 0, 0, l, hl, _, _ => by
    obtain rfl := List.eq_nil_of_length_eq_zero hl
    rfl
  | [], 0, n + 1, _, _, _, h => by simp at h
  | [], o + 1, n, _, _, _, h => by simp at h
  | x :: cs, 0, n + 1, l, hl, h, hle => by
    cases l with
    | nil => simp at hl
    | cons v l =>
      have h0 := h 0 v rfl
      simp only [Nat.add_zero, List.getElem?_cons_zero, Option.some.injEq] at h0
      subst h0
      have ih := cutO_of (cs := cs) (o := 0) (n := n) (l := l) (by simpa using hl) (fun i v hi => by
        have := h (i + 1) v (by simpa using hi)
        rw [show 0 + (i + 1) = (0 + i) + 1 by omega] at this
        simpa using this) (by simp at hle ⊢; omega)
      simp only [cutO, ih, Option.map_some]
  | x :: cs, o + 1, n, l, hl, h, hle => by
    simp only [cutO]
    refine cutO_of (o := o) hl (fun i v hi => ?_) (by simp at hle; omega)
    have := h i v hi
    rw [show o + 1 + i = (o + i) + 1 by omega] at this
    simpa using this
variable {W : World}
theorem cell_inv {a : Addr} {x : Value} (h : W.cell? a = some x) : a.spot = none ∧ ∃ arr e f, W.heap[a.block]? = some (.cells arr e f) ∧ arr.toList[a.off]? = some x := by
  unfold World.cell? at h
  split at h <;> try simp at h
  rename_i arr e f ho
  exact ⟨h.1, arr, e, f, ho, by simpa using h.2⟩
theorem arg_of {a : Addr} {len cap esz : Nat} {cs : List V} (hlen : cs.length = len * esz) (hc : 0 < cap) (hz : 0 < esz) (hle : len ≤ cap) {x0 : Value} (hx0 : W.cell? (a.add 0) = some x0)
    (hcell : ∀ i u, cs[i]? = some u → ∃ x, W.cell? (a.add i) = some x ∧ absV W.heap.size x = some u) :
    ∃ v, absV W.heap.size (.slice (some a) len cap) = some v ∧ conc (R0 W) v = some (.slice (some a) len cap) ∧ Arg esz (h0 W) v len cs := by
  obtain ⟨b, o, s⟩ := a
  obtain ⟨hs, arr, e, f, ho, _⟩ := cell_inv hx0
  obtain rfl : s = none := by simpa [Addr.add] using hs
  simp only [add_spot] at hcell ho
  have hb : b < W.heap.size := by
    rcases Nat.lt_or_ge b W.heap.size with h | h
    · exact h
    · rw [Array.getElem?_eq_none h] at ho; cases ho
  have hv : absV W.heap.size (.slice (some ⟨b, o, none⟩) len cap) = some (.sl b o len cap none) := by
    simp only [absV]
    rw [if_pos ⟨hb, hle, hc⟩]
  refine ⟨_, hv, absV_conc hv, .inr ⟨b, o, cap, _, rfl, hle, hb, by rw [h0_get, if_pos hb, ho]; rfl, ?_⟩⟩
  have hcell' : ∀ (i : Nat) (u : V), cs[i]? = some u → ∃ x, arr.toList[o + i]? = some x ∧ absV W.heap.size x = some u := by
    intro i u hi
    obtain ⟨x, h1, h2⟩ := hcell i u hi
    obtain ⟨_, arr', e', f', q1, q2⟩ := cell_inv h1
    simp only at q1 q2
    rw [ho] at q1
    cases q1
    exact ⟨x, q2, h2⟩
  simp only [Blk.rd]
  refine cutO_of hlen (fun i u hi => ?_) ?_
  · obtain ⟨x, h1, h2⟩ := hcell' i u hi
    rw [List.getElem?_map, h1, Option.map_some, h2]
  · by_cases h0 : len * esz = 0
    · have hx : o ≤ arr.toList.length := by
        obtain ⟨_, arr', e', f', q1, q2⟩ := cell_inv hx0
        simp only [add_spot] at q1 q2
        rw [ho] at q1
        cases q1
        have := (List.getElem?_eq_some_iff.1 q2).1
        simp only [Nat.add_zero] at this
        omega
      simp only [List.length_map]; omega
    · have hlt : len * esz - 1 < cs.length := by omega
      obtain ⟨x, h1, _⟩ := hcell' (len * esz - 1) cs[len * esz - 1] (List.getElem?_eq_getElem hlt)
      have := (List.getElem?_eq_some_iff.1 h1).1
      simp only [List.length_map]; omega
theorem open_intsA {H : Type} {enc : TypeId × Value → H} {t e : TypeId} {base : Nat} {v : Value} {d : DataW H} {p : List MemPlace} (ht : Go.Proofs.Try.prog.underlying t = some (.slice e)) (he : Go.Proofs.Try.prog.underlying e = some (.int .i64))
    (hc : Go.Proofs.Try.prog.cellsOf e = 1) (hval : Value.okWide Go.Proofs.Try.prog W .any base t v) (hd : DataW.Trod enc Go.Proofs.Try.prog W 0 (fun _ => true) true t v d p) :
    ∃ u n xs, absV W.heap.size v = some u ∧ conc (R0 W) u = some v ∧ Arg 1 (h0 W) u n (ints xs) ∧ n ≤ maxLen ∧ xs.length = n ∧ ∀ x ∈ xs, (Lit.int .i64 x).wf = true := by
  obtain ⟨a0, len, cap, rfl⟩ := okWide_slice ht hval
  obtain ⟨fuel, hf⟩ := hd
  rcases open_ints ht he hc hf with ⟨hcs, hx⟩ | ⟨a, l', c', zs, hcs, _, hl, hm, hz, hx, hcell, hw⟩
  · simp [Value.cells] at hcs
    obtain ⟨rfl, rfl, rfl⟩ := hcs
    exact ⟨.sn, 0, [], rfl, by simp [conc], .inl ⟨rfl, rfl, .inl rfl⟩, by simp, rfl, by simp⟩
  · simp [Value.cells] at hcs
    obtain ⟨rfl, rfl, rfl⟩ := hcs
    simp only [if_true] at hz
    by_cases h0 : cap = 0
    · subst h0
      obtain rfl : len = 0 := by omega
      obtain ⟨b, o, s⟩ := a
      refine ⟨.se ⟨b, o, s⟩, 0, [], ?_, by simp [conc], .inl ⟨rfl, rfl, .inr ⟨_, rfl⟩⟩, by simp, rfl, by simp⟩
      cases s <;> simp [absV]
    · obtain ⟨u, q1, q2, q3⟩ := arg_of (W := W) (a := a) (len := len) (cap := cap) (esz := 1) (cs := ints (zs.take len)) (by simp [ints]; omega) (by omega) (by omega) hl (hcell 0 (by omega)) (by
        intro i u hi
        rw [ints_get, Option.map_eq_some_iff] at hi
        obtain ⟨x, h1, rfl⟩ := hi
        have hlt := (List.getElem?_eq_some_iff.1 h1).1
        simp at hlt
        refine ⟨_, hcell i (by omega), ?_⟩
        have : zs.getD i 0 = x := by
          rw [List.getElem?_take_of_lt (by omega)] at h1
          rw [List.getD_eq_getElem?_getD, h1]; rfl
        rw [this]
        rfl)
      exact ⟨u, len, zs.take len, q1, q2, q3, by omega, by simp; omega, fun x hx => hw x (List.mem_of_mem_take hx)⟩
end Go.Air
set_option maxRecDepth 100000
namespace Go.Air
open Go.ChangeShapes Go.WideShapes Go.ChangeAt Go.RowKit Go.Air.Try Go.Deep
variable {W : World}
theorem trod_struct4 {H : Type} {enc : TypeId × Value → H} {P : Program} {w : World} {base : Nat} {spare : Nat → Bool} {held : Bool} {t : TypeId} {f0 f1 f2 f3 : Field} {fuel : Nat} {cs : List Value} {x : DataW H × List MemPlace} (ht : P.underlying t = some (.struct #[f0, f1, f2, f3])) (h : DataW.trod enc P w base spare held fuel t cs = some x) :
    ∃ y0 y1 y2 y3 n, cs.length = P.cellsOf t ∧ DataW.trod enc P w base spare held n f0.type ((cs.drop f0.offset).take (P.cellsOf f0.type)) = some y0 ∧
      DataW.trod enc P w base spare held n f1.type ((cs.drop f1.offset).take (P.cellsOf f1.type)) = some y1 ∧ DataW.trod enc P w base spare held n f2.type ((cs.drop f2.offset).take (P.cellsOf f2.type)) = some y2 ∧
      DataW.trod enc P w base spare held n f3.type ((cs.drop f3.offset).take (P.cellsOf f3.type)) = some y3 := by
  obtain ⟨xs, n, _, rfl, hl, hlen, hf⟩ := DataW.trod_struct ht h
  match xs, hlen with
  | [y0, y1, y2, y3], _ => exact ⟨y0, y1, y2, y3, n, hl, by simpa using hf 0 f0 rfl, by simpa using hf 1 f1 rfl, by simpa using hf 2 f2 rfl, by simpa using hf 3 f3 rfl⟩
theorem open_arrowsA {H : Type} {enc : TypeId × Value → H} {fuel : Nat} {cs : List Value} {x : DataW H × List MemPlace}
    (h : DataW.trod enc Go.Proofs.Try.prog W 0 (fun _ => true) true fuel 22 cs = some x) :
    ∃ v u rs, cs = [v] ∧ absV W.heap.size v = some u ∧ conc (R0 W) u = some v ∧ Arrs (h0 W) u rs := by
  have c23 : Go.Proofs.Try.prog.cellsOf 41 = 4 := by kernel_rfl
  have c3 : Go.Proofs.Try.prog.cellsOf 3 = 1 := by kernel_rfl
  rcases open_slice Go.Proofs.Try.underlying22 h with ⟨hcs, _⟩ | ⟨a, len, cap, m, n, D, Pl, hcs, _, hl, hm, hmm, _, hx⟩
  · subst hcs
    exact ⟨_, .sn, [], rfl, rfl, by simp [conc], .inl ⟨rfl, rfl, .inl rfl⟩⟩
  · subst hcs
    simp only [if_true] at hmm
    subst hmm
    by_cases h0' : m = 0
    · subst h0'
      obtain rfl : len = 0 := by omega
      obtain ⟨b, o, s⟩ := a
      refine ⟨_, .se ⟨b, o, s⟩, [], rfl, ?_, by simp [conc], .inl ⟨rfl, rfl, .inr ⟨_, rfl⟩⟩⟩
      cases s <;> simp [absV]
    · have hz : ∀ i, ∃ q : Arw, i < m → ∀ (j : Nat) (u : V), (arw q)[j]? = some u → ∃ x, W.cell? (a.add (i * 4 + j)) = some x ∧ absV W.heap.size x = some u := by
        intro i
        by_cases hi : ¬ i < m
        · exact ⟨⟨0, 0, 0, 0⟩, fun h => absurd h hi⟩
        replace hi := Classical.not_not.1 hi
        obtain ⟨cs', h1, h2⟩ := hx i hi
        rw [c23] at h1
        obtain ⟨_, hlen, hcell⟩ := World.cells?_some h1
        obtain ⟨y0, y1, y2, y3, k, _, g0, g1, g2, g3⟩ := trod_struct4 Go.Proofs.Try.underlying41 h2
        rw [c3] at g0 g1 g2 g3
        match cs', hlen with
        | [v0, v1, v2, v3], _ =>
          obtain ⟨z0, e0, _⟩ := DataW.trod_int Go.Proofs.Try.underlying3 g0
          obtain ⟨z1, e1, _⟩ := DataW.trod_int Go.Proofs.Try.underlying3 g1
          obtain ⟨z2, e2, _⟩ := DataW.trod_int Go.Proofs.Try.underlying3 g2
          obtain ⟨z3, e3, _⟩ := DataW.trod_int Go.Proofs.Try.underlying3 g3
          simp at e0 e1 e2 e3
          subst e0 e1 e2 e3
          refine ⟨⟨z0, z1, z2, z3⟩, fun _ j u hj => ?_⟩
          have hj4 : j < 4 := (List.getElem?_eq_some_iff.1 hj).1
          have hc := hcell j hj4
          rw [add_add] at hc
          match j, hj4, hj, hc with
          | 0, _, hj, hc => simp [arw] at hj; subst hj; exact ⟨_, hc, rfl⟩
          | 1, _, hj, hc => simp [arw] at hj; subst hj; exact ⟨_, hc, rfl⟩
          | 2, _, hj, hc => simp [arw] at hj; subst hj; exact ⟨_, hc, rfl⟩
          | 3, _, hj, hc => simp [arw] at hj; subst hj; exact ⟨_, hc, rfl⟩
      obtain ⟨f, hf⟩ := Classical.axiomOfChoice hz
      have hget : ∀ i, i < len → ((List.range len).map f)[i]? = some (f i) := by intro i hi; simp [hi]
      have hrl := recs_len arw_len ((List.range len).map f)
      obtain ⟨x0, hx0, _⟩ := hf 0 (by omega) 0 _ rfl
      obtain ⟨u, q1, q2, q3⟩ := arg_of (W := W) (a := a) (len := len) (cap := m) (esz := 4) (cs := recs arw ((List.range len).map f)) (by rw [hrl]; simp) (by omega) (by omega) hl (x0 := x0) (by simpa using hx0) (by
        intro i u hi
        have hlt : i < len * 4 := by
          have := (List.getElem?_eq_some_iff.1 hi).1
          rw [hrl] at this
          simpa using this
        have hjl : i / 4 < len := by omega
        have hi' : i = i / 4 * 4 + i % 4 := by omega
        rw [hi'] at hi ⊢
        rw [recs_get arw_len (hget _ hjl) (by omega)] at hi
        exact hf (i / 4) (by omega) (i % 4) u hi)
      refine ⟨_, u, (List.range len).map f, rfl, q1, q2, ?_⟩
      have := q3.sl
      unfold Arrs
      simpa using this
theorem open_relA {H : Type} {enc : TypeId × Value → H} {base : Nat} {v : Value} {d : DataW H} {p : List MemPlace} (hval : Value.okWide Go.Proofs.Try.prog W .any base 24 v)
    (hd : DataW.Trod enc Go.Proofs.Try.prog W 0 (fun _ => true) true 24 v d p) : ∃ (N : Int) (u : V) (rs : List Arw), conc (R0 W) (.agg [.i .i64 N, u]) = some v ∧ Arrs (h0 W) u rs := by
  have c3 : Go.Proofs.Try.prog.cellsOf 3 = 1 := by kernel_rfl
  have c22 : Go.Proofs.Try.prog.cellsOf 22 = 1 := by kernel_rfl
  have c24 : Go.Proofs.Try.prog.cellsOf 24 = 2 := by kernel_rfl
  obtain ⟨cs, rfl, hsz⟩ := okWide_struct Go.Proofs.Try.underlying24 hval
  obtain ⟨fuel, hf⟩ := hd
  obtain ⟨y0, y1, n, _, hl, q0, q1⟩ := trod_struct2 Go.Proofs.Try.underlying24 hf
  rw [c24] at hsz
  obtain ⟨l⟩ := cs
  simp only [Value.cells, List.size_toArray] at hsz q0 q1
  match l, hsz with
  | [x, y], _ =>
    rw [c3] at q0
    rw [c22] at q1
    obtain ⟨N, e1, _⟩ := DataW.trod_int Go.Proofs.Try.underlying3 q0
    obtain ⟨v, u, rs, e2, r1, r2, r3⟩ := open_arrowsA q1
    simp at e1 e2
    subst e1 e2
    exact ⟨N, u, rs, by simp [conc, concL, r2], r3⟩
end Go.Air
set_option maxRecDepth 100000
namespace Go.Proofs.Ytlldpmkdjpmlpaa
open Go.ChangeShapes Go.WideShapes Go.ChangeAt Go.RowKit Go.Air
theorem best_lifted (os : Os) (started : os.Started) (H : Type) (enc : TypeId × Value → H) :
    ReturnsInHanded {} Try.checked os 10 .any (Rows.rowsBestSpec.pre6 enc Try.prog Try.f10 Rows.rowsBestRow.domain false) (Rows.rowsBestSpec.post enc Try.prog Try.f10 false true false false) := by
  refine row_true (bt := 4) Try.func10 rfl ?_ (by kernel_rfl) (by kernel_rfl) (by kernel_rfl) (by kernel_rfl) os started H enc
    (ChangeSpec.witness6 (enc := enc) (C := Try.checked) false ⟨#[], #[.agg #[.int .i64 0, .slice none 0 0], .slice none 0 0], []⟩ 8 (by kernel_rfl) (by kernel_rfl) (by kernel_rfl) (by kernel_rfl)) ?_
  · intro H ds hl
    rw [Try.params10] at hl
    match ds, hl with
    | [d1, d2], _ => rfl
  · intro W args ds ps base hval hA _
    rw [Try.params10] at hA hval
    have hA' : DataW.TrodAll enc Try.prog W 0 (fun _ => true) true [24, 27] args ds ps := hA
    obtain ⟨v1, vs1, d1, ds1, a1, b1, rfl, rfl, rfl, q1, hA'⟩ := trodAll_cons hA'
    obtain ⟨v2, vs2, d2, ds2, a2, b2, rfl, rfl, rfl, q2, hA'⟩ := trodAll_cons hA'
    obtain ⟨rfl, rfl, rfl⟩ := trodAll_nil hA'
    obtain ⟨N, u, rs, hr, sr⟩ := open_relA (hval 0 24 v1 rfl rfl) q1
    obtain ⟨o, m, xs, _, ho, so, _⟩ := open_intsA Try.underlying27 Try.underlying3 (by kernel_rfl) (hval 1 27 v2 rfl rfl) q2
    exact ⟨[.agg [.i .i64 N, u], o], concL_cons.2 ⟨v1, _, hr, concL_cons.2 ⟨v2, [], ho, concL_nil _, rfl⟩, rfl⟩, law_best sr (Ints.of so.sl).1⟩
theorem best_holds : Rows.RowsBestSaid :=
  OpenClaim.holds_of_wide 10 Try.f10 rfl rfl rfl rfl rfl rfl rfl ⟨rfl, rfl, rfl, rfl, rfl⟩ rfl rfl rfl rfl rfl (by kernel_rfl) Try.func10 (by kernel_rfl)
    (of_decide_eq_true (by kernel_rfl)) (by unfold Func.isWrapper; first | (rw [if_pos (by decide +kernel)]; kernel_rfl) | (rw [if_neg (by decide +kernel)]; exact ⟨rfl, rfl⟩))
    (fun os started H enc _ => best_lifted os started H enc)
#print axioms best_holds
end Go.Proofs.Ytlldpmkdjpmlpaa
