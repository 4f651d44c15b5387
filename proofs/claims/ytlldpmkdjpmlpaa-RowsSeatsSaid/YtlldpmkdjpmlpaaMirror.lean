/-
  Mirror, the program's and the document's, in Air.
-/
import Derived.Test.YtlldpmkdjpmlpaaSpots
set_option linter.unusedSectionVars false
set_option linter.unusedVariables false
set_option linter.unusedSimpArgs false
set_option maxRecDepth 100000
namespace Go.Air
open Go.Air.Try

def R64 (c : Int) : Prop := -9223372036854775808 ≤ c ∧ c ≤ 9223372036854775807
theorem wrap_mir {a b c : Int} (h : R64 (a + b - c)) : IntKind.i64.wrap (IntKind.i64.wrap (a + b) - c) = a + b - c := by
  obtain ⟨h1, h2⟩ := h
  rw [IntKind.wrap_i64, IntKind.wrap_i64]; omega
theorem low_range {ps : List Pt} {p : Pt} (hp : p ∈ ps) (hr : ∀ q ∈ ps, R64 q.2) : R64 (low p.1 ps + high p.1 ps - p.2) := by
  obtain ⟨⟨q, h1, h2, h3⟩, h4⟩ := low_is hp
  obtain ⟨⟨q', g1, g2, g3⟩, g4⟩ := high_is hp
  have := h4 p hp rfl
  have := g4 p hp rfl
  have := (hr q h1).1
  have := (hr q' g1).2
  constructor <;> omega
theorem mir_range {ps : List Pt} (hr : ∀ q ∈ ps, R64 q.2) : ∀ q ∈ mir ps, R64 q.2 := by
  intro q hq
  obtain ⟨p, hp, rfl⟩ := List.mem_map.1 hq
  exact low_range hp hr
theorem mir_get {ps : List Pt} {i : Nat} {p : Pt} (hp : ps[i]? = some p) : (mir ps)[i]? = some (mir1 ps p) := by simp [mir, hp]

theorem t48 : tblA 48 = some a48 := by kernel_rfl
theorem fn_refMirror {h : H} {v : V} {n : Nat} {ps : List Pt} (hv : Sl 2 h v n (spots ps)) (hn : n ≤ 1000) (hr : ∀ q ∈ ps, R64 q.2) :
    WC tblA (.fn 48 [] []) [v] h fun u h' => Ext h h' ∧ Own h 2 h' u n (spots (mir ps)) := by
  have hpn : ps.length = n := by have := hv.length; rw [spots_length] at this; omega
  refine (WC_in t48).2 ?_
  simp only [go_sem, ↓reduceIte, r48_0, r48_1, r48_2]
  refine W_while (fun k t h1 => ∃ (i : Nat) (w : V), k = n - i ∧ i ≤ n ∧ t.length = 74 ∧ nth t 0 = v ∧ nth t 3 = w ∧ nth t 4 = .i .i64 (i : Int) ∧ Ext h h1 ∧ Own h 2 h1 w i (spots ((mir ps).take i))) ?_ n ?_
  · rintro k t h1 ⟨i, w, rfl, hi, tl, t0, t3, t4, e1, o1⟩
    unfold b48_1
    by_cases hlt : i < n
    · have hlt' : (i : Int) < (n : Int) := by omega
      obtain ⟨p, hpi⟩ : ∃ p, ps[i]? = some p := ⟨_, List.getElem?_eq_getElem (by omega)⟩
      have hpm : p ∈ ps := List.mem_of_getElem? hpi
      have s1 := hv.ext e1
      have c0 := s1.ld (k := 0) hlt (by omega)
      rw [spots_get0, hpi] at c0
      have c1 := s1.ld (k := 1) hlt (by omega)
      rw [spots_get1, hpi] at c1
      simp only [go_sem, ↓reduceIte, r48_3, r48_5, r48_6, r48_7, tl, t0, t3, t4, hlt', s1.len, s1.ix hlt, c1]
      refine W_while (fun k t h2 => ∃ (j : Nat) (lo hi : Int), k = n - j ∧ j ≤ n ∧ t.length = 74 ∧ nth t 0 = v ∧ nth t 3 = w ∧ nth t 4 = .i .i64 (i : Int) ∧ nth t 5 = .i .i64 lo ∧ nth t 6 = .i .i64 hi ∧ nth t 7 = .i .i64 (j : Int) ∧ h1 = h2 ∧
        ((∃ q ∈ ps, q.1 = p.1 ∧ q.2 = lo) ∧ ∀ q ∈ ps.take j, q.1 = p.1 → lo ≤ q.2) ∧ ((∃ q ∈ ps, q.1 = p.1 ∧ q.2 = hi) ∧ ∀ q ∈ ps.take j, q.1 = p.1 → q.2 ≤ hi)) ?_ n ?_
      · rintro k t h2 ⟨j, lo, hi', rfl, hj, tl, t0, t3, t4, t5, t6, t7, rfl, ⟨hl1, hl2⟩, ⟨hh1, hh2⟩⟩
        unfold b48_0
        by_cases hlt2 : j < n
        · have hlt2' : (j : Int) < (n : Int) := by omega
          obtain ⟨q, hqj⟩ : ∃ q, ps[j]? = some q := ⟨_, List.getElem?_eq_getElem (by omega)⟩
          have hqm : q ∈ ps := List.mem_of_getElem? hqj
          have d0 := s1.ld (k := 0) hlt2 (by omega)
          rw [spots_get0, hqj] at d0
          have d1 := s1.ld (k := 1) hlt2 (by omega)
          rw [spots_get1, hqj] at d1
          by_cases hrow : q.1 = p.1
          · have hrow' : (q.1 = p.1) = True := eq_true hrow
            simp only [go_sem, ↓reduceIte, r48_8, r48_9, r48_10, r48_11, r48_12, tl, t0, t3, t4, t5, t6, t7, hlt2', s1.len, s1.ix hlt, s1.ix hlt2, c0, d0, d1, hrow', wrap_succ (show j < 1000000000 by omega)]
            refine ⟨n - (j + 1), by omega, j + 1, _, _, rfl, hlt2, rfl, rfl, rfl, ⟨?_, ?_⟩, ?_, ?_⟩
            · split
              · exact ⟨q, hqm, hrow, rfl⟩
              · exact hl1
            · intro x hx hxr
              rw [take_succ' hqj] at hx
              rcases List.mem_append.1 hx with hx | hx
              · have := hl2 x hx hxr
                split <;> omega
              · simp at hx; subst hx
                split <;> omega
            · split
              · exact ⟨q, hqm, hrow, rfl⟩
              · exact hh1
            · intro x hx hxr
              rw [take_succ' hqj] at hx
              rcases List.mem_append.1 hx with hx | hx
              · have := hh2 x hx hxr
                split <;> omega
              · simp at hx; subst hx
                split <;> omega
          · simp only [go_sem, ↓reduceIte, r48_8, r48_9, r48_10, r48_11, r48_12, tl, t0, t3, t4, t5, t6, t7, hlt2', s1.len, s1.ix hlt, s1.ix hlt2, c0, d0, d1, hrow, wrap_succ (show j < 1000000000 by omega)]
            refine ⟨n - (j + 1), by omega, j + 1, lo, hi', rfl, hlt2, rfl, rfl, rfl, ⟨hl1, ?_⟩, hh1, ?_⟩
            · intro x hx hxr
              rw [take_succ' hqj] at hx
              rcases List.mem_append.1 hx with hx | hx
              · exact hl2 x hx hxr
              · simp at hx; subst hx
                exact absurd hxr hrow
            · intro x hx hxr
              rw [take_succ' hqj] at hx
              rcases List.mem_append.1 hx with hx | hx
              · exact hh2 x hx hxr
              · simp at hx; subst hx
                exact absurd hxr hrow
        · have hlt2' : ¬ (j : Int) < (n : Int) := by omega
          rw [List.take_of_length_le (by omega)] at hl2 hh2
          have el : lo = low p.1 ps := IsLow.uniq ⟨hl1, hl2⟩ (low_is hpm)
          have eh : hi' = high p.1 ps := IsHigh.uniq ⟨hh1, hh2⟩ (high_is hpm)
          subst el eh
          have hw := wrap_mir (a := high p.1 ps) (b := low p.1 ps) (c := p.2) (by rw [Int.add_comm (high p.1 ps)]; exact low_range hpm hr)
          rw [Int.add_comm (high p.1 ps) (low p.1 ps)] at hw
          obtain ⟨o2, x2⟩ := Own.lit (esz := 2) (Ext.refl h1) [.i .i64 p.1, .i .i64 (low p.1 ps + high p.1 ps - p.2)] 1 rfl
          have e2 : Ext h1 (h1.new (.cells [.i .i64 p.1, .i .i64 (low p.1 ps + high p.1 ps - p.2)])) := x2
          obtain ⟨w', hb, g, q1, q2, q3, q4, q5, q6, q7⟩ := Own.appB (bytes := 16) (o1.ext e2) (e1.trans e2) o2.sl (by intro u hu; simp at hu; rcases hu with rfl | rfl <;> rfl) (by omega) (by omega) (by omega)
          simp only [go_sem, ↓reduceIte, r48_8, r48_13, r48_4, tl, t0, t3, t4, t5, t6, t7, hlt2', s1.len, s1.ix hlt, c0, c1, Int.add_comm (high p.1 ps) (low p.1 ps), hw, q1, q2, wrap_succ (show i < 1000000000 by omega)]
          refine ⟨n - (i + 1), by omega, i + 1, w', rfl, hlt, rfl, rfl, q3, ?_⟩
          rw [take_succ' (mir_get hpi), spots_append]
          exact q4
      · refine ⟨0, p.2, p.2, by omega, by omega, ?_⟩
        simp only [go_sem, ↓reduceIte, tl, t0, t3, t4]
        exact ⟨⟨⟨p, hpm, rfl, rfl⟩, fun x hx => by simp at hx⟩, ⟨p, hpm, rfl, rfl⟩, fun x hx => by simp at hx⟩
    · have hlt' : ¬ (i : Int) < (n : Int) := by omega
      have s1 := hv.ext e1
      simp only [go_sem, ↓reduceIte, r48_3, r48_14, tl, t0, t3, t4, hlt', s1.len]
      obtain rfl : i = n := by omega
      rw [List.take_of_length_le (by rw [mir_length]; omega)] at o1
      exact ⟨e1, o1⟩
  · refine ⟨0, .sn, by omega, by omega, ?_⟩
    simp only [go_sem, ↓reduceIte]
    exact ⟨.refl h, .nil⟩
end Go.Air
