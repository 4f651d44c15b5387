/-
  Lists of places (rows and columns) in Air; SameSpots; the plain mirror.
-/
import Derived.Test.YtlldpmkdjpmlpaaBase
set_option linter.unusedSectionVars false
set_option linter.unusedVariables false
set_option linter.unusedSimpArgs false
set_option maxRecDepth 100000
namespace Go.Air
open Go.Air.Try

abbrev Pt := Int × Int
def spots (ps : List Pt) : List V := ps.flatMap fun p => [.i .i64 p.1, .i .i64 p.2]
theorem spots_cons (p : Pt) (ps : List Pt) : spots (p :: ps) = .i .i64 p.1 :: .i .i64 p.2 :: spots ps := rfl
theorem spots_length : ∀ ps : List Pt, (spots ps).length = ps.length * 2
  | [] => rfl
  | p :: ps => by rw [spots_cons]; simp [spots_length ps]; omega
theorem spots_append (a b : List Pt) : spots (a ++ b) = spots a ++ spots b := by simp [spots]
theorem spots_one (p : Pt) : spots [p] = [.i .i64 p.1, .i .i64 p.2] := rfl
theorem spots_ones {ps : List Pt} : ∀ u ∈ spots ps, u.oneCell = true := by
  intro u hu
  obtain ⟨p, _, hp⟩ := List.mem_flatMap.1 hu
  simp at hp
  rcases hp with rfl | rfl <;> rfl
theorem spots_get0 : ∀ (ps : List Pt) (i : Nat), (spots ps)[i * 2 + 0]? = ps[i]?.map fun p => .i .i64 p.1
  | [], i => by simp [spots]
  | p :: ps, 0 => by simp [spots_cons]
  | p :: ps, i + 1 => by
    rw [spots_cons, show (i + 1) * 2 + 0 = (i * 2 + 0) + 1 + 1 by omega]
    simpa using spots_get0 ps i
theorem spots_get1 : ∀ (ps : List Pt) (i : Nat), (spots ps)[i * 2 + 1]? = ps[i]?.map fun p => .i .i64 p.2
  | [], i => by simp [spots]
  | p :: ps, 0 => by simp [spots_cons]
  | p :: ps, i + 1 => by
    rw [spots_cons, show (i + 1) * 2 + 1 = (i * 2 + 1) + 1 + 1 by omega]
    simpa using spots_get1 ps i
theorem spots_at : ∀ (ps : List Pt) (i : Nat) (p : Pt), ps[i]? = some p → ((spots ps).drop (i * 2)).take 2 = [.i .i64 p.1, .i .i64 p.2]
  | [], i, p, h => by simp at h
  | q :: ps, 0, p, h => by simp at h; subst h; simp [spots_cons]
  | q :: ps, i + 1, p, h => by
    rw [spots_cons, show (i + 1) * 2 = i * 2 + 1 + 1 by omega]
    simpa using spots_at ps i p (by simpa using h)

@[go_sem] theorem eqV_pt {a b c d : Int} : eqV (.agg [.i .i64, .i .i64]) (.agg [.i .i64 a, .i .i64 b]) (.agg [.i .i64 c, .i .i64 d]) = some (decide (a = c ∧ b = d)) := by
  simp [eqV, fitL, KT.fits, cellsEq, scalarEq]
@[go_sem] theorem minL_2 {a b : Int} : minL false [.i .i64 a, .i .i64 b] = some (.i .i64 (if b < a then b else a)) := rfl
@[go_sem] theorem maxL_2 {a b : Int} : minL true [.i .i64 a, .i .i64 b] = some (.i .i64 (if a < b then b else a)) := rfl

theorem t46 : tblA 46 = some a46 := by kernel_rfl
theorem fn_SameSpots {h : H} {v1 v2 : V} {n1 n2 : Nat} {ps qs : List Pt} (h1 : Sl 2 h v1 n1 (spots ps)) (h2 : Sl 2 h v2 n2 (spots qs)) (hn : n1 ≤ 1000000) :
    WC tblA (.fn 46 [] []) [v1, v2] h fun u h' => u = .b (decide (ps = qs)) ∧ h' = h := by
  have hp : ps.length = n1 := by have := h1.length; rw [spots_length] at this; omega
  have hq : qs.length = n2 := by have := h2.length; rw [spots_length] at this; omega
  refine (WC_in t46).2 ?_
  by_cases hne : (n1 : Int) = (n2 : Int)
  · simp only [go_sem, ↓reduceIte, r46_0, r46_1, r46_3, h1.len, h2.len, hne]
    refine W_while (fun k t h' => ∃ i, k = n1 - i ∧ i ≤ n1 ∧ t.length = 26 ∧ nth t 0 = v1 ∧ nth t 1 = v2 ∧ nth t 5 = .i .i64 (i : Int) ∧ ps.take i = qs.take i ∧ h = h') ?_ n1 ?_
    · rintro k t h' ⟨i, rfl, hi, tl, t0, t1, t5, he, rfl⟩
      unfold b46_0
      by_cases hlt : i < n1
      · have hlt' : (i : Int) < (n1 : Int) := by omega
        obtain ⟨p, hpi⟩ : ∃ p, ps[i]? = some p := ⟨_, List.getElem?_eq_getElem (by omega)⟩
        obtain ⟨q, hqi⟩ : ∃ q, qs[i]? = some q := ⟨_, List.getElem?_eq_getElem (by omega)⟩
        have l1 := h1.ldn hlt
        rw [spots_at ps i p hpi] at l1
        have hlt2 : i < n2 := by omega
        have l2 := h2.ldn hlt2
        rw [spots_at qs i q hqi] at l2
        by_cases hpq : p.1 = q.1 ∧ p.2 = q.2
        · simp only [go_sem, ↓reduceIte, r46_4, r46_5, r46_6, tl, t0, t1, t5, h1.len, hlt', h1.ix hlt, h2.ix hlt2, l1, l2, hpq, wrap_succ (show i < 1000000000 by omega)]
          refine ⟨n1 - (i + 1), by omega, i + 1, rfl, hlt, rfl, ?_⟩
          rw [take_succ' hpi, take_succ' hqi, he, Prod.ext hpq.1 hpq.2]
        · simp only [go_sem, ↓reduceIte, r46_4, r46_5, r46_6, r46_7, tl, t0, t1, t5, h1.len, hlt', h1.ix hlt, h2.ix hlt2, l1, l2, hpq]
          have : ps ≠ qs := by
            rintro rfl
            rw [hpi] at hqi
            cases hqi
            exact hpq ⟨rfl, rfl⟩
          simp [this]
      · have hlt' : ¬ (i : Int) < (n1 : Int) := by omega
        simp only [go_sem, ↓reduceIte, r46_4, r46_8, tl, t0, t5, h1.len, hlt']
        rw [List.take_of_length_le (by omega), List.take_of_length_le (by omega)] at he
        simp [he]
    · refine ⟨0, by omega, by omega, ?_⟩
      simp only [go_sem, ↓reduceIte]
      simp
  · simp only [go_sem, ↓reduceIte, r46_0, r46_1, r46_2, h1.len, h2.len, hne]
    have : ps ≠ qs := by rintro rfl; omega
    simp [this]

/-! ### The plain mirror -/
def IsLow (r : Int) (ps : List Pt) (m : Int) : Prop := (∃ p ∈ ps, p.1 = r ∧ p.2 = m) ∧ ∀ p ∈ ps, p.1 = r → m ≤ p.2
def IsHigh (r : Int) (ps : List Pt) (m : Int) : Prop := (∃ p ∈ ps, p.1 = r ∧ p.2 = m) ∧ ∀ p ∈ ps, p.1 = r → p.2 ≤ m
theorem IsLow.uniq {r : Int} {ps : List Pt} {a b : Int} (ha : IsLow r ps a) (hb : IsLow r ps b) : a = b := by
  obtain ⟨⟨p, h1, h2, h3⟩, h4⟩ := ha
  obtain ⟨⟨q, g1, g2, g3⟩, g4⟩ := hb
  have := h4 q g1 g2
  have := g4 p h1 h2
  omega
theorem IsHigh.uniq {r : Int} {ps : List Pt} {a b : Int} (ha : IsHigh r ps a) (hb : IsHigh r ps b) : a = b := by
  obtain ⟨⟨p, h1, h2, h3⟩, h4⟩ := ha
  obtain ⟨⟨q, g1, g2, g3⟩, g4⟩ := hb
  have := h4 q g1 g2
  have := g4 p h1 h2
  omega
def lowF (r : Int) : List Pt → Option Int
  | [] => none
  | p :: ps => if p.1 = r then (match lowF r ps with | none => some p.2 | some m => some (if m < p.2 then m else p.2)) else lowF r ps
def highF (r : Int) : List Pt → Option Int
  | [] => none
  | p :: ps => if p.1 = r then (match highF r ps with | none => some p.2 | some m => some (if m < p.2 then p.2 else m)) else highF r ps
theorem lowF_none {r : Int} : ∀ {ps : List Pt}, lowF r ps = none → ∀ p ∈ ps, p.1 ≠ r
  | [], _, p, hp => by simp at hp
  | q :: ps, h, p, hp => by
    simp only [lowF] at h
    split at h
    · split at h <;> cases h
    · rename_i hq
      rcases List.mem_cons.1 hp with rfl | hp
      · exact hq
      · exact lowF_none h p hp
theorem highF_none {r : Int} : ∀ {ps : List Pt}, highF r ps = none → ∀ p ∈ ps, p.1 ≠ r
  | [], _, p, hp => by simp at hp
  | q :: ps, h, p, hp => by
    simp only [highF] at h
    split at h
    · split at h <;> cases h
    · rename_i hq
      rcases List.mem_cons.1 hp with rfl | hp
      · exact hq
      · exact highF_none h p hp
theorem lowF_some {r : Int} : ∀ {ps : List Pt} {m : Int}, lowF r ps = some m → IsLow r ps m
  | [], _, h => by cases h
  | q :: ps, m, h => by
    simp only [lowF] at h
    split at h
    · rename_i hq
      split at h
      · rename_i hn
        cases h
        exact ⟨⟨q, by simp, hq, rfl⟩, fun p hp hr => by
          rcases List.mem_cons.1 hp with rfl | hp
          · exact Int.le_refl _
          · exact absurd hr (lowF_none hn p hp)⟩
      · rename_i k hk
        cases h
        obtain ⟨⟨p, h1, h2, h3⟩, h4⟩ := lowF_some hk
        split
        · refine ⟨⟨p, by simp [h1], h2, h3⟩, fun x hx hr => ?_⟩
          rcases List.mem_cons.1 hx with rfl | hx
          · omega
          · exact h4 x hx hr
        · refine ⟨⟨q, by simp, hq, rfl⟩, fun x hx hr => ?_⟩
          rcases List.mem_cons.1 hx with rfl | hx
          · omega
          · have := h4 x hx hr
            omega
    · rename_i hq
      obtain ⟨⟨p, h1, h2, h3⟩, h4⟩ := lowF_some h
      refine ⟨⟨p, by simp [h1], h2, h3⟩, fun x hx hr => ?_⟩
      rcases List.mem_cons.1 hx with rfl | hx
      · exact absurd hr hq
      · exact h4 x hx hr
theorem highF_some {r : Int} : ∀ {ps : List Pt} {m : Int}, highF r ps = some m → IsHigh r ps m
  | [], _, h => by cases h
  | q :: ps, m, h => by
    simp only [highF] at h
    split at h
    · rename_i hq
      split at h
      · rename_i hn
        cases h
        exact ⟨⟨q, by simp, hq, rfl⟩, fun p hp hr => by
          rcases List.mem_cons.1 hp with rfl | hp
          · exact Int.le_refl _
          · exact absurd hr (highF_none hn p hp)⟩
      · rename_i k hk
        cases h
        obtain ⟨⟨p, h1, h2, h3⟩, h4⟩ := highF_some hk
        split
        · refine ⟨⟨q, by simp, hq, rfl⟩, fun x hx hr => ?_⟩
          rcases List.mem_cons.1 hx with rfl | hx
          · omega
          · have := h4 x hx hr
            omega
        · refine ⟨⟨p, by simp [h1], h2, h3⟩, fun x hx hr => ?_⟩
          rcases List.mem_cons.1 hx with rfl | hx
          · omega
          · exact h4 x hx hr
    · rename_i hq
      obtain ⟨⟨p, h1, h2, h3⟩, h4⟩ := highF_some h
      refine ⟨⟨p, by simp [h1], h2, h3⟩, fun x hx hr => ?_⟩
      rcases List.mem_cons.1 hx with rfl | hx
      · exact absurd hr hq
      · exact h4 x hx hr
def low (r : Int) (ps : List Pt) : Int := (lowF r ps).getD 0
def high (r : Int) (ps : List Pt) : Int := (highF r ps).getD 0
theorem low_is {ps : List Pt} {p : Pt} (hp : p ∈ ps) : IsLow p.1 ps (low p.1 ps) := by
  unfold low
  cases h : lowF p.1 ps with
  | none => exact absurd rfl (lowF_none h p hp)
  | some m => exact lowF_some h
theorem high_is {ps : List Pt} {p : Pt} (hp : p ∈ ps) : IsHigh p.1 ps (high p.1 ps) := by
  unfold high
  cases h : highF p.1 ps with
  | none => exact absurd rfl (highF_none h p hp)
  | some m => exact highF_some h
def mir1 (ps : List Pt) (p : Pt) : Pt := (p.1, low p.1 ps + high p.1 ps - p.2)
def mir (ps : List Pt) : List Pt := ps.map (mir1 ps)
theorem mir_length (ps : List Pt) : (mir ps).length = ps.length := by simp [mir]
theorem mir_low {ps : List Pt} {p : Pt} (hp : p ∈ ps) : IsLow p.1 (mir ps) (low p.1 ps) := by
  obtain ⟨⟨q, h1, h2, h3⟩, h4⟩ := high_is hp
  have hl := low_is hp
  refine ⟨⟨mir1 ps q, List.mem_map.2 ⟨q, h1, rfl⟩, h2, ?_⟩, fun x hx hr => ?_⟩
  · simp only [mir1]; rw [h2]; omega
  · obtain ⟨y, hy, rfl⟩ := List.mem_map.1 hx
    simp only [mir1] at hr ⊢
    have := h4 y hy hr
    rw [hr]; omega
theorem mir_high {ps : List Pt} {p : Pt} (hp : p ∈ ps) : IsHigh p.1 (mir ps) (high p.1 ps) := by
  obtain ⟨⟨q, h1, h2, h3⟩, h4⟩ := low_is hp
  refine ⟨⟨mir1 ps q, List.mem_map.2 ⟨q, h1, rfl⟩, h2, ?_⟩, fun x hx hr => ?_⟩
  · simp only [mir1]; rw [h2]; omega
  · obtain ⟨y, hy, rfl⟩ := List.mem_map.1 hx
    simp only [mir1] at hr ⊢
    have := h4 y hy hr
    rw [hr]; omega
theorem mir_mir (ps : List Pt) : mir (mir ps) = ps := by
  have : ∀ p ∈ ps, mir1 (mir ps) (mir1 ps p) = p := by
    intro p hp
    have hm : mir1 ps p ∈ mir ps := List.mem_map.2 ⟨p, hp, rfl⟩
    have e1 : low p.1 (mir ps) = low p.1 ps := IsLow.uniq (r := p.1) (low_is (p := mir1 ps p) hm) (mir_low hp)
    have e2 : high p.1 (mir ps) = high p.1 ps := IsHigh.uniq (r := p.1) (high_is (p := mir1 ps p) hm) (mir_high hp)
    obtain ⟨a, b⟩ := p
    simp only [mir1] at e1 e2 ⊢
    rw [e1, e2]
    simp only [Prod.mk.injEq, true_and]
    omega
  unfold mir at this ⊢
  rw [List.map_map]
  exact (List.map_congr_left this).trans (by simp)
end Go.Air
