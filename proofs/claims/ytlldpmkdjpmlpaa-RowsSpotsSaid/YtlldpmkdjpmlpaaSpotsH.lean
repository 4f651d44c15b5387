/-
  Spots of the document, in Air: all kinds.
-/
import Derived.Test.YtlldpmkdjpmlpaaSpotsR
set_option linter.unusedSectionVars false
set_option linter.unusedVariables false
set_option linter.unusedSimpArgs false
set_option maxRecDepth 100000
namespace Go.Air
open Go.Air.Try

def St43 (t : List V) (kd : Int) (m : Nat) (k : Int) : Prop := t.length = 153 ∧ nth t 0 = .i .u8 kd ∧ nth t 1 = .i .i64 (m : Int) ∧ nth t 2 = .i .i64 k
theorem ops43_5 {t : List V} {h : H} {kd k : Int} {m : Nat} {Q : Out → List V → H → Prop} (s : St43 t kd m k) (hQ : ∀ t', St43 t' kd m k → nth t' 8 = nth t 8 → nth t' 24 = .b (decide (kd = 1 ∧ k = 0)) → Q .norm t' h) : WL tblA r43_5 t h (Kops Q) := by
  obtain ⟨tl, t0, t1, t2⟩ := s
  by_cases c0 : kd = 1
  · by_cases c1 : k = 0
    · simp only [go_sem, ↓reduceIte, r43_5, tl, t0, t1, t2, c0, c1]
      exact hQ _ ⟨by simp only [go_sem, ↓reduceIte, tl], by simp only [go_sem, ↓reduceIte, t0], by simp only [go_sem, ↓reduceIte, t1], by simp only [go_sem, ↓reduceIte, t2]⟩ (by simp only [go_sem, ↓reduceIte, tl]) (by simp only [go_sem, ↓reduceIte, tl]; simp [c0, c1])
    · simp only [go_sem, ↓reduceIte, r43_5, tl, t0, t1, t2, c0, c1]
      exact hQ _ ⟨by simp only [go_sem, ↓reduceIte, tl], by simp only [go_sem, ↓reduceIte, t0], by simp only [go_sem, ↓reduceIte, t1], by simp only [go_sem, ↓reduceIte, t2]⟩ (by simp only [go_sem, ↓reduceIte, tl]) (by simp only [go_sem, ↓reduceIte, tl]; simp [c1])
  · simp only [go_sem, ↓reduceIte, r43_5, tl, t0, t1, t2, c0]
    exact hQ _ ⟨by simp only [go_sem, ↓reduceIte, tl], by simp only [go_sem, ↓reduceIte, t0], by simp only [go_sem, ↓reduceIte, t1], by simp only [go_sem, ↓reduceIte, t2]⟩ (by simp only [go_sem, ↓reduceIte, tl]) (by simp only [go_sem, ↓reduceIte, tl]; simp [c0])
theorem ops43_10 {t : List V} {h : H} {kd k : Int} {m : Nat} {Q : Out → List V → H → Prop} (s : St43 t kd m k) (hQ : ∀ t', St43 t' kd m k → nth t' 8 = nth t 8 → nth t' 41 = .b (decide (kd = 2 ∧ 1 ≤ k ∧ k ≤ 200)) → Q .norm t' h) : WL tblA r43_10 t h (Kops Q) := by
  obtain ⟨tl, t0, t1, t2⟩ := s
  by_cases c0 : kd = 2
  · by_cases c1 : 1 ≤ k
    · by_cases c2 : k ≤ 200
      · simp only [go_sem, ↓reduceIte, r43_10, tl, t0, t1, t2, c0, c1, c2]
        exact hQ _ ⟨by simp only [go_sem, ↓reduceIte, tl], by simp only [go_sem, ↓reduceIte, t0], by simp only [go_sem, ↓reduceIte, t1], by simp only [go_sem, ↓reduceIte, t2]⟩ (by simp only [go_sem, ↓reduceIte, tl]) (by simp only [go_sem, ↓reduceIte, tl]; simp [c0, c1, c2])
      · simp only [go_sem, ↓reduceIte, r43_10, tl, t0, t1, t2, c0, c1, c2]
        exact hQ _ ⟨by simp only [go_sem, ↓reduceIte, tl], by simp only [go_sem, ↓reduceIte, t0], by simp only [go_sem, ↓reduceIte, t1], by simp only [go_sem, ↓reduceIte, t2]⟩ (by simp only [go_sem, ↓reduceIte, tl]) (by simp only [go_sem, ↓reduceIte, tl]; simp [c2])
    · simp only [go_sem, ↓reduceIte, r43_10, tl, t0, t1, t2, c0, c1]
      exact hQ _ ⟨by simp only [go_sem, ↓reduceIte, tl], by simp only [go_sem, ↓reduceIte, t0], by simp only [go_sem, ↓reduceIte, t1], by simp only [go_sem, ↓reduceIte, t2]⟩ (by simp only [go_sem, ↓reduceIte, tl]) (by simp only [go_sem, ↓reduceIte, tl]; simp [c1])
  · simp only [go_sem, ↓reduceIte, r43_10, tl, t0, t1, t2, c0]
    exact hQ _ ⟨by simp only [go_sem, ↓reduceIte, tl], by simp only [go_sem, ↓reduceIte, t0], by simp only [go_sem, ↓reduceIte, t1], by simp only [go_sem, ↓reduceIte, t2]⟩ (by simp only [go_sem, ↓reduceIte, tl]) (by simp only [go_sem, ↓reduceIte, tl]; simp [c0])
theorem ops43_19 {t : List V} {h : H} {kd k : Int} {m : Nat} {Q : Out → List V → H → Prop} (s : St43 t kd m k) (hQ : ∀ t', St43 t' kd m k → nth t' 8 = nth t 8 → nth t' 82 = .b (decide (kd = 3 ∧ 0 ≤ k ∧ k ≤ 2)) → Q .norm t' h) : WL tblA r43_19 t h (Kops Q) := by
  obtain ⟨tl, t0, t1, t2⟩ := s
  by_cases c0 : kd = 3
  · by_cases c1 : 0 ≤ k
    · by_cases c2 : k ≤ 2
      · simp only [go_sem, ↓reduceIte, r43_19, tl, t0, t1, t2, c0, c1, c2]
        exact hQ _ ⟨by simp only [go_sem, ↓reduceIte, tl], by simp only [go_sem, ↓reduceIte, t0], by simp only [go_sem, ↓reduceIte, t1], by simp only [go_sem, ↓reduceIte, t2]⟩ (by simp only [go_sem, ↓reduceIte, tl]) (by simp only [go_sem, ↓reduceIte, tl]; simp [c0, c1, c2])
      · simp only [go_sem, ↓reduceIte, r43_19, tl, t0, t1, t2, c0, c1, c2]
        exact hQ _ ⟨by simp only [go_sem, ↓reduceIte, tl], by simp only [go_sem, ↓reduceIte, t0], by simp only [go_sem, ↓reduceIte, t1], by simp only [go_sem, ↓reduceIte, t2]⟩ (by simp only [go_sem, ↓reduceIte, tl]) (by simp only [go_sem, ↓reduceIte, tl]; simp [c2])
    · simp only [go_sem, ↓reduceIte, r43_19, tl, t0, t1, t2, c0, c1]
      exact hQ _ ⟨by simp only [go_sem, ↓reduceIte, tl], by simp only [go_sem, ↓reduceIte, t0], by simp only [go_sem, ↓reduceIte, t1], by simp only [go_sem, ↓reduceIte, t2]⟩ (by simp only [go_sem, ↓reduceIte, tl]) (by simp only [go_sem, ↓reduceIte, tl]; simp [c1])
  · simp only [go_sem, ↓reduceIte, r43_19, tl, t0, t1, t2, c0]
    exact hQ _ ⟨by simp only [go_sem, ↓reduceIte, tl], by simp only [go_sem, ↓reduceIte, t0], by simp only [go_sem, ↓reduceIte, t1], by simp only [go_sem, ↓reduceIte, t2]⟩ (by simp only [go_sem, ↓reduceIte, tl]) (by simp only [go_sem, ↓reduceIte, tl]; simp [c0])
theorem ops43_30 {t : List V} {h : H} {kd k : Int} {m : Nat} {Q : Out → List V → H → Prop} (s : St43 t kd m k) (hQ : ∀ t', St43 t' kd m k → nth t' 8 = nth t 8 → nth t' 118 = .b (decide (kd = 4 ∧ k = 0)) → Q .norm t' h) : WL tblA r43_30 t h (Kops Q) := by
  obtain ⟨tl, t0, t1, t2⟩ := s
  by_cases c0 : kd = 4
  · by_cases c1 : k = 0
    · simp only [go_sem, ↓reduceIte, r43_30, tl, t0, t1, t2, c0, c1]
      exact hQ _ ⟨by simp only [go_sem, ↓reduceIte, tl], by simp only [go_sem, ↓reduceIte, t0], by simp only [go_sem, ↓reduceIte, t1], by simp only [go_sem, ↓reduceIte, t2]⟩ (by simp only [go_sem, ↓reduceIte, tl]) (by simp only [go_sem, ↓reduceIte, tl]; simp [c0, c1])
    · simp only [go_sem, ↓reduceIte, r43_30, tl, t0, t1, t2, c0, c1]
      exact hQ _ ⟨by simp only [go_sem, ↓reduceIte, tl], by simp only [go_sem, ↓reduceIte, t0], by simp only [go_sem, ↓reduceIte, t1], by simp only [go_sem, ↓reduceIte, t2]⟩ (by simp only [go_sem, ↓reduceIte, tl]) (by simp only [go_sem, ↓reduceIte, tl]; simp [c1])
  · simp only [go_sem, ↓reduceIte, r43_30, tl, t0, t1, t2, c0]
    exact hQ _ ⟨by simp only [go_sem, ↓reduceIte, tl], by simp only [go_sem, ↓reduceIte, t0], by simp only [go_sem, ↓reduceIte, t1], by simp only [go_sem, ↓reduceIte, t2]⟩ (by simp only [go_sem, ↓reduceIte, tl]) (by simp only [go_sem, ↓reduceIte, tl]; simp [c0])

theorem map_mid (m : Nat) : (List.range m).map (fun i => (mid m).getD i 0) = mid m := by
  apply List.ext_getElem?
  intro i
  by_cases hi : i < m
  · have : i < (mid m).length := by rw [mid_len]; exact hi
    simp [List.getElem?_map, List.getElem?_range hi, List.getD_eq_getElem?_getD, List.getElem?_eq_getElem this]
  · rw [List.getElem?_eq_none (by simp; omega), List.getElem?_eq_none (by rw [mid_len]; omega)]
theorem map_down (m : Nat) : (List.range m).map (fun i : Nat => (m : Int) - 1 - i) = (upN m).reverse := by
  apply List.ext_getElem?
  intro i
  by_cases hi : i < m
  · rw [List.getElem?_map, List.getElem?_range hi, List.getElem?_reverse (by simp [upN]; exact hi)]
    simp only [upN, List.length_map, List.length_range, Option.map_some]
    rw [List.getElem?_map, List.getElem?_range (by omega)]
    simp only [Option.map_some, Option.some.injEq]
    omega
  · rw [List.getElem?_eq_none (by simp; omega), List.getElem?_eq_none (by simp [upN]; omega)]
theorem spots_k3 {kind k : Int} {m : Nat} (h3 : kind = 3 ∧ 0 ≤ k ∧ k ≤ 2) : spotsN kind m k = (inRow 0 ((List.range m).map (fun i : Nat => if k = 2 then (m : Int) - 1 - i else if k = 1 then (i : Int) else (mid m).getD i 0)), 0) := by
  obtain ⟨rfl, a, b⟩ := h3
  have : k = 0 ∨ k = 1 ∨ k = 2 := by omega
  rcases this with rfl | rfl | rfl
  · have := map_mid m
    simp only [List.getD_eq_getElem?_getD] at this
    simp [spotsN, this]
  · simp [spotsN, upN]
  · have := map_down m
    simp [spotsN, this]

theorem fn_refSpots {h : H} {kind n k : Int} : WC tblA (.fn 43 [] []) [.i .u8 kind, .i .i64 n, .i .i64 k] h fun u h' => SpotsRes h h' kind n k u := by
  refine (WC_in t43).2 ?_
  by_cases hn1 : n < 0
  · simp only [go_sem, ↓reduceIte, r43_0, r43_1, r43_2, hn1]
    exact res_none (.refl h) (by unfold spotsS; rw [if_pos (.inl hn1)])
  by_cases hn2 : 200 < n
  · simp only [go_sem, ↓reduceIte, r43_0, r43_1, r43_2, hn1, hn2]
    exact res_none (.refl h) (by unfold spotsS; rw [if_pos (.inr hn2)])
  obtain ⟨m, rfl⟩ := Int.eq_ofNat_of_zero_le (a := n) (by omega)
  have hm : m ≤ 200 := by omega
  have hS := spotsS_nat (kind := kind) (k := k) hm
  simp only [go_sem, ↓reduceIte, r43_0, r43_1, r43_3, hn1, hn2]
  refine ops43_5 (kd := kind) (m := m) (k := k) ⟨by simp only [go_sem, ↓reduceIte], by simp only [go_sem, ↓reduceIte], by simp only [go_sem, ↓reduceIte], by simp only [go_sem, ↓reduceIte]⟩ ?_
  simp only [go_sem, ↓reduceIte]
  rintro t ⟨tl, t0, t1, t2⟩ t8 c
  by_cases c1 : kind = 1 ∧ k = 0
  · rw [show spotsN kind m k = (inRow 0 (upN m), 0) by obtain ⟨rfl, rfl⟩ := c1; simp [spotsN]] at hS
    rw [decide_eq_true c1] at c
    simp only [go_sem, ↓reduceIte, r43_6, c, tl, t1, t8]
    refine ref_line (n := m) hm (by simp only [go_sem, ↓reduceIte, tl]) (by simp only [go_sem, ↓reduceIte, tl, t1]) (by simp only [go_sem, ↓reduceIte, tl, t8]) (by simp only [go_sem, ↓reduceIte, tl]) ?_
    intro w h' e' o'
    exact res_own e' o' hS
  rw [decide_eq_false c1] at c
  simp only [go_sem, ↓reduceIte, c]
  refine ops43_10 (kd := kind) (m := m) (k := k) ⟨tl, t0, t1, t2⟩ ?_
  clear c tl t0 t1 t2
  rintro t' ⟨tl, t0, t1, t2⟩ t8' c
  replace t8 := t8'.trans t8
  by_cases c2 : kind = 2 ∧ 1 ≤ k ∧ k ≤ 200
  · rw [show spotsN kind m k = ((prc m k.toNat (rowsN m k.toNat)).flatten, 0) by obtain ⟨rfl, hk⟩ := c2; simp [spotsN, hk]] at hS
    rw [decide_eq_true c2] at c
    obtain ⟨q, rfl⟩ := Int.eq_ofNat_of_zero_le (a := k) (by omega)
    simp only [Int.ofNat_eq_natCast, Int.toNat_natCast] at hS
    simp only [go_sem, ↓reduceIte, r43_11, c, tl]
    refine ref_prc (n := m) (k := q) hm (by omega) (by omega) (by simp only [go_sem, ↓reduceIte, tl]) (by simp only [go_sem, ↓reduceIte, tl, t1]) (by simp only [go_sem, ↓reduceIte, tl, t2]) (by simp only [go_sem, ↓reduceIte, tl, t8]) (by simp only [go_sem, ↓reduceIte, tl]) ?_
    intro w h' mm e' o'
    exact res_own e' o' hS
  rw [decide_eq_false c2] at c
  simp only [go_sem, ↓reduceIte, c]
  refine ops43_19 (kd := kind) (m := m) (k := k) ⟨tl, t0, t1, t2⟩ ?_
  clear c tl t0 t1 t2
  rintro t' ⟨tl, t0, t1, t2⟩ t8' c
  replace t8 := t8'.trans t8
  by_cases c3 : kind = 3 ∧ 0 ≤ k ∧ k ≤ 2
  · rw [spots_k3 c3] at hS
    rw [decide_eq_true c3] at c
    simp only [go_sem, ↓reduceIte, r43_20, c, tl, t1]
    refine (fn_refMiddle (m := m) (by omega)).mono ?_
    rintro u1 h1 ⟨e1, o1⟩
    simp only [go_sem, ↓reduceIte, r43_21, tl, t1]
    refine ref_masts (n := m) (k := k) (u := u1) (f := fun i : Nat => if k = 2 then (m : Int) - 1 - i else if k = 1 then (i : Int) else (mid m).getD i 0) hm (Ints.of o1.sl).1 (fun i _ => rfl) (by simp only [go_sem, ↓reduceIte, tl]) (by simp only [go_sem, ↓reduceIte, tl, t1]) (by simp only [go_sem, ↓reduceIte, tl, t2]) (by simp only [go_sem, ↓reduceIte, tl, t8]) (by simp only [go_sem, ↓reduceIte, tl]) (by simp only [go_sem, ↓reduceIte, tl]) ?_
    intro w h' e' o'
    exact res_own (e1.trans e') o' hS
  rw [decide_eq_false c3] at c
  simp only [go_sem, ↓reduceIte, c]
  refine ops43_30 (kd := kind) (m := m) (k := k) ⟨tl, t0, t1, t2⟩ ?_
  clear c tl t0 t1 t2
  rintro t' ⟨tl, t0, t1, t2⟩ t8' c
  replace t8 := t8'.trans t8
  by_cases c4 : kind = 4 ∧ k = 0
  · rw [show spotsN kind m k = (tblP m, 0) by obtain ⟨rfl, rfl⟩ := c4; simp [spotsN]] at hS
    rw [decide_eq_true c4] at c
    have w0 : IntKind.i64.wrap ((m : Int) + 1) = ((m + 1 : Nat) : Int) := by
      rw [wrap_in (by omega) (by omega)]; omega
    have w1 : IntKind.i64.wrap (((m + 1 : Nat) : Int).tdiv 2) = ((m - m / 2 : Nat) : Int) := by
      rw [show ((m + 1 : Nat) : Int).tdiv 2 = (((m + 1) / 2 : Nat) : Int) from rfl, wrap_in (by omega) (by omega)]
      omega
    have w2 : IntKind.i64.wrap ((m : Int).tdiv 2) = ((m / 2 : Nat) : Int) := by
      rw [show (m : Int).tdiv 2 = ((m / 2 : Nat) : Int) from rfl]
      exact wrap_in (by omega) (by omega)
    simp only [go_sem, ↓reduceIte, r43_31, c, tl, t1, w0, w1]
    refine (fn_refMiddle (m := m - m / 2) (by omega)).mono ?_
    rintro u1 h1 ⟨e1, o1⟩
    simp only [go_sem, ↓reduceIte, tl, t1, w2]
    refine (fn_refMiddle (m := m / 2) (by omega)).mono ?_
    rintro u2 h2 ⟨e2, o2⟩
    obtain ⟨h3, q1, e3, gc, n3, ld0, ld1⟩ := st_new2 h2 .sn .sn (x := u1) (y := u2) o1.one.2 o2.one.2
    simp only [go_sem, ↓reduceIte, fill2_of o1.one.1 o2.one.1, q1, r43_32, tl, t1]
    refine ref_tbl (n := m) (b := h2.next) (u1 := u1) (u2 := u2) hm (by omega) ld0 ld1 ((Ints.of o1.sl).1.ext (e2.trans e3)) ((Ints.of o2.sl).1.ext e3) (by simp only [go_sem, ↓reduceIte, tl]) (by simp only [go_sem, ↓reduceIte, tl, t1]) (by simp only [go_sem, ↓reduceIte, tl, t8]) (by simp only [go_sem, ↓reduceIte, tl]) (by simp only [go_sem, ↓reduceIte, tl]) ?_
    intro w h' e' o'
    exact res_own (e1.trans (e2.trans (e3.trans e'))) o' hS
  rw [decide_eq_false c4] at c
  simp only [go_sem, ↓reduceIte, r43_4, c, tl]
  refine res_none (.refl h) (hS.trans ?_)
  unfold spotsN
  have z : ¬ (kind = 3 ∧ k = 0) ∧ ¬ (kind = 3 ∧ k = 1) ∧ ¬ (kind = 3 ∧ k = 2) := ⟨by omega, by omega, by omega⟩
  rw [if_neg c1, if_neg c2, if_neg z.1, if_neg z.2.1, if_neg z.2.2, if_neg c4]
end Go.Air
