/-
  Lists of ints, and lists of such lists: SameInts, SameLists, slices.Equal, EqualFunc, slices.Index and the document's place, in Air.
-/
import Derived.Test.YtlldpmkdjpmlpaaBase
set_option linter.unusedSectionVars false
set_option linter.unusedVariables false
set_option linter.unusedSimpArgs false
set_option maxRecDepth 100000
namespace Go.Air
open Go.Air.Try

def Ints (h : H) (v : V) (xs : List Int) : Prop := Sl 1 h v xs.length (ints xs)
theorem Ints.ext {h h' : H} {v : V} {xs : List Int} (s : Ints h v xs) (e : Ext h h') : Ints h' v xs := Sl.ext s e
theorem Ints.nil {h : H} : Ints h .sn [] := .inl ⟨rfl, rfl, .inl rfl⟩
theorem Ints.len {h : H} {v : V} {xs : List Int} (s : Ints h v xs) : lenV v = some xs.length := Sl.len s
theorem Ints.ix {h : H} {v : V} {xs : List Int} (s : Ints h v xs) {i : Nat} (hi : i < xs.length) : ixV 1 v (.i .i64 (i : Int)) = some (.p (blkV v) (offV v + i * 1)) := Sl.ix s hi
theorem Ints.ld {h : H} {v : V} {xs : List Int} (s : Ints h v xs) {i : Nat} {x : Int} (hx : xs[i]? = some x) : ldV h (.p (blkV v) (offV v + i * 1)) = some (.i .i64 x) := by
  have hi := (List.getElem?_eq_some_iff.1 hx).1
  have := Sl.ld1 s hi
  rw [ints_get, hx] at this
  exact this
theorem Ints.of {h : H} {v : V} {n : Nat} {xs : List Int} (s : Sl 1 h v n (ints xs)) : Ints h v xs ∧ xs.length = n := by
  have : xs.length = n := by have := s.length; simpa [ints] using this
  subst this
  exact ⟨s, rfl⟩
def LL (h : H) (v : V) (xss : List (List Int)) : Prop := ∃ cs, Sl 1 h v xss.length cs ∧ ∀ (j : Nat) (xs : List Int), xss[j]? = some xs → ∃ c, cs[j]? = some c ∧ Ints h c xs
theorem LL.ext {h h' : H} {v : V} {xss : List (List Int)} (s : LL h v xss) (e : Ext h h') : LL h' v xss := by
  obtain ⟨cs, h1, h2⟩ := s
  exact ⟨cs, h1.ext e, fun j xs hj => let ⟨c, q1, q2⟩ := h2 j xs hj; ⟨c, q1, q2.ext e⟩⟩
theorem LL.nil {h : H} : LL h .sn [] := ⟨[], .inl ⟨rfl, rfl, .inl rfl⟩, fun j xs hj => by simp at hj⟩
theorem LL.len {h : H} {v : V} {xss : List (List Int)} (s : LL h v xss) : lenV v = some xss.length := let ⟨_, h1, _⟩ := s; h1.len
theorem LL.ix {h : H} {v : V} {xss : List (List Int)} (s : LL h v xss) {i : Nat} (hi : i < xss.length) : ixV 1 v (.i .i64 (i : Int)) = some (.p (blkV v) (offV v + i * 1)) := let ⟨_, h1, _⟩ := s; h1.ix hi
theorem LL.ld {h : H} {v : V} {xss : List (List Int)} (s : LL h v xss) {i : Nat} {xs : List Int} (hx : xss[i]? = some xs) : ∃ c, ldV h (.p (blkV v) (offV v + i * 1)) = some c ∧ Ints h c xs := by
  obtain ⟨cs, h1, h2⟩ := s
  obtain ⟨c, q1, q2⟩ := h2 i xs hx
  exact ⟨c, by rw [h1.ld1 (List.getElem?_eq_some_iff.1 hx).1]; exact q1, q2⟩

theorem t30 : tblA 30 = some a30 := by kernel_rfl
theorem fn_SameInts {h : H} {v1 v2 : V} {xs ys : List Int} (h1 : Ints h v1 xs) (h2 : Ints h v2 ys) (hn : xs.length ≤ 1000000) :
    WC tblA (.fn 30 [] []) [v1, v2] h fun u h' => u = .b (decide (xs = ys)) ∧ h' = h := by
  refine (WC_in t30).2 ?_
  by_cases hne : (xs.length : Int) = (ys.length : Int)
  · simp only [go_sem, ↓reduceIte, r30_0, r30_1, r30_3, h1.len, h2.len, hne]
    refine W_while (fun k t h' => ∃ i, k = xs.length - i ∧ i ≤ xs.length ∧ t.length = 26 ∧ nth t 0 = v1 ∧ nth t 1 = v2 ∧ nth t 5 = .i .i64 (i : Int) ∧ xs.take i = ys.take i ∧ h = h') ?_ xs.length ?_
    · rintro k t h' ⟨i, rfl, hi, tl, t0, t1, t5, he, rfl⟩
      unfold b30_0
      by_cases hlt : i < xs.length
      · have hlt' : (i : Int) < (xs.length : Int) := by omega
        obtain ⟨p, hpi⟩ : ∃ p, xs[i]? = some p := ⟨_, List.getElem?_eq_getElem hlt⟩
        have hlt2 : i < ys.length := by omega
        obtain ⟨q, hqi⟩ : ∃ q, ys[i]? = some q := ⟨_, List.getElem?_eq_getElem hlt2⟩
        by_cases hpq : p = q
        · simp only [go_sem, ↓reduceIte, r30_4, r30_5, r30_6, tl, t0, t1, t5, h1.len, hlt', h1.ix hlt, h2.ix hlt2, h1.ld hpi, h2.ld hqi, hpq, wrap_succ (show i < 1000000000 by omega)]
          refine ⟨xs.length - (i + 1), by omega, i + 1, rfl, hlt, rfl, ?_⟩
          rw [take_succ' hpi, take_succ' hqi, he, hpq]
        · simp only [go_sem, ↓reduceIte, r30_4, r30_5, r30_6, r30_7, tl, t0, t1, t5, h1.len, hlt', h1.ix hlt, h2.ix hlt2, h1.ld hpi, h2.ld hqi, hpq]
          have : xs ≠ ys := by
            rintro rfl
            rw [hpi] at hqi
            cases hqi
            exact hpq rfl
          simp [this]
      · have hlt' : ¬ (i : Int) < (xs.length : Int) := by omega
        simp only [go_sem, ↓reduceIte, r30_4, r30_8, tl, t0, t5, h1.len, hlt']
        rw [List.take_of_length_le (by omega), List.take_of_length_le (by omega)] at he
        simp [he]
    · refine ⟨0, by omega, by omega, ?_⟩
      simp only [go_sem, ↓reduceIte]
      simp
  · simp only [go_sem, ↓reduceIte, r30_0, r30_1, r30_2, h1.len, h2.len, hne]
    have : xs ≠ ys := by rintro rfl; omega
    simp [this]

theorem t105 : tblA 105 = some a105 := by kernel_rfl
theorem fn_Equal {h : H} {v1 v2 : V} {xs ys : List Int} (h1 : Ints h v1 xs) (h2 : Ints h v2 ys) (hn : xs.length ≤ 1000000) :
    WC tblA (.fn 105 [] []) [v1, v2] h fun u h' => u = .b (decide (xs = ys)) ∧ h' = h := by
  refine (WC_in t105).2 ?_
  by_cases hne : (xs.length : Int) = (ys.length : Int)
  · simp only [go_sem, ↓reduceIte, r105_0, r105_1, r105_3, h1.len, h2.len, hne]
    refine W_while (fun k t h' => ∃ i, k = xs.length - i ∧ i ≤ xs.length ∧ t.length = 26 ∧ nth t 0 = v1 ∧ nth t 1 = v2 ∧ nth t 12 = .i .i64 (xs.length : Int) ∧ nth t 13 = .i .i64 (i : Int) ∧ xs.take i = ys.take i ∧ h = h') ?_ xs.length ?_
    · rintro k t h' ⟨i, rfl, hi, tl, t0, t1, t12, t13, he, rfl⟩
      unfold b105_0
      by_cases hlt : i < xs.length
      · have hlt' : (i : Int) < (xs.length : Int) := by omega
        obtain ⟨p, hpi⟩ : ∃ p, xs[i]? = some p := ⟨_, List.getElem?_eq_getElem hlt⟩
        have hlt2 : i < ys.length := by omega
        obtain ⟨q, hqi⟩ : ∃ q, ys[i]? = some q := ⟨_, List.getElem?_eq_getElem hlt2⟩
        by_cases hpq : p = q
        · simp only [go_sem, ↓reduceIte, r105_4, r105_5, r105_6, r105_8, tl, t0, t1, t12, t13, hlt', h1.ix hlt, h2.ix hlt2, h1.ld hpi, h2.ld hqi, hpq, wrap_succ (show i < 1000000000 by omega)]
          refine ⟨xs.length - (i + 1), by omega, i + 1, rfl, hlt, rfl, ?_⟩
          rw [take_succ' hpi, take_succ' hqi, he, hpq]
        · simp only [go_sem, ↓reduceIte, r105_4, r105_5, r105_6, r105_7, tl, t0, t1, t12, t13, hlt', h1.ix hlt, h2.ix hlt2, h1.ld hpi, h2.ld hqi, hpq]
          have : xs ≠ ys := by
            rintro rfl
            rw [hpi] at hqi
            cases hqi
            exact hpq rfl
          simp [this]
      · have hlt' : ¬ (i : Int) < (xs.length : Int) := by omega
        simp only [go_sem, ↓reduceIte, r105_4, r105_9, tl, t12, t13, hlt']
        rw [List.take_of_length_le (by omega), List.take_of_length_le (by omega)] at he
        simp [he]
    · refine ⟨0, by omega, by omega, ?_⟩
      simp only [go_sem, ↓reduceIte]
      simp [hne]
  · simp only [go_sem, ↓reduceIte, r105_0, r105_1, r105_2, h1.len, h2.len, hne]
    have : xs ≠ ys := by rintro rfl; omega
    simp [this]

theorem t104 : tblA 104 = some a104 := by kernel_rfl
theorem fn_104 {h : H} {v1 v2 : V} {xs ys : List Int} (h1 : Ints h v1 xs) (h2 : Ints h v2 ys) (hn : xs.length ≤ 1000000) :
    WC tblA (.fn 104 [] []) [v1, v2] h fun u h' => u = .b (decide (xs = ys)) ∧ h' = h := by
  refine (WC_in t104).2 ?_
  simp only [go_sem, ↓reduceIte, r104_0, r104_1]
  refine (fn_Equal h1 h2 hn).mono ?_
  rintro _ _ ⟨rfl, rfl⟩
  simp only [go_sem, ↓reduceIte]

theorem t56 : tblA 56 = some a56 := by kernel_rfl
theorem fn_SameLists {h : H} {v1 v2 : V} {xss yss : List (List Int)} (h1 : LL h v1 xss) (h2 : LL h v2 yss) (hn : xss.length ≤ 1000000) (hm : ∀ xs ∈ xss, xs.length ≤ 1000000) :
    WC tblA (.fn 56 [] []) [v1, v2] h fun u h' => u = .b (decide (xss = yss)) ∧ h' = h := by
  refine (WC_in t56).2 ?_
  by_cases hne : (xss.length : Int) = (yss.length : Int)
  · simp only [go_sem, ↓reduceIte, r56_0, r56_1, r56_3, h1.len, h2.len, hne]
    refine W_while (fun k t h' => ∃ i, k = xss.length - i ∧ i ≤ xss.length ∧ t.length = 29 ∧ nth t 0 = v1 ∧ nth t 1 = v2 ∧ nth t 5 = .i .i64 (i : Int) ∧ xss.take i = yss.take i ∧ h = h') ?_ xss.length ?_
    · rintro k t h' ⟨i, rfl, hi, tl, t0, t1, t5, he, rfl⟩
      unfold b56_0
      by_cases hlt : i < xss.length
      · have hlt' : (i : Int) < (xss.length : Int) := by omega
        obtain ⟨p, hpi⟩ : ∃ p, xss[i]? = some p := ⟨_, List.getElem?_eq_getElem hlt⟩
        have hlt2 : i < yss.length := by omega
        obtain ⟨q, hqi⟩ : ∃ q, yss[i]? = some q := ⟨_, List.getElem?_eq_getElem hlt2⟩
        obtain ⟨c1, l1, i1⟩ := h1.ld hpi
        obtain ⟨c2, l2, i2⟩ := h2.ld hqi
        simp only [go_sem, ↓reduceIte, r56_4, r56_5, r56_6, tl, t0, t1, t5, h1.len, hlt', h1.ix hlt, h2.ix hlt2, l1, l2]
        refine (fn_SameInts (h := h.bare) i1 i2 (hm p (List.mem_of_getElem? hpi))).mono ?_
        rintro _ _ ⟨rfl, rfl⟩
        by_cases hpq : p = q
        · simp only [go_sem, ↓reduceIte, r56_7, r56_5, tl, t0, t1, t5, hpq, wrap_succ (show i < 1000000000 by omega)]
          refine ⟨xss.length - (i + 1), by omega, i + 1, rfl, hlt, rfl, ?_⟩
          rw [take_succ' hpi, take_succ' hqi, he, hpq]
        · simp only [go_sem, ↓reduceIte, r56_7, r56_8, tl, t0, t1, t5, hpq]
          have : xss ≠ yss := by
            rintro rfl
            rw [hpi] at hqi
            cases hqi
            exact hpq rfl
          simp [this]
      · have hlt' : ¬ (i : Int) < (xss.length : Int) := by omega
        simp only [go_sem, ↓reduceIte, r56_4, r56_9, tl, t0, t5, h1.len, hlt']
        rw [List.take_of_length_le (by omega), List.take_of_length_le (by omega)] at he
        simp [he]
    · refine ⟨0, by omega, by omega, ?_⟩
      simp only [go_sem, ↓reduceIte]
      simp
  · simp only [go_sem, ↓reduceIte, r56_0, r56_1, r56_2, h1.len, h2.len, hne]
    have : xss ≠ yss := by rintro rfl; omega
    simp [this]

theorem t103 : tblA 103 = some a103 := by kernel_rfl
theorem fn_EqualFunc {h : H} {v1 v2 : V} {xss yss : List (List Int)} (h1 : LL h v1 xss) (h2 : LL h v2 yss) (hn : xss.length ≤ 1000000) (hm : ∀ xs ∈ xss, xs.length ≤ 1000000) :
    WC tblA (.fn 103 [] []) [v1, v2, .fn 104 [] []] h fun u h' => u = .b (decide (xss = yss)) ∧ h' = h := by
  refine (WC_in t103).2 ?_
  by_cases hne : (xss.length : Int) = (yss.length : Int)
  · simp only [go_sem, ↓reduceIte, r103_0, r103_1, r103_3, h1.len, h2.len, hne]
    refine W_while (fun k t h' => ∃ i, k = xss.length - i ∧ i ≤ xss.length ∧ t.length = 32 ∧ nth t 1 = v2 ∧ nth t 2 = .fn 104 [] [] ∧ nth t 15 = v1 ∧ nth t 16 = .i .i64 (xss.length : Int) ∧ nth t 17 = .i .i64 (i : Int) ∧ xss.take i = yss.take i ∧ h = h') ?_ xss.length ?_
    · rintro k t h' ⟨i, rfl, hi, tl, t1, t2, t15, t16, t17, he, rfl⟩
      unfold b103_0
      by_cases hlt : i < xss.length
      · have hlt' : (i : Int) < (xss.length : Int) := by omega
        obtain ⟨p, hpi⟩ : ∃ p, xss[i]? = some p := ⟨_, List.getElem?_eq_getElem hlt⟩
        have hlt2 : i < yss.length := by omega
        obtain ⟨q, hqi⟩ : ∃ q, yss[i]? = some q := ⟨_, List.getElem?_eq_getElem hlt2⟩
        obtain ⟨c1, l1, i1⟩ := h1.ld hpi
        obtain ⟨c2, l2, i2⟩ := h2.ld hqi
        simp only [go_sem, ↓reduceIte, r103_4, r103_5, r103_6, r103_7, tl, t1, t2, t15, t16, t17, hlt', h1.ix hlt, h2.ix hlt2, l1, l2]
        refine (fn_104 i1 i2 (hm p (List.mem_of_getElem? hpi))).mono ?_
        rintro _ _ ⟨rfl, rfl⟩
        by_cases hpq : p = q
        · simp only [go_sem, ↓reduceIte, r103_9, tl, t1, t2, t15, t16, t17, hpq, wrap_succ (show i < 1000000000 by omega)]
          refine ⟨xss.length - (i + 1), by omega, i + 1, rfl, hlt, rfl, ?_⟩
          rw [take_succ' hpi, take_succ' hqi, he, hpq]
        · simp only [go_sem, ↓reduceIte, r103_8, tl, hpq]
          have : xss ≠ yss := by
            rintro rfl
            rw [hpi] at hqi
            cases hqi
            exact hpq rfl
          simp [this]
      · have hlt' : ¬ (i : Int) < (xss.length : Int) := by omega
        simp only [go_sem, ↓reduceIte, r103_4, r103_10, tl, t16, t17, hlt']
        rw [List.take_of_length_le (by omega), List.take_of_length_le (by omega)] at he
        simp [he]
    · refine ⟨0, by omega, by omega, ?_⟩
      simp only [go_sem, ↓reduceIte]
      simp [hne]
  · simp only [go_sem, ↓reduceIte, r103_0, r103_1, r103_2, h1.len, h2.len, hne]
    have : xss ≠ yss := by rintro rfl; omega
    simp [this]

/-- the first place of a number; -1. -/
def Idx (xs : List Int) (g r : Int) : Prop := (r = -1 ∧ g ∉ xs) ∨ ∃ i : Nat, r = (i : Int) ∧ xs[i]? = some g ∧ g ∉ xs.take i

theorem t102 : tblA 102 = some a102 := by kernel_rfl
theorem fn_place {h : H} {v : V} {xs : List Int} {g : Int} (h1 : Ints h v xs) (hn : xs.length ≤ 1000000) :
    WC tblA (.fn 102 [] []) [v, .i .i64 g] h fun u h' => ∃ r, u = .i .i64 r ∧ Idx xs g r ∧ h' = h := by
  refine (WC_in t102).2 ?_
  simp only [go_sem, ↓reduceIte, r102_0, r102_1]
  refine W_while (fun k t h' => ∃ i, k = xs.length - i ∧ i ≤ xs.length ∧ t.length = 19 ∧ nth t 0 = v ∧ nth t 1 = .i .i64 g ∧ nth t 5 = .i .i64 (i : Int) ∧ g ∉ xs.take i ∧ h = h') ?_ xs.length ?_
  · rintro k t h' ⟨i, rfl, hi, tl, t0, t1, t5, he, rfl⟩
    unfold b102_0
    by_cases hlt : i < xs.length
    · have hlt' : (i : Int) < (xs.length : Int) := by omega
      obtain ⟨p, hpi⟩ : ∃ p, xs[i]? = some p := ⟨_, List.getElem?_eq_getElem hlt⟩
      by_cases hpq : p = g
      · subst hpq
        simp only [go_sem, ↓reduceIte, r102_2, r102_4, r102_5, tl, t0, t1, t5, h1.len, hlt', h1.ix hlt, h1.ld hpi]
        exact ⟨_, rfl, .inr ⟨i, rfl, hpi, he⟩⟩
      · simp only [go_sem, ↓reduceIte, r102_2, r102_3, r102_4, tl, t0, t1, t5, h1.len, hlt', h1.ix hlt, h1.ld hpi, hpq, wrap_succ (show i < 1000000000 by omega)]
        refine ⟨xs.length - (i + 1), by omega, i + 1, rfl, hlt, rfl, ?_⟩
        rw [take_succ' hpi]
        simp [he, Ne.symm hpq]
    · have hlt' : ¬ (i : Int) < (xs.length : Int) := by omega
      simp only [go_sem, ↓reduceIte, r102_2, r102_6, tl, t0, t5, h1.len, hlt']
      rw [List.take_of_length_le (by omega)] at he
      exact ⟨_, rfl, .inl ⟨rfl, he⟩⟩
  · refine ⟨0, by omega, by omega, ?_⟩
    simp only [go_sem, ↓reduceIte]
    simp

theorem t101 : tblA 101 = some a101 := by kernel_rfl
theorem fn_Index {h : H} {v : V} {xs : List Int} {g : Int} (h1 : Ints h v xs) (hn : xs.length ≤ 1000000) :
    WC tblA (.fn 101 [] []) [v, .i .i64 g] h fun u h' => ∃ r, u = .i .i64 r ∧ Idx xs g r ∧ h' = h := by
  refine (WC_in t101).2 ?_
  simp only [go_sem, ↓reduceIte, r101_0, r101_1, h1.len]
  refine W_while (fun k t h' => ∃ i, k = xs.length - i ∧ i ≤ xs.length ∧ t.length = 19 ∧ nth t 0 = v ∧ nth t 1 = .i .i64 g ∧ nth t 7 = .i .i64 (xs.length : Int) ∧ nth t 8 = .i .i64 (i : Int) ∧ g ∉ xs.take i ∧ h = h') ?_ xs.length ?_
  · rintro k t h' ⟨i, rfl, hi, tl, t0, t1, t7, t8, he, rfl⟩
    unfold b101_0
    by_cases hlt : i < xs.length
    · have hlt' : (i : Int) < (xs.length : Int) := by omega
      obtain ⟨p, hpi⟩ : ∃ p, xs[i]? = some p := ⟨_, List.getElem?_eq_getElem hlt⟩
      by_cases hpq : g = p
      · subst hpq
        simp only [go_sem, ↓reduceIte, r101_2, r101_3, r101_4, r101_5, tl, t0, t1, t7, t8, hlt', h1.ix hlt, h1.ld hpi]
        exact ⟨_, rfl, .inr ⟨i, rfl, hpi, he⟩⟩
      · simp only [go_sem, ↓reduceIte, r101_2, r101_3, r101_4, r101_6, tl, t0, t1, t7, t8, hlt', h1.ix hlt, h1.ld hpi, hpq, wrap_succ (show i < 1000000000 by omega)]
        refine ⟨xs.length - (i + 1), by omega, i + 1, rfl, hlt, rfl, ?_⟩
        rw [take_succ' hpi]
        simp [he, hpq]
    · have hlt' : ¬ (i : Int) < (xs.length : Int) := by omega
      simp only [go_sem, ↓reduceIte, r101_2, r101_7, tl, t7, t8, hlt']
      rw [List.take_of_length_le (by omega)] at he
      exact ⟨_, rfl, .inl ⟨rfl, he⟩⟩
  · refine ⟨0, by omega, by omega, ?_⟩
    simp only [go_sem, ↓reduceIte]
    simp
end Go.Air
