/-
  RowsTreaties: Alternat, Copy and CheckAlternat, the program's and the document's, in Air; the law.
-/
import Derived.Test.YtlldpmkdjpmlpaaCopies
import Derived.Test.YtlldpmkdjpmlpaaLists
set_option linter.unusedSectionVars false
set_option linter.unusedVariables false
set_option linter.unusedSimpArgs false
set_option maxRecDepth 100000
namespace Go.Air
open Go.Air.Try

theorem Good.iff_take {xs : List Int} : Good xs ↔ ∀ (i : Nat) (x : Int), xs[i]? = some x → 0 ≤ x ∧ x ∉ xs.take i := by
  constructor
  · intro g i x hx
    refine ⟨g.1 x (List.mem_of_getElem? hx), fun hin => ?_⟩
    have := (g.take (i + 1)).2
    rw [take_succ' hx] at this
    exact (List.nodup_append.1 this).2.2 x hin x (by simp) rfl
  · intro h
    refine ⟨fun x hx => ?_, ?_⟩
    · obtain ⟨i, hi⟩ := List.mem_iff_getElem?.1 hx
      exact (h i x hi).1
    · rw [List.nodup_iff_pairwise_ne, List.pairwise_iff_getElem]
      intro i j hi hj hij he
      exact (h j xs[j] (List.getElem?_eq_getElem hj)).2 (List.mem_of_getElem? (i := i) (by rw [List.getElem?_take_of_lt hij, List.getElem?_eq_getElem hi, he]))
theorem Idx.lt {xs : List Int} {i : Nat} {x r : Int} (h : Idx xs x r) (hx : xs[i]? = some x) : r < (i : Int) ↔ x ∈ xs.take i := by
  rcases h with ⟨rfl, hn⟩ | ⟨j, rfl, hj, hn⟩
  · exact absurd (List.mem_of_getElem? hx) hn
  · constructor
    · intro hlt
      exact List.mem_of_getElem? (i := j) (by rw [List.getElem?_take_of_lt (by omega)]; exact hj)
    · intro hin
      obtain ⟨k, hk⟩ := List.mem_iff_getElem?.1 hin
      have hki : k < i := by
        have := (List.getElem?_eq_some_iff.1 hk).1
        simp at this; omega
      rw [List.getElem?_take_of_lt hki] at hk
      rcases Nat.lt_or_ge k j with h1 | h1
      · exact absurd (List.mem_of_getElem? (i := k) (by rw [List.getElem?_take_of_lt h1]; exact hk)) hn
      · omega

theorem t99 : tblA 99 = some a99 := by kernel_rfl
theorem fn_list {h : H} {v : V} {xs : List Int} (h1 : Ints h v xs) (hn : xs.length ≤ 1000000) :
    WC tblA (.fn 99 [] []) [v] h fun u h' => u = .b (decide (Good xs)) ∧ h' = h := by
  refine (WC_in t99).2 ?_
  simp only [go_sem, ↓reduceIte, r99_0, r99_1]
  refine W_while (fun k t h' => ∃ i, k = xs.length - i ∧ i ≤ xs.length ∧ t.length = 25 ∧ nth t 0 = v ∧ nth t 3 = .i .i64 (i : Int) ∧ (∀ (j : Nat) (x : Int), j < i → xs[j]? = some x → 0 ≤ x ∧ x ∉ xs.take j) ∧ h = h') ?_ xs.length ?_
  · rintro k t h' ⟨i, rfl, hi, tl, t0, t3, he, rfl⟩
    unfold b99_0
    by_cases hlt : i < xs.length
    · have hlt' : (i : Int) < (xs.length : Int) := by omega
      obtain ⟨p, hpi⟩ : ∃ p, xs[i]? = some p := ⟨_, List.getElem?_eq_getElem hlt⟩
      by_cases hneg : p < 0
      · simp only [go_sem, ↓reduceIte, r99_2, r99_4, r99_5, tl, t0, t3, h1.len, hlt', h1.ix hlt, h1.ld hpi, hneg]
        have : ¬ Good xs := fun g => by have := (Good.iff_take.1 g i p hpi).1; omega
        simp [this]
      · simp only [go_sem, ↓reduceIte, r99_2, r99_4, tl, t0, t3, h1.len, hlt', h1.ix hlt, h1.ld hpi, hneg]
        refine (fn_place h1 hn).mono ?_
        rintro _ _ ⟨r, rfl, hr, rfl⟩
        have hr' := hr.lt hpi
        by_cases hin : r < (i : Int)
        · simp only [go_sem, ↓reduceIte, r99_5, tl, t3, hin]
          have : ¬ Good xs := fun g => (Good.iff_take.1 g i p hpi).2 (hr'.1 hin)
          simp [this]
        · simp only [go_sem, ↓reduceIte, r99_3, tl, t0, t3, hin, wrap_succ (show i < 1000000000 by omega)]
          refine ⟨xs.length - (i + 1), by omega, i + 1, rfl, hlt, rfl, fun j x hj hx => ?_⟩
          by_cases hji : j < i
          · exact he j x hji hx
          · obtain rfl : j = i := by omega
            rw [hpi] at hx
            cases hx
            exact ⟨by omega, fun q => hin (hr'.2 q)⟩
    · have hlt' : ¬ (i : Int) < (xs.length : Int) := by omega
      simp only [go_sem, ↓reduceIte, r99_2, r99_6, tl, t0, t3, h1.len, hlt']
      have : Good xs := Good.iff_take.2 fun j x hx => he j x (by have := (List.getElem?_eq_some_iff.1 hx).1; omega) hx
      simp [this]
  · refine ⟨0, by omega, by omega, ?_⟩
    simp only [go_sem, ↓reduceIte]
    exact fun j x hj => by omega

/-- what Copy returns: the list, the error. -/
def copyS (xs : List Int) (g : Int) : List Int × Int :=
  if ¬ Good xs then ([], 1) else if 200 < xs.length then ([], 2) else if g ∉ xs then ([], 5) else (g :: xs.filter (fun x => decide (x ≠ g)), 0)
def alts (xs : List Int) : List (List Int) := (List.range xs.length).map (copyOf xs)
def altS (xs : List Int) : List (List Int) × Int :=
  if ¬ Good xs then ([], 1) else if 200 < xs.length then ([], 2) else (alts xs, 0)
theorem alts_get {xs : List Int} {j : Nat} (hj : j < xs.length) : (alts xs)[j]? = some (copyOf xs j) := by simp [alts, hj]
theorem filter_copy : ∀ {xs : List Int} {i : Nat} {g : Int}, xs.Nodup → xs[i]? = some g → xs.filter (fun x => decide (x ≠ g)) = xs.take i ++ xs.drop (i + 1)
  | [], i, g, _, h => by simp at h
  | x :: xs, 0, g, hn, h => by
    simp at h
    subst h
    have hx := (List.nodup_cons.1 hn).1
    rw [List.filter_cons_of_neg (by simp)]
    simp only [List.take_zero, List.nil_append, List.drop_succ_cons, List.drop_zero]
    refine List.filter_eq_self.2 fun y hy => ?_
    simp only [ne_eq, decide_eq_true_eq]
    rintro rfl
    exact hx hy
  | x :: xs, i + 1, g, hn, h => by
    have hxg : x ≠ g := by
      rintro rfl
      exact (List.nodup_cons.1 hn).1 (List.mem_of_getElem? (by simpa using h))
    rw [List.filter_cons_of_pos (by simpa using hxg), filter_copy (List.nodup_cons.1 hn).2 (by simpa using h)]
    simp
theorem copyS_at {xs : List Int} {i : Nat} {g : Int} (hG : Good xs) (hl : xs.length ≤ 200) (hi : xs[i]? = some g) : copyS xs g = (copyOf xs i, 0) := by
  unfold copyS copyOf
  rw [if_neg (by simpa using hG), if_neg (by omega), if_neg (by simpa using List.mem_of_getElem? hi), filter_copy hG.2 hi]
  simp [List.getD_eq_getElem?_getD, hi]

/-- the program's Alternat, said again. -/
theorem fn_Alternat' {h : H} {v : V} {n : Nat} {xs : List Int} (hv : Arg 1 h v n (ints xs)) (hn : n ≤ 1000000) :
    WC tblA (.fn 31 [] []) [v] h fun u h' => Ext h h' ∧ ∃ w, u = .tup [w, .i .i64 (altS xs).2] ∧ LL h' w (altS xs).1 := by
  have hxn : xs.length = n := by have := hv.sl.length; simpa [ints] using this
  refine (fn_Alternat hv hn).mono ?_
  rintro u h' ⟨e, ⟨hG, rfl⟩ | ⟨hG, hn2, rfl⟩ | ⟨hG, hn2, w, cs, rfl, ow, hcs⟩⟩
  · refine ⟨e, .sn, ?_, ?_⟩ <;> simp only [altS, if_pos hG]
    exact LL.nil
  · refine ⟨e, .sn, ?_, ?_⟩ <;> simp only [altS, if_neg (not_not_intro hG), hxn, if_pos hn2]
    exact LL.nil
  · have hs : altS xs = (alts xs, 0) := by simp only [altS, if_neg (not_not_intro hG), hxn, if_neg (Nat.not_lt.2 hn2)]
    refine ⟨e, w, by rw [hs], ?_⟩
    rw [hs]
    refine ⟨cs, by simpa [alts, hxn] using ow.sl, fun j ys hj => ?_⟩
    have hjn : j < xs.length := by
      have := (List.getElem?_eq_some_iff.1 hj).1
      simpa [alts] using this
    obtain ⟨c, q1, q2⟩ := hcs j (by omega)
    rw [alts_get hjn] at hj
    cases hj
    exact ⟨c, q1, (Ints.of q2.sl).1⟩

theorem t59 : tblA 59 = some a59 := by kernel_rfl
theorem fn_refCopy {h : H} {v : V} {xs : List Int} {g : Int} (h1 : Ints h v xs) (hn : xs.length ≤ 1000000) :
    WC tblA (.fn 59 [] []) [v, .i .i64 g] h fun u h' => Ext h h' ∧ ∃ w, u = .tup [w, .i .i64 (copyS xs g).2] ∧ Ints h' w (copyS xs g).1 ∧ (w = .sn ∨ h.next ≤ blkV w ∧ ∃ n cs, Own h 1 h' w n cs) := by
  refine (WC_in t59).2 ?_
  simp only [go_sem, ↓reduceIte, r59_0, r59_1]
  refine (fn_list h1 hn).mono ?_
  rintro _ _ ⟨rfl, rfl⟩
  by_cases hG : Good xs
  · by_cases hl : 200 < xs.length
    · have hl' : (200 : Int) < (xs.length : Int) := by omega
      simp only [go_sem, ↓reduceIte, r59_2, r59_4, r59_5, h1.len, hG, hl']
      refine ⟨.refl _, .sn, ?_, ?_, .inl rfl⟩ <;> simp only [copyS, if_neg (not_not_intro hG), if_pos hl]
      exact Ints.nil
    · have hl' : ¬ (200 : Int) < (xs.length : Int) := by omega
      simp only [go_sem, ↓reduceIte, r59_2, r59_4, r59_6, h1.len, hG, hl']
      refine (fn_place h1 hn).mono ?_
      rintro _ _ ⟨r, rfl, hr, rfl⟩
      by_cases hin : g ∈ xs
      · have hneg : ¬ r < 0 := by
          rcases hr with ⟨_, q⟩ | ⟨i, rfl, _⟩
          · exact absurd hin q
          · omega
        rename_i hh
        obtain ⟨o1, x1⟩ := Own.lit (esz := 1) (Ext.refl hh) [.i .i64 g] 1 rfl
        simp only [go_sem, ↓reduceIte, r59_8, r59_9, hneg]
        refine W_while (fun k t h' => ∃ (i : Nat) (w : V) (n : Nat), k = xs.length - i ∧ i ≤ xs.length ∧ t.length = 42 ∧ nth t 0 = v ∧ nth t 1 = .i .i64 g ∧ nth t 7 = w ∧ nth t 8 = .i .i64 (i : Int) ∧ Ext hh h' ∧ n ≤ i + 1 ∧ w ≠ .sn ∧
          Own hh 1 h' w n (ints (g :: (xs.take i).filter (fun x => decide (x ≠ g))))) ?_ xs.length ?_
        · rintro k t h2 ⟨i, w, n, rfl, hi, tl, t0, t1, t7, t8, e2, hni, hw, o2⟩
          unfold b59_0
          by_cases hlt : i < xs.length
          · have hlt' : (i : Int) < (xs.length : Int) := by omega
            obtain ⟨p, hpi⟩ : ∃ p, xs[i]? = some p := ⟨_, List.getElem?_eq_getElem hlt⟩
            have h2' := h1.ext e2
            by_cases hpg : p = g
            · simp only [go_sem, ↓reduceIte, r59_10, r59_11, r59_12, tl, t0, t1, t7, t8, h1.len, hlt', h2'.ix hlt, h2'.ld hpi, hpg, wrap_succ (show i < 1000000000 by omega)]
              refine ⟨xs.length - (i + 1), by omega, i + 1, w, n, rfl, hlt, rfl, rfl, e2, by omega, hw, ?_⟩
              rw [take_succ' hpi, List.filter_append, hpg]
              simpa using o2
            · obtain ⟨o3, x3⟩ := Own.lit (esz := 1) (Ext.refl h2) [.i .i64 p] 1 rfl
              obtain ⟨w', h5, r1, r2, r3, r4, r5, r6⟩ := Own.app (bytes := 8) (o2.ext x3) (e2.trans x3) o3.sl (by intro u hu; simp at hu; rcases hu with rfl; rfl) (by omega) (by omega) (by omega)
              simp only [go_sem, ↓reduceIte, r59_10, r59_11, r59_12, r59_13, tl, t0, t1, t7, t8, h1.len, hlt', h2'.ix hlt, h2'.ld hpi, hpg, r1, wrap_succ (show i < 1000000000 by omega)]
              refine ⟨xs.length - (i + 1), by omega, i + 1, w', n + 1, rfl, hlt, rfl, rfl, r2, by omega, ?_, ?_⟩
              · rintro rfl
                obtain ⟨_, ⟨q, _⟩ | ⟨_, _, q, _⟩⟩ := r3
                · omega
                · cases q
              · rw [take_succ' hpi, List.filter_append]
                simpa [hpg, ints] using r3
          · have hlt' : ¬ (i : Int) < (xs.length : Int) := by omega
            simp only [go_sem, ↓reduceIte, r59_10, r59_14, tl, t0, t7, t8, h1.len, hlt']
            rw [List.take_of_length_le (by omega)] at o2
            have hs : copyS xs g = (g :: xs.filter (fun x => decide (x ≠ g)), 0) := by
              simp only [copyS, if_neg (not_not_intro hG), if_neg hl, if_neg (not_not_intro hin)]
            rw [hs]
            exact ⟨e2, w, rfl, (Ints.of o2.sl).1, .inr ⟨o2.ge hw, _, _, o2⟩⟩
        · refine ⟨0, .sl hh.next 0 1 1 none, 1, by omega, by omega, ?_⟩
          simp only [go_sem, ↓reduceIte]
          refine ⟨x1, by omega, by simp, ?_⟩
          simpa [ints] using o1
      · have hneg : r < 0 := by
          rcases hr with ⟨rfl, q⟩ | ⟨i, rfl, q, _⟩
          · omega
          · exact absurd (List.mem_of_getElem? q) hin
        simp only [go_sem, ↓reduceIte, r59_7, hneg]
        refine ⟨.refl _, .sn, ?_, ?_, .inl rfl⟩ <;> simp only [copyS, if_neg (not_not_intro hG), if_neg hl, if_pos hin]
        exact Ints.nil
  · simp only [go_sem, ↓reduceIte, r59_2, r59_3, hG]
    refine ⟨.refl _, .sn, ?_, ?_, .inl rfl⟩ <;> simp only [copyS, if_pos hG]
    exact Ints.nil
end Go.Air
