/-
  Spots of the document, in Air: the loops.
-/
import Derived.Test.YtlldpmkdjpmlpaaSpotsF
set_option linter.unusedSectionVars false
set_option linter.unusedVariables false
set_option linter.unusedSimpArgs false
set_option maxRecDepth 100000
namespace Go.Air
open Go.Air.Try

theorem app_pt {h0 h : H} {w : V} {ps : List Pt} {n : Nat} (a b : Int) (o : Own h0 2 h w n (spots ps)) (e : Ext h0 h) (hn : n ≤ 1000000) :
    ∃ w' h', appendV 2 16 (h.new (.cells [.i .i64 a, .i .i64 b])) w (.sl h.next 0 1 1 none) = .ok w' h' ∧ Ext h0 h' ∧ Own h0 2 h' w' (n + 1) (spots (ps ++ [(a, b)])) ∧ h.next < h'.next ∧ (∀ b, b < h.next → (w = .sn ∨ b ≠ blkV w) → h'.get b = h.get b) ∧ h.next < blkV w' := by
  obtain ⟨o3, x3⟩ := Own.lit (esz := 2) (Ext.refl h) [.i .i64 a, .i .i64 b] 1 rfl
  obtain ⟨w', h5, r1, r2, r3, r4, r5, r6⟩ := Own.app (bytes := 16) (o.ext x3) (e.trans x3) o3.sl (by intro y hy; simp at hy; rcases hy with rfl | rfl <;> rfl) (by omega) (by omega) (by omega)
  refine ⟨w', h5, r1, r2, by rw [spots_append]; exact r3, by simp at r4; omega, fun b hb hw => ?_, by rw [r6 (by omega)]; simp⟩
  rw [r5 b (by simp; omega) hw, H.get_new, if_neg (by omega)]

theorem t43 : tblA 43 = some a43 := by kernel_rfl
def KR (id : Nat) (S : V → H → Prop) : Out → List V → H → Prop := Kblk id (Kblk 0 (Kseq tblA (.seq (.ops r43_36) .ret) (Kfn [.tmp 6, .tmp 7] S)))

theorem ref_line {h : H} {n : Nat} (hn : n ≤ 200) {t : List V} (tl : t.length = 153) (t1 : nth t 1 = .i .i64 (n : Int)) (t8 : nth t 8 = .sn) (t9 : nth t 9 = .i .i64 0)
    {S : V → H → Prop} (hS : ∀ w h', Ext h h' → Own h 2 h' w n (spots (inRow 0 (upN n))) → S (.tup [w, .i .i64 0]) h') : W tblA (.loop b43_0) t h (KR 1 S) := by
  refine W_while (fun kk t h2 => ∃ (i : Nat) (w : V), kk = n - i ∧ i ≤ n ∧ t.length = 153 ∧ nth t 1 = .i .i64 (n : Int) ∧ nth t 8 = w ∧ nth t 9 = .i .i64 (i : Int) ∧ Ext h h2 ∧ Own h 2 h2 w i (spots (inRow 0 (upN i)))) ?_ n ?_
  · rintro kk t h2 ⟨i, w, rfl, hi, tl, t1, t8, t9, e2, o2⟩
    unfold b43_0
    by_cases hlt : i < n
    · have hlt' : (i : Int) < (n : Int) := by omega
      obtain ⟨w', h5, r1, r2, r3, _⟩ := app_pt 0 (i : Int) o2 e2 (by omega)
      simp only [go_sem, ↓reduceIte, r43_7, r43_8, r43_9, tl, t1, t8, t9, hlt', r1, wrap_succ (show i < 1000000000 by omega)]
      refine ⟨n - (i + 1), by omega, i + 1, w', rfl, hlt, rfl, rfl, r2, ?_⟩
      have : inRow 0 (upN (i + 1)) = inRow 0 (upN i) ++ [(0, (i : Int))] := by simp [inRow, upN, List.range_succ]
      rw [this]
      exact r3
    · have hlt' : ¬ (i : Int) < (n : Int) := by omega
      simp only [go_sem, ↓reduceIte, r43_7, KR, r43_36, tl, t1, t8, t9, hlt']
      obtain rfl : i = n := by omega
      exact hS w h2 e2 o2
  · refine ⟨0, .sn, by omega, by omega, ?_⟩
    simp only [go_sem, ↓reduceIte, tl, t1, t8, t9]
    exact ⟨.refl h, .nil⟩

theorem ref_prc {h : H} {n k : Nat} (hn : n ≤ 200) (hk1 : 1 ≤ k) (hk2 : k ≤ 200) {t : List V} (tl : t.length = 153) (t1 : nth t 1 = .i .i64 (n : Int)) (t2 : nth t 2 = .i .i64 (k : Int)) (t8 : nth t 8 = .sn) (t10 : nth t 10 = .i .i64 0)
    {S : V → H → Prop} (hS : ∀ w h' m, Ext h h' → Own h 2 h' w m (spots (prc n k (rowsN n k)).flatten) → S (.tup [w, .i .i64 0]) h') : W tblA (.loop b43_2) t h (KR 3 S) := by
  refine W_while (fun kk t h2 => ∃ (i m : Nat) (w : V), kk = n - i ∧ i ≤ n ∧ m ≤ n ∧ (i = 0 ∨ (i - 1) * k < n) ∧ t.length = 153 ∧ nth t 1 = .i .i64 (n : Int) ∧ nth t 2 = .i .i64 (k : Int) ∧ nth t 8 = w ∧ nth t 10 = .i .i64 (i : Int) ∧ Ext h h2 ∧
    Own h 2 h2 w m (spots (prc n k i).flatten)) ?_ n ?_
  · rintro kk t h2 ⟨i, m, w, rfl, hi, hmn, hpr, tl, t1, t2, t8, t10, e2, o2⟩
    unfold b43_2
    have hik : i * k ≤ 200 * 200 := Nat.mul_le_mul (by omega) hk2
    have hw1 : IntKind.i64.wrap ((i : Int) * (k : Int)) = ((i * k : Nat) : Int) := by
      rw [show (i : Int) * (k : Int) = ((i * k : Nat) : Int) by simp]
      exact wrap_in (by omega) (by omega)
    have hml := (Pts.of o2.sl).2
    rw [flatten_len, prc_sum i hpr] at hml
    by_cases hlt : i * k < n
    · have hlt' : ((i * k : Nat) : Int) < (n : Int) := by omega
      have hw2 : IntKind.i64.wrap ((n : Int) - ((i * k : Nat) : Int)) = ((n - i * k : Nat) : Int) := by
        rw [wrap_in (by omega) (by omega)]; omega
      have hmin : (if ((n - i * k : Nat) : Int) < (k : Int) then ((n - i * k : Nat) : Int) else (k : Int)) = ((min k (n - i * k) : Nat) : Int) := by
        split <;> omega
      simp only [go_sem, ↓reduceIte, r43_12, r43_14, tl, t1, t2, t8, t10, hw1, hlt', hw2, hmin]
      refine (fn_refMiddle (h := h2) (m := min k (n - i * k)) (by omega)).mono ?_
      rintro u h3 ⟨e3, o3⟩
      generalize hM : mid (min k (n - i * k)) = M at *
      have hMl : M.length = min k (n - i * k) := by rw [← hM, mid_len]
      have hiN : i < n := by
        have : i * 1 ≤ i * k := Nat.mul_le_mul_left _ hk1
        omega
      have o3p := o3.pos (by omega)
      simp only [go_sem, ↓reduceIte, r43_15, tl, t1, t2, t8, t10]
      refine W_while (fun kk t h4 => ∃ (j m' : Nat) (w' : V), kk = M.length - j ∧ j ≤ M.length ∧ m' = m + j ∧ t.length = 153 ∧ nth t 1 = .i .i64 (n : Int) ∧ nth t 2 = .i .i64 (k : Int) ∧ nth t 8 = w' ∧ nth t 10 = .i .i64 (i : Int) ∧ nth t 11 = u ∧ nth t 12 = .i .i64 (j : Int) ∧ Ext h h4 ∧
        Own h 2 h4 w' m' (spots ((prc n k i).flatten ++ (inRow (i : Int) M).take j)) ∧ Ints h4 u M ∧ blkV u < h4.next ∧ (w' = .sn ∨ blkV u ≠ blkV w')) ?_ M.length ?_
      · rintro kk t h4 ⟨j, m', w', rfl, hj, rfl, tl, t1, t2, t8, t10, t11, t12, e4, o4, i4, hu4, hw4⟩
        unfold b43_1
        by_cases hlt2 : j < M.length
        · have hlt2' : (j : Int) < (M.length : Int) := by omega
          obtain ⟨c, hc⟩ : ∃ c, M[j]? = some c := ⟨_, List.getElem?_eq_getElem hlt2⟩
          obtain ⟨w5, h5, r1, r2, r3, r4, r5, r6⟩ := app_pt (i : Int) c o4 e4 (by omega)
          simp only [go_sem, ↓reduceIte, r43_16, r43_17, r43_18, tl, t1, t2, t8, t10, t11, t12, i4.len, hlt2', i4.ix hlt2, i4.ld hc, r1, wrap_succ (show j < 1000000000 by omega)]
          refine ⟨M.length - (j + 1), by omega, j + 1, m + j + 1, w5, rfl, hlt2, by omega, rfl, rfl, r2, ?_, Sl.keep i4 (Nat.le_of_lt r4) (fun hb => r5 _ hb hw4), by omega, .inr (by omega)⟩
          have : (inRow (i : Int) M).take (j + 1) = (inRow (i : Int) M).take j ++ [((i : Int), c)] := take_succ' (by simp [inRow, hc])
          rw [this, ← List.append_assoc]
          exact r3
        · have hlt2' : ¬ (j : Int) < (M.length : Int) := by omega
          obtain rfl : j = M.length := by omega
          simp only [go_sem, ↓reduceIte, r43_13, r43_16, tl, t1, t2, t8, t10, t11, t12, i4.len, hlt2', wrap_succ (show i < 1000000000 by omega)]
          refine ⟨n - (i + 1), by omega, i + 1, m + M.length, w', rfl, hiN, by rw [hMl]; omega, .inr (by simpa using hlt), rfl, rfl, e4, ?_⟩
          rw [prc_succ, List.flatten_append]
          rw [List.take_of_length_le (by simp [inRow])] at o4
          simp only [rowP, hM, List.flatten_cons, List.flatten_nil, List.append_nil]
          exact o4
      · refine ⟨0, m, w, by omega, by omega, by omega, ?_⟩
        simp only [go_sem, ↓reduceIte, tl, t1, t2, t8, t10]
        refine ⟨e2.trans e3, ?_, (Ints.of o3.sl).1, o3p.2.2, ?_⟩
        · simpa using o2.ext e3
        · rcases o2.wlt with q | q
          · exact .inl q
          · exact .inr (by omega)
    · have hlt' : ¬ ((i * k : Nat) : Int) < (n : Int) := by omega
      have hiR : i = rowsN n k := by
        have h1 : ¬ i < rowsN n k := fun q => hlt ((rows_lt hk1).2 q)
        rcases hpr with rfl | hpr
        · omega
        · have := (rows_lt hk1).1 hpr
          omega
      simp only [go_sem, ↓reduceIte, r43_12, KR, r43_36, tl, t1, t2, t8, t10, hw1, hlt']
      rw [hiR] at o2
      exact hS w h2 m e2 o2
  · refine ⟨0, 0, .sn, by omega, by omega, by omega, .inl rfl, ?_⟩
    simp only [go_sem, ↓reduceIte, tl, t1, t2, t8, t10]
    exact ⟨.refl h, .nil⟩

theorem ref_masts {h : H} {n : Nat} {k : Int} {u : V} {f : Nat → Int} (hn : n ≤ 200) (hu : Ints h u (mid n)) (hf : ∀ i, i < n → f i = if k = 2 then (n : Int) - 1 - i else if k = 1 then (i : Int) else (mid n).getD i 0)
    {t : List V} (tl : t.length = 153) (t1 : nth t 1 = .i .i64 (n : Int)) (t2 : nth t 2 = .i .i64 k) (t8 : nth t 8 = .sn) (t13 : nth t 13 = u) (t14 : nth t 14 = .i .i64 0)
    {S : V → H → Prop} (hS : ∀ w h', Ext h h' → Own h 2 h' w n (spots (inRow 0 ((List.range n).map f))) → S (.tup [w, .i .i64 0]) h') : W tblA (.loop b43_3) t h (KR 7 S) := by
  refine W_while (fun kk t h2 => ∃ (i : Nat) (w : V), kk = n - i ∧ i ≤ n ∧ t.length = 153 ∧ nth t 1 = .i .i64 (n : Int) ∧ nth t 2 = .i .i64 k ∧ nth t 8 = w ∧ nth t 13 = u ∧ nth t 14 = .i .i64 (i : Int) ∧ Ext h h2 ∧ Own h 2 h2 w i (spots (inRow 0 ((List.range i).map f)))) ?_ n ?_
  · rintro kk t h2 ⟨i, w, rfl, hi, tl, t1, t2, t8, t13, t14, e2, o2⟩
    unfold b43_3
    by_cases hlt : i < n
    · have hlt' : (i : Int) < (n : Int) := by omega
      have u2 := hu.ext e2
      have hil : i < (mid n).length := by rw [mid_len]; exact hlt
      obtain ⟨c, hc⟩ : ∃ c, (mid n)[i]? = some c := ⟨_, List.getElem?_eq_getElem hil⟩
      have hfi := hf i hlt
      rw [List.getD_eq_getElem?_getD, hc, Option.getD_some] at hfi
      obtain ⟨w', h5, r1, r2, r3, _⟩ := app_pt 0 (f i) o2 e2 (by omega)
      have hsucc : inRow 0 ((List.range (i + 1)).map f) = inRow 0 ((List.range i).map f) ++ [(0, f i)] := by simp [inRow, List.range_succ]
      rw [← hsucc] at r3
      have hw1 : IntKind.i64.wrap (IntKind.i64.wrap ((n : Int) - 1) - (i : Int)) = (n : Int) - 1 - i := by
        rw [wrap_in (n := (n : Int) - 1) (by omega) (by omega), wrap_in (by omega) (by omega)]
      by_cases d2 : k = 2
      · subst d2
        simp only [if_true] at hfi
        rw [hfi] at r1
        simp only [go_sem, ↓reduceIte, r43_22, r43_23, r43_24, r43_25, r43_27, r43_28, r43_29, tl, t1, t2, t8, t13, t14, hlt', u2.ix hil, u2.ld hc, hw1, r1, wrap_succ (show i < 1000000000 by omega)]
        exact ⟨n - (i + 1), by omega, i + 1, w', rfl, hlt, rfl, rfl, r2, r3⟩
      · by_cases d1 : k = 1
        · subst d1
          simp only [if_neg d2, if_true] at hfi
          rw [hfi] at r1
          simp only [go_sem, ↓reduceIte, r43_22, r43_23, r43_24, r43_25, r43_26, r43_27, r43_29, tl, t1, t2, t8, t13, t14, hlt', u2.ix hil, u2.ld hc, r1, wrap_succ (show i < 1000000000 by omega)]
          exact ⟨n - (i + 1), by omega, i + 1, w', rfl, hlt, rfl, rfl, r2, r3⟩
        · rw [if_neg d2, if_neg d1] at hfi
          rw [hfi] at r1
          simp only [go_sem, ↓reduceIte, r43_22, r43_23, r43_24, r43_25, r43_27, r43_29, tl, t1, t2, t8, t13, t14, hlt', u2.ix hil, u2.ld hc, r1, d1, d2, wrap_succ (show i < 1000000000 by omega)]
          exact ⟨n - (i + 1), by omega, i + 1, w', rfl, hlt, rfl, rfl, r2, r3⟩
    · have hlt' : ¬ (i : Int) < (n : Int) := by omega
      simp only [go_sem, ↓reduceIte, r43_22, KR, r43_36, tl, t1, t8, t14, hlt']
      obtain rfl : i = n := by omega
      exact hS w h2 e2 o2
  · refine ⟨0, .sn, by omega, by omega, ?_⟩
    simp only [go_sem, ↓reduceIte, tl, t1, t2, t8, t13, t14]
    exact ⟨.refl h, .nil⟩

theorem ref_tbl {h : H} {n b : Nat} {u1 u2 : V} (hn : n ≤ 200) (hb : b < h.next) (g1 : ldV h (.p b 0) = some u1) (g2 : ldV h (.p b 1) = some u2) (i1 : Ints h u1 (mid (n - n / 2))) (i2 : Ints h u2 (mid (n / 2)))
    {t : List V} (tl : t.length = 153) (t1 : nth t 1 = .i .i64 (n : Int)) (t8 : nth t 8 = .sn) (t16 : nth t 16 = .p b 0) (t17 : nth t 17 = .i .i64 0)
    {S : V → H → Prop} (hS : ∀ w h', Ext h h' → Own h 2 h' w n (spots (tblP n)) → S (.tup [w, .i .i64 0]) h') : W tblA (.loop b43_4) t h (KR 9 S) := by
  refine W_while (fun kk t h2 => ∃ (i : Nat) (w : V), kk = n - i ∧ i ≤ n ∧ t.length = 153 ∧ nth t 1 = .i .i64 (n : Int) ∧ nth t 8 = w ∧ nth t 16 = .p b 0 ∧ nth t 17 = .i .i64 (i : Int) ∧ Ext h h2 ∧ Own h 2 h2 w i (spots ((tblP n).take i))) ?_ n ?_
  · rintro kk t h2 ⟨i, w, rfl, hi, tl, t1, t8, t16, t17, e2, o2⟩
    unfold b43_4
    by_cases hlt : i < n
    · have hlt' : (i : Int) < (n : Int) := by omega
      have hrem := rem_eq i
      have hquo : IntKind.i64.wrap ((i : Int).tdiv 2) = ((i / 2 : Nat) : Int) := by
        rw [show (i : Int).tdiv 2 = ((i / 2 : Nat) : Int) from rfl]
        exact wrap_in (by omega) (by omega)
      obtain ⟨c, hc⟩ : ∃ c, (if i % 2 = 0 then mid (n - n / 2) else mid (n / 2))[i / 2]? = some c := by
        refine ⟨_, List.getElem?_eq_getElem ?_⟩
        split <;> rw [mid_len] <;> omega
      have htb : (tblP n)[i]? = some (((i % 2 : Nat) : Int), c) := by
        simp only [tblP, List.getElem?_map, List.getElem?_range hlt, Option.map_some, List.getD_eq_getElem?_getD, hc, Option.getD_some]
      have l1 : ldV h2 (.p b 0) = some u1 := by rw [← g1]; simp only [ldV]; rw [e2.same b hb]
      have l2 : ldV h2 (.p b 1) = some u2 := by rw [← g2]; simp only [ldV]; rw [e2.same b hb]
      obtain ⟨w', h5, r1, r2, r3, _⟩ := app_pt ((i % 2 : Nat) : Int) c o2 e2 (by omega)
      rw [← take_succ' htb] at r3
      by_cases hp : i % 2 = 0
      · rw [if_pos hp] at hc
        have hci := (List.getElem?_eq_some_iff.1 hc).1
        have j1 := i1.ext e2
        have hld := j1.ld hc
        have hix : ixAV 2 1 (.p b 0) (.i .i64 ((i % 2 : Nat) : Int)) = some (.p b 0) := by rw [ixA_ok (by omega), hp]
        simp only [go_sem, ↓reduceIte, r43_33, r43_34, r43_35, tl, t1, t8, t16, t17, hlt', hrem, hquo, hix, l1, j1.ix hci, hld, r1, wrap_succ (show i < 1000000000 by omega)]
        exact ⟨n - (i + 1), by omega, i + 1, w', rfl, hlt, rfl, rfl, r2, r3⟩
      · rw [if_neg hp] at hc
        have hci := (List.getElem?_eq_some_iff.1 hc).1
        have j2 := i2.ext e2
        have hld := j2.ld hc
        have hix : ixAV 2 1 (.p b 0) (.i .i64 ((i % 2 : Nat) : Int)) = some (.p b 1) := by rw [ixA_ok (by omega), show i % 2 = 1 by omega]
        simp only [go_sem, ↓reduceIte, r43_33, r43_34, r43_35, tl, t1, t8, t16, t17, hlt', hrem, hquo, hix, l2, j2.ix hci, hld, r1, wrap_succ (show i < 1000000000 by omega)]
        exact ⟨n - (i + 1), by omega, i + 1, w', rfl, hlt, rfl, rfl, r2, r3⟩
    · have hlt' : ¬ (i : Int) < (n : Int) := by omega
      simp only [go_sem, ↓reduceIte, r43_33, KR, r43_36, tl, t1, t8, t17, hlt']
      obtain rfl : i = n := by omega
      rw [List.take_of_length_le (by simp [tblP])] at o2
      exact hS w h2 e2 o2
  · refine ⟨0, .sn, by omega, by omega, ?_⟩
    simp only [go_sem, ↓reduceIte, tl, t1, t8, t16, t17]
    exact ⟨.refl h, .nil⟩
end Go.Air
