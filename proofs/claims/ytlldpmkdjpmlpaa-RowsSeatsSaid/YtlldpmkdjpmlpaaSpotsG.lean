/-
  Spots of the document, in Air: the loops.
-/
import Derived.Test.YtlldpmkdjpmlpaaSpotsF
import Derived.Test.YtlldpmkdjpmlpaaMirror
set_option linter.unusedSectionVars false
set_option linter.unusedVariables false
set_option linter.unusedSimpArgs false
set_option maxRecDepth 100000
namespace Go.Air
open Go.Air.Try

theorem app_pt {h0 h : H} {w : V} {ps : List Pt} {n : Nat} (a b : Int) (o : Own h0 2 h w n (spots ps)) (e : Ext h0 h) (hn : n ≤ 1000000) :
    ∃ w' h', appendV 2 16 (h.new (.cells [.i .i64 a, .i .i64 b])) w (.sl h.next 0 1 1 none) = .ok w' h' ∧ Ext h0 h' ∧ Own h0 2 h' w' (n + 1) (spots (ps ++ [(a, b)])) ∧ h.next < h'.next ∧ (∀ b, b < h.next → (w = .sn ∨ b ≠ blkV w) → h'.get b = h.get b) ∧ h.next < blkV w' := by
  obtain ⟨o3, x3⟩ := Own.lit (esz := 2) (Ext.refl h) [.i .i64 a, .i .i64 b] 1 rfl
  obtain ⟨w', h5, r1, r2, r3, r4, r5, r6⟩ := Own.app (bytes := 16) (o.ext x3) (e.trans x3) o3.sl (by intro y hy; simp at hy; rcases hy with rfl | rfl <;> rfl) (by omega) (by omega) (by omega)
  refine ⟨w', h5, r1, r2, by rw [spots_append]; exact r3, by simp at r4; omega, fun b hb hw => ?_, by rw [r6 (by omega)]; simp⟩
  rw [r5 b (by simp; omega) hw, H.get_new, if_neg (by omega)]

theorem t43 : tblA 43 = some a43 := by kernel_rfl
def KR (id : Nat) (S : V → H → Prop) : Out → List V → H → Prop := Kblk id (Kblk 0 (Kseq tblA (.seq (.ops r43_36) .ret) (Kfn [.tmp 6, .tmp 7] S)))

theorem ref_line {h : H} {n : Nat} (hn : n ≤ 200) {t : List V} (tl : t.length = 153) (t1 : nth t 1 = .i .i64 (n : Int)) (t8 : nth t 8 = .sn) (t9 : nth t 9 = .i .i64 0)
    {S : V → H → Prop} (hS : ∀ w h', Ext h h' → Own h 2 h' w n (spots (inRow 0 (upN n))) → S (.tup [w, .i .i64 0]) h') : W tblA (.loop b43_0) t h (KR 1 S) := by
  refine W_while (fun kk t h2 => ∃ (i : Nat) (w : V), kk = n - i ∧ i ≤ n ∧ t.length = 153 ∧ nth t 1 = .i .i64 (n : Int) ∧ nth t 8 = w ∧ nth t 9 = .i .i64 (i : Int) ∧ Ext h h2 ∧ Own h 2 h2 w i (spots (inRow 0 (upN i)))) ?_ n ?_
  · rintro kk t h2 ⟨i, w, rfl, hi, tl, t1, t8, t9, e2, o2⟩
    unfold b43_0
    by_cases hlt : i < n
    · have hlt' : (i : Int) < (n : Int) := by omega
      obtain ⟨w', h5, r1, r2, r3, _⟩ := app_pt 0 (i : Int) o2 e2 (by omega)
      simp only [go_sem, ↓reduceIte, r43_7, r43_8, r43_9, tl, t1, t8, t9, hlt', r1, wrap_succ (show i < 1000000000 by omega)]
      refine ⟨n - (i + 1), by omega, i + 1, w', rfl, hlt, rfl, rfl, r2, ?_⟩
      have : inRow 0 (upN (i + 1)) = inRow 0 (upN i) ++ [(0, (i : Int))] := by simp [inRow, upN, List.range_succ]
      rw [this]
      exact r3
    · have hlt' : ¬ (i : Int) < (n : Int) := by omega
      simp only [go_sem, ↓reduceIte, r43_7, KR, r43_36, tl, t1, t8, t9, hlt']
      obtain rfl : i = n := by omega
      exact hS w h2 e2 o2
  · refine ⟨0, .sn, by omega, by omega, ?_⟩
    simp only [go_sem, ↓reduceIte, tl, t1, t8, t9]
    exact ⟨.refl h, .nil⟩

theorem ref_prc {h : H} {n k : Nat} (hn : n ≤ 200) (hk1 : 1 ≤ k) (hk2 : k ≤ 200) {t : List V} (tl : t.length = 153) (t1 : nth t 1 = .i .i64 (n : Int)) (t2 : nth t 2 = .i .i64 (k : Int)) (t8 : nth t 8 = .sn) (t10 : nth t 10 = .i .i64 0)
    {S : V → H → Prop} (hS : ∀ w h' m, Ext h h' → Own h 2 h' w m (spots (prc n k (rowsN n k)).flatten) → S (.tup [w, .i .i64 0]) h') : W tblA (.loop b43_2) t h (KR 3 S) := by
  refine W_while (fun kk t h2 => ∃ (i m : Nat) (w : V), kk = n - i ∧ i ≤ n ∧ m ≤ n ∧ (i = 0 ∨ (i - 1) * k < n) ∧ t.length = 153 ∧ nth t 1 = .i .i64 (n : Int) ∧ nth t 2 = .i .i64 (k : Int) ∧ nth t 8 = w ∧ nth t 10 = .i .i64 (i : Int) ∧ Ext h h2 ∧
    Own h 2 h2 w m (spots (prc n k i).flatten)) ?_ n ?_
  · rintro kk t h2 ⟨i, m, w, rfl, hi, hmn, hpr, tl, t1, t2, t8, t10, e2, o2⟩
    unfold b43_2
    have hik : i * k ≤ 200 * 200 := Nat.mul_le_mul (by omega) hk2
    have hw1 : IntKind.i64.wrap ((i : Int) * (k : Int)) = ((i * k : Nat) : Int) := by
      rw [show (i : Int) * (k : Int) = ((i * k : Nat) : Int) by simp]
      exact wrap_in (by omega) (by omega)
    have hml := (Pts.of o2.sl).2
    rw [flatten_len, prc_sum i hpr] at hml
    by_cases hlt : i * k < n
    · have hlt' : ((i * k : Nat) : Int) < (n : Int) := by omega
      have hw2 : IntKind.i64.wrap ((n : Int) - ((i * k : Nat) : Int)) = ((n - i * k : Nat) : Int) := by
        rw [wrap_in (by omega) (by omega)]; omega
      have hmin : (if ((n - i * k : Nat) : Int) < (k : Int) then ((n - i * k : Nat) : Int) else (k : Int)) = ((min k (n - i * k) : Nat) : Int) := by
        split <;> omega
      simp only [go_sem, ↓reduceIte, r43_12, r43_14, tl, t1, t2, t8, t10, hw1, hlt', hw2, hmin]
      refine (fn_refMiddle (h := h2) (m := min k (n - i * k)) (by omega)).mono ?_
      rintro u h3 ⟨e3, o3⟩
      generalize hM : mid (min k (n - i * k)) = M at *
      have hMl : M.length = min k (n - i * k) := by rw [← hM, mid_len]
      have hiN : i < n := by
        have : i * 1 ≤ i * k := Nat.mul_le_mul_left _ hk1
        omega
      have o3p := o3.pos (by omega)
      simp only [go_sem, ↓reduceIte, r43_15, tl, t1, t2, t8, t10]
      refine W_while (fun kk t h4 => ∃ (j m' : Nat) (w' : V), kk = M.length - j ∧ j ≤ M.length ∧ m' = m + j ∧ t.length = 153 ∧ nth t 1 = .i .i64 (n : Int) ∧ nth t 2 = .i .i64 (k : Int) ∧ nth t 8 = w' ∧ nth t 10 = .i .i64 (i : Int) ∧ nth t 11 = u ∧ nth t 12 = .i .i64 (j : Int) ∧ Ext h h4 ∧
        Own h 2 h4 w' m' (spots ((prc n k i).flatten ++ (inRow (i : Int) M).take j)) ∧ Ints h4 u M ∧ blkV u < h4.next ∧ (w' = .sn ∨ blkV u ≠ blkV w')) ?_ M.length ?_
      · rintro kk t h4 ⟨j, m', w', rfl, hj, rfl, tl, t1, t2, t8, t10, t11, t12, e4, o4, i4, hu4, hw4⟩
        unfold b43_1
        by_cases hlt2 : j < M.length
        · have hlt2' : (j : Int) < (M.length : Int) := by omega
          obtain ⟨c, hc⟩ : ∃ c, M[j]? = some c := ⟨_, List.getElem?_eq_getElem hlt2⟩
          obtain ⟨w5, h5, r1, r2, r3, r4, r5, r6⟩ := app_pt (i : Int) c o4 e4 (by omega)
          simp only [go_sem, ↓reduceIte, r43_16, r43_17, r43_18, tl, t1, t2, t8, t10, t11, t12, i4.len, hlt2', i4.ix hlt2, i4.ld hc, r1, wrap_succ (show j < 1000000000 by omega)]
          refine ⟨M.length - (j + 1), by omega, j + 1, m + j + 1, w5, rfl, hlt2, by omega, rfl, rfl, r2, ?_, Sl.keep i4 (Nat.le_of_lt r4) (fun hb => r5 _ hb hw4), by omega, .inr (by omega)⟩
          have : (inRow (i : Int) M).take (j + 1) = (inRow (i : Int) M).take j ++ [((i : Int), c)] := take_succ' (by simp [inRow, hc])
          rw [this, ← List.append_assoc]
          exact r3
        · have hlt2' : ¬ (j : Int) < (M.length : Int) := by omega
          obtain rfl : j = M.length := by omega
          simp only [go_sem, ↓reduceIte, r43_13, r43_16, tl, t1, t2, t8, t10, t11, t12, i4.len, hlt2', wrap_succ (show i < 1000000000 by omega)]
          refine ⟨n - (i + 1), by omega, i + 1, m + M.length, w', rfl, hiN, by rw [hMl]; omega, .inr (by simpa using hlt), rfl, rfl, e4, ?_⟩
          rw [prc_succ, List.flatten_append]
          rw [List.take_of_length_le (by simp [inRow])] at o4
          simp only [rowP, hM, List.flatten_cons, List.flatten_nil, List.append_nil]
          exact o4
      · refine ⟨0, m, w, by omega, by omega, by omega, ?_⟩
        simp only [go_sem, ↓reduceIte, tl, t1, t2, t8, t10]
        refine ⟨e2.trans e3, ?_, (Ints.of o3.sl).1, o3p.2.2, ?_⟩
        · simpa using o2.ext e3
        · rcases o2.wlt with q | q
          · exact .inl q
          · exact .inr (by omega)
    · have hlt' : ¬ ((i * k : Nat) : Int) < (n : Int) := by omega
      have hiR : i = rowsN n k := by
        have h1 : ¬ i < rowsN n k := fun q => hlt ((rows_lt hk1).2 q)
        rcases hpr with rfl | hpr
        · omega
        · have := (rows_lt hk1).1 hpr
          omega
      simp only [go_sem, ↓reduceIte, r43_12, KR, r43_36, tl, t1, t2, t8, t10, hw1, hlt']
      rw [hiR] at o2
      exact hS w h2 m e2 o2
  · refine ⟨0, 0, .sn, by omega, by omega, by omega, .inl rfl, ?_⟩
    simp only [go_sem, ↓reduceIte, tl, t1, t2, t8, t10]
    exact ⟨.refl h, .nil⟩

theorem ref_masts {h : H} {n : Nat} {k : Int} {u : V} {f : Nat → Int} (hn : n ≤ 200) (hu : Ints h u (mid n)) (hf : ∀ i, i < n → f i = if k = 2 then (n : Int) - 1 - i else if k = 1 then (i : Int) else (mid n).getD i 0)
    {t : List V} (tl : t.length = 153) (t1 : nth t 1 = .i .i64 (n : Int)) (t2 : nth t 2 = .i .i64 k) (t8 : nth t 8 = .sn) (t13 : nth t 13 = u) (t14 : nth t 14 = .i .i64 0)
    {S : V → H → Prop} (hS : ∀ w h', Ext h h' → Own h 2 h' w n (spots (inRow 0 ((List.range n).map f))) → S (.tup [w, .i .i64 0]) h') : W tblA (.loop b43_3) t h (KR 7 S) := by
  refine W_while (fun kk t h2 => ∃ (i : Nat) (w : V), kk = n - i ∧ i ≤ n ∧ t.length = 153 ∧ nth t 1 = .i .i64 (n : Int) ∧ nth t 2 = .i .i64 k ∧ nth t 8 = w ∧ nth t 13 = u ∧ nth t 14 = .i .i64 (i : Int) ∧ Ext h h2 ∧ Own h 2 h2 w i (spots (inRow 0 ((List.range i).map f)))) ?_ n ?_
  · rintro kk t h2 ⟨i, w, rfl, hi, tl, t1, t2, t8, t13, t14, e2, o2⟩
    unfold b43_3
    by_cases hlt : i < n
    · have hlt' : (i : Int) < (n : Int) := by omega
      have u2 := hu.ext e2
      have hil : i < (mid n).length := by rw [mid_len]; exact hlt
      obtain ⟨c, hc⟩ : ∃ c, (mid n)[i]? = some c := ⟨_, List.getElem?_eq_getElem hil⟩
      have hfi := hf i hlt
      rw [List.getD_eq_getElem?_getD, hc, Option.getD_some] at hfi
      obtain ⟨w', h5, r1, r2, r3, _⟩ := app_pt 0 (f i) o2 e2 (by omega)
      have hsucc : inRow 0 ((List.range (i + 1)).map f) = inRow 0 ((List.range i).map f) ++ [(0, f i)] := by simp [inRow, List.range_succ]
      rw [← hsucc] at r3
      have hw1 : IntKind.i64.wrap (IntKind.i64.wrap ((n : Int) - 1) - (i : Int)) = (n : Int) - 1 - i := by
        rw [wrap_in (n := (n : Int) - 1) (by omega) (by omega), wrap_in (by omega) (by omega)]
      by_cases d2 : k = 2
      · subst d2
        simp only [if_true] at hfi
        rw [hfi] at r1
        simp only [go_sem, ↓reduceIte, r43_22, r43_23, r43_24, r43_25, r43_27, r43_28, r43_29, tl, t1, t2, t8, t13, t14, hlt', u2.ix hil, u2.ld hc, hw1, r1, wrap_succ (show i < 1000000000 by omega)]
        exact ⟨n - (i + 1), by omega, i + 1, w', rfl, hlt, rfl, rfl, r2, r3⟩
      · by_cases d1 : k = 1
        · subst d1
          simp only [if_neg d2, if_true] at hfi
          rw [hfi] at r1
          simp only [go_sem, ↓reduceIte, r43_22, r43_23, r43_24, r43_25, r43_26, r43_27, r43_29, tl, t1, t2, t8, t13, t14, hlt', u2.ix hil, u2.ld hc, r1, wrap_succ (show i < 1000000000 by omega)]
          exact ⟨n - (i + 1), by omega, i + 1, w', rfl, hlt, rfl, rfl, r2, r3⟩
        · rw [if_neg d2, if_neg d1] at hfi
          rw [hfi] at r1
          simp only [go_sem, ↓reduceIte, r43_22, r43_23, r43_24, r43_25, r43_27, r43_29, tl, t1, t2, t8, t13, t14, hlt', u2.ix hil, u2.ld hc, r1, d1, d2, wrap_succ (show i < 1000000000 by omega)]
          exact ⟨n - (i + 1), by omega, i + 1, w', rfl, hlt, rfl, rfl, r2, r3⟩
    · have hlt' : ¬ (i : Int) < (n : Int) := by omega
      simp only [go_sem, ↓reduceIte, r43_22, KR, r43_36, tl, t1, t8, t14, hlt']
      obtain rfl : i = n := by omega
      exact hS w h2 e2 o2
  · refine ⟨0, .sn, by omega, by omega, ?_⟩
    simp only [go_sem, ↓reduceIte, tl, t1, t2, t8, t13, t14]
    exact ⟨.refl h, .nil⟩

theorem ref_tbl {h : H} {n b : Nat} {u1 u2 : V} (hn : n ≤ 200) (hb : b < h.next) (g1 : ldV h (.p b 0) = some u1) (g2 : ldV h (.p b 1) = some u2) (i1 : Ints h u1 (mid (n - n / 2))) (i2 : Ints h u2 (mid (n / 2)))
    {t : List V} (tl : t.length = 153) (t1 : nth t 1 = .i .i64 (n : Int)) (t8 : nth t 8 = .sn) (t16 : nth t 16 = .p b 0) (t17 : nth t 17 = .i .i64 0)
    {S : V → H → Prop} (hS : ∀ w h', Ext h h' → Own h 2 h' w n (spots (tblP n)) → S (.tup [w, .i .i64 0]) h') : W tblA (.loop b43_4) t h (KR 9 S) := by
  refine W_while (fun kk t h2 => ∃ (i : Nat) (w : V), kk = n - i ∧ i ≤ n ∧ t.length = 153 ∧ nth t 1 = .i .i64 (n : Int) ∧ nth t 8 = w ∧ nth t 16 = .p b 0 ∧ nth t 17 = .i .i64 (i : Int) ∧ Ext h h2 ∧ Own h 2 h2 w i (spots ((tblP n).take i))) ?_ n ?_
  · rintro kk t h2 ⟨i, w, rfl, hi, tl, t1, t8, t16, t17, e2, o2⟩
    unfold b43_4
    by_cases hlt : i < n
    · have hlt' : (i : Int) < (n : Int) := by omega
      have hrem := rem_eq i
      have hquo : IntKind.i64.wrap ((i : Int).tdiv 2) = ((i / 2 : Nat) : Int) := by
        rw [show (i : Int).tdiv 2 = ((i / 2 : Nat) : Int) from rfl]
        exact wrap_in (by omega) (by omega)
      obtain ⟨c, hc⟩ : ∃ c, (if i % 2 = 0 then mid (n - n / 2) else mid (n / 2))[i / 2]? = some c := by
        refine ⟨_, List.getElem?_eq_getElem ?_⟩
        split <;> rw [mid_len] <;> omega
      have htb : (tblP n)[i]? = some (((i % 2 : Nat) : Int), c) := by
        simp only [tblP, List.getElem?_map, List.getElem?_range hlt, Option.map_some, List.getD_eq_getElem?_getD, hc, Option.getD_some]
      have l1 : ldV h2 (.p b 0) = some u1 := by rw [← g1]; simp only [ldV]; rw [e2.same b hb]
      have l2 : ldV h2 (.p b 1) = some u2 := by rw [← g2]; simp only [ldV]; rw [e2.same b hb]
      obtain ⟨w', h5, r1, r2, r3, _⟩ := app_pt ((i % 2 : Nat) : Int) c o2 e2 (by omega)
      rw [← take_succ' htb] at r3
      by_cases hp : i % 2 = 0
      · rw [if_pos hp] at hc
        have hci := (List.getElem?_eq_some_iff.1 hc).1
        have j1 := i1.ext e2
        have hld := j1.ld hc
        have hix : ixAV 2 1 (.p b 0) (.i .i64 ((i % 2 : Nat) : Int)) = some (.p b 0) := by rw [ixA_ok (by omega), hp]
        simp only [go_sem, ↓reduceIte, r43_33, r43_34, r43_35, tl, t1, t8, t16, t17, hlt', hrem, hquo, hix, l1, j1.ix hci, hld, r1, wrap_succ (show i < 1000000000 by omega)]
        exact ⟨n - (i + 1), by omega, i + 1, w', rfl, hlt, rfl, rfl, r2, r3⟩
      · rw [if_neg hp] at hc
        have hci := (List.getElem?_eq_some_iff.1 hc).1
        have j2 := i2.ext e2
        have hld := j2.ld hc
        have hix : ixAV 2 1 (.p b 0) (.i .i64 ((i % 2 : Nat) : Int)) = some (.p b 1) := by rw [ixA_ok (by omega), show i % 2 = 1 by omega]
        simp only [go_sem, ↓reduceIte, r43_33, r43_34, r43_35, tl, t1, t8, t16, t17, hlt', hrem, hquo, hix, l2, j2.ix hci, hld, r1, wrap_succ (show i < 1000000000 by omega)]
        exact ⟨n - (i + 1), by omega, i + 1, w', rfl, hlt, rfl, rfl, r2, r3⟩
    · have hlt' : ¬ (i : Int) < (n : Int) := by omega
      simp only [go_sem, ↓reduceIte, r43_33, KR, r43_36, tl, t1, t8, t17, hlt']
      obtain rfl : i = n := by omega
      rw [List.take_of_length_le (by simp [tblP])] at o2
      exact hS w h2 e2 o2
  · refine ⟨0, .sn, by omega, by omega, ?_⟩
    simp only [go_sem, ↓reduceIte, tl, t1, t8, t16, t17]
    exact ⟨.refl h, .nil⟩
end Go.Air
/-
  Spots of the program, in Air: all kinds.
-/
set_option maxRecDepth 100000
namespace Go.Air
open Go.Air.Try

/-- the places at a table. -/
theorem tbl_loop {h : H} {n b : Nat} {u1 u2 : V} (hn : n ≤ 200) (hb : b < h.next) (g1 : ldV h (.p b 0) = some u1) (g2 : ldV h (.p b 1) = some u2) (i1 : Ints h u1 (mid (n - n / 2))) (i2 : Ints h u2 (mid (n / 2)))
    {t : List V} (tl : t.length = 132) (t11 : nth t 11 = .p b 0) (t12 : nth t 12 = .sn) (t112 : nth t 112 = .i .i64 (n : Int)) (t113 : nth t 113 = .i .i64 0)
    {S : V → H → Prop} (hS : ∀ w h', Ext h h' → Own h 2 h' w n (spots (tblP n)) → S (.tup [w, .i .i64 0]) h') :
    W tblA (.loop b42_1) t h (Kblk 3 (Kseq tblA (.seq (.ops r42_28) .ret) (Kblk 0 (Kseq tblA (.seq (.ops r42_29) .ret) (Kfn [.tmp 6, .tmp 7] S))))) := by
  refine W_while (fun kk t h2 => ∃ (i : Nat) (w : V), kk = n - i ∧ i ≤ n ∧ t.length = 132 ∧ nth t 11 = .p b 0 ∧ nth t 12 = w ∧ nth t 112 = .i .i64 (n : Int) ∧ nth t 113 = .i .i64 (i : Int) ∧ Ext h h2 ∧ Own h 2 h2 w i (spots ((tblP n).take i))) ?_ n ?_
  · rintro kk t h2 ⟨i, w, rfl, hi, tl, t11, t12, t112, t113, e2, o2⟩
    unfold b42_1
    by_cases hlt : i < n
    · have hlt' : (i : Int) < (n : Int) := by omega
      have hrem := rem_eq i
      have hquo : IntKind.i64.wrap ((i : Int).tdiv 2) = ((i / 2 : Nat) : Int) := by
        rw [show (i : Int).tdiv 2 = ((i / 2 : Nat) : Int) from rfl]
        exact wrap_in (by omega) (by omega)
      obtain ⟨c, hc⟩ : ∃ c, (if i % 2 = 0 then mid (n - n / 2) else mid (n / 2))[i / 2]? = some c := by
        refine ⟨_, List.getElem?_eq_getElem ?_⟩
        split <;> rw [mid_len] <;> omega
      have htb : (tblP n)[i]? = some (((i % 2 : Nat) : Int), c) := by
        simp only [tblP, List.getElem?_map, List.getElem?_range hlt, Option.map_some, List.getD_eq_getElem?_getD, hc, Option.getD_some]
      have l1 : ldV h2 (.p b 0) = some u1 := by rw [← g1]; simp only [ldV]; rw [e2.same b hb]
      have l2 : ldV h2 (.p b 1) = some u2 := by rw [← g2]; simp only [ldV]; rw [e2.same b hb]
      obtain ⟨o4, x4⟩ := Own.lit (esz := 2) (Ext.refl h2) [.i .i64 ((i % 2 : Nat) : Int), .i .i64 c] 1 rfl
      obtain ⟨w', h5, r1, r2, r3, _⟩ := Own.app (bytes := 16) (o2.ext x4) (e2.trans x4) o4.sl (by intro u hu; simp at hu; rcases hu with rfl | rfl <;> rfl) (by omega) (by omega) (by omega)
      have hfin : ∃ m, m < n - i ∧ ∃ (i' : Nat) (w : V), m = n - i' ∧ i' ≤ n ∧ V.i .i64 ((i + 1 : Nat) : Int) = V.i .i64 (i' : Int) ∧ Ext h h5 ∧ Own h 2 h5 w' i' (spots ((tblP n).take i')) := by
        refine ⟨n - (i + 1), by omega, i + 1, w', rfl, hlt, rfl, r2, ?_⟩
        rw [take_succ' htb, spots_append]
        exact r3
      by_cases hp : i % 2 = 0
      · rw [if_pos hp] at hc
        have hci := (List.getElem?_eq_some_iff.1 hc).1
        have j1 := i1.ext e2
        have hld := j1.ld hc
        have hix : ixAV 2 1 (.p b 0) (.i .i64 ((i % 2 : Nat) : Int)) = some (.p b 0) := by rw [ixA_ok (by omega), hp]
        simp only [go_sem, ↓reduceIte, r42_24, r42_25, r42_26, r42_27, tl, t11, t12, t112, t113, hlt', hrem, hquo, hix, l1, j1.ix hci, hld, r1, wrap_succ (show i < 1000000000 by omega)]
        obtain ⟨m, p1, i', _, p2, p3, p4, p5, p6⟩ := hfin
        exact ⟨m, p1, i', w', p2, p3, rfl, p4, p5, p6⟩
      · rw [if_neg hp] at hc
        have hci := (List.getElem?_eq_some_iff.1 hc).1
        have j2 := i2.ext e2
        have hld := j2.ld hc
        have hix : ixAV 2 1 (.p b 0) (.i .i64 ((i % 2 : Nat) : Int)) = some (.p b 1) := by rw [ixA_ok (by omega), show i % 2 = 1 by omega]
        simp only [go_sem, ↓reduceIte, r42_24, r42_25, r42_26, r42_27, tl, t11, t12, t112, t113, hlt', hrem, hquo, hix, l2, j2.ix hci, hld, r1, wrap_succ (show i < 1000000000 by omega)]
        obtain ⟨m, p1, i', _, p2, p3, p4, p5, p6⟩ := hfin
        exact ⟨m, p1, i', w', p2, p3, rfl, p4, p5, p6⟩
    · have hlt' : ¬ (i : Int) < (n : Int) := by omega
      simp only [go_sem, ↓reduceIte, r42_24, r42_28, tl, t12, t112, t113, hlt']
      obtain rfl : i = n := by omega
      rw [List.take_of_length_le (by simp [tblP])] at o2
      exact hS w h2 e2 o2
  · refine ⟨0, .sn, by omega, by omega, ?_⟩
    simp only [go_sem, ↓reduceIte, tl, t11, t12, t112, t113]
    exact ⟨.refl h, .nil⟩

def St42 (t : List V) (kd : Int) (m : Nat) (k : Int) : Prop := t.length = 132 ∧ nth t 0 = .i .u8 kd ∧ nth t 1 = .i .i64 (m : Int) ∧ nth t 2 = .i .i64 k
theorem ops42_3 {t : List V} {h : H} {kd k : Int} {m : Nat} {Q : Out → List V → H → Prop} (s : St42 t kd m k) (hQ : ∀ t', St42 t' kd m k → nth t' 20 = .b (decide (kd = 1 ∧ k = 0)) → Q .norm t' h) : WL tblA r42_3 t h (Kops Q) := by
  obtain ⟨tl, t0, t1, t2⟩ := s
  by_cases c0 : kd = 1
  · by_cases c1 : k = 0
    · simp only [go_sem, ↓reduceIte, r42_3, tl, t0, t1, t2, c0, c1]
      exact hQ _ ⟨by simp only [go_sem, ↓reduceIte, tl], by simp only [go_sem, ↓reduceIte, t0], by simp only [go_sem, ↓reduceIte, t1], by simp only [go_sem, ↓reduceIte, t2]⟩ (by simp only [go_sem, ↓reduceIte, tl]; simp [c0, c1])
    · simp only [go_sem, ↓reduceIte, r42_3, tl, t0, t1, t2, c0, c1]
      exact hQ _ ⟨by simp only [go_sem, ↓reduceIte, tl], by simp only [go_sem, ↓reduceIte, t0], by simp only [go_sem, ↓reduceIte, t1], by simp only [go_sem, ↓reduceIte, t2]⟩ (by simp only [go_sem, ↓reduceIte, tl]; simp [c1])
  · simp only [go_sem, ↓reduceIte, r42_3, tl, t0, t1, t2, c0]
    exact hQ _ ⟨by simp only [go_sem, ↓reduceIte, tl], by simp only [go_sem, ↓reduceIte, t0], by simp only [go_sem, ↓reduceIte, t1], by simp only [go_sem, ↓reduceIte, t2]⟩ (by simp only [go_sem, ↓reduceIte, tl]; simp [c0])

theorem ops42_5 {t : List V} {h : H} {kd k : Int} {m : Nat} {Q : Out → List V → H → Prop} (s : St42 t kd m k) (hQ : ∀ t', St42 t' kd m k → nth t' 30 = .b (decide (kd = 2 ∧ 1 ≤ k ∧ k ≤ 200)) → Q .norm t' h) : WL tblA r42_5 t h (Kops Q) := by
  obtain ⟨tl, t0, t1, t2⟩ := s
  by_cases c0 : kd = 2
  · by_cases c1 : 1 ≤ k
    · by_cases c2 : k ≤ 200
      · simp only [go_sem, ↓reduceIte, r42_5, tl, t0, t1, t2, c0, c1, c2]
        exact hQ _ ⟨by simp only [go_sem, ↓reduceIte, tl], by simp only [go_sem, ↓reduceIte, t0], by simp only [go_sem, ↓reduceIte, t1], by simp only [go_sem, ↓reduceIte, t2]⟩ (by simp only [go_sem, ↓reduceIte, tl]; simp [c0, c1, c2])
      · simp only [go_sem, ↓reduceIte, r42_5, tl, t0, t1, t2, c0, c1, c2]
        exact hQ _ ⟨by simp only [go_sem, ↓reduceIte, tl], by simp only [go_sem, ↓reduceIte, t0], by simp only [go_sem, ↓reduceIte, t1], by simp only [go_sem, ↓reduceIte, t2]⟩ (by simp only [go_sem, ↓reduceIte, tl]; simp [c2])
    · simp only [go_sem, ↓reduceIte, r42_5, tl, t0, t1, t2, c0, c1]
      exact hQ _ ⟨by simp only [go_sem, ↓reduceIte, tl], by simp only [go_sem, ↓reduceIte, t0], by simp only [go_sem, ↓reduceIte, t1], by simp only [go_sem, ↓reduceIte, t2]⟩ (by simp only [go_sem, ↓reduceIte, tl]; simp [c1])
  · simp only [go_sem, ↓reduceIte, r42_5, tl, t0, t1, t2, c0]
    exact hQ _ ⟨by simp only [go_sem, ↓reduceIte, tl], by simp only [go_sem, ↓reduceIte, t0], by simp only [go_sem, ↓reduceIte, t1], by simp only [go_sem, ↓reduceIte, t2]⟩ (by simp only [go_sem, ↓reduceIte, tl]; simp [c0])

theorem ops42_12 {t : List V} {h : H} {kd k : Int} {m : Nat} {Q : Out → List V → H → Prop} (s : St42 t kd m k) (hQ : ∀ t', St42 t' kd m k → nth t' 63 = .b (decide (kd = 3 ∧ k = 0)) → Q .norm t' h) : WL tblA r42_12 t h (Kops Q) := by
  obtain ⟨tl, t0, t1, t2⟩ := s
  by_cases c0 : kd = 3
  · by_cases c1 : k = 0
    · simp only [go_sem, ↓reduceIte, r42_12, tl, t0, t1, t2, c0, c1]
      exact hQ _ ⟨by simp only [go_sem, ↓reduceIte, tl], by simp only [go_sem, ↓reduceIte, t0], by simp only [go_sem, ↓reduceIte, t1], by simp only [go_sem, ↓reduceIte, t2]⟩ (by simp only [go_sem, ↓reduceIte, tl]; simp [c0, c1])
    · simp only [go_sem, ↓reduceIte, r42_12, tl, t0, t1, t2, c0, c1]
      exact hQ _ ⟨by simp only [go_sem, ↓reduceIte, tl], by simp only [go_sem, ↓reduceIte, t0], by simp only [go_sem, ↓reduceIte, t1], by simp only [go_sem, ↓reduceIte, t2]⟩ (by simp only [go_sem, ↓reduceIte, tl]; simp [c1])
  · simp only [go_sem, ↓reduceIte, r42_12, tl, t0, t1, t2, c0]
    exact hQ _ ⟨by simp only [go_sem, ↓reduceIte, tl], by simp only [go_sem, ↓reduceIte, t0], by simp only [go_sem, ↓reduceIte, t1], by simp only [go_sem, ↓reduceIte, t2]⟩ (by simp only [go_sem, ↓reduceIte, tl]; simp [c0])

theorem ops42_14 {t : List V} {h : H} {kd k : Int} {m : Nat} {Q : Out → List V → H → Prop} (s : St42 t kd m k) (hQ : ∀ t', St42 t' kd m k → nth t' 73 = .b (decide (kd = 3 ∧ k = 1)) → Q .norm t' h) : WL tblA r42_14 t h (Kops Q) := by
  obtain ⟨tl, t0, t1, t2⟩ := s
  by_cases c0 : kd = 3
  · by_cases c1 : k = 1
    · simp only [go_sem, ↓reduceIte, r42_14, tl, t0, t1, t2, c0, c1]
      exact hQ _ ⟨by simp only [go_sem, ↓reduceIte, tl], by simp only [go_sem, ↓reduceIte, t0], by simp only [go_sem, ↓reduceIte, t1], by simp only [go_sem, ↓reduceIte, t2]⟩ (by simp only [go_sem, ↓reduceIte, tl]; simp [c0, c1])
    · simp only [go_sem, ↓reduceIte, r42_14, tl, t0, t1, t2, c0, c1]
      exact hQ _ ⟨by simp only [go_sem, ↓reduceIte, tl], by simp only [go_sem, ↓reduceIte, t0], by simp only [go_sem, ↓reduceIte, t1], by simp only [go_sem, ↓reduceIte, t2]⟩ (by simp only [go_sem, ↓reduceIte, tl]; simp [c1])
  · simp only [go_sem, ↓reduceIte, r42_14, tl, t0, t1, t2, c0]
    exact hQ _ ⟨by simp only [go_sem, ↓reduceIte, tl], by simp only [go_sem, ↓reduceIte, t0], by simp only [go_sem, ↓reduceIte, t1], by simp only [go_sem, ↓reduceIte, t2]⟩ (by simp only [go_sem, ↓reduceIte, tl]; simp [c0])

theorem ops42_16 {t : List V} {h : H} {kd k : Int} {m : Nat} {Q : Out → List V → H → Prop} (s : St42 t kd m k) (hQ : ∀ t', St42 t' kd m k → nth t' 83 = .b (decide (kd = 3 ∧ k = 2)) → Q .norm t' h) : WL tblA r42_16 t h (Kops Q) := by
  obtain ⟨tl, t0, t1, t2⟩ := s
  by_cases c0 : kd = 3
  · by_cases c1 : k = 2
    · simp only [go_sem, ↓reduceIte, r42_16, tl, t0, t1, t2, c0, c1]
      exact hQ _ ⟨by simp only [go_sem, ↓reduceIte, tl], by simp only [go_sem, ↓reduceIte, t0], by simp only [go_sem, ↓reduceIte, t1], by simp only [go_sem, ↓reduceIte, t2]⟩ (by simp only [go_sem, ↓reduceIte, tl]; simp [c0, c1])
    · simp only [go_sem, ↓reduceIte, r42_16, tl, t0, t1, t2, c0, c1]
      exact hQ _ ⟨by simp only [go_sem, ↓reduceIte, tl], by simp only [go_sem, ↓reduceIte, t0], by simp only [go_sem, ↓reduceIte, t1], by simp only [go_sem, ↓reduceIte, t2]⟩ (by simp only [go_sem, ↓reduceIte, tl]; simp [c1])
  · simp only [go_sem, ↓reduceIte, r42_16, tl, t0, t1, t2, c0]
    exact hQ _ ⟨by simp only [go_sem, ↓reduceIte, tl], by simp only [go_sem, ↓reduceIte, t0], by simp only [go_sem, ↓reduceIte, t1], by simp only [go_sem, ↓reduceIte, t2]⟩ (by simp only [go_sem, ↓reduceIte, tl]; simp [c0])

theorem ops42_20 {t : List V} {h : H} {kd k : Int} {m : Nat} {Q : Out → List V → H → Prop} (s : St42 t kd m k) (hQ : ∀ t', St42 t' kd m k → nth t' 96 = .b (decide (kd = 4 ∧ k = 0)) → Q .norm t' h) : WL tblA r42_20 t h (Kops Q) := by
  obtain ⟨tl, t0, t1, t2⟩ := s
  by_cases c0 : kd = 4
  · by_cases c1 : k = 0
    · simp only [go_sem, ↓reduceIte, r42_20, tl, t0, t1, t2, c0, c1]
      exact hQ _ ⟨by simp only [go_sem, ↓reduceIte, tl], by simp only [go_sem, ↓reduceIte, t0], by simp only [go_sem, ↓reduceIte, t1], by simp only [go_sem, ↓reduceIte, t2]⟩ (by simp only [go_sem, ↓reduceIte, tl]; simp [c0, c1])
    · simp only [go_sem, ↓reduceIte, r42_20, tl, t0, t1, t2, c0, c1]
      exact hQ _ ⟨by simp only [go_sem, ↓reduceIte, tl], by simp only [go_sem, ↓reduceIte, t0], by simp only [go_sem, ↓reduceIte, t1], by simp only [go_sem, ↓reduceIte, t2]⟩ (by simp only [go_sem, ↓reduceIte, tl]; simp [c1])
  · simp only [go_sem, ↓reduceIte, r42_20, tl, t0, t1, t2, c0]
    exact hQ _ ⟨by simp only [go_sem, ↓reduceIte, tl], by simp only [go_sem, ↓reduceIte, t0], by simp only [go_sem, ↓reduceIte, t1], by simp only [go_sem, ↓reduceIte, t2]⟩ (by simp only [go_sem, ↓reduceIte, tl]; simp [c0])


theorem fn_Spots {h : H} {kind n k : Int} : WC tblA (.fn 42 [] []) [.i .u8 kind, .i .i64 n, .i .i64 k] h fun u h' => SpotsRes h h' kind n k u := by
  refine (WC_in t42).2 ?_
  by_cases hn1 : n < 0
  · simp only [go_sem, ↓reduceIte, r42_0, r42_1, r42_2, hn1]
    exact res_none (.refl h) (by unfold spotsS; rw [if_pos (.inl hn1)])
  by_cases hn2 : 200 < n
  · simp only [go_sem, ↓reduceIte, r42_0, r42_1, r42_2, hn1, hn2]
    exact res_none (.refl h) (by unfold spotsS; rw [if_pos (.inr hn2)])
  obtain ⟨m, rfl⟩ := Int.eq_ofNat_of_zero_le (a := n) (by omega)
  have hm : m ≤ 200 := by omega
  have hS := spotsS_nat (kind := kind) (k := k) hm
  unfold spotsN at hS
  simp only [go_sem, ↓reduceIte, r42_0, r42_1, hn1, hn2]
  refine ops42_3 (kd := kind) (m := m) (k := k) ⟨by simp only [go_sem, ↓reduceIte], by simp only [go_sem, ↓reduceIte], by simp only [go_sem, ↓reduceIte], by simp only [go_sem, ↓reduceIte]⟩ ?_
  rintro t ⟨tl, t0, t1, t2⟩ c
  by_cases c1 : kind = 1 ∧ k = 0
  · rw [if_pos c1] at hS
    rw [decide_eq_true c1] at c
    simp only [go_sem, ↓reduceIte, r42_4, c, tl, t1]
    refine (fn_upTo (n := m) (by omega)).mono ?_
    rintro _ h1 ⟨e1, b, rfl, hb, hb2, g⟩
    have i1 : Ints h1 (.sl b 0 m m none) (upN m) := (Ints.of (n := m) (.inr ⟨b, 0, m, none, _, rfl, hb2, g, cut_eq.2 ⟨by simp [ints, upN], by rw [List.drop_zero, List.take_of_length_le (by simp [ints, upN])]⟩⟩)).1
    simp only [go_sem, ↓reduceIte, tl]
    refine (fn_row i1 (by simp [upN]; omega)).mono ?_
    rintro w h2 ⟨e2, o2⟩
    simp only [go_sem, ↓reduceIte, tl]
    exact res_own (e1.trans e2) o2 hS
  rw [if_neg c1] at hS
  rw [decide_eq_false c1] at c
  simp only [go_sem, ↓reduceIte, c]
  refine ops42_5 (kd := kind) (m := m) (k := k) ⟨tl, t0, t1, t2⟩ ?_
  clear c tl t0 t1 t2
  rintro t ⟨tl, t0, t1, t2⟩ c
  by_cases c2 : kind = 2 ∧ 1 ≤ k ∧ k ≤ 200
  · rw [if_pos c2] at hS
    rw [decide_eq_true c2] at c
    obtain ⟨q, rfl⟩ := Int.eq_ofNat_of_zero_le (a := k) (by omega)
    simp only [Int.ofNat_eq_natCast, Int.toNat_natCast] at hS
    simp only [go_sem, ↓reduceIte, r42_6, r42_7, c]
    refine prc_loop (n := m) (k := q) hm (by omega) (by omega) (by simp only [go_sem, ↓reduceIte, tl]) (by simp only [go_sem, ↓reduceIte, t1]) (by simp only [go_sem, ↓reduceIte, t2]) (by simp only [go_sem, ↓reduceIte, tl]) (by simp only [go_sem, ↓reduceIte, tl]) ?_ (fun _ _ _ => True)
    intro w h' e' o'
    exact res_own e' o' hS
  rw [if_neg c2] at hS
  rw [decide_eq_false c2] at c
  simp only [go_sem, ↓reduceIte, c]
  refine ops42_12 (kd := kind) (m := m) (k := k) ⟨tl, t0, t1, t2⟩ ?_
  clear c tl t0 t1 t2
  rintro t ⟨tl, t0, t1, t2⟩ c
  by_cases c3 : kind = 3 ∧ k = 0
  · rw [if_pos c3] at hS
    rw [decide_eq_true c3] at c
    simp only [go_sem, ↓reduceIte, r42_13, c, tl, t1]
    refine (fn_middle (m := m) (by omega)).mono ?_
    rintro u1 h1 ⟨e1, o1⟩
    simp only [go_sem, ↓reduceIte, tl]
    refine (fn_row (Ints.of o1.sl).1 (by rw [mid_len]; omega)).mono ?_
    rintro w h2 ⟨e2, o2⟩
    simp only [go_sem, ↓reduceIte, tl]
    exact res_own (e1.trans e2) o2 hS
  rw [if_neg c3] at hS
  rw [decide_eq_false c3] at c
  simp only [go_sem, ↓reduceIte, c]
  refine ops42_14 (kd := kind) (m := m) (k := k) ⟨tl, t0, t1, t2⟩ ?_
  clear c tl t0 t1 t2
  rintro t ⟨tl, t0, t1, t2⟩ c
  by_cases c4 : kind = 3 ∧ k = 1
  · rw [if_pos c4] at hS
    rw [decide_eq_true c4] at c
    simp only [go_sem, ↓reduceIte, r42_15, c, tl, t1]
    refine (fn_upTo (n := m) (by omega)).mono ?_
    rintro _ h1 ⟨e1, b, rfl, hb, hb2, g⟩
    have i1 : Ints h1 (.sl b 0 m m none) (upN m) := (Ints.of (n := m) (.inr ⟨b, 0, m, none, _, rfl, hb2, g, cut_eq.2 ⟨by simp [ints, upN], by rw [List.drop_zero, List.take_of_length_le (by simp [ints, upN])]⟩⟩)).1
    simp only [go_sem, ↓reduceIte, tl]
    refine (fn_row i1 (by simp [upN]; omega)).mono ?_
    rintro w h2 ⟨e2, o2⟩
    simp only [go_sem, ↓reduceIte, tl]
    exact res_own (e1.trans e2) o2 hS
  rw [if_neg c4] at hS
  rw [decide_eq_false c4] at c
  simp only [go_sem, ↓reduceIte, c]
  refine ops42_16 (kd := kind) (m := m) (k := k) ⟨tl, t0, t1, t2⟩ ?_
  clear c tl t0 t1 t2
  rintro t ⟨tl, t0, t1, t2⟩ c
  by_cases c5 : kind = 3 ∧ k = 2
  · rw [if_pos c5] at hS
    rw [decide_eq_true c5] at c
    simp only [go_sem, ↓reduceIte, r42_17, c, tl, t1]
    refine (fn_upTo (n := m) (by omega)).mono ?_
    rintro _ h1 ⟨e1, b, rfl, hb, hb2, g⟩
    simp only [go_sem, ↓reduceIte, r42_18, tl]
    refine (fn_Reverse e1 hb hb2 g (by simp [upN]) (by omega)).mono ?_
    rintro _ h2 ⟨e2, hb3, g2⟩
    have i1 : Ints h2 (.sl b 0 m m none) (upN m).reverse := (Ints.of (n := m) (.inr ⟨b, 0, m, none, _, rfl, hb3, g2, cut_eq.2 ⟨by simp [ints, upN], by rw [List.drop_zero, List.take_of_length_le (by simp [ints, upN])]⟩⟩)).1
    simp only [go_sem, ↓reduceIte, r42_19, tl]
    refine (fn_row i1 (by simp [upN]; omega)).mono ?_
    rintro w h3 ⟨e3, o3⟩
    simp only [go_sem, ↓reduceIte, tl]
    exact res_own (e2.trans e3) o3 hS
  rw [if_neg c5] at hS
  rw [decide_eq_false c5] at c
  simp only [go_sem, ↓reduceIte, c]
  refine ops42_20 (kd := kind) (m := m) (k := k) ⟨tl, t0, t1, t2⟩ ?_
  clear c tl t0 t1 t2
  rintro t ⟨tl, t0, t1, t2⟩ c
  by_cases c6 : kind = 4 ∧ k = 0
  · rw [if_pos c6] at hS
    rw [decide_eq_true c6] at c
    have w1 : IntKind.i64.wrap ((m : Int).tdiv 2) = ((m / 2 : Nat) : Int) := by
      rw [show (m : Int).tdiv 2 = ((m / 2 : Nat) : Int) from rfl]
      exact wrap_in (by omega) (by omega)
    have w2 : IntKind.i64.wrap ((m : Int) - ((m / 2 : Nat) : Int)) = ((m - m / 2 : Nat) : Int) := by
      rw [wrap_in (by omega) (by omega)]; omega
    simp only [go_sem, ↓reduceIte, r42_21, c, tl, t1, w1, w2]
    refine (fn_middle (m := m - m / 2) (by omega)).mono ?_
    rintro u1 h1 ⟨e1, o1⟩
    simp only [go_sem, ↓reduceIte, tl, t1, w1]
    refine (fn_middle (m := m / 2) (by omega)).mono ?_
    rintro u2 h2 ⟨e2, o2⟩
    obtain ⟨h3, q1, e3, gc, n3, ld0, ld1⟩ := st_new2 h2 .sn .sn (x := u1) (y := u2) o1.one.2 o2.one.2
    simp only [go_sem, ↓reduceIte, fill2_of o1.one.1 o2.one.1, q1, r42_22, r42_23, tl, t1]
    refine tbl_loop (n := m) (b := h2.next) (u1 := u1) (u2 := u2) hm (by omega) ld0 ld1 ((Ints.of o1.sl).1.ext (e2.trans e3)) ((Ints.of o2.sl).1.ext e3) (by simp only [go_sem, ↓reduceIte, tl]) (by simp only [go_sem, ↓reduceIte, tl]) (by simp only [go_sem, ↓reduceIte, tl]) (by simp only [go_sem, ↓reduceIte, tl]) (by simp only [go_sem, ↓reduceIte, tl]) ?_
    intro w h' e' o'
    exact res_own (e1.trans (e2.trans (e3.trans e'))) o' hS
  rw [if_neg c6] at hS
  rw [decide_eq_false c6] at c
  simp only [go_sem, ↓reduceIte, r42_29, c, tl]
  exact res_none (.refl h) hS
end Go.Air
/-
  Spots of the document, in Air: all kinds.
-/
set_option maxRecDepth 100000
namespace Go.Air
open Go.Air.Try

def St43 (t : List V) (kd : Int) (m : Nat) (k : Int) : Prop := t.length = 153 ∧ nth t 0 = .i .u8 kd ∧ nth t 1 = .i .i64 (m : Int) ∧ nth t 2 = .i .i64 k
theorem ops43_5 {t : List V} {h : H} {kd k : Int} {m : Nat} {Q : Out → List V → H → Prop} (s : St43 t kd m k) (hQ : ∀ t', St43 t' kd m k → nth t' 8 = nth t 8 → nth t' 24 = .b (decide (kd = 1 ∧ k = 0)) → Q .norm t' h) : WL tblA r43_5 t h (Kops Q) := by
  obtain ⟨tl, t0, t1, t2⟩ := s
  by_cases c0 : kd = 1
  · by_cases c1 : k = 0
    · simp only [go_sem, ↓reduceIte, r43_5, tl, t0, t1, t2, c0, c1]
      exact hQ _ ⟨by simp only [go_sem, ↓reduceIte, tl], by simp only [go_sem, ↓reduceIte, t0], by simp only [go_sem, ↓reduceIte, t1], by simp only [go_sem, ↓reduceIte, t2]⟩ (by simp only [go_sem, ↓reduceIte, tl]) (by simp only [go_sem, ↓reduceIte, tl]; simp [c0, c1])
    · simp only [go_sem, ↓reduceIte, r43_5, tl, t0, t1, t2, c0, c1]
      exact hQ _ ⟨by simp only [go_sem, ↓reduceIte, tl], by simp only [go_sem, ↓reduceIte, t0], by simp only [go_sem, ↓reduceIte, t1], by simp only [go_sem, ↓reduceIte, t2]⟩ (by simp only [go_sem, ↓reduceIte, tl]) (by simp only [go_sem, ↓reduceIte, tl]; simp [c1])
  · simp only [go_sem, ↓reduceIte, r43_5, tl, t0, t1, t2, c0]
    exact hQ _ ⟨by simp only [go_sem, ↓reduceIte, tl], by simp only [go_sem, ↓reduceIte, t0], by simp only [go_sem, ↓reduceIte, t1], by simp only [go_sem, ↓reduceIte, t2]⟩ (by simp only [go_sem, ↓reduceIte, tl]) (by simp only [go_sem, ↓reduceIte, tl]; simp [c0])
theorem ops43_10 {t : List V} {h : H} {kd k : Int} {m : Nat} {Q : Out → List V → H → Prop} (s : St43 t kd m k) (hQ : ∀ t', St43 t' kd m k → nth t' 8 = nth t 8 → nth t' 41 = .b (decide (kd = 2 ∧ 1 ≤ k ∧ k ≤ 200)) → Q .norm t' h) : WL tblA r43_10 t h (Kops Q) := by
  obtain ⟨tl, t0, t1, t2⟩ := s
  by_cases c0 : kd = 2
  · by_cases c1 : 1 ≤ k
    · by_cases c2 : k ≤ 200
      · simp only [go_sem, ↓reduceIte, r43_10, tl, t0, t1, t2, c0, c1, c2]
        exact hQ _ ⟨by simp only [go_sem, ↓reduceIte, tl], by simp only [go_sem, ↓reduceIte, t0], by simp only [go_sem, ↓reduceIte, t1], by simp only [go_sem, ↓reduceIte, t2]⟩ (by simp only [go_sem, ↓reduceIte, tl]) (by simp only [go_sem, ↓reduceIte, tl]; simp [c0, c1, c2])
      · simp only [go_sem, ↓reduceIte, r43_10, tl, t0, t1, t2, c0, c1, c2]
        exact hQ _ ⟨by simp only [go_sem, ↓reduceIte, tl], by simp only [go_sem, ↓reduceIte, t0], by simp only [go_sem, ↓reduceIte, t1], by simp only [go_sem, ↓reduceIte, t2]⟩ (by simp only [go_sem, ↓reduceIte, tl]) (by simp only [go_sem, ↓reduceIte, tl]; simp [c2])
    · simp only [go_sem, ↓reduceIte, r43_10, tl, t0, t1, t2, c0, c1]
      exact hQ _ ⟨by simp only [go_sem, ↓reduceIte, tl], by simp only [go_sem, ↓reduceIte, t0], by simp only [go_sem, ↓reduceIte, t1], by simp only [go_sem, ↓reduceIte, t2]⟩ (by simp only [go_sem, ↓reduceIte, tl]) (by simp only [go_sem, ↓reduceIte, tl]; simp [c1])
  · simp only [go_sem, ↓reduceIte, r43_10, tl, t0, t1, t2, c0]
    exact hQ _ ⟨by simp only [go_sem, ↓reduceIte, tl], by simp only [go_sem, ↓reduceIte, t0], by simp only [go_sem, ↓reduceIte, t1], by simp only [go_sem, ↓reduceIte, t2]⟩ (by simp only [go_sem, ↓reduceIte, tl]) (by simp only [go_sem, ↓reduceIte, tl]; simp [c0])
theorem ops43_19 {t : List V} {h : H} {kd k : Int} {m : Nat} {Q : Out → List V → H → Prop} (s : St43 t kd m k) (hQ : ∀ t', St43 t' kd m k → nth t' 8 = nth t 8 → nth t' 82 = .b (decide (kd = 3 ∧ 0 ≤ k ∧ k ≤ 2)) → Q .norm t' h) : WL tblA r43_19 t h (Kops Q) := by
  obtain ⟨tl, t0, t1, t2⟩ := s
  by_cases c0 : kd = 3
  · by_cases c1 : 0 ≤ k
    · by_cases c2 : k ≤ 2
      · simp only [go_sem, ↓reduceIte, r43_19, tl, t0, t1, t2, c0, c1, c2]
        exact hQ _ ⟨by simp only [go_sem, ↓reduceIte, tl], by simp only [go_sem, ↓reduceIte, t0], by simp only [go_sem, ↓reduceIte, t1], by simp only [go_sem, ↓reduceIte, t2]⟩ (by simp only [go_sem, ↓reduceIte, tl]) (by simp only [go_sem, ↓reduceIte, tl]; simp [c0, c1, c2])
      · simp only [go_sem, ↓reduceIte, r43_19, tl, t0, t1, t2, c0, c1, c2]
        exact hQ _ ⟨by simp only [go_sem, ↓reduceIte, tl], by simp only [go_sem, ↓reduceIte, t0], by simp only [go_sem, ↓reduceIte, t1], by simp only [go_sem, ↓reduceIte, t2]⟩ (by simp only [go_sem, ↓reduceIte, tl]) (by simp only [go_sem, ↓reduceIte, tl]; simp [c2])
    · simp only [go_sem, ↓reduceIte, r43_19, tl, t0, t1, t2, c0, c1]
      exact hQ _ ⟨by simp only [go_sem, ↓reduceIte, tl], by simp only [go_sem, ↓reduceIte, t0], by simp only [go_sem, ↓reduceIte, t1], by simp only [go_sem, ↓reduceIte, t2]⟩ (by simp only [go_sem, ↓reduceIte, tl]) (by simp only [go_sem, ↓reduceIte, tl]; simp [c1])
  · simp only [go_sem, ↓reduceIte, r43_19, tl, t0, t1, t2, c0]
    exact hQ _ ⟨by simp only [go_sem, ↓reduceIte, tl], by simp only [go_sem, ↓reduceIte, t0], by simp only [go_sem, ↓reduceIte, t1], by simp only [go_sem, ↓reduceIte, t2]⟩ (by simp only [go_sem, ↓reduceIte, tl]) (by simp only [go_sem, ↓reduceIte, tl]; simp [c0])
theorem ops43_30 {t : List V} {h : H} {kd k : Int} {m : Nat} {Q : Out → List V → H → Prop} (s : St43 t kd m k) (hQ : ∀ t', St43 t' kd m k → nth t' 8 = nth t 8 → nth t' 118 = .b (decide (kd = 4 ∧ k = 0)) → Q .norm t' h) : WL tblA r43_30 t h (Kops Q) := by
  obtain ⟨tl, t0, t1, t2⟩ := s
  by_cases c0 : kd = 4
  · by_cases c1 : k = 0
    · simp only [go_sem, ↓reduceIte, r43_30, tl, t0, t1, t2, c0, c1]
      exact hQ _ ⟨by simp only [go_sem, ↓reduceIte, tl], by simp only [go_sem, ↓reduceIte, t0], by simp only [go_sem, ↓reduceIte, t1], by simp only [go_sem, ↓reduceIte, t2]⟩ (by simp only [go_sem, ↓reduceIte, tl]) (by simp only [go_sem, ↓reduceIte, tl]; simp [c0, c1])
    · simp only [go_sem, ↓reduceIte, r43_30, tl, t0, t1, t2, c0, c1]
      exact hQ _ ⟨by simp only [go_sem, ↓reduceIte, tl], by simp only [go_sem, ↓reduceIte, t0], by simp only [go_sem, ↓reduceIte, t1], by simp only [go_sem, ↓reduceIte, t2]⟩ (by simp only [go_sem, ↓reduceIte, tl]) (by simp only [go_sem, ↓reduceIte, tl]; simp [c1])
  · simp only [go_sem, ↓reduceIte, r43_30, tl, t0, t1, t2, c0]
    exact hQ _ ⟨by simp only [go_sem, ↓reduceIte, tl], by simp only [go_sem, ↓reduceIte, t0], by simp only [go_sem, ↓reduceIte, t1], by simp only [go_sem, ↓reduceIte, t2]⟩ (by simp only [go_sem, ↓reduceIte, tl]) (by simp only [go_sem, ↓reduceIte, tl]; simp [c0])

theorem map_mid (m : Nat) : (List.range m).map (fun i => (mid m).getD i 0) = mid m := by
  apply List.ext_getElem?
  intro i
  by_cases hi : i < m
  · have : i < (mid m).length := by rw [mid_len]; exact hi
    simp [List.getElem?_map, List.getElem?_range hi, List.getD_eq_getElem?_getD, List.getElem?_eq_getElem this]
  · rw [List.getElem?_eq_none (by simp; omega), List.getElem?_eq_none (by rw [mid_len]; omega)]
theorem map_down (m : Nat) : (List.range m).map (fun i : Nat => (m : Int) - 1 - i) = (upN m).reverse := by
  apply List.ext_getElem?
  intro i
  by_cases hi : i < m
  · rw [List.getElem?_map, List.getElem?_range hi, List.getElem?_reverse (by simp [upN]; exact hi)]
    simp only [upN, List.length_map, List.length_range, Option.map_some]
    rw [List.getElem?_map, List.getElem?_range (by omega)]
    simp only [Option.map_some, Option.some.injEq]
    omega
  · rw [List.getElem?_eq_none (by simp; omega), List.getElem?_eq_none (by simp [upN]; omega)]
theorem spots_k3 {kind k : Int} {m : Nat} (h3 : kind = 3 ∧ 0 ≤ k ∧ k ≤ 2) : spotsN kind m k = (inRow 0 ((List.range m).map (fun i : Nat => if k = 2 then (m : Int) - 1 - i else if k = 1 then (i : Int) else (mid m).getD i 0)), 0) := by
  obtain ⟨rfl, a, b⟩ := h3
  have : k = 0 ∨ k = 1 ∨ k = 2 := by omega
  rcases this with rfl | rfl | rfl
  · have := map_mid m
    simp only [List.getD_eq_getElem?_getD] at this
    simp [spotsN, this]
  · simp [spotsN, upN]
  · have := map_down m
    simp [spotsN, this]

theorem fn_refSpots {h : H} {kind n k : Int} : WC tblA (.fn 43 [] []) [.i .u8 kind, .i .i64 n, .i .i64 k] h fun u h' => SpotsRes h h' kind n k u := by
  refine (WC_in t43).2 ?_
  by_cases hn1 : n < 0
  · simp only [go_sem, ↓reduceIte, r43_0, r43_1, r43_2, hn1]
    exact res_none (.refl h) (by unfold spotsS; rw [if_pos (.inl hn1)])
  by_cases hn2 : 200 < n
  · simp only [go_sem, ↓reduceIte, r43_0, r43_1, r43_2, hn1, hn2]
    exact res_none (.refl h) (by unfold spotsS; rw [if_pos (.inr hn2)])
  obtain ⟨m, rfl⟩ := Int.eq_ofNat_of_zero_le (a := n) (by omega)
  have hm : m ≤ 200 := by omega
  have hS := spotsS_nat (kind := kind) (k := k) hm
  simp only [go_sem, ↓reduceIte, r43_0, r43_1, r43_3, hn1, hn2]
  refine ops43_5 (kd := kind) (m := m) (k := k) ⟨by simp only [go_sem, ↓reduceIte], by simp only [go_sem, ↓reduceIte], by simp only [go_sem, ↓reduceIte], by simp only [go_sem, ↓reduceIte]⟩ ?_
  simp only [go_sem, ↓reduceIte]
  rintro t ⟨tl, t0, t1, t2⟩ t8 c
  by_cases c1 : kind = 1 ∧ k = 0
  · rw [show spotsN kind m k = (inRow 0 (upN m), 0) by obtain ⟨rfl, rfl⟩ := c1; simp [spotsN]] at hS
    rw [decide_eq_true c1] at c
    simp only [go_sem, ↓reduceIte, r43_6, c, tl, t1, t8]
    refine ref_line (n := m) hm (by simp only [go_sem, ↓reduceIte, tl]) (by simp only [go_sem, ↓reduceIte, tl, t1]) (by simp only [go_sem, ↓reduceIte, tl, t8]) (by simp only [go_sem, ↓reduceIte, tl]) ?_
    intro w h' e' o'
    exact res_own e' o' hS
  rw [decide_eq_false c1] at c
  simp only [go_sem, ↓reduceIte, c]
  refine ops43_10 (kd := kind) (m := m) (k := k) ⟨tl, t0, t1, t2⟩ ?_
  clear c tl t0 t1 t2
  rintro t' ⟨tl, t0, t1, t2⟩ t8' c
  replace t8 := t8'.trans t8
  by_cases c2 : kind = 2 ∧ 1 ≤ k ∧ k ≤ 200
  · rw [show spotsN kind m k = ((prc m k.toNat (rowsN m k.toNat)).flatten, 0) by obtain ⟨rfl, hk⟩ := c2; simp [spotsN, hk]] at hS
    rw [decide_eq_true c2] at c
    obtain ⟨q, rfl⟩ := Int.eq_ofNat_of_zero_le (a := k) (by omega)
    simp only [Int.ofNat_eq_natCast, Int.toNat_natCast] at hS
    simp only [go_sem, ↓reduceIte, r43_11, c, tl]
    refine ref_prc (n := m) (k := q) hm (by omega) (by omega) (by simp only [go_sem, ↓reduceIte, tl]) (by simp only [go_sem, ↓reduceIte, tl, t1]) (by simp only [go_sem, ↓reduceIte, tl, t2]) (by simp only [go_sem, ↓reduceIte, tl, t8]) (by simp only [go_sem, ↓reduceIte, tl]) ?_
    intro w h' mm e' o'
    exact res_own e' o' hS
  rw [decide_eq_false c2] at c
  simp only [go_sem, ↓reduceIte, c]
  refine ops43_19 (kd := kind) (m := m) (k := k) ⟨tl, t0, t1, t2⟩ ?_
  clear c tl t0 t1 t2
  rintro t' ⟨tl, t0, t1, t2⟩ t8' c
  replace t8 := t8'.trans t8
  by_cases c3 : kind = 3 ∧ 0 ≤ k ∧ k ≤ 2
  · rw [spots_k3 c3] at hS
    rw [decide_eq_true c3] at c
    simp only [go_sem, ↓reduceIte, r43_20, c, tl, t1]
    refine (fn_refMiddle (m := m) (by omega)).mono ?_
    rintro u1 h1 ⟨e1, o1⟩
    simp only [go_sem, ↓reduceIte, r43_21, tl, t1]
    refine ref_masts (n := m) (k := k) (u := u1) (f := fun i : Nat => if k = 2 then (m : Int) - 1 - i else if k = 1 then (i : Int) else (mid m).getD i 0) hm (Ints.of o1.sl).1 (fun i _ => rfl) (by simp only [go_sem, ↓reduceIte, tl]) (by simp only [go_sem, ↓reduceIte, tl, t1]) (by simp only [go_sem, ↓reduceIte, tl, t2]) (by simp only [go_sem, ↓reduceIte, tl, t8]) (by simp only [go_sem, ↓reduceIte, tl]) (by simp only [go_sem, ↓reduceIte, tl]) ?_
    intro w h' e' o'
    exact res_own (e1.trans e') o' hS
  rw [decide_eq_false c3] at c
  simp only [go_sem, ↓reduceIte, c]
  refine ops43_30 (kd := kind) (m := m) (k := k) ⟨tl, t0, t1, t2⟩ ?_
  clear c tl t0 t1 t2
  rintro t' ⟨tl, t0, t1, t2⟩ t8' c
  replace t8 := t8'.trans t8
  by_cases c4 : kind = 4 ∧ k = 0
  · rw [show spotsN kind m k = (tblP m, 0) by obtain ⟨rfl, rfl⟩ := c4; simp [spotsN]] at hS
    rw [decide_eq_true c4] at c
    have w0 : IntKind.i64.wrap ((m : Int) + 1) = ((m + 1 : Nat) : Int) := by
      rw [wrap_in (by omega) (by omega)]; omega
    have w1 : IntKind.i64.wrap (((m + 1 : Nat) : Int).tdiv 2) = ((m - m / 2 : Nat) : Int) := by
      rw [show ((m + 1 : Nat) : Int).tdiv 2 = (((m + 1) / 2 : Nat) : Int) from rfl, wrap_in (by omega) (by omega)]
      omega
    have w2 : IntKind.i64.wrap ((m : Int).tdiv 2) = ((m / 2 : Nat) : Int) := by
      rw [show (m : Int).tdiv 2 = ((m / 2 : Nat) : Int) from rfl]
      exact wrap_in (by omega) (by omega)
    simp only [go_sem, ↓reduceIte, r43_31, c, tl, t1, w0, w1]
    refine (fn_refMiddle (m := m - m / 2) (by omega)).mono ?_
    rintro u1 h1 ⟨e1, o1⟩
    simp only [go_sem, ↓reduceIte, tl, t1, w2]
    refine (fn_refMiddle (m := m / 2) (by omega)).mono ?_
    rintro u2 h2 ⟨e2, o2⟩
    obtain ⟨h3, q1, e3, gc, n3, ld0, ld1⟩ := st_new2 h2 .sn .sn (x := u1) (y := u2) o1.one.2 o2.one.2
    simp only [go_sem, ↓reduceIte, fill2_of o1.one.1 o2.one.1, q1, r43_32, tl, t1]
    refine ref_tbl (n := m) (b := h2.next) (u1 := u1) (u2 := u2) hm (by omega) ld0 ld1 ((Ints.of o1.sl).1.ext (e2.trans e3)) ((Ints.of o2.sl).1.ext e3) (by simp only [go_sem, ↓reduceIte, tl]) (by simp only [go_sem, ↓reduceIte, tl, t1]) (by simp only [go_sem, ↓reduceIte, tl, t8]) (by simp only [go_sem, ↓reduceIte, tl]) (by simp only [go_sem, ↓reduceIte, tl]) ?_
    intro w h' e' o'
    exact res_own (e1.trans (e2.trans (e3.trans e'))) o' hS
  rw [decide_eq_false c4] at c
  simp only [go_sem, ↓reduceIte, r43_4, c, tl]
  refine res_none (.refl h) (hS.trans ?_)
  unfold spotsN
  have z : ¬ (kind = 3 ∧ k = 0) ∧ ¬ (kind = 3 ∧ k = 1) ∧ ¬ (kind = 3 ∧ k = 2) := ⟨by omega, by omega, by omega⟩
  rw [if_neg c1, if_neg c2, if_neg z.1, if_neg z.2.1, if_neg z.2.2, if_neg c4]
end Go.Air
