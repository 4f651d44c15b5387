/-
  Offence and Slights; the law RowsOffends; in Air.
-/
import Derived.Test.YtlldpmkdjpmlpaaOffend
set_option linter.unusedSectionVars false
set_option linter.unusedVariables false
set_option linter.unusedSimpArgs false
set_option maxRecDepth 100000
namespace Go.Air
open Go.Air.Try

theorem t83 : tblA 83 = some a83 := by kernel_rfl
theorem fn_Inner {h : H} {N : Int} {v o : V} {rs : List Arw} {xs : List Int} (hr : Arrs h v rs) (hrn : rs.length ≤ 1000000) (hs : Ints h o xs) (hn : xs.length ≤ 1000000) (gr : GoodR N rs) (go : GoodO N xs) :
    WC tblA (.fn 83 [] []) [.agg [.i .i64 N, v], o] h fun u h' => Ext h h' ∧ u = .i .i64 (sumW (slS xs rs)) := by
  refine (WC_in t83).2 ?_
  obtain ⟨e0, g0⟩ := rel_blk h N v
  simp only [go_sem, ↓reduceIte, r83_0]
  have hb0 : h.next < (h.new (.cells [.i .i64 N, v])).next := by simp
  generalize hh : h.new (.cells [.i .i64 N, v]) = h0 at *
  simp only [go_sem, ↓reduceIte, r83_1, r83_2]
  refine W_while (fun k t h' => ∃ (i : Nat), k = rs.length - i ∧ i ≤ rs.length ∧ t.length = 32 ∧ nth t 1 = o ∧ nth t 2 = .p h.next 0 ∧ nth t 5 = .i .i64 (sumW (slS xs (rs.take i))) ∧ nth t 6 = .i .i64 (i : Int) ∧ Ext h0 h') ?_ rs.length ?_
  · rintro k t h2 ⟨i, rfl, hi, tl, t1, t2, t5, t6, e2⟩
    unfold b83_0
    have l2 : ldV h2 (.p h.next 1) = some v := blk_ld (e2.get hb0 g0) rfl
    have s2 := (hr.ext e0).ext e2
    by_cases hlt : i < rs.length
    · have hlt' : (i : Int) < (rs.length : Int) := by omega
      obtain ⟨a, hx⟩ : ∃ a, rs[i]? = some a := ⟨_, List.getElem?_eq_getElem hlt⟩
      simp only [go_sem, ↓reduceIte, r83_3, r83_5, tl, t1, t2, t5, t6, l2, s2.len, hlt', s2.ix hlt, s2.ldn hx]
      refine (fn_offended ((hs.ext e0).ext e2) hn).mono ?_
      rintro _ h3 ⟨e3, rfl⟩
      rw [off_good gr go hx]
      have hst := slS_step (xs := xs) hx
      have l3 : ldV h3 (.p h.next 1) = some v := blk_ld ((e2.trans e3).get hb0 g0) rfl
      have s3 := s2.ext e3
      have lw := s3.ld (j := 3) hx (by omega)
      rw [show (arw a)[3]? = some (.i .i64 a.w) from rfl] at lw
      by_cases hb : posN a.t xs < posN a.f xs
      · rw [if_pos hb] at hst
        have hs1 : sumW (slS xs (rs.take (i + 1))) = sumW (slS xs (rs.take i)) + a.w := by rw [hst, sumW_append, sumW_one]
        have b1 := sumW_range (L := slS xs (rs.take (i + 1))) fun x hm => slS_range (xs := xs) gr x (by
          obtain ⟨y, hy, hm⟩ := List.mem_flatMap.1 hm
          exact List.mem_flatMap.2 ⟨y, List.mem_of_mem_take hy, hm⟩)
        have b2 := slS_le xs (rs.take (i + 1))
        have b3 : (rs.take (i + 1)).length ≤ i + 1 := by simp; omega
        have hw : IntKind.i64.wrap (sumW (slS xs (rs.take i)) + a.w) = sumW (slS xs (rs.take (i + 1))) := by rw [← hs1]; exact wrap_in (by omega) (by omega)
        simp only [go_sem, ↓reduceIte, r83_4, r83_6, r83_7, tl, t1, t2, t5, t6, hb, l3, s3.ix hlt, lw, hw, wrap_succ (show i < 1000000000 by omega)]
        exact ⟨rs.length - (i + 1), by omega, i + 1, rfl, hlt, rfl, rfl, e2.trans e3⟩
      · rw [if_neg hb, List.append_nil] at hst
        simp only [go_sem, ↓reduceIte, r83_4, r83_6, tl, t1, t2, t5, t6, hb, wrap_succ (show i < 1000000000 by omega)]
        exact ⟨rs.length - (i + 1), by omega, i + 1, rfl, hlt, by rw [hst], rfl, e2.trans e3⟩
    · have hlt' : ¬ (i : Int) < (rs.length : Int) := by omega
      simp only [go_sem, ↓reduceIte, r83_3, r83_8, tl, t1, t2, t5, t6, l2, s2.len, hlt']
      rw [List.take_of_length_le (by omega)]
      exact ⟨e0.trans e2, rfl⟩
  · refine ⟨0, by omega, by omega, ?_⟩
    simp only [go_sem, ↓reduceIte]
    exact ⟨rfl, .refl h0⟩

def offS (N : Int) (rs : List Arw) (xs : List Int) : Int := if bothS N rs xs ≠ 0 then 0 else sumW (slS xs rs)
def slightsS (N : Int) (rs : List Arw) (xs : List Int) : List (Int × Int × Int) := if bothS N rs xs ≠ 0 then [] else slS xs rs

theorem t32 : tblA 32 = some a32 := by kernel_rfl
theorem fn_Offence {h : H} {N : Int} {v o : V} {rs : List Arw} {xs : List Int} (hr : Arrs h v rs) (hrn : rs.length ≤ 1000000) (hs : Ints h o xs) (hn : xs.length ≤ 1000000) :
    WC tblA (.fn 32 [] []) [.agg [.i .i64 N, v], o] h fun u h' => Ext h h' ∧ u = .tup [.i .i64 (offS N rs xs), .i .i64 (bothS N rs xs)] := by
  refine (WC_in t32).2 ?_
  obtain ⟨e0, g0⟩ := rel_blk h N v
  simp only [go_sem, ↓reduceIte, r32_0]
  have hb0 : h.next < (h.new (.cells [.i .i64 N, v])).next := by simp
  generalize hh : h.new (.cells [.i .i64 N, v]) = h0 at *
  have l0 : ldnV h0 2 (.p h.next 0) = some (.agg [.i .i64 N, v]) := blk_ldn g0 rfl
  simp only [go_sem, ↓reduceIte, r32_1, l0]
  refine (fn_both (hr.ext e0) hrn (hs.ext e0) hn).mono ?_
  rintro _ h1 ⟨e1, rfl⟩
  by_cases hc : bothS N rs xs = 0
  · obtain ⟨gr, go, _, _⟩ := both_ok hc
    have l1 : ldnV h1 2 (.p h.next 0) = some (.agg [.i .i64 N, v]) := blk_ldn (e1.get hb0 g0) rfl
    simp only [go_sem, ↓reduceIte, r32_2, r32_4, hc, l1]
    refine (fn_offence (hr.ext (e0.trans e1)) hrn (hs.ext (e0.trans e1)) hn gr go).mono ?_
    rintro _ h2 ⟨e2, rfl⟩
    simp only [go_sem, ↓reduceIte]
    exact ⟨e0.trans (e1.trans e2), by simp [offS, hc]⟩
  · simp only [go_sem, ↓reduceIte, r32_2, r32_3, hc]
    exact ⟨e0.trans e1, by simp [offS, hc]⟩
theorem t33 : tblA 33 = some a33 := by kernel_rfl
theorem fn_refOffence {h : H} {N : Int} {v o : V} {rs : List Arw} {xs : List Int} (hr : Arrs h v rs) (hrn : rs.length ≤ 1000000) (hs : Ints h o xs) (hn : xs.length ≤ 1000000) :
    WC tblA (.fn 33 [] []) [.agg [.i .i64 N, v], o] h fun u h' => Ext h h' ∧ u = .tup [.i .i64 (offS N rs xs), .i .i64 (bothS N rs xs)] := by
  refine (WC_in t33).2 ?_
  obtain ⟨e0, g0⟩ := rel_blk h N v
  simp only [go_sem, ↓reduceIte, r33_0]
  have hb0 : h.next < (h.new (.cells [.i .i64 N, v])).next := by simp
  generalize hh : h.new (.cells [.i .i64 N, v]) = h0 at *
  have l0 : ldnV h0 2 (.p h.next 0) = some (.agg [.i .i64 N, v]) := blk_ldn g0 rfl
  simp only [go_sem, ↓reduceIte, r33_1, l0]
  refine (fn_checked (hr.ext e0) hrn (hs.ext e0) hn).mono ?_
  rintro _ h1 ⟨e1, rfl⟩
  by_cases hc : bothS N rs xs = 0
  · obtain ⟨gr, go, _, _⟩ := both_ok hc
    have l1 : ldnV h1 2 (.p h.next 0) = some (.agg [.i .i64 N, v]) := blk_ldn (e1.get hb0 g0) rfl
    simp only [go_sem, ↓reduceIte, r33_2, r33_4, hc, l1]
    refine (fn_Inner (hr.ext (e0.trans e1)) hrn (hs.ext (e0.trans e1)) hn gr go).mono ?_
    rintro _ h2 ⟨e2, rfl⟩
    simp only [go_sem, ↓reduceIte]
    exact ⟨e0.trans (e1.trans e2), by simp [offS, hc]⟩
  · simp only [go_sem, ↓reduceIte, r33_2, r33_3, hc]
    exact ⟨e0.trans e1, by simp [offS, hc]⟩

theorem t34 : tblA 34 = some a34 := by kernel_rfl
theorem fn_Slights {h : H} {N : Int} {v o : V} {rs : List Arw} {xs : List Int} (hr : Arrs h v rs) (hrn : rs.length ≤ 1000000) (hs : Ints h o xs) (hn : xs.length ≤ 1000000) :
    WC tblA (.fn 34 [] []) [.agg [.i .i64 N, v], o] h fun u h' => Ext h h' ∧ ∃ w, u = .tup [w, .i .i64 (bothS N rs xs)] ∧ Slts h' w (slightsS N rs xs) := by
  refine (WC_in t34).2 ?_
  obtain ⟨e0, g0⟩ := rel_blk h N v
  simp only [go_sem, ↓reduceIte, r34_0]
  have hb0 : h.next < (h.new (.cells [.i .i64 N, v])).next := by simp
  generalize hh : h.new (.cells [.i .i64 N, v]) = h0 at *
  have l0 : ldnV h0 2 (.p h.next 0) = some (.agg [.i .i64 N, v]) := blk_ldn g0 rfl
  simp only [go_sem, ↓reduceIte, r34_1, l0]
  refine (fn_both (hr.ext e0) hrn (hs.ext e0) hn).mono ?_
  rintro _ h1 ⟨e1, rfl⟩
  by_cases hc : bothS N rs xs = 0
  · obtain ⟨gr, go, _, _⟩ := both_ok hc
    have l1 : ldnV h1 2 (.p h.next 0) = some (.agg [.i .i64 N, v]) := blk_ldn (e1.get hb0 g0) rfl
    have hL : slightsS N rs xs = slS xs rs := by simp [slightsS, hc]
    simp only [go_sem, ↓reduceIte, r34_2, r34_4, hc, l1]
    refine (fn_slights (hr.ext (e0.trans e1)) hrn (hs.ext (e0.trans e1)) hn gr go).mono ?_
    rintro w h2 ⟨e2, sw⟩
    simp only [go_sem, ↓reduceIte]
    exact ⟨e0.trans (e1.trans e2), w, rfl, by rw [hL]; exact sw⟩
  · have hL : slightsS N rs xs = [] := by simp [slightsS, hc]
    simp only [go_sem, ↓reduceIte, r34_2, r34_3, hc]
    exact ⟨e0.trans e1, .sn, rfl, by rw [hL]; exact Slts.nil⟩

theorem t35 : tblA 35 = some a35 := by kernel_rfl
theorem fn_refSlights {h : H} {N : Int} {v o : V} {rs : List Arw} {xs : List Int} (hr : Arrs h v rs) (hrn : rs.length ≤ 1000000) (hs : Ints h o xs) (hn : xs.length ≤ 1000000) :
    WC tblA (.fn 35 [] []) [.agg [.i .i64 N, v], o] h fun u h' => Ext h h' ∧ ∃ w, u = .tup [w, .i .i64 (bothS N rs xs)] ∧ Slts h' w (slightsS N rs xs) := by
  refine (WC_in t35).2 ?_
  obtain ⟨e0, g0⟩ := rel_blk h N v
  simp only [go_sem, ↓reduceIte, r35_0]
  have hb0 : h.next < (h.new (.cells [.i .i64 N, v])).next := by simp
  generalize hh : h.new (.cells [.i .i64 N, v]) = h0 at *
  have l0 : ldnV h0 2 (.p h.next 0) = some (.agg [.i .i64 N, v]) := blk_ldn g0 rfl
  simp only [go_sem, ↓reduceIte, r35_1, l0]
  refine (fn_checked (hr.ext e0) hrn (hs.ext e0) hn).mono ?_
  rintro _ h1 ⟨e1, rfl⟩
  by_cases hc : bothS N rs xs = 0
  · obtain ⟨gr, go, _, _⟩ := both_ok hc
    have hL : slightsS N rs xs = slS xs rs := by simp [slightsS, hc]
    rw [hL]
    simp only [go_sem, ↓reduceIte, r35_2, r35_4, r35_5, hc]
    have g1 := e1.get hb0 g0
    have hb1 : h.next < h1.next := Nat.lt_of_lt_of_le hb0 e1.nx
    have hr1 := hr.ext (e0.trans e1)
    have hs1 := hs.ext (e0.trans e1)
    refine W_while (fun k t h' => ∃ (i : Nat) (w : V), k = rs.length - i ∧ i ≤ rs.length ∧ t.length = 44 ∧ nth t 1 = o ∧ nth t 2 = .p h.next 0 ∧ nth t 7 = w ∧ nth t 8 = .i .i64 (i : Int) ∧ Ext h1 h' ∧ Own h1 3 h' w (slS xs (rs.take i)).length (recs slt (slS xs (rs.take i)))) ?_ rs.length ?_
    · rintro k t h2 ⟨i, w, rfl, hi, tl, t1, t2, t7, t8, e2, o2⟩
      unfold b35_0
      have l2 : ldV h2 (.p h.next 1) = some v := blk_ld (e2.get hb1 g1) rfl
      have s2 := hr1.ext e2
      by_cases hlt : i < rs.length
      · have hlt' : (i : Int) < (rs.length : Int) := by omega
        obtain ⟨a, hx⟩ : ∃ a, rs[i]? = some a := ⟨_, List.getElem?_eq_getElem hlt⟩
        obtain ⟨h3, q3, e3, g3, n3⟩ := st_arw h2 (.i .i64 0) (.i .i64 0) (.i .i64 0) (.i .i64 0) a
        obtain ⟨_, _, _, _, x4⟩ := arw_lds g3
        simp only [go_sem, ↓reduceIte, r35_6, r35_8, r35_9, tl, t1, t2, t7, t8, l2, s2.len, hlt', s2.ix hlt, s2.ldn hx, q3, x4]
        refine (fn_offended ((hs1.ext e2).ext e3) hn).mono ?_
        rintro _ h4 ⟨e4, rfl⟩
        rw [off_good gr go hx]
        have hst := slS_step (xs := xs) hx
        obtain ⟨x0, x1, _, x3, _⟩ := arw_lds (e4.get (by omega) g3)
        have hle := slS_le xs (rs.take i)
        have htl : (rs.take i).length ≤ i := by simp; omega
        by_cases hb : posN a.t xs < posN a.f xs
        · rw [if_pos hb] at hst
          obtain ⟨w', h5, r1, r2, r3, _⟩ := app_3 (f := slt) (a.f, a.t, a.w) slt_len slt_one (o2.ext (e3.trans e4)) (e2.trans (e3.trans e4)) (by omega)
          simp only [slt] at r1
          simp only [go_sem, ↓reduceIte, r35_7, r35_10, r35_11, tl, t1, t2, t7, t8, hb, x0, x1, x3, r1, wrap_succ (show i < 1000000000 by omega)]
          refine ⟨rs.length - (i + 1), by omega, i + 1, w', rfl, hlt, rfl, rfl, r2, ?_⟩
          rw [hst, List.length_append]
          exact r3
        · rw [if_neg hb, List.append_nil] at hst
          simp only [go_sem, ↓reduceIte, r35_7, r35_10, tl, t1, t2, t7, t8, hb, wrap_succ (show i < 1000000000 by omega)]
          refine ⟨rs.length - (i + 1), by omega, i + 1, w, rfl, hlt, rfl, rfl, e2.trans (e3.trans e4), ?_⟩
          rw [hst]
          exact o2.ext (e3.trans e4)
      · have hlt' : ¬ (i : Int) < (rs.length : Int) := by omega
        simp only [go_sem, ↓reduceIte, r35_6, r35_12, tl, t1, t2, t7, t8, l2, s2.len, hlt']
        rw [List.take_of_length_le (by omega)] at o2
        exact ⟨e0.trans (e1.trans e2), w, rfl, (Slts.of o2.sl).1⟩
    · refine ⟨0, .sn, by omega, by omega, ?_⟩
      simp only [go_sem, ↓reduceIte]
      exact ⟨.refl h1, .nil⟩
  · have hL : slightsS N rs xs = [] := by simp [slightsS, hc]
    simp only [go_sem, ↓reduceIte, r35_2, r35_3, hc]
    exact ⟨e0.trans e1, .sn, rfl, by rw [hL]; exact Slts.nil⟩

theorem t36 : tblA 36 = some a36 := by kernel_rfl
theorem fn_SameSlights {h : H} {v1 v2 : V} {ps qs : List (Int × Int × Int)} (h1 : Slts h v1 ps) (h2 : Slts h v2 qs) (hn : ps.length ≤ 1000000) :
    WC tblA (.fn 36 [] []) [v1, v2] h fun u h' => u = .b (decide (ps = qs)) ∧ h' = h := by
  refine (WC_in t36).2 ?_
  by_cases hne : (ps.length : Int) = (qs.length : Int)
  · simp only [go_sem, ↓reduceIte, r36_0, r36_1, r36_3, h1.len, h2.len, hne]
    refine W_while (fun k t h' => ∃ i, k = ps.length - i ∧ i ≤ ps.length ∧ t.length = 26 ∧ nth t 0 = v1 ∧ nth t 1 = v2 ∧ nth t 5 = .i .i64 (i : Int) ∧ ps.take i = qs.take i ∧ h = h') ?_ ps.length ?_
    · rintro k t h' ⟨i, rfl, hi, tl, t0, t1, t5, he, rfl⟩
      unfold b36_0
      by_cases hlt : i < ps.length
      · have hlt' : (i : Int) < (qs.length : Int) := by omega
        have hlt2 : i < qs.length := by omega
        obtain ⟨p, hpi⟩ : ∃ p, ps[i]? = some p := ⟨_, List.getElem?_eq_getElem hlt⟩
        obtain ⟨q, hqi⟩ : ∃ q, qs[i]? = some q := ⟨_, List.getElem?_eq_getElem hlt2⟩
        by_cases hpq : p.1 = q.1 ∧ p.2.1 = q.2.1 ∧ p.2.2 = q.2.2
        · simp only [go_sem, ↓reduceIte, r36_4, r36_5, r36_6, tl, t0, t1, t5, h1.len, hne, hlt', h1.ix hlt, h2.ix hlt2, h1.ldn hpi, h2.ldn hqi, hpq, wrap_succ (show i < 1000000000 by omega)]
          refine ⟨ps.length - (i + 1), by omega, i + 1, rfl, hlt, rfl, ?_⟩
          have : p = q := Prod.ext hpq.1 (Prod.ext hpq.2.1 hpq.2.2)
          rw [take_succ' hpi, take_succ' hqi, he, this]
        · simp only [go_sem, ↓reduceIte, r36_4, r36_5, r36_6, r36_7, tl, t0, t1, t5, h1.len, hne, hlt', h1.ix hlt, h2.ix hlt2, h1.ldn hpi, h2.ldn hqi, hpq]
          have : ps ≠ qs := by
            rintro rfl
            rw [hpi] at hqi
            cases hqi
            exact hpq ⟨rfl, rfl, rfl⟩
          simp [this]
      · have hlt' : ¬ (i : Int) < (qs.length : Int) := by omega
        simp only [go_sem, ↓reduceIte, r36_4, r36_8, tl, t0, t5, h1.len, hne, hlt']
        rw [List.take_of_length_le (by omega), List.take_of_length_le (by omega)] at he
        simp [he]
    · refine ⟨0, by omega, by omega, ?_⟩
      simp only [go_sem, ↓reduceIte]
      simp
  · simp only [go_sem, ↓reduceIte, r36_0, r36_1, r36_2, h1.len, h2.len, hne]
    have : ps ≠ qs := by rintro rfl; omega
    simp [this]

theorem t7 : tblA 7 = some a7 := by kernel_rfl
theorem law_offends {h : H} {N n : Int} {v o : V} {rs : List Arw} {xs : List Int} (hr : Arrs h v rs) (hs : Ints h o xs) :
    WC tblA (.fn 7 [] []) [.agg [.i .i64 N, v], .i .i64 n, o] h fun u h' => u = .b true ∧ Ext h h' := by
  refine (WC_in t7).2 ?_
  obtain ⟨e0, g0⟩ := rel_blk h N v
  simp only [go_sem, ↓reduceIte, r7_0]
  have hb0 : h.next < (h.new (.cells [.i .i64 N, v])).next := by simp
  generalize hh : h.new (.cells [.i .i64 N, v]) = h0 at *
  have l1 : ldV h0 (.p h.next 1) = some v := blk_ld g0 rfl
  by_cases c1 : (700 : Int) < (rs.length : Int)
  · simp only [go_sem, ↓reduceIte, r7_1, r7_2, l1, hr.len, c1]
    exact e0
  by_cases c2 : (60 : Int) < (xs.length : Int)
  · simp only [go_sem, ↓reduceIte, r7_1, r7_2, l1, hr.len, hs.len, c1, c2]
    exact e0
  have l0 : ∀ {h'}, Ext h0 h' → ldnV h' 2 (.p h.next 0) = some (.agg [.i .i64 N, v]) := fun e => blk_ldn (e.get hb0 g0) rfl
  have hr0 := hr.ext e0
  have hs0 := hs.ext e0
  simp only [go_sem, ↓reduceIte, r7_1, r7_3, l1, hr.len, hs.len, c1, c2, l0 (.refl h0)]
  refine (fn_Offence hr0 (by omega) hs0 (by omega)).mono ?_
  rintro _ h1 ⟨e1, rfl⟩
  simp only [go_sem, ↓reduceIte, r7_4, l0 e1]
  refine (fn_refOffence (hr0.ext e1) (by omega) (hs0.ext e1) (by omega)).mono ?_
  rintro _ h2 ⟨e2, rfl⟩
  have e12 := e1.trans e2
  simp only [go_sem, ↓reduceIte, r7_5, l0 e12]
  refine (fn_Slights (hr0.ext e12) (by omega) (hs0.ext e12) (by omega)).mono ?_
  rintro _ h3 ⟨e3, w, rfl, sw⟩
  have e13 := e12.trans e3
  simp only [go_sem, ↓reduceIte, r7_6, l0 e13]
  refine (fn_refSlights (hr0.ext e13) (by omega) (hs0.ext e13) (by omega)).mono ?_
  rintro _ h4 ⟨e4, w', rfl, sw'⟩
  have e14 := e13.trans e4
  replace sw := sw.ext e4
  have hsum : sumW (slightsS N rs xs) = offS N rs xs := by
    unfold slightsS offS; split <;> rfl
  have hlen : (slightsS N rs xs).length ≤ 700 := by
    have := slS_le xs rs
    unfold slightsS; split
    · simp
    · omega
  have hrange : ∀ s ∈ slightsS N rs xs, 0 ≤ s.2.2 ∧ s.2.2 ≤ 1000 := by
    unfold slightsS
    split
    · simp
    · rename_i hc
      exact slS_range (both_ok (Classical.not_not.1 hc)).1
  generalize hL : slightsS N rs xs = L at *
  simp only [go_sem, ↓reduceIte, r7_7, r7_8, sw.len]
  refine W_while (fun k t h' => ∃ (i : Nat), k = L.length - i ∧ i ≤ L.length ∧ t.length = 97 ∧ nth t 1 = .i .i64 n ∧ nth t 2 = o ∧ nth t 7 = .i .i64 (offS N rs xs) ∧ nth t 8 = .i .i64 (bothS N rs xs) ∧ nth t 9 = .i .i64 (offS N rs xs) ∧ nth t 10 = .i .i64 (bothS N rs xs) ∧
    nth t 11 = w ∧ nth t 12 = .i .i64 (bothS N rs xs) ∧ nth t 13 = w' ∧ nth t 14 = .i .i64 (bothS N rs xs) ∧ nth t 15 = .i .i64 (sumW (L.take i)) ∧ nth t 52 = w ∧ nth t 53 = .i .i64 (L.length : Int) ∧ nth t 54 = .i .i64 (i : Int) ∧ Ext h4 h') ?_ L.length ?_
  · rintro k t h5 ⟨i, rfl, hi, tl, t1, t2, t7, t8, t9, t10, t11, t12, t13, t14, t15, t52, t53, t54, e5⟩
    unfold b7_0
    by_cases hlt : i < L.length
    · have hlt' : (i : Int) < (L.length : Int) := by omega
      obtain ⟨s, hx⟩ : ∃ s, L[i]? = some s := ⟨_, List.getElem?_eq_getElem hlt⟩
      have s5 := sw.ext e5
      obtain ⟨h6, q6, e6, g6, n6⟩ := st_slt h5 (.i .i64 0) (.i .i64 0) (.i .i64 0) s
      have x2 : ldV h6 (.p h5.next 2) = some (.i .i64 s.2.2) := blk_ld g6 rfl
      have hst : sumW (L.take (i + 1)) = sumW (L.take i) + s.2.2 := by rw [take_succ' hx, sumW_append, sumW_one]
      have b1 := sumW_range (L := L.take (i + 1)) fun x hm => hrange x (List.mem_of_mem_take hm)
      have b2 : (L.take (i + 1)).length ≤ i + 1 := by simp; omega
      have hw : IntKind.i64.wrap (sumW (L.take i) + s.2.2) = sumW (L.take (i + 1)) := by rw [← hst]; exact wrap_in (by omega) (by omega)
      simp only [go_sem, ↓reduceIte, r7_9, r7_10, r7_11, r7_12, tl, t1, t2, t7, t8, t9, t10, t11, t12, t13, t14, t15, t52, t53, t54, hlt', s5.ix hlt, s5.ldn hx, q6, x2, hw, wrap_succ (show i < 1000000000 by omega)]
      exact ⟨L.length - (i + 1), by omega, i + 1, rfl, hlt, rfl, rfl, e5.trans e6⟩
    · have hlt' : ¬ (i : Int) < (L.length : Int) := by omega
      obtain rfl : i = L.length := by omega
      rw [List.take_of_length_le (Nat.le_refl _), hsum] at t15
      have eA := e0.trans (e14.trans e5)
      simp only [go_sem, ↓reduceIte, r7_9, r7_13, tl, t1, t2, t7, t8, t9, t10, t11, t12, t13, t14, t15, t52, t53, t54, hlt']
      refine (fn_SameSlights (sw.ext e5) (sw'.ext e5) (by omega)).mono ?_
      rintro _ _ ⟨rfl, rfl⟩
      simp only [go_sem, ↓reduceIte, r7_15, tl, t1, t2, t7, t8, t9, t10, t11, t12, t13, t14, t15]
      refine (fn_CheckOrder (hs.ext eA) (by omega)).mono ?_
      rintro _ h7 ⟨e7, rfl⟩
      simp only [go_sem, ↓reduceIte, tl, t1, t2]
      refine (fn_refCheckOrder (hs.ext (eA.trans e7)) (by omega)).mono ?_
      rintro _ h8 ⟨e8, rfl⟩
      simp only [go_sem, ↓reduceIte, tl]
      exact eA.trans (e7.trans e8)
  · refine ⟨0, by omega, by omega, ?_⟩
    simp only [go_sem, ↓reduceIte]
    exact ⟨rfl, .refl h4⟩
end Go.Air
