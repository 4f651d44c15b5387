/-
  middle of the program, in Air.
-/
import Derived.Test.YtlldpmkdjpmlpaaMid
set_option linter.unusedSectionVars false
set_option linter.unusedVariables false
set_option linter.unusedSimpArgs false
set_option maxRecDepth 100000
namespace Go.Air
open Go.Air.Try

theorem app_int' {h0 h : H} {w : V} {xs : List Int} {n : Nat} (c : Int) (o : Own h0 1 h w n (ints xs)) (e : Ext h0 h) (hn : n ≤ 1000000) :
    ∃ w' h', appendV 1 8 (h.new (.cells [.i .i64 c])) w (.sl h.next 0 1 1 none) = .ok w' h' ∧ Ext h0 h' ∧ Own h0 1 h' w' (n + 1) (ints (xs ++ [c])) ∧ h.next < h'.next ∧ (∀ b, b < h.next → (w = .sn ∨ b ≠ blkV w) → h'.get b = h.get b) ∧ h.next < blkV w' := by
  obtain ⟨o3, x3⟩ := Own.lit (esz := 1) (Ext.refl h) [.i .i64 c] 1 rfl
  obtain ⟨w', h5, r1, r2, r3, r4, r5, r6⟩ := Own.app (bytes := 8) (o.ext x3) (e.trans x3) o3.sl (by intro u hu; simp at hu; subst hu; rfl) (by omega) (by omega) (by omega)
  refine ⟨w', h5, r1, r2, by simpa [ints] using r3, by simp at r4; omega, fun b hb hw => ?_, by rw [r6 (by omega)]; simp⟩
  rw [r5 b (by simp; omega) hw, H.get_new, if_neg (by omega)]
theorem Own.wlt {h0 h : H} {v : V} {n esz : Nat} {cs : List V} (o : Own h0 esz h v n cs) : v = .sn ∨ blkV v < h.next := by
  obtain ⟨_, ⟨_, rfl⟩ | ⟨_, _, rfl, _, _, hb, _⟩⟩ := o
  · exact .inl rfl
  · exact .inr hb

theorem t91 : tblA 91 = some a91 := by kernel_rfl
theorem fn_middle {h : H} {m : Nat} (hm : m ≤ 100000) : WC tblA (.fn 91 [] []) [.i .i64 (m : Int)] h fun u h' => Ext h h' ∧ Own h 1 h' u m (ints (mid m)) := by
  refine (WC_in t91).2 ?_
  by_cases h0 : m = 0
  · subst h0
    simp only [go_sem, ↓reduceIte, r91_0, r91_1, r91_2, r91_3]
    exact ⟨.refl h, .nil⟩
  · have h0' : ¬ (m : Int) = 0 := by omega
    have hpos : 0 < m := by omega
    have hat := at_eq hpos (by omega)
    have hsw : ∀ i : Nat, i ≤ m → IntKind.i64.wrap (mAt m + IntKind.i64.wrap (mSide m * (i : Int))) = mAt m + mSide m * i ∧ IntKind.i64.wrap (mAt m - IntKind.i64.wrap (mSide m * (i : Int))) = mAt m - mSide m * i := by
      intro i hi
      unfold mAt
      rcases side_cases m with hs | hs <;> rw [hs]
      · rw [wrap_in (n := 1 * (i : Int)) (by omega) (by omega)]
        exact ⟨wrap_in (by omega) (by omega), wrap_in (by omega) (by omega)⟩
      · rw [wrap_in (n := -1 * (i : Int)) (by omega) (by omega)]
        exact ⟨wrap_in (by omega) (by omega), wrap_in (by omega) (by omega)⟩
    obtain ⟨w1, h1, q1, q2, q3⟩ := app_int (xs := []) (n := 0) (mAt m) (Own.nil (h0 := h) (h := h) (esz := 1)) (.refl h) (by omega)
    -- from the side on
    have rest : ∀ t : List V, t.length = 57 → nth t 0 = .i .i64 (m : Int) → nth t 3 = w1 → nth t 4 = .i .i64 (mAt m) → nth t 5 = .i .i64 (mSide m) →
        W tblA (.seq (.seq (.ops r91_9) (.block 0 (.loop b91_1))) (.seq (.ops r91_18) .ret)) t h1 (Kfn [.tmp 2] fun u h' => Ext h h' ∧ Own h 1 h' u m (ints (mid m))) := by
      intro t tl t0 t3 t4 t5
      simp only [go_sem, ↓reduceIte, r91_9]
      refine W_while (fun k t h2 => ∃ (i n : Nat) (w : V), k = m - i ∧ i ≤ m ∧ t.length = 57 ∧ nth t 0 = .i .i64 (m : Int) ∧ nth t 3 = w ∧ nth t 4 = .i .i64 (mAt m) ∧ nth t 5 = .i .i64 (mSide m) ∧ nth t 6 = .i .i64 ((i + 1 : Nat) : Int) ∧ Ext h h2 ∧
        Own h 1 h2 w n (ints (midL (m : Int) (mAt m) (mSide m) i))) ?_ m ?_
      · rintro k t h2 ⟨i, n, w, rfl, hi, tl, t0, t3, t4, t5, t6, e2, o2⟩
        have hln := o2.len1
        unfold b91_1
        by_cases hlt : n < m
        · have hlt' : (n : Int) < (m : Int) := by omega
          have him := midL_lt hpos (side_cases m) (i := i) (by omega)
          obtain ⟨s1, s2⟩ := hsw (i + 1) (by omega)
          simp only [go_sem, ↓reduceIte, r91_10, r91_12, tl, t0, t3, t4, t5, t6, o2.sl.len, hlt', s1, s2]
          generalize hc1 : mAt m + mSide m * ((i + 1 : Nat) : Int) = c1
          generalize hc2 : mAt m - mSide m * ((i + 1 : Nat) : Int) = c2
          refine W_while (fun k t h3 => ∃ (j n : Nat) (w : V), k = 2 - j ∧ j ≤ 2 ∧ t.length = 57 ∧ nth t 0 = .i .i64 (m : Int) ∧ nth t 3 = w ∧ nth t 4 = .i .i64 (mAt m) ∧ nth t 5 = .i .i64 (mSide m) ∧ nth t 6 = .i .i64 ((i + 1 : Nat) : Int) ∧
            nth t 38 = .sl h2.next 0 2 2 none ∧ nth t 39 = .i .i64 ((2 : Nat) : Int) ∧ nth t 40 = .i .i64 (j : Int) ∧ Ext h h3 ∧ Own h 1 h3 w n (ints (midL (m : Int) (mAt m) (mSide m) i ++ pick m ([c1, c2].take j))) ∧ n ≤ i + m + j + 2 ∧
            h2.next < h3.next ∧ h3.get h2.next = some (.cells [.i .i64 c1, .i .i64 c2]) ∧ (w = .sn ∨ h2.next ≠ blkV w)) ?_ 2 ?_
          · rintro k t h3 ⟨j, n3, w3, rfl, hj, tl, t0, t3, t4, t5, t6, t38, t39, t40, e3, o3, hn3, hb3, g3, hw3⟩
            unfold b91_0
            by_cases hlt2 : j < 2
            · have hlt2' : (j : Int) < ((2 : Nat) : Int) := by omega
              obtain ⟨c, hc⟩ : ∃ c, [c1, c2][j]? = some c := ⟨_, List.getElem?_eq_getElem (by simpa using hlt2)⟩
              have hsl : Sl 1 h3 (.sl h2.next 0 2 2 none) 2 (ints [c1, c2]) := .inr ⟨h2.next, 0, 2, none, _, rfl, hb3, g3, by simp [Blk.rd, cut, ints]⟩
              have hld := hsl.ld1 hlt2
              rw [ints_get, hc] at hld
              have htk : pick (m : Int) ([c1, c2].take (j + 1)) = pick m ([c1, c2].take j) ++ (if 0 ≤ c ∧ c < (m : Int) then [c] else []) := by
                rw [take_succ' hc]
                unfold pick
                rw [List.filter_append]
                congr 1
                by_cases q : 0 ≤ c ∧ c < (m : Int)
                · rw [if_pos q, List.filter_cons_of_pos (by simpa using q)]; rfl
                · rw [if_neg q, List.filter_cons_of_neg (by simpa using q)]; rfl
              by_cases g1 : 0 ≤ c
              · by_cases g2 : c < (m : Int)
                · obtain ⟨w', h4, p1, p2, p3, p4, p5, p6⟩ := app_int' c o3 e3 (by omega)
                  simp only [go_sem, ↓reduceIte, r91_13, r91_14, r91_15, r91_16, r91_17, tl, t0, t3, t4, t5, t6, t38, t39, t40, hlt2', hsl.ix hlt2, hld, g1, g2, p1, wrap_succ (show j < 1000000000 by omega)]
                  rw [if_pos ⟨g1, g2⟩] at htk
                  refine ⟨2 - (j + 1), by omega, j + 1, n3 + 1, w', rfl, by omega, rfl, rfl, p2, ?_, by omega, by omega, ?_, .inr (by omega)⟩
                  · rw [htk, ← List.append_assoc]; exact p3
                  · rw [p5 _ hb3 hw3]; exact g3
                · simp only [go_sem, ↓reduceIte, r91_13, r91_14, r91_15, r91_17, tl, t0, t3, t4, t5, t6, t38, t39, t40, hlt2', hsl.ix hlt2, hld, g1, g2, wrap_succ (show j < 1000000000 by omega)]
                  rw [if_neg (fun x => g2 x.2), List.append_nil] at htk
                  exact ⟨2 - (j + 1), by omega, j + 1, n3, w3, rfl, by omega, rfl, rfl, e3, by rw [htk]; exact o3, by omega, hb3, g3, hw3⟩
              · simp only [go_sem, ↓reduceIte, r91_13, r91_14, r91_15, r91_17, tl, t0, t3, t4, t5, t6, t38, t39, t40, hlt2', hsl.ix hlt2, hld, g1, wrap_succ (show j < 1000000000 by omega)]
                rw [if_neg (fun x => g1 x.1), List.append_nil] at htk
                exact ⟨2 - (j + 1), by omega, j + 1, n3, w3, rfl, by omega, rfl, rfl, e3, by rw [htk]; exact o3, by omega, hb3, g3, hw3⟩
            · have hlt2' : ¬ (j : Int) < ((2 : Nat) : Int) := by omega
              obtain rfl : j = 2 := by omega
              simp only [go_sem, ↓reduceIte, r91_11, r91_13, tl, t0, t3, t4, t5, t6, t38, t39, t40, hlt2', wrap_succ (show i + 1 < 1000000000 by omega)]
              refine ⟨m - (i + 1), by omega, i + 1, n3, w3, rfl, him, rfl, rfl, e3, ?_⟩
              have : midL (m : Int) (mAt m) (mSide m) (i + 1) = midL (m : Int) (mAt m) (mSide m) i ++ pick m ([c1, c2].take 2) := by
                simp only [midL, two, List.take_succ_cons, List.take_zero]
                rw [← hc1, ← hc2]
                simp
              rw [this]
              exact o3
          · refine ⟨0, n, w, by omega, by omega, ?_⟩
            simp only [go_sem, ↓reduceIte, tl, t0, t3, t4, t5, t6]
            refine ⟨(e2.new _), ?_, by omega, by simp, by rw [H.get_new, if_pos rfl], ?_⟩
            · simpa [pick] using o2.ext ((Ext.refl h2).new _)
            · rcases o2.wlt with q | q
              · exact .inl q
              · exact .inr (by omega)
        · have hlt' : ¬ (n : Int) < (m : Int) := by omega
          simp only [go_sem, ↓reduceIte, r91_10, r91_18, tl, t0, t3, t4, t5, t6, o2.sl.len, hlt']
          have := mid_stop hpos hi (by omega)
          rw [this] at o2
          have hml := mid_len m
          have : n = m := by have := o2.len1; omega
          subst this
          exact ⟨e2, o2⟩
      · refine ⟨0, 1, w1, by omega, by omega, ?_⟩
        simp only [go_sem, ↓reduceIte, tl, t0, t3, t4, t5]
        exact ⟨rfl, q2, q3⟩
    by_cases hp : m % 2 = 1
    · have hp' : ((m % 2 : Nat) : Int) = 1 := by omega
      have hs : mSide m = -1 := by unfold mSide; rw [if_pos hp]
      simp only [go_sem, ↓reduceIte, r91_0, r91_1, r91_2, r91_4, r91_5, r91_6, r91_7, r91_8, h0', hat, q1, rem_eq, hp']
      exact W_ops'.1 (W_seq'.1 (W_seq'.1 (rest _ (by simp only [go_sem, ↓reduceIte]) (by simp only [go_sem, ↓reduceIte]) (by simp only [go_sem, ↓reduceIte]) (by simp only [go_sem, ↓reduceIte]) (by simp only [go_sem, ↓reduceIte, hs]))))
    · have hp' : ¬ ((m % 2 : Nat) : Int) = 1 := by omega
      have hs : mSide m = 1 := by unfold mSide; rw [if_neg hp]
      simp only [go_sem, ↓reduceIte, r91_0, r91_1, r91_2, r91_4, r91_5, r91_6, r91_7, h0', hat, q1, rem_eq, hp']
      exact W_ops'.1 (W_seq'.1 (W_seq'.1 (rest _ (by simp only [go_sem, ↓reduceIte]) (by simp only [go_sem, ↓reduceIte]) (by simp only [go_sem, ↓reduceIte]) (by simp only [go_sem, ↓reduceIte]) (by simp only [go_sem, ↓reduceIte, hs]))))
end Go.Air
