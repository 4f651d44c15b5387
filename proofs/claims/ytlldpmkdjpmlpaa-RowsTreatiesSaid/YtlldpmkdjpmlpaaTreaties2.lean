/-
  RowsTreaties, second part: the document's Alternat, both CheckAlternat, the law, in Air.
-/
import Derived.Test.YtlldpmkdjpmlpaaTreaties
set_option linter.unusedSectionVars false
set_option linter.unusedVariables false
set_option linter.unusedSimpArgs false
set_option maxRecDepth 100000
namespace Go.Air
open Go.Air.Try

theorem copyOf_len {xs : List Int} {i : Nat} (hi : i < xs.length) : (copyOf xs i).length = xs.length := by
  simp [copyOf]; omega
theorem altS_len {xs : List Int} : (altS xs).1.length ≤ xs.length ∧ ∀ l ∈ (altS xs).1, l.length ≤ xs.length := by
  unfold altS
  split
  · simp
  · split
    · simp
    · refine ⟨by simp [alts], fun l hl => ?_⟩
      simp only [alts, List.mem_map, List.mem_range] at hl
      obtain ⟨i, hi, rfl⟩ := hl
      rw [copyOf_len hi]
      exact Nat.le_refl _
theorem Ints.ne_sn {h : H} {v : V} {x : Int} {xs : List Int} (s : Ints h v (x :: xs)) : v ≠ .sn := by
  rintro rfl
  rcases s with ⟨q, _⟩ | ⟨_, _, _, _, _, q, _⟩
  · simp at q
  · cases q
theorem Ints.lt {h : H} {v : V} {x : Int} {xs : List Int} (s : Ints h v (x :: xs)) : blkV v < h.next := Sl.lt s (by simp)

theorem t57 : tblA 57 = some a57 := by kernel_rfl
theorem fn_refAlternat {h : H} {v : V} {xs : List Int} (h1 : Ints h v xs) (hn : xs.length ≤ 1000000) :
    WC tblA (.fn 57 [] []) [v] h fun u h' => Ext h h' ∧ ∃ w, u = .tup [w, .i .i64 (altS xs).2] ∧ LL h' w (altS xs).1 := by
  refine (WC_in t57).2 ?_
  simp only [go_sem, r57_0, r57_1]
  refine (fn_list h1 hn).mono ?_
  rintro _ _ ⟨rfl, rfl⟩
  rename_i hh
  by_cases hG : Good xs
  · by_cases hl : 200 < xs.length
    · have hl' : (200 : Int) < (xs.length : Int) := by omega
      simp only [go_sem, r57_2, r57_4, r57_5, h1.len, hG, hl']
      refine ⟨.refl _, .sn, ?_, ?_⟩ <;> simp only [altS, if_neg (not_not_intro hG), if_pos hl]
      exact LL.nil
    · have hl' : ¬ (200 : Int) < (xs.length : Int) := by omega
      simp only [go_sem, r57_2, r57_4, r57_6, r57_7, h1.len, hG, hl']
      refine W_while (fun k t h2 => ∃ (i : Nat) (w : V) (cs : List V), k = xs.length - i ∧ i ≤ xs.length ∧ t.length = 36 ∧ nth t 0 = v ∧ nth t 5 = w ∧ nth t 6 = .i .i64 (i : Int) ∧ Ext hh h2 ∧
        Own hh 1 h2 w i cs ∧ ∀ j, j < i → ∃ c, cs[j]? = some c ∧ Ints h2 c (copyOf xs j) ∧ (w = .sn ∨ blkV c ≠ blkV w)) ?_ xs.length ?_
      · rintro k t h2 ⟨i, w, cs, rfl, hi, tl, t0, t5, t6, e2, o2, hc2⟩
        unfold b57_0
        by_cases hlt : i < xs.length
        · have hlt' : (i : Int) < (xs.length : Int) := by omega
          obtain ⟨p, hpi⟩ : ∃ p, xs[i]? = some p := ⟨_, List.getElem?_eq_getElem hlt⟩
          have h2' := h1.ext e2
          simp only [go_sem, r57_8, r57_10, tl, t0, t5, t6, h1.len, hlt', h2'.ix hlt, h2'.ld hpi]
          refine (fn_refCopy h2' hn).mono ?_
          rintro _ h3 ⟨e3, u, rfl, hu, hu2⟩
          rw [copyS_at hG (by omega) hpi] at hu ⊢
          have hun : u ≠ .sn := Ints.ne_sn hu
          have hub : h2.next ≤ blkV u := by
            rcases hu2 with q | ⟨q, _⟩
            · exact absurd q hun
            · exact q
          have hlt3 : blkV u < h3.next := Ints.lt hu
          have hfill : fill1 u = some [u] := by
            rcases hu with ⟨_, _, rfl | ⟨_, rfl⟩⟩ | ⟨_, _, _, _, _, rfl, _⟩ <;> rfl
          have hone : ∀ y ∈ [u], y.oneCell = true := by
            intro y hy
            simp at hy; subst hy
            rcases hu with ⟨_, _, rfl | ⟨_, rfl⟩⟩ | ⟨_, _, _, _, _, rfl, _⟩ <;> rfl
          obtain ⟨o4, x4⟩ := Own.lit (esz := 1) (Ext.refl h3) [u] 1 rfl
          have e5 : Ext h2 (h3.new (.cells [u])) := e3.new _
          have o2' := o2.ext e5
          obtain ⟨w', h6, q6, e6, o6, n6, k6, b6⟩ := Own.app (bytes := 24) o2' (e2.trans e5) o4.sl hone (by omega) (by omega) (by omega)
          have hw : w = .sn ∨ blkV w < h2.next := by
            obtain ⟨_, ⟨_, rfl⟩ | ⟨_, _, rfl, _, _, hb, _⟩⟩ := o2
            · exact .inl rfl
            · exact .inr hb
          have hwb := b6 (by omega)
          have hn3 := e3.nx
          have hlen := o2.len
          simp only [go_sem, r57_9, r57_11, tl, t0, t5, t6, hfill, q6, wrap_succ (show i < 1000000000 by omega)]
          refine ⟨xs.length - (i + 1), by omega, i + 1, w', _, rfl, hlt, rfl, rfl, e6, o6, ?_⟩
          intro j hj
          by_cases hji : j < i
          · obtain ⟨c, q1, q2, q3⟩ := hc2 j hji
            have hcb : blkV c < h2.next := Ints.lt (x := xs.getD j 0) q2
            refine ⟨c, by rw [List.getElem?_append_left (by omega)]; exact q1, Sl.keep (q2.ext e5) n6 (fun hb => k6 _ hb q3), .inr ?_⟩
            rw [hwb]; simp; omega
          · obtain rfl : j = i := by omega
            refine ⟨u, by rw [List.getElem?_append_right (by omega)]; simp [hlen], Sl.keep (hu.ext x4) n6 (fun hb => k6 _ hb ?_), .inr (by rw [hwb]; simp; omega)⟩
            rcases hw with hw | hw
            · exact .inl hw
            · exact .inr (by omega)
        · have hlt' : ¬ (i : Int) < (xs.length : Int) := by omega
          simp only [go_sem, r57_8, r57_12, tl, t0, t5, t6, h1.len, hlt']
          have hs : altS xs = (alts xs, 0) := by simp only [altS, if_neg (not_not_intro hG), if_neg hl]
          obtain rfl : i = xs.length := by omega
          rw [hs]
          refine ⟨e2, w, rfl, cs, by simpa [alts] using o2.sl, fun j ys hj => ?_⟩
          have hjn : j < xs.length := by
            have := (List.getElem?_eq_some_iff.1 hj).1
            simpa [alts] using this
          obtain ⟨c, q1, q2, _⟩ := hc2 j hjn
          rw [alts_get hjn] at hj
          cases hj
          exact ⟨c, q1, q2⟩
      · refine ⟨0, .sn, [], by omega, by omega, ?_⟩
        simp only [go_sem]
        exact ⟨.refl _, .nil, fun j hj => by omega⟩
  · simp only [go_sem, r57_2, r57_3, hG]
    refine ⟨.refl _, .sn, ?_, ?_⟩ <;> simp only [altS, if_pos hG]
    exact LL.nil

theorem t58 : tblA 58 = some a58 := by kernel_rfl
theorem fn_Copy {h : H} {v : V} {n : Nat} {xs : List Int} {g : Int} (hv : Arg 1 h v n (ints xs)) (hn : n ≤ 1000000) :
    WC tblA (.fn 58 [] []) [v, .i .i64 g] h fun u h' => Ext h h' ∧ ∃ w, u = .tup [w, .i .i64 (copyS xs g).2] ∧ Ints h' w (copyS xs g).1 := by
  obtain ⟨h1, hxn⟩ := Ints.of hv.sl
  refine (WC_in t58).2 ?_
  simp only [go_sem, r58_0, r58_1]
  refine (fn_Alternat' hv hn).mono ?_
  rintro _ h2 ⟨e2, w, rfl, hw⟩
  by_cases hG : Good xs
  · by_cases hl : 200 < xs.length
    · have hs : altS xs = ([], 2) := by simp only [altS, if_neg (not_not_intro hG), if_pos hl]
      rw [hs]
      simp only [go_sem, r58_2, r58_3]
      refine ⟨e2, .sn, ?_, ?_⟩ <;> simp only [copyS, if_neg (not_not_intro hG), if_pos hl]
      exact Ints.nil
    · have hs : altS xs = (alts xs, 0) := by simp only [altS, if_neg (not_not_intro hG), if_neg hl]
      rw [hs] at hw ⊢
      simp only [go_sem, r58_2, r58_4]
      refine (fn_Index (h1.ext e2) (by omega)).mono ?_
      rintro _ _ ⟨r, rfl, hr, rfl⟩
      rcases hr with ⟨rfl, hno⟩ | ⟨i, rfl, hi, _⟩
      · simp only [go_sem, r58_5, r58_6]
        refine ⟨e2, .sn, ?_, ?_⟩ <;> simp only [copyS, if_neg (not_not_intro hG), if_neg hl, if_pos hno]
        exact Ints.nil
      · have hneg : ¬ (i : Int) < 0 := by omega
        have hil := (List.getElem?_eq_some_iff.1 hi).1
        obtain ⟨c, q1, q2⟩ := hw.ld (alts_get hil)
        simp only [go_sem, r58_5, r58_7, hneg, hw.ix (i := i) (by simpa [alts] using hil), q1]
        rw [copyS_at hG (by omega) hi]
        exact ⟨e2, c, rfl, q2⟩
  · have hs : altS xs = ([], 1) := by simp only [altS, if_pos hG]
    rw [hs]
    simp only [go_sem, r58_2, r58_3]
    refine ⟨e2, .sn, ?_, ?_⟩ <;> simp only [copyS, if_pos hG]
    exact Ints.nil

theorem t60 : tblA 60 = some a60 := by kernel_rfl
theorem fn_CheckAlternat {h : H} {v c : V} {n : Nat} {xs : List Int} {yss : List (List Int)} (hv : Arg 1 h v n (ints xs)) (hn : n ≤ 1000000) (hc : LL h c yss) :
    WC tblA (.fn 60 [] []) [v, c] h fun u h' => Ext h h' ∧ u = .b (decide ((altS xs).2 = 0 ∧ (altS xs).1 = yss)) := by
  obtain ⟨h1, hxn⟩ := Ints.of hv.sl
  refine (WC_in t60).2 ?_
  simp only [go_sem, r60_0, r60_1]
  refine (fn_Alternat' hv hn).mono ?_
  rintro _ h2 ⟨e2, w, rfl, hw⟩
  have hal := altS_len (xs := xs)
  by_cases he : (altS xs).2 = 0
  · simp only [go_sem, r60_2, he]
    refine (fn_EqualFunc hw (hc.ext e2) (by omega) (fun l hl => by have := hal.2 l hl; omega)).mono ?_
    rintro _ _ ⟨rfl, rfl⟩
    simp only [go_sem]
    exact e2
  · simp only [go_sem, r60_2, he]
    simp [e2]

theorem t61 : tblA 61 = some a61 := by kernel_rfl
theorem fn_refCheckAlternat {h : H} {v c : V} {xs : List Int} {yss : List (List Int)} (h1 : Ints h v xs) (hn : xs.length ≤ 1000000) (hc : LL h c yss) :
    WC tblA (.fn 61 [] []) [v, c] h fun u h' => Ext h h' ∧ u = .b (decide ((altS xs).2 = 0 ∧ (altS xs).1 = yss)) := by
  refine (WC_in t61).2 ?_
  simp only [go_sem, r61_0, r61_1]
  refine (fn_refAlternat h1 hn).mono ?_
  rintro _ h2 ⟨e2, w, rfl, hw⟩
  have hal := altS_len (xs := xs)
  simp only [go_sem, r61_2]
  refine (fn_SameLists hw (hc.ext e2) (by omega) (fun l hl => by have := hal.2 l hl; omega)).mono ?_
  rintro _ _ ⟨rfl, rfl⟩
  by_cases he : (altS xs).2 = 0
  · simp only [go_sem, r61_3, he]
    exact e2
  · simp only [go_sem, r61_3, he]
    simp [e2]

theorem t17 : tblA 17 = some a17 := by kernel_rfl
set_option maxHeartbeats 1000000 in
theorem law_treaties {h : H} {v c : V} {n : Nat} {xs : List Int} {g : Int} {yss : List (List Int)} (hv : Arg 1 h v n (ints xs)) (hc : LL h c yss) :
    WC tblA (.fn 17 [] []) [v, .i .i64 g, c] h fun u h' => u = .b true ∧ Ext h h' := by
  obtain ⟨h1, hxn⟩ := Ints.of hv.sl
  subst hxn
  refine (WC_in t17).2 ?_
  by_cases h30 : 30 < xs.length
  · have h30' : (30 : Int) < (xs.length : Int) := by omega
    simp only [go_sem, r17_0, r17_1, r17_2, h1.len, h30']
    exact .refl h
  have h30' : ¬ (30 : Int) < (xs.length : Int) := by omega
  by_cases h40 : 40 < yss.length
  · have h40' : (40 : Int) < (yss.length : Int) := by omega
    simp only [go_sem, r17_0, r17_1, r17_2, h1.len, h30', hc.len, h40']
    exact .refl h
  have h40' : ¬ (40 : Int) < (yss.length : Int) := by omega
  simp only [go_sem, r17_0, r17_1, r17_3, h1.len, h30', hc.len, h40']
  refine W_while (fun k t h2 => ∃ i, k = yss.length - i ∧ i ≤ yss.length ∧ t.length = 97 ∧ nth t 0 = v ∧ nth t 1 = .i .i64 g ∧ nth t 2 = c ∧ nth t 26 = c ∧ nth t 27 = .i .i64 (yss.length : Int) ∧ nth t 28 = .i .i64 (i : Int) ∧ h = h2) ?_ yss.length ?_
  · rintro k t h2 ⟨i, rfl, hi, tl, t0, t1, t2, t26, t27, t28, rfl⟩
    unfold b17_0
    by_cases hlt : i < yss.length
    · have hlt' : (i : Int) < (yss.length : Int) := by omega
      obtain ⟨ys, hys⟩ : ∃ ys, yss[i]? = some ys := ⟨_, List.getElem?_eq_getElem hlt⟩
      obtain ⟨u, q1, q2⟩ := hc.ld hys
      by_cases h60 : (60 : Int) < (ys.length : Int)
      · simp only [go_sem, r17_4, r17_5, r17_6, r17_7, tl, t26, t27, t28, hlt', hc.ix hlt, q1, q2.len, h60]
        exact .refl h
      · simp only [go_sem, r17_4, r17_5, r17_6, r17_8, tl, t0, t1, t2, t26, t27, t28, hlt', hc.ix hlt, q1, q2.len, h60, wrap_succ (show i < 1000000000 by omega)]
        exact ⟨yss.length - (i + 1), by omega, i + 1, rfl, hlt, rfl⟩
    · have hlt' : ¬ (i : Int) < (yss.length : Int) := by omega
      have hal := altS_len (xs := xs)
      simp only [go_sem, r17_4, r17_9, tl, t0, t1, t2, t27, t28, hlt']
      refine (fn_Alternat' hv (by omega)).mono ?_
      rintro _ h3 ⟨e3, w, rfl, hw⟩
      simp only [go_sem, r17_10, tl, t0, t1, t2]
      refine (fn_refAlternat (h1.ext e3) (by omega)).mono ?_
      rintro _ h4 ⟨e4, w', rfl, hw'⟩
      simp only [go_sem, r17_11, tl, t0, t1, t2]
      refine (fn_Copy (hv.ext (e3.trans e4)) (by omega)).mono ?_
      rintro _ h5 ⟨e5, a, rfl, ha⟩
      simp only [go_sem, r17_12, tl, t0, t1, t2]
      refine (fn_refCopy (h1.ext (e3.trans (e4.trans e5))) (by omega)).mono ?_
      rintro _ h6 ⟨e6, b, rfl, hb, _⟩
      have ex : Ext h h6 := e3.trans (e4.trans (e5.trans e6))
      have hw6 := hw.ext (e4.trans (e5.trans e6))
      have hw6' := hw'.ext (e5.trans e6)
      have hcl : (copyS xs g).1.length ≤ 1000000 := by
        unfold copyS
        split
        · simp
        · split
          · simp
          · split
            · simp
            · have := List.length_filter_le (fun x => decide (x ≠ g)) xs
              simp only [List.length_cons]; omega
      have hbb : ∀ x : Bool, (x == x) = true := fun x => by cases x <;> rfl
      simp only [go_sem, tl, t0, t1, t2]
      refine WL_gen (fun t => t.length = 97 ∧ nth t 0 = v ∧ nth t 1 = .i .i64 g ∧ nth t 2 = c ∧ nth t 9 = w ∧ nth t 10 = .i .i64 (altS xs).2 ∧ nth t 11 = w' ∧ nth t 12 = .i .i64 (altS xs).2 ∧ nth t 13 = a ∧ nth t 14 = .i .i64 (copyS xs g).2 ∧ nth t 15 = b ∧ nth t 16 = .i .i64 (copyS xs g).2)
        (by simp only [go_sem, tl, t0, t1, t2]) ?_
      rintro t ⟨tl, t0, t1, t2, t9, t10, t11, t12, t13, t14, t15, t16⟩
      simp only [go_sem, r17_13, tl, t0, t1, t2, t9, t10, t11, t12, t13, t14, t15, t16]
      refine (fn_SameLists hw6 hw6' (by omega) (fun l hl => by have := hal.2 l hl; omega)).mono ?_
      rintro _ _ ⟨rfl, rfl⟩
      simp only [go_sem, tl, t0, t1, t2, t9, t10, t11, t12, t13, t14, t15, t16]
      refine (fn_SameInts (ha.ext e6) hb hcl).mono ?_
      rintro _ _ ⟨rfl, rfl⟩
      simp only [go_sem, tl, t0, t1, t2, t9, t10, t11, t12, t13, t14, t15, t16]
      refine WL_gen (fun t => t.length = 97 ∧ nth t 0 = v ∧ nth t 1 = .i .i64 g ∧ nth t 2 = c ∧ nth t 9 = w ∧ nth t 10 = .i .i64 (altS xs).2)
        (by simp only [go_sem, tl, t0, t1, t2, t9, t10]) ?_
      rintro t ⟨tl, t0, t1, t2, t9, t10⟩
      simp only [go_sem, r17_15, tl, t0, t1, t2, t9, t10]
      refine (fn_CheckAlternat (hv.ext ex) (by omega) (hc.ext ex)).mono ?_
      rintro _ h7 ⟨e7, rfl⟩
      simp only [go_sem, tl, t0, t1, t2, t9, t10]
      refine (fn_refCheckAlternat (h1.ext (ex.trans e7)) (by omega) (hc.ext (ex.trans e7))).mono ?_
      rintro _ h8 ⟨e8, rfl⟩
      simp only [go_sem, tl, t0, t1, t2, t9, t10, hbb]
      refine (fn_CheckAlternat (hv.ext (ex.trans (e7.trans e8))) (by omega) (hw6.ext (e7.trans e8))).mono ?_
      rintro _ h9 ⟨e9, rfl⟩
      simp only [go_sem, tl, t0, t1, t2, t9, t10, hbb]
      exact ex.trans (e7.trans (e8.trans e9))
  · refine ⟨0, by omega, by omega, ?_⟩
    simp only [go_sem]
end Go.Air
