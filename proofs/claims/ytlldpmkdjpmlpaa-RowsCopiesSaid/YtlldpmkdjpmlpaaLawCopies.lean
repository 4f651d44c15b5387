/-
  RowsCopies (P4.8): Air's run of the law returns true, whatever the list.
-/
import Derived.Test.YtlldpmkdjpmlpaaCopies
set_option linter.unusedSectionVars false
set_option linter.unusedVariables false
set_option linter.unusedSimpArgs false
set_option maxRecDepth 100000
namespace Go.Air
open Go.Air.Try

/-- where the guest at place a stands in the copy of the guest at place i. -/
def pos (i a : Nat) : Nat := if a = i then 0 else if a < i then a + 1 else a
theorem copyOf_length {xs : List Int} {i : Nat} (hi : i < xs.length) : (copyOf xs i).length = xs.length := by
  simp [copyOf]; omega
theorem copyOf_pos {xs : List Int} {i a : Nat} (hi : i < xs.length) (ha : a < xs.length) : (copyOf xs i)[pos i a]? = xs[a]? := by
  unfold copyOf pos
  by_cases h1 : a = i
  · subst h1
    simp [List.getElem?_eq_getElem ha]
  · rw [if_neg h1]
    by_cases h2 : a < i
    · rw [if_pos h2, List.getElem?_cons_succ, List.getElem?_append_left (by simp; omega), List.getElem?_take_of_lt h2]
    · rw [if_neg h2]
      obtain ⟨b, rfl⟩ : ∃ b, a = b + 1 := ⟨a - 1, by omega⟩
      rw [List.getElem?_cons_succ, List.getElem?_append_right (by simp; omega), List.getElem?_drop]
      congr 1
      simp; omega
theorem pos_lt {i a n : Nat} (hi : i < n) (ha : a < n) : pos i a < n := by
  unfold pos; split
  · omega
  · split <;> omega
theorem pos_cmp {i a b : Nat} (hab : a < b) : pos i a < pos i b ↔ b ≠ i := by
  unfold pos
  by_cases h1 : a = i <;> by_cases h2 : a < i <;> by_cases h3 : b = i <;> by_cases h4 : b < i <;> simp [h1, h2, h3, h4] <;> omega
theorem copyOf_nodup {xs : List Int} {i : Nat} (hi : i < xs.length) (h : xs.Nodup) : (copyOf xs i).Nodup := by
  have e : xs = xs.take i ++ xs.getD i 0 :: xs.drop (i + 1) := by
    have := List.take_append_drop i xs
    rw [List.drop_eq_getElem_cons hi] at this
    rw [List.getD_eq_getElem?_getD, List.getElem?_eq_getElem hi]
    exact this.symm
  have hp : (xs.take i ++ xs.getD i 0 :: xs.drop (i + 1)).Perm (copyOf xs i) := List.perm_middle
  rw [e] at h
  exact (hp.nodup_iff).1 h

theorem t6 : tblA 6 = some a6 := by kernel_rfl
theorem law_copies {h : H} {v : V} {n : Nat} {xs : List Int} (hv : Arg 1 h v n (ints xs)) :
    WC tblA (.fn 6 [] []) [v] h fun u h' => u = .b true ∧ Ext h h' := by
  have hxn : xs.length = n := by have := hv.sl.length; simpa [ints] using this
  refine (WC_in t6).2 ?_
  by_cases h30 : 30 < n
  · have h30' : (30 : Int) < (n : Int) := by omega
    simp only [go_sem, r6_0, r6_1, r6_2, hv.sl.len, h30']
    exact .refl h
  have h30' : ¬ (30 : Int) < (n : Int) := by omega
  simp only [go_sem, r6_0, r6_1, r6_3, hv.sl.len, h30']
  refine (fn_Alternat hv (by omega)).mono ?_
  rintro u h1 ⟨e1, ⟨hG, rfl⟩ | ⟨hG, hn2, rfl⟩ | ⟨hG, hn2, w, cs, rfl, ow, hcs⟩⟩
  · simp only [go_sem, r6_4, r6_5]
    exact e1
  · omega
  · simp only [go_sem, r6_4, r6_6, r6_8, ow.sl.len, hv.sl.len]
    refine W_while (fun k t h2 => ∃ i, k = n - i ∧ i ≤ n ∧ t.length = 106 ∧ nth t 0 = v ∧ nth t 34 = w ∧ nth t 35 = .i .i64 (n : Int) ∧ nth t 36 = .i .i64 (i : Int) ∧ Ext h1 h2) ?_ n ?_
    · rintro k t h2 ⟨i, rfl, hi, tl, t0, t34, t35, t36, e2⟩
      unfold b6_3
      by_cases hlt : i < n
      · have hlt' : (i : Int) < (n : Int) := by omega
        obtain ⟨c, hc, oc⟩ := hcs i hlt
        have ow2 := ow.ext e2
        have oc2 := oc.ext e2
        have hv2 := (hv.ext e1).ext e2
        have hld := ow2.sl.ld1 hlt
        rw [hc] at hld
        have hcl := copyOf_length (xs := xs) (i := i) (by omega)
        have hx : xs[i]? = some (xs.getD i 0) := by rw [List.getD_eq_getElem?_getD, List.getElem?_eq_getElem (by omega)]; rfl
        have hld0 := oc2.sl.ld1 (i := 0) (by omega)
        rw [ints_get, show (copyOf xs i)[0]? = some (xs.getD i 0) from rfl] at hld0
        have hldi := hv2.sl.ld1 hlt
        rw [ints_get, hx] at hldi
        have hset := fun (hh : H) (l : List (Int × V)) (g : hh.get h2.next = some (.map (encM l))) (x : Int) (u : V) => mapSetV_int g x u
        simp only [go_sem, r6_9, r6_10, r6_11, r6_13, r6_14, tl, t0, t34, t35, t36, hlt', ow2.sl.ix hlt, hld, oc2.sl.len, hv.sl.len, oc2.sl.ix0 (show 0 < n by omega), hld0, hv2.sl.ix hlt, hldi]
        -- the places in the copy
        refine W_while (fun k t h3 => ∃ (j : Nat) (l : List (Int × V)), k = n - j ∧ j ≤ n ∧ t.length = 106 ∧ nth t 0 = v ∧ nth t 34 = w ∧ nth t 35 = .i .i64 (n : Int) ∧ nth t 36 = .i .i64 (i : Int) ∧ nth t 5 = .i .i64 (i : Int) ∧
          nth t 7 = .m h2.next ∧ nth t 57 = c ∧ nth t 58 = .i .i64 (n : Int) ∧ nth t 59 = .i .i64 (j : Int) ∧ Ext h2 h3 ∧ h3.get h2.next = some (.map (encM l)) ∧ l.length = j ∧
          (∀ (q : Nat) (x : Int), q < j → (copyOf xs i)[q]? = some x → lkp x l = some (.i .i64 (q : Int))) ∧ ∀ x, x ∉ (copyOf xs i).take j → lkp x l = none) ?_ n ?_
        · rintro k t h3 ⟨j, l, rfl, hj, tl, t0, t34, t35, t36, t5, t7, t57, t58, t59, e3, g3, hl1, hl2, hl3⟩
          unfold b6_0
          by_cases hlt2 : j < n
          · have hlt2' : (j : Int) < (n : Int) := by omega
            obtain ⟨y, hy⟩ : ∃ y, (copyOf xs i)[j]? = some y := ⟨_, List.getElem?_eq_getElem (by omega)⟩
            have oc3 := oc2.ext e3
            have hldj := oc3.sl.ld1 hlt2
            rw [ints_get, hy] at hldj
            have hset := mapSetV_int g3 y (.i .i64 (j : Int))
            simp only [go_sem, r6_15, r6_16, r6_17, r6_18, tl, t0, t34, t35, t36, t5, t7, t57, t58, t59, hlt2', oc3.sl.ix hlt2, hldj, hset, wrap_succ (show j < 1000000000 by omega)]
            have hnd := copyOf_nodup (xs := xs) (i := i) (by omega) hG.2
            have hnot : y ∉ (copyOf xs i).take j := by
              have h5 := hnd.sublist (List.take_sublist (j + 1) (copyOf xs i))
              rw [take_succ' hy] at h5
              exact fun hin => (List.nodup_append.1 h5).2.2 y hin y (by simp) rfl
            refine ⟨n - (j + 1), by omega, j + 1, _, rfl, hlt2, rfl, e3.put (Nat.le_refl _) _, by rw [H.get_put, if_pos rfl], ?_, ?_, ?_⟩
            · rw [length_ins, hl3 y hnot]; simp [hl1]
            · intro q x hq hx
              rw [lkp_ins]
              by_cases hqj : q = j
              · subst hqj
                rw [hy] at hx
                cases hx
                rw [if_pos rfl]
              · rw [if_neg]
                · exact hl2 q x (by omega) hx
                · rintro rfl
                  exact hnot (List.mem_of_getElem? (by rw [List.getElem?_take_of_lt (by omega : q < j)]; exact hx))
            · intro x hx
              rw [take_succ' hy, List.mem_append, not_or] at hx
              rw [lkp_ins, if_neg (fun e => hx.2 (by simp [e]))]
              exact hl3 x hx.1
          · have hlt2' : ¬ (j : Int) < (n : Int) := by omega
            obtain rfl : j = n := by omega
            have hlen := lenMV_int g3
            rw [hl1] at hlen
            simp only [go_sem, r6_15, r6_19, r6_21, tl, t0, t34, t35, t36, t5, t7, t57, t58, t59, hlt2', hlen, hv.sl.len]
            have hfind : ∀ a, a < j → ∀ x, xs[a]? = some x → lkp x l = some (.i .i64 (pos i a : Int)) := fun a ha x hx =>
              hl2 (pos i a) x (pos_lt hlt ha) (by rw [copyOf_pos (by omega) (by omega)]; exact hx)
            have hv3 := hv2.ext e3
            -- of two guests
            refine W_while (fun k t h4 => ∃ (a : Nat), k = j - a ∧ a ≤ j ∧ t.length = 106 ∧ nth t 0 = v ∧ nth t 34 = w ∧ nth t 35 = .i .i64 (j : Int) ∧ nth t 36 = .i .i64 (i : Int) ∧ nth t 5 = .i .i64 (i : Int) ∧
              nth t 7 = .m h2.next ∧ nth t 74 = .i .i64 (j : Int) ∧ nth t 75 = .i .i64 (a : Int) ∧ h3 = h4) ?_ j ?_
            · rintro k t h4 ⟨a, rfl, ha, tl, t0, t34, t35, t36, t5, t7, t74, t75, rfl⟩
              unfold b6_2
              by_cases hlt3 : a < j
              · have hlt3' : (a : Int) < (j : Int) := by omega
                simp only [go_sem, r6_22, r6_23, r6_24, tl, t0, t34, t35, t36, t5, t7, t74, t75, hlt3', wrap_succ (show a < 1000000000 by omega)]
                refine W_while (fun k t h4 => ∃ (b : Nat), k = j - b ∧ b ≤ j ∧ a < b ∧ t.length = 106 ∧ nth t 0 = v ∧ nth t 34 = w ∧ nth t 35 = .i .i64 (j : Int) ∧ nth t 36 = .i .i64 (i : Int) ∧ nth t 5 = .i .i64 (i : Int) ∧
                  nth t 7 = .m h2.next ∧ nth t 74 = .i .i64 (j : Int) ∧ nth t 75 = .i .i64 (a : Int) ∧ nth t 10 = .i .i64 (a : Int) ∧ nth t 11 = .i .i64 (b : Int) ∧ h3 = h4) ?_ (j - (a + 1)) ?_
                · rintro k t h4 ⟨b, rfl, hb, hab, tl, t0, t34, t35, t36, t5, t7, t74, t75, t10, t11, rfl⟩
                  unfold b6_1
                  by_cases hlt4 : b < j
                  · have hlt4' : (b : Int) < (j : Int) := by omega
                    obtain ⟨x, hx⟩ : ∃ x, xs[a]? = some x := ⟨_, List.getElem?_eq_getElem (by omega)⟩
                    obtain ⟨y, hy⟩ : ∃ y, xs[b]? = some y := ⟨_, List.getElem?_eq_getElem (by omega)⟩
                    have hlx := hv3.sl.ld1 hlt3
                    rw [ints_get, hx] at hlx
                    have hly := hv3.sl.ld1 hlt4
                    rw [ints_get, hy] at hly
                    have lx := lookV_int g3 x
                    rw [hfind a hlt3 x hx] at lx
                    have ly := lookV_int g3 y
                    rw [hfind b hlt4 y hy] at ly
                    have hdec : (decide ((pos i a : Int) < (pos i b : Int)) == !decide ((b : Int) = (i : Int))) = true := by
                      have hp := pos_cmp (i := i) hab
                      by_cases hbi : b = i
                      · have h5 : ¬ (pos i a : Int) < (pos i b : Int) := by omega
                        have h6 : ((b : Int) = (i : Int)) := by omega
                        simp [h5, h6]
                      · have h5 : (pos i a : Int) < (pos i b : Int) := by omega
                        have h6 : ¬ ((b : Int) = (i : Int)) := by omega
                        simp [h5, h6]
                    simp only [go_sem, r6_25, r6_26, r6_27, tl, t0, t34, t35, t36, t5, t7, t74, t75, t10, t11, hlt4', hv3.sl.ix hlt3, hlx, lx, hv3.sl.ix hlt4, hly, ly, hdec, hv.sl.len, wrap_succ (show b < 1000000000 by omega)]
                    exact ⟨j - (b + 1), by omega, b + 1, rfl, hlt4, by omega, rfl⟩
                  · have hlt4' : ¬ (b : Int) < (j : Int) := by omega
                    simp only [go_sem, r6_25, r6_29, tl, t0, t34, t35, t36, t5, t7, t74, t75, t10, t11, hlt4', hv.sl.len, wrap_succ (show a < 1000000000 by omega)]
                    exact ⟨j - (a + 1), by omega, a + 1, rfl, hlt3, rfl⟩
                · refine ⟨a + 1, rfl, by omega, by omega, ?_⟩
                  simp only [go_sem, tl, t0, t34, t35, t36, t5, t7, t74, t75]
              · have hlt3' : ¬ (a : Int) < (j : Int) := by omega
                simp only [go_sem, r6_22, r6_30, tl, t0, t34, t35, t36, t5, t7, t74, t75, hlt3', wrap_succ (show i < 1000000000 by omega)]
                exact ⟨j - (i + 1), by omega, i + 1, rfl, hlt, rfl, e2.trans e3⟩
            · refine ⟨0, by omega, by omega, ?_⟩
              simp only [go_sem, tl, t0, t34, t35, t36, t5, t7]
        · refine ⟨0, [], by omega, by omega, ?_⟩
          simp only [go_sem, tl, t0, t34, t35, t36]
          refine ⟨(Ext.refl h2).new _, by rw [H.get_new, if_pos rfl]; rfl, fun q x hq => by omega, fun x _ => rfl⟩
      · have hlt' : ¬ (i : Int) < (n : Int) := by omega
        simp only [go_sem, r6_9, r6_31, tl, t34, t35, t36, hlt']
        exact e1.trans e2
    · refine ⟨0, by omega, by omega, ?_⟩
      simp only [go_sem]
      exact .refl h1
end Go.Air
