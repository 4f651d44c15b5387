/-
  join (rows of places joined in new memory), in Air.
-/
import Derived.Test.YtlldpmkdjpmlpaaParts
set_option linter.unusedSectionVars false
set_option linter.unusedVariables false
set_option linter.unusedSimpArgs false
set_option maxRecDepth 100000
namespace Go.Air
open Go.Air.Try

def LS (h : H) (v : V) (pss : List (List Pt)) : Prop := ∃ cs, Sl 1 h v pss.length cs ∧ ∀ (j : Nat) (ps : List Pt), pss[j]? = some ps → ∃ c, cs[j]? = some c ∧ Sl 2 h c ps.length (spots ps)
theorem LS.ext {h h' : H} {v : V} {pss : List (List Pt)} (s : LS h v pss) (e : Ext h h') : LS h' v pss := by
  obtain ⟨cs, h1, h2⟩ := s
  exact ⟨cs, h1.ext e, fun j xs hj => let ⟨c, q1, q2⟩ := h2 j xs hj; ⟨c, q1, q2.ext e⟩⟩
theorem LS.len {h : H} {v : V} {pss : List (List Pt)} (s : LS h v pss) : lenV v = some pss.length := let ⟨_, h1, _⟩ := s; h1.len
theorem LS.ix {h : H} {v : V} {pss : List (List Pt)} (s : LS h v pss) {i : Nat} (hi : i < pss.length) : ixV 1 v (.i .i64 (i : Int)) = some (.p (blkV v) (offV v + i * 1)) := let ⟨_, h1, _⟩ := s; h1.ix hi
theorem LS.ld {h : H} {v : V} {pss : List (List Pt)} (s : LS h v pss) {i : Nat} {ps : List Pt} (hx : pss[i]? = some ps) : ∃ c, ldV h (.p (blkV v) (offV v + i * 1)) = some c ∧ Sl 2 h c ps.length (spots ps) := by
  obtain ⟨cs, h1, h2⟩ := s
  obtain ⟨c, q1, q2⟩ := h2 i ps hx
  exact ⟨c, by rw [h1.ld1 (List.getElem?_eq_some_iff.1 hx).1]; exact q1, q2⟩

theorem slLo_own {esz b n : Nat} {a : Nat} (ha : a ≤ n) : slLo esz (.sl b 0 n n none) (.i .i64 (a : Int)) = some (.sl b (if a = n then 0 else a * esz) (n - a) (n - a) none) := by
  have hb := bounds_lo (t := [.i .i64 (a : Int)]) (x := .t 0) (len := n) (cap := n) (a := a) rfl (Nat.le_refl n) ha
  simp only [slLo, sliceV, hb]
  by_cases h : a = n
  · have : Nat.beq a n = true := by rw [Nat.beq_eq]; exact h
    simp [h]
  · have : Nat.beq a n = false := by rw [Bool.eq_false_iff, ne_eq, Nat.beq_eq]; exact h
    simp [h, this]
theorem copy_lay {h : H} {b n a m : Nat} {cs src : List V} {x : V} (hg : h.get b = some (.cells cs)) (hl : cs.length = n * 2) (hs : Sl 2 h x m src) (hm : a + m ≤ n) (hone : ∀ u ∈ src, u.oneCell = true) :
    copyV 2 h (.sl b (if a = n then 0 else a * 2) (n - a) (n - a) none) x = .ok (.i .i64 (m : Int)) (h.put b (.cells (cs.take (a * 2) ++ src ++ cs.drop (a * 2 + m * 2)))) := by
  have hsl := hs.length
  have hall : src.all V.oneCell = true := List.all_eq_true.2 hone
  have hmin : Nat.min m (n - a) = m := Nat.min_eq_left (by omega)
  unfold copyV
  simp only [hs.slen, hmin, hs.src]
  by_cases h0 : a = n
  · obtain rfl : m = 0 := by omega
    obtain rfl : src = [] := List.eq_nil_of_length_eq_zero (by omega)
    have hlay : lay cs 0 [] = some cs := by cases cs <;> rfl
    simp only [if_pos h0, storeAt, hg, hlay, List.all_nil, if_true]
    simp
  · have hlay : lay cs (a * 2) src = some (cs.take (a * 2) ++ src ++ cs.drop (a * 2 + m * 2)) := lay_eq.2 ⟨by omega, by rw [hsl]⟩
    simp only [if_neg h0, storeAt, hg, hlay, hall, if_true]
    rfl

theorem rep_two (x y : V) : ∀ n, (rep [x, y] n).length = n * 2
  | 0 => rfl
  | n + 1 => by rw [rep, List.length_append, rep_two x y n]; simp; omega
def sumLen (pss : List (List Pt)) : Nat := (pss.map List.length).sum
theorem sumLen_append (a b : List (List Pt)) : sumLen (a ++ b) = sumLen a + sumLen b := by simp [sumLen]
theorem flatten_len (pss : List (List Pt)) : pss.flatten.length = sumLen pss := by simp [sumLen, List.length_flatten]
theorem sumLen_take {pss : List (List Pt)} {i : Nat} {ps : List Pt} (h : pss[i]? = some ps) : sumLen (pss.take (i + 1)) = sumLen (pss.take i) + ps.length := by
  rw [take_succ' h, sumLen_append]
  simp [sumLen]
theorem sumLen_le (pss : List (List Pt)) (i : Nat) : sumLen (pss.take i) ≤ sumLen pss := by
  have := sumLen_append (pss.take i) (pss.drop i)
  rw [List.take_append_drop] at this
  omega

theorem t92 : tblA 92 = some a92 := by kernel_rfl
theorem fn_join {h : H} {v : V} {pss : List (List Pt)} (h1 : LS h v pss) (hn : pss.length ≤ 100000) (hs : sumLen pss ≤ 100000) :
    WC tblA (.fn 92 [] []) [v] h fun u h' => Ext h h' ∧ Own h 2 h' u pss.flatten.length (spots pss.flatten) := by
  refine (WC_in t92).2 ?_
  simp only [go_sem, ↓reduceIte, r92_0, r92_1, r92_2, h1.len]
  refine W_while (fun k t h2 => ∃ (i : Nat), k = pss.length - i ∧ i ≤ pss.length ∧ t.length = 38 ∧ nth t 0 = v ∧ nth t 3 = .i .i64 ((sumLen (pss.take i) : Nat) : Int) ∧ nth t 10 = v ∧ nth t 11 = .i .i64 (pss.length : Int) ∧ nth t 12 = .i .i64 (i : Int) ∧ h = h2) ?_ pss.length ?_
  · rintro k t h2 ⟨i, rfl, hi, tl, t0, t3, t10, t11, t12, rfl⟩
    unfold b92_0
    by_cases hlt : i < pss.length
    · have hlt' : (i : Int) < (pss.length : Int) := by omega
      obtain ⟨ps, hps⟩ : ∃ ps, pss[i]? = some ps := ⟨_, List.getElem?_eq_getElem hlt⟩
      obtain ⟨c, q1, q2⟩ := h1.ld hps
      have hle := sumLen_le pss (i + 1)
      rw [sumLen_take hps] at hle
      have hw : IntKind.i64.wrap (((sumLen (pss.take i) : Nat) : Int) + (ps.length : Int)) = ((sumLen (pss.take (i + 1)) : Nat) : Int) := by
        rw [sumLen_take hps, wrap_in (by omega) (by omega)]; simp
      simp only [go_sem, ↓reduceIte, r92_3, r92_4, r92_5, r92_6, tl, t0, t3, t10, t11, t12, hlt', h1.ix hlt, q1, q2.len, hw, wrap_succ (show i < 1000000000 by omega)]
      exact ⟨pss.length - (i + 1), by omega, i + 1, rfl, hlt, rfl, rfl⟩
    · have hlt' : ¬ (i : Int) < (pss.length : Int) := by omega
      obtain rfl : i = pss.length := by omega
      rw [List.take_length] at t3
      generalize hN : sumLen pss = N at *
      simp only [go_sem, ↓reduceIte, r92_3, r92_7, r92_8, r92_9, tl, t0, t3, t10, t11, t12, hlt', h1.len, mkSl_ok (show N ≤ 1000000000 by omega) (show 16 ≤ 100 by omega)]
      refine W_while (fun k t h3 => ∃ (j : Nat) (cs : List V), k = pss.length - j ∧ j ≤ pss.length ∧ t.length = 38 ∧ nth t 6 = .sl h.next 0 N N none ∧ nth t 7 = .i .i64 ((sumLen (pss.take j) : Nat) : Int) ∧ nth t 23 = v ∧ nth t 24 = .i .i64 (pss.length : Int) ∧ nth t 25 = .i .i64 (j : Int) ∧ Ext h h3 ∧
        h.next < h3.next ∧ h3.get h.next = some (.cells cs) ∧ cs.length = N * 2 ∧ cs.take (sumLen (pss.take j) * 2) = spots (pss.take j).flatten) ?_ pss.length ?_
      · rintro k t h3 ⟨j, cs, rfl, hj, tl, t6, t7, t23, t24, t25, e3, hb3, g3, hcl, hct⟩
        unfold b92_1
        by_cases hlt2 : j < pss.length
        · have hlt2' : (j : Int) < (pss.length : Int) := by omega
          obtain ⟨ps, hps⟩ : ∃ ps, pss[j]? = some ps := ⟨_, List.getElem?_eq_getElem hlt2⟩
          have h3' := h1.ext e3
          obtain ⟨c, q1, q2⟩ := h3'.ld hps
          have hle := sumLen_le pss (j + 1)
          rw [sumLen_take hps, hN] at hle
          have hcp := copy_lay (a := sumLen (pss.take j)) (n := N) g3 hcl q2 hle spots_ones
          have hsl := slLo_own (esz := 2) (b := h.next) (n := N) (a := sumLen (pss.take j)) (by omega)
          have hw : IntKind.i64.wrap (((sumLen (pss.take j) : Nat) : Int) + (ps.length : Int)) = ((sumLen (pss.take (j + 1)) : Nat) : Int) := by
            rw [sumLen_take hps, wrap_in (by omega) (by omega)]; simp
          simp only [go_sem, ↓reduceIte, r92_10, r92_11, r92_12, r92_13, tl, t6, t7, t23, t24, t25, hlt2', h1.ix hlt2, q1, hsl, hcp, hw, wrap_succ (show j < 1000000000 by omega)]
          have hll : (spots ps).length = ps.length * 2 := spots_length ps
          refine ⟨pss.length - (j + 1), by omega, j + 1, _, rfl, hlt2, rfl, rfl, e3.put (Nat.le_refl _) _, hb3, by rw [H.get_put, if_pos rfl], ?_, ?_⟩
          · simp only [List.length_append, List.length_take, List.length_drop]; omega
          · rw [sumLen_take hps, take_succ' hps, List.flatten_append, spots_append, ← hct]
            rw [List.take_append_of_le_length (by simp; omega), List.take_of_length_le (by simp; omega)]
            simp
        · have hlt2' : ¬ (j : Int) < (pss.length : Int) := by omega
          simp only [go_sem, ↓reduceIte, r92_10, r92_14, tl, t6, t24, t25, hlt2']
          obtain rfl : j = pss.length := by omega
          rw [List.take_length, hN, List.take_of_length_le (by omega)] at hct
          subst hct
          refine ⟨e3, ?_⟩
          rw [flatten_len, hN]
          exact ⟨hcl, .inr ⟨h.next, none, rfl, .inl rfl, Nat.le_refl _, hb3, g3⟩⟩
      · refine ⟨0, rep [.i .i64 0, .i .i64 0] N, by omega, by omega, ?_⟩
        simp only [go_sem, ↓reduceIte, tl]
        exact ⟨rfl, (Ext.refl h).new _, by simp, by rw [H.get_new, if_pos rfl], rep_two _ _ _, by simp [sumLen, spots]⟩
  · refine ⟨0, by omega, by omega, ?_⟩
    simp only [go_sem, ↓reduceIte]
    simp [sumLen]
end Go.Air
