/-
  CheckOrder, the program's and the document's; a relation and an order; where each guest stands; in Air.
-/
import Derived.Test.YtlldpmkdjpmlpaaRank
import Derived.Test.YtlldpmkdjpmlpaaParts
set_option linter.unusedSectionVars false
set_option linter.unusedVariables false
set_option linter.unusedSimpArgs false
set_option maxRecDepth 100000
namespace Go.Air
open Go.Air.Try

def GoodO (n : Int) (xs : List Int) : Prop := (xs.length : Int) = n ∧ (∀ x ∈ xs, 0 ≤ x ∧ x < n) ∧ xs.Nodup
instance (n : Int) (xs : List Int) : Decidable (GoodO n xs) := inferInstanceAs (Decidable (_ ∧ _ ∧ _))
def orderS (n : Int) (xs : List Int) : Int := if GoodO n xs then 0 else 1
/-- the numbers so far are guests, and different. -/
def PreO (n : Int) (xs : List Int) : Prop := (∀ x ∈ xs, 0 ≤ x ∧ x < n) ∧ xs.Nodup
theorem preO_nil (n : Int) : PreO n [] := ⟨by simp, by simp⟩
theorem preO_step {n : Int} {xs : List Int} {i : Nat} {x : Int} (g : PreO n (xs.take i)) (hx : xs[i]? = some x) (h0 : 0 ≤ x) (h1 : x < n) (h2 : x ∉ xs.take i) : PreO n (xs.take (i + 1)) := by
  rw [take_succ' hx]
  refine ⟨fun y hy => ?_, List.nodup_append.2 ⟨g.2, by simp, fun a ha b hb => ?_⟩⟩
  · rcases List.mem_append.1 hy with hy | hy
    · exact g.1 y hy
    · simp at hy; subst hy; exact ⟨h0, h1⟩
  · simp at hb; subst hb
    rintro rfl; exact h2 ha
theorem goodO_bad {n : Int} {xs : List Int} {i : Nat} {x : Int} (hx : xs[i]? = some x) (h : x < 0 ∨ n ≤ x ∨ x ∈ xs.take i) : ¬ GoodO n xs := by
  intro g
  have hm := g.2.1 x (List.mem_of_getElem? hx)
  rcases h with h | h | h
  · omega
  · omega
  · obtain ⟨hi, e⟩ := List.getElem?_eq_some_iff.1 hx
    obtain ⟨j, hj, e2⟩ := List.getElem_of_mem h
    rw [List.getElem_take] at e2
    simp only [List.length_take] at hj
    exact List.pairwise_iff_getElem.1 g.2.2 j i (by omega) hi (by omega) (by rw [e, e2])

def seenB (m : Nat) (l : List Int) : List V := (List.range m).map fun (j : Nat) => V.b (decide ((j : Int) ∈ l))
theorem seenB_len (m : Nat) (l : List Int) : (seenB m l).length = m := by simp [seenB]
theorem seenB_get {m j : Nat} {l : List Int} (hj : j < m) : (seenB m l)[j]? = some (.b (decide ((j : Int) ∈ l))) := by simp [seenB, hj]
theorem seenB_nil (m : Nat) : seenB m [] = List.replicate m (.b false) := by
  apply List.ext_getElem?
  intro i
  by_cases hi : i < m
  · rw [seenB_get hi]; simp [hi]
  · rw [List.getElem?_eq_none (by rw [seenB_len]; omega), List.getElem?_eq_none (by simp; omega)]
theorem seenB_set {m j : Nat} {l : List Int} (hj : j < m) : (seenB m l).set j (.b true) = seenB m (l ++ [(j : Int)]) := by
  apply List.ext_getElem?
  intro i
  rw [List.getElem?_set]
  by_cases hi : i < m
  · rw [seenB_get hi, seenB_get hi]
    by_cases hji : j = i
    · subst hji; simp [seenB_len, hj]
    · have : ¬ (i : Int) = (j : Int) := by omega
      simp [hji, this]
  · rw [List.getElem?_eq_none (l := seenB m (l ++ [(j : Int)])) (by rw [seenB_len]; omega), List.getElem?_eq_none (l := seenB m l) (by rw [seenB_len]; omega)]
    have : j ≠ i := by omega
    simp [this]
theorem st_bool {h : H} {b j : Nat} {cs : List V} {x : Bool} (hg : h.get b = some (.cells cs)) (hj : j < cs.length) : stV h 1 (.p b (0 + j * 1)) (.b x) = some (h.put b (.cells (cs.set j (.b x)))) := by
  have hl := lay_one cs j (.b x) hj
  simp [stV, V.cells, storeAt, hg, hl, V.oneCell]
theorem ld_at {h : H} {b j : Nat} {cs : List V} {x : V} (hg : h.get b = some (.cells cs)) (hx : cs[j]? = some x) : ldV h (.p b (0 + j * 1)) = some x := blk_ld hg (by simpa using hx)

theorem t37 : tblA 37 = some a37 := by kernel_rfl
theorem fn_CheckOrder {h : H} {n : Int} {v : V} {xs : List Int} (hs : Ints h v xs) (hn : xs.length ≤ 1000000) : WC tblA (.fn 37 [] []) [.i .i64 n, v] h fun u h' => Ext h h' ∧ u = .i .i64 (orderS n xs) := by
  refine (WC_in t37).2 ?_
  by_cases c1 : ¬ (xs.length : Int) = n
  · simp only [go_sem, ↓reduceIte, r37_0, r37_1, r37_2, hs.len, c1]
    refine ⟨.refl h, ?_⟩
    rw [orderS, if_neg (fun g => c1 g.1)]
  replace c1 := Classical.not_not.1 c1
  subst c1
  simp only [go_sem, ↓reduceIte, r37_0, r37_1, r37_3, r37_4, hs.len, mkSl_ok (h := h) (c := [.b false]) (bytes := 1) (n := xs.length) (by omega) (by omega)]
  have e0 : Ext h (h.new (.cells (rep [.b false] xs.length))) := (Ext.refl h).new _
  have s0 := hs.ext e0
  have g0 : (h.new (.cells (rep [.b false] xs.length))).get h.next = some (.cells (seenB xs.length [])) := by rw [H.get_new, if_pos rfl, rep_one, seenB_nil]
  have n0 : h.next < (h.new (.cells (rep [.b false] xs.length))).next := by simp
  generalize hh : h.new (.cells (rep [.b false] xs.length)) = h0 at *
  generalize hm : xs.length = m at *
  refine W_while (fun k t h' => ∃ i, k = m - i ∧ i ≤ m ∧ t.length = 37 ∧ nth t 0 = .i .i64 (m : Int) ∧ nth t 5 = .sl h.next 0 m m none ∧ nth t 14 = v ∧ nth t 15 = .i .i64 (m : Int) ∧ nth t 16 = .i .i64 (i : Int) ∧ Ext h h' ∧ h.next < h'.next ∧ h'.get h.next = some (.cells (seenB m (xs.take i))) ∧ PreO m (xs.take i)) ?_ m ?_
  · rintro k t h' ⟨i, rfl, hi, tl, t0, t5, t14, t15, t16, e1, n1, g1, hp⟩
    unfold b37_0
    by_cases hlt : i < m
    · have hlt' : (i : Int) < (m : Int) := by omega
      have hlt2 : i < xs.length := by omega
      obtain ⟨x, hx⟩ : ∃ x, xs[i]? = some x := ⟨_, List.getElem?_eq_getElem hlt2⟩
      have s1 := hs.ext e1
      by_cases d1 : x < 0
      · simp only [go_sem, ↓reduceIte, r37_5, r37_6, r37_7, r37_8, tl, t0, t5, t14, t15, t16, hlt', s1.ix hlt2, s1.ld hx, d1]
        refine ⟨e1, ?_⟩
        rw [orderS, if_neg (goodO_bad hx (.inl d1))]
      by_cases d2 : (m : Int) ≤ x
      · simp only [go_sem, ↓reduceIte, r37_5, r37_6, r37_7, r37_8, tl, t0, t5, t14, t15, t16, hlt', s1.ix hlt2, s1.ld hx, d1, d2]
        refine ⟨e1, ?_⟩
        rw [orderS, if_neg (goodO_bad hx (.inr (.inl d2)))]
      obtain ⟨j, rfl⟩ := Int.eq_ofNat_of_zero_le (a := x) (by omega)
      have hj : j < m := by omega
      have hld := ld_at g1 (seenB_get (l := xs.take i) hj)
      by_cases d3 : (j : Int) ∈ xs.take i
      · simp only [go_sem, ↓reduceIte, r37_5, r37_6, r37_7, r37_8, tl, t0, t5, t14, t15, t16, hlt', s1.ix hlt2, s1.ld hx, d1, d2, ix_own hj, hld, d3]
        refine ⟨e1, ?_⟩
        rw [orderS, if_neg (goodO_bad hx (.inr (.inr d3)))]
      · simp only [go_sem, ↓reduceIte, r37_5, r37_6, r37_7, r37_9, r37_10, tl, t0, t5, t14, t15, t16, hlt', s1.ix hlt2, s1.ld hx, d1, d2, ix_own hj, hld, d3, st_bool g1 (show j < (seenB m (xs.take i)).length by rw [seenB_len]; exact hj), wrap_succ (show i < 1000000000 by omega)]
        refine ⟨m - (i + 1), by omega, i + 1, rfl, hlt, rfl, e1.put (Nat.le_refl _) _, by simpa using n1, ?_, preO_step hp hx (by omega) (by omega) d3⟩
        rw [H.get_put, if_pos rfl, seenB_set hj, take_succ' hx]
    · have hlt' : ¬ (i : Int) < (m : Int) := by omega
      simp only [go_sem, ↓reduceIte, r37_5, r37_11, tl, t0, t5, t14, t15, t16, hlt']
      rw [List.take_of_length_le (by omega)] at hp
      refine ⟨e1, ?_⟩
      rw [orderS, if_pos ⟨by omega, hp⟩]
  · refine ⟨0, by omega, by omega, ?_⟩
    simp only [go_sem, ↓reduceIte]
    exact ⟨e0, n0, g0, preO_nil _⟩

theorem t38 : tblA 38 = some a38 := by kernel_rfl
theorem fn_refCheckOrder {h : H} {n : Int} {v : V} {xs : List Int} (hs : Ints h v xs) (hn : xs.length ≤ 1000000) : WC tblA (.fn 38 [] []) [.i .i64 n, v] h fun u h' => Ext h h' ∧ u = .i .i64 (orderS n xs) := by
  refine (WC_in t38).2 ?_
  by_cases c1 : ¬ (xs.length : Int) = n
  · simp only [go_sem, ↓reduceIte, r38_0, r38_1, r38_2, hs.len, c1]
    refine ⟨.refl h, ?_⟩
    rw [orderS, if_neg (fun g => c1 g.1)]
  replace c1 := Classical.not_not.1 c1
  subst c1
  simp only [go_sem, ↓reduceIte, r38_0, r38_1, r38_3, hs.len]
  generalize hm : xs.length = m at *
  refine W_while (fun k t h' => ∃ i, k = m - i ∧ i ≤ m ∧ t.length = 43 ∧ nth t 0 = .i .i64 (m : Int) ∧ nth t 1 = v ∧ nth t 5 = .i .i64 (i : Int) ∧ PreO m (xs.take i) ∧ h = h') ?_ m ?_
  · rintro k t h' ⟨i, rfl, hi, tl, t0, t1, t5, hp, rfl⟩
    unfold b38_1
    by_cases hlt : i < m
    · have hlt' : (i : Int) < (m : Int) := by omega
      have hlt2 : i < xs.length := by omega
      obtain ⟨x, hx⟩ : ∃ x, xs[i]? = some x := ⟨_, List.getElem?_eq_getElem hlt2⟩
      by_cases d1 : x < 0
      · simp only [go_sem, ↓reduceIte, r38_4, r38_6, r38_7, tl, t0, t1, t5, hlt', hs.ix hlt2, hs.ld hx, d1]
        refine ⟨.refl h, ?_⟩
        rw [orderS, if_neg (goodO_bad hx (.inl d1))]
      by_cases d2 : (m : Int) ≤ x
      · simp only [go_sem, ↓reduceIte, r38_4, r38_6, r38_7, tl, t0, t1, t5, hlt', hs.ix hlt2, hs.ld hx, d1, d2]
        refine ⟨.refl h, ?_⟩
        rw [orderS, if_neg (goodO_bad hx (.inr (.inl d2)))]
      simp only [go_sem, ↓reduceIte, r38_4, r38_6, r38_8, tl, t0, t1, t5, hlt', hs.ix hlt2, hs.ld hx, d1, d2]
      refine W_while (fun k t h' => ∃ j, k = i - j ∧ j ≤ i ∧ t.length = 43 ∧ nth t 0 = .i .i64 (m : Int) ∧ nth t 1 = v ∧ nth t 5 = .i .i64 (i : Int) ∧ nth t 6 = .i .i64 (j : Int) ∧ x ∉ xs.take j ∧ h = h') ?_ i ?_
      · rintro k t h' ⟨j, rfl, hj, tl, t0, t1, t5, t6, hno, rfl⟩
        unfold b38_0
        by_cases hlt3 : j < i
        · have hlt3' : (j : Int) < (i : Int) := by omega
          have hj2 : j < xs.length := by omega
          obtain ⟨y, hy⟩ : ∃ y, xs[j]? = some y := ⟨_, List.getElem?_eq_getElem hj2⟩
          by_cases d3 : y = x
          · simp only [go_sem, ↓reduceIte, r38_9, r38_11, r38_12, tl, t0, t1, t5, t6, hlt3', hs.ix hlt2, hs.ld hx, hs.ix hj2, hs.ld hy, d3]
            refine ⟨.refl h, ?_⟩
            rw [orderS, if_neg (goodO_bad hx (.inr (.inr ?_)))]
            subst d3
            exact List.mem_of_getElem? (i := j) (by rw [List.getElem?_take_of_lt hlt3]; exact hy)
          · simp only [go_sem, ↓reduceIte, r38_9, r38_10, r38_11, tl, t0, t1, t5, t6, hlt3', hs.ix hlt2, hs.ld hx, hs.ix hj2, hs.ld hy, d3, wrap_succ (show j < 1000000000 by omega)]
            refine ⟨i - (j + 1), by omega, j + 1, rfl, hlt3, rfl, ?_⟩
            rw [take_succ' hy]
            simp [hno, Ne.symm d3]
        · have hlt3' : ¬ (j : Int) < (i : Int) := by omega
          obtain rfl : j = i := by omega
          simp only [go_sem, ↓reduceIte, r38_9, r38_5, tl, t0, t1, t5, t6, hlt3', wrap_succ (show j < 1000000000 by omega)]
          exact ⟨m - (j + 1), by omega, j + 1, rfl, hlt, rfl, preO_step hp hx (by omega) (by omega) hno⟩
      · refine ⟨0, by omega, by omega, ?_⟩
        simp only [go_sem, ↓reduceIte, tl, t0, t1, t5]
        simp
    · have hlt' : ¬ (i : Int) < (m : Int) := by omega
      simp only [go_sem, ↓reduceIte, r38_4, r38_13, tl, t0, t1, t5, hlt']
      rw [List.take_of_length_le (by omega)] at hp
      refine ⟨.refl h, ?_⟩
      rw [orderS, if_pos ⟨by omega, hp⟩]
  · refine ⟨0, by omega, by omega, ?_⟩
    simp only [go_sem, ↓reduceIte]
    exact preO_nil _

/-! ### A relation and an order -/
def bothS (N : Int) (rs : List Arw) (xs : List Int) : Int := if checkS N rs ≠ 0 then checkS N rs else orderS N xs
theorem both_ok {N : Int} {rs : List Arw} {xs : List Int} (h : bothS N rs xs = 0) : GoodR N rs ∧ GoodO N xs ∧ 0 ≤ N ∧ N ≤ 24 := by
  unfold bothS at h
  by_cases hc : checkS N rs = 0
  · rw [if_neg (by simp [hc])] at h
    unfold checkS at hc
    unfold orderS at h
    repeat (split at hc; · omega)
    split at hc
    · split at h
      · exact ⟨by assumption, by assumption, by omega, by omega⟩
      · omega
    · omega
  · rw [if_pos hc] at h
    exact absurd h hc
theorem t80 : tblA 80 = some a80 := by kernel_rfl
theorem fn_both {h : H} {N : Int} {v o : V} {rs : List Arw} {xs : List Int} (hr : Arrs h v rs) (hrn : rs.length ≤ 1000000) (hs : Ints h o xs) (hn : xs.length ≤ 1000000) : WC tblA (.fn 80 [] []) [.agg [.i .i64 N, v], o] h fun u h' => Ext h h' ∧ u = .i .i64 (bothS N rs xs) := by
  refine (WC_in t80).2 ?_
  obtain ⟨e0, g0⟩ := rel_blk h N v
  simp only [go_sem, ↓reduceIte, r80_0]
  have hb0 : h.next < (h.new (.cells [.i .i64 N, v])).next := by simp
  generalize hh : h.new (.cells [.i .i64 N, v]) = h0 at *
  have l0 : ldnV h0 2 (.p h.next 0) = some (.agg [.i .i64 N, v]) := blk_ldn g0 rfl
  simp only [go_sem, ↓reduceIte, r80_1, l0]
  refine (fn_Check (hr.ext e0) hrn).mono ?_
  rintro _ h1 ⟨e1, rfl⟩
  have l1 : ldV h1 (.p h.next 0) = some (.i .i64 N) := blk_ld (e1.get hb0 g0) rfl
  by_cases hc : checkS N rs = 0
  · simp only [go_sem, ↓reduceIte, r80_2, r80_4, hc, l1]
    refine (fn_CheckOrder (hs.ext (e0.trans e1)) hn).mono ?_
    rintro _ h2 ⟨e2, rfl⟩
    simp only [go_sem, ↓reduceIte]
    exact ⟨e0.trans (e1.trans e2), by simp [bothS, hc]⟩
  · simp only [go_sem, ↓reduceIte, r80_2, r80_3, hc]
    exact ⟨e0.trans e1, by simp [bothS, hc]⟩
theorem t82 : tblA 82 = some a82 := by kernel_rfl
theorem fn_checked {h : H} {N : Int} {v o : V} {rs : List Arw} {xs : List Int} (hr : Arrs h v rs) (hrn : rs.length ≤ 1000000) (hs : Ints h o xs) (hn : xs.length ≤ 1000000) : WC tblA (.fn 82 [] []) [.agg [.i .i64 N, v], o] h fun u h' => Ext h h' ∧ u = .i .i64 (bothS N rs xs) := by
  refine (WC_in t82).2 ?_
  obtain ⟨e0, g0⟩ := rel_blk h N v
  simp only [go_sem, ↓reduceIte, r82_0]
  have hb0 : h.next < (h.new (.cells [.i .i64 N, v])).next := by simp
  generalize hh : h.new (.cells [.i .i64 N, v]) = h0 at *
  have l0 : ldnV h0 2 (.p h.next 0) = some (.agg [.i .i64 N, v]) := blk_ldn g0 rfl
  simp only [go_sem, ↓reduceIte, r82_1, l0]
  refine (fn_refCheck (hr.ext e0) hrn).mono ?_
  rintro _ h1 ⟨e1, rfl⟩
  have l1 : ldV h1 (.p h.next 0) = some (.i .i64 N) := blk_ld (e1.get hb0 g0) rfl
  by_cases hc : checkS N rs = 0
  · simp only [go_sem, ↓reduceIte, r82_2, r82_4, hc, l1]
    refine (fn_refCheckOrder (hs.ext (e0.trans e1)) hn).mono ?_
    rintro _ h2 ⟨e2, rfl⟩
    simp only [go_sem, ↓reduceIte]
    exact ⟨e0.trans (e1.trans e2), by simp [bothS, hc]⟩
  · simp only [go_sem, ↓reduceIte, r82_2, r82_3, hc]
    exact ⟨e0.trans e1, by simp [bothS, hc]⟩

/-! ### Where each guest stands -/
def posN (g : Int) : List Int → Nat
  | [] => 0
  | x :: l => if x = g then 0 else posN g l + 1
theorem posN_eq {g : Int} : ∀ {xs : List Int} {i : Nat}, xs[i]? = some g → g ∉ xs.take i → posN g xs = i
  | [], i, h, _ => by simp at h
  | x :: l, 0, h, _ => by simp at h; subst h; simp [posN]
  | x :: l, i + 1, h, hn => by
    simp only [List.take_succ_cons, List.mem_cons, not_or] at hn
    simp only [posN, if_neg (Ne.symm hn.1)]
    rw [posN_eq (by simpa using h) hn.2]
theorem posN_get {g : Int} : ∀ {xs : List Int}, g ∈ xs → xs[posN g xs]? = some g ∧ posN g xs < xs.length
  | [], h => by simp at h
  | x :: l, h => by
    simp only [posN]
    split
    · rename_i e; subst e; simp
    · rename_i e
      have hm : g ∈ l := by
        rcases List.mem_cons.1 h with h | h
        · exact absurd h.symm e
        · exact h
      obtain ⟨a, b⟩ := posN_get hm
      refine ⟨by simpa using a, by simp; omega⟩
/-- as many different numbers below m as m are all of them. -/
theorem perm_mem : ∀ (m : Nat) (l : List Int), l.length = m → (∀ x ∈ l, 0 ≤ x ∧ x < (m : Int)) → l.Nodup → ∀ x : Int, 0 ≤ x → x < (m : Int) → x ∈ l
  | 0, l, hl, hr, hd, x, h0, h1 => by omega
  | m + 1, l, hl, hr, hd, x, h0, h1 => by
    by_cases hm : (m : Int) ∈ l
    · have hd' := (List.nodup_cons.1 ((List.perm_cons_erase hm).nodup_iff.1 hd))
      have ih := perm_mem m (l.erase (m : Int)) (by rw [List.length_erase_of_mem hm]; omega) (fun y hy => by
        have := hr y (List.mem_of_mem_erase hy)
        have : y ≠ (m : Int) := by rintro rfl; exact hd'.1 hy
        omega) hd'.2
      by_cases hx : x = (m : Int)
      · subst hx; exact hm
      · exact List.mem_of_mem_erase (ih x h0 (by omega))
    · exfalso
      match l, hl with
      | [], hl => simp at hl
      | y :: l', hl =>
        have hl : l'.length = m := by simpa using hl
        have hd' := List.nodup_cons.1 hd
        have hr' : ∀ z ∈ y :: l', 0 ≤ z ∧ z < (m : Int) := fun z hz => by
          have := hr z hz
          have : z ≠ (m : Int) := by rintro rfl; exact hm hz
          omega
        have := perm_mem m l' hl (fun z hz => hr' z (List.mem_cons_of_mem _ hz)) hd'.2 y (hr' y (by simp)).1 (hr' y (by simp)).2
        exact hd'.1 this
/-- all guests are in an order. -/
theorem goodO_mem {n : Int} {xs : List Int} (g : GoodO n xs) {x : Int} (h0 : 0 ≤ x) (h1 : x < n) : x ∈ xs := by
  obtain ⟨hl, hr, hd⟩ := g
  exact perm_mem xs.length xs rfl (by rw [hl]; exact hr) hd x h0 (by omega)
end Go.Air
