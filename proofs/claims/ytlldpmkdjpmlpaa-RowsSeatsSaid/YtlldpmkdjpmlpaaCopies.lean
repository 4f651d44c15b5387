/-
  RowsCopies: the functions it reaches, in Air.
-/
import Derived.Test.YtlldpmkdjpmlpaaBase
set_option linter.unusedSectionVars false
set_option linter.unusedVariables false
set_option linter.unusedSimpArgs false
set_option maxRecDepth 100000
namespace Go.Air
open Go.Air.Try

theorem t79 : tblA 79 = some a79 := by kernel_rfl

theorem fn_copyFor {h : H} {v : V} {n i : Nat} {xs : List Int} {x : Int} (ha : Arg 1 h v n (ints xs)) (hi : i < n) (hn : n ≤ 1000) (hx : xs[i]? = some x) :
    WC tblA (.fn 79 [] []) [v, .i .i64 (i : Int)] h fun u h' => Ext h h' ∧ Own h 1 h' u n (ints (x :: (xs.take i ++ xs.drop (i + 1)))) ∧ h.next ≤ blkV u := by
  refine (WC_in t79).2 ?_
  have hld := ha.sl.ld1 hi
  rw [ints_get, hx] at hld
  have hxn : xs.length = n := by have := ha.sl.length; simpa [ints] using this
  obtain ⟨u1, hu1, hA1⟩ := ha.hi (b := i) (by omega)
  obtain ⟨u2, hu2, hA2⟩ := ha.lo (a := i + 1) (by omega)
  have e1 : (ints xs).take (i * 1) = ints (xs.take i) := by simp [ints]
  have e2 : (ints xs).drop ((i + 1) * 1) = ints (xs.drop (i + 1)) := by simp [ints]
  rw [e1] at hA1
  rw [e2] at hA2
  obtain ⟨o1, x1⟩ := Own.lit (esz := 1) (Ext.refl h) [.i .i64 x] 1 rfl
  obtain ⟨v2, h2, q2, x2, o2, n2, k2, b2⟩ := Own.app (bytes := 8) o1 x1 (hA1.sl.ext x1) ints_one (by omega) (by omega) (by omega)
  obtain ⟨v3, h3, q3, x3, o3, n3, k3, b3⟩ := Own.app (bytes := 8) o2 x2 (hA2.sl.ext x2) ints_one (by omega) (by omega) (by omega)
  simp only [go_sem, ↓reduceIte, r79_0, r79_1, r79_2, r79_3, ha.sl.ix hi, hld, hu1, q2, hu2, q3, wrap_succ (show i < 1000000000 by omega)]
  refine ⟨x3, ?_, ?_⟩
  · have e3 : 1 + i + (n - (i + 1)) = n := by omega
    rw [e3] at o3
    simpa [ints] using o3
  · have : v3 ≠ .sn := by
      rintro rfl
      obtain ⟨q, ⟨q', _⟩ | ⟨_, _, q', _⟩⟩ := o3
      · omega
      · cases q'
    exact o3.ge this
/-- the numbers are different, and none is negative. -/
def Good (xs : List Int) : Prop := (∀ x ∈ xs, 0 ≤ x) ∧ xs.Nodup
instance (xs : List Int) : Decidable (Good xs) := inferInstanceAs (Decidable (_ ∧ _))
theorem Good.take {xs : List Int} (g : Good xs) (i : Nat) : Good (xs.take i) := ⟨fun x hx => g.1 x (List.mem_of_mem_take hx), g.2.sublist (List.take_sublist _ _)⟩

theorem t78 : tblA 78 = some a78 := by kernel_rfl
theorem fn_listed {h : H} {v : V} {n : Nat} {xs : List Int} (hv : Sl 1 h v n (ints xs)) (hn : n ≤ 1000000) :
    WC tblA (.fn 78 [] []) [v] h fun u h' => Ext h h' ∧ u = .i .i64 (if Good xs then 0 else 1) := by
  have hxn : xs.length = n := by have := hv.length; simpa [ints] using this
  refine (WC_in t78).2 ?_
  simp only [go_sem, ↓reduceIte, r78_0, r78_1, r78_2, hv.len]
  refine W_while (fun k t h1 => ∃ (i : Nat) (l : List (Int × V)), k = n - i ∧ i ≤ n ∧ t.length = 23 ∧ nth t 3 = .m h.next ∧ nth t 7 = v ∧ nth t 8 = .i .i64 (n : Int) ∧ nth t 9 = .i .i64 (i : Int) ∧ Ext h h1 ∧
      h1.get h.next = some (.map (encM l)) ∧ (∀ x, lkp x l = if x ∈ xs.take i then some (.b true) else none) ∧ Good (xs.take i)) ?_ n ?_
  · rintro k t h1 ⟨i, l, rfl, hi, tl, t3, t7, t8, t9, e1, g1, hl, hG⟩
    unfold b78_0
    by_cases hlt : i < n
    · obtain ⟨x, hx⟩ : ∃ x, xs[i]? = some x := ⟨_, List.getElem?_eq_getElem (by omega)⟩
      have hlt' : (i : Int) < (n : Int) := by omega
      have hs1 := hv.ext e1
      have hld := hs1.ld1 hlt
      rw [ints_get, hx] at hld
      have hmem : x ∈ xs := List.mem_of_getElem? hx
      by_cases hneg : x < 0
      · simp only [go_sem, ↓reduceIte, r78_3, r78_4, r78_5, r78_6, r78_7, r78_8, tl, t3, t7, t8, t9, hlt', hs1.ix hlt, hld, hneg]
        refine ⟨e1, ?_⟩
        rw [if_neg (fun g => by have := g.1 x hmem; omega)]
      · have hlk := lookV_int g1 x
        rw [hl] at hlk
        have hnd := hG.2
        by_cases hin : x ∈ xs.take i
        · simp only [hin, if_true] at hlk
          simp only [go_sem, ↓reduceIte, r78_3, r78_4, r78_5, r78_6, r78_7, r78_8, tl, t3, t7, t8, t9, hlt', hs1.ix hlt, hld, hneg, hlk]
          refine ⟨e1, ?_⟩
          rw [if_neg]
          intro g
          have := (g.take (i + 1)).2
          rw [take_succ' hx] at this
          exact (List.nodup_append.1 this).2.2 x hin x (by simp) rfl
        · simp only [hin, if_false] at hlk
          have hset := mapSetV_int g1 x (.b true)
          simp only [go_sem, ↓reduceIte, r78_3, r78_4, r78_5, r78_6, r78_7, r78_8, tl, t3, t7, t8, t9, hlt', hs1.ix hlt, hld, hneg, hlk, hset, wrap_succ (show i < 1000000000 by omega)]
          refine ⟨n - (i + 1), by omega, i + 1, _, rfl, hlt, rfl, e1.put (Nat.le_refl _) _, by rw [H.get_put, if_pos rfl], ?_, ?_⟩
          · intro y
            rw [lkp_ins, hl, take_succ' hx]
            by_cases hy : y = x
            · simp [hy]
            · simp [hy]
          · rw [take_succ' hx]
            refine ⟨fun y hy => ?_, List.nodup_append.2 ⟨hG.2, by simp, fun a ha b hb => ?_⟩⟩
            · rcases List.mem_append.1 hy with hy | hy
              · exact hG.1 y hy
              · simp at hy; omega
            · simp at hb
              rintro rfl
              exact hin (hb ▸ ha)
    · have hlt' : ¬ (i : Int) < (n : Int) := by omega
      simp only [go_sem, ↓reduceIte, r78_3, r78_4, r78_5, r78_6, r78_7, r78_8, r78_9, tl, t7, t8, t9, hlt']
      obtain rfl : i = n := by omega
      rw [List.take_of_length_le (by omega)] at hG
      exact ⟨e1, by rw [if_pos hG]⟩
  · refine ⟨0, [], by omega, by omega, ?_⟩
    simp only [go_sem, ↓reduceIte]
    refine ⟨(Ext.refl h).new _, by rw [H.get_new, if_pos rfl]; rfl, fun x => by simp [lkp], fun x hx => by simp at hx, by simp⟩
def copyOf (xs : List Int) (j : Nat) : List Int := xs.getD j 0 :: (xs.take j ++ xs.drop (j + 1))

theorem t31 : tblA 31 = some a31 := by kernel_rfl
/-- what Alternat returns. -/
def AltRes (h h' : H) (n : Nat) (xs : List Int) (u : V) : Prop :=
  (¬ Good xs ∧ u = .tup [.sn, .i .i64 1]) ∨ (Good xs ∧ 200 < n ∧ u = .tup [.sn, .i .i64 2]) ∨
  (Good xs ∧ n ≤ 200 ∧ ∃ w cs, u = .tup [w, .i .i64 0] ∧ Own h 1 h' w n cs ∧ ∀ j, j < n → ∃ c, cs[j]? = some c ∧ Own h 1 h' c n (ints (copyOf xs j)))

theorem fn_Alternat {h : H} {v : V} {n : Nat} {xs : List Int} (hv : Arg 1 h v n (ints xs)) (hn : n ≤ 1000000) :
    WC tblA (.fn 31 [] []) [v] h fun u h' => Ext h h' ∧ AltRes h h' n xs u := by
  have hxn : xs.length = n := by have := hv.sl.length; simpa [ints] using this
  refine (WC_in t31).2 ?_
  simp only [go_sem, ↓reduceIte, r31_0, r31_1]
  refine (fn_listed hv.sl hn).mono ?_
  rintro _ h1 ⟨e1, rfl⟩
  have hv1 := hv.ext e1
  by_cases hG : Good xs
  · simp only [hG, if_true]
    by_cases hn2 : 200 < n
    · have hn2' : (200 : Int) < (n : Int) := by omega
      simp only [go_sem, ↓reduceIte, r31_2, r31_3, r31_4, hv.sl.len, hn2']
      exact ⟨e1, .inr (.inl ⟨hG, hn2, rfl⟩)⟩
    · have hn2' : ¬ (200 : Int) < (n : Int) := by omega
      simp only [go_sem, ↓reduceIte, r31_2, r31_3, r31_4, r31_5, r31_6, hv.sl.len, hn2']
      refine W_while (fun k t h2 => ∃ (i : Nat) (w : V) (cs : List V), k = n - i ∧ i ≤ n ∧ t.length = 27 ∧ nth t 0 = v ∧ nth t 4 = w ∧ nth t 14 = v ∧ nth t 15 = .i .i64 (n : Int) ∧ nth t 16 = .i .i64 (i : Int) ∧ Ext h h2 ∧
        Own h 1 h2 w i cs ∧ ∀ j, j < i → ∃ c, cs[j]? = some c ∧ Own h 1 h2 c n (ints (copyOf xs j)) ∧ blkV c < h2.next ∧ (w = .sn ∨ blkV c ≠ blkV w)) ?_ n ?_
      · rintro k t h2 ⟨i, w, cs, rfl, hi, tl, t0, t4, t14, t15, t16, e2, o2, hc2⟩
        unfold b31_0
        by_cases hlt : i < n
        · have hlt' : (i : Int) < (n : Int) := by omega
          simp only [go_sem, ↓reduceIte, r31_7, r31_8, r31_9, r31_10, tl, t0, t4, t14, t15, t16, hlt']
          have hx : xs[i]? = some (xs.getD i 0) := by rw [List.getD_eq_getElem?_getD, List.getElem?_eq_getElem (by omega)]; rfl
          refine (fn_copyFor (hv.ext e2) hlt (by omega) hx).mono ?_
          rintro u h3 ⟨e3, o3, hu⟩
          obtain ⟨o4, x4⟩ := Own.lit (esz := 1) (Ext.refl h3) [u] 1 rfl
          have hone : ∀ y ∈ [u], y.oneCell = true := by
            intro y hy
            simp at hy; subst hy
            obtain ⟨_, ⟨_, rfl⟩ | ⟨_, _, rfl, _⟩⟩ := o3 <;> rfl
          have x5 := x4.trans (Ext.refl _)
          have e5 : Ext h2 (h3.new (.cells [u])) := e3.new _
          have o2' := o2.ext e5
          obtain ⟨w', h6, q6, e6, o6, n6, k6, b6⟩ := Own.app (bytes := 24) (o2') (e2.trans e5) o4.sl hone (by omega) (by omega) (by omega)
          have hfill : fill1 u = some [u] := by
            obtain ⟨_, ⟨_, rfl⟩ | ⟨_, _, rfl, _⟩⟩ := o3 <;> rfl
          simp only [go_sem, ↓reduceIte, hfill, q6, tl, t0, t4, t14, t15, t16, wrap_succ (show i < 1000000000 by omega)]
          have hn3 := e3.nx
          have hw : w = .sn ∨ blkV w < h2.next := by
            obtain ⟨_, ⟨_, rfl⟩ | ⟨_, _, rfl, _, _, hb, _⟩⟩ := o2
            · exact .inl rfl
            · exact .inr hb
          have hub : blkV u < h3.next := by
            obtain ⟨_, ⟨_, rfl⟩ | ⟨_, _, rfl, _, _, hb, _⟩⟩ := o3
            · omega
            · exact hb
          have hwb := b6 (by omega)
          refine ⟨n - (i + 1), by omega, i + 1, w', _, rfl, hlt, rfl, rfl, e6, o6, ?_⟩
          intro j hj
          have hlen := o2.len
          by_cases hji : j < i
          · obtain ⟨c, q1, q2, q3, q4⟩ := hc2 j hji
            refine ⟨c, by rw [List.getElem?_append_left (by omega)]; exact q1, (q2.ext e5).keep n6 (fun hb => k6 _ hb q4), by simp at n6; omega, .inr ?_⟩
            rw [hwb]; simp; omega
          · obtain rfl : j = i := by omega
            refine ⟨u, by rw [List.getElem?_append_right (by omega)]; simp [hlen], ?_, by simp at n6; omega, .inr (by rw [hwb]; simp; omega)⟩
            have o3' : Own h 1 h3 u n (ints (copyOf xs j)) := (o3.mono e2.nx)
            refine (o3'.ext x4).keep n6 (fun hb => k6 _ hb ?_)
            rcases hw with hw | hw
            · exact .inl hw
            · exact .inr (by omega)
        · have hlt' : ¬ (i : Int) < (n : Int) := by omega
          simp only [go_sem, ↓reduceIte, r31_7, r31_11, tl, t4, t15, t16, hlt']
          obtain rfl : i = n := by omega
          exact ⟨e2, .inr (.inr ⟨hG, by omega, w, cs, rfl, o2, fun j hj => let ⟨c, q1, q2, _⟩ := hc2 j hj; ⟨c, q1, q2⟩⟩)⟩
      · refine ⟨0, .sn, [], by omega, by omega, ?_⟩
        simp only [go_sem, ↓reduceIte]
        exact ⟨e1, .nil, fun j hj => by omega⟩
  · simp only [hG, if_false]
    simp only [go_sem, ↓reduceIte, r31_2]
    exact ⟨e1, .inl ⟨hG, rfl⟩⟩
end Go.Air
