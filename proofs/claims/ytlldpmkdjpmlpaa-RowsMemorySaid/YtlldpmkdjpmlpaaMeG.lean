/-
  A part of the proof of: The row RowsMemory, from the law in Air.
-/
import Derived.Test.YtlldpmkdjpmlpaaRows
import Derived.ProofKit
import Derived.HandedShaped
import Derived.Deep.SlicePairs
import Derived.Test.YtlldpmkdjpmlpaaMeF
set_option linter.unusedSectionVars false
set_option linter.unusedVariables false
set_option linter.unusedSimpArgs false
set_option maxRecDepth 100000
namespace Go.Air
open Go.Air.Try
def GoodO (n : Int) (xs : List Int) : Prop := (xs.length : Int) = n ∧ (∀ x ∈ xs, 0 ≤ x ∧ x < n) ∧ xs.Nodup
instance (n : Int) (xs : List Int) : Decidable (GoodO n xs) := inferInstanceAs (Decidable (_ ∧ _ ∧ _))
def orderS (n : Int) (xs : List Int) : Int := if GoodO n xs then 0 else 1
def PreO (n : Int) (xs : List Int) : Prop := (∀ x ∈ xs, 0 ≤ x ∧ x < n) ∧ xs.Nodup
theorem preO_nil (n : Int) : PreO n [] := ⟨by simp, by simp⟩
theorem preO_step {n : Int} {xs : List Int} {i : Nat} {x : Int} (g : PreO n (xs.take i)) (hx : xs[i]? = some x) (h0 : 0 ≤ x) (h1 : x < n) (h2 : x ∉ xs.take i) : PreO n (xs.take (i + 1)) := by
  rw [take_succ' hx]
  refine ⟨fun y hy => ?_, List.nodup_append.2 ⟨g.2, by simp, fun a ha b hb => ?_⟩⟩
  · rcases List.mem_append.1 hy with hy | hy
    · exact g.1 y hy
    · simp at hy; subst hy; exact ⟨h0, h1⟩
  · simp at hb; subst hb
    rintro rfl; exact h2 ha
theorem goodO_bad {n : Int} {xs : List Int} {i : Nat} {x : Int} (hx : xs[i]? = some x) (h : x < 0 ∨ n ≤ x ∨ x ∈ xs.take i) : ¬ GoodO n xs := by
  intro g
  have hm := g.2.1 x (List.mem_of_getElem? hx)
  rcases h with h | h | h
  · omega
  · omega
  · obtain ⟨hi, e⟩ := List.getElem?_eq_some_iff.1 hx
    obtain ⟨j, hj, e2⟩ := List.getElem_of_mem h
    rw [List.getElem_take] at e2
    simp only [List.length_take] at hj
    exact List.pairwise_iff_getElem.1 g.2.2 j i (by omega) hi (by omega) (by rw [e, e2])
def seenB (m : Nat) (l : List Int) : List V := (List.range m).map fun (j : Nat) => V.b (decide ((j : Int) ∈ l))
theorem seenB_len (m : Nat) (l : List Int) : (seenB m l).length = m := by simp [seenB]
theorem seenB_get {m j : Nat} {l : List Int} (hj : j < m) : (seenB m l)[j]? = some (.b (decide ((j : Int) ∈ l))) := by simp [seenB, hj]
theorem seenB_nil (m : Nat) : seenB m [] = List.replicate m (.b false) := by
  apply List.ext_getElem?
  intro i
  by_cases hi : i < m
  · rw [seenB_get hi]; simp [hi]
  · rw [List.getElem?_eq_none (by rw [seenB_len]; omega), List.getElem?_eq_none (by simp; omega)]
theorem seenB_set {m j : Nat} {l : List Int} (hj : j < m) : (seenB m l).set j (.b true) = seenB m (l ++ [(j : Int)]) := by
  apply List.ext_getElem?
  intro i
  rw [List.getElem?_set]
  by_cases hi : i < m
  · rw [seenB_get hi, seenB_get hi]
    by_cases hji : j = i
    · subst hji; simp [seenB_len, hj]
    · have : ¬ (i : Int) = (j : Int) := by omega
      simp [hji, this]
  · rw [List.getElem?_eq_none (l := seenB m (l ++ [(j : Int)])) (by rw [seenB_len]; omega), List.getElem?_eq_none (l := seenB m l) (by rw [seenB_len]; omega)]
    have : j ≠ i := by omega
    simp [this]
theorem st_bool {h : H} {b j : Nat} {cs : List V} {x : Bool} (hg : h.get b = some (.cells cs)) (hj : j < cs.length) : stV h 1 (.p b (0 + j * 1)) (.b x) = some (h.put b (.cells (cs.set j (.b x)))) := by
  have hl := lay_one cs j (.b x) hj
  simp [stV, V.cells, storeAt, hg, hl, V.oneCell]
theorem ld_at {h : H} {b j : Nat} {cs : List V} {x : V} (hg : h.get b = some (.cells cs)) (hx : cs[j]? = some x) : ldV h (.p b (0 + j * 1)) = some x := blk_ld hg (by simpa using hx)
theorem t37 : tblA 37 = some a37 := by kernel_rfl
theorem fn_CheckOrder {h : H} {n : Int} {v : V} {xs : List Int} (hs : Ints h v xs) (hn : xs.length ≤ 1000000) : WC tblA (.fn 37 [] []) [.i .i64 n, v] h fun u h' => Ext h h' ∧ u = .i .i64 (orderS n xs) := by
  refine (WC_in t37).2 ?_
  by_cases c1 : ¬ (xs.length : Int) = n
  · simp only [go_sem, ↓reduceIte, r37_0, r37_1, r37_2, hs.len, c1]
    refine ⟨.refl h, ?_⟩
    rw [orderS, if_neg (fun g => c1 g.1)]
  replace c1 := Classical.not_not.1 c1
  subst c1
  simp only [go_sem, ↓reduceIte, r37_0, r37_1, r37_3, r37_4, hs.len, mkSl_ok (h := h) (c := [.b false]) (bytes := 1) (n := xs.length) (by omega) (by omega)]
  have e0 : Ext h (h.new (.cells (rep [.b false] xs.length))) := (Ext.refl h).new _
  have s0 := hs.ext e0
  have g0 : (h.new (.cells (rep [.b false] xs.length))).get h.next = some (.cells (seenB xs.length [])) := by rw [H.get_new, if_pos rfl, rep_one, seenB_nil]
  have n0 : h.next < (h.new (.cells (rep [.b false] xs.length))).next := by simp
  generalize hh : h.new (.cells (rep [.b false] xs.length)) = h0 at *
  generalize hm : xs.length = m at *
  refine W_while (fun k t h' => ∃ i, k = m - i ∧ i ≤ m ∧ t.length = 37 ∧ nth t 0 = .i .i64 (m : Int) ∧ nth t 5 = .sl h.next 0 m m none ∧ nth t 14 = v ∧ nth t 15 = .i .i64 (m : Int) ∧ nth t 16 = .i .i64 (i : Int) ∧ Ext h h' ∧ h.next < h'.next ∧ h'.get h.next = some (.cells (seenB m (xs.take i))) ∧ PreO m (xs.take i)) ?_ m ?_
  · rintro k t h' ⟨i, rfl, hi, tl, t0, t5, t14, t15, t16, e1, n1, g1, hp⟩
    unfold b37_0
    by_cases hlt : i < m
    · have hlt' : (i : Int) < (m : Int) := by omega
      have hlt2 : i < xs.length := by omega
      obtain ⟨x, hx⟩ : ∃ x, xs[i]? = some x := ⟨_, List.getElem?_eq_getElem hlt2⟩
      have s1 := hs.ext e1
      by_cases d1 : x < 0
      · simp only [go_sem, ↓reduceIte, r37_5, r37_6, r37_7, r37_8, tl, t0, t5, t14, t15, t16, hlt', s1.ix hlt2, s1.ld hx, d1]
        refine ⟨e1, ?_⟩
        rw [orderS, if_neg (goodO_bad hx (.inl d1))]
      by_cases d2 : (m : Int) ≤ x
      · simp only [go_sem, ↓reduceIte, r37_5, r37_6, r37_7, r37_8, tl, t0, t5, t14, t15, t16, hlt', s1.ix hlt2, s1.ld hx, d1, d2]
        refine ⟨e1, ?_⟩
        rw [orderS, if_neg (goodO_bad hx (.inr (.inl d2)))]
      obtain ⟨j, rfl⟩ := Int.eq_ofNat_of_zero_le (a := x) (by omega)
      have hj : j < m := by omega
      have hld := ld_at g1 (seenB_get (l := xs.take i) hj)
      by_cases d3 : (j : Int) ∈ xs.take i
      · simp only [go_sem, ↓reduceIte, r37_5, r37_6, r37_7, r37_8, tl, t0, t5, t14, t15, t16, hlt', s1.ix hlt2, s1.ld hx, d1, d2, ix_own hj, hld, d3]
        refine ⟨e1, ?_⟩
        rw [orderS, if_neg (goodO_bad hx (.inr (.inr d3)))]
      · simp only [go_sem, ↓reduceIte, r37_5, r37_6, r37_7, r37_9, r37_10, tl, t0, t5, t14, t15, t16, hlt', s1.ix hlt2, s1.ld hx, d1, d2, ix_own hj, hld, d3, st_bool g1 (show j < (seenB m (xs.take i)).length by rw [seenB_len]; exact hj), wrap_succ (show i < 1000000000 by omega)]
        refine ⟨m - (i + 1), by omega, i + 1, rfl, hlt, rfl, e1.put (Nat.le_refl _) _, by simpa using n1, ?_, preO_step hp hx (by omega) (by omega) d3⟩
        rw [H.get_put, if_pos rfl, seenB_set hj, take_succ' hx]
    · have hlt' : ¬ (i : Int) < (m : Int) := by omega
      simp only [go_sem, ↓reduceIte, r37_5, r37_11, tl, t0, t5, t14, t15, t16, hlt']
      rw [List.take_of_length_le (by omega)] at hp
      refine ⟨e1, ?_⟩
      rw [orderS, if_pos ⟨by omega, hp⟩]
  · refine ⟨0, by omega, by omega, ?_⟩
    simp only [go_sem, ↓reduceIte]
    exact ⟨e0, n0, g0, preO_nil _⟩
def bothS (N : Int) (rs : List Arw) (xs : List Int) : Int := if checkS N rs ≠ 0 then checkS N rs else orderS N xs
theorem both_ok {N : Int} {rs : List Arw} {xs : List Int} (h : bothS N rs xs = 0) : GoodR N rs ∧ GoodO N xs ∧ 0 ≤ N ∧ N ≤ 24 := by
  unfold bothS at h
  by_cases hc : checkS N rs = 0
  · rw [if_neg (by simp [hc])] at h
    unfold checkS at hc
    unfold orderS at h
    repeat (split at hc; · omega)
    split at hc
    · split at h
      · exact ⟨by assumption, by assumption, by omega, by omega⟩
      · omega
    · omega
  · rw [if_pos hc] at h
    exact absurd h hc
theorem t80 : tblA 80 = some a80 := by kernel_rfl
theorem fn_both {h : H} {N : Int} {v o : V} {rs : List Arw} {xs : List Int} (hr : Arrs h v rs) (hrn : rs.length ≤ 1000000) (hs : Ints h o xs) (hn : xs.length ≤ 1000000) : WC tblA (.fn 80 [] []) [.agg [.i .i64 N, v], o] h fun u h' => Ext h h' ∧ u = .i .i64 (bothS N rs xs) := by
  refine (WC_in t80).2 ?_
  obtain ⟨e0, g0⟩ := rel_blk h N v
  simp only [go_sem, ↓reduceIte, r80_0]
  have hb0 : h.next < (h.new (.cells [.i .i64 N, v])).next := by simp
  generalize hh : h.new (.cells [.i .i64 N, v]) = h0 at *
  have l0 : ldnV h0 2 (.p h.next 0) = some (.agg [.i .i64 N, v]) := blk_ldn g0 rfl
  simp only [go_sem, ↓reduceIte, r80_1, l0]
  refine (fn_Check (hr.ext e0) hrn).mono ?_
  rintro _ h1 ⟨e1, rfl⟩
  have l1 : ldV h1 (.p h.next 0) = some (.i .i64 N) := blk_ld (e1.get hb0 g0) rfl
  by_cases hc : checkS N rs = 0
  · simp only [go_sem, ↓reduceIte, r80_2, r80_4, hc, l1]
    refine (fn_CheckOrder (hs.ext (e0.trans e1)) hn).mono ?_
    rintro _ h2 ⟨e2, rfl⟩
    simp only [go_sem, ↓reduceIte]
    exact ⟨e0.trans (e1.trans e2), by simp [bothS, hc]⟩
  · simp only [go_sem, ↓reduceIte, r80_2, r80_3, hc]
    exact ⟨e0.trans e1, by simp [bothS, hc]⟩
def posN (g : Int) : List Int → Nat
  | [] => 0
  | x :: l => if x = g then 0 else posN g l + 1
theorem posN_eq {g : Int} : ∀ {xs : List Int} {i : Nat}, xs[i]? = some g → g ∉ xs.take i → posN g xs = i
  | [], i, h, _ => by simp at h
  | x :: l, 0, h, _ => by simp at h; subst h; simp [posN]
  | x :: l, i + 1, h, hn => by
    simp only [List.take_succ_cons, List.mem_cons, not_or] at hn
    simp only [posN, if_neg (Ne.symm hn.1)]
    rw [posN_eq (by simpa using h) hn.2]
theorem posN_get {g : Int} : ∀ {xs : List Int}, g ∈ xs → xs[posN g xs]? = some g ∧ posN g xs < xs.length
  | [], h => by simp at h
  | x :: l, h => by
    simp only [posN]
    split
    · rename_i e; subst e; simp
    · rename_i e
      have hm : g ∈ l := by
        rcases List.mem_cons.1 h with h | h
        · exact absurd h.symm e
        · exact h
      obtain ⟨a, b⟩ := posN_get hm
      refine ⟨by simpa using a, by simp; omega⟩
end Go.Air
set_option maxRecDepth 100000
namespace Go.Air
open Go.Air.Try
theorem ints_rep (n : Nat) : ints (List.replicate n 0) = List.replicate n (.i .i64 0) := by simp [ints]
def slt (s : Int × Int × Int) : List V := [.i .i64 s.1, .i .i64 s.2.1, .i .i64 s.2.2]
theorem slt_len (s : Int × Int × Int) : (slt s).length = 3 := rfl
def Slts (h : H) (v : V) (L : List (Int × Int × Int)) : Prop := Sl 3 h v L.length (recs slt L)
theorem Slts.ext {h h' : H} {v : V} {L : List (Int × Int × Int)} (s : Slts h v L) (e : Ext h h') : Slts h' v L := Sl.ext s e
theorem Slts.nil {h : H} : Slts h .sn [] := .inl ⟨rfl, rfl, .inl rfl⟩
theorem Slts.len {h : H} {v : V} {L : List (Int × Int × Int)} (s : Slts h v L) : lenV v = some L.length := Sl.len s
theorem Slts.ix {h : H} {v : V} {L : List (Int × Int × Int)} (s : Slts h v L) {i : Nat} (hi : i < L.length) : ixV 3 v (.i .i64 (i : Int)) = some (.p (blkV v) (offV v + i * 3)) := Sl.ix s hi
theorem Slts.ldn {h : H} {v : V} {L : List (Int × Int × Int)} (s : Slts h v L) {i : Nat} {a : Int × Int × Int} (hx : L[i]? = some a) : ldnV h 3 (.p (blkV v) (offV v + i * 3)) = some (.agg [.i .i64 a.1, .i .i64 a.2.1, .i .i64 a.2.2]) := by
  rw [Sl.ldn s (List.getElem?_eq_some_iff.1 hx).1, recs_at slt_len L i a hx]; rfl
theorem Slts.of {h : H} {v : V} {n : Nat} {L : List (Int × Int × Int)} (s : Sl 3 h v n (recs slt L)) : Slts h v L ∧ L.length = n := by
  have : L.length = n := by have := s.length; rw [recs_len slt_len] at this; omega
  subst this
  exact ⟨s, rfl⟩
def slS (xs : List Int) (rs : List Arw) : List (Int × Int × Int) := rs.flatMap fun a => if posN a.t xs < posN a.f xs then [(a.f, a.t, a.w)] else []
def sumW (L : List (Int × Int × Int)) : Int := (L.map fun s => s.2.2).sum
theorem sumW_append (a b : List (Int × Int × Int)) : sumW (a ++ b) = sumW a + sumW b := by simp [sumW]
theorem sumW_one (s : Int × Int × Int) : sumW [s] = s.2.2 := by simp [sumW]
theorem sumW_range {L : List (Int × Int × Int)} (h : ∀ s ∈ L, 0 ≤ s.2.2 ∧ s.2.2 ≤ 1000) : 0 ≤ sumW L ∧ sumW L ≤ 1000 * L.length := by
  induction L with
  | nil => simp [sumW]
  | cons s L ih =>
    have h1 := h s (by simp)
    have h2 := ih fun x hx => h x (by simp [hx])
    simp only [sumW, List.map_cons, List.sum_cons, List.length_cons] at *
    omega
theorem slS_range {N : Int} {xs : List Int} {rs : List Arw} (g : GoodR N rs) : ∀ s ∈ slS xs rs, 0 ≤ s.2.2 ∧ s.2.2 ≤ 1000 := by
  intro s hs
  obtain ⟨a, ha, hs⟩ := List.mem_flatMap.1 hs
  have := g.1 a ha
  unfold OkA at this
  split at hs
  · simp at hs; subst hs; simp only []; omega
  · simp at hs
theorem Idx.mem {xs : List Int} {g r : Int} (i : Idx xs g r) : (0 ≤ r ↔ g ∈ xs) ∧ (g ∈ xs → r = posN g xs) := by
  rcases i with ⟨rfl, h⟩ | ⟨i, rfl, hx, hn⟩
  · exact ⟨⟨fun z => by omega, fun z => absurd z h⟩, fun z => absurd z h⟩
  · exact ⟨⟨fun _ => List.mem_of_getElem? hx, fun _ => by omega⟩, fun _ => by rw [posN_eq hx hn]⟩
end Go.Air
set_option maxRecDepth 100000
namespace Go.Air
open Go.Air.Try
end Go.Air
set_option maxRecDepth 100000
namespace Go.Air
open Go.Air.Try
def wt (a b : Int) : List Arw → Int
  | [] => 0
  | r :: l => if r.f = a ∧ r.t = b then r.w else wt a b l
theorem wt_none {a b : Int} : ∀ {l : List Arw}, (∀ r ∈ l, ¬ (r.f = a ∧ r.t = b)) → wt a b l = 0
  | [], _ => rfl
  | r :: l, h => by rw [wt, if_neg (h r (by simp)), wt_none fun x hx => h x (by simp [hx])]
theorem wt_append {a b : Int} : ∀ {l m : List Arw}, (∀ r ∈ l, ¬ (r.f = a ∧ r.t = b)) → wt a b (l ++ m) = wt a b m
  | [], m, _ => rfl
  | r :: l, m, h => by rw [List.cons_append, wt, if_neg (h r (by simp)), wt_append fun x hx => h x (by simp [hx])]
theorem wt_keep {a b : Int} {r : Arw} (hr : ¬ (r.f = a ∧ r.t = b)) : ∀ {l : List Arw}, wt a b (l ++ [r]) = wt a b l
  | [] => by simp [wt, hr]
  | x :: l => by rw [List.cons_append, wt, wt, wt_keep hr]
def gridL (rs : List Arw) : List Int := (List.range 576).map fun (c : Nat) => wt ((c / 24 : Nat) : Int) ((c % 24 : Nat) : Int) rs
theorem gridL_len (rs : List Arw) : (gridL rs).length = 576 := by simp [gridL]
theorem gridL_get {rs : List Arw} {a b : Nat} (ha : a < 24) (hb : b < 24) : (gridL rs)[a * 24 + b]? = some (wt (a : Int) (b : Int) rs) := by
  have hc : a * 24 + b < 576 := by omega
  have h1 : (a * 24 + b) / 24 = a := by omega
  have h2 : (a * 24 + b) % 24 = b := by omega
  simp only [gridL, List.getElem?_map, List.getElem?_range hc, Option.map_some, h1, h2]
theorem gridL_nil : gridL [] = List.replicate 576 0 := by
  apply List.ext_getElem?
  intro i
  by_cases hi : i < 576
  · simp only [gridL, List.getElem?_map, List.getElem?_range hi, Option.map_some, wt, List.getElem?_replicate, if_pos hi]
  · rw [List.getElem?_eq_none (by rw [gridL_len]; omega), List.getElem?_eq_none (by rw [List.length_replicate]; omega)]
theorem gridL_set {rs : List Arw} {r : Arw} {a b : Nat} (ha : a < 24) (hb : b < 24) (ea : r.f = (a : Int)) (eb : r.t = (b : Int)) (hn : ∀ x ∈ rs, ¬ (x.f = r.f ∧ x.t = r.t)) : (gridL rs).set (a * 24 + b) r.w = gridL (rs ++ [r]) := by
  apply List.ext_getElem?
  intro i
  rw [List.getElem?_set]
  by_cases hi : i < 576
  · have hri : i = i / 24 * 24 + i % 24 := by omega
    by_cases h : a * 24 + b = i
    · subst h
      rw [if_pos rfl, if_pos (by rw [gridL_len]; omega), gridL_get ha hb, ← ea, ← eb, wt_append hn]
      simp [wt]
    · rw [if_neg h]
      simp only [gridL, List.getElem?_map, List.getElem?_range hi, Option.map_some]
      rw [wt_keep]
      rintro ⟨h1, h2⟩
      rw [ea] at h1
      rw [eb] at h2
      omega
  · rw [List.getElem?_eq_none (l := gridL (rs ++ [r])) (by rw [gridL_len]; omega), List.getElem?_eq_none (l := gridL rs) (by rw [gridL_len]; omega)]
    have : a * 24 + b ≠ i := by omega
    simp [this]
theorem st_all {h : H} {b k : Nat} {z c : List V} (hg : h.get b = some (.cells z)) (hl : z.length = c.length) (hk : c.length = k) (hone : ∀ u ∈ c, u.oneCell = true) : stV h k (.p b 0) (.agg c) = some (h.put b (.cells c)) := by
  subst hk
  have hall : c.all V.oneCell = true := List.all_eq_true.2 hone
  simp [stV, V.cells, storeAt, hg, lay_all z c hl]
  exact fun u hu => hone u hu
theorem grid_nil : List.replicate 576 (V.i .i64 0) = ints (gridL []) := by rw [gridL_nil, ints_rep]
theorem res_cellk {h : H} {t : List V} {n k b : Nat} {c : List V} {l : List ResV} (ht : nth t n = .p b 0) (g : h.get b = some (.cells c)) (hk : c.length = k) : resultsOf t h (.cell n (some k) :: l) = (resultsOf t h l).map (V.agg c :: ·) := by
  subst hk
  have : cut c 0 c.length = some c := cut_eq.2 ⟨by simp, by simp⟩
  simp [resultsOf, resultOf, ht, g, this]
theorem t97 : tblA 97 = some a97 := by kernel_rfl
theorem fn_weigh {h : H} {N : Int} {v : V} {rs : List Arw} (hr : Arrs h v rs) (hrn : rs.length ≤ 1000000) (gr : GoodR N rs) (hN : N ≤ 24) :
    WC tblA (.fn 97 [] []) [.agg [.i .i64 N, v]] h fun u h' => Ext h h' ∧ u = .agg (ints (gridL rs)) := by
  refine (WC_in t97).2 ?_
  obtain ⟨e0, g0⟩ := rel_blk h N v
  simp only [go_sem, ↓reduceIte, r97_0]
  have hb0 : h.next < (h.new (.cells [.i .i64 N, v])).next := by simp
  generalize hh : h.new (.cells [.i .i64 N, v]) = h0 at *
  have e1 : Ext h0 (h0.new (.cells (List.replicate 576 (.i .i64 0)))) := (Ext.refl h0).new _
  have g1 : (h0.new (.cells (List.replicate 576 (.i .i64 0)))).get h0.next = some (.cells (List.replicate 576 (.i .i64 0))) := by rw [H.get_new, if_pos rfl]
  have hb1 : h0.next < (h0.new (.cells (List.replicate 576 (.i .i64 0)))).next := by simp
  generalize hh1 : h0.new (.cells (List.replicate 576 (.i .i64 0))) = h1 at *
  simp only [go_sem, ↓reduceIte, r97_1]
  have e2 : Ext h1 (h1.new (.cells (List.replicate 576 (.i .i64 0)))) := (Ext.refl h1).new _
  have g2 : (h1.new (.cells (List.replicate 576 (.i .i64 0)))).get h1.next = some (.cells (ints (gridL []))) := by rw [H.get_new, if_pos rfl, grid_nil]
  have hb2 : h1.next < (h1.new (.cells (List.replicate 576 (.i .i64 0)))).next := by simp
  generalize hh2 : h1.new (.cells (List.replicate 576 (.i .i64 0))) = h2 at *
  have l2 : ldV h2 (.p h.next 1) = some v := blk_ld ((e1.trans e2).get hb0 g0) rfl
  have hr1 := hr.ext (e0.trans e1)
  simp only [go_sem, ↓reduceIte, r97_2, l2, hr1.len]
  refine W_while (fun k t h' => ∃ i, k = rs.length - i ∧ i ≤ rs.length ∧ t.length = 23 ∧ nth t 2 = .p h0.next 0 ∧ nth t 3 = .p h1.next 0 ∧ nth t 7 = v ∧ nth t 8 = .i .i64 (rs.length : Int) ∧ nth t 9 = .i .i64 (i : Int) ∧ Ext h1 h' ∧ h1.next < h'.next ∧ h'.get h1.next = some (.cells (ints (gridL (rs.take i))))) ?_ rs.length ?_
  · rintro k t h3 ⟨i, rfl, hi, tl, t2, t3, t7, t8, t9, e3, n3, g3⟩
    unfold b97_0
    by_cases hlt : i < rs.length
    · have hlt' : (i : Int) < (rs.length : Int) := by omega
      obtain ⟨r, hx⟩ : ∃ r, rs[i]? = some r := ⟨_, List.getElem?_eq_getElem hlt⟩
      have hok := gr.1 r (List.mem_of_getElem? hx)
      unfold OkA at hok
      have s3 := hr1.ext e3
      obtain ⟨h4, q4, e4, g4, n4⟩ := st_arw h3 (.i .i64 0) (.i .i64 0) (.i .i64 0) (.i .i64 0) r
      obtain ⟨x0, x1, _, x3, _⟩ := arw_lds g4
      obtain ⟨a, ha⟩ := Int.eq_ofNat_of_zero_le hok.1
      obtain ⟨b, hb⟩ := Int.eq_ofNat_of_zero_le hok.2.2.1
      have ha' : r.f = (a : Int) := ha
      have hb' : r.t = (b : Int) := hb
      have ha24 : a < 24 := by omega
      have hb24 : b < 24 := by omega
      rw [ha'] at x0
      rw [hb'] at x1
      have g3' := e4.get n3 g3
      have hn4 := e4.nx
      have n3' : h1.next < h4.next := Nat.lt_of_lt_of_le n3 e4.nx
      have st1 := st_k (h := h4.bare) (k := 0 + a * 24 + b * 1) (kd := .i64) (x := r.w) g3' (by rw [ints_len, gridL_len]; omega)
      have bk := back_put n3' (.cells ((ints (gridL (rs.take i))).set (0 + a * 24 + b * 1) (.i .i64 r.w)))
      have hno : ∀ x ∈ rs.take i, ¬ (x.f = r.f ∧ x.t = r.t) := by
        intro x hm
        have hg : GoodR N (rs.take (i + 1)) := ⟨fun y hy => gr.1 y (List.mem_of_mem_take hy), gr.2.sublist (List.take_sublist _ _)⟩
        rw [take_succ' hx] at hg
        have := (List.pairwise_append.1 hg.2).2.2 x hm r (by simp)
        unfold ltA at this
        omega
      simp only [go_sem, ↓reduceIte, r97_3, r97_4, r97_5, r97_6, tl, t2, t3, t7, t8, t9, hlt', s3.ix hlt, s3.ldn hx, q4, x0, x1, x3, ixA_ok ha24, ixA_ok hb24, st1, bk, wrap_succ (show i < 1000000000 by omega)]
      refine ⟨rs.length - (i + 1), by omega, i + 1, rfl, hlt, rfl, (e3.trans e4).put (Nat.le_refl _) _, n3', ?_⟩
      rw [H.get_put, if_pos rfl, ints_set, show 0 + a * 24 + b * 1 = a * 24 + b by omega, gridL_set ha24 hb24 ha' hb' hno, take_succ' hx]
    · have hlt' : ¬ (i : Int) < (rs.length : Int) := by omega
      rw [List.take_of_length_le (by omega)] at g3
      have l3 : ldnV h3 576 (.p h1.next 0) = some (.agg (ints (gridL rs))) := blk_ldn g3 (by rw [ints_len, gridL_len])
      have g1' := e3.get hb1 g1
      have st1 := st_all (k := 576) (c := ints (gridL rs)) g1' (by rw [List.length_replicate, ints_len, gridL_len]) (by rw [ints_len, gridL_len]) ints_one
      have g5 : (h3.put h0.next (.cells (ints (gridL rs)))).get h0.next = some (.cells (ints (gridL rs))) := by rw [H.get_put, if_pos rfl]
      simp only [go_sem, ↓reduceIte, r97_3, r97_7, tl, t2, t3, t7, t8, t9, hlt', l3, st1]
      rw [res_cellk (b := h0.next) (by simp only [go_sem, ↓reduceIte, t2]) g5 (by rw [ints_len, gridL_len])]
      simp only [go_sem, ↓reduceIte]
      exact (e0.trans (e1.trans e3)).put e0.nx _
  · refine ⟨0, by omega, by omega, ?_⟩
    simp only [go_sem, ↓reduceIte]
    exact ⟨e2, hb2, g2⟩
end Go.Air
set_option maxRecDepth 100000
namespace Go.Air
open Go.Air.Try
def off (rs : List Arw) (xs : List Int) : Int := sumW (slS xs rs)
def NoB (rs : List Arw) (xs : List Int) (i : Nat) : Prop := ∀ (j : Nat) (x y : Int), j < i → xs[j]? = some x → xs[j + 1]? = some y → wt y x rs ≤ wt x y rs
def swp (xs : List Int) (i : Nat) (a b : Int) : List Int := (xs.set i b).set (i + 1) a
theorem swp_len (xs : List Int) (i : Nat) (a b : Int) : (swp xs i a b).length = xs.length := by simp [swp]
inductive Srt (rs : List Arw) : List Int → List Int → Prop
  | done {xs : List Int} (h : NoB rs xs xs.length) : Srt rs xs xs
  | step {xs ys : List Int} {i : Nat} {a b : Int} (h : NoB rs xs i) (ha : xs[i]? = some a) (hb : xs[i + 1]? = some b) (hlt : wt a b rs < wt b a rs) (s : Srt rs (swp xs i a b) ys) : Srt rs xs ys
theorem swp_split {xs : List Int} {i : Nat} {a b : Int} (ha : xs[i]? = some a) (hb : xs[i + 1]? = some b) : ∃ p q, p.length = i ∧ xs = p ++ a :: b :: q ∧ swp xs i a b = p ++ b :: a :: q := by
  obtain ⟨h1, e1⟩ := List.getElem?_eq_some_iff.1 ha
  obtain ⟨h2, e2⟩ := List.getElem?_eq_some_iff.1 hb
  have hx : xs = xs.take i ++ a :: b :: xs.drop (i + 2) := by
    rw [← e1, ← e2, ← List.drop_eq_getElem_cons h2, ← List.drop_eq_getElem_cons h1, List.take_append_drop]
  have hl : (xs.take i).length = i := by simp; omega
  refine ⟨xs.take i, xs.drop (i + 2), hl, hx, ?_⟩
  generalize hp : xs.take i = p at *
  generalize xs.drop (i + 2) = q at *
  subst hl
  rw [hx]
  simp [swp, List.set_append]
theorem posN_append (x : Int) : ∀ p l : List Int, posN x (p ++ l) = if x ∈ p then posN x p else p.length + posN x l
  | [], l => by simp
  | y :: p, l => by
    rw [List.cons_append, posN, posN_append x p l, posN]
    by_cases h : y = x
    · subst h; simp
    · simp only [if_neg h, List.mem_cons, Ne.symm h, false_or, List.length_cons]
      split <;> omega
theorem posN_lt {x : Int} {p : List Int} (h : x ∈ p) : posN x p < p.length := (posN_get h).2
theorem pos_swp {p q : List Int} {a b : Int} (hd : (p ++ a :: b :: q).Nodup) (x : Int) :
    (x = a ∧ posN x (p ++ a :: b :: q) = p.length ∧ posN x (p ++ b :: a :: q) = p.length + 1) ∨
    (x = b ∧ posN x (p ++ a :: b :: q) = p.length + 1 ∧ posN x (p ++ b :: a :: q) = p.length) ∨
    (x ≠ a ∧ x ≠ b ∧ posN x (p ++ a :: b :: q) = posN x (p ++ b :: a :: q) ∧ (posN x (p ++ a :: b :: q) < p.length ∨ p.length + 2 ≤ posN x (p ++ a :: b :: q))) := by
  obtain ⟨h1, h2, h3⟩ := List.nodup_append.1 hd
  have hab : a ≠ b := by rintro rfl; simp at h2
  have hap : a ∉ p := fun h => h3 a h a (by simp) rfl
  have hbp : b ∉ p := fun h => h3 b h b (by simp) rfl
  rw [posN_append, posN_append]
  by_cases c1 : x = a
  · subst c1
    refine .inl ⟨rfl, ?_, ?_⟩
    · rw [if_neg hap]; simp [posN]
    · rw [if_neg hap]; simp [posN, hab.symm]
  by_cases c2 : x = b
  · subst c2
    refine .inr (.inl ⟨rfl, ?_, ?_⟩)
    · rw [if_neg hbp]; simp [posN, hab]
    · rw [if_neg hbp]; simp [posN]
  refine .inr (.inr ⟨c1, c2, ?_, ?_⟩)
  · split
    · rfl
    · simp [posN, Ne.symm c1, Ne.symm c2]
  · split
    · rename_i h; exact .inl (posN_lt h)
    · right; simp [posN, Ne.symm c1, Ne.symm c2]
def term (xs : List Int) (r : Arw) : Int := if posN r.t xs < posN r.f xs then r.w else 0
def offT (rs : List Arw) (g : Arw → Int) : Int := (rs.map g).sum
theorem off_eq (xs : List Int) : ∀ rs : List Arw, off rs xs = offT rs (term xs)
  | [] => rfl
  | r :: rs => by
    have ih := off_eq xs rs
    simp only [off, offT, List.map_cons, List.sum_cons] at *
    rw [← ih]
    have : slS xs (r :: rs) = (if posN r.t xs < posN r.f xs then [(r.f, r.t, r.w)] else []) ++ slS xs rs := rfl
    rw [this, sumW_append]
    unfold term
    split
    · rw [sumW_one]
    · rfl
def one (a b : Int) (r : Arw) : Int := if r.f = a ∧ r.t = b then r.w else 0
theorem offT_one (a b : Int) : ∀ rs : List Arw, rs.Pairwise ltA → offT rs (one a b) = wt a b rs
  | [], _ => rfl
  | r :: rs, hp => by
    obtain ⟨h1, h2⟩ := List.pairwise_cons.1 hp
    have ih := offT_one a b rs h2
    simp only [offT, List.map_cons, List.sum_cons] at *
    rw [ih, one, wt]
    split
    · rename_i h
      rw [wt_none]
      · omega
      · rintro x hx ⟨e1, e2⟩
        have := h1 x hx
        unfold ltA at this
        omega
    · omega
theorem offT_add (f g k : Arw → Int) : ∀ rs : List Arw, offT rs (fun r => f r - g r + k r) = offT rs f - offT rs g + offT rs k
  | [] => rfl
  | r :: rs => by
    have ih := offT_add f g k rs
    simp only [offT, List.map_cons, List.sum_cons] at *
    omega
theorem offT_congr {f g : Arw → Int} : ∀ {rs : List Arw}, (∀ r ∈ rs, f r = g r) → offT rs f = offT rs g
  | [], _ => rfl
  | r :: rs, h => by
    have ih := offT_congr (rs := rs) fun x hx => h x (by simp [hx])
    simp only [offT, List.map_cons, List.sum_cons] at *
    rw [ih, h r (by simp)]
theorem off_swp {rs : List Arw} {N : Int} {xs : List Int} {i : Nat} {a b : Int} (gr : GoodR N rs) (hd : xs.Nodup) (ha : xs[i]? = some a) (hb : xs[i + 1]? = some b) :
    off rs (swp xs i a b) = off rs xs - wt b a rs + wt a b rs := by
  obtain ⟨p, q, hl, hx, hs⟩ := swp_split ha hb
  rw [off_eq, off_eq, ← offT_one b a rs gr.2, ← offT_one a b rs gr.2, ← offT_add]
  refine offT_congr fun r hr => ?_
  have hok := gr.1 r hr
  unfold OkA at hok
  rw [hs]
  rw [hx] at hd ⊢
  have hab : a ≠ b := by
    rintro rfl
    have := (List.nodup_append.1 hd).2.1
    simp at this
  unfold term one
  rcases pos_swp hd r.f with ⟨f1, f2, f3⟩ | ⟨f1, f2, f3⟩ | ⟨f1, f1', f2, f3⟩ <;> rcases pos_swp hd r.t with ⟨g1, g2, g3⟩ | ⟨g1, g2, g3⟩ | ⟨g1, g1', g2, g3⟩
  all_goals (repeat' split) <;> omega
theorem swp_perm {xs : List Int} {i : Nat} {a b : Int} (ha : xs[i]? = some a) (hb : xs[i + 1]? = some b) : (swp xs i a b).Perm xs := by
  obtain ⟨p, q, _, hx, hs⟩ := swp_split ha hb
  rw [hs]
  conv => rhs; rw [hx]
  exact (List.Perm.swap a b q).append_left p
theorem swp_good {N : Int} {xs : List Int} {i : Nat} {a b : Int} (g : GoodO N xs) (ha : xs[i]? = some a) (hb : xs[i + 1]? = some b) : GoodO N (swp xs i a b) := by
  have hp := swp_perm ha hb
  refine ⟨by rw [swp_len]; exact g.1, fun x hx => g.2.1 x (hp.mem_iff.1 hx), hp.nodup_iff.2 g.2.2⟩
theorem off_nonneg {N : Int} {rs : List Arw} (gr : GoodR N rs) (xs : List Int) : 0 ≤ off rs xs := (sumW_range (slS_range (xs := xs) gr)).1
theorem Srt.less {rs : List Arw} {N : Int} {xs ys : List Int} (gr : GoodR N rs) (s : Srt rs xs ys) : GoodO N xs → GoodO N ys ∧ off rs ys ≤ off rs xs ∧ (off rs ys = off rs xs → ys = xs) := by
  induction s with
  | done h => intro g; exact ⟨g, Int.le_refl _, fun _ => rfl⟩
  | step h ha hb hlt _ ih =>
    intro g
    obtain ⟨i1, i2, i3⟩ := ih (swp_good g ha hb)
    have := off_swp gr g.2.2 ha hb
    exact ⟨i1, by omega, fun e => by omega⟩
end Go.Air
set_option maxRecDepth 100000
namespace Go.Air
open Go.Air.Try
def SortedRes (h h' : H) (N : Int) (rs : List Arw) (xs : List Int) (u : V) : Prop :=
  Ext h h' ∧ ∃ w ys, u = .tup [w, .i .i64 (bothS N rs xs)] ∧ Own h 1 h' w ys.length (ints ys) ∧ (if bothS N rs xs ≠ 0 then ys = [] else Srt rs xs ys)
theorem srt_step {rs : List Arw} {xs cur : List Int} {i : Nat} {a b : Int} (hS : ∀ ys, Srt rs cur ys → Srt rs xs ys) (hn : NoB rs cur i) (ha : cur[i]? = some a) (hb : cur[i + 1]? = some b) (hlt : wt a b rs < wt b a rs) : ∀ ys, Srt rs (swp cur i a b) ys → Srt rs xs ys :=
  fun ys s => hS ys (.step hn ha hb hlt s)
theorem nob_step {rs : List Arw} {cur : List Int} {j : Nat} {a b : Int} (hn : NoB rs cur j) (ha : cur[j]? = some a) (hb : cur[j + 1]? = some b) (hlt : ¬ wt a b rs < wt b a rs) : NoB rs cur (j + 1) := by
  intro k x y hk hx hy
  by_cases h : k = j
  · subst h
    rw [ha] at hx; rw [hb] at hy
    cases hx; cases hy
    omega
  · exact hn k x y (by omega) hx hy
theorem nob_all {rs : List Arw} {cur : List Int} {j m : Nat} (hl : cur.length = m) (hn : NoB rs cur j) (hj : m ≤ j + 1) : NoB rs cur cur.length := by
  intro k x y hk hx hy
  have := (List.getElem?_eq_some_iff.1 hy).1
  exact hn k x y (by omega) hx hy
theorem t49 : tblA 49 = some a49 := by kernel_rfl
theorem fn_Sorted {h : H} {N : Int} {v o : V} {rs : List Arw} {xs : List Int} (hr : Arrs h v rs) (hrn : rs.length ≤ 1000000) (hs : Ints h o xs) (hn : xs.length ≤ 1000000) :
    WC tblA (.fn 49 [] []) [.agg [.i .i64 N, v], o] h fun u h' => SortedRes h h' N rs xs u := by
  refine (WC_in t49).2 ?_
  obtain ⟨e0, g0⟩ := rel_blk h N v
  simp only [go_sem, ↓reduceIte, r49_0]
  have hb0 : h.next < (h.new (.cells [.i .i64 N, v])).next := by simp
  generalize hh : h.new (.cells [.i .i64 N, v]) = h0 at *
  have l0 : ldnV h0 2 (.p h.next 0) = some (.agg [.i .i64 N, v]) := blk_ldn g0 rfl
  simp only [go_sem, ↓reduceIte, r49_1, l0]
  refine (fn_both (hr.ext e0) hrn (hs.ext e0) hn).mono ?_
  rintro _ h1 ⟨e1, rfl⟩
  by_cases hc : ¬ bothS N rs xs = 0
  · simp only [go_sem, ↓reduceIte, r49_2, r49_3, hc]
    exact ⟨e0.trans e1, .sn, [], rfl, .nil, by rw [if_pos hc]⟩
  replace hc := Classical.not_not.1 hc
  obtain ⟨gr, go, hN0, hN⟩ := both_ok hc
  have l1 : ldnV h1 2 (.p h.next 0) = some (.agg [.i .i64 N, v]) := blk_ldn (e1.get hb0 g0) rfl
  simp only [go_sem, ↓reduceIte, r49_2, r49_4, hc, l1]
  refine (fn_weigh (hr.ext (e0.trans e1)) hrn gr hN).mono ?_
  rintro _ h2 ⟨e2, rfl⟩
  have g3 : (h2.new (.cells (List.replicate 576 (.i .i64 0)))).get h2.next = some (.cells (List.replicate 576 (.i .i64 0))) := by rw [H.get_new, if_pos rfl]
  have hst := st_all (k := 576) (c := ints (gridL rs)) g3 (by rw [List.length_replicate, ints_len, gridL_len]) (by rw [ints_len, gridL_len]) ints_one
  have e4 : Ext h2 ((h2.new (.cells (List.replicate 576 (.i .i64 0)))).put h2.next (.cells (ints (gridL rs)))) := ((Ext.refl h2).new _).put (Nat.le_refl _) _
  have g4 : ((h2.new (.cells (List.replicate 576 (.i .i64 0)))).put h2.next (.cells (ints (gridL rs)))).get h2.next = some (.cells (ints (gridL rs))) := by rw [H.get_put, if_pos rfl]
  have n4 : h2.next < ((h2.new (.cells (List.replicate 576 (.i .i64 0)))).put h2.next (.cells (ints (gridL rs)))).next := by simp
  simp only [go_sem, ↓reduceIte, hst]
  generalize hq : (h2.new (.cells (List.replicate 576 (.i .i64 0)))).put h2.next (.cells (ints (gridL rs))) = h4 at *
  have eA := e0.trans (e1.trans (e2.trans e4))
  simp only [go_sem, ↓reduceIte, r49_5]
  refine (fn_Clone (hs.ext eA) hn).mono ?_
  rintro w h5 ⟨e5, o5⟩
  simp only [go_sem, ↓reduceIte]
  refine W_while (fun kk t h' => ∃ cur : List Int, kk = (off rs cur).toNat ∧ t.length = 58 ∧ nth t 7 = .p h2.next 0 ∧ nth t 8 = w ∧ GoodO N cur ∧ (∀ ys, Srt rs cur ys → Srt rs xs ys) ∧ Ext h4 h' ∧ Own h4 1 h' w xs.length (ints cur)) ?_ (off rs xs).toNat ?_
  · rintro kk t h6 ⟨cur, rfl, tl, t7, t8, gc, hS, e6, o6⟩
    unfold b49_1
    have hcl : cur.length = xs.length := o6.len1
    simp only [go_sem, ↓reduceIte, r49_6, tl, t7, t8]
    refine W_while (fun kk t h' => ∃ j : Nat, kk = xs.length - j ∧ (j = 0 ∨ j < xs.length) ∧ t.length = 58 ∧ nth t 7 = .p h2.next 0 ∧ nth t 8 = w ∧ nth t 9 = .i .i64 ((j + 1 : Nat) : Int) ∧ NoB rs cur j ∧ h6 = h') ?_ xs.length ?_
    · rintro kk t h7 ⟨j, rfl, hj, tl, t7, t8, t9, hnb, rfl⟩
      unfold b49_0
      have s6 := (Ints.of o6.sl).1
      by_cases hlt : j + 1 < xs.length
      · have hlt' : ((j + 1 : Nat) : Int) < (xs.length : Int) := by omega
        have hj1 : j < cur.length := by omega
        have hj2 : j + 1 < cur.length := by omega
        obtain ⟨a, ha⟩ : ∃ a, cur[j]? = some a := ⟨_, List.getElem?_eq_getElem hj1⟩
        obtain ⟨b, hb⟩ : ∃ b, cur[j + 1]? = some b := ⟨_, List.getElem?_eq_getElem hj2⟩
        have ra := gc.2.1 a (List.mem_of_getElem? ha)
        have rb := gc.2.1 b (List.mem_of_getElem? hb)
        obtain ⟨x, rfl⟩ := Int.eq_ofNat_of_zero_le ra.1
        obtain ⟨y, rfl⟩ := Int.eq_ofNat_of_zero_le rb.1
        have hx : x < 24 := by omega
        have hy : y < 24 := by omega
        have hw1 : IntKind.i64.wrap (((j + 1 : Nat) : Int) - 1) = (j : Int) := by rw [wrap_in (by omega) (by omega)]; omega
        have g6 := e6.get n4 g4
        have w1 : ldV h6 (.p h2.next (0 + y * 24 + x * 1)) = some (.i .i64 (wt y x rs)) := blk_ld g6 (by rw [ints_get, show 0 + y * 24 + x * 1 = y * 24 + x by omega, gridL_get hy hx]; rfl)
        have w2 : ldV h6 (.p h2.next (0 + x * 24 + y * 1)) = some (.i .i64 (wt x y rs)) := blk_ld g6 (by rw [ints_get, show 0 + x * 24 + y * 1 = x * 24 + y by omega, gridL_get hx hy]; rfl)
        have ix1 := s6.ix hj1
        have ix2 := s6.ix hj2
        have ld1 := s6.ld ha
        have ld2 := s6.ld hb
        have hlen := s6.len
        rw [hcl] at hlen
        by_cases hbad : wt x y rs < wt y x rs
        · obtain ⟨h8, q8, e8, o8, n8, k8⟩ := o6.set (i := j) e6 (by omega) (y : Int)
          obtain ⟨h9, q9, e9, o9, n9, k9⟩ := o8.set (i := j + 1) e8 (by omega) (x : Int)
          simp only [go_sem, ↓reduceIte, r49_7, r49_9, r49_10, r49_11, tl, t7, t8, t9, hlen, hlt', hw1, ix1, ix2, ld1, ld2, ixA_ok hx, ixA_ok hy, w1, w2, hbad, q8, q9]
          have hoff := off_swp gr gc.2.2 ha hb
          have hnn := off_nonneg gr (swp cur j x y)
          exact ⟨(off rs (swp cur j x y)).toNat, by omega, swp cur j x y, rfl, swp_good gc ha hb, srt_step hS hnb ha hb hbad, e9, o9⟩
        · simp only [go_sem, ↓reduceIte, r49_7, r49_8, r49_9, r49_10, tl, t7, t8, t9, hlen, hlt', hw1, ix1, ix2, ld1, ld2, ixA_ok hx, ixA_ok hy, w1, w2, hbad, wrap_succ (show j + 1 < 1000000000 by omega)]
          exact ⟨xs.length - (j + 1), by omega, j + 1, rfl, .inr hlt, rfl, nob_step hnb ha hb hbad⟩
      · have hlt' : ¬ ((j + 1 : Nat) : Int) < (xs.length : Int) := by omega
        have hlen := s6.len
        rw [hcl] at hlen
        simp only [go_sem, ↓reduceIte, r49_7, r49_12, tl, t7, t8, t9, hlen, hlt']
        refine ⟨eA.trans e6, w, cur, by rw [hc], ?_, ?_⟩
        · rw [hcl]
          exact o6.mono eA.nx
        · rw [if_neg (by simp [hc])]
          exact hS cur (.done (nob_all hcl hnb (by omega)))
    · refine ⟨0, by omega, .inl rfl, ?_⟩
      simp only [go_sem, ↓reduceIte, tl, t7, t8]
      refine ⟨rfl, ?_⟩
      intro k x y hk; omega
  · refine ⟨xs, rfl, ?_⟩
    simp only [go_sem, ↓reduceIte]
    exact ⟨go, fun ys s => s, e5, o5⟩
end Go.Air
set_option maxRecDepth 100000
namespace Go.Air
open Go.Air.Try
theorem sorted_len {N : Int} {rs : List Arw} {xs ys : List Int} (h : if bothS N rs xs ≠ 0 then ys = [] else Srt rs xs ys) : ys.length ≤ xs.length ∧ (bothS N rs xs = 0 → GoodR N rs ∧ GoodO N xs ∧ N ≤ 24 ∧ GoodO N ys ∧ Srt rs xs ys) := by
  by_cases hc : bothS N rs xs = 0
  · obtain ⟨gr, go, _, hN⟩ := both_ok hc
    rw [if_neg (by simp [hc])] at h
    have g := (h.less gr go).1
    have h1 := g.1
    have h2 := go.1
    exact ⟨by omega, fun _ => ⟨gr, go, hN, g, h⟩⟩
  · rw [if_pos hc] at h
    subst h
    exact ⟨by simp, fun z => absurd z hc⟩
end Go.Air
set_option maxRecDepth 100000
namespace Go.Air
open Go.Air.Try
theorem get_new_lt {h : H} {b : Nat} {x : Blk} (hb : b < h.next) : (h.new x).get b = h.get b := by rw [H.get_new, if_neg (by omega)]
theorem get_new_eq {h : H} {b : Nat} {x : Blk} (hb : b = h.next) : (h.new x).get b = some x := by rw [H.get_new, if_pos hb]
theorem updAll_two (t : List V) (p q : Nat) (a b : V) : updAll t [p, q] [a, b] = upd (upd t p a) q b := rfl
theorem yld_roundL {tbl : Nat → Option FI} {l : Nat} {t : List V} {ps : List Nat} {asg body : C} {args : List V} {h : H} {S : V → H → Prop} {L Lb : Loop} (hg : h.get l = some (.loop L)) (hL : L = ⟨.ready, none, t, ps, asg, body⟩) (hLb : Lb = ⟨.busy, none, t, ps, asg, body⟩) (ha : args.length = ps.length)
    (hb : W tbl asg (updAll t ps args) h fun o t1 h1 => o = .norm ∧ h1 = h ∧ W tbl body t1 (h.put l (.loop Lb)) fun o _ h2 => o = .norm ∧ h2.get l = some (.loop Lb) ∧ S (.b true) (h2.put l (.loop L))) : WC tbl (.yld l) args h S := by
  subst hL hLb
  exact yld_round hg ha hb
theorem W_rangeL {tbl : Nat → Option FI} {f : X} {ps : List Nat} {asg body : C} {g : Nat} {a c t : List V} {h : H} {Q : Out → List V → H → Prop} (hf : f.ev t = .fn g a c)
    (hw : ∀ L Lo : Loop, L = ⟨.ready, none, t, ps, asg, body⟩ → WC tbl (.fn g a c) [.yld h.next] (h.new (.loop L)) fun _ h' => h'.get h.next = some (.loop L) ∧ Q .norm t (h'.put h.next (.loop Lo))) :
    W tbl (.rangeF f ps asg body) t h Q := W_rangeN hf (hw _ _ rfl)
theorem t122 : tblA 122 = some a122 := by kernel_rfl
@[go_sem ↓] theorem fn_members {h : H} {s m : Int} {S : V → H → Prop} : WC tblA (.fn 122 [] []) [.i .i64 s, .i .i64 m] h S ↔ S (.fn 133 [] [.p (h.next + 1) 0, .p h.next 0]) ((h.new (.cells [.i .i64 s])).new (.cells [.i .i64 m])) := by
  rw [WC_in t122]
  simp only [go_sem, ↓reduceIte, r122_0, r122_1, H.next_new]
  rw [show (V.i .i64 s).cells = [.i .i64 s] from rfl, show (V.i .i64 m).cells = [.i .i64 m] from rfl]
theorem t133 : tblA 133 = some a133 := by kernel_rfl
theorem fn_members1 {h : H} {b1 b2 l m s : Nat} (hm : m ≤ 24) (hs : s < 1000000000) (J : Nat → H → Prop) (K : H → Prop)
    (hJ : ∀ i h', J i h' → h'.get b1 = some (.cells [.i .i64 (m : Int)]) ∧ h'.get b2 = some (.cells [.i .i64 (s : Int)]))
    (hstep : ∀ i h', J i h' → i < m → s.testBit i = true → WC tblA (.yld l) [.i .i64 (i : Int), .i .i64 ((2 ^ i : Nat) : Int)] h' (fun r h'' => (r = .b true ∧ J (i + 1) h'') ∨ (r = .b false ∧ K h'')))
    (hskip : ∀ i h', J i h' → i < m → s.testBit i = false → J (i + 1) h') (h0 : J 0 h) : WC tblA (.fn 133 [] [.p b1 0, .p b2 0]) [.yld l] h fun _ h' => J m h' ∨ K h' := by
  refine (WC_cl t133).2 ?_
  refine W_gen (fun t => t.length = 24 ∧ nth t 0 = .yld l ∧ nth t 1 = .p b1 0 ∧ nth t 2 = .p b2 0) ⟨rfl, rfl, rfl, rfl⟩ ?_
  rintro t ⟨tl, t0, t1, t2⟩
  have lm := blk_ld (i := 0) (hJ 0 h h0).1 rfl
  simp only [go_sem, ↓reduceIte, r133_0, tl, t1, lm]
  refine W_while (fun k t h' => ∃ i, k = m - i ∧ i ≤ m ∧ t.length = 24 ∧ nth t 0 = .yld l ∧ nth t 2 = .p b2 0 ∧ nth t 6 = .i .i64 (m : Int) ∧ nth t 7 = .i .i64 (i : Int) ∧ J i h') ?_ m ?_
  · rintro k t h' ⟨i, rfl, hi, tl, t0, t2, t6, t7, hj⟩
    unfold b133_0
    by_cases hlt : i < m
    · have hltI : (i : Int) < (m : Int) := by omega
      have ls := blk_ld (i := 0) (hJ i h' hj).2 rfl
      have hp := pow_lt (show i < 62 by omega)
      have ha := bin_and (a := s) (b := 2 ^ i) (by omega) hp
      cases hb : s.testBit i
      · have hz : (((s &&& 2 ^ i : Nat) : Int) = 0) := by
          have := and_bit s i
          rw [hb] at this
          have : s &&& 2 ^ i = 0 := by
            rcases Nat.eq_zero_or_pos (s &&& 2 ^ i) with q | q
            · exact q
            · exact absurd (this.1 (by omega)) (by simp)
          omega
        simp only [go_sem, ↓reduceIte, r133_1, r133_2, r133_3, r133_4, r133_5, tl, t0, t2, t6, t7, hltI, bin_shl1 (kd := .i64) (show i < 62 by omega), ls, ha, hz, wrap_succ (show i < 1000000000 by omega)]
        exact ⟨m - (i + 1), by omega, i + 1, rfl, hlt, rfl, hskip i h' hj hlt hb⟩
      · have hz : ¬ (((s &&& 2 ^ i : Nat) : Int) = 0) := by
          have := (and_bit s i).2 hb
          omega
        simp only [go_sem, ↓reduceIte, r133_1, r133_2, r133_3, r133_4, tl, t0, t2, t6, t7, hltI, bin_shl1 (kd := .i64) (show i < 62 by omega), ls, ha, hz]
        refine (hstep i h' hj hlt hb).mono ?_
        rintro r h2 (⟨rfl, hj2⟩ | ⟨rfl, hk⟩)
        · simp only [go_sem, ↓reduceIte, r133_5, tl, t0, t2, t6, t7, wrap_succ (show i < 1000000000 by omega)]
          exact ⟨m - (i + 1), by omega, i + 1, rfl, hlt, rfl, hj2⟩
        · simp only [go_sem, ↓reduceIte, tl]
          exact .inr hk
    · have hltI : ¬ (i : Int) < (m : Int) := by omega
      obtain rfl : i = m := by omega
      simp only [go_sem, ↓reduceIte, r133_1, tl, t0, t2, t6, t7, hltI]
      exact .inl hj
  · refine ⟨0, by omega, by omega, ?_⟩
    simp only [go_sem, ↓reduceIte, tl, t0, t2]
    exact h0
def bhK (rs : List Arw) (c : List Int) (i s : Nat) : Nat → Int
  | 0 => 0
  | k + 1 => bhK rs c i s k + if s.testBit k = true then wt (c.getD i 0) (c.getD k 0) rs else 0
def Wok (rs : List Arw) : Prop := ∀ a b : Int, 0 ≤ wt a b rs ∧ wt a b rs ≤ 1000
theorem wok_of {N : Int} : ∀ {rs : List Arw}, (∀ r ∈ rs, OkA N r) → Wok rs
  | [], _ => fun a b => by simp [wt]
  | r :: l, h => fun a b => by
    have ih := wok_of (N := N) (rs := l) (fun x hx => h x (by simp [hx])) a b
    have := h r (by simp)
    unfold OkA at this
    simp only [wt]
    split
    · omega
    · exact ih
theorem bhK_bound {rs : List Arw} (hw : Wok rs) (c : List Int) (i s : Nat) : ∀ k, 0 ≤ bhK rs c i s k ∧ bhK rs c i s k ≤ 1000 * k
  | 0 => by simp [bhK]
  | k + 1 => by
    have ih := bhK_bound hw c i s k
    have := hw (c.getD i 0) (c.getD k 0)
    simp only [bhK]
    split <;> omega
def Grid (h : H) (gb : Nat) (rs : List Arw) : Prop := gb < h.next ∧ ∃ cs, h.get gb = some (.cells cs) ∧ ∀ a b : Nat, a < 24 → b < 24 → cs[0 + a * 24 + b * 1]? = some (.i .i64 (wt (a : Int) (b : Int) rs))
theorem Grid.ext {h h' : H} {gb : Nat} {rs : List Arw} (g : Grid h gb rs) (e : Ext h h') : Grid h' gb rs := by
  obtain ⟨hb, cs, q, r⟩ := g
  exact ⟨Nat.lt_of_lt_of_le hb e.nx, cs, e.get hb q, r⟩
theorem Grid.extX {X : Nat → Prop} {h h' : H} {gb : Nat} {rs : List Arw} (g : Grid h gb rs) (e : ExtX X h h') (hX : ¬ X gb) : Grid h' gb rs := by
  obtain ⟨hb, cs, q, r⟩ := g
  exact ⟨Nat.lt_of_lt_of_le hb e.nx, cs, e.get hb hX q, r⟩
theorem Grid.ld {h : H} {gb a b : Nat} {rs : List Arw} (g : Grid h gb rs) (ha : a < 24) (hb : b < 24) : ldV h (.p gb (0 + a * 24 + b * 1)) = some (.i .i64 (wt (a : Int) (b : Int) rs)) := by
  obtain ⟨_, cs, q, r⟩ := g
  exact blk_ld q (r a b ha hb)
def Gst (c : List Int) : Prop := ∀ y ∈ c, ∃ j : Nat, y = (j : Int) ∧ j < 24
theorem Gst.at {c : List Int} (h : Gst c) {i : Nat} (hi : i < c.length) : ∃ j : Nat, c[i]? = some (j : Int) ∧ j < 24 ∧ c.getD i 0 = (j : Int) := by
  obtain ⟨j, e, hj⟩ := h c[i] (List.getElem_mem hi)
  exact ⟨j, by rw [List.getElem?_eq_getElem hi, e], hj, by rw [List.getD_eq_getElem?_getD, List.getElem?_eq_getElem hi, e]; rfl⟩
theorem t123 : tblA 123 = some a123 := by kernel_rfl
theorem fn_behind {h : H} {gb i s m : Nat} {v : V} {rs : List Arw} {c : List Int} (hg : Grid h gb rs) (hc : Ints h v c) (hl : c.length = m) (hm : m ≤ 24) (hin : Gst c) (hi : i < m) (hs : s < 1000000000) (hw : Wok rs) :
    WC tblA (.fn 123 [] []) [.p gb 0, v, .i .i64 (i : Int), .i .i64 (s : Int)] h fun u h' => Ext h h' ∧ u = .i .i64 (bhK rs c i s m) := by
  refine (WC_in t123).2 ?_
  simp only [go_sem, ↓reduceIte, r123_0, H.next_new]
  rw [show (V.i .i64 (i : Int)).cells = [.i .i64 (i : Int)] from rfl, hc.one.1]
  have e1 : Ext h (((h.new (.cells [.p gb 0])).new (.cells [v])).new (.cells [.i .i64 (i : Int)])) := (((Ext.refl h).new _).new _).new _
  have g4 : (((h.new (.cells [.p gb 0])).new (.cells [v])).new (.cells [.i .i64 (i : Int)])).get h.next = some (.cells [.p gb 0]) := by rw [get_new_lt (by simp; omega), get_new_lt (by simp), get_new_eq rfl]
  have g5 : (((h.new (.cells [.p gb 0])).new (.cells [v])).new (.cells [.i .i64 (i : Int)])).get (h.next + 1) = some (.cells [v]) := by rw [get_new_lt (by simp), get_new_eq (by simp)]
  have g6 : (((h.new (.cells [.p gb 0])).new (.cells [v])).new (.cells [.i .i64 (i : Int)])).get (h.next + 1 + 1) = some (.cells [.i .i64 (i : Int)]) := by rw [get_new_eq (by simp)]
  have n1 : (((h.new (.cells [.p gb 0])).new (.cells [v])).new (.cells [.i .i64 (i : Int)])).next = h.next + 1 + 1 + 1 := by simp
  generalize (((h.new (.cells [.p gb 0])).new (.cells [v])).new (.cells [.i .i64 (i : Int)])) = h1 at *
  obtain ⟨h2, s2, e2, g9, n2⟩ := st_newK h1 [.i .i64 0] [.i .i64 0] rfl (by intro u hu; simp at hu; subst hu; rfl)
  have s2' : stV (h1.new (.cells [.i .i64 0])) 1 (.p h1.next 0) (.i .i64 0) = some h2 := s2
  simp only [go_sem, ↓reduceIte, r123_1, s2']
  have g4' := e2.get (by omega) g4
  have g5' := e2.get (by omega) g5
  have g6' := e2.get (by omega) g6
  have l5 : ldV h2 (.p (h.next + 1) 0) = some v := blk_ld g5' rfl
  have hc2 := hc.ext (e1.trans e2)
  simp only [go_sem, ↓reduceIte, r123_2, l5, hc2.len, hl]
  have e3 : Ext h2 ((h2.new (.cells [.i .i64 (s : Int)])).new (.cells [.i .i64 (m : Int)])) := ((Ext.refl h2).new _).new _
  have gs : ((h2.new (.cells [.i .i64 (s : Int)])).new (.cells [.i .i64 (m : Int)])).get h2.next = some (.cells [.i .i64 (s : Int)]) := by rw [get_new_lt (by simp), get_new_eq rfl]
  have gm : ((h2.new (.cells [.i .i64 (s : Int)])).new (.cells [.i .i64 (m : Int)])).get (h2.next + 1) = some (.cells [.i .i64 (m : Int)]) := by rw [get_new_eq (by simp)]
  have n3 : ((h2.new (.cells [.i .i64 (s : Int)])).new (.cells [.i .i64 (m : Int)])).next = h2.next + 1 + 1 := by simp
  generalize ((h2.new (.cells [.i .i64 (s : Int)])).new (.cells [.i .i64 (m : Int)])) = h3 at *
  refine W_gen (fun t => t.length = 33 ∧ nth t 4 = .p h.next 0 ∧ nth t 5 = .p (h.next + 1) 0 ∧ nth t 6 = .p (h.next + 1 + 1) 0 ∧ nth t 9 = .p h1.next 0 ∧ nth t 14 = .fn 133 [] [.p (h2.next + 1) 0, .p h2.next 0]) ⟨by simp only [go_sem], by simp only [go_sem, ↓reduceIte], by simp only [go_sem, ↓reduceIte], by simp only [go_sem, ↓reduceIte], by simp only [go_sem, ↓reduceIte], by simp only [go_sem, ↓reduceIte]⟩ ?_
  rintro t ⟨tl, t4, t5, t6, t9, t14⟩
  refine W_rangeL (show (X.t 14).ev t = _ from t14) ?_
  intro L Lo hLdef
  obtain ⟨Lb, hLb⟩ : ∃ Lb : Loop, Lb = ⟨.busy, none, t, [15, 16], .ops r123_3, b123_0⟩ := ⟨_, rfl⟩
  have eL : Ext h3 (h3.new (.loop L)) := (Ext.refl h3).new _
  have gL : (h3.new (.loop L)).get h3.next = some (.loop L) := get_new_eq rfl
  have nL : (h3.new (.loop L)).next = h3.next + 1 := by simp
  generalize h3.new (.loop L) = hL at *
  have eAll : Ext h hL := e1.trans (e2.trans (e3.trans eL))
  have n2e := e2.nx
  have g4L := eL.get (by omega) (e3.get (by omega) g4')
  have g5L := eL.get (by omega) (e3.get (by omega) g5')
  have g6L := eL.get (by omega) (e3.get (by omega) g6')
  have g9L := eL.get (by omega) (e3.get (by omega) g9)
  have gsL := eL.get (by omega) gs
  have gmL := eL.get (by omega) gm
  have hgL := hg.ext eAll
  have hcL := hc.ext eAll
  have hgb := hg.1
  refine (fn_members1 hm hs (fun k h' => ExtX (fun b => b = h1.next ∨ b = h3.next) hL h' ∧ h'.get h1.next = some (.cells [.i .i64 (bhK rs c i s k)]) ∧ h'.get h3.next = some (.loop L)) (fun _ => False) ?_ ?_ ?_ ⟨.refl _ _, g9L, gL⟩).mono ?_
  · rintro k h' ⟨x, _, _⟩
    exact ⟨x.get (by omega) (by omega) gmL, x.get (by omega) (by omega) gsL⟩
  · rintro k h' ⟨x, g9, gl⟩ hk hb
    refine yld_roundL gl hLdef hLb rfl ?_
    rw [updAll_two]
    obtain ⟨a, ha, ha24, haD⟩ := hin.at (i := i) (by omega)
    obtain ⟨b, hb', hb24, hbD⟩ := hin.at (i := k) (by omega)
    have hcv : v = .sn ∨ (∃ a, v = .se a) ∨ ¬ (blkV v = h1.next ∨ blkV v = h3.next) := by
      rcases hc with ⟨_, _, q | q⟩ | ⟨b, off, cap, g, bl, rfl, hb, _⟩
      · exact .inl q
      · exact .inr (.inl q)
      · exact .inr (.inr (show ¬ (b = h1.next ∨ b = h3.next) by omega))
    have hc' : Ints h' v c := Sl.keepX hcL x hcv
    have hg' := hgL.extX x (by omega)
    simp only [go_sem, ↓reduceIte, r123_3, tl]
    have x1 : ExtX (fun b => b = h1.next ∨ b = h3.next) hL (h'.put h3.next (.loop Lb)) := x.put (.inr (.inr rfl)) _
    have gq : (h'.put h3.next (.loop Lb)).get h3.next = some (.loop Lb) := by rw [H.get_put, if_pos rfl]
    have g9' : (h'.put h3.next (.loop Lb)).get h1.next = some (.cells [.i .i64 (bhK rs c i s k)]) := by rw [H.get_put, if_neg (by omega)]; exact g9
    have hc1 : Ints (h'.put h3.next (.loop Lb)) v c := Sl.keepX hcL x1 hcv
    have hg1 := hgL.extX x1 (by omega)
    generalize h'.put h3.next (.loop Lb) = hX at *
    have q4 : ldV hX (.p h.next 0) = some (.p gb 0) := blk_ld (x1.get (by omega) (by omega) g4L) rfl
    have q5 : ldV hX (.p (h.next + 1) 0) = some v := blk_ld (x1.get (by omega) (by omega) g5L) rfl
    have q6 : ldV hX (.p (h.next + 1 + 1) 0) = some (.i .i64 (i : Int)) := blk_ld (x1.get (by omega) (by omega) g6L) rfl
    have q9 : ldV hX (.p h1.next 0) = some (.i .i64 (bhK rs c i s k)) := blk_ld g9' rfl
    have hbd := bhK_bound hw c i s k
    have hwb := hw (a : Int) (b : Int)
    have hsum : IntKind.i64.wrap (bhK rs c i s k + wt (a : Int) (b : Int) rs) = bhK rs c i s (k + 1) := by
      rw [wrap_in (by omega) (by omega)]
      simp only [bhK, hb, if_true, haD, hbD]
    have hst := st_k (h := hX.bare) (k := 0) (x := bhK rs c i s (k + 1)) (kd := .i64) g9' (by simp)
    have hnx := x1.nx
    have hbk := back_put (h := hX) (b := h1.next) (by omega)
    simp only [go_sem, ↓reduceIte, b123_0, r123_4, tl, t4, t5, t6, t9, q4, q5, q6, q9, hc1.ix (show i < c.length by omega), hc1.ix (show k < c.length by omega), hc1.ld ha, hc1.ld hb', ix24r ha24, ixA_ok (esz := 1) hb24, hg1.ld ha24 hb24, hsum, hst, hbk]
    refine ⟨?_, .inl ⟨(x1.put (.inr (.inl rfl)) _).put (.inr (.inr rfl)) _, ?_, ?_⟩⟩
    · rw [H.get_put, if_neg (by omega)]; exact gq
    · rw [H.get_put, if_neg (by omega), H.get_put, if_pos rfl]; rfl
    · rw [H.get_put, if_pos rfl]
  · rintro k h' ⟨x, g9, gl⟩ hk hb
    refine ⟨x, ?_, gl⟩
    rw [g9]
    simp [bhK, hb]
  · rintro _ h' (⟨x, g9, gl⟩ | hf)
    case inr => exact hf.elim
    refine ⟨gl, ?_⟩
    have l9 : ldV (h'.put h3.next (.loop Lo)) (.p h1.next 0) = some (.i .i64 (bhK rs c i s m)) := blk_ld (by rw [H.get_put, if_neg (by omega)]; exact g9) rfl
    simp only [go_sem, ↓reduceIte, r123_5, tl, t9, l9]
    refine (x.put (.inr (.inr rfl)) _).ext eAll (fun b hb => ?_)
    omega
end Go.Air
set_option maxRecDepth 100000
namespace Go.Air
open Go.Air.Try
def never : Int := 1099511627776
def costS (rs : List Arw) (c : List Int) (sp : Int) (m i r : Nat) : Int := if c.getD i 0 = sp ∧ 0 < bhK rs c i r m then never else bhK rs c i r m
def tmin (rs : List Arw) (c : List Int) (sp : Int) (m : Nat) (L : List Int) (s : Nat) : Nat → Int
  | 0 => never
  | i + 1 => if s.testBit i = true then (if L.getD (s - 2 ^ i) 0 + costS rs c sp m i (s - 2 ^ i) < tmin rs c sp m L s i then L.getD (s - 2 ^ i) 0 + costS rs c sp m i (s - 2 ^ i) else tmin rs c sp m L s i) else tmin rs c sp m L s i
def tval (rs : List Arw) (c : List Int) (sp : Int) (m : Nat) (L : List Int) (s : Nat) : Int := if s = 0 then 0 else tmin rs c sp m L s m
def tabL (rs : List Arw) (c : List Int) (sp : Int) (m : Nat) : Nat → List Int
  | 0 => []
  | s + 1 => tabL rs c sp m s ++ [tval rs c sp m (tabL rs c sp m s) s]
section
variable {rs : List Arw} {c : List Int} {sp : Int} {m : Nat}
theorem costS_bound (hw : Wok rs) (hm : m ≤ 24) (i r : Nat) : 0 ≤ costS rs c sp m i r ∧ costS rs c sp m i r ≤ never := by
  have := bhK_bound hw c i r m
  unfold costS never
  split <;> omega
theorem tabL_len : ∀ s, (tabL rs c sp m s).length = s
  | 0 => rfl
  | s + 1 => by simp [tabL, tabL_len s]
theorem getD_in {L : List Int} (h : ∀ x ∈ L, 0 ≤ x ∧ x ≤ never) (j : Nat) : 0 ≤ L.getD j 0 ∧ L.getD j 0 ≤ never := by
  rw [List.getD_eq_getElem?_getD]
  cases q : L[j]? with
  | none => simp [never]
  | some x => exact h x (List.mem_of_getElem? q)
theorem tmin_bound (hw : Wok rs) (hm : m ≤ 24) {L : List Int} (h : ∀ x ∈ L, 0 ≤ x ∧ x ≤ never) (s : Nat) : ∀ i, 0 ≤ tmin rs c sp m L s i ∧ tmin rs c sp m L s i ≤ never
  | 0 => by simp [tmin, never]
  | i + 1 => by
    have ih := tmin_bound hw hm h s i
    have h1 := getD_in h (s - 2 ^ i)
    have h2 := costS_bound (c := c) (sp := sp) hw hm i (s - 2 ^ i)
    simp only [tmin]
    repeat' split
    all_goals omega
theorem tabL_bound (hw : Wok rs) (hm : m ≤ 24) : ∀ s, ∀ x ∈ tabL rs c sp m s, 0 ≤ x ∧ x ≤ never
  | 0, x, h => by simp [tabL] at h
  | s + 1, x, h => by
    simp only [tabL, List.mem_append, List.mem_singleton] at h
    rcases h with h | rfl
    · exact tabL_bound hw hm s x h
    · unfold tval
      split
      · simp [never]
      · exact tmin_bound hw hm (tabL_bound hw hm s) s m
end
theorem take_set_same {xs : List Int} {s : Nat} {x : Int} : (xs.set s x).take s = xs.take s := List.take_set_of_le (Nat.le_refl _)
theorem ints_at {xs : List Int} {j : Nat} {x : Int} (h : xs[j]? = some x) : (ints xs)[j]? = some (.i .i64 x) := by rw [ints_get, h]; rfl
theorem t110 : tblA 110 = some a110 := by kernel_rfl
theorem fn_table {h : H} {gb m : Nat} {sp : Int} {v : V} {rs : List Arw} {c : List Int} (hg : Grid h gb rs) (hc : Ints h v c) (hl : c.length = m) (hm : m ≤ 10) (hin : Gst c) (hw : Wok rs) :
    WC tblA (.fn 110 [] []) [.p gb 0, v, .i .i64 sp] h fun u h' => Ext h h' ∧ Own h 1 h' u (2 ^ m) (ints (tabL rs c sp m (2 ^ m))) := by
  refine (WC_in t110).2 ?_
  simp only [go_sem, ↓reduceIte, r110_0, H.next_new]
  rw [show (V.i .i64 sp).cells = [.i .i64 sp] from rfl, hc.one.1]
  have e1 : Ext h (((h.new (.cells [.p gb 0])).new (.cells [v])).new (.cells [.i .i64 sp])) := (((Ext.refl h).new _).new _).new _
  have g3 : (((h.new (.cells [.p gb 0])).new (.cells [v])).new (.cells [.i .i64 sp])).get h.next = some (.cells [.p gb 0]) := by rw [get_new_lt (by simp; omega), get_new_lt (by simp), get_new_eq rfl]
  have g4 : (((h.new (.cells [.p gb 0])).new (.cells [v])).new (.cells [.i .i64 sp])).get (h.next + 1) = some (.cells [v]) := by rw [get_new_lt (by simp), get_new_eq (by simp)]
  have g5 : (((h.new (.cells [.p gb 0])).new (.cells [v])).new (.cells [.i .i64 sp])).get (h.next + 1 + 1) = some (.cells [.i .i64 sp]) := by rw [get_new_eq (by simp)]
  have n1 : (((h.new (.cells [.p gb 0])).new (.cells [v])).new (.cells [.i .i64 sp])).next = h.next + 1 + 1 + 1 := by simp
  generalize (((h.new (.cells [.p gb 0])).new (.cells [v])).new (.cells [.i .i64 sp])) = h1 at *
  have hM : 2 ^ m ≤ 1024 := by
    have := Nat.pow_le_pow_right (n := 2) (by omega) hm
    simpa using this
  have hM1 : 1 ≤ 2 ^ m := Nat.one_le_two_pow
  have l4 : ldV h1 (.p (h.next + 1) 0) = some v := blk_ld g4 rfl
  have hc1 := hc.ext e1
  have hshl := bin_shl1 (k := m) (kd := .i64) (by omega)
  have hgb := hg.1
  generalize hMM : 2 ^ m = M at *
  simp only [go_sem, ↓reduceIte, r110_1, l4, hc1.len, hl, hshl, mkSl_ok (h := h1) (c := [.i .i64 0]) (bytes := 8) (n := M) (by omega) (by omega), rep_one]
  have e2 : Ext h1 ((h1.new (.cells (List.replicate M (.i .i64 0)))).new (.cells [.sn])) := ((Ext.refl h1).new _).new _
  have gv : ((h1.new (.cells (List.replicate M (.i .i64 0)))).new (.cells [.sn])).get h1.next = some (.cells (ints (List.replicate M 0))) := by rw [get_new_lt (by simp), get_new_eq rfl]; simp [ints]
  have g7 : ((h1.new (.cells (List.replicate M (.i .i64 0)))).new (.cells [.sn])).get (h1.next + 1) = some (.cells [.sn]) := by rw [get_new_eq (by simp)]
  have n2 : ((h1.new (.cells (List.replicate M (.i .i64 0)))).new (.cells [.sn])).next = h1.next + 1 + 1 := by simp
  simp only [H.next_new]
  generalize ((h1.new (.cells (List.replicate M (.i .i64 0)))).new (.cells [.sn])) = h2 at *
  have st7 := st_ref (v := .sl h1.next 0 M M none) g7 rfl rfl
  simp only [go_sem, ↓reduceIte, st7]
  have eB : Ext h (h2.put (h1.next + 1) (.cells [.sl h1.next 0 M M none])) := (e1.trans e2).put (by omega) _
  have e2' : ExtX (· = h1.next + 1) h2 (h2.put (h1.next + 1) (.cells [.sl h1.next 0 M M none])) := (ExtX.refl (· = h1.next + 1) h2).put (.inr rfl) _
  have n2e := e2.nx
  have B3 := e2'.get (by omega) (by omega) (e2.get (by omega) g3)
  have B4 := e2'.get (by omega) (by omega) (e2.get (by omega) g4)
  have B5 := e2'.get (by omega) (by omega) (e2.get (by omega) g5)
  have Bv := e2'.get (by omega) (by omega) gv
  have B7 : (h2.put (h1.next + 1) (.cells [.sl h1.next 0 M M none])).get (h1.next + 1) = some (.cells [.sl h1.next 0 M M none]) := by rw [H.get_put, if_pos rfl]
  have nB : (h2.put (h1.next + 1) (.cells [.sl h1.next 0 M M none])).next = h1.next + 1 + 1 := by simpa using n2
  generalize h2.put (h1.next + 1) (.cells [.sl h1.next 0 M M none]) = hB at *
  have hgB := hg.ext eB
  have hcB := hc.ext eB
  have stp (hh : H) : ∃ h3, stV (hh.new (.cells [.i .i64 0])) 1 (.p hh.next 0) (.i .i64 1) = some h3 ∧ Ext hh h3 ∧ h3.get hh.next = some (.cells [.i .i64 1]) ∧ h3.next = hh.next + 1 := st_newK hh [.i .i64 0] [.i .i64 1] rfl (by intro u hu; simp at hu; subst hu; rfl)
  obtain ⟨h3, s3, e3, g8, n3⟩ := stp hB
  simp only [go_sem, ↓reduceIte, r110_2, s3]
  have hcv : v = .sn ∨ (∃ a, v = .se a) ∨ blkV v < h.next := by
    rcases hc with ⟨_, _, q | q⟩ | ⟨b, off, cap, g, bl, rfl, hb, _⟩
    · exact .inl q
    · exact .inr (.inl q)
    · exact .inr (.inr hb)
  refine W_while (fun k t h' => ∃ (s q : Nat) (xs : List Int), k = M - s ∧ 1 ≤ s ∧ s ≤ M ∧ t.length = 66 ∧ nth t 3 = .p h.next 0 ∧ nth t 4 = .p (h.next + 1) 0 ∧ nth t 5 = .p (h.next + 1 + 1) 0 ∧ nth t 7 = .p (h1.next + 1) 0 ∧ nth t 8 = .p q 0 ∧ hB.next ≤ q ∧ q < h'.next ∧ ExtX (· = h1.next) hB h' ∧ h'.get q = some (.cells [.i .i64 (s : Int)]) ∧
      h'.get h1.next = some (.cells (ints xs)) ∧ xs.length = M ∧ xs.take s = tabL rs c sp m s) ?_ (M - 1) ?_
  · rintro k t h' ⟨s, q, xs, rfl, hs1, hsM, tl, t3, t4, t5, t7, t8, hq1, hq2, x, gq, gx, hxl, hxt⟩
    unfold b110_1
    have l8 : ldV h' (.p q 0) = some (.i .i64 (s : Int)) := blk_ld gq rfl
    have l7 : ldV h' (.p (h1.next + 1) 0) = some (.sl h1.next 0 M M none) := blk_ld (x.get (by omega) (by omega) B7) rfl
    by_cases hlt : s < M
    · have hltI : (s : Int) < (M : Int) := by omega
      have stv := st_one (h := h') (kd := .i64) (x := never) gx (show s < (ints xs).length by rw [ints_len]; omega)
      rw [ints_set] at stv
      simp only [go_sem, ↓reduceIte, r110_3, r110_5, tl, t3, t4, t5, t7, t8, l8, l7, hltI, ix_own hlt]
      rw [show (1099511627776 : Int) = never from rfl]
      simp only [go_sem, ↓reduceIte, stv]
      have x1 : ExtX (· = h1.next) hB (h'.put h1.next (.cells (ints (xs.set s never)))) := x.put (.inr rfl) _
      have gq1 : (h'.put h1.next (.cells (ints (xs.set s never)))).get q = some (.cells [.i .i64 (s : Int)]) := by rw [H.get_put, if_neg (by omega)]; exact gq
      have gx1 : (h'.put h1.next (.cells (ints (xs.set s never)))).get h1.next = some (.cells (ints (xs.set s never))) := by rw [H.get_put, if_pos rfl]
      have nx1 : (h'.put h1.next (.cells (ints (xs.set s never)))).next = h'.next := by simp
      generalize h'.put h1.next (.cells (ints (xs.set s never))) = h4 at *
      have l8' : ldV h4 (.p q 0) = some (.i .i64 (s : Int)) := blk_ld gq1 rfl
      have l4' : ldV h4 (.p (h.next + 1) 0) = some v := blk_ld (x1.get (by omega) (by omega) B4) rfl
      have hc4 : Ints h4 v c := Sl.keepX hcB x1 (by
        rcases hcv with z | z | z
        · exact .inl z
        · exact .inr (.inl z)
        · exact .inr (.inr (by omega)))
      simp only [go_sem, ↓reduceIte, r110_6, tl, t3, t4, t5, t7, t8, l8', l4', hc4.len, hl]
      have e5 : Ext h4 ((h4.new (.cells [.i .i64 (s : Int)])).new (.cells [.i .i64 (m : Int)])) := ((Ext.refl h4).new _).new _
      have gs : ((h4.new (.cells [.i .i64 (s : Int)])).new (.cells [.i .i64 (m : Int)])).get h4.next = some (.cells [.i .i64 (s : Int)]) := by rw [get_new_lt (by simp), get_new_eq rfl]
      have gm : ((h4.new (.cells [.i .i64 (s : Int)])).new (.cells [.i .i64 (m : Int)])).get (h4.next + 1) = some (.cells [.i .i64 (m : Int)]) := by rw [get_new_eq (by simp)]
      have n5 : ((h4.new (.cells [.i .i64 (s : Int)])).new (.cells [.i .i64 (m : Int)])).next = h4.next + 1 + 1 := by simp
      generalize ((h4.new (.cells [.i .i64 (s : Int)])).new (.cells [.i .i64 (m : Int)])) = h5 at *
      refine W_gen (fun t => t.length = 66 ∧ nth t 3 = .p h.next 0 ∧ nth t 4 = .p (h.next + 1) 0 ∧ nth t 5 = .p (h.next + 1 + 1) 0 ∧ nth t 7 = .p (h1.next + 1) 0 ∧ nth t 8 = .p q 0 ∧ nth t 28 = .fn 133 [] [.p (h4.next + 1) 0, .p h4.next 0]) ⟨by simp only [go_sem, tl], by simp only [go_sem, ↓reduceIte, tl, t3], by simp only [go_sem, ↓reduceIte, tl, t4], by simp only [go_sem, ↓reduceIte, tl, t5], by simp only [go_sem, ↓reduceIte, tl, t7], by simp only [go_sem, ↓reduceIte, tl, t8], by simp only [go_sem, ↓reduceIte, tl]⟩ ?_
      clear tl t3 t4 t5 t7 t8
      rintro t ⟨tl, t3, t4, t5, t7, t8, t28⟩
      refine W_rangeL (show (X.t 28).ev t = _ from t28) ?_
      intro L Lo hLdef
      obtain ⟨Lb, hLb⟩ : ∃ Lb : Loop, Lb = ⟨.busy, none, t, [29, 30], .seq (.ops r110_7) (.ops r110_8), b110_0⟩ := ⟨_, rfl⟩
      have eL : Ext h5 (h5.new (.loop L)) := (Ext.refl h5).new _
      have gL : (h5.new (.loop L)).get h5.next = some (.loop L) := get_new_eq rfl
      have nL : (h5.new (.loop L)).next = h5.next + 1 := by simp
      generalize h5.new (.loop L) = hL at *
      have e4L := e5.trans eL
      have xL : ExtX (· = h1.next) hB hL := x1.trans (.of e4L)
      have gqL := e4L.get (by omega) gq1
      have gxL := e4L.get (by omega) gx1
      have gsL := eL.get (by omega) gs
      have gmL := eL.get (by omega) gm
      have hgL := hgB.extX xL (by omega)
      have hcL := hc4.ext e4L
      have hTb := tabL_bound (rs := rs) (c := c) (sp := sp) (m := m) hw (by omega) s
      have nx0 := x.nx
      refine (fn_members1 (show m ≤ 24 by omega) (show s < 1000000000 by omega) (fun i h' => ExtX (fun b => b = h1.next ∨ b = h5.next) hL h' ∧ h'.get h1.next = some (.cells (ints (xs.set s (tmin rs c sp m (tabL rs c sp m s) s i)))) ∧ h'.get h5.next = some (.loop L)) (fun _ => False) ?_ ?_ ?_ ⟨.refl _ _, gxL, gL⟩).mono ?_
      · rintro i h' ⟨x, _, _⟩
        exact ⟨x.get (by omega) (by omega) gmL, x.get (by omega) (by omega) gsL⟩
      · rintro i h' ⟨x', gx', gl⟩ hi hbit
        refine yld_roundL gl hLdef hLb rfl ?_
        rw [updAll_two]
        obtain ⟨a, ha, ha24, haD⟩ := hin.at (i := i) (by omega)
        simp only [go_sem, ↓reduceIte, r110_7, r110_8, tl]
        have x2 : ExtX (fun b => b = h1.next ∨ b = h5.next) hL (h'.put h5.next (.loop Lb)) := x'.put (.inr (.inr rfl)) _
        have gl2 : (h'.put h5.next (.loop Lb)).get h5.next = some (.loop Lb) := by rw [H.get_put, if_pos rfl]
        have gx2 : (h'.put h5.next (.loop Lb)).get h1.next = some (.cells (ints (xs.set s (tmin rs c sp m (tabL rs c sp m s) s i)))) := by rw [H.get_put, if_neg (by omega)]; exact gx'
        generalize h'.put h5.next (.loop Lb) = h6 at *
        have hg6 := hgL.extX x2 (by omega)
        have hc6 : Ints h6 v c := Sl.keepX hcL x2 (by
          rcases hcv with z | z | z
          · exact .inl z
          · exact .inr (.inl z)
          · exact .inr (.inr (by omega)))
        have q3 : ldV h6 (.p h.next 0) = some (.p gb 0) := blk_ld (x2.get (by omega) (by omega) (xL.get (by omega) (by omega) B3)) rfl
        have g46 := x2.get (by omega) (by omega) (xL.get (by omega) (by omega) B4)
        have g56 := x2.get (by omega) (by omega) (xL.get (by omega) (by omega) B5)
        have g76 := x2.get (by omega) (by omega) (xL.get (by omega) (by omega) B7)
        have gq6 := x2.get (by omega) (by omega) gqL
        have q4 : ldV h6 (.p (h.next + 1) 0) = some v := blk_ld g46 rfl
        have q8 : ldV h6 (.p q 0) = some (.i .i64 (s : Int)) := blk_ld gq6 rfl
        have hble := bit_le hbit
        have hpp : 0 < 2 ^ i := Nat.two_pow_pos i
        simp only [b110_0]
        simp only [go_sem, ↓reduceIte, r110_9, tl, t3, t4, t5, t7, t8, q3, q4, q8, bin_andNot (show s < 4611686018427387904 by omega) hbit]
        refine (fn_behind hg6 hc6 hl (by omega) hin hi (show s - 2 ^ i < 1000000000 by omega) hw).mono ?_
        rintro _ h7 ⟨e7, rfl⟩
        have n6 := x2.nx
        have nx7 := e7.nx
        have hg7 := hg6.ext e7
        have hc7 := hc6.ext e7
        have q47 : ldV h7 (.p (h.next + 1) 0) = some v := blk_ld (e7.get (by omega) g46) rfl
        have q57 : ldV h7 (.p (h.next + 1 + 1) 0) = some (.i .i64 sp) := blk_ld (e7.get (by omega) g56) rfl
        have q77 : ldV h7 (.p (h1.next + 1) 0) = some (.sl h1.next 0 M M none) := blk_ld (e7.get (by omega) g76) rfl
        have q87 : ldV h7 (.p q 0) = some (.i .i64 (s : Int)) := blk_ld (e7.get (by omega) gq6) rfl
        have gl7 := e7.get (by omega) gl2
        have gx7 := e7.get (by omega) gx2
        have hcost : costS rs c sp m i (s - 2 ^ i) = if c.getD i 0 = sp ∧ 0 < bhK rs c i (s - 2 ^ i) m then never else bhK rs c i (s - 2 ^ i) m := rfl
        have hcb := costS_bound (c := c) (sp := sp) hw (show m ≤ 24 by omega) i (s - 2 ^ i)
        have hlb := getD_in hTb (s - 2 ^ i)
        have htb := tmin_bound (c := c) (sp := sp) hw (show m ≤ 24 by omega) hTb s i
        have hlt2 : s - 2 ^ i < M := by omega
        have lds : ldV h7 (.p h1.next (0 + s * 1)) = some (.i .i64 (tmin rs c sp m (tabL rs c sp m s) s i)) := by
          refine blk_ld gx7 (ints_at ?_)
          rw [show 0 + s * 1 = s by omega, List.getElem?_set]
          simp [hxl, hlt]
        have ldr : ldV h7 (.p h1.next (0 + (s - 2 ^ i) * 1)) = some (.i .i64 ((tabL rs c sp m s).getD (s - 2 ^ i) 0)) := by
          refine blk_ld gx7 (ints_at ?_)
          rw [show 0 + (s - 2 ^ i) * 1 = s - 2 ^ i by omega, List.getElem?_set, if_neg (by omega), ← hxt, List.getD_eq_getElem?_getD, List.getElem?_take_of_lt (by omega)]
          obtain ⟨y, hy⟩ : ∃ y, xs[s - 2 ^ i]? = some y := ⟨_, List.getElem?_eq_getElem (by omega)⟩
          rw [hy]; rfl
        have hsum : IntKind.i64.wrap ((tabL rs c sp m s).getD (s - 2 ^ i) 0 + costS rs c sp m i (s - 2 ^ i)) = (tabL rs c sp m s).getD (s - 2 ^ i) 0 + costS rs c sp m i (s - 2 ^ i) := by
          unfold never at *
          exact wrap_in (by omega) (by omega)
        have hand := bin_andNot (show s < 4611686018427387904 by omega) hbit
        have htm : tmin rs c sp m (tabL rs c sp m s) s (i + 1) = if (tabL rs c sp m s).getD (s - 2 ^ i) 0 + costS rs c sp m i (s - 2 ^ i) < tmin rs c sp m (tabL rs c sp m s) s i then (tabL rs c sp m s).getD (s - 2 ^ i) 0 + costS rs c sp m i (s - 2 ^ i) else tmin rs c sp m (tabL rs c sp m s) s i := by
          simp only [tmin, hbit, if_true]
        have st7 := st_one (h := h7.bare) (kd := .i64) (x := tmin rs c sp m (tabL rs c sp m s) s (i + 1)) gx7 (show s < (ints (xs.set s (tmin rs c sp m (tabL rs c sp m s) s i))).length by rw [ints_len]; simp; omega)
        rw [ints_set, List.set_set] at st7
        have hbk := back_put (h := h7) (b := h1.next) (by omega)
        have x7 : ExtX (fun b => b = h1.next ∨ b = h5.next) hL h7 := x2.trans (.of e7)
        have fin : (h7.put h1.next (.cells (ints (xs.set s (tmin rs c sp m (tabL rs c sp m s) s (i + 1)))))).get h5.next = some (.loop Lb) ∧
            ((V.b true = .b true ∧ ExtX (fun b => b = h1.next ∨ b = h5.next) hL ((h7.put h1.next (.cells (ints (xs.set s (tmin rs c sp m (tabL rs c sp m s) s (i + 1)))))).put h5.next (.loop L)) ∧ ((h7.put h1.next (.cells (ints (xs.set s (tmin rs c sp m (tabL rs c sp m s) s (i + 1)))))).put h5.next (.loop L)).get h1.next = some (.cells (ints (xs.set s (tmin rs c sp m (tabL rs c sp m s) s (i + 1))))) ∧ ((h7.put h1.next (.cells (ints (xs.set s (tmin rs c sp m (tabL rs c sp m s) s (i + 1)))))).put h5.next (.loop L)).get h5.next = some (.loop L)) ∨ (V.b true = .b false ∧ False)) := by
          refine ⟨by rw [H.get_put, if_neg (by omega)]; exact gl7, .inl ⟨rfl, (x7.put (.inr (.inl rfl)) _).put (.inr (.inr rfl)) _, ?_, ?_⟩⟩
          · rw [H.get_put, if_neg (by omega), H.get_put, if_pos rfl]
          · rw [H.get_put, if_pos rfl]
        by_cases d1 : c.getD i 0 = sp ∧ 0 < bhK rs c i (s - 2 ^ i) m
        · rw [if_pos d1] at hcost
          have d2 : (a : Int) = sp := by rw [← haD]; exact d1.1
          simp only [go_sem, ↓reduceIte, r110_10, r110_11, tl, t3, t4, t5, t7, t8, q47, q57, hc7.ix (show i < c.length by omega), hc7.ld ha, d2, d1.2]
          rw [show (1099511627776 : Int) = never from rfl, ← hcost]
          simp only [go_sem, ↓reduceIte, r110_12, tl, t3, t4, t5, t7, t8, q77, q87, ix_own hlt, ix_own hlt2, hand, lds, ldr, hsum, minL_2, ← htm, st7, hbk]
          simpa using fin
        · rw [if_neg d1] at hcost
          by_cases d2 : (a : Int) = sp
          · have d3 : ¬ 0 < bhK rs c i (s - 2 ^ i) m := fun z => d1 ⟨by rw [haD]; exact d2, z⟩
            simp only [go_sem, ↓reduceIte, r110_10, tl, t3, t4, t5, t7, t8, q47, q57, hc7.ix (show i < c.length by omega), hc7.ld ha, d2, d3]
            rw [← hcost]
            simp only [go_sem, ↓reduceIte, r110_12, tl, t3, t4, t5, t7, t8, q77, q87, ix_own hlt, ix_own hlt2, hand, lds, ldr, hsum, minL_2, ← htm, st7, hbk]
            simpa using fin
          · simp only [go_sem, ↓reduceIte, r110_10, tl, t3, t4, t5, t7, t8, q47, q57, hc7.ix (show i < c.length by omega), hc7.ld ha, d2]
            rw [← hcost]
            simp only [go_sem, ↓reduceIte, r110_12, tl, t3, t4, t5, t7, t8, q77, q87, ix_own hlt, ix_own hlt2, hand, lds, ldr, hsum, minL_2, ← htm, st7, hbk]
            simpa using fin
      · rintro i h' ⟨x', gx', gl⟩ hi hbit
        refine ⟨x', ?_, gl⟩
        rw [gx']
        simp [tmin, hbit]
      · rintro _ h' (⟨x', gx', gl⟩ | hf)
        case inr => exact hf.elim
        refine ⟨gl, ?_⟩
        have x8 : ExtX (fun b => b = h1.next ∨ b = h5.next) hL (h'.put h5.next (.loop Lo)) := x'.put (.inr (.inr rfl)) _
        have gx8 : (h'.put h5.next (.loop Lo)).get h1.next = some (.cells (ints (xs.set s (tmin rs c sp m (tabL rs c sp m s) s m)))) := by rw [H.get_put, if_neg (by omega)]; exact gx'
        generalize h'.put h5.next (.loop Lo) = h8 at *
        have gq8 := x8.get (by omega) (by omega) gqL
        have n8 := x8.nx
        have l88 : ldV h8 (.p q 0) = some (.i .i64 (s : Int)) := blk_ld gq8 rfl
        obtain ⟨h9, s9, e9, g9, n9⟩ : ∃ h9, stV (h8.new (.cells [.i .i64 0])) 1 (.p h8.next 0) (.i .i64 (s : Int)) = some h9 ∧ Ext h8 h9 ∧ h9.get h8.next = some (.cells [.i .i64 (s : Int)]) ∧ h9.next = h8.next + 1 := st_newK h8 [.i .i64 0] [.i .i64 (s : Int)] rfl (by intro u hu; simp at hu; subst hu; rfl)
        have l99 : ldV h9 (.p h8.next 0) = some (.i .i64 (s : Int)) := blk_ld g9 rfl
        have stA : stV h9 1 (.p h8.next 0) (.i .i64 ((s + 1 : Nat) : Int)) = some (h9.put h8.next (.cells [.i .i64 ((s + 1 : Nat) : Int)])) := st_ref g9 rfl rfl
        simp only [go_sem, ↓reduceIte, r110_13, r110_14, r110_4, tl, t3, t4, t5, t7, t8, l88, s9, l99, wrap_succ (show s < 1000000000 by omega), stA]
        have xf : ExtX (· = h1.next) hB (h9.put h8.next (.cells [.i .i64 ((s + 1 : Nat) : Int)])) := by
          have y1 : ExtX (fun b => b = h1.next ∨ b = h5.next) hL h9 := x8.trans (.of e9)
          have y2 : ExtX (fun b => b = h1.next ∨ b = h5.next ∨ b = h8.next) hL (h9.put h8.next (.cells [.i .i64 ((s + 1 : Nat) : Int)])) := (y1.mono (fun b hb => hb.elim .inl fun z => .inr (.inl z))).put (.inr (.inr (.inr rfl))) _
          refine ⟨Nat.le_trans xL.nx y2.nx, fun b hb hne => ?_, ?_⟩
          · rw [y2.same b (by omega) (by omega)]
            exact xL.same b hb hne
          · obtain ⟨l1, p1, p2⟩ := xL.log
            obtain ⟨l2, p3, p4⟩ := y2.log
            refine ⟨l2 ++ l1, by rw [p3, p1, List.append_assoc], fun b hb => ?_⟩
            rcases List.mem_append.1 hb with hb | hb
            · rcases p4 b hb with z | z | z | z
              · exact .inl (by omega)
              · exact .inr z
              · exact .inl (by omega)
              · exact .inl (by omega)
            · exact p2 b hb
        refine ⟨M - (s + 1), by omega, s + 1, h8.next, xs.set s (tmin rs c sp m (tabL rs c sp m s) s m), rfl, by omega, by omega, rfl, by omega, by simp; omega, xf, by rw [H.get_put, if_pos rfl], ?_, by simpa using hxl, ?_⟩
        · rw [H.get_put, if_neg (by omega)]
          exact e9.get (by omega) gx8
        · rw [tabL, take_succ' (x := tmin rs c sp m (tabL rs c sp m s) s m) (by rw [List.getElem?_set]; simp [hxl, hlt]), take_set_same, hxt]
          congr 2
          rw [tval, if_neg (by omega)]
    · have hltI : ¬ (s : Int) < (M : Int) := by omega
      obtain rfl : s = M := by omega
      simp only [go_sem, ↓reduceIte, r110_3, r110_15, tl, t3, t4, t5, t7, t8, l8, l7, hltI]
      rw [List.take_of_length_le (by omega)] at hxt
      subst hxt
      refine ⟨x.ext eB (fun b hb => by omega), by rw [ints_len, hxl]; simp, .inr ⟨h1.next, none, rfl, .inl rfl, by omega, by have := x.nx; omega, gx⟩⟩
  · refine ⟨1, hB.next, List.replicate M 0, rfl, by omega, by omega, ?_⟩
    simp only [go_sem, ↓reduceIte]
    refine ⟨by omega, by omega, .of e3, g8, e3.get (by omega) Bv, by simp, ?_⟩
    obtain ⟨M', rfl⟩ : ∃ M', M = M' + 1 := ⟨M - 1, by omega⟩
    simp [tabL, tval, List.replicate_succ]
end Go.Air
set_option maxRecDepth 100000
namespace Go.Air
open Go.Air.Try
def NxtF (R : Nat → Nat → Bool) (n : Nat) (d : Nat → Bool) (i : Nat) (z : Int) : Prop :=
  (z = -1 ∧ ∀ a, i ≤ a → a < n → freeG R n d a = false) ∨ ∃ a : Nat, z = (a : Int) ∧ i ≤ a ∧ a < n ∧ freeG R n d a = true ∧ ∀ b, i ≤ b → b < a → freeG R n d b = false
theorem NxtF.no {R : Nat → Nat → Bool} {n j : Nat} {d : Nat → Bool} {z : Int} (h : NxtF R n d (j + 1) z) (hf : freeG R n d j = false) : NxtF R n d j z := by
  rcases h with ⟨rfl, h⟩ | ⟨a, rfl, h1, h2, h3, h4⟩
  · refine .inl ⟨rfl, fun a q1 q2 => ?_⟩
    by_cases q : a = j
    · subst q; exact hf
    · exact h a (by omega) q2
  · refine .inr ⟨a, rfl, by omega, h2, h3, fun b q1 q2 => ?_⟩
    by_cases q : b = j
    · subst q; exact hf
    · exact h4 b (by omega) q2
end Go.Air
set_option maxRecDepth 100000
namespace Go.Air
open Go.Air.Try
def Refs (hA h1 h : H) (w : V) (xss : List (List Int)) : Prop := ∃ cs, Own h1 1 h w xss.length cs ∧ ∀ (j : Nat) (xs : List Int), xss[j]? = some xs → ∃ c, cs[j]? = some c ∧ Ints h1 c xs ∧ hA.next ≤ blkV c
def LLa (hA h : H) (v : V) (xss : List (List Int)) : Prop := ∃ cs, Sl 1 h v xss.length cs ∧ (v = .sn ∨ hA.next ≤ blkV v) ∧ ∀ (j : Nat) (xs : List Int), xss[j]? = some xs → ∃ c, cs[j]? = some c ∧ Ints h c xs ∧ hA.next ≤ blkV c
theorem LLa.ll {hA h : H} {v : V} {xss : List (List Int)} (r : LLa hA h v xss) : LL h v xss := by
  obtain ⟨cs, s, _, hc⟩ := r
  exact ⟨cs, s, fun j xs hj => let ⟨c, q1, q2, _⟩ := hc j xs hj; ⟨c, q1, q2⟩⟩
theorem LLa.keepX {X : Nat → Prop} {hA h h' : H} {v : V} {xss : List (List Int)} (r : LLa hA h v xss) (e : ExtX X h h') (hX : ∀ b, X b → b < hA.next) : LLa hA h' v xss := by
  obtain ⟨cs, s, q, hc⟩ := r
  have far : ∀ {b : Nat}, hA.next ≤ b → ¬ X b := fun hb x => by have := hX _ x; omega
  refine ⟨cs, s.keepX e (q.imp id fun z => .inr (far z)), q, fun j xs hj => ?_⟩
  obtain ⟨c, q1, q2, q3⟩ := hc j xs hj
  exact ⟨c, q1, Sl.keepX q2 e (.inr (.inr (far q3))), q3⟩
theorem LLa.ext {hA h h' : H} {v : V} {xss : List (List Int)} (r : LLa hA h v xss) (e : Ext h h') : LLa hA h' v xss := r.keepX (X := fun _ => False) (.of e) (fun _ z => z.elim)
theorem LLa.mono {hA hB h : H} {v : V} {xss : List (List Int)} (r : LLa hA h v xss) (e : hB.next ≤ hA.next) : LLa hB h v xss := by
  obtain ⟨cs, s, q, hc⟩ := r
  exact ⟨cs, s, q.imp id fun z => Nat.le_trans e z, fun j xs hj => let ⟨c, q1, q2, q3⟩ := hc j xs hj; ⟨c, q1, q2, Nat.le_trans e q3⟩⟩
theorem Refs.nil {hA h1 h : H} : Refs hA h1 h .sn [] := ⟨[], .nil, fun j xs hj => by simp at hj⟩
theorem Refs.ll {hA h1 h : H} {w : V} {xss : List (List Int)} (r : Refs hA h1 h w xss) (e : Ext h1 h) (hn : hA.next ≤ h1.next) : LLa hA h w xss := by
  obtain ⟨cs, o, hc⟩ := r
  refine ⟨cs, by simpa using o.sl, ?_, fun j xs hj => ?_⟩
  · rcases o.2 with ⟨_, z⟩ | ⟨b, g, z, _, q, _⟩
    · exact .inl z
    · exact .inr (by subst z; exact Nat.le_trans hn q)
  · obtain ⟨c, q1, q2, q3⟩ := hc j xs hj
    exact ⟨c, q1, q2.ext e, q3⟩
theorem Refs.app {hA h1 h : H} {w u : V} {xss : List (List Int)} {xs : List Int} (r : Refs hA h1 h w xss) (e : Ext h1 h) (iu : Ints h1 u xs) (ub : hA.next ≤ blkV u) (hn : xss.length ≤ 1000000) :
    ∃ w' h', appendV 1 24 (h.new (.cells [u])) w (.sl h.next 0 1 1 none) = .ok w' h' ∧ Ext h1 h' ∧ Refs hA h1 h' w' (xss ++ [xs]) := by
  obtain ⟨cs, o, hc⟩ := r
  obtain ⟨w', h', r1, r2, r3, r4, r5, r6⟩ := app_ref (u := u) o e iu.one.2 hn
  have hl : cs.length = xss.length := by simpa using o.len
  refine ⟨w', h', r1, r2, cs ++ [u], by simpa using r3, fun j ys hj => ?_⟩
  by_cases hjl : j < xss.length
  · rw [List.getElem?_append_left hjl] at hj
    obtain ⟨c, q1, q2⟩ := hc j ys hj
    exact ⟨c, by rw [List.getElem?_append_left (by omega)]; exact q1, q2⟩
  · have hlt := (List.getElem?_eq_some_iff.1 hj).1
    simp at hlt
    obtain rfl : j = xss.length := by omega
    rw [List.getElem?_append_right (by omega)] at hj
    simp at hj
    subst hj
    exact ⟨u, by rw [List.getElem?_append_right (by omega)]; simp [hl], iu, ub⟩
theorem Rows.ld {h0 h : H} {w : V} {xss : List (List Int)} (r : Rows h0 h w xss) {i : Nat} {xs : List Int} (hx : xss[i]? = some xs) : ∃ c, ldV h (.p (blkV w) (offV w + i * 1)) = some c ∧ Ints h c xs ∧ h0.next ≤ blkV c := by
  obtain ⟨cs, o, hc⟩ := r
  obtain ⟨c, q1, q2, q3, _⟩ := hc i xs hx
  have hi := (List.getElem?_eq_some_iff.1 hx).1
  have s : Sl 1 h w xss.length cs := by simpa using o.sl
  exact ⟨c, by rw [s.ld1 hi, q1], q2, q3⟩
noncomputable def circledS (N : Int) (rs : List Arw) : Int := if checkS N rs ≠ 0 then checkS N rs else circE (circR N rs)
end Go.Air
set_option maxRecDepth 100000
namespace Go.Air
open Go.Air.Try
def SmallL (L : List Int) : Prop := ∀ (j : Nat) (x : Int), L[j]? = some x → 0 ≤ x ∧ x ≤ 24000 * j
theorem SmallL.getD {L : List Int} (h : SmallL L) (j : Nat) : 0 ≤ L.getD j 0 ∧ L.getD j 0 ≤ 24000 * j := by
  rw [List.getD_eq_getElem?_getD]
  cases q : L[j]? with
  | none => simp; omega
  | some x => exact h j x q
end Go.Air
set_option maxRecDepth 100000
namespace Go.Air
open Go.Air.Try
def bools (n : Nat) (d : Nat → Bool) : List V := (List.range n).map fun j => .b (d j)
theorem bools_len (n : Nat) (d : Nat → Bool) : (bools n d).length = n := by simp [bools]
theorem bools_get {n j : Nat} {d : Nat → Bool} (hj : j < n) : (bools n d)[j]? = some (.b (d j)) := by simp [bools, hj]
theorem bools_set {n j : Nat} {d : Nat → Bool} {v : Bool} : (bools n d).set j (.b v) = bools n (sput d j v) := by
  apply List.ext_getElem?
  intro i
  rw [List.getElem?_set]
  by_cases hi : i < n
  · rw [bools_get hi, bools_get hi]
    by_cases h : j = i
    · subst h
      rw [if_pos rfl, if_pos (by rw [bools_len]; exact hi)]
      simp [sput]
    · rw [if_neg h]
      simp [sput, Ne.symm h]
  · rw [List.getElem?_eq_none (l := bools n (sput d j v)) (by rw [bools_len]; omega), List.getElem?_eq_none (l := bools n d) (by rw [bools_len]; omega)]
    split
    · rw [if_neg (by rw [bools_len]; omega)]
    · rfl
theorem ldb {h : H} {b n j : Nat} {d : Nat → Bool} (g : h.get b = some (.cells (bools n d))) (hj : j < n) : ldV h (.p b (0 + j * 1)) = some (.b (d j)) := blk_ld g (by rw [show 0 + j * 1 = j by omega]; exact bools_get hj)
theorem stb {h : H} {b n j : Nat} {d : Nat → Bool} {v : Bool} (g : h.get b = some (.cells (bools n d))) (hj : j < n) : stV h 1 (.p b (0 + j * 1)) (.b v) = some (h.put b (.cells (bools n (sput d j v)))) := by
  rw [st_b (k := 0 + j * 1) g (by rw [bools_len]; omega), show 0 + j * 1 = j by omega, bools_set]
def tabF (rs : List Arw) (sp : Int) (c : List Int) : List Int := tabL rs c sp c.length (2 ^ c.length)
theorem tabF_len (rs : List Arw) (sp : Int) (c : List Int) : (tabF rs sp c).length = 2 ^ c.length := tabL_len _
def Okc (n : Nat) (xss : List (List Int)) : Prop := ∀ c ∈ xss, c.length ≤ 10 ∧ c.Nodup ∧ ∀ y ∈ c, ∃ j : Nat, y = (j : Int) ∧ j < n
theorem Okc.gst {n : Nat} {xss : List (List Int)} (h : Okc n xss) (hn : n ≤ 24) {c : List Int} (hc : c ∈ xss) : Gst c := by
  intro y hy
  obtain ⟨j, e, hj⟩ := (h c hc).2.2 y hy
  exact ⟨j, e, by omega⟩
structure Srch (h : H) (sb n : Nat) (rs : List Arw) (xss : List (List Int)) (sp : Int) (cv vv : V) : Prop where
  lt : sb < h.next
  g : h.get sb = some (.cells (ints (gridL rs) ++ [.i .i64 (n : Int), cv, vv, .i .i64 sp]))
  lc : LL h cv xss
  lv : LL h vv (xss.map (tabF rs sp))
theorem Srch.ext {h h' : H} {sb n : Nat} {rs : List Arw} {xss : List (List Int)} {sp : Int} {cv vv : V} (s : Srch h sb n rs xss sp cv vv) (e : Ext h h') : Srch h' sb n rs xss sp cv vv :=
  ⟨Nat.lt_of_lt_of_le s.lt e.nx, e.get s.lt s.g, s.lc.ext e, s.lv.ext e⟩
section
variable {h : H} {sb n : Nat} {rs : List Arw} {xss : List (List Int)} {sp : Int} {cv vv : V}
theorem Srch.grid (s : Srch h sb n rs xss sp cv vv) : Grid h sb rs := by
  refine ⟨s.lt, _, s.g, fun a b ha hb => ?_⟩
  rw [List.getElem?_append_left (by rw [ints_len, gridL_len]; omega)]
  exact ints_at (by rw [show 0 + a * 24 + b * 1 = a * 24 + b by omega]; exact gridL_get ha hb)
theorem Srch.tail (s : Srch h sb n rs xss sp cv vv) {k : Nat} {x : V} (hx : ([.i .i64 (n : Int), cv, vv, .i .i64 sp] : List V)[k]? = some x) : ldV h (.p sb (576 + k)) = some x := by
  refine blk_ld s.g ?_
  rw [List.getElem?_append_right (by rw [ints_len, gridL_len]; omega), ints_len, gridL_len, Nat.add_sub_cancel_left]
  exact hx
theorem Srch.ln (s : Srch h sb n rs xss sp cv vv) : ldV h (.p sb 576) = some (.i .i64 (n : Int)) := s.tail (k := 0) rfl
theorem Srch.lcv (s : Srch h sb n rs xss sp cv vv) : ldV h (.p sb 577) = some cv := s.tail (k := 1) rfl
theorem Srch.lvv (s : Srch h sb n rs xss sp cv vv) : ldV h (.p sb 578) = some vv := s.tail (k := 2) rfl
theorem Srch.lsp (s : Srch h sb n rs xss sp cv vv) : ldV h (.p sb 579) = some (.i .i64 sp) := s.tail (k := 3) rfl
end
def setOf (c : List Int) (d : Nat → Bool) : Nat → Nat
  | 0 => 0
  | i + 1 => if d (c.getD i 0).toNat = true then setOf c d i ||| 2 ^ i else setOf c d i
theorem setOf_lt (c : List Int) (d : Nat → Bool) : ∀ k, setOf c d k < 2 ^ k
  | 0 => by simp [setOf]
  | k + 1 => by
    have ih := setOf_lt c d k
    have h1 : 2 ^ k < 2 ^ (k + 1) := Nat.pow_lt_pow_right (by omega) (by omega)
    simp only [setOf]
    split
    · exact Nat.or_lt_two_pow (by omega) h1
    · omega
def leftS (rs : List Arw) (sp : Int) (d : Nat → Bool) : List (List Int) → Int
  | [] => 0
  | c :: l => (tabF rs sp c).getD (setOf c d c.length) 0 + leftS rs sp d l
theorem leftS_append (rs : List Arw) (sp : Int) (d : Nat → Bool) : ∀ a b : List (List Int), leftS rs sp d (a ++ b) = leftS rs sp d a + leftS rs sp d b
  | [], b => by simp [leftS]
  | c :: a, b => by simp only [List.cons_append, leftS, leftS_append rs sp d a b]; omega
theorem tabF_getD {rs : List Arw} {sp : Int} {c : List Int} (hw : Wok rs) (hl : c.length ≤ 24) (j : Nat) : 0 ≤ (tabF rs sp c).getD j 0 ∧ (tabF rs sp c).getD j 0 ≤ never := getD_in (tabL_bound hw hl _) j
theorem leftS_bound {rs : List Arw} {sp : Int} {d : Nat → Bool} (hw : Wok rs) : ∀ l : List (List Int), (∀ c ∈ l, c.length ≤ 24) → 0 ≤ leftS rs sp d l ∧ leftS rs sp d l ≤ never * l.length
  | [], _ => by simp [leftS]
  | c :: l, h => by
    have ih := leftS_bound hw (sp := sp) (d := d) l fun x hx => h x (by simp [hx])
    have h1 := tabF_getD (sp := sp) hw (h c (by simp)) (setOf c d c.length)
    simp only [leftS, List.length_cons]
    have : never * ((l.length + 1 : Nat) : Int) = never * l.length + never := by rw [Int.natCast_add, Int.mul_add]; simp
    omega
theorem t111 : tblA 111 = some a111 := by kernel_rfl
theorem fn_left {h : H} {sb n ib : Nat} {rs : List Arw} {xss : List (List Int)} {sp : Int} {cv vv : V} {d : Nat → Bool} (s : Srch h sb n rs xss sp cv vv) (ok : Okc n xss) (hn : n ≤ 24) (hxl : xss.length ≤ 24) (hw : Wok rs) (gi : h.get ib = some (.cells (bools n d))) :
    WC tblA (.fn 111 [] []) [.p sb 0, .sl ib 0 n n none] h fun u h' => h' = h ∧ u = .i .i64 (leftS rs sp d xss) := by
  refine (WC_in t111).2 ?_
  simp only [go_sem, ↓reduceIte, r111_0, r111_1, r111_2, s.lcv, s.lc.len]
  refine W_while (fun k t h' => ∃ i, k = xss.length - i ∧ i ≤ xss.length ∧ t.length = 51 ∧ nth t 0 = .p sb 0 ∧ nth t 1 = .sl ib 0 n n none ∧ nth t 5 = .i .i64 (leftS rs sp d (xss.take i)) ∧ nth t 14 = cv ∧ nth t 15 = .i .i64 (xss.length : Int) ∧ nth t 16 = .i .i64 (i : Int) ∧ h = h') ?_ xss.length ?_
  · rintro k t _ ⟨i, rfl, hi, tl, t0, t1, t5, t14, t15, t16, rfl⟩
    unfold b111_1
    by_cases hlt : i < xss.length
    · have hltI : (i : Int) < (xss.length : Int) := by omega
      obtain ⟨c, hx⟩ : ∃ c, xss[i]? = some c := ⟨_, List.getElem?_eq_getElem hlt⟩
      have hcm := List.mem_of_getElem? hx
      obtain ⟨hc10, hcd, hcin⟩ := ok c hcm
      obtain ⟨w, hl, hi1⟩ := s.lc.ld hx
      have hvx : (xss.map (tabF rs sp))[i]? = some (tabF rs sp c) := by rw [List.getElem?_map, hx]; rfl
      obtain ⟨w2, hl2, hi2⟩ := s.lv.ld hvx
      simp only [go_sem, ↓reduceIte, r111_3, r111_4, r111_5, r111_6, tl, t0, t1, t5, t14, t15, t16, hltI, s.lc.ix hlt, hl, hi1.len]
      refine W_while (fun k t h' => ∃ j, k = c.length - j ∧ j ≤ c.length ∧ t.length = 51 ∧ nth t 0 = .p sb 0 ∧ nth t 1 = .sl ib 0 n n none ∧ nth t 5 = .i .i64 (leftS rs sp d (xss.take i)) ∧ nth t 6 = .i .i64 (i : Int) ∧ nth t 8 = .i .i64 ((setOf c d j : Nat) : Int) ∧ nth t 14 = cv ∧ nth t 15 = .i .i64 (xss.length : Int) ∧ nth t 16 = .i .i64 (i : Int) ∧ nth t 21 = w ∧ nth t 22 = .i .i64 (c.length : Int) ∧ nth t 23 = .i .i64 (j : Int) ∧ h = h') ?_ c.length ?_
      · rintro k t _ ⟨j, rfl, hj, tl, t0, t1, t5, t6, t8, t14, t15, t16, t21, t22, t23, rfl⟩
        unfold b111_0
        by_cases hltj : j < c.length
        · have hltjI : (j : Int) < (c.length : Int) := by omega
          obtain ⟨x, hxj⟩ : ∃ x, c[j]? = some x := ⟨_, List.getElem?_eq_getElem hltj⟩
          obtain ⟨g, hxg, hg⟩ := hcin x (List.mem_of_getElem? hxj)
          have hgD : (c.getD j 0).toNat = g := by rw [List.getD_eq_getElem?_getD, hxj, hxg]; rfl
          rw [hxg] at hxj
          have hsl := setOf_lt c d j
          have hp := Nat.pow_le_pow_right (n := 2) (by omega) (show j ≤ 10 by omega)
          have hst : setOf c d (j + 1) = if d g = true then setOf c d j ||| 2 ^ j else setOf c d j := by rw [setOf, hgD]
          have hor := bin_or (a := setOf c d j) (b := 2 ^ j) (by omega) (by omega)
          cases hb : d g
          · rw [hb] at hst
            simp only [Bool.false_eq_true, if_false] at hst
            simp only [go_sem, ↓reduceIte, r111_7, r111_8, r111_9, r111_11, tl, t0, t1, t5, t6, t8, t14, t15, t16, t21, t22, t23, hltjI, hi1.ix hltj, hi1.ld hxj, ix_own hg, ldb gi hg, hb, wrap_succ (show j < 1000000000 by omega)]
            exact ⟨c.length - (j + 1), by omega, j + 1, rfl, hltj, by rw [hst], rfl⟩
          · rw [hb] at hst
            simp only [if_true] at hst
            simp only [go_sem, ↓reduceIte, r111_7, r111_8, r111_9, r111_10, r111_11, tl, t0, t1, t5, t6, t8, t14, t15, t16, t21, t22, t23, hltjI, hi1.ix hltj, hi1.ld hxj, ix_own hg, ldb gi hg, hb, bin_shl1 (kd := .i64) (show j < 62 by omega), hor, wrap_succ (show j < 1000000000 by omega)]
            exact ⟨c.length - (j + 1), by omega, j + 1, rfl, hltj, by rw [hst], rfl⟩
        · have hltjI : ¬ (j : Int) < (c.length : Int) := by omega
          obtain rfl : j = c.length := by omega
          have hsl := setOf_lt c d c.length
          have hltv : i < (xss.map (tabF rs sp)).length := by simpa using hlt
          have hidx : setOf c d c.length < (tabF rs sp c).length := by rw [tabF_len]; exact hsl
          have hval : (tabF rs sp c)[setOf c d c.length]? = some ((tabF rs sp c).getD (setOf c d c.length) 0) := by
            rw [List.getD_eq_getElem?_getD]
            obtain ⟨x, hx⟩ : ∃ x, (tabF rs sp c)[setOf c d c.length]? = some x := ⟨_, List.getElem?_eq_getElem hidx⟩
            rw [hx]; rfl
          have b1 := leftS_bound (sp := sp) (d := d) hw (xss.take i) fun x hx => by have := (ok x (List.mem_of_mem_take hx)).1; omega
          have b2 := tabF_getD (sp := sp) hw (show c.length ≤ 24 by omega) (setOf c d c.length)
          have hst : leftS rs sp d (xss.take (i + 1)) = leftS rs sp d (xss.take i) + (tabF rs sp c).getD (setOf c d c.length) 0 := by
            rw [take_succ' hx, leftS_append]; simp [leftS]
          have hsum : IntKind.i64.wrap (leftS rs sp d (xss.take i) + (tabF rs sp c).getD (setOf c d c.length) 0) = leftS rs sp d (xss.take (i + 1)) := by
            rw [hst]
            simp only [List.length_take] at b1
            unfold never at b1 b2
            exact wrap_in (by omega) (by omega)
          simp only [go_sem, ↓reduceIte, r111_7, r111_12, r111_13, tl, t0, t1, t5, t6, t8, t14, t15, t16, t21, t22, t23, hltjI, s.lvv, s.lv.ix hltv, hl2, hi2.ix hidx, hi2.ld hval, hsum, wrap_succ (show i < 1000000000 by omega)]
          exact ⟨xss.length - (i + 1), by omega, i + 1, rfl, hlt, rfl, rfl⟩
      · refine ⟨0, by omega, by omega, ?_⟩
        simp only [go_sem, ↓reduceIte, tl, t0, t1, t5, t14, t15, t16]
        simp [setOf]
    · have hltI : ¬ (i : Int) < (xss.length : Int) := by omega
      rw [List.take_of_length_le (by omega)] at t5
      simp only [go_sem, ↓reduceIte, r111_3, r111_14, tl, t0, t1, t5, t14, t15, t16, hltI]
  · refine ⟨0, by omega, by omega, ?_⟩
    simp only [go_sem, ↓reduceIte]
    simp [leftS]
def nextK (rs : List Arw) (d : Nat → Bool) (x : Nat) : Nat → Int
  | 0 => 0
  | y + 1 => if d y = true ∧ y ≠ x then nextK rs d x y + wt (y : Int) (x : Int) rs else nextK rs d x y
def hurt (rs : List Arw) (sp : Int) (d : Nat → Bool) (x y : Nat) : Prop := d y = true ∧ y ≠ x ∧ (y : Int) = sp ∧ 0 < wt (y : Int) (x : Int) rs
instance (rs : List Arw) (sp : Int) (d : Nat → Bool) (x y : Nat) : Decidable (hurt rs sp d x y) := by unfold hurt; infer_instance
def nextS (rs : List Arw) (sp : Int) (n : Nat) (d : Nat → Bool) (x : Nat) : Int := if ∃ y, y < n ∧ hurt rs sp d x y then never else nextK rs d x n
theorem nextK_bound {rs : List Arw} {d : Nat → Bool} {x : Nat} (hw : Wok rs) : ∀ k, 0 ≤ nextK rs d x k ∧ nextK rs d x k ≤ 1000 * k
  | 0 => by simp [nextK]
  | k + 1 => by
    have ih := nextK_bound (d := d) (x := x) hw k
    have := hw (k : Int) (x : Int)
    simp only [nextK]
    split <;> omega
theorem nextS_bound {rs : List Arw} {sp : Int} {n : Nat} {d : Nat → Bool} {x : Nat} (hw : Wok rs) (hn : n ≤ 24) : 0 ≤ nextS rs sp n d x ∧ nextS rs sp n d x ≤ never := by
  have := nextK_bound (d := d) (x := x) hw n
  unfold nextS never
  split <;> omega
theorem t112 : tblA 112 = some a112 := by kernel_rfl
theorem fn_nextS {h : H} {sb n ib x : Nat} {rs : List Arw} {xss : List (List Int)} {sp : Int} {cv vv : V} {d : Nat → Bool} (s : Srch h sb n rs xss sp cv vv) (hn : n ≤ 24) (hx : x < n) (hw : Wok rs) (gi : h.get ib = some (.cells (bools n d))) :
    WC tblA (.fn 112 [] []) [.p sb 0, .sl ib 0 n n none, .i .i64 (x : Int)] h fun u h' => h' = h ∧ u = .i .i64 (nextS rs sp n d x) := by
  refine (WC_in t112).2 ?_
  simp only [go_sem, ↓reduceIte, r112_0, r112_1, r112_2]
  refine W_while (fun k t h' => ∃ y, k = n - y ∧ y ≤ n ∧ t.length = 52 ∧ nth t 0 = .p sb 0 ∧ nth t 2 = .i .i64 (x : Int) ∧ nth t 7 = .i .i64 (nextK rs d x y) ∧ nth t 10 = .sl ib 0 n n none ∧ nth t 11 = .i .i64 (n : Int) ∧ nth t 12 = .i .i64 (y : Int) ∧ h = h' ∧ ∀ z, z < y → ¬ hurt rs sp d x z) ?_ n ?_
  · rintro k t _ ⟨y, rfl, hy, tl, t0, t2, t7, t10, t11, t12, rfl, hno⟩
    unfold b112_0
    by_cases hlt : y < n
    · have hltI : (y : Int) < (n : Int) := by omega
      have hgl := s.grid.ld (show y < 24 by omega) (show x < 24 by omega)
      have hkeep : ¬ hurt rs sp d x y → ∀ z, z < y + 1 → ¬ hurt rs sp d x z := by
        intro h z hz
        by_cases q : z = y
        · subst q; exact h
        · exact hno z (by omega)
      cases hd : d y
      · have hn1 : nextK rs d x (y + 1) = nextK rs d x y := by simp [nextK, hd]
        simp only [go_sem, ↓reduceIte, r112_3, r112_4, r112_5, r112_9, tl, t0, t2, t7, t10, t11, t12, hltI, ix_own hlt, ldb gi hlt, hd, wrap_succ (show y < 1000000000 by omega)]
        exact ⟨n - (y + 1), by omega, y + 1, rfl, hlt, by rw [hn1], rfl, hkeep fun h => by unfold hurt at h; rw [hd] at h; exact absurd h.1 (by simp)⟩
      · by_cases hyx : y = x
        · subst hyx
          have hn1 : nextK rs d y (y + 1) = nextK rs d y y := by simp [nextK]
          simp only [go_sem, ↓reduceIte, r112_3, r112_4, r112_5, r112_9, tl, t0, t2, t7, t10, t11, t12, hltI, ix_own hlt, ldb gi hlt, hd, wrap_succ (show y < 1000000000 by omega)]
          exact ⟨n - (y + 1), by omega, y + 1, rfl, hlt, by rw [hn1], rfl, hkeep fun h => h.2.1 rfl⟩
        · have hn1 : nextK rs d x (y + 1) = nextK rs d x y + wt (y : Int) (x : Int) rs := by simp [nextK, hyx, hd]
          have hb := nextK_bound (d := d) (x := x) hw y
          have hb2 := hw (y : Int) (x : Int)
          have hsum : IntKind.i64.wrap (nextK rs d x y + wt (y : Int) (x : Int) rs) = nextK rs d x (y + 1) := by
            rw [hn1]; exact wrap_in (by omega) (by omega)
          simp only [go_sem, ↓reduceIte, r112_3, r112_4, r112_5, r112_6, tl, t0, t2, t7, t10, t11, t12, hltI, ix_own hlt, ldb gi hlt, hd, nat_int_eq, hyx, ix24r (show y < 24 by omega), ixA_ok (esz := 1) (show x < 24 by omega), hgl, hsum]
          by_cases hsp : (y : Int) = sp
          · by_cases hpos : 0 < wt (y : Int) (x : Int) rs
            · have hh : hurt rs sp d x y := ⟨hd, hyx, hsp, hpos⟩
              simp only [go_sem, ↓reduceIte, r112_7, r112_8, tl, t0, t2, s.lsp, hsp, ix24r (show y < 24 by omega), ixA_ok (esz := 1) (show x < 24 by omega)]
              rw [← hsp]
              simp only [go_sem, ↓reduceIte, ix24r (show y < 24 by omega), ixA_ok (esz := 1) (show x < 24 by omega), hgl, hpos, tl]
              rw [nextS, if_pos ⟨y, hlt, by rw [hsp]; exact hh⟩]
              rfl
            · simp only [go_sem, ↓reduceIte, r112_7, tl, t0, t2, t10, t11, s.lsp, hsp]
              rw [← hsp]
              simp only [go_sem, ↓reduceIte, r112_9, tl, t0, t2, t10, t11, t12, ix24r (show y < 24 by omega), ixA_ok (esz := 1) (show x < 24 by omega), hgl, hpos, wrap_succ (show y < 1000000000 by omega)]
              exact ⟨n - (y + 1), by omega, y + 1, rfl, hlt, rfl, rfl, by rw [hsp]; exact hkeep fun h => hpos h.2.2.2⟩
          · simp only [go_sem, ↓reduceIte, r112_7, r112_9, tl, t0, t2, t10, t11, t12, s.lsp, hsp, wrap_succ (show y < 1000000000 by omega)]
            exact ⟨n - (y + 1), by omega, y + 1, rfl, hlt, rfl, rfl, hkeep fun h => hsp h.2.2.1⟩
    · have hltI : ¬ (y : Int) < (n : Int) := by omega
      obtain rfl : y = n := by omega
      simp only [go_sem, ↓reduceIte, r112_3, r112_10, tl, t0, t2, t7, t10, t11, t12, hltI]
      rw [nextS, if_neg]
      rintro ⟨z, hz, hh⟩
      exact hno z hz hh
  · refine ⟨0, by omega, by omega, ?_⟩
    simp only [go_sem, ↓reduceIte]
    simp [nextK]
end Go.Air
set_option maxRecDepth 100000
namespace Go.Air
open Go.Air.Try
def pickc (rs : List Arw) (sp : Int) (n : Nat) (xss : List (List Int)) (d : Nat → Bool) (rest : Int) (x : Nat) : Bool := d x && (decide (nextS rs sp n d x < never) && decide (nextS rs sp n d x + leftS rs sp (sput d x false) xss = rest))
def firstK (rs : List Arw) (sp : Int) (n : Nat) (xss : List (List Int)) : Nat → (Nat → Bool) → Int → List Int
  | 0, _, _ => []
  | k + 1, d, rest => match (List.range n).find? (pickc rs sp n xss d rest) with
    | none => firstK rs sp n xss k d rest
    | some x => (x : Int) :: firstK rs sp n xss k (sput d x false) (leftS rs sp (sput d x false) xss)
theorem firstK_len {rs : List Arw} {sp : Int} {n : Nat} {xss : List (List Int)} : ∀ (k : Nat) (d : Nat → Bool) (rest : Int), (firstK rs sp n xss k d rest).length ≤ k
  | 0, _, _ => by simp [firstK]
  | k + 1, d, rest => by
    rw [firstK]
    split
    · have := firstK_len (rs := rs) (sp := sp) (n := n) (xss := xss) k d rest; omega
    · rename_i x _
      have := firstK_len (rs := rs) (sp := sp) (n := n) (xss := xss) k (sput d x false) (leftS rs sp (sput d x false) xss)
      simp only [List.length_cons]; omega
def allT (_ : Nat) : Bool := true
def firstS (rs : List Arw) (sp : Int) (n : Nat) (xss : List (List Int)) : List Int := firstK rs sp n xss n allT (leftS rs sp allT xss)
theorem bools_congr {n : Nat} {d d' : Nat → Bool} (h : ∀ j, j < n → d j = d' j) : bools n d = bools n d' := by
  unfold bools
  refine List.map_congr_left fun j hj => ?_
  rw [h j (List.mem_range.1 hj)]
theorem sput_back {d : Nat → Bool} {x : Nat} (h : d x = true) : sput (sput d x false) x true = d := by
  funext y
  simp only [sput]
  split
  · rename_i q; subst q; rw [h]
  · rfl
theorem sput_upto {i : Nat} : sput (upto i allT) i true = upto (i + 1) allT := upto_succ allT i
theorem t69 : tblA 69 = some a69 := by kernel_rfl
theorem fn_first {h : H} {sb n : Nat} {rs : List Arw} {xss : List (List Int)} {sp : Int} {cv vv : V} (s : Srch h sb n rs xss sp cv vv) (ok : Okc n xss) (hn : n ≤ 24) (hxl : xss.length ≤ 24) (hw : Wok rs) :
    WC tblA (.fn 69 [] []) [.p sb 0] h fun u h' => Ext h h' ∧ ∃ ov, u = .tup [ov, .i .i64 (leftS rs sp allT xss)] ∧ Own h 1 h' ov (firstS rs sp n xss).length (ints (firstS rs sp n xss)) := by
  refine (WC_in t69).2 ?_
  simp only [go_sem, ↓reduceIte, r69_0, r69_1, r69_2, s.ln, mkSl_ok (h := h) (c := [.b false]) (bytes := 1) (n := n) (by omega) (by omega), rep_one]
  have e1 : Ext h (h.new (.cells (List.replicate n (.b false)))) := (Ext.refl h).new _
  have g1 : (h.new (.cells (List.replicate n (.b false)))).get h.next = some (.cells (bools n (upto 0 allT))) := by
    rw [get_new_eq rfl]
    congr 2
    apply List.ext_getElem?
    intro j
    by_cases hj : j < n
    · rw [bools_get hj, List.getElem?_replicate, if_pos hj]; simp [upto]
    · rw [List.getElem?_eq_none (by rw [List.length_replicate]; omega), List.getElem?_eq_none (by rw [bools_len]; omega)]
  have n1 : (h.new (.cells (List.replicate n (.b false)))).next = h.next + 1 := by simp
  generalize h.new (.cells (List.replicate n (.b false))) = h1 at *
  refine W_while (fun k t h' => ∃ i, k = n - i ∧ i ≤ n ∧ t.length = 77 ∧ nth t 0 = .p sb 0 ∧ nth t 4 = .sl h.next 0 n n none ∧ nth t 18 = .i .i64 (n : Int) ∧ nth t 19 = .i .i64 (i : Int) ∧ Ext h h' ∧ h.next < h'.next ∧ h'.get h.next = some (.cells (bools n (upto i allT)))) ?_ n ?_
  · rintro k t h2 ⟨i, rfl, hi, tl, t0, t4, t18, t19, e2, n2, g2⟩
    unfold b69_0
    by_cases hlt : i < n
    · have hltI : (i : Int) < (n : Int) := by omega
      simp only [go_sem, ↓reduceIte, r69_3, r69_4, r69_5, r69_6, tl, t0, t4, t18, t19, hltI, ix_own hlt, stb g2 hlt, wrap_succ (show i < 1000000000 by omega)]
      refine ⟨n - (i + 1), by omega, i + 1, rfl, hlt, rfl, e2.put (Nat.le_refl _) _, by simpa using n2, ?_⟩
      rw [H.get_put, if_pos rfl, sput_upto]
    · have hltI : ¬ (i : Int) < (n : Int) := by omega
      obtain rfl : i = n := by omega
      have g2' : h2.get h.next = some (.cells (bools i allT)) := by rw [g2, bools_congr (d' := allT)]; intro j hj; simp [upto, hj]
      simp only [go_sem, ↓reduceIte, r69_3, r69_7, tl, t0, t4, t18, t19, hltI]
      refine (fn_left (s.ext e2) ok hn hxl hw g2').mono ?_
      rintro _ h3 ⟨hh, rfl⟩
      obtain rfl : h2 = h3 := hh.symm
      have s2 := s.ext e2
      simp only [go_sem, ↓reduceIte, r69_8, r69_9, r69_10, tl, t0, t4, s2.ln]
      generalize hlst : leftS rs sp allT xss = least
      refine W_while (fun k t h' => ∃ (j : Nat) (d : Nat → Bool) (rest : Int) (L : List Int) (w : V), k = i - j ∧ j ≤ i ∧ t.length = 77 ∧ nth t 0 = .p sb 0 ∧ nth t 4 = .sl h.next 0 i i none ∧ nth t 6 = .i .i64 least ∧ nth t 7 = w ∧ nth t 8 = .i .i64 rest ∧ nth t 33 = .i .i64 (i : Int) ∧ nth t 34 = .i .i64 (j : Int) ∧ Ext h h' ∧ h.next < h'.next ∧ h'.get h.next = some (.cells (bools i d)) ∧
          Own h 1 h' w L.length (ints L) ∧ (w = .sn ∨ h.next ≠ blkV w) ∧ L.length ≤ j ∧ firstS rs sp i xss = L ++ firstK rs sp i xss (i - j) d rest) ?_ i ?_
      · rintro k t h' ⟨j, d, rest, L, w, rfl, hj, tl, t0, t4, t6, t7, t8, t33, t34, e', n', g', o', hwn, hLj, hF⟩
        unfold b69_2
        have s' := s.ext e'
        by_cases hltj : j < i
        · have hltjI : (j : Int) < (i : Int) := by omega
          obtain ⟨m, hm⟩ : ∃ m, i - j = m + 1 := ⟨i - j - 1, by omega⟩
          rw [hm, firstK] at hF
          simp only [go_sem, ↓reduceIte, r69_11, r69_12, tl, t0, t4, t6, t7, t8, t33, t34, hltjI, s'.ln]
          refine W_while (fun k t h' => ∃ (x : Nat), k = i - x ∧ x ≤ i ∧ t.length = 77 ∧ nth t 0 = .p sb 0 ∧ nth t 4 = .sl h.next 0 i i none ∧ nth t 6 = .i .i64 least ∧ nth t 7 = w ∧ nth t 8 = .i .i64 rest ∧ nth t 33 = .i .i64 (i : Int) ∧ nth t 34 = .i .i64 (j : Int) ∧ nth t 39 = .i .i64 (i : Int) ∧ nth t 40 = .i .i64 (x : Int) ∧ Ext h h' ∧ h.next < h'.next ∧ h'.get h.next = some (.cells (bools i d)) ∧ Own h 1 h' w L.length (ints L) ∧ ∀ y, y < x → pickc rs sp i xss d rest y = false) ?_ i ?_
          · rintro k t h' ⟨x, rfl, hx, tl, t0, t4, t6, t7, t8, t33, t34, t39, t40, e', n', g', o', hno⟩
            unfold b69_1
            have s' := s.ext e'
            by_cases hltx : x < i
            · have hltxI : (x : Int) < (i : Int) := by omega
              have hkeep : pickc rs sp i xss d rest x = false → ∀ y, y < x + 1 → pickc rs sp i xss d rest y = false := by
                intro hp y hy
                by_cases q : y = x
                · subst q; exact hp
                · exact hno y (by omega)
              cases hd : d x
              · simp only [go_sem, ↓reduceIte, r69_13, r69_14, r69_15, r69_24, tl, t0, t4, t6, t7, t8, t33, t34, t39, t40, hltxI, ix_own hltx, ldb g' hltx, hd, wrap_succ (show x < 1000000000 by omega)]
                exact ⟨i - (x + 1), by omega, x + 1, rfl, hltx, rfl, e', n', g', o', hkeep (by simp [pickc, hd])⟩
              · simp only [go_sem, ↓reduceIte, r69_13, r69_14, r69_15, r69_16, tl, t0, t4, t6, t7, t8, t33, t34, t39, t40, hltxI, ix_own hltx, ldb g' hltx, hd]
                refine (fn_nextS s' hn hltx hw g').mono ?_
                rintro _ h4 ⟨hh, rfl⟩
                obtain rfl : h' = h4 := hh.symm
                by_cases hnv : never ≤ nextS rs sp i d x
                · rw [show (r69_17 : List O) = [⟨some 52, none, .mov (.t 10)⟩, ⟨some 53, none, .bin .geq (.t 52) (.c (.i .i64 never))⟩] from rfl]
                  simp only [go_sem, ↓reduceIte, r69_24, tl, t0, t4, t6, t7, t8, t33, t34, t39, t40, hnv, wrap_succ (show x < 1000000000 by omega)]
                  refine ⟨i - (x + 1), by omega, x + 1, rfl, hltx, rfl, e', n', g', o', hkeep ?_⟩
                  have : ¬ nextS rs sp i d x < never := by omega
                  simp [pickc, this]
                · have hlt2 : nextS rs sp i d x < never := by omega
                  rw [show (r69_17 : List O) = [⟨some 52, none, .mov (.t 10)⟩, ⟨some 53, none, .bin .geq (.t 52) (.c (.i .i64 never))⟩] from rfl]
                  simp only [go_sem, ↓reduceIte, r69_18, r69_19, tl, t0, t4, t6, t7, t8, t33, t34, t39, t40, hnv, ix_own hltx, stb g' hltx]
                  have e5 : Ext h (h'.put h.next (.cells (bools i (sput d x false)))) := e'.put (Nat.le_refl _) _
                  have g5 : (h'.put h.next (.cells (bools i (sput d x false)))).get h.next = some (.cells (bools i (sput d x false))) := by rw [H.get_put, if_pos rfl]
                  have n5 : h.next < (h'.put h.next (.cells (bools i (sput d x false)))).next := by simpa using n'
                  have o5 : Own h 1 (h'.put h.next (.cells (bools i (sput d x false)))) w L.length (ints L) := by
                    obtain ⟨hl, o | ⟨b, g, rfl, hv, q1, q2, q3⟩⟩ := o'
                    · exact ⟨hl, .inl o⟩
                    · refine ⟨hl, .inr ⟨b, g, rfl, hv, q1, by simpa using q2, ?_⟩⟩
                      rw [H.get_put, if_neg]
                      · exact q3
                      · rcases hwn with z | z
                        · cases z
                        · exact fun q => z q.symm
                  generalize h'.put h.next (.cells (bools i (sput d x false))) = h5 at *
                  have s5 := s.ext e5
                  refine (fn_left s5 ok hn hxl hw g5).mono ?_
                  rintro _ h6 ⟨hh, rfl⟩
                  obtain rfl : h5 = h6 := hh.symm
                  have b1 := nextS_bound (sp := sp) (d := d) (x := x) hw hn
                  have b2 := leftS_bound (sp := sp) (d := sput d x false) hw xss fun c hc => by have := (ok c hc).1; omega
                  have hsum : IntKind.i64.wrap (nextS rs sp i d x + leftS rs sp (sput d x false) xss) = nextS rs sp i d x + leftS rs sp (sput d x false) xss := by
                    unfold never at b1 b2
                    exact wrap_in (by omega) (by omega)
                  by_cases heq : nextS rs sp i d x + leftS rs sp (sput d x false) xss = rest
                  · have hpick : pickc rs sp i xss d rest x = true := by simp [pickc, hd, hlt2, heq]
                    rw [find_range hltx hpick hno] at hF
                    obtain ⟨w', h7, r1, r2, r3, r4, r5, r6⟩ := app_int' (x : Int) o5 e5 (by omega)
                    have g7 : h7.get h.next = some (.cells (bools i (sput d x false))) := (r5 h.next n5 hwn).trans g5
                    simp only [go_sem, ↓reduceIte, r69_20, tl, t0, t4, t6, t7, t8, t33, t34, t39, t40, hsum]
                    simp only [go_sem, ↓reduceIte, r69_21, r69_22, r69_25, tl, t0, t4, t6, t7, t8, t33, t34, t39, t40, heq, r1, wrap_succ (show j < 1000000000 by omega)]
                    refine ⟨i - (j + 1), by omega, j + 1, sput d x false, leftS rs sp (sput d x false) xss, L ++ [(x : Int)], w', rfl, hltj, rfl, rfl, rfl, r2, by omega, g7, by rw [List.length_append]; exact r3, .inr (by omega), by simp; omega, ?_⟩
                    rw [hF, show i - (j + 1) = m by omega]
                    simp
                  · have hback := sput_back hd
                    have hst := stb (v := true) g5 hltx
                    rw [hback] at hst
                    have o7 : Own h 1 (h5.put h.next (.cells (bools i d))) w L.length (ints L) := by
                      obtain ⟨hl, o | ⟨b, g, rfl, hv, q1, q2, q3⟩⟩ := o5
                      · exact ⟨hl, .inl o⟩
                      · refine ⟨hl, .inr ⟨b, g, rfl, hv, q1, by simpa using q2, ?_⟩⟩
                        rw [H.get_put, if_neg]
                        · exact q3
                        · rcases hwn with z | z
                          · cases z
                          · exact fun q => z q.symm
                    simp only [go_sem, ↓reduceIte, r69_20, tl, t0, t4, t6, t7, t8, t33, t34, t39, t40, hsum]
                    simp only [go_sem, ↓reduceIte, r69_23, r69_24, tl, t0, t4, t6, t7, t8, t33, t34, t39, t40, heq, ix_own hltx, hst, wrap_succ (show x < 1000000000 by omega)]
                    exact ⟨i - (x + 1), by omega, x + 1, rfl, hltx, rfl, e5.put (Nat.le_refl _) _, by simpa using n5, by rw [H.get_put, if_pos rfl], o7, hkeep (by simp [pickc, heq])⟩
            · have hltxI : ¬ (x : Int) < (i : Int) := by omega
              obtain rfl : x = i := by omega
              rw [find_range_none hno] at hF
              simp only [go_sem, ↓reduceIte, r69_13, r69_25, tl, t0, t4, t6, t7, t8, t33, t34, t39, t40, hltxI, wrap_succ (show j < 1000000000 by omega)]
              refine ⟨x - (j + 1), by omega, j + 1, d, rest, L, w, rfl, hltj, rfl, rfl, rfl, e', n', g', o', hwn, by omega, ?_⟩
              rw [hF, show x - (j + 1) = m by omega]
          · refine ⟨0, by omega, by omega, ?_⟩
            simp only [go_sem, ↓reduceIte, tl, t0, t4, t6, t7, t8, t33, t34]
            exact ⟨e', n', g', o', fun y hy => by omega⟩
        · have hltjI : ¬ (j : Int) < (i : Int) := by omega
          rw [show i - j = 0 by omega, firstK, List.append_nil] at hF
          simp only [go_sem, ↓reduceIte, r69_11, r69_26, tl, t0, t4, t6, t7, t8, t33, t34, hltjI]
          rw [hF]
          exact ⟨e', w, rfl, o'⟩
      · refine ⟨0, allT, least, [], .sn, by omega, by omega, ?_⟩
        simp only [go_sem, ↓reduceIte, tl, t0, t4]
        refine ⟨e2, n2, g2', .nil, .inl trivial, Nat.le_refl _, ?_⟩
        rw [firstS, hlst, List.nil_append, Nat.sub_zero]
  · refine ⟨0, by omega, by omega, ?_⟩
    simp only [go_sem, ↓reduceIte]
    exact ⟨e1, by omega, g1⟩
end Go.Air
set_option maxRecDepth 100000
namespace Go.Air
open Go.Air.Try
def RowsO (h0 h : H) (w : V) (xss : List (List Int)) : Prop := ∃ cs, Own h0 1 h w xss.length cs ∧ ∀ (j : Nat) (xs : List Int), xss[j]? = some xs → ∃ c, cs[j]? = some c ∧ Own h0 1 h c xs.length (ints xs) ∧ (w = .sn ∨ c = .sn ∨ blkV c ≠ blkV w)
theorem RowsO.nil {h0 h : H} : RowsO h0 h .sn [] := ⟨[], .nil, fun j xs hj => by simp at hj⟩
theorem RowsO.ll {h0 h : H} {w : V} {xss : List (List Int)} (r : RowsO h0 h w xss) : LL h w xss := by
  obtain ⟨cs, o, hc⟩ := r
  refine ⟨cs, by simpa using o.sl, fun j xs hj => ?_⟩
  obtain ⟨c, q1, q2, _⟩ := hc j xs hj
  exact ⟨c, q1, q2.ints⟩
theorem RowsO.mono {h0 h1 h : H} {w : V} {xss : List (List Int)} (r : RowsO h1 h w xss) (hn : h0.next ≤ h1.next) : RowsO h0 h w xss := by
  obtain ⟨cs, o, hc⟩ := r
  refine ⟨cs, o.mono hn, fun j xs hj => ?_⟩
  obtain ⟨c, q1, q2, q3⟩ := hc j xs hj
  exact ⟨c, q1, q2.mono hn, q3⟩
theorem RowsO.keepX {X : Nat → Prop} {h0 h h' : H} {w : V} {xss : List (List Int)} (r : RowsO h0 h w xss) (e : ExtX X h h') (hX : ∀ b, X b → b < h0.next) : RowsO h0 h' w xss := by
  obtain ⟨cs, o, hc⟩ := r
  refine ⟨cs, o.keepX e hX, fun j xs hj => ?_⟩
  obtain ⟨c, q1, q2, q3⟩ := hc j xs hj
  exact ⟨c, q1, q2.keepX e hX, q3⟩
theorem RowsO.ext {h0 h h' : H} {w : V} {xss : List (List Int)} (r : RowsO h0 h w xss) (e : Ext h h') : RowsO h0 h' w xss := r.keepX (X := fun _ => False) (.of e) (fun _ hb => hb.elim)
theorem Own.keepB {esz n : Nat} {h0 h h' : H} {v w : V} {cs : List V} (o : Own h0 esz h v n cs) (hn : h.next ≤ h'.next) (k : ∀ b, b < h.next → (w = .sn ∨ b ≠ blkV w) → h'.get b = h.get b) (hv : w = .sn ∨ v = .sn ∨ blkV v ≠ blkV w) : Own h0 esz h' v n cs := by
  obtain ⟨hl, o | ⟨b, g, rfl, hg, h1, h2, hb⟩⟩ := o
  · exact ⟨hl, .inl o⟩
  · refine ⟨hl, .inr ⟨b, g, rfl, hg, h1, by omega, ?_⟩⟩
    rw [k b h2]
    · exact hb
    · rcases hv with z | z | z
      · exact .inl z
      · cases z
      · exact .inr z
theorem Own.wlt' {h0 h : H} {v : V} {n esz : Nat} {cs : List V} (o : Own h0 esz h v n cs) : v = .sn ∨ (h0.next ≤ blkV v ∧ blkV v < h.next) := by
  obtain ⟨hl, ⟨_, rfl⟩ | ⟨b, g, rfl, hg, h1, h2, hb⟩⟩ := o
  · exact .inl rfl
  · exact .inr ⟨h1, h2⟩
theorem RowsO.step {h0 h g : H} {w w' u : V} {xss : List (List Int)} {xs : List Int} {cs : List V} (hc : ∀ (j : Nat) (xs : List Int), xss[j]? = some xs → ∃ c, cs[j]? = some c ∧ Own h0 1 h c xs.length (ints xs) ∧ (w = .sn ∨ c = .sn ∨ blkV c ≠ blkV w))
    (hl : cs.length = xss.length) (iu : Own h0 1 h u xs.length (ints xs)) (u3 : w = .sn ∨ u = .sn ∨ blkV u ≠ blkV w)
    (o : Own h0 1 g w' (xss.length + 1) (cs ++ [u])) (n : h.next < g.next) (k : ∀ b, b < h.next → (w = .sn ∨ b ≠ blkV w) → g.get b = h.get b) (hb : h.next < blkV w') : RowsO h0 g w' (xss ++ [xs]) := by
  refine ⟨cs ++ [u], by simpa using o, fun j ys hj => ?_⟩
  by_cases hjl : j < xss.length
  · rw [List.getElem?_append_left hjl] at hj
    obtain ⟨c, q1, q2, q3⟩ := hc j ys hj
    refine ⟨c, by rw [List.getElem?_append_left (by omega)]; exact q1, q2.keepB (Nat.le_of_lt n) k q3, ?_⟩
    rcases q2.wlt' with z | z
    · exact .inr (.inl z)
    · exact .inr (.inr (by omega))
  · have hlt := (List.getElem?_eq_some_iff.1 hj).1
    simp at hlt
    obtain rfl : j = xss.length := by omega
    rw [List.getElem?_append_right (by omega)] at hj
    simp at hj
    subst hj
    refine ⟨u, by rw [List.getElem?_append_right (by omega)]; simp [hl], iu.keepB (Nat.le_of_lt n) k u3, ?_⟩
    rcases iu.wlt' with z | z
    · exact .inr (.inl z)
    · exact .inr (.inr (by omega))
def Z580 : List V := List.replicate 577 (.i .i64 0) ++ [.sn, .sn] ++ [.i .i64 0]
def fillS (x y z u : V) : Option (List V) := fill [x, y, z, u] Z580 [(0, 576, .t 0), (576, 1, .t 1), (577, 1, .t 2), (579, 1, .t 3)]
@[go_sem] theorem fill_search {t : List V} {x y z u : X} : fill t (List.replicate 577 (.i .i64 0) ++ [.sn, .sn] ++ [.i .i64 0]) [(0, 576, x), (576, 1, y), (577, 1, z), (579, 1, u)] = fillS (x.ev t) (y.ev t) (z.ev t) (u.ev t) := rfl
theorem fillS_eq {g : List V} {a b c : V} (hg : g.length = 576) (ha : a.cells = [a]) (hb : b.cells = [b]) (hc : c.cells = [c]) : fillS (.agg g) a b c = some (g ++ [a, b, .sn, c]) := by
  have hZ : Z580 = List.replicate 576 (.i .i64 0) ++ [.i .i64 0, .sn, .sn, .i .i64 0] := by
    unfold Z580
    rw [show 577 = 576 + 1 by rfl, List.replicate_succ']
    simp only [List.append_assoc]; rfl
  have l0 : lay Z580 0 g = some (g ++ [.i .i64 0, .sn, .sn, .i .i64 0]) := by
    rw [hZ]
    refine lay_eq.2 ⟨by simp [hg], ?_⟩
    simp [hg]
  have l1 : lay (g ++ [.i .i64 0, .sn, .sn, .i .i64 0]) 576 [a] = some (g ++ [a, .sn, .sn, .i .i64 0]) := by
    refine lay_eq.2 ⟨by simp [hg], ?_⟩
    rw [← hg, List.take_left, show g.length + [a].length = (g ++ [V.i .i64 0]).length by simp, show g ++ [V.i .i64 0, .sn, .sn, .i .i64 0] = (g ++ [V.i .i64 0]) ++ [.sn, .sn, .i .i64 0] by simp, List.drop_left]
    simp
  have l2 : lay (g ++ [a, .sn, .sn, .i .i64 0]) 577 [b] = some (g ++ [a, b, .sn, .i .i64 0]) := by
    refine lay_eq.2 ⟨by simp [hg], ?_⟩
    have h577 : 577 = (g ++ [a]).length := by simp [hg]
    rw [show g ++ [a, .sn, .sn, V.i .i64 0] = (g ++ [a]) ++ [.sn, .sn, .i .i64 0] by simp, h577, List.take_left, show (g ++ [a]).length + [b].length = ((g ++ [a]) ++ [V.sn]).length by simp, show (g ++ [a]) ++ [.sn, .sn, V.i .i64 0] = ((g ++ [a]) ++ [V.sn]) ++ [.sn, .i .i64 0] by simp, List.drop_left]
    simp
  have l3 : lay (g ++ [a, b, .sn, .i .i64 0]) 579 [c] = some (g ++ [a, b, .sn, c]) := by
    refine lay_eq.2 ⟨by simp [hg], ?_⟩
    have h579 : 579 = (g ++ [a, b, .sn]).length := by simp [hg]
    rw [show g ++ [a, b, .sn, V.i .i64 0] = (g ++ [a, b, .sn]) ++ [.i .i64 0] by simp, h579, List.take_left, List.drop_of_length_le (by simp)]
    simp
  have s0 : Nat.beq g.length 576 = true := by rw [hg]; rfl
  simp only [fillS, fill, ev_t, nth_0, nth_1, nth_2, nth_3, agg_cells, s0, l0, ha, hb, hc, l1, l2, l3, if_true, List.length_cons, List.length_nil, Nat.zero_add, beq_self']
theorem st_any0 {h : H} {b k : Nat} {cs : List V} {x : V} (hg : h.get b = some (.cells cs)) (h1 : x.cells = [x]) (h2 : x.oneCell = true) (hk : k < cs.length) : stV h 1 (.p b k) x = some (h.put b (.cells (cs.set k x))) := by
  have := st_any (k := k) hg h1 h2 hk
  rwa [show 0 + k * 1 = k by omega] at this
theorem LL.one {h : H} {v : V} {xss : List (List Int)} (s : LL h v xss) : v.cells = [v] ∧ v.oneCell = true := by
  obtain ⟨cs, q, _⟩ := s
  exact arg_cells q
def s68_5a : List O := [⟨some 24, none, .mov (.t 7)⟩, ⟨some 25, none, .mov (.t 7)⟩, ⟨some 26, none, .nilck (.t 25)⟩, ⟨some 27, none, .fld 578 (.t 26)⟩, ⟨some 28, none, .ld (.t 27)⟩, ⟨some 29, none, .mov (.t 7)⟩,
  ⟨some 30, none, .nilck (.t 29)⟩, ⟨some 31, none, .fld 0 (.t 30)⟩, ⟨some 32, none, .mov (.t 9)⟩, ⟨some 33, none, .mov (.t 2)⟩, ⟨some 34, none, .call (.f 110) [(.t 31), (.t 32), (.t 33)]⟩]
def s68_5b : List O := [⟨some 35, none, .buildSl [.sn] 1 [(0, 1, (.t 34))]⟩, ⟨some 36, none, .app 1 24 (.t 28) (.t 35)⟩, ⟨some 37, none, .nilck (.t 24)⟩, ⟨some 38, none, .fld 578 (.t 37)⟩, ⟨none, none, .st 1 (.t 38) (.t 36)⟩]
theorem r68_5_eq : r68_5 = s68_5a ++ s68_5b := rfl
def srchC (rs : List Arw) (n : Nat) (cv w : V) (sp : Int) : List V := ints (gridL rs) ++ [.i .i64 (n : Int), cv, w, .i .i64 sp]
theorem srchC_len {rs : List Arw} {n : Nat} {cv w : V} {sp : Int} : (srchC rs n cv w sp).length = 580 := by simp [srchC, ints_len, gridL_len]
theorem srchC_set {rs : List Arw} {n : Nat} {cv w w' : V} {sp : Int} : (srchC rs n cv w sp).set 578 w' = srchC rs n cv w' sp := by
  unfold srchC
  rw [List.set_append_right _ _ (by rw [ints_len, gridL_len]; omega), ints_len, gridL_len]
  rfl
theorem srchC_at {rs : List Arw} {n : Nat} {cv w : V} {sp : Int} {k : Nat} {x : V} (hx : ([.i .i64 (n : Int), cv, w, .i .i64 sp] : List V)[k]? = some x) : (srchC rs n cv w sp)[576 + k]? = some x := by
  unfold srchC
  rw [List.getElem?_append_right (by rw [ints_len, gridL_len]; omega), ints_len, gridL_len, Nat.add_sub_cancel_left]
  exact hx
theorem srchC_grid {h : H} {sb n : Nat} {rs : List Arw} {cv w : V} {sp : Int} (hb : sb < h.next) (g : h.get sb = some (.cells (srchC rs n cv w sp))) : Grid h sb rs := by
  refine ⟨hb, _, g, fun a b ha hb => ?_⟩
  unfold srchC
  rw [List.getElem?_append_left (by rw [ints_len, gridL_len]; omega)]
  exact ints_at (by rw [show 0 + a * 24 + b * 1 = a * 24 + b by omega]; exact gridL_get ha hb)
theorem t68 : tblA 68 = some a68 := by kernel_rfl
theorem fn_begin {h : H} {n : Nat} {v cv : V} {rs : List Arw} {xss : List (List Int)} {sp : Int} (hr : Arrs h v rs) (hrn : rs.length ≤ 1000000) (gr : GoodR (n : Int) rs) (hn : n ≤ 24) (hc : LL h cv xss) (ok : Okc n xss) (hxl : xss.length ≤ 24) :
    WC tblA (.fn 68 [] []) [.agg [.i .i64 (n : Int), v], cv, .i .i64 sp] h fun u h' => Ext h h' ∧ ∃ sb vv, u = .p sb 0 ∧ h.next ≤ sb ∧ Srch h' sb n rs xss sp cv vv ∧ RowsO h h' vv (xss.map (tabF rs sp)) := by
  refine (WC_in t68).2 ?_
  have hw : Wok rs := wok_of gr.1
  obtain ⟨e0, g0⟩ := rel_blk h (n : Int) v
  simp only [go_sem, ↓reduceIte, r68_0]
  have hr0 := hr.ext e0
  have n0 : (h.new (.cells [.i .i64 (n : Int), v])).next = h.next + 1 := by simp
  generalize hh : h.new (.cells [.i .i64 (n : Int), v]) = h0 at *
  have l0 : ldnV h0 2 (.p h.next 0) = some (.agg [.i .i64 (n : Int), v]) := blk_ldn g0 rfl
  apply W_pure (by simp [r68_1])
  simp only [go_sem, ↓reduceIte, r68_1, l0]
  refine (fn_weigh (h := h0.bare) (Sl.bare hr0) hrn gr (by omega)).mono ?_
  rintro _ h1 ⟨e1, rfl⟩
  have hold := e1.old
  replace e1 := e1.back
  simp only [go_sem, ↓reduceIte, hold]
  generalize h0.back h1 = h2 at *
  have l1 : ldV h2 (.p h.next 0) = some (.i .i64 (n : Int)) := blk_ld (e1.get (by omega) g0) rfl
  have hcone := hc.one
  have hfs := fillS_eq (g := ints (gridL rs)) (a := .i .i64 (n : Int)) (b := cv) (c := .i .i64 sp) (by rw [ints_len, gridL_len]) rfl hcone.1 rfl
  simp only [go_sem, ↓reduceIte, l1, hfs]
  have eB : Ext h (h2.new (.cells (srchC rs n cv .sn sp))) := (e0.trans e1).new _
  have gB : (h2.new (.cells (srchC rs n cv .sn sp))).get h2.next = some (.cells (srchC rs n cv .sn sp)) := get_new_eq rfl
  have nB : (h2.new (.cells (srchC rs n cv .sn sp))).next = h2.next + 1 := by simp
  have hsb : h.next ≤ h2.next := (e0.trans e1).nx
  rw [show ints (gridL rs) ++ [.i .i64 (n : Int), cv, .sn, .i .i64 sp] = srchC rs n cv .sn sp from rfl]
  generalize h2.next = sb at *
  generalize h2.new (.cells (srchC rs n cv .sn sp)) = hB at *
  have hcB := hc.ext eB
  have hLs : ∀ (h' : H) (w : V), ExtX (· = sb) hB h' → LL h' cv xss := by
    intro h' w x
    obtain ⟨cs, s1, s2⟩ := hc
    have kX : ∀ {esz n : Nat} {u : V} {ds : List V}, Sl esz h u n ds → Sl esz h' u n ds := by
      intro esz n u ds q
      have q' := q.ext eB
      refine q'.keepX x ?_
      rcases q with ⟨_, _, z | z⟩ | ⟨b, off, cap, g, bl, rfl, hb, _⟩
      · exact .inl z
      · exact .inr (.inl z)
      · exact .inr (.inr (show ¬ b = sb by omega))
    exact ⟨cs, kX s1, fun j xs hj => let ⟨c, q1, q2⟩ := s2 j xs hj; ⟨c, q1, kX q2⟩⟩
  simp only [go_sem, ↓reduceIte, r68_2, hcB.len]
  refine W_while (fun k t h' => ∃ (i : Nat) (w : V), k = xss.length - i ∧ i ≤ xss.length ∧ t.length = 41 ∧ nth t 2 = .i .i64 sp ∧ nth t 7 = .p sb 0 ∧ nth t 18 = cv ∧ nth t 19 = .i .i64 (xss.length : Int) ∧ nth t 20 = .i .i64 (i : Int) ∧ ExtX (· = sb) hB h' ∧ h'.get sb = some (.cells (srchC rs n cv w sp)) ∧ RowsO hB h' w ((xss.take i).map (tabF rs sp))) ?_ xss.length ?_
  · rintro k t h' ⟨i, w, rfl, hi, tl, t2, t7, t18, t19, t20, x', g', r'⟩
    unfold b68_0
    have hc' := hLs h' w x'
    have nx' := x'.nx
    by_cases hlt : i < xss.length
    · have hltI : (i : Int) < (xss.length : Int) := by omega
      obtain ⟨c, hx⟩ : ∃ c, xss[i]? = some c := ⟨_, List.getElem?_eq_getElem hlt⟩
      obtain ⟨hc10, hcd, _⟩ := ok c (List.mem_of_getElem? hx)
      have hgst := ok.gst hn (List.mem_of_getElem? hx)
      obtain ⟨u, hl, hi1⟩ := hc'.ld hx
      simp only [go_sem, ↓reduceIte, r68_3, r68_4, tl, t2, t7, t18, t19, t20, hltI, hc'.ix hlt, hl]
      rw [r68_5_eq]
      apply W_crit (by simp [s68_5a])
      have lw : ldV h' (.p sb 578) = some w := blk_ld g' (srchC_at (k := 2) rfl)
      simp only [go_sem, ↓reduceIte, s68_5a, tl, t2, t7, t18, t19, t20, lw]
      refine (fn_table (h := h'.bare) (show Grid h'.bare sb rs from srchC_grid (h := h') (by omega) g') (Sl.bare hi1) rfl hc10 hgst hw).mono ?_
      rintro tv h3 ⟨e3, o3⟩
      have hold3 := e3.old
      replace e3 := e3.back
      have o3' : Own h' 1 (h'.back h3) tv (tabF rs sp c).length (ints (tabF rs sp c)) := by rw [tabF_len]; exact o3
      simp only [go_sem, ↓reduceIte, hold3, tl]
      generalize h'.back h3 = h4 at *
      have n4 := e3.nx
      have r4 := r'.ext e3
      have hone := o3'.one
      obtain ⟨cs, o, hcs⟩ := r4
      have rT : Own (trunc hB.next h4) 1 h4 w ((xss.take i).map (tabF rs sp)).length cs := o
      have hp := o3'.pos (by rw [tabF_len]; exact Nat.two_pow_pos _)
      obtain ⟨w', hb, g4, q0, q1, q2, q3, q4, q5, q6⟩ := app_refB (u := tv) rT (trunc_ext (by omega)) hone.2 (by simp; omega)
      have hwl : w = .sn ∨ blkV w < h'.next := by
        obtain ⟨cs', o', _⟩ := r'
        exact o'.wlt
      have rows' : RowsO hB g4 w' ((xss.take i).map (tabF rs sp) ++ [tabF rs sp c]) := RowsO.step hcs (by simpa using o.len) (o3'.mono (by omega)) (by
        rcases hwl with z | z
        · exact .inl z
        · exact .inr (.inr (by omega))) q3 q4 q5 q6
      have x4 : ExtX (· = sb) hB g4 := (x'.trans (.of e3)).tr q2
      have gsb : g4.get sb = some (.cells (srchC rs n cv w sp)) := by
        rw [q2.same sb (show sb < hB.next by omega)]
        exact e3.get (by omega) g'
      have hw1 : w'.cells = [w'] ∧ w'.oneCell = true := q3.one
      have hst := st_any0 (h := g4.bare) (k := 578) (x := w') gsb hw1.1 hw1.2 (by rw [srchC_len]; omega)
      rw [srchC_set] at hst
      have hbk := back_put (h := g4) (b := sb) (by have := x4.nx; omega)
      simp only [go_sem, ↓reduceIte, s68_5b, r68_6, tl, t2, t7, t18, t19, t20, fill1_of hone.1, q0, q1, hst, hbk, wrap_succ (show i < 1000000000 by omega)]
      refine ⟨xss.length - (i + 1), by omega, i + 1, w', rfl, hlt, rfl, x4.put (.inr rfl) _, by rw [H.get_put, if_pos rfl], ?_⟩
      rw [take_succ' hx, List.map_append]
      exact rows'.keepX (X := (· = sb)) ((ExtX.refl (· = sb) g4).put (.inr rfl) _) (fun b hb => by omega)
    · have hltI : ¬ (i : Int) < (xss.length : Int) := by omega
      simp only [go_sem, ↓reduceIte, r68_3, r68_7, tl, t2, t7, t18, t19, t20, hltI]
      rw [List.take_of_length_le (by omega)] at r'
      exact ⟨x'.ext eB (fun b hb => by omega), sb, w, rfl, hsb, ⟨by omega, g', hc', r'.ll⟩, r'.mono eB.nx⟩
  · refine ⟨0, .sn, by omega, by omega, ?_⟩
    simp only [go_sem, ↓reduceIte, List.take_zero, List.map_nil]
    exact ⟨.refl _ _, gB, .nil⟩
end Go.Air
set_option maxRecDepth 100000
namespace Go.Air
open Go.Air.Try
theorem draw53O {hA hB h : H} {oc l : Nat} {w u : V} {xss : List (List Int)} {xs : List Int} {t : List V} {Q : Out → List V → H → Prop} {L : Loop} (tl : t.length = 34) (t6 : nth t 6 = .p oc 0) (t7 : nth t 7 = u) (hoc : oc < hB.next) (hl : l < hB.next) (hlo : l ≠ oc) (hAB : hA.next ≤ oc)
    (hBh : hB.next ≤ h.next) (g : h.get oc = some (.cells [w])) (gl : h.get l = some (.loop L)) (e : Ext hA h) (r : RowsO hB h w xss) (iu : Ints h u xs) (hne : xs ≠ []) (hx : xs.length ≤ 1000000) (hn : xss.length ≤ 1000000)
    (hQ : ∀ t' w' h', Ext hA h' → hB.next ≤ h'.next → h'.get oc = some (.cells [w']) → h'.get l = some (.loop L) → (∀ b, b < hB.next → b ≠ oc → h'.get b = h.get b) → RowsO hB h' w' (xss ++ [xs]) → Q .norm t' h') :
    WD tblA r53_8 t h [] (Kcrit [(0, 2)] Q) := by
  rw [r53_8_eq]
  apply W_crit (by simp [s53_8a])
  have l6 := blk_ld (i := 0) g rfl
  simp only [go_sem, ↓reduceIte, s53_8a, tl, t6, t7, l6]
  refine (fn_Clone (h := h.bare) (Sl.bare iu) hx).mono ?_
  rintro c h1 ⟨e1, o1⟩
  have hold := e1.old
  have o1' : Own h 1 (h.back h1) c xs.length (ints xs) := o1
  replace e1 := e1.back
  have c1 := o1'.pos (by cases xs with
    | nil => exact absurd rfl hne
    | cons x l => simp)
  simp only [go_sem, ↓reduceIte, hold]
  generalize hq : h.back h1 = h2 at *
  have r2 := r.ext e1
  have hwl : w = .sn ∨ blkV w < h.next := by
    obtain ⟨cs, o, _⟩ := r
    exact o.wlt
  have hn1 := e1.nx
  have hone := o1'.one
  have hnB : hB.next ≤ h2.next := by omega
  obtain ⟨cs, o, hcs⟩ := r2
  have rT : Own (trunc hB.next h2) 1 h2 w xss.length cs := o
  obtain ⟨w', hb, g', q0, q1, q2, q3a, q4, q5, q6⟩ := app_refB (u := c) rT (trunc_ext hnB) hone.2 hn
  have q3 : RowsO hB g' w' (xss ++ [xs]) := RowsO.step hcs (by simpa using o.len) (o1'.mono hBh) (by
    rcases hwl with z | z
    · exact .inl z
    · exact .inr (.inr (by omega))) q3a q4 q5 q6
  have eA : Ext hA g' := (ext_trunc (e.trans e1) (by omega)).trans q2
  have fr : ∀ b, b < hB.next → g'.get b = h.get b := fun b hb => (q2.same b hb).trans (e1.same b (by omega))
  have goc : g'.get oc = some (.cells [w]) := (fr oc hoc).trans g
  have hw' : w'.cells = [w'] ∧ w'.oneCell = true := by
    obtain ⟨cs, o, _⟩ := q3
    exact o.one
  have hst := st_ref (h := g'.bare) goc hw'.1 hw'.2
  have hbk := back_put (h := g') (b := oc) (by omega) (.cells [w'])
  simp only [go_sem, ↓reduceIte, s53_8b, tl, t6, fill1_of hone.1, q0, q1, hst, hbk]
  refine hQ _ w' _ (eA.put hAB _) (by simp; omega) (by rw [H.get_put, if_pos rfl]) (by rw [H.get_put, if_neg hlo, fr l hl]; exact gl) (fun b hb hne => by rw [H.get_put, if_neg hne]; exact fr b hb) ?_
  exact q3.keepX (X := (· = oc)) ((ExtX.refl (· = oc) g').put (.inr rfl) _) (fun b hb => by omega)
def AbrResO (h h' : H) (xs : List Int) (k : Int) (u : V) : Prop := Ext h h' ∧ ∃ (w : V) (hR : H), u = .tup [w, .i .i64 (abreastS xs k).2] ∧ h.next ≤ hR.next ∧ RowsO hR h' w (abreastS xs k).1
theorem fn_AbreastO {h : H} {v : V} {xs : List Int} {k : Int} (hs : Arg 1 h v xs.length (ints xs)) (hn : xs.length ≤ 1000000) : WC tblA (.fn 53 [] []) [v, .i .i64 k] h fun u h' => AbrResO h h' xs k u := by
  refine (WC_in t53).2 ?_
  simp only [go_sem, ↓reduceIte, r53_0]
  refine draw53_1 (h' := h) (xs := xs) (k := k) (v := v) (by simp only [go_sem, ↓reduceIte]) (by simp only [go_sem, ↓reduceIte]) (by simp only [go_sem, ↓reduceIte]) (Ints.of hs.sl).1 hn ?_
  intro t h1 e1 tl t0 t1 t8
  by_cases c1 : ¬ Good xs ∨ k < 1 ∨ 200 < k
  · have ha : abreastS xs k = ([], 1) := by unfold abreastS; rw [if_pos c1]
    rw [decide_eq_true c1] at t8
    simp only [go_sem, ↓reduceIte, r53_2, t8, tl]
    exact ⟨e1, .sn, h1, by rw [ha], e1.nx, by rw [ha]; exact RowsO.nil⟩
  rw [decide_eq_false c1] at t8
  have s1 := hs.ext e1
  by_cases c2 : (200 : Int) < (xs.length : Int)
  · have ha : abreastS xs k = ([], 2) := by unfold abreastS; rw [if_neg c1, if_pos (by omega)]
    simp only [go_sem, ↓reduceIte, r53_3, r53_4, t0, t8, tl, Sl.len s1.sl, c2]
    exact ⟨e1, .sn, h1, by rw [ha], e1.nx, by rw [ha]; exact RowsO.nil⟩
  have hk1 : ¬ k < 1 := fun z => c1 (.inr (.inl z))
  have hk2 : ¬ 200 < k := fun z => c1 (.inr (.inr z))
  obtain ⟨q, rfl⟩ := Int.eq_ofNat_of_zero_le (a := k) (by omega)
  have ha : abreastS xs (q : Int) = (chunks xs q, 0) := by unfold abreastS; rw [if_neg c1, if_neg (by omega)]; simp
  unfold AbrResO
  rw [ha]
  simp only [go_sem, ↓reduceIte, r53_3, r53_5, t0, t1, t8, tl, Sl.len s1.sl, c2]
  have e2 : Ext h1 (h1.new (.cells [.sn])) := (Ext.refl h1).new _
  have g2 : (h1.new (.cells [.sn])).get h1.next = some (.cells [.sn]) := by rw [H.get_new, if_pos rfl]
  have n2 : (h1.new (.cells [.sn])).next = h1.next + 1 := rfl
  generalize hh2 : h1.new (.cells [.sn]) = h2 at *
  simp only [go_sem, ↓reduceIte, r53_6, t0, t1, tl]
  refine (fn_Chunk hk1).mono ?_
  rintro _ _ ⟨rfl, rfl⟩
  rw [(arg_cells s1.sl).1]
  have e3 : Ext h2 ((h2.new (.cells [v])).new (.cells [.i .i64 (q : Int)])) := ((Ext.refl h2).new _).new _
  have g31 : ((h2.new (.cells [v])).new (.cells [.i .i64 (q : Int)])).get h2.next = some (.cells [v]) := by rw [H.get_new, if_neg (by simp), H.get_new, if_pos rfl]
  have g32 : ((h2.new (.cells [v])).new (.cells [.i .i64 (q : Int)])).get (h2.next + 1) = some (.cells [.i .i64 (q : Int)]) := by rw [H.get_new, if_pos (by simp)]
  have n3 : ((h2.new (.cells [v])).new (.cells [.i .i64 (q : Int)])).next = h2.next + 2 := rfl
  simp only [go_sem, ↓reduceIte]
  generalize hh3 : (h2.new (.cells [v])).new (.cells [.i .i64 (q : Int)]) = h3 at *
  refine W_rangeN (g := 121) (a := []) (c := [.p h2.next 0, .p (h2.next + 1) 0]) (by simp only [go_sem, ↓reduceIte, tl]) ?_
  generalize hT : upd (upd (upd (upd (upd (upd (upd (upd t 21 v) 22 (V.i IntKind.i64 ↑xs.length)) 23 (V.b false)) 20 (V.b false)) 6 (V.p h1.next 0)) 24 v) 25 (V.i IntKind.i64 ↑q)) 26 (V.fn 121 [] [V.p h2.next 0, V.p (h2.next + 1) 0]) = T0
  have T0l : T0.length = 34 := by rw [← hT]; simp only [go_sem, ↓reduceIte, tl]
  have T06 : nth T0 6 = .p h1.next 0 := by rw [← hT]; simp only [go_sem, ↓reduceIte, tl]
  have gl0 : (h3.new (.loop ⟨.ready, none, T0, [27], .ops r53_7, b53_0⟩)).get h3.next = some (.loop ⟨.ready, none, T0, [27], .ops r53_7, b53_0⟩) := by rw [H.get_new, if_pos rfl]
  have e4 : Ext h3 (h3.new (.loop ⟨.ready, none, T0, [27], .ops r53_7, b53_0⟩)) := (Ext.refl h3).new _
  have n4 : (h3.new (.loop ⟨.ready, none, T0, [27], .ops r53_7, b53_0⟩)).next = h3.next + 1 := rfl
  generalize hh4 : h3.new (.loop ⟨.ready, none, T0, [27], .ops r53_7, b53_0⟩) = hB at *
  have J0 : ∀ J : Nat → H → Prop, J = (fun j h' => Ext h1 h' ∧ hB.next ≤ h'.next ∧ h'.get h3.next = some (.loop ⟨.ready, none, T0, [27], .ops r53_7, b53_0⟩) ∧ h'.get h2.next = some (.cells [v]) ∧ h'.get (h2.next + 1) = some (.cells [.i .i64 (q : Int)]) ∧
      ∃ w, h'.get h1.next = some (.cells [w]) ∧ RowsO hB h' w ((chunks xs q).take j)) → WC tblA (V.fn 121 [] [V.p h2.next 0, V.p (h2.next + 1) 0]) [V.yld h3.next] hB fun _ h' => J (rowsN xs.length q) h' := by
    intro J hJd
    refine fn_Chunk1 (k := q) (v := v) (xs := xs) J ?_ ?_ ?_ (by omega) (by omega) (by omega)
    · intro j h' hJ
      rw [hJd] at hJ
      obtain ⟨q1, q2, q3, q4, q5, q6⟩ := hJ
      exact ⟨q4, q5, s1.ext q1⟩
    · intro j u h' hJ hlt iu
      rw [hJd] at hJ
      obtain ⟨q1, q2, q3, q4, q5, w, q6, q7⟩ := hJ
      have hjR : j < rowsN xs.length q := (rows_lt (by omega)).1 hlt
      refine yld_round q3 rfl ?_
      simp only [go_sem, ↓reduceIte, r53_7, updAll, T0l]
      unfold b53_0
      simp only [go_sem, ↓reduceIte]
      have hln : h3.next ≠ h1.next := by omega
      have hch : (chunk xs q j).length = min q (xs.length - j * q) := chunk_len
      refine draw53O (hA := h1) (hB := hB) (oc := h1.next) (l := h3.next) (w := w) (u := u) (xss := (chunks xs q).take j) (xs := chunk xs q j) (by simp only [go_sem, ↓reduceIte, T0l]) (by simp only [go_sem, ↓reduceIte, T06]) (by simp only [go_sem, ↓reduceIte, T0l]) (by omega) (by omega) hln (Nat.le_refl _)
        (by simpa using q2) (by rw [H.get_put, if_neg (Ne.symm hln)]; exact q6) (by rw [H.get_put, if_pos rfl]) (q1.put (by omega) _) (q7.keepX (X := (· = h3.next)) ((ExtX.refl (· = h3.next) _).put (.inr rfl) _) (fun b hb => by omega)) (Sl.put_loop iu q3 _)
        (by intro z; rw [z] at hch; simp at hch; omega) (by omega) (by
          have : rowsN xs.length q ≤ xs.length := rows_le (by omega)
          simp [chunks]; omega) ?_
      intro t' w' h'' f1 f2 f3 f4 f5 f6
      simp only [go_sem, ↓reduceIte]
      rw [hJd]
      refine ⟨f4, f1.put (by omega) _, by simpa using f2, by rw [H.get_put, if_pos rfl]; rfl, ?_, ?_, w', ?_, ?_⟩
      · rw [H.get_put, if_neg (by omega), f5 _ (by omega) (by omega), H.get_put, if_neg (by omega)]; exact q4
      · rw [H.get_put, if_neg (by omega), f5 _ (by omega) (by omega), H.get_put, if_neg (by omega)]; exact q5
      · rw [H.get_put, if_neg (Ne.symm hln)]; exact f3
      · rw [chunks_take hjR]
        exact f6.keepX (X := (· = h3.next)) ((ExtX.refl (· = h3.next) _).put (.inr rfl) _) (fun b hb => by omega)
    · rw [hJd]
      have e34 := e3.trans e4
      exact ⟨e2.trans e34, Nat.le_refl _, gl0, (e4.same _ (by omega)).trans g31, (e4.same _ (by omega)).trans g32, .sn, (e34.same _ (by omega)).trans g2, RowsO.nil⟩
  refine (J0 _ rfl).mono ?_
  rintro _ h' ⟨q1, q2, q3, q4, q5, w, q6, q7⟩
  refine ⟨q3, ?_⟩
  rw [List.take_of_length_le (by simp [chunks])] at q7
  have hln : h3.next ≠ h1.next := by omega
  have g6 : (h'.put h3.next (.loop ⟨.over, none, T0, [27], .ops r53_7, b53_0⟩)).get h1.next = some (.cells [w]) := by rw [H.get_put, if_neg (Ne.symm hln)]; exact q6
  have l6 := blk_ld (i := 0) g6 rfl
  simp only [go_sem, ↓reduceIte, r53_9, T06, T0l, l6]
  exact ⟨e1.trans (q1.put (by omega) _), w, hB, rfl, by have := e1.nx; omega, q7.keepX (X := (· = h3.next)) ((ExtX.refl (· = h3.next) _).put (.inr rfl) _) (fun b hb => by omega)⟩
end Go.Air
set_option maxRecDepth 100000
namespace Go.Air
open Go.Air.Try
theorem setL_nodup (n : Nat) (s : Nat → Bool) : (setL n s).Nodup := by
  unfold setL
  refine List.Pairwise.map _ ?_ (List.Pairwise.filter _ List.nodup_range)
  intro a b h
  omega
theorem comps_mem {R : Nat → Nat → Bool} {n : Nat} {c : List Int} : ∀ {k : Nat} {d : Nat → Bool}, c ∈ comps R n k d → ∃ a, a < n ∧ freeG R n d a = true ∧ c = setL n (mate R n a) ∨ ∃ a d', a < n ∧ freeG R n d' a = true ∧ c = setL n (mate R n a)
  | 0, d, h => by simp [comps] at h
  | k + 1, d, h => by
    rw [comps] at h
    split at h
    · simp at h
    · rename_i a hf
      obtain ⟨ha, hfr⟩ := free_find hf
      rcases List.mem_cons.1 h with rfl | h
      · exact ⟨a, .inl ⟨ha, hfr, rfl⟩⟩
      · obtain ⟨b, q⟩ := comps_mem h
        refine ⟨b, .inr ?_⟩
        rcases q with ⟨q1, q2, q3⟩ | q
        · exact ⟨b, _, q1, q2, q3⟩
        · exact q
theorem circ_mem {N : Int} {rs : List Arw} {c : List Int} (h : c ∈ circR N rs) : ∃ n a : Nat, N = (n : Int) ∧ n ≤ 24 ∧ a < n ∧ c = setL n (mate (rch (eA rs)) n a) ∧ 2 ≤ c.length := by
  obtain ⟨h1, h2⟩ := List.mem_filter.1 h
  unfold compsR at h1
  split at h1
  · rename_i hc
    obtain ⟨n, rfl, hn, _⟩ := check_ok hc
    obtain ⟨a, q⟩ := comps_mem h1
    simp only [Int.toNat_natCast] at q
    rcases q with ⟨q1, _, q3⟩ | ⟨b, _, q1, _, q3⟩
    · exact ⟨n, a, rfl, hn, q1, q3, by simpa [big] using h2⟩
    · exact ⟨n, b, rfl, hn, q1, q3, by simpa [big] using h2⟩
  · simp at h1
theorem circ_ok {n : Nat} {rs : List Arw} (h : circE (circR (n : Int) rs) = 0) : Okc n (circR (n : Int) rs) := by
  intro c hc
  obtain ⟨n', a, hn', _, _, rfl, _⟩ := circ_mem hc
  obtain rfl : n' = n := by omega
  refine ⟨?_, setL_nodup _ _, fun y hy => ?_⟩
  · unfold circE at h
    split at h
    · omega
    · rename_i hno
      have : ¬ 10 < (setL n' (mate (rch (eA rs)) n' a)).length := fun q => hno ⟨_, hc, q⟩
      omega
  · obtain ⟨j, rfl, hj, _⟩ := setL_mem.1 hy
    exact ⟨j, rfl, hj⟩
def TBx (hA hv h : H) (v : V) (tb : List (List Int × List Int)) : Prop := ∃ cs, Own hv 2 h v tb.length cs ∧ ∀ (j : Nat) (g vals : List Int), tb[j]? = some (g, vals) → ∃ c1 c2, cs[j * 2]? = some c1 ∧ cs[j * 2 + 1]? = some c2 ∧
  Own hA 1 h c1 g.length (ints g) ∧ Own hA 1 h c2 vals.length (ints vals) ∧ (v = .sn ∨ c1 = .sn ∨ blkV c1 ≠ blkV v) ∧ (v = .sn ∨ c2 = .sn ∨ blkV c2 ≠ blkV v)
def TBo (h0 h : H) (v : V) (tb : List (List Int × List Int)) : Prop := TBx h0 h0 h v tb
def TB (h : H) (v : V) (tb : List (List Int × List Int)) : Prop := ∃ cs, Sl 2 h v tb.length cs ∧ ∀ (j : Nat) (g vals : List Int), tb[j]? = some (g, vals) → ∃ c1 c2, cs[j * 2]? = some c1 ∧ cs[j * 2 + 1]? = some c2 ∧ Ints h c1 g ∧ Ints h c2 vals
section
variable {hA hv h h' : H} {v : V} {tb : List (List Int × List Int)}
theorem TBx.nil : TBx hA hv h .sn [] := ⟨[], .nil, fun j g vals hj => by simp at hj⟩
theorem TBx.rd (r : TBx hA hv h v tb) : TB h v tb := by
  obtain ⟨cs, o, hc⟩ := r
  refine ⟨cs, o.sl, fun j g vals hj => ?_⟩
  obtain ⟨c1, c2, q1, q2, q3, q4, _⟩ := hc j g vals hj
  exact ⟨c1, c2, q1, q2, q3.ints, q4.ints⟩
theorem TB.ext (r : TB h v tb) (e : Ext h h') : TB h' v tb := by
  obtain ⟨cs, s, hc⟩ := r
  refine ⟨cs, s.ext e, fun j g vals hj => ?_⟩
  obtain ⟨c1, c2, q1, q2, q3, q4⟩ := hc j g vals hj
  exact ⟨c1, c2, q1, q2, q3.ext e, q4.ext e⟩
theorem TBx.ext (r : TBx hA hv h v tb) (e : Ext h h') : TBx hA hv h' v tb := by
  obtain ⟨cs, o, hc⟩ := r
  refine ⟨cs, o.ext e, fun j g vals hj => ?_⟩
  obtain ⟨c1, c2, q1, q2, q3, q4, q5⟩ := hc j g vals hj
  exact ⟨c1, c2, q1, q2, q3.ext e, q4.ext e, q5⟩
theorem TBx.mono {hA' hv' : H} (r : TBx hA hv h v tb) (h1 : hA'.next ≤ hA.next) (h2 : hv'.next ≤ hv.next) : TBx hA' hv' h v tb := by
  obtain ⟨cs, o, hc⟩ := r
  refine ⟨cs, o.mono h2, fun j g vals hj => ?_⟩
  obtain ⟨c1, c2, q1, q2, q3, q4, q5⟩ := hc j g vals hj
  exact ⟨c1, c2, q1, q2, q3.mono h1, q4.mono h1, q5⟩
theorem Own.keepN {esz n p : Nat} {h0 h h' : H} {v : V} {cs : List V} (o : Own h0 esz h v n cs) (x : ExtX (· = p) h h') (hv : v = .sn ∨ blkV v ≠ p) : Own h0 esz h' v n cs := by
  obtain ⟨hl, o | ⟨b, g, rfl, hg, h1, h2, hb⟩⟩ := o
  · exact ⟨hl, .inl o⟩
  · refine ⟨hl, .inr ⟨b, g, rfl, hg, h1, Nat.lt_of_lt_of_le h2 x.nx, ?_⟩⟩
    rw [x.same b h2]
    · exact hb
    · rcases hv with z | z
      · cases z
      · exact z
theorem app_twoB {h0 h : H} {w u1 u2 : V} {cs : List V} {n : Nat} (o : Own h0 2 h w n cs) (e : Ext h0 h) (hu1 : u1.oneCell = true) (hu2 : u2.oneCell = true) (hn : n ≤ 1000000) :
    ∃ w' hb g, appendV 2 48 (h.new (.cells [u1, u2])).bare w (.sl h.next 0 1 1 none) = .ok w' hb ∧ (h.new (.cells [u1, u2])).back hb = g ∧ Ext h0 g ∧ Own h0 2 g w' (n + 1) (cs ++ [u1, u2]) ∧ h.next < g.next ∧ (∀ b, b < h.next → (w = .sn ∨ b ≠ blkV w) → g.get b = h.get b) ∧ h.next < blkV w' := by
  obtain ⟨o3, x3⟩ := Own.lit (esz := 2) (Ext.refl h) [u1, u2] 1 rfl
  obtain ⟨w', hb, g, r1, r2, r3, r4, r5, r6, r7⟩ := Own.appB (bytes := 48) (o.ext x3) (e.trans x3) o3.sl (by
    intro y hy
    simp at hy
    rcases hy with rfl | rfl
    · exact hu1
    · exact hu2) (by omega) (by omega) (by omega)
  refine ⟨w', hb, g, r1, r2, r3, r4, by simp at r5; omega, fun b hb hw => ?_, by rw [r7 (by omega)]; simp⟩
  rw [r6 b (by simp; omega) hw, H.get_new, if_neg (by omega)]
theorem TBx.step {g : H} {w w' u1 u2 : V} {gs vs : List Int} {cs : List V} (hc : ∀ (j : Nat) (g vals : List Int), tb[j]? = some (g, vals) → ∃ c1 c2, cs[j * 2]? = some c1 ∧ cs[j * 2 + 1]? = some c2 ∧
      Own hA 1 h c1 g.length (ints g) ∧ Own hA 1 h c2 vals.length (ints vals) ∧ (w = .sn ∨ c1 = .sn ∨ blkV c1 ≠ blkV w) ∧ (w = .sn ∨ c2 = .sn ∨ blkV c2 ≠ blkV w))
    (hl : cs.length = tb.length * 2) (i1 : Own hA 1 h u1 gs.length (ints gs)) (i2 : Own hA 1 h u2 vs.length (ints vs)) (n1 : w = .sn ∨ u1 = .sn ∨ blkV u1 ≠ blkV w) (n2 : w = .sn ∨ u2 = .sn ∨ blkV u2 ≠ blkV w)
    (o : Own hv 2 g w' (tb.length + 1) (cs ++ [u1, u2])) (n : h.next < g.next) (k : ∀ b, b < h.next → (w = .sn ∨ b ≠ blkV w) → g.get b = h.get b) (hb : h.next < blkV w') : TBx hA hv g w' (tb ++ [(gs, vs)]) := by
  have far : ∀ {u : V} {m : Nat} {ds : List V}, Own hA 1 h u m ds → (w' = .sn ∨ u = .sn ∨ blkV u ≠ blkV w') := by
    intro u m ds q
    rcases q.wlt' with z | z
    · exact .inr (.inl z)
    · exact .inr (.inr (by omega))
  refine ⟨cs ++ [u1, u2], by simpa using o, fun j a b hj => ?_⟩
  by_cases hjl : j < tb.length
  · rw [List.getElem?_append_left hjl] at hj
    obtain ⟨c1, c2, q1, q2, q3, q4, q5, q6⟩ := hc j a b hj
    exact ⟨c1, c2, by rw [List.getElem?_append_left (by omega)]; exact q1, by rw [List.getElem?_append_left (by omega)]; exact q2, q3.keepB (Nat.le_of_lt n) k q5, q4.keepB (Nat.le_of_lt n) k q6, far q3, far q4⟩
  · have hlt := (List.getElem?_eq_some_iff.1 hj).1
    simp at hlt
    obtain rfl : j = tb.length := by omega
    rw [List.getElem?_append_right (by omega)] at hj
    simp at hj
    obtain ⟨rfl, rfl⟩ := hj
    exact ⟨u1, u2, by rw [List.getElem?_append_right (by omega), hl]; simp, by rw [List.getElem?_append_right (by omega), hl]; simp, i1.keepB (Nat.le_of_lt n) k n1, i2.keepB (Nat.le_of_lt n) k n2, far i1, far i2⟩
end
theorem RowsO.ld {h0 h : H} {w : V} {xss : List (List Int)} (r : RowsO h0 h w xss) {i : Nat} {xs : List Int} (hx : xss[i]? = some xs) : ∃ c, ixV 1 w (.i .i64 (i : Int)) = some (.p (blkV w) (offV w + i * 1)) ∧ ldV h (.p (blkV w) (offV w + i * 1)) = some c ∧ Own h0 1 h c xs.length (ints xs) := by
  obtain ⟨cs, o, hc⟩ := r
  obtain ⟨c, q1, q2, _⟩ := hc i xs hx
  have hi := (List.getElem?_eq_some_iff.1 hx).1
  exact ⟨c, o.sl.ix hi, by rw [o.sl.ld1 hi, q1], q2⟩
theorem own_ne {h0 h : H} {y z : V} {m p : Nat} {xs : List Int} {ds : List V} (o : Own h0 1 h y m (ints xs)) (g : h.get p = some (.cells (z :: ds))) (hz : ∀ k n, z ≠ .i k n) : y = .sn ∨ blkV y ≠ p := by
  obtain ⟨hl, ⟨_, rfl⟩ | ⟨b, g', rfl, hg, h1, h2, hb⟩⟩ := o
  · exact .inl rfl
  · refine .inr fun q => ?_
    have q' : b = p := q
    subst q'
    rw [g] at hb
    cases xs with
    | nil => simp [ints] at hb
    | cons x l =>
      simp [ints] at hb
      exact hz _ _ hb.1
theorem Own.noti {h0 h : H} {v : V} {esz n : Nat} {cs : List V} (o : Own h0 esz h v n cs) : ∀ k m, v ≠ .i k m := by
  obtain ⟨hl, ⟨_, rfl⟩ | ⟨b, g', rfl, _⟩⟩ := o
  · intro k m q; cases q
  · intro k m q; cases q
structure PlanS where
  order : List Int
  off : Int
  tabs : List (List Int × List Int)
def PlanO (h0 h : H) (p : V) (P : PlanS) : Prop := ∃ ov tv, p = .agg [ov, .i .i64 P.off, tv] ∧ Own h0 1 h ov P.order.length (ints P.order) ∧ TBo h0 h tv P.tabs
noncomputable def leastP (N : Int) (rs : List Arw) : PlanS :=
  if circledS N rs = 0 then ⟨firstS rs (-1) N.toNat (circR N rs), leftS rs (-1) allT (circR N rs), (circR N rs).map fun c => (c, tabF rs (-1) c)⟩ else ⟨[], 0, []⟩
theorem PlanO.none {h0 h : H} : PlanO h0 h (.agg [.sn, .i .i64 0, .sn]) ⟨[], 0, []⟩ := ⟨.sn, .sn, rfl, .nil, TBx.nil⟩
def s23_13a : List O := [⟨some 43, none, .fld 2 (.t 8)⟩, ⟨some 44, none, .ld (.t 43)⟩, ⟨some 45, none, .mov (.t 10)⟩, ⟨some 46, none, .call (.f 70) [(.t 45)]⟩, ⟨some 47, none, .mov (.t 7)⟩, ⟨some 48, none, .nilck (.t 47)⟩, ⟨some 49, none, .fld 578 (.t 48)⟩,
  ⟨some 50, none, .ld (.t 49)⟩, ⟨some 51, none, .mov (.t 9)⟩, ⟨some 52, none, .ixS 1 (.t 50) (.t 51)⟩, ⟨some 53, none, .ld (.t 52)⟩]
def s23_13b : List O := [⟨some 54, none, .build [.sn, .sn] [(0, 1, (.t 46)), (1, 1, (.t 53))]⟩, ⟨some 55, none, .buildSl [.sn, .sn] 1 [(0, 2, (.t 54))]⟩, ⟨some 56, none, .app 2 48 (.t 44) (.t 55)⟩, ⟨some 57, none, .fld 2 (.t 8)⟩, ⟨none, none, .st 1 (.t 57) (.t 56)⟩]
theorem r23_13_eq : r23_13 = s23_13a ++ s23_13b := rfl
theorem res_pair {t : List V} {h : H} {n k b m : Nat} {cs r : List V} (hn : nth t n = .p b 0) (g : h.get b = some (.cells cs)) (hc : cut cs 0 k = some r) : resultsOf t h [.cell n (some k), .tmp m] = some [.agg r, nth t m] := by
  simp [resultsOf, resultOf, hn, g, hc]
theorem t23 : tblA 23 = some a23 := by kernel_rfl
theorem fn_Least {h : H} {N : Int} {v : V} {rs : List Arw} (hr : Arrs h v rs) (hrn : rs.length ≤ 1000000) : WC tblA (.fn 23 [] []) [.agg [.i .i64 N, v]] h fun u h' => Ext h h' ∧ ∃ p, u = .tup [p, .i .i64 (circledS N rs)] ∧ PlanO h h' p (leastP N rs) := by
  refine (WC_in t23).2 ?_
  simp only [go_sem, ↓reduceIte, r23_0, H.next_new]
  have e0 : Ext h ((h.new (.cells [.i .i64 N, v])).new (.cells [.sn, .i .i64 0, .sn])) := ((Ext.refl h).new _).new _
  have g0 : ((h.new (.cells [.i .i64 N, v])).new (.cells [.sn, .i .i64 0, .sn])).get h.next = some (.cells [.i .i64 N, v]) := by rw [get_new_lt (by simp), get_new_eq rfl]
  have g2 : ((h.new (.cells [.i .i64 N, v])).new (.cells [.sn, .i .i64 0, .sn])).get (h.next + 1) = some (.cells [.sn, .i .i64 0, .sn]) := by rw [get_new_eq (by simp)]
  have n0 : ((h.new (.cells [.i .i64 N, v])).new (.cells [.sn, .i .i64 0, .sn])).next = h.next + 1 + 1 := by simp
  generalize ((h.new (.cells [.i .i64 N, v])).new (.cells [.sn, .i .i64 0, .sn])) = h0 at *
  have hr0 := hr.ext e0
  have l0 : ldnV h0 2 (.p h.next 0) = some (.agg [.i .i64 N, v]) := blk_ldn g0 rfl
  simp only [go_sem, ↓reduceIte, r23_1, l0]
  refine (fn_Check hr0 hrn).mono ?_
  rintro _ h1 ⟨e1, rfl⟩
  have n1 := e1.nx
  have g01 := e1.get (by omega) g0
  have g21 := e1.get (by omega) g2
  have stz : ∀ hh : H, hh.get (h.next + 1) = some (.cells [.sn, .i .i64 0, .sn]) → stV hh 3 (.p (h.next + 1) 0) (.agg [.sn, .i .i64 0, .sn]) = some (hh.put (h.next + 1) (.cells [.sn, .i .i64 0, .sn])) := fun hh gg => st_whole gg rfl rfl (by
    intro u hu
    simp at hu
    rcases hu with rfl | rfl | rfl <;> rfl)
  by_cases hc : checkS N rs = 0
  case neg =>
    have hcd : circledS N rs = checkS N rs := by rw [circledS, if_pos hc]
    have hlp : leastP N rs = ⟨[], 0, []⟩ := by rw [leastP, if_neg (by rw [hcd]; exact hc)]
    simp only [go_sem, ↓reduceIte, r23_2, r23_3, hc, stz h1 g21]
    rw [res_pair (k := 3) (r := [.sn, .i .i64 0, .sn]) (b := h.next + 1) (cs := [.sn, .i .i64 0, .sn]) (by simp only [go_sem, ↓reduceIte]) (by rw [H.get_put, if_pos rfl]) (cut_all rfl)]
    simp only [go_sem, ↓reduceIte]
    rw [hcd, hlp]
    exact ⟨(e0.trans e1).put (by omega) _, _, rfl, .none⟩
  obtain ⟨n, rfl, hn, gr⟩ := check_ok hc
  have hw : Wok rs := wok_of gr.1
  have hcd : circledS (n : Int) rs = circE (circR (n : Int) rs) := by rw [circledS, if_neg (by simp [hc])]
  have l1 : ldnV h1 2 (.p h.next 0) = some (.agg [.i .i64 (n : Int), v]) := blk_ldn g01 rfl
  simp only [go_sem, ↓reduceIte, r23_2, r23_4, hc, l1]
  refine (fn_circles (hr0.ext e1) hrn).mono ?_
  rintro _ h2 ⟨e2, cw, rfl, hLL⟩
  have n2 := e2.nx
  by_cases hce : circE (circR (n : Int) rs) = 0
  case neg =>
    have hlp : leastP (n : Int) rs = ⟨[], 0, []⟩ := by rw [leastP, if_neg (by rw [hcd]; exact hce)]
    simp only [go_sem, ↓reduceIte, r23_5, r23_6, hce, stz h2 (e2.get (by omega) g21)]
    rw [res_pair (k := 3) (r := [.sn, .i .i64 0, .sn]) (b := h.next + 1) (cs := [.sn, .i .i64 0, .sn]) (by simp only [go_sem, ↓reduceIte]) (by rw [H.get_put, if_pos rfl]) (cut_all rfl)]
    simp only [go_sem, ↓reduceIte]
    rw [hcd, hlp]
    exact ⟨(e0.trans (e1.trans e2)).put (by omega) _, _, rfl, .none⟩
  have hlp : leastP (n : Int) rs = ⟨firstS rs (-1) n (circR (n : Int) rs), leftS rs (-1) allT (circR (n : Int) rs), (circR (n : Int) rs).map fun c => (c, tabF rs (-1) c)⟩ := by rw [leastP, if_pos (by rw [hcd]; exact hce)]; simp
  rw [hcd, hlp]
  have ok := circ_ok hce
  have sc := hLL hce
  have hxl := (circR_len (N := (n : Int)) (rs := rs)).1
  rw [hce]
  clear hLL hlp hcd
  generalize circR (n : Int) rs = xss at *
  have g02 := e2.get (by omega) g01
  have l2 : ldnV h2 2 (.p h.next 0) = some (.agg [.i .i64 (n : Int), v]) := blk_ldn g02 rfl
  simp only [go_sem, ↓reduceIte, r23_5, r23_7, hce, l2]
  refine (fn_begin ((hr0.ext e1).ext e2) hrn gr hn sc ok hxl).mono ?_
  rintro _ h6 ⟨e6, sb, vv, rfl, hsb, s6, r6⟩
  have n6 := e6.nx
  have e06 : Ext h h6 := e0.trans (e1.trans (e2.trans e6))
  have r6' : RowsO h h6 vv (xss.map (tabF rs (-1))) := r6.mono (e0.trans (e1.trans e2)).nx
  have g26 := e6.get (by omega) (e2.get (by omega) g21)
  simp only [go_sem, ↓reduceIte, r23_8]
  have e7 : Ext h6 (h6.new (.cells [.sn, .i .i64 0, .sn])) := (Ext.refl h6).new _
  have g7 : (h6.new (.cells [.sn, .i .i64 0, .sn])).get h6.next = some (.cells [.sn, .i .i64 0, .sn]) := get_new_eq rfl
  have n7 : (h6.new (.cells [.sn, .i .i64 0, .sn])).next = h6.next + 1 := by simp
  generalize h6.new (.cells [.sn, .i .i64 0, .sn]) = h7 at *
  generalize hpb : h6.next = pb at *
  simp only [go_sem, ↓reduceIte, r23_9]
  refine (fn_first (s6.ext e7) ok hn hxl hw).mono ?_
  rintro _ h8 ⟨e8, ov, rfl, o8⟩
  have n8 := e8.nx
  have g8 := e8.get (by omega) g7
  have hov := o8.one
  have st0 := st_any0 (k := 0) (x := ov) g8 hov.1 hov.2 (by simp)
  have x9 : ExtX (· = pb) h8 (h8.put pb (.cells [ov, .i .i64 0, .sn])) := (ExtX.refl (· = pb) h8).put (.inr rfl) _
  have g9 : (h8.put pb (.cells [ov, .i .i64 0, .sn])).get pb = some (.cells [ov, .i .i64 0, .sn]) := by rw [H.get_put, if_pos rfl]
  have st0' : stV h8 1 (.p pb 0) ov = some (h8.put pb (.cells [ov, .i .i64 0, .sn])) := st0
  have st1 := st_any0 (k := 1) (x := .i .i64 (leftS rs (-1) allT xss)) g9 rfl rfl (by simp)
  have st1' : stV (h8.put pb (.cells [ov, .i .i64 0, .sn])) 1 (.p pb 1) (.i .i64 (leftS rs (-1) allT xss)) = some ((h8.put pb (.cells [ov, .i .i64 0, .sn])).put pb (.cells [ov, .i .i64 (leftS rs (-1) allT xss), .sn])) := st1
  simp only [go_sem, ↓reduceIte, st0', st1']
  have x10 : ExtX (· = pb) h8 ((h8.put pb (.cells [ov, .i .i64 0, .sn])).put pb (.cells [ov, .i .i64 (leftS rs (-1) allT xss), .sn])) := x9.put (.inr rfl) _
  have g10 : ((h8.put pb (.cells [ov, .i .i64 0, .sn])).put pb (.cells [ov, .i .i64 (leftS rs (-1) allT xss), .sn])).get pb = some (.cells [ov, .i .i64 (leftS rs (-1) allT xss), .sn]) := by rw [H.get_put, if_pos rfl]
  clear st0 st0' st1 st1' x9 g9
  generalize (h8.put pb (.cells [ov, .i .i64 0, .sn])).put pb (.cells [ov, .i .i64 (leftS rs (-1) allT xss), .sn]) = hP at *
  have eP : Ext h6 hP := x10.ext (e7.trans e8) (fun b hb => by omega)
  have nP := x10.nx
  have oP : Own h7 1 hP ov (firstS rs (-1) n xss).length (ints (firstS rs (-1) n xss)) := o8.keepX x10 (fun b hb => by omega)
  have scP := (sc.ext e6).ext eP
  generalize firstS rs (-1) n xss = F at *
  generalize leftS rs (-1) allT xss = least at *
  simp only [go_sem, ↓reduceIte, r23_10, scP.len]
  refine W_while (fun k t h' => ∃ (i : Nat) (w : V), k = xss.length - i ∧ i ≤ xss.length ∧ t.length = 60 ∧ nth t 2 = .p (h.next + 1) 0 ∧ nth t 7 = .p sb 0 ∧ nth t 8 = .p pb 0 ∧ nth t 36 = cw ∧ nth t 37 = .i .i64 (xss.length : Int) ∧ nth t 38 = .i .i64 (i : Int) ∧ Ext h6 h' ∧ ExtX (· = pb) hP h' ∧
      h'.get pb = some (.cells [ov, .i .i64 least, w]) ∧ TBx h hP h' w ((xss.take i).map fun c => (c, tabF rs (-1) c))) ?_ xss.length ?_
  · rintro k t h' ⟨i, w, rfl, hi, tl, t2, t7, t8, t36, t37, t38, e', x', g', r'⟩
    unfold b23_0
    have nx' := x'.nx
    have nx2 := e'.nx
    have sc' := (sc.ext e6).ext e'
    have s' := s6.ext e'
    have rv := r6'.ext e'
    by_cases hlt : i < xss.length
    · have hltI : (i : Int) < (xss.length : Int) := by omega
      obtain ⟨c, hx⟩ : ∃ c, xss[i]? = some c := ⟨_, List.getElem?_eq_getElem hlt⟩
      obtain ⟨hc10, _, _⟩ := ok c (List.mem_of_getElem? hx)
      obtain ⟨u, hl, hi1⟩ := sc'.ld hx
      have hvx : (xss.map (tabF rs (-1)))[i]? = some (tabF rs (-1) c) := by rw [List.getElem?_map, hx]; rfl
      simp only [go_sem, ↓reduceIte, r23_11, r23_12, tl, t2, t7, t8, t36, t37, t38, hltI, sc'.ix hlt, hl]
      rw [r23_13_eq]
      apply W_crit (by simp [s23_13a])
      have lw : ldV h' (.p pb 2) = some w := blk_ld g' rfl
      simp only [go_sem, ↓reduceIte, s23_13a, tl, t2, t7, t8, t36, t37, t38, lw]
      refine (fn_Clone (h := h'.bare) (Sl.bare hi1) (by omega)).mono ?_
      rintro c1 h3 ⟨e3, o3⟩
      have hold3 := e3.old
      replace e3 := e3.back
      have o3' : Own h' 1 (h'.back h3) c1 c.length (ints c) := o3
      have s3 := s'.ext e3
      have rv3 := rv.ext e3
      obtain ⟨c2, ixv, lv, o2⟩ := rv3.ld hvx
      simp only [go_sem, ↓reduceIte, hold3, tl, t7, s3.lvv, ixv, lv]
      have hTB : TBx h hP (h'.back h3) w ((xss.take i).map fun c => (c, tabF rs (-1) c)) := r'.ext e3
      have gpb := e3.get (by omega) g'
      generalize h'.back h3 = h4 at *
      have n4 := e3.nx
      have hone1 := o3'.one
      have hone2 := o2.one
      obtain ⟨cs, o, hcs⟩ := hTB
      have rT : Own (trunc hP.next h4) 2 h4 w ((xss.take i).map fun c => (c, tabF rs (-1) c)).length cs := o
      obtain ⟨w', hb, g4, q0, q1, q2, q3, q4, q5, q6⟩ := app_twoB (u1 := c1) (u2 := c2) rT (trunc_ext (by omega)) hone1.2 hone2.2 (by simp; omega)
      have hwl : w = .sn ∨ (hP.next ≤ blkV w ∧ blkV w < h'.next) := by
        obtain ⟨cs', o', _⟩ := r'
        exact o'.wlt'
      obtain ⟨cs6, o6, hcs6⟩ := r6'
      obtain ⟨c2', z1, z2, _⟩ := hcs6 i _ hvx
      have hc2eq : c2' = c2 := by
        have y1 := (o6.ext (e'.trans e3)).sl.ld1 (show i < (xss.map (tabF rs (-1))).length by simpa using hlt)
        rw [lv, z1] at y1
        cases y1; rfl
      subst hc2eq
      have hc2l : c2' = .sn ∨ blkV c2' < pb := by
        rcases z2.wlt' with z | z
        · exact .inl z
        · exact .inr (by omega)
      have tb' : TBx h hP g4 w' (((xss.take i).map fun c => (c, tabF rs (-1) c)) ++ [(c, tabF rs (-1) c)]) := TBx.step hcs (by simpa using o.len) (o3'.mono (by have := e06.nx; omega)) o2 (by
          rcases hwl with z | z
          · exact .inl z
          · rcases o3'.wlt' with y | y
            · exact .inr (.inl y)
            · exact .inr (.inr (by omega))) (by
          rcases hwl with z | z
          · exact .inl z
          · rcases hc2l with y | y
            · exact .inr (.inl y)
            · exact .inr (.inr (by omega))) q3 q4 q5 q6
      have x4 : ExtX (· = pb) hP g4 := (x'.trans (.of e3)).tr q2
      have gpb4 : g4.get pb = some (.cells [ov, .i .i64 least, w]) := by
        rw [q2.same pb (show pb < hP.next by omega)]
        exact gpb
      have hw1 : w'.cells = [w'] ∧ w'.oneCell = true := q3.one
      have hst := st_any0 (h := g4.bare) (k := 2) (x := w') gpb4 hw1.1 hw1.2 (by simp)
      have hst' : stV g4.bare 1 (.p pb 2) w' = some (g4.bare.put pb (.cells [ov, .i .i64 least, w'])) := hst
      have hbk := back_put (h := g4) (b := pb) (by have := x4.nx; omega)
      have e6g : Ext h6 g4 := x4.ext eP (fun b hb => by omega)
      simp only [go_sem, ↓reduceIte, s23_13b, r23_14, tl, t2, t7, t8, t36, t37, t38, fill2_of hone1.1 hone2.1, q0, q1, hst', hbk, wrap_succ (show i < 1000000000 by omega)]
      refine ⟨xss.length - (i + 1), by omega, i + 1, w', rfl, hlt, rfl, e6g.put (by omega) _, x4.put (.inr rfl) _, by rw [H.get_put, if_pos rfl], ?_⟩
      rw [take_succ' hx, List.map_append]
      have xp : ExtX (· = pb) g4 (g4.put pb (.cells [ov, .i .i64 least, w'])) := (ExtX.refl (· = pb) g4).put (.inr rfl) _
      obtain ⟨ds, d1, d2⟩ := tb'
      have d1l : w' = .sn ∨ blkV w' ≠ pb := by
        rcases d1.wlt' with z | z
        · exact .inl z
        · exact .inr (by omega)
      refine ⟨ds, d1.keepN xp d1l, fun j a b hj => ?_⟩
      obtain ⟨y1, y2, p1, p2, p3, p4, p5, p6⟩ := d2 j a b hj
      have key1 := own_ne p3 gpb4 oP.noti
      have key2 := own_ne p4 gpb4 oP.noti
      exact ⟨y1, y2, p1, p2, p3.keepN xp key1, p4.keepN xp key2, p5, p6⟩
    · have hltI : ¬ (i : Int) < (xss.length : Int) := by omega
      rw [List.take_of_length_le (by omega)] at r'
      have l8 : ldnV h' 3 (.p pb 0) = some (.agg [ov, .i .i64 least, w]) := blk_ldn g' rfl
      have g2' := e'.get (by omega) g26
      have how : w.cells = [w] ∧ w.oneCell = true := by
        obtain ⟨cs, o, _⟩ := r'
        exact o.one
      have stA := st_whole (k := 3) (c := [ov, .i .i64 least, w]) g2' rfl rfl (by
        intro u hu
        simp at hu
        rcases hu with rfl | rfl | rfl
        · exact hov.2
        · rfl
        · exact how.2)
      simp only [go_sem, ↓reduceIte, r23_11, r23_15, tl, t2, t7, t8, t36, t37, t38, hltI, l8, stA]
      rw [res_pair (k := 3) (r := [ov, .i .i64 least, w]) (b := h.next + 1) (cs := [ov, .i .i64 least, w]) (by simp only [go_sem, ↓reduceIte, tl, t2]) (by rw [H.get_put, if_pos rfl]) (cut_all rfl)]
      simp only [go_sem, ↓reduceIte, tl]
      have xf : ExtX (· = h.next + 1) h' (h'.put (h.next + 1) (.cells [ov, .i .i64 least, w])) := (ExtX.refl (· = h.next + 1) h').put (.inr rfl) _
      have o1 : Own h7 1 h' ov F.length (ints F) := oP.keepX x' (fun b hb => by omega)
      have hne : ∀ k n, (V.sn) ≠ .i k n := fun k n q => by cases q
      obtain ⟨ds, d1, d2⟩ := r'
      have d1l : w = .sn ∨ blkV w ≠ h.next + 1 := by
        rcases d1.wlt' with z | z
        · exact .inl z
        · exact .inr (by omega)
      refine ⟨(e06.trans e').put (by omega) _, _, rfl, ov, w, rfl, (o1.keepN xf (own_ne o1 g2' hne)).mono (by have := e06.nx; omega), ds, (d1.keepN xf d1l).mono (by have := e06.nx; omega), fun j a b hj => ?_⟩
      obtain ⟨y1, y2, p1, p2, p3, p4, p5, p6⟩ := d2 j a b hj
      exact ⟨y1, y2, p1, p2, p3.keepN xf (own_ne p3 g2' hne), p4.keepN xf (own_ne p4 g2' hne), p5, p6⟩
  · refine ⟨0, .sn, by omega, by omega, ?_⟩
    simp only [go_sem, ↓reduceIte, List.take_zero, List.map_nil]
    exact ⟨eP, .refl _ _, g10, .nil⟩
end Go.Air
set_option maxRecDepth 100000
namespace Go.Air
open Go.Air.Try
theorem t21 : tblA 21 = some a21 := by kernel_rfl
theorem fn_Few {h : H} {N k : Int} {v : V} {rs : List Arw} (hr : Arrs h v rs) (h0 : 0 ≤ k) (h1 : k ≤ 100) : WC tblA (.fn 21 [] []) [.agg [.i .i64 N, v], .i .i64 k] h fun u h' => Ext h h' ∧ u = .b (decide (N ≤ k ∧ (rs.length : Int) ≤ 2 * k * k)) := by
  refine (WC_in t21).2 ?_
  obtain ⟨e0, g0⟩ := rel_blk h N v
  simp only [go_sem, ↓reduceIte, r21_0]
  have hr0 := hr.ext e0
  generalize hh : h.new (.cells [.i .i64 N, v]) = hB at *
  have l0 : ldV hB (.p h.next 0) = some (.i .i64 N) := blk_ld g0 rfl
  have l1 : ldV hB (.p h.next 1) = some v := blk_ld g0 rfl
  have hb : k * k ≤ 100 * 100 := Int.mul_le_mul h1 h1 h0 (by omega)
  have hb0 : 0 ≤ k * k := Int.mul_nonneg h0 h0
  have w1 : IntKind.i64.wrap (2 * k) = 2 * k := wrap_in (by omega) (by omega)
  have w2 : IntKind.i64.wrap (2 * k * k) = 2 * k * k := by rw [Int.mul_assoc]; exact wrap_in (by omega) (by omega)
  by_cases c1 : N ≤ k
  · by_cases c2 : (rs.length : Int) ≤ 2 * k * k
    · simp only [go_sem, ↓reduceIte, r21_1, l0, l1, hr0.len, w1, w2, c1, c2]
      exact e0
    · simp only [go_sem, ↓reduceIte, r21_1, l0, l1, hr0.len, w1, w2, c1, c2]
      exact e0
  · simp only [go_sem, ↓reduceIte, r21_1, l0, l1, hr0.len, w1, w2, c1]
    exact ⟨e0, by simp⟩
theorem circled_ok {N : Int} {rs : List Arw} (h : circledS N rs = 0) : checkS N rs = 0 ∧ circE (circR N rs) = 0 := by
  unfold circledS at h
  split at h
  · rename_i hc; exact absurd h hc
  · rename_i hc; exact ⟨Classical.not_not.1 hc, h⟩
end Go.Air
set_option maxRecDepth 100000
namespace Go.Air
def tv (rs : List Arw) (sp : Int) (c : List Int) (s : Nat) : Int := (tabF rs sp c).getD s 0
end Go.Air
set_option maxRecDepth 100000
namespace Go.Air
structure CInv (R : Nat → Nat → Bool) (n : Nat) (d : Nat → Bool) (l : List (List Int)) : Prop where
  mem : ∀ x : Int, (∃ C ∈ l, x ∈ C) ↔ ∃ a : Nat, x = (a : Int) ∧ a < n ∧ d a = false
  nd : ∀ C ∈ l, C.Nodup
  one : ∀ C ∈ l, ∃ a : Nat, a < n ∧ C = setL n (mate R n a)
  ord : l.Pairwise fun C C' => ∀ a b : Nat, (a : Int) ∈ C → (b : Int) ∈ C' → a ≠ b ∧ R b a = false
def Whole (R : Nat → Nat → Bool) (n : Nat) (d : Nat → Bool) : Prop := ∀ a b, a < n → b < n → R a b = true → R b a = true → d a = true → d b = true
end Go.Air
set_option maxRecDepth 100000
namespace Go.Air
structure GoodC (n : Nat) (rs : List Arw) : Prop where
  n24 : n ≤ 24
  gr : GoodR (n : Int) rs
  ck : checkS (n : Int) rs = 0
  ce : circE (circR (n : Int) rs) = 0
theorem goodC_of {N : Int} {rs : List Arw} (h : circledS N rs = 0) : ∃ n : Nat, N = (n : Int) ∧ GoodC n rs := by
  obtain ⟨h1, h2⟩ := circled_ok h
  obtain ⟨n, rfl, hn, gr⟩ := check_ok h1
  exact ⟨n, rfl, hn, gr, h1, h2⟩
theorem GoodC.comps {n : Nat} {rs : List Arw} (g : GoodC n rs) : circR (n : Int) rs = (comps (rch (eA rs)) n n noneD).filter big := by
  unfold circR compsR
  rw [if_pos g.ck]; simp
end Go.Air
set_option maxRecDepth 100000
namespace Go.Air
def badR (xs : List Int) (r : Arw) : Prop := r.f ∈ xs ∧ r.t ∈ xs ∧ posN r.t xs < posN r.f xs
instance (xs : List Int) (r : Arw) : Decidable (badR xs r) := by unfold badR; infer_instance
end Go.Air
set_option maxRecDepth 100000
namespace Go.Air
structure FR where
  some : Bool
  off : Int
  ord : List Int
end Go.Air
set_option maxRecDepth 100000
namespace Go.Air
open Go.Air.Try
def FRo (h : H) (v : V) (F : FR) : Prop := ∃ (h0 : H) (w : V), v = .agg [.b F.some, .i .i64 F.off, w] ∧ Own h0 1 h w F.ord.length (ints F.ord)
theorem FRo.ext {h h' : H} {v : V} {F : FR} (r : FRo h v F) (e : Ext h h') : FRo h' v F := by
  obtain ⟨h0, w, q, o⟩ := r
  exact ⟨h0, w, q, o.ext e⟩
theorem FRo.bare {h : H} {v : V} {F : FR} (r : FRo h v F) : FRo h.bare v F := r
theorem ints_blk {h : H} {v : V} {xs : List Int} {i : Nat} (hs : Ints h v xs) (hi : i < xs.length) : blkV v < h.next := by
  rcases hs with ⟨h1, h2, _⟩ | ⟨b, off, cap, g, bl, rfl, hb, _⟩
  · omega
  · exact hb
end Go.Air
set_option maxRecDepth 100000
namespace Go.Air
open Go.Air.Try
def PlanR (h : H) (p : V) (P : PlanS) : Prop := ∃ ov tv, p = .agg [ov, .i .i64 P.off, tv] ∧ Ints h ov P.order ∧ TB h tv P.tabs
theorem PlanR.ext {h h' : H} {p : V} {P : PlanS} (r : PlanR h p P) (e : Ext h h') : PlanR h' p P := by
  obtain ⟨ov, tv, q, o, t⟩ := r
  exact ⟨ov, tv, q, o.ext e, t.ext e⟩
theorem PlanO.rd {h0 h : H} {p : V} {P : PlanS} (r : PlanO h0 h p P) : PlanR h p P := by
  obtain ⟨ov, tv, q, o, t⟩ := r
  exact ⟨ov, tv, q, o.ints, TBx.rd t⟩
theorem TB.len {h : H} {v : V} {tb : List (List Int × List Int)} (r : TB h v tb) : lenV v = some tb.length := let ⟨_, s, _⟩ := r; s.len
theorem TB.ix {h : H} {v : V} {tb : List (List Int × List Int)} (r : TB h v tb) {i : Nat} (hi : i < tb.length) : ixV 2 v (.i .i64 (i : Int)) = some (.p (blkV v) (offV v + i * 2)) := let ⟨_, s, _⟩ := r; s.ix hi
theorem TB.one {h : H} {v : V} {tb : List (List Int × List Int)} (r : TB h v tb) : v.cells = [v] ∧ v.oneCell = true := by
  obtain ⟨cs, s, _⟩ := r
  rcases s with ⟨_, _, rfl | ⟨a, rfl⟩⟩ | ⟨b, off, cap, g, bl, rfl, _⟩ <;> exact ⟨rfl, rfl⟩
theorem TB.at {h : H} {v : V} {tb : List (List Int × List Int)} (r : TB h v tb) {i : Nat} {g vals : List Int} (hx : tb[i]? = some (g, vals)) : ∃ c1 c2, ldnV h 2 (.p (blkV v) (offV v + i * 2)) = some (.agg [c1, c2]) ∧ ldV h (.p (blkV v) (offV v + i * 2 + 1)) = some c2 ∧ Ints h c1 g ∧ Ints h c2 vals := by
  obtain ⟨cs, s, hc⟩ := r
  obtain ⟨c1, c2, q1, q2, q3, q4⟩ := hc i g vals hx
  have hi := (List.getElem?_eq_some_iff.1 hx).1
  refine ⟨c1, c2, ?_, by rw [s.ld hi (by omega), q2], q3, q4⟩
  rw [s.ldn hi]
  congr 2
  have hl := s.length
  apply List.ext_getElem?
  intro k
  by_cases hk : k < 2
  · rw [List.getElem?_take_of_lt hk, List.getElem?_drop]
    rcases Nat.lt_or_ge k 1 with z | z
    · obtain rfl : k = 0 := by omega
      simpa using q1
    · obtain rfl : k = 1 := by omega
      simpa using q2
  · rw [List.getElem?_eq_none (by simp; omega), List.getElem?_eq_none (by simp; omega)]
end Go.Air
set_option maxRecDepth 100000
namespace Go.Air
open Go.Air.Try
def fill23 (z x y : V) : Option (List V) := if Nat.beq x.cells.length 1 && Nat.beq y.cells.length 1 then some (x.cells ++ y.cells ++ [z]) else none
@[go_sem] theorem fill_23 {t : List V} {z0 z1 z2 : V} {x y : X} : fill t [z0, z1, z2] [(0, 1, x), (1, 1, y)] = fill23 z2 (x.ev t) (y.ev t) := by
  simp only [fill, fill23]
  by_cases hl : Nat.beq (x.ev t).cells.length 1 = true
  · rw [if_pos hl]
    obtain ⟨u, hc⟩ : ∃ u, (x.ev t).cells = [u] := by
      rw [Nat.beq_eq] at hl
      exact List.length_eq_one_iff.1 hl
    simp only [hc, lay, Option.map_some]
    by_cases hl2 : Nat.beq (y.ev t).cells.length 1 = true
    · obtain ⟨u2, hc2⟩ : ∃ u, (y.ev t).cells = [u] := by
        rw [Nat.beq_eq] at hl2
        exact List.length_eq_one_iff.1 hl2
      simp [hc2, lay]
    · simp [hl2]
  · simp [hl]
theorem TB.at2 {h : H} {v : V} {tb : List (List Int × List Int)} (r : TB h v tb) {i : Nat} {g vals : List Int} (hx : tb[i]? = some (g, vals)) : ∃ c1 c2, ldV h (.p (blkV v) (offV v + i * 2 + 0)) = some c1 ∧ ldV h (.p (blkV v) (offV v + i * 2 + 1)) = some c2 ∧ Ints h c1 g ∧ Ints h c2 vals := by
  obtain ⟨cs, s, hc⟩ := r
  obtain ⟨c1, c2, q1, q2, q3, q4⟩ := hc i g vals hx
  have hi := (List.getElem?_eq_some_iff.1 hx).1
  have z := s.ld (k := 0) hi (by omega)
  exact ⟨c1, c2, by rw [z]; exact q1, by rw [s.ld hi (by omega), q2], q3, q4⟩
theorem t25 : tblA 25 = some a25 := by kernel_rfl
theorem fn_SamePlan {h : H} {p q : V} {P : PlanS} (hp : PlanR h p P) (hq : PlanR h q P) (ho : P.order.length ≤ 1000000) (ht : P.tabs.length ≤ 1000000) (hb : ∀ x ∈ P.tabs, x.1.length ≤ 1000000 ∧ x.2.length ≤ 1000000) :
    WC tblA (.fn 25 [] []) [p, q] h fun u h' => Ext h h' ∧ u = .b true := by
  refine (WC_in t25).2 ?_
  obtain ⟨ov, tv, rfl, hov, htv⟩ := hp
  obtain ⟨ow, tw, rfl, how, htw⟩ := hq
  simp only [go_sem, ↓reduceIte, r25_0, H.next_new]
  have e0 : Ext h ((h.new (.cells [ov, .i .i64 P.off, tv])).new (.cells [ow, .i .i64 P.off, tw])) := ((Ext.refl h).new _).new _
  have g0 : ((h.new (.cells [ov, .i .i64 P.off, tv])).new (.cells [ow, .i .i64 P.off, tw])).get h.next = some (.cells [ov, .i .i64 P.off, tv]) := by rw [get_new_lt (by simp), get_new_eq rfl]
  have g1 : ((h.new (.cells [ov, .i .i64 P.off, tv])).new (.cells [ow, .i .i64 P.off, tw])).get (h.next + 1) = some (.cells [ow, .i .i64 P.off, tw]) := by rw [get_new_eq (by simp)]
  generalize ((h.new (.cells [ov, .i .i64 P.off, tv])).new (.cells [ow, .i .i64 P.off, tw])) = hB at *
  have a0 : ldV hB (.p h.next 0) = some ov := blk_ld g0 rfl
  have a1 : ldV hB (.p h.next 1) = some (.i .i64 P.off) := blk_ld g0 rfl
  have a2 : ldV hB (.p h.next 2) = some tv := blk_ld g0 rfl
  have b0 : ldV hB (.p (h.next + 1) 0) = some ow := blk_ld g1 rfl
  have b1 : ldV hB (.p (h.next + 1) 1) = some (.i .i64 P.off) := blk_ld g1 rfl
  have b2 : ldV hB (.p (h.next + 1) 2) = some tw := blk_ld g1 rfl
  have htv' := htv.ext e0
  have htw' := htw.ext e0
  simp only [go_sem, ↓reduceIte, r25_1, a0, b0]
  refine (fn_SameInts (hov.ext e0) (how.ext e0) ho).mono ?_
  rintro _ h' ⟨rfl, hh⟩
  obtain rfl : hB = h' := hh.symm
  clear hh
  simp only [go_sem, ↓reduceIte, r25_2, r25_4, a1, a2, b1, b2, htv'.len, htw'.len]
  refine W_while (fun k t h' => ∃ (i : Nat), k = P.tabs.length - i ∧ i ≤ P.tabs.length ∧ t.length = 71 ∧ nth t 2 = .p h.next 0 ∧ nth t 3 = .p (h.next + 1) 0 ∧ nth t 6 = .i .i64 (i : Int) ∧ hB = h') ?_ P.tabs.length ?_
  · rintro k t _ ⟨i, rfl, hi, tl, t2, t3, t6, rfl⟩
    unfold b25_0
    by_cases hlt : i < P.tabs.length
    · have hltI : (i : Int) < (P.tabs.length : Int) := by omega
      obtain ⟨⟨g, vals⟩, hx⟩ : ∃ c, P.tabs[i]? = some c := ⟨_, List.getElem?_eq_getElem hlt⟩
      obtain ⟨hl1, hl2⟩ := hb _ (List.mem_of_getElem? hx)
      obtain ⟨c1, c2, q1, q2, q3, q4⟩ := htv'.at2 hx
      obtain ⟨d1, d2, z1, z2, z3, z4⟩ := htw'.at2 hx
      simp only [go_sem, ↓reduceIte, r25_5, r25_7, tl, t2, t3, t6, a2, b2, htv'.len, hltI, htv'.ix hlt, htw'.ix hlt, q1, z1]
      refine (fn_SameInts (h := hB.bare) (Sl.bare q3) (Sl.bare z3) hl1).mono ?_
      rintro _ _ ⟨rfl, rfl⟩
      simp only [go_sem, ↓reduceIte, r25_8, tl, t2, t3, t6, a2, b2, htv'.ix hlt, htw'.ix hlt, q2, z2]
      refine (fn_SameInts (h := hB.bare) (Sl.bare q4) (Sl.bare z4) hl2).mono ?_
      rintro _ _ ⟨rfl, rfl⟩
      simp only [go_sem, ↓reduceIte, r25_9, r25_6, tl, t2, t3, t6, wrap_succ (show i < 1000000000 by omega)]
      exact ⟨P.tabs.length - (i + 1), by omega, i + 1, rfl, hlt, rfl⟩
    · have hltI : ¬ (i : Int) < (P.tabs.length : Int) := by omega
      simp only [go_sem, ↓reduceIte, r25_5, r25_11, tl, t2, t3, t6, a2, htv'.len, hltI]
      exact e0
  · refine ⟨0, by omega, by omega, ?_⟩
    simp only [go_sem, ↓reduceIte]
theorem leastP_small (N : Int) (rs : List Arw) : (leastP N rs).order.length ≤ 1000000 ∧ (leastP N rs).tabs.length ≤ 1000000 ∧ ∀ x ∈ (leastP N rs).tabs, x.1.length ≤ 1000000 ∧ x.2.length ≤ 1000000 := by
  unfold leastP
  split
  · rename_i hc
    obtain ⟨n, rfl, gc⟩ := goodC_of hc
    have hn := gc.n24
    have hok := circ_ok gc.ce
    have hxl := (circR_len (N := (n : Int)) (rs := rs)).1
    refine ⟨?_, ?_, ?_⟩
    · have := firstK_len (rs := rs) (sp := -1) (n := n) (xss := circR (n : Int) rs) n allT (leftS rs (-1) allT (circR (n : Int) rs))
      have e : firstS rs (-1) (Int.toNat (n : Int)) (circR (n : Int) rs) = firstK rs (-1) n (circR (n : Int) rs) n allT (leftS rs (-1) allT (circR (n : Int) rs)) := by simp [firstS]
      show (firstS rs (-1) (Int.toNat (n : Int)) (circR (n : Int) rs)).length ≤ 1000000
      rw [e]; omega
    · show ((circR (n : Int) rs).map _).length ≤ 1000000
      rw [List.length_map]; omega
    · intro x hx
      obtain ⟨c, hc', rfl⟩ := List.mem_map.1 hx
      have h10 := (hok c hc').1
      have := Nat.pow_le_pow_right (n := 2) (by omega) h10
      exact ⟨by show c.length ≤ 1000000; omega, by show (tabF rs (-1) c).length ≤ 1000000; rw [tabF_len]; omega⟩
  · exact ⟨by simp, by simp, fun x hx => by simp at hx⟩
end Go.Air
set_option maxRecDepth 100000
namespace Go.Air
open Go.Air.Try
theorem st_planO {h : H} {p : V} {P : PlanS} (hp : PlanR h p P) : ∃ ov tv h2, p = .agg [ov, .i .i64 P.off, tv] ∧ stV (h.new (.cells [.sn, .i .i64 0, .sn])) 3 (.p h.next 0) (.agg [ov, .i .i64 P.off, tv]) = some h2 ∧ Ext h h2 ∧ h2.get h.next = some (.cells [ov, .i .i64 P.off, tv]) ∧ h2.next = h.next + 1 := by
  obtain ⟨ov, tv, rfl, hov, htv⟩ := hp
  have h1 := htv.one
  have h2 := hov.one
  obtain ⟨h7, p1, p2, p3, p4⟩ := st_newK h [.sn, .i .i64 0, .sn] [ov, .i .i64 P.off, tv] rfl (by
    intro u hu
    simp at hu
    rcases hu with rfl | rfl | rfl
    · exact h2.2
    · rfl
    · exact h1.2)
  exact ⟨ov, tv, h7, rfl, p1, p2, p3, p4⟩
theorem t28 : tblA 28 = some a28 := by kernel_rfl
end Go.Air
set_option maxRecDepth 100000
namespace Go.Air
def Wl (h0 h : H) (v : V) (n : Nat) : Prop := ∃ xs : List Int, xs.length = n ∧ Ints h v xs ∧ (n = 0 ∨ (h0.next ≤ blkV v ∧ ∃ cs, h.get (blkV v) = some (.cells cs)))
theorem Wl.ext {h0 h h' : H} {v : V} {n : Nat} (w : Wl h0 h v n) (e : Ext h h') : Wl h0 h' v n := by
  obtain ⟨xs, q1, q2, q3⟩ := w
  refine ⟨xs, q1, q2.ext e, ?_⟩
  by_cases hz : n = 0
  · exact .inl hz
  · rcases q3 with z | ⟨z1, cs, z2⟩
    · exact .inl z
    · exact .inr ⟨z1, cs, e.get (ints_blk q2 (i := 0) (by omega)) z2⟩
theorem Wl.len {h0 h : H} {v : V} {n : Nat} (w : Wl h0 h v n) : lenV v = some n := by
  obtain ⟨xs, rfl, q2, _⟩ := w
  exact q2.len
theorem Wl.ix {h0 h : H} {v : V} {n i : Nat} (w : Wl h0 h v n) (hi : i < n) : ixV 1 v (.i .i64 (i : Int)) = some (.p (blkV v) (offV v + i * 1)) := by
  obtain ⟨xs, rfl, q2, _⟩ := w
  exact q2.ix hi
theorem Wl.sn {h0 h : H} : Wl h0 h .sn 0 := ⟨[], rfl, .inl ⟨rfl, rfl, .inl rfl⟩, .inl rfl⟩
theorem Wl.own {h0 hA h : H} {v : V} {xs : List Int} (o : Own hA 1 h v xs.length (ints xs)) (hn : h0.next ≤ hA.next) : Wl h0 h v xs.length := by
  refine ⟨xs, rfl, o.ints, ?_⟩
  rcases Nat.eq_zero_or_pos xs.length with z | z
  · exact .inl z
  · have h1 := (o.pos z).2.1
    obtain ⟨hl, ⟨hz, _⟩ | ⟨b, g, rfl, _, _, _, hb⟩⟩ := o
    · omega
    · exact .inr ⟨Nat.le_trans hn h1, _, hb⟩
theorem Wl.ge {h0 h : H} {v : V} {n : Nat} (w : Wl h0 h v n) (hn : n ≠ 0) : h0.next ≤ blkV v := by
  obtain ⟨xs, _, _, z | z⟩ := w
  · exact absurd z hn
  · exact z.1
theorem Wl.lt {h0 h : H} {v : V} {n : Nat} (w : Wl h0 h v n) (hn : n ≠ 0) : blkV v < h.next := by
  obtain ⟨xs, rfl, q, _⟩ := w
  exact ints_blk q (i := 0) (by omega)
structure Wr (h h' : H) (b : Nat) : Prop where
  nx : h'.next = h.next
  ext : ∀ h0, h0.next ≤ b → Ext h0 h → Ext h0 h'
  keep : ∀ c, c ≠ b → h'.get c = h.get c
  wl : ∀ h0 u m, Wl h0 h u m → Wl h0 h' u m
theorem Wr.refl (h : H) (b : Nat) : Wr h h b := ⟨rfl, fun _ _ e => e, fun _ _ => rfl, fun _ _ _ w => w⟩
theorem Wr.trans {h h1 h2 : H} {b : Nat} (x : Wr h h1 b) (y : Wr h1 h2 b) : Wr h h2 b :=
  ⟨y.nx.trans x.nx, fun h0 hb e => y.ext h0 hb (x.ext h0 hb e), fun c hc => (y.keep c hc).trans (x.keep c hc), fun h0 u m w => y.wl h0 u m (x.wl h0 u m w)⟩
theorem ints_or {cs : List V} {a n j : Nat} {x : Int} {xs : List Int} (hc : cut cs a n = some (ints xs)) : ∃ ys : List Int, ys.length = xs.length ∧ cut (cs.set j (.i .i64 x)) a n = some (ints ys) := by
  obtain ⟨h1, h2⟩ := cut_eq.1 hc
  have hl : xs.length = n := by
    have := congrArg List.length h2
    simp [ints] at this
    omega
  by_cases hj : a ≤ j ∧ j < a + n
  · refine ⟨xs.set (j - a) x, by simp, cut_eq.2 ⟨by simpa using h1, ?_⟩⟩
    rw [← ints_set, h2]
    apply List.ext_getElem?
    intro i
    by_cases hi : i < n
    · rw [List.getElem?_take_of_lt hi, List.getElem?_drop, List.getElem?_set, List.getElem?_set, List.getElem?_take_of_lt hi, List.getElem?_drop]
      by_cases q : j = a + i
      · subst q
        rw [if_pos (by omega), if_pos (by simp; omega), if_pos rfl, if_pos (by omega)]
      · rw [if_neg q, if_neg (by omega)]
    · rw [List.getElem?_eq_none (by simp; omega), List.getElem?_eq_none (by simp; omega)]
  · refine ⟨xs, rfl, cut_eq.2 ⟨by simpa using h1, ?_⟩⟩
    rw [h2]
    apply List.ext_getElem?
    intro i
    by_cases hi : i < n
    · rw [List.getElem?_take_of_lt hi, List.getElem?_drop, List.getElem?_take_of_lt hi, List.getElem?_drop, List.getElem?_set, if_neg (by omega)]
    · rw [List.getElem?_eq_none (by simp; omega), List.getElem?_eq_none (by simp; omega)]
theorem Wl.st {h0 h : H} {v : V} {n i : Nat} (w : Wl h0 h v n) (hi : i < n) (x : Int) : ∃ h2, stV h 1 (.p (blkV v) (offV v + i * 1)) (.i .i64 x) = some h2 ∧ Wr h h2 (blkV v) := by
  obtain ⟨xs, rfl, q2, q3⟩ := w
  rcases q2 with ⟨z, _⟩ | ⟨b, off, cap, g, bl, rfl, hb, hg, hr⟩
  · omega
  · obtain ⟨cs, hcs⟩ : ∃ cs, h.get b = some (.cells cs) := by
      rcases q3 with z | ⟨_, z⟩
      · omega
      · exact z
    rw [hg] at hcs
    cases hcs
    have hr' : cut cs off (xs.length * 1) = some (ints xs) := hr
    obtain ⟨h1, _⟩ := cut_eq.1 hr'
    have hst : stV h 1 (.p b (off + i * 1)) (.i .i64 x) = some (h.put b (.cells (cs.set (off + i * 1) (.i .i64 x)))) := st_k hg (by omega)
    refine ⟨h.put b (.cells (cs.set (off + i * 1) (.i .i64 x))), hst, by simp, fun h0 hb' e => e.put hb' _, fun c hc => by rw [H.get_put, if_neg (show c ≠ b from hc)], ?_⟩
    intro h0' u m wu
    obtain ⟨ys, rfl, p2, p3⟩ := wu
    have p3' : ys.length = 0 ∨ (h0'.next ≤ blkV u ∧ ∃ cs', (h.put b (.cells (cs.set (off + i * 1) (.i .i64 x)))).get (blkV u) = some (.cells cs')) := by
      rcases p3 with z | ⟨z1, ds, z2⟩
      · exact .inl z
      · refine .inr ⟨z1, ?_⟩
        by_cases q : blkV u = b
        · rw [q]; exact ⟨_, by rw [H.get_put, if_pos rfl]⟩
        · exact ⟨ds, by rw [H.get_put, if_neg q]; exact z2⟩
    rcases p2 with z | ⟨b', off', cap', g', bl', rfl, hb2, hg2, hr2⟩
    · exact ⟨ys, rfl, .inl z, p3'⟩
    · by_cases q : b' = b
      · subst q
        rw [hg] at hg2
        cases hg2
        have hr2' : cut cs off' (ys.length * 1) = some (ints ys) := hr2
        obtain ⟨zs, k1, k2⟩ := ints_or (j := off + i * 1) (x := x) hr2'
        refine ⟨zs, k1, ?_, p3'⟩
        have : Sl 1 (h.put b' (.cells (cs.set (off + i * 1) (.i .i64 x)))) (.sl b' off' ys.length cap' g') ys.length (ints zs) := .inr ⟨b', off', cap', g', .cells (cs.set (off + i * 1) (.i .i64 x)), rfl, by simpa using hb2, by rw [H.get_put, if_pos rfl], k2⟩
        unfold Ints
        rw [k1]
        exact this
      · exact ⟨ys, rfl, .inr ⟨b', off', cap', g', bl', rfl, by simpa using hb2, by rw [H.get_put, if_neg q]; exact hg2, hr2⟩, p3'⟩
def ZL (h0 h : H) (v : V) (n : Nat) : Prop := ∃ cs, Sl 1 h v n cs ∧ ∀ j, j < n → ∃ c m, cs[j]? = some c ∧ Wl h0 h c m ∧ m ≤ 1000000 ∧ (m = 0 ∨ blkV c ≠ blkV v)
def ZT (h0 h : H) (v : V) (n : Nat) : Prop := ∃ cs, Sl 2 h v n cs ∧ ∀ j, j < n → ∃ c1 c2 m1 m2, cs[j * 2]? = some c1 ∧ cs[j * 2 + 1]? = some c2 ∧ (Wl h0 h c1 m1 ∧ m1 ≤ 1000000 ∧ (m1 = 0 ∨ blkV c1 ≠ blkV v)) ∧ (Wl h0 h c2 m2 ∧ m2 ≤ 1000000 ∧ (m2 = 0 ∨ blkV c2 ≠ blkV v))
theorem Sl.wr {esz n b : Nat} {h h' : H} {v : V} {cs : List V} (s : Sl esz h v n cs) (w : Wr h h' b) (hb : blkV v ≠ b) : Sl esz h' v n cs := s.keep (Nat.le_of_eq w.nx.symm) fun _ => w.keep _ hb
theorem ZL.wr {h0 h h' : H} {v : V} {n b : Nat} (z : ZL h0 h v n) (w : Wr h h' b) (hb : blkV v ≠ b) : ZL h0 h' v n := by
  obtain ⟨cs, s, hc⟩ := z
  refine ⟨cs, s.wr w hb, fun j hj => ?_⟩
  obtain ⟨c, m, q1, q2, q3⟩ := hc j hj
  exact ⟨c, m, q1, w.wl _ _ _ q2, q3⟩
theorem ZT.wr {h0 h h' : H} {v : V} {n b : Nat} (z : ZT h0 h v n) (w : Wr h h' b) (hb : blkV v ≠ b) : ZT h0 h' v n := by
  obtain ⟨cs, s, hc⟩ := z
  refine ⟨cs, s.wr w hb, fun j hj => ?_⟩
  obtain ⟨c1, c2, m1, m2, q1, q2, ⟨q3, q4⟩, q5, q6⟩ := hc j hj
  exact ⟨c1, c2, m1, m2, q1, q2, ⟨w.wl _ _ _ q3, q4⟩, w.wl _ _ _ q5, q6⟩
theorem ZT.ext {h0 h h' : H} {v : V} {n : Nat} (z : ZT h0 h v n) (e : Ext h h') : ZT h0 h' v n := by
  obtain ⟨cs, s, hc⟩ := z
  refine ⟨cs, s.ext e, fun j hj => ?_⟩
  obtain ⟨c1, c2, m1, m2, q1, q2, ⟨q3, q4⟩, q5, q6⟩ := hc j hj
  exact ⟨c1, c2, m1, m2, q1, q2, ⟨q3.ext e, q4⟩, q5.ext e, q6⟩
end Go.Air
set_option maxRecDepth 100000
namespace Go.Air
open Go.Air.Try
theorem in19_0 {h0 h : H} {v : V} {n : Nat} {t0 : List V} {Q : Out → List V → H → Prop} (tl : t0.length = 193) (tn : nth t0 60 = .i .i64 (n : Int)) (ti : nth t0 61 = .i .i64 0) {bX : Nat} {cs : List V} (tB : nth t0 9 = .p bX 0) (g : h.get bX = some (.cells cs)) (hf : cs[0]? = some v) (hb : n = 0 ∨ bX ≠ blkV v) (w : Wl h0 h v n) (hn : n ≤ 1000000)
    (hQ : ∀ t' h', t'.length = 193 → (∀ j, j ≠ 11 → (j < 61 ∨ 68 < j) → nth t' j = nth t0 j) → Wr h h' (blkV v) → (n = 0 → h' = h) → Q (.exit 0) t' h') : W tblA (.loop b19_0) t0 h Q := by
  refine W_while (fun k t h' => ∃ i : Nat, k = n - i ∧ i ≤ n ∧ t.length = 193 ∧ nth t 61 = .i .i64 (i : Int) ∧ (∀ j, j ≠ 11 → (j < 61 ∨ 68 < j) → nth t j = nth t0 j) ∧ Wr h h' (blkV v) ∧ (n = 0 → h' = h)) ?_ n ?_
  · rintro k t h' ⟨i, rfl, hi, tl', pi, hp, x, hz⟩
    unfold b19_0
    have pn : nth t 60 = .i .i64 (n : Int) := by rw [hp 60 (by omega) (by omega), tn]
    have pB : nth t 9 = .p bX 0 := by rw [hp 9 (by omega) (by omega), tB]
    by_cases hlt : i < n
    · have hltI : (i : Int) < (n : Int) := by omega
      have w' := x.wl _ _ _ w
      obtain ⟨h2, q1, q2⟩ := w'.st hlt (-1)
      have lv : ldV h' (.p bX 0) = some v := by
        rcases hb with z | z
        · omega
        · exact blk_ld ((x.keep bX z).trans g) hf
      simp only [go_sem, ↓reduceIte, r19_8, r19_9, r19_10, r19_11, tl', pi, pn, pB, lv, hltI, w'.ix hlt, q1, wrap_succ (show i < 1000000000 by omega)]
      refine ⟨n - (i + 1), by omega, i + 1, rfl, hlt, rfl, fun j h1 h2 => ?_, x.trans q2, fun z => by omega⟩
      repeat rw [if_neg (by omega)]
      exact hp j h1 h2
    · have hltI : ¬ (i : Int) < (n : Int) := by omega
      simp only [go_sem, ↓reduceIte, r19_8, tl', pi, pn, hltI]
      exact hQ _ _ (by simp only [upd_length, tl']) (fun j h1 h2 => by simp only [nth_upd]; rw [if_neg (by omega)]; exact hp j h1 h2) x hz
  · exact ⟨0, by omega, by omega, tl, ti, fun _ _ _ => rfl, .refl _ _, fun _ => rfl⟩
theorem in19_1 {h0 h : H} {v : V} {n : Nat} {t0 : List V} {Q : Out → List V → H → Prop} (tl : t0.length = 193) (tn : nth t0 78 = .i .i64 (n : Int)) (ti : nth t0 79 = .i .i64 0) {bX : Nat} {cs : List V} (tB : nth t0 13 = .p bX 0) (g : h.get bX = some (.cells cs)) (hf : cs[1]? = some v) (hb : n = 0 ∨ bX ≠ blkV v) (w : Wl h0 h v n) (hn : n ≤ 1000000)
    (hQ : ∀ t' h', t'.length = 193 → (∀ j, j ≠ 14 → (j < 79 ∨ 86 < j) → nth t' j = nth t0 j) → Wr h h' (blkV v) → (n = 0 → h' = h) → Q (.exit 4) t' h') : W tblA (.loop b19_1) t0 h Q := by
  refine W_while (fun k t h' => ∃ i : Nat, k = n - i ∧ i ≤ n ∧ t.length = 193 ∧ nth t 79 = .i .i64 (i : Int) ∧ (∀ j, j ≠ 14 → (j < 79 ∨ 86 < j) → nth t j = nth t0 j) ∧ Wr h h' (blkV v) ∧ (n = 0 → h' = h)) ?_ n ?_
  · rintro k t h' ⟨i, rfl, hi, tl', pi, hp, x, hz⟩
    unfold b19_1
    have pn : nth t 78 = .i .i64 (n : Int) := by rw [hp 78 (by omega) (by omega), tn]
    have pB : nth t 13 = .p bX 0 := by rw [hp 13 (by omega) (by omega), tB]
    by_cases hlt : i < n
    · have hltI : (i : Int) < (n : Int) := by omega
      have w' := x.wl _ _ _ w
      obtain ⟨h2, q1, q2⟩ := w'.st hlt (-1)
      have lv : ldV h' (.p bX 1) = some v := by
        rcases hb with z | z
        · omega
        · exact blk_ld ((x.keep bX z).trans g) hf
      simp only [go_sem, ↓reduceIte, r19_16, r19_17, r19_18, r19_19, tl', pi, pn, pB, lv, hltI, w'.ix hlt, q1, wrap_succ (show i < 1000000000 by omega)]
      refine ⟨n - (i + 1), by omega, i + 1, rfl, hlt, rfl, fun j h1 h2 => ?_, x.trans q2, fun z => by omega⟩
      repeat rw [if_neg (by omega)]
      exact hp j h1 h2
    · have hltI : ¬ (i : Int) < (n : Int) := by omega
      simp only [go_sem, ↓reduceIte, r19_16, tl', pi, pn, hltI]
      exact hQ _ _ (by simp only [upd_length, tl']) (fun j h1 h2 => by simp only [nth_upd]; rw [if_neg (by omega)]; exact hp j h1 h2) x hz
  · exact ⟨0, by omega, by omega, tl, ti, fun _ _ _ => rfl, .refl _ _, fun _ => rfl⟩
theorem in19_2 {h0 h : H} {v : V} {n : Nat} {t0 : List V} {Q : Out → List V → H → Prop} (tl : t0.length = 193) (tn : nth t0 89 = .i .i64 (n : Int)) (ti : nth t0 90 = .i .i64 0) {bX : Nat} {cs : List V} (tB : nth t0 13 = .p bX 0) (g : h.get bX = some (.cells cs)) (hf : cs[0]? = some v) (hb : n = 0 ∨ bX ≠ blkV v) (w : Wl h0 h v n) (hn : n ≤ 1000000)
    (hQ : ∀ t' h', t'.length = 193 → (∀ j, j ≠ 15 → (j < 90 ∨ 97 < j) → nth t' j = nth t0 j) → Wr h h' (blkV v) → (n = 0 → h' = h) → Q (.exit 6) t' h') : W tblA (.loop b19_2) t0 h Q := by
  refine W_while (fun k t h' => ∃ i : Nat, k = n - i ∧ i ≤ n ∧ t.length = 193 ∧ nth t 90 = .i .i64 (i : Int) ∧ (∀ j, j ≠ 15 → (j < 90 ∨ 97 < j) → nth t j = nth t0 j) ∧ Wr h h' (blkV v) ∧ (n = 0 → h' = h)) ?_ n ?_
  · rintro k t h' ⟨i, rfl, hi, tl', pi, hp, x, hz⟩
    unfold b19_2
    have pn : nth t 89 = .i .i64 (n : Int) := by rw [hp 89 (by omega) (by omega), tn]
    have pB : nth t 13 = .p bX 0 := by rw [hp 13 (by omega) (by omega), tB]
    by_cases hlt : i < n
    · have hltI : (i : Int) < (n : Int) := by omega
      have w' := x.wl _ _ _ w
      obtain ⟨h2, q1, q2⟩ := w'.st hlt (-1)
      have lv : ldV h' (.p bX 0) = some v := by
        rcases hb with z | z
        · omega
        · exact blk_ld ((x.keep bX z).trans g) hf
      simp only [go_sem, ↓reduceIte, r19_21, r19_22, r19_23, r19_24, tl', pi, pn, pB, lv, hltI, w'.ix hlt, q1, wrap_succ (show i < 1000000000 by omega)]
      refine ⟨n - (i + 1), by omega, i + 1, rfl, hlt, rfl, fun j h1 h2 => ?_, x.trans q2, fun z => by omega⟩
      repeat rw [if_neg (by omega)]
      exact hp j h1 h2
    · have hltI : ¬ (i : Int) < (n : Int) := by omega
      simp only [go_sem, ↓reduceIte, r19_21, tl', pi, pn, hltI]
      exact hQ _ _ (by simp only [upd_length, tl']) (fun j h1 h2 => by simp only [nth_upd]; rw [if_neg (by omega)]; exact hp j h1 h2) x hz
  · exact ⟨0, by omega, by omega, tl, ti, fun _ _ _ => rfl, .refl _ _, fun _ => rfl⟩
theorem in19_4 {h0 h : H} {v : V} {n : Nat} {t0 : List V} {Q : Out → List V → H → Prop} (tl : t0.length = 193) (tn : nth t0 106 = .i .i64 (n : Int)) (ti : nth t0 107 = .i .i64 0) (tL : nth t0 16 = v) (w : Wl h0 h v n) (hn : n ≤ 1000000)
    (hQ : ∀ t' h', t'.length = 193 → (∀ j, j ≠ 18 → (j < 107 ∨ 113 < j) → nth t' j = nth t0 j) → Wr h h' (blkV v) → (n = 0 → h' = h) → Q (.exit 8) t' h') : W tblA (.loop b19_4) t0 h Q := by
  refine W_while (fun k t h' => ∃ i : Nat, k = n - i ∧ i ≤ n ∧ t.length = 193 ∧ nth t 107 = .i .i64 (i : Int) ∧ (∀ j, j ≠ 18 → (j < 107 ∨ 113 < j) → nth t j = nth t0 j) ∧ Wr h h' (blkV v) ∧ (n = 0 → h' = h)) ?_ n ?_
  · rintro k t h' ⟨i, rfl, hi, tl', pi, hp, x, hz⟩
    unfold b19_4
    have pn : nth t 106 = .i .i64 (n : Int) := by rw [hp 106 (by omega) (by omega), tn]
    have pL : nth t 16 = v := by rw [hp 16 (by omega) (by omega), tL]
    by_cases hlt : i < n
    · have hltI : (i : Int) < (n : Int) := by omega
      have w' := x.wl _ _ _ w
      obtain ⟨h2, q1, q2⟩ := w'.st hlt (-1)
      simp only [go_sem, ↓reduceIte, r19_28, r19_29, r19_30, r19_31, tl', pi, pn, pL, hltI, w'.ix hlt, q1, wrap_succ (show i < 1000000000 by omega)]
      refine ⟨n - (i + 1), by omega, i + 1, rfl, hlt, rfl, fun j h1 h2 => ?_, x.trans q2, fun z => by omega⟩
      repeat rw [if_neg (by omega)]
      exact hp j h1 h2
    · have hltI : ¬ (i : Int) < (n : Int) := by omega
      simp only [go_sem, ↓reduceIte, r19_28, tl', pi, pn, hltI]
      exact hQ _ _ (by simp only [upd_length, tl']) (fun j h1 h2 => by simp only [nth_upd]; rw [if_neg (by omega)]; exact hp j h1 h2) x hz
  · exact ⟨0, by omega, by omega, tl, ti, fun _ _ _ => rfl, .refl _ _, fun _ => rfl⟩
theorem in19_5 {h0 h : H} {v : V} {n : Nat} {t0 : List V} {Q : Out → List V → H → Prop} (tl : t0.length = 193) (tn : nth t0 126 = .i .i64 (n : Int)) (ti : nth t0 127 = .i .i64 0) (tL : nth t0 22 = v) (w : Wl h0 h v n) (hn : n ≤ 1000000)
    (hQ : ∀ t' h', t'.length = 193 → (∀ j, j ≠ 23 → (j < 127 ∨ 133 < j) → nth t' j = nth t0 j) → Wr h h' (blkV v) → (n = 0 → h' = h) → Q (.exit 12) t' h') : W tblA (.loop b19_5) t0 h Q := by
  refine W_while (fun k t h' => ∃ i : Nat, k = n - i ∧ i ≤ n ∧ t.length = 193 ∧ nth t 127 = .i .i64 (i : Int) ∧ (∀ j, j ≠ 23 → (j < 127 ∨ 133 < j) → nth t j = nth t0 j) ∧ Wr h h' (blkV v) ∧ (n = 0 → h' = h)) ?_ n ?_
  · rintro k t h' ⟨i, rfl, hi, tl', pi, hp, x, hz⟩
    unfold b19_5
    have pn : nth t 126 = .i .i64 (n : Int) := by rw [hp 126 (by omega) (by omega), tn]
    have pL : nth t 22 = v := by rw [hp 22 (by omega) (by omega), tL]
    by_cases hlt : i < n
    · have hltI : (i : Int) < (n : Int) := by omega
      have w' := x.wl _ _ _ w
      obtain ⟨h2, q1, q2⟩ := w'.st hlt (-1)
      simp only [go_sem, ↓reduceIte, r19_37, r19_38, r19_39, r19_40, tl', pi, pn, pL, hltI, w'.ix hlt, q1, wrap_succ (show i < 1000000000 by omega)]
      refine ⟨n - (i + 1), by omega, i + 1, rfl, hlt, rfl, fun j h1 h2 => ?_, x.trans q2, fun z => by omega⟩
      repeat rw [if_neg (by omega)]
      exact hp j h1 h2
    · have hltI : ¬ (i : Int) < (n : Int) := by omega
      simp only [go_sem, ↓reduceIte, r19_37, tl', pi, pn, hltI]
      exact hQ _ _ (by simp only [upd_length, tl']) (fun j h1 h2 => by simp only [nth_upd]; rw [if_neg (by omega)]; exact hp j h1 h2) x hz
  · exact ⟨0, by omega, by omega, tl, ti, fun _ _ _ => rfl, .refl _ _, fun _ => rfl⟩
theorem in19_7 {h0 h : H} {v : V} {n : Nat} {t0 : List V} {Q : Out → List V → H → Prop} (tl : t0.length = 193) (tn : nth t0 147 = .i .i64 (n : Int)) (ti : nth t0 148 = .i .i64 0) (tL : nth t0 27 = v) (w : Wl h0 h v n) (hn : n ≤ 1000000)
    (hQ : ∀ t' h', t'.length = 193 → (∀ j, j ≠ 28 → (j < 148 ∨ 154 < j) → nth t' j = nth t0 j) → Wr h h' (blkV v) → (n = 0 → h' = h) → Q (.exit 16) t' h') : W tblA (.loop b19_7) t0 h Q := by
  refine W_while (fun k t h' => ∃ i : Nat, k = n - i ∧ i ≤ n ∧ t.length = 193 ∧ nth t 148 = .i .i64 (i : Int) ∧ (∀ j, j ≠ 28 → (j < 148 ∨ 154 < j) → nth t j = nth t0 j) ∧ Wr h h' (blkV v) ∧ (n = 0 → h' = h)) ?_ n ?_
  · rintro k t h' ⟨i, rfl, hi, tl', pi, hp, x, hz⟩
    unfold b19_7
    have pn : nth t 147 = .i .i64 (n : Int) := by rw [hp 147 (by omega) (by omega), tn]
    have pL : nth t 27 = v := by rw [hp 27 (by omega) (by omega), tL]
    by_cases hlt : i < n
    · have hltI : (i : Int) < (n : Int) := by omega
      have w' := x.wl _ _ _ w
      obtain ⟨h2, q1, q2⟩ := w'.st hlt (-1)
      simp only [go_sem, ↓reduceIte, r19_47, r19_48, r19_49, r19_50, tl', pi, pn, pL, hltI, w'.ix hlt, q1, wrap_succ (show i < 1000000000 by omega)]
      refine ⟨n - (i + 1), by omega, i + 1, rfl, hlt, rfl, fun j h1 h2 => ?_, x.trans q2, fun z => by omega⟩
      repeat rw [if_neg (by omega)]
      exact hp j h1 h2
    · have hltI : ¬ (i : Int) < (n : Int) := by omega
      simp only [go_sem, ↓reduceIte, r19_47, tl', pi, pn, hltI]
      exact hQ _ _ (by simp only [upd_length, tl']) (fun j h1 h2 => by simp only [nth_upd]; rw [if_neg (by omega)]; exact hp j h1 h2) x hz
  · exact ⟨0, by omega, by omega, tl, ti, fun _ _ _ => rfl, .refl _ _, fun _ => rfl⟩
theorem out19_6 {h0 h : H} {v : V} {n : Nat} {t0 : List V} {Q : Out → List V → H → Prop} (tl : t0.length = 193) (tL : nth t0 119 = v) (tn : nth t0 120 = .i .i64 (n : Int)) (ti : nth t0 121 = .i .i64 0) (z : ZL h0 h v n) (e : Ext h0 h) (hn : n ≤ 1000000)
    (hQ : ∀ t' h', t'.length = 193 → (∀ j, j ≠ 22 → j ≠ 23 → (j < 121 ∨ 134 < j) → nth t' j = nth t0 j) → Ext h0 h' → Q (.exit 10) t' h') : W tblA (.loop b19_6) t0 h Q := by
  refine W_while (fun k t h' => ∃ i : Nat, k = n - i ∧ i ≤ n ∧ t.length = 193 ∧ nth t 121 = .i .i64 (i : Int) ∧ (∀ j, j ≠ 22 → j ≠ 23 → (j < 121 ∨ 134 < j) → nth t j = nth t0 j) ∧ Ext h0 h' ∧ ZL h0 h' v n) ?_ n ?_
  · rintro k t h' ⟨i, rfl, hi, tl', pi, hp, e', z'⟩
    unfold b19_6
    have pn : nth t 120 = .i .i64 (n : Int) := by rw [hp 120 (by omega) (by omega) (by omega), tn]
    have pL : nth t 119 = v := by rw [hp 119 (by omega) (by omega) (by omega), tL]
    obtain ⟨cs, s, hcs⟩ := id z'
    by_cases hlt : i < n
    · have hltI : (i : Int) < (n : Int) := by omega
      obtain ⟨c, m, q1, q2, q3, q4⟩ := hcs i hlt
      have lc : ldV h' (.p (blkV v) (offV v + i * 1)) = some c := by rw [s.ld1 hlt, q1]
      simp only [go_sem, ↓reduceIte, r19_34, r19_35, r19_36, tl', pi, pn, pL, hltI, s.ix hlt, lc, q2.len]
      refine in19_5 (v := c) (n := m) ?_ ?_ ?_ ?_ q2 q3 ?_
      · simp only [upd_length, tl']
      · simp only [go_sem, ↓reduceIte, tl']
      · simp only [go_sem, ↓reduceIte, tl']
      · simp only [go_sem, ↓reduceIte, tl']
      intro t2 h2 tl2 hp2 x2 hz2
      have e2 : Ext h0 h2 ∧ ZL h0 h2 v n := by
        by_cases m0 : m = 0
        · rw [hz2 m0]; exact ⟨e', z'⟩
        · exact ⟨x2.ext h0 (q2.ge m0) e', z'.wr x2 (fun y => by rcases q4 with y' | y'; exact m0 y'; exact y' y.symm)⟩
      have p2 : nth t2 121 = .i .i64 (i : Int) := by rw [hp2 121 (by omega) (by omega)]; simp only [go_sem, ↓reduceIte, tl', pi]
      have hp3 : ∀ j, j ≠ 22 → j ≠ 23 → (j < 121 ∨ 134 < j) → nth t2 j = nth t0 j := by
        intro j h1 h2 h3
        rw [hp2 j (by omega) (by omega)]
        simp only [nth_upd]
        repeat rw [if_neg (by omega)]
        exact hp j h1 h2 h3
      clear hp2
      simp only [go_sem, ↓reduceIte, r19_41, tl2, p2, wrap_succ (show i < 1000000000 by omega)]
      refine ⟨n - (i + 1), by omega, i + 1, rfl, hlt, rfl, fun j h1 h2 h3 => ?_, e2⟩
      repeat rw [if_neg (by omega)]
      exact hp3 j h1 h2 h3
    · have hltI : ¬ (i : Int) < (n : Int) := by omega
      simp only [go_sem, ↓reduceIte, r19_34, tl', pi, pn, hltI]
      exact hQ _ _ (by simp only [upd_length, tl']) (fun j h1 h2 h3 => by simp only [nth_upd]; rw [if_neg (by omega)]; exact hp j h1 h2 h3) e'
  · exact ⟨0, by omega, by omega, tl, ti, fun _ _ _ _ => rfl, e, z⟩
theorem out19_8 {h0 h : H} {v : V} {n : Nat} {t0 : List V} {Q : Out → List V → H → Prop} (tl : t0.length = 193) (tL : nth t0 140 = v) (tn : nth t0 141 = .i .i64 (n : Int)) (ti : nth t0 142 = .i .i64 0) (z : ZL h0 h v n) (e : Ext h0 h) (hn : n ≤ 1000000)
    (hQ : ∀ t' h', t'.length = 193 → (∀ j, j ≠ 27 → j ≠ 28 → (j < 142 ∨ 155 < j) → nth t' j = nth t0 j) → Ext h0 h' → Q (.exit 14) t' h') : W tblA (.loop b19_8) t0 h Q := by
  refine W_while (fun k t h' => ∃ i : Nat, k = n - i ∧ i ≤ n ∧ t.length = 193 ∧ nth t 142 = .i .i64 (i : Int) ∧ (∀ j, j ≠ 27 → j ≠ 28 → (j < 142 ∨ 155 < j) → nth t j = nth t0 j) ∧ Ext h0 h' ∧ ZL h0 h' v n) ?_ n ?_
  · rintro k t h' ⟨i, rfl, hi, tl', pi, hp, e', z'⟩
    unfold b19_8
    have pn : nth t 141 = .i .i64 (n : Int) := by rw [hp 141 (by omega) (by omega) (by omega), tn]
    have pL : nth t 140 = v := by rw [hp 140 (by omega) (by omega) (by omega), tL]
    obtain ⟨cs, s, hcs⟩ := id z'
    by_cases hlt : i < n
    · have hltI : (i : Int) < (n : Int) := by omega
      obtain ⟨c, m, q1, q2, q3, q4⟩ := hcs i hlt
      have lc : ldV h' (.p (blkV v) (offV v + i * 1)) = some c := by rw [s.ld1 hlt, q1]
      simp only [go_sem, ↓reduceIte, r19_44, r19_45, r19_46, tl', pi, pn, pL, hltI, s.ix hlt, lc, q2.len]
      refine in19_7 (v := c) (n := m) ?_ ?_ ?_ ?_ q2 q3 ?_
      · simp only [upd_length, tl']
      · simp only [go_sem, ↓reduceIte, tl']
      · simp only [go_sem, ↓reduceIte, tl']
      · simp only [go_sem, ↓reduceIte, tl']
      intro t2 h2 tl2 hp2 x2 hz2
      have e2 : Ext h0 h2 ∧ ZL h0 h2 v n := by
        by_cases m0 : m = 0
        · rw [hz2 m0]; exact ⟨e', z'⟩
        · exact ⟨x2.ext h0 (q2.ge m0) e', z'.wr x2 (fun y => by rcases q4 with y' | y'; exact m0 y'; exact y' y.symm)⟩
      have p2 : nth t2 142 = .i .i64 (i : Int) := by rw [hp2 142 (by omega) (by omega)]; simp only [go_sem, ↓reduceIte, tl', pi]
      have hp3 : ∀ j, j ≠ 27 → j ≠ 28 → (j < 142 ∨ 155 < j) → nth t2 j = nth t0 j := by
        intro j h1 h2 h3
        rw [hp2 j (by omega) (by omega)]
        simp only [nth_upd]
        repeat rw [if_neg (by omega)]
        exact hp j h1 h2 h3
      clear hp2
      simp only [go_sem, ↓reduceIte, r19_51, tl2, p2, wrap_succ (show i < 1000000000 by omega)]
      refine ⟨n - (i + 1), by omega, i + 1, rfl, hlt, rfl, fun j h1 h2 h3 => ?_, e2⟩
      repeat rw [if_neg (by omega)]
      exact hp3 j h1 h2 h3
    · have hltI : ¬ (i : Int) < (n : Int) := by omega
      simp only [go_sem, ↓reduceIte, r19_44, tl', pi, pn, hltI]
      exact hQ _ _ (by simp only [upd_length, tl']) (fun j h1 h2 h3 => by simp only [nth_upd]; rw [if_neg (by omega)]; exact hp j h1 h2 h3) e'
  · exact ⟨0, by omega, by omega, tl, ti, fun _ _ _ _ => rfl, e, z⟩
end Go.Air
set_option maxRecDepth 100000
namespace Go.Air
open Go.Air.Try
theorem out19_3 {h0 h : H} {v : V} {n : Nat} {t0 : List V} {Q : Out → List V → H → Prop} (tl : t0.length = 193) (tL : nth t0 70 = v) (tn : nth t0 71 = .i .i64 (n : Int)) (ti : nth t0 72 = .i .i64 0) (z : ZT h0 h v n) (e : Ext h0 h) (hn : n ≤ 1000000)
    (hQ : ∀ t' h', t'.length = 193 → (∀ j, j ≠ 13 → j ≠ 14 → j ≠ 15 → (j < 72 ∨ 98 < j) → nth t' j = nth t0 j) → Ext h0 h' → Q (.exit 2) t' h') : W tblA (.loop b19_3) t0 h Q := by
  refine W_while (fun k t h' => ∃ i : Nat, k = n - i ∧ i ≤ n ∧ t.length = 193 ∧ nth t 72 = .i .i64 (i : Int) ∧ (∀ j, j ≠ 13 → j ≠ 14 → j ≠ 15 → (j < 72 ∨ 98 < j) → nth t j = nth t0 j) ∧ Ext h0 h' ∧ ZT h0 h' v n) ?_ n ?_
  · rintro k t h' ⟨i, rfl, hi, tl', pi, hp, e', z'⟩
    unfold b19_3
    have pn : nth t 71 = .i .i64 (n : Int) := by rw [hp 71 (by omega) (by omega) (by omega) (by omega), tn]
    have pL : nth t 70 = v := by rw [hp 70 (by omega) (by omega) (by omega) (by omega), tL]
    obtain ⟨cs, s, hcs⟩ := id z'
    by_cases hlt : i < n
    · have hltI : (i : Int) < (n : Int) := by omega
      obtain ⟨c1, c2, m1, m2, q1, q2, ⟨w1, b1, d1⟩, w2, b2, d2⟩ := hcs i hlt
      have lc : ldnV h' 2 (.p (blkV v) (offV v + i * 2)) = some (.agg [c1, c2]) := by
        rw [s.ldn hlt]
        congr 2
        have hl := s.length
        apply List.ext_getElem?
        intro k
        by_cases hk : k < 2
        · rw [List.getElem?_take_of_lt hk, List.getElem?_drop]
          rcases Nat.lt_or_ge k 1 with zz | zz
          · obtain rfl : k = 0 := by omega
            simpa using q1
          · obtain rfl : k = 1 := by omega
            simpa using q2
        · rw [List.getElem?_eq_none (by simp; omega), List.getElem?_eq_none (by simp; omega)]
      obtain ⟨x1, _, i1, _⟩ := id w1
      obtain ⟨x2, _, i2, _⟩ := id w2
      obtain ⟨h2, p1, p2, p3, p4⟩ := st_newK h' [.sn, .sn] [c1, c2] rfl (by
        intro u hu
        simp at hu
        rcases hu with rfl | rfl
        · exact i1.one.2
        · exact i2.one.2)
      have p1' : stV (h'.new (.cells [.sn, .sn])) 2 (.p h'.next 0) (.agg [c1, c2]) = some h2 := p1
      have l2 : ldV h2 (.p h'.next 1) = some c2 := blk_ld p3 rfl
      have w2' := w2.ext p2
      have w1' := w1.ext p2
      have z2 := z'.ext p2
      have e2 := e'.trans p2
      simp only [go_sem, ↓reduceIte, r19_13, r19_14, r19_15, tl', pi, pn, pL, hltI, s.ix hlt, lc, p1', l2, w2'.len]
      refine in19_1 (v := c2) (n := m2) (bX := h'.next) (cs := [c1, c2]) ?_ ?_ ?_ ?_ p3 rfl ?_ w2' b2 ?_
      · simp only [upd_length, tl']
      · simp only [go_sem, ↓reduceIte, tl']
      · simp only [go_sem, ↓reduceIte, tl']
      · simp only [go_sem, ↓reduceIte, tl']
      · by_cases m0 : m2 = 0
        · exact .inl m0
        · exact .inr (by have := w2.lt m0; omega)
      intro t3 h3 tl3 hp3 x3 hz3
      have f3 : Ext h0 h3 ∧ ZT h0 h3 v n ∧ h3.get h'.next = some (.cells [c1, c2]) := by
        by_cases m0 : m2 = 0
        · rw [hz3 m0]; exact ⟨e2, z2, p3⟩
        · have := w2.lt m0
          exact ⟨x3.ext h0 (w2.ge m0) e2, z2.wr x3 (fun y => by rcases d2 with y' | y'; exact m0 y'; exact y' y.symm), (x3.keep _ (by omega)).trans p3⟩
      obtain ⟨e3, z3, g3⟩ := f3
      have w13 := x3.wl _ _ _ w1'
      have P13 : nth t3 13 = .p h'.next 0 := by rw [hp3 13 (by omega) (by omega)]; simp only [go_sem, ↓reduceIte, tl']
      have P72 : nth t3 72 = .i .i64 (i : Int) := by rw [hp3 72 (by omega) (by omega)]; simp only [go_sem, ↓reduceIte, tl', pi]
      have hp4 : ∀ j, j ≠ 13 → j ≠ 14 → j ≠ 15 → (j < 72 ∨ 98 < j) → nth t3 j = nth t0 j := by
        intro j h1 h2 h3 h4
        rw [hp3 j (by omega) (by omega)]
        simp only [nth_upd]
        repeat rw [if_neg (by omega)]
        exact hp j h1 h2 h3 h4
      clear hp3
      have l3 : ldV h3 (.p h'.next 0) = some c1 := blk_ld g3 rfl
      simp only [go_sem, ↓reduceIte, r19_20, tl3, P13, P72, l3, w13.len]
      refine in19_2 (v := c1) (n := m1) (bX := h'.next) (cs := [c1, c2]) ?_ ?_ ?_ ?_ g3 rfl ?_ w13 b1 ?_
      · simp only [upd_length, tl3]
      · simp only [go_sem, ↓reduceIte, tl3]
      · simp only [go_sem, ↓reduceIte, tl3]
      · simp only [go_sem, ↓reduceIte, tl3, P13]
      · by_cases m0 : m1 = 0
        · exact .inl m0
        · exact .inr (by have := w1.lt m0; omega)
      intro t5 h5 tl5 hp5 x5 hz5
      have f5 : Ext h0 h5 ∧ ZT h0 h5 v n := by
        by_cases m0 : m1 = 0
        · rw [hz5 m0]; exact ⟨e3, z3⟩
        · exact ⟨x5.ext h0 (w1.ge m0) e3, z3.wr x5 (fun y => by rcases d1 with y' | y'; exact m0 y'; exact y' y.symm)⟩
      have Q72 : nth t5 72 = .i .i64 (i : Int) := by rw [hp5 72 (by omega) (by omega)]; simp only [go_sem, ↓reduceIte, tl3, P72]
      have hp6 : ∀ j, j ≠ 13 → j ≠ 14 → j ≠ 15 → (j < 72 ∨ 98 < j) → nth t5 j = nth t0 j := by
        intro j h1 h2 h3 h4
        rw [hp5 j (by omega) (by omega)]
        simp only [nth_upd]
        repeat rw [if_neg (by omega)]
        exact hp4 j h1 h2 h3 h4
      clear hp5
      simp only [go_sem, ↓reduceIte, r19_25, tl5, Q72, wrap_succ (show i < 1000000000 by omega)]
      refine ⟨n - (i + 1), by omega, i + 1, rfl, hlt, rfl, fun j h1 h2 h3 h4 => ?_, f5⟩
      repeat rw [if_neg (by omega)]
      exact hp6 j h1 h2 h3 h4
    · have hltI : ¬ (i : Int) < (n : Int) := by omega
      simp only [go_sem, ↓reduceIte, r19_13, tl', pi, pn, hltI]
      exact hQ _ _ (by simp only [upd_length, tl']) (fun j h1 h2 h3 h4 => by simp only [nth_upd]; rw [if_neg (by omega)]; exact hp j h1 h2 h3 h4) e'
  · exact ⟨0, by omega, by omega, tl, ti, fun _ _ _ _ _ => rfl, e, z⟩
theorem zt_of {h0 hA hv h : H} {v : V} {tb : List (List Int × List Int)} (r : TBx hA hv h v tb) (hA0 : h0.next ≤ hA.next) (hb : ∀ x ∈ tb, x.1.length ≤ 1000000 ∧ x.2.length ≤ 1000000) : ZT h0 h v tb.length := by
  obtain ⟨cs, o, hc⟩ := r
  refine ⟨cs, o.sl, fun j hj => ?_⟩
  obtain ⟨⟨g, vals⟩, hx⟩ : ∃ x, tb[j]? = some x := ⟨_, List.getElem?_eq_getElem hj⟩
  obtain ⟨c1, c2, q1, q2, q3, q4, q5, q6⟩ := hc j g vals hx
  obtain ⟨l1, l2⟩ := hb _ (List.mem_of_getElem? hx)
  have hv : v ≠ .sn := (o.pos (by omega)).1
  refine ⟨c1, c2, _, _, q1, q2, ⟨Wl.own q3 hA0, l1, ?_⟩, Wl.own q4 hA0, l2, ?_⟩
  · rcases Nat.eq_zero_or_pos g.length with z | z
    · exact .inl z
    · rcases q5 with y | y | y
      · exact absurd y hv
      · exact absurd y (q3.pos z).1
      · exact .inr y
  · rcases Nat.eq_zero_or_pos vals.length with z | z
    · exact .inl z
    · rcases q6 with y | y | y
      · exact absurd y hv
      · exact absurd y (q4.pos z).1
      · exact .inr y
theorem zl_of {h0 hR h : H} {w : V} {xss : List (List Int)} (r : RowsO hR h w xss) (hR0 : h0.next ≤ hR.next) (hb : ∀ x ∈ xss, x.length ≤ 1000000) : ZL h0 h w xss.length := by
  obtain ⟨cs, o, hc⟩ := r
  refine ⟨cs, by simpa using o.sl, fun j hj => ?_⟩
  obtain ⟨xs, hx⟩ : ∃ x, xss[j]? = some x := ⟨_, List.getElem?_eq_getElem hj⟩
  obtain ⟨c, q1, q2, q3⟩ := hc j xs hx
  have hw : w ≠ .sn := (o.pos (by omega)).1
  refine ⟨c, _, q1, Wl.own q2 hR0, hb _ (List.mem_of_getElem? hx), ?_⟩
  rcases Nat.eq_zero_or_pos xs.length with z | z
  · exact .inl z
  · rcases q3 with y | y | y
    · exact absurd y hw
    · exact absurd y (q2.pos z).1
    · exact .inr y
theorem zl_alt {h0 h h' : H} {n : Nat} {xs : List Int} {u : V} (r : AltRes h h' n xs u) (h00 : h0.next ≤ h.next) (hn : n ≤ 1000000) : ∃ w e m, u = .tup [w, .i .i64 e] ∧ m ≤ 1000000 ∧ ZL h0 h' w m := by
  rcases r with ⟨_, rfl⟩ | ⟨_, _, rfl⟩ | ⟨_, _, w, cs, rfl, o, hc⟩
  · exact ⟨.sn, 1, 0, rfl, by omega, [], .inl ⟨rfl, rfl, .inl rfl⟩, fun j hj => by omega⟩
  · exact ⟨.sn, 2, 0, rfl, by omega, [], .inl ⟨rfl, rfl, .inl rfl⟩, fun j hj => by omega⟩
  · refine ⟨w, 0, n, rfl, hn, cs, by simpa using o.sl, fun j hj => ?_⟩
    obtain ⟨c, q1, q2⟩ := hc j hj
    have hl := q2.len1
    have q2' : Own h 1 h' c (copyOf xs j).length (ints (copyOf xs j)) := by rw [hl]; exact q2
    have hw := Wl.own (h0 := h0) q2' h00
    rw [hl] at hw
    refine ⟨c, n, q1, hw, hn, .inr ?_⟩
    have hcl := o.len
    obtain ⟨ho, ⟨_, rfl⟩ | ⟨b, g, rfl, _, _, _, hg⟩⟩ := o
    · omega
    · cases cs with
      | nil => simp at hcl; omega
      | cons z ds =>
        have hz : ∀ k n, z ≠ .i k n := by
          obtain ⟨c0, k1, k2⟩ := hc 0 (by omega)
          simp at k1
          rw [k1]
          exact k2.noti
        rcases own_ne q2 hg hz with y | y
        · exact absurd y (q2.pos (by omega)).1
        · exact y
end Go.Air
set_option maxRecDepth 100000
namespace Go.Air
open Go.Air.Try
theorem zt_sn {h0 h : H} : ZT h0 h .sn 0 := ⟨[], .inl ⟨rfl, rfl, .inl rfl⟩, fun j hj => by omega⟩
theorem tbx_ne {hA hv hq h : H} {v u : V} {tb : List (List Int × List Int)} {xs : List Int} (r : TBx hA hv h v tb) (o : Own hq 1 h u xs.length (ints xs)) (hx : xs.length ≠ 0) : (v = .sn ∧ tb.length = 0) ∨ blkV v ≠ blkV u := by
  obtain ⟨cs, ow, hc⟩ := r
  have hl := ow.len
  obtain ⟨_, ⟨hz, rfl⟩ | ⟨b, g, rfl, _, _, _, hg⟩⟩ := ow
  · exact .inl ⟨rfl, hz⟩
  · refine .inr fun q => ?_
    obtain ⟨_, ⟨hz, _⟩ | ⟨b', g', rfl, _, _, _, hg'⟩⟩ := o
    · exact hx hz
    · have q' : b = b' := q
      subst q'
      rw [hg] at hg'
      simp only [Option.some.injEq, Blk.cells.injEq] at hg'
      cases xs with
      | nil => simp at hx
      | cons x l =>
        rw [hg'] at hl
        simp [ints] at hl
        obtain ⟨⟨gg, vals⟩, ht⟩ : ∃ x, tb[0]? = some x := ⟨_, List.getElem?_eq_getElem (by omega)⟩
        obtain ⟨c1, c2, p1, _, p3, _⟩ := hc 0 gg vals ht
        rw [hg'] at p1
        simp [ints] at p1
        exact p3.noti _ _ p1.symm
theorem app_arr {h0 h : H} {w x : V} {rs qs : List Arw} {n m : Nat} (o : Own h0 4 h w n (recs arw rs)) (e : Ext h0 h) (s : Sl 4 h x m (recs arw qs)) (hn : n ≤ 1000000) (hm : m ≤ 1000000) :
    ∃ w' g, appendV 4 32 h w x = .ok w' g ∧ Ext h0 g ∧ Own h0 4 g w' (n + m) (recs arw (rs ++ qs)) := by
  obtain ⟨w', g, r1, r3, r4, _⟩ := Own.app (bytes := 32) o e s (by
    intro u hu
    obtain ⟨a, _, h⟩ := List.mem_flatMap.1 hu
    exact arw_one a u h) (by omega) (by omega) (by omega)
  exact ⟨w', g, r1, r3, by rw [recs_append]; exact r4⟩
theorem eqV_self4 (a b c d : Int) : eqV (.agg [.i .i64, .i .i64, .i .i64, .i .i64]) (.agg [.i .i64 a, .i .i64 b, .i .i64 c, .i .i64 d]) (.agg [.i .i64 a, .i .i64 b, .i .i64 c, .i .i64 d]) = some true := by
  simp [eqV, fitL, KT.fits, cellsEq, scalarEq]
theorem abreast_small (xs : List Int) (h : xs.length ≤ 1000000) : (abreastS xs 3).1.length ≤ 1000000 ∧ ∀ x ∈ (abreastS xs 3).1, x.length ≤ 1000000 := by
  unfold abreastS
  split
  · simp
  · split
    · simp
    · show (chunks xs 3).length ≤ 1000000 ∧ ∀ x ∈ chunks xs 3, x.length ≤ 1000000
      refine ⟨?_, fun x hx => ?_⟩
      · have := rows_le (n := xs.length) (k := 3) (by omega)
        simp [chunks]; omega
      · obtain ⟨j, _, rfl⟩ := List.mem_map.1 hx
        rw [chunk_len]; omega
theorem t19 : tblA 19 = some a19 := by kernel_rfl
set_option maxHeartbeats 1000000 in
theorem law_memory {h : H} {N : Int} {v o : V} {rs : List Arw} {xs : List Int} (hr : Arrs h v rs) (hs : Arg 1 h o xs.length (ints xs)) : WC tblA (.fn 19 [] []) [.agg [.i .i64 N, v], o] h fun u h' => u = .b true ∧ Ext h h' := by
  refine (WC_in t19).2 ?_
  obtain ⟨e0, g0⟩ := rel_blk h N v
  simp only [go_sem, ↓reduceIte, r19_0]
  have hr0 := hr.ext e0
  have hs0 := hs.ext e0
  have n0 : (h.new (.cells [.i .i64 N, v])).next = h.next + 1 := by simp
  generalize hh : h.new (.cells [.i .i64 N, v]) = h0 at *
  have l0 : ∀ {h'}, Ext h0 h' → ldnV h' 2 (.p h.next 0) = some (.agg [.i .i64 N, v]) := fun e => blk_ldn (e.get (by omega) g0) rfl
  have l1 : ∀ {h'}, Ext h0 h' → ldV h' (.p h.next 1) = some v := fun e => blk_ld (e.get (by omega) g0) rfl
  simp only [go_sem, ↓reduceIte, r19_1, l0 (.refl _)]
  refine (fn_Few hr0 (by omega) (by omega)).mono ?_
  rintro _ h1 ⟨e1, rfl⟩
  have hs1 := hs0.ext e1
  by_cases c1 : N ≤ 10 ∧ (rs.length : Int) ≤ 200
  case neg =>
    simp only [go_sem, ↓reduceIte, r19_2, c1]
    exact e0.trans e1
  by_cases c2 : (30 : Int) < (xs.length : Int)
  · simp only [go_sem, ↓reduceIte, r19_2, c1, Sl.len hs1.sl, c2]
    exact e0.trans e1
  have hi1 : Ints h1 o xs := (Ints.of hs1.sl).1
  obtain ⟨oL, xL⟩ := Own.lit (esz := 4) (Ext.refl h1) (recs arw []) 0 rfl
  obtain ⟨w5, h2, p0, p1, p2⟩ := app_arr oL xL ((hr0.ext e1).ext xL) (by omega) (show rs.length ≤ 1000000 by omega)
  rw [List.nil_append, Nat.zero_add] at p2
  have p0' : appendV 4 32 (h1.new (.cells [])) (.sl h1.next 0 0 0 none) v = .ok w5 h2 := p0
  have l1' : ldV (h1.new (.cells [])) (.p h.next 1) = some v := l1 (e1.trans xL)
  obtain ⟨w6, h3, q0, q1, q2⟩ := app_all (hi1.ext p1) (show xs.length ≤ 1000000 by omega)
  have e03 : Ext h0 h3 := e1.trans (p1.trans q1)
  simp only [go_sem, ↓reduceIte, c1, Sl.len hs1.sl, c2, r19_3, l1', p0', r19_4, q0]
  simp only [go_sem, ↓reduceIte, r19_5, l0 e03]
  refine (fn_Least (hr0.ext e03) (by omega)).mono ?_
  rintro _ h4 ⟨e4, p, rfl, hp⟩
  obtain ⟨pv, pt, hA, rfl, a1, a2, a3, a4⟩ := st_planO hp.rd
  have e0A : Ext h0 hA := e03.trans (e4.trans a2)
  have hpA : PlanR hA (.agg [pv, .i .i64 (leastP N rs).off, pt]) (leastP N rs) := hp.rd.ext a2
  have o5 : Own h1 4 hA w5 rs.length (recs arw rs) := p2.ext (q1.trans (e4.trans a2))
  have o6 : Ints hA w6 xs := q2.ints.ext (e4.trans a2)
  simp only [go_sem, ↓reduceIte, a1, r19_6, l0 e0A]
  refine (fn_Least (hr0.ext e0A) (by omega)).mono ?_
  rintro _ h6 ⟨e6, q, rfl, hq⟩
  obtain ⟨qv, qt, rfl, oq, tq⟩ := hq
  obtain ⟨s1, s2, s3⟩ := leastP_small N rs
  have hqt := TBx.rd tq
  obtain ⟨h7, b1, b2, b3, b4⟩ := st_newK h6 [.sn, .i .i64 0, .sn] [qv, .i .i64 (leastP N rs).off, qt] rfl (by
    intro u hu
    simp at hu
    rcases hu with rfl | rfl | rfl
    · exact oq.one.2
    · rfl
    · exact hqt.one.2)
  have b1' : stV (h6.new (.cells [.sn, .i .i64 0, .sn])) 3 (.p h6.next 0) (.agg [qv, .i .i64 (leastP N rs).off, qt]) = some h7 := b1
  have eA7 : Ext hA h7 := e6.trans b2
  have wq : Wl hA h7 qv (leastP N rs).order.length := (Wl.own oq (Nat.le_refl _)).ext b2
  have lv : ldV h7 (.p h6.next 0) = some qv := blk_ld b3 rfl
  have tq7 : TBx hA hA h7 qt (leastP N rs).tabs := TBx.ext tq b2
  have zq : ZT hA h7 qt (leastP N rs).tabs.length := zt_of tq7 (Nat.le_refl _) s3
  simp only [go_sem, ↓reduceIte, b1', r19_7, lv, wq.len]
  refine in19_0 (v := qv) (n := (leastP N rs).order.length) (bX := h6.next) (cs := [qv, .i .i64 (leastP N rs).off, qt]) ?_ ?_ ?_ ?_ b3 rfl ?_ wq s1 ?_
  · simp only [upd_length, pad_length]; rfl
  · simp only [go_sem, ↓reduceIte]
  · simp only [go_sem, ↓reduceIte]
  · simp only [go_sem, ↓reduceIte]
  · by_cases m0 : (leastP N rs).order.length = 0
    · exact .inl m0
    · rcases oq.wlt' with z | z
      · exact absurd z (oq.pos (by omega)).1
      · exact .inr (by omega)
  intro t h8 tl hp8 x8 hz8
  have f8 : Ext hA h8 ∧ ZT hA h8 qt (leastP N rs).tabs.length ∧ h8.get h6.next = some (.cells [qv, .i .i64 (leastP N rs).off, qt]) := by
    by_cases m0 : (leastP N rs).order.length = 0
    · rw [hz8 m0]; exact ⟨eA7, zq, b3⟩
    · have hlt : blkV qv < h6.next := by
        rcases oq.wlt' with z | z
        · exact absurd z (oq.pos (by omega)).1
        · exact z.2
      refine ⟨x8.ext hA (wq.ge m0) eA7, ?_, (x8.keep _ (by omega)).trans b3⟩
      rcases tbx_ne tq7 (oq.ext b2) m0 with ⟨z1, z2⟩ | z
      · rw [z1, z2]; exact zt_sn
      · exact zq.wr x8 z
  obtain ⟨e8, z8, g8⟩ := f8
  have P1 : nth t 1 = o := by rw [hp8 1 (by omega) (by omega)]; simp only [go_sem, ↓reduceIte]
  have P2 : nth t 2 = .p h.next 0 := by rw [hp8 2 (by omega) (by omega)]; simp only [go_sem, ↓reduceIte]
  have P5 : nth t 5 = w5 := by rw [hp8 5 (by omega) (by omega)]; simp only [go_sem, ↓reduceIte]
  have P6 : nth t 6 = w6 := by rw [hp8 6 (by omega) (by omega)]; simp only [go_sem, ↓reduceIte]
  have P7 : nth t 7 = .p h4.next 0 := by rw [hp8 7 (by omega) (by omega)]; simp only [go_sem, ↓reduceIte]
  have P8 : nth t 8 = .i .i64 (circledS N rs) := by rw [hp8 8 (by omega) (by omega)]; simp only [go_sem, ↓reduceIte]
  have P9 : nth t 9 = .p h6.next 0 := by rw [hp8 9 (by omega) (by omega)]; simp only [go_sem, ↓reduceIte]
  clear hp8
  have hqtl : lenV qt = some (leastP N rs).tabs.length := by obtain ⟨cs, s, _⟩ := z8; exact s.len
  have lt8 : ldV h8 (.p h6.next 2) = some qt := blk_ld g8 rfl
  simp only [go_sem, ↓reduceIte, r19_12, tl, P9, lt8, hqtl]
  refine out19_3 (v := qt) (n := (leastP N rs).tabs.length) ?_ ?_ ?_ ?_ z8 e8 s2 ?_
  · simp only [upd_length, tl]
  · simp only [go_sem, ↓reduceIte, tl]
  · simp only [go_sem, ↓reduceIte, tl]
  · simp only [go_sem, ↓reduceIte, tl]
  intro t9 h9 tl9 hp9 e9
  have P1' : nth t9 1 = o := by rw [hp9 1 (by omega) (by omega) (by omega) (by omega)]; simp only [go_sem, ↓reduceIte, P1]
  have P2' : nth t9 2 = .p h.next 0 := by rw [hp9 2 (by omega) (by omega) (by omega) (by omega)]; simp only [go_sem, ↓reduceIte, P2]
  have P5' : nth t9 5 = w5 := by rw [hp9 5 (by omega) (by omega) (by omega) (by omega)]; simp only [go_sem, ↓reduceIte, P5]
  have P6' : nth t9 6 = w6 := by rw [hp9 6 (by omega) (by omega) (by omega) (by omega)]; simp only [go_sem, ↓reduceIte, P6]
  have P7' : nth t9 7 = .p h4.next 0 := by rw [hp9 7 (by omega) (by omega) (by omega) (by omega)]; simp only [go_sem, ↓reduceIte, P7]
  have P8' : nth t9 8 = .i .i64 (circledS N rs) := by rw [hp9 8 (by omega) (by omega) (by omega) (by omega)]; simp only [go_sem, ↓reduceIte, P8]
  clear hp9 P1 P2 P5 P6 P7 P8 P9
  have eI9 : Ints h9 o xs := (hi1.ext (p1.trans (q1.trans (e4.trans a2)))).ext e9
  have e09 := e0A.trans e9
  simp only [go_sem, ↓reduceIte, r19_26, tl9, P1', P2', l0 e09]
  refine (fn_Sorted (hr0.ext e09) (by omega) eI9 (by omega)).mono ?_
  rintro _ hB ⟨eB, ws, ys, rfl, ows, hys⟩
  have hyl : ys.length ≤ 1000000 := by have := (sorted_len hys).1; omega
  have wys : Wl hA hB ws ys.length := Wl.own ows e9.nx
  have eAB := e9.trans eB
  simp only [go_sem, ↓reduceIte, r19_27, tl9, wys.len]
  refine in19_4 (v := ws) (n := ys.length) ?_ ?_ ?_ ?_ wys hyl ?_
  · simp only [upd_length, tl9]
  · simp only [go_sem, ↓reduceIte, tl9]
  · simp only [go_sem, ↓reduceIte, tl9]
  · simp only [go_sem, ↓reduceIte, tl9]
  intro tc hC tlc hpc xc hzc
  have eC : Ext hA hC := by
    by_cases m0 : ys.length = 0
    · rw [hzc m0]; exact eAB
    · exact xc.ext hA (wys.ge m0) eAB
  have C1 : nth tc 1 = o := by rw [hpc 1 (by omega) (by omega)]; simp only [go_sem, ↓reduceIte, P1']
  have C2 : nth tc 2 = .p h.next 0 := by rw [hpc 2 (by omega) (by omega)]; simp only [go_sem, ↓reduceIte, P2']
  have C5 : nth tc 5 = w5 := by rw [hpc 5 (by omega) (by omega)]; simp only [go_sem, ↓reduceIte, P5']
  have C6 : nth tc 6 = w6 := by rw [hpc 6 (by omega) (by omega)]; simp only [go_sem, ↓reduceIte, P6']
  have C7 : nth tc 7 = .p h4.next 0 := by rw [hpc 7 (by omega) (by omega)]; simp only [go_sem, ↓reduceIte, P7']
  have C8 : nth tc 8 = .i .i64 (circledS N rs) := by rw [hpc 8 (by omega) (by omega)]; simp only [go_sem, ↓reduceIte, P8']
  clear hpc P1' P2' P5' P6' P7' P8'
  have eIA : ∀ {h'}, Ext hA h' → Arg 1 h' o xs.length (ints xs) := fun e => hs1.ext ((p1.trans (q1.trans (e4.trans a2))).trans e)
  simp only [go_sem, ↓reduceIte, r19_32, tlc, C1]
  refine (fn_Alternat (eIA eC) (by omega)).mono ?_
  rintro ua hD ⟨eD, rD⟩
  have eAD := eC.trans eD
  obtain ⟨wa, ea, ma, rfl, hma, zA⟩ := zl_alt (h0 := hA) rD eC.nx (by omega)
  have zAl : lenV wa = some ma := by obtain ⟨cs, s, _⟩ := id zA; exact s.len
  simp only [go_sem, ↓reduceIte, r19_33, tlc, zAl]
  refine out19_6 (v := wa) (n := ma) ?_ ?_ ?_ ?_ zA eAD hma ?_
  · simp only [upd_length, tlc]
  · simp only [go_sem, ↓reduceIte, tlc]
  · simp only [go_sem, ↓reduceIte, tlc]
  · simp only [go_sem, ↓reduceIte, tlc]
  intro td hE tld hpd eE
  have D1 : nth td 1 = o := by rw [hpd 1 (by omega) (by omega) (by omega)]; simp only [go_sem, ↓reduceIte, C1]
  have D2 : nth td 2 = .p h.next 0 := by rw [hpd 2 (by omega) (by omega) (by omega)]; simp only [go_sem, ↓reduceIte, C2]
  have D5 : nth td 5 = w5 := by rw [hpd 5 (by omega) (by omega) (by omega)]; simp only [go_sem, ↓reduceIte, C5]
  have D6 : nth td 6 = w6 := by rw [hpd 6 (by omega) (by omega) (by omega)]; simp only [go_sem, ↓reduceIte, C6]
  have D7 : nth td 7 = .p h4.next 0 := by rw [hpd 7 (by omega) (by omega) (by omega)]; simp only [go_sem, ↓reduceIte, C7]
  have D8 : nth td 8 = .i .i64 (circledS N rs) := by rw [hpd 8 (by omega) (by omega) (by omega)]; simp only [go_sem, ↓reduceIte, C8]
  clear hpd C1 C2 C5 C6 C7 C8
  simp only [go_sem, ↓reduceIte, r19_42, tld, D1]
  refine (fn_AbreastO (k := 3) (eIA eE) (by omega)).mono ?_
  rintro _ hF ⟨eF, wf, hR, rfl, hRn, rF⟩
  have eAF := eE.trans eF
  have hfb : (abreastS xs 3).1.length ≤ 1000000 ∧ ∀ x ∈ (abreastS xs 3).1, x.length ≤ 1000000 := abreast_small xs (by omega)
  have zF := zl_of (h0 := hA) rF (by have := eE.nx; omega) hfb.2
  have zFl : lenV wf = some (abreastS xs 3).1.length := by obtain ⟨cs, s, _⟩ := id zF; exact s.len
  simp only [go_sem, ↓reduceIte, r19_43, tld, zFl]
  refine out19_8 (v := wf) (n := (abreastS xs 3).1.length) ?_ ?_ ?_ ?_ zF eAF hfb.1 ?_
  · simp only [upd_length, tld]
  · simp only [go_sem, ↓reduceIte, tld]
  · simp only [go_sem, ↓reduceIte, tld]
  · simp only [go_sem, ↓reduceIte, tld]
  intro te hG tle hpe eG
  have E1 : nth te 1 = o := by rw [hpe 1 (by omega) (by omega) (by omega)]; simp only [go_sem, ↓reduceIte, D1]
  have E2 : nth te 2 = .p h.next 0 := by rw [hpe 2 (by omega) (by omega) (by omega)]; simp only [go_sem, ↓reduceIte, D2]
  have E5 : nth te 5 = w5 := by rw [hpe 5 (by omega) (by omega) (by omega)]; simp only [go_sem, ↓reduceIte, D5]
  have E6 : nth te 6 = w6 := by rw [hpe 6 (by omega) (by omega) (by omega)]; simp only [go_sem, ↓reduceIte, D6]
  have E7 : nth te 7 = .p h4.next 0 := by rw [hpe 7 (by omega) (by omega) (by omega)]; simp only [go_sem, ↓reduceIte, D7]
  have E8 : nth te 8 = .i .i64 (circledS N rs) := by rw [hpe 8 (by omega) (by omega) (by omega)]; simp only [go_sem, ↓reduceIte, D8]
  clear hpe D1 D2 D5 D6 D7 D8
  have e0G := e0A.trans eG
  simp only [go_sem, ↓reduceIte, r19_52, tle, E2, l0 e0G]
  refine (fn_Least (hr0.ext e0G) (by omega)).mono ?_
  rintro _ hH ⟨eH, p', rfl, hp'⟩
  obtain ⟨pv', pt', hI, rfl, f1, f2, f3, f4⟩ := st_planO hp'.rd
  have eGI := eH.trans f2
  have eAI := eG.trans eGI
  have e0I := e0A.trans eAI
  have s5 : Arrs hI w5 rs := (o5.ext eAI).sl
  have sv := hr0.ext e0I
  simp only [go_sem, ↓reduceIte, f1, r19_53, tle, E5, s5.len]
  refine W_while (fun k t h' => ∃ i : Nat, k = rs.length - i ∧ i ≤ rs.length ∧ t.length = 193 ∧ nth t 1 = o ∧ nth t 2 = .p h.next 0 ∧ nth t 5 = w5 ∧ nth t 6 = w6 ∧ nth t 7 = .p h4.next 0 ∧ nth t 8 = .i .i64 (circledS N rs) ∧ nth t 29 = .p hH.next 0 ∧ nth t 30 = .i .i64 (circledS N rs) ∧ nth t 162 = .i .i64 (rs.length : Int) ∧ nth t 163 = .i .i64 (i : Int) ∧ hI = h') ?_ rs.length ?_
  · rintro k t _ ⟨i, rfl, hi, tl, t1, t2, t5, t6, t7, t8, t29, t30, t162, t163, rfl⟩
    unfold b19_9
    by_cases hlt : i < rs.length
    · have hltI : (i : Int) < (rs.length : Int) := by omega
      obtain ⟨a, hx⟩ : ∃ a, rs[i]? = some a := ⟨_, List.getElem?_eq_getElem hlt⟩
      simp only [go_sem, ↓reduceIte, r19_54, r19_55, r19_56, r19_58, tl, t1, t2, t5, t6, t7, t8, t29, t30, t162, t163, hltI, s5.ix hlt, s5.ldn hx, l1 e0I, sv.ix hlt, sv.ldn hx, eqV_self4, wrap_succ (show i < 1000000000 by omega)]
      exact ⟨rs.length - (i + 1), by omega, i + 1, rfl, hlt, rfl⟩
    · have hltI : ¬ (i : Int) < (rs.length : Int) := by omega
      have lc : ldnV hI 3 (.p h4.next 0) = some (.agg [pv, .i .i64 (leastP N rs).off, pt]) := blk_ldn (eAI.get (by omega) a3) rfl
      have ld' : ldnV hI 3 (.p hH.next 0) = some (.agg [pv', .i .i64 (leastP N rs).off, pt']) := blk_ldn f3 rfl
      simp only [go_sem, ↓reduceIte, r19_54, r19_59, tl, t1, t2, t5, t6, t7, t8, t29, t30, t162, t163, hltI, lc, ld']
      refine (fn_SamePlan (hpA.ext eAI) (hp'.rd.ext f2) s1 s2 s3).mono ?_
      rintro _ hJ ⟨eJ, rfl⟩
      simp only [go_sem, ↓reduceIte, tl, t1, t6]
      refine (fn_SameInts (o6.ext (eAI.trans eJ)) ((Ints.of (eIA (eAI.trans eJ)).sl).1) (by omega)).mono ?_
      rintro _ hK ⟨rfl, hh9⟩
      obtain rfl : hJ = hK := hh9.symm
      simp only [go_sem, ↓reduceIte, tl]
      exact e0.trans (e0I.trans eJ)
  · refine ⟨0, by omega, by omega, ?_⟩
    simp only [go_sem, ↓reduceIte, tle, E1, E2, E5, E6, E7, E8]
end Go.Air
set_option maxRecDepth 100000
namespace Go.Air
open Go.ChangeShapes Go.WideShapes Go.ChangeAt Go.RowKit
def absV (n : Nat) : Value → Option V
  | .int k i => some (.i k i)
  | .bool b => some (.b b)
  | .slice none 0 0 => some .sn
  | .slice (some ⟨b, o, none⟩) l c => if b < n ∧ l ≤ c ∧ 0 < c then some (.sl b o l c none) else if l = 0 ∧ c = 0 then some (.se ⟨b, o, none⟩) else none
  | .slice (some ⟨b, o, some s⟩) l c => if l = 0 ∧ c = 0 then some (.se ⟨b, o, some s⟩) else none
  | _ => none
def R0 (w : World) : Emb := fun b => if b < w.heap.size then some (b, 0) else none
theorem absV_conc {w : World} {v : Value} {u : V} (h : absV w.heap.size v = some u) : conc (R0 w) u = some v := by
  unfold absV at h
  split at h
  · cases h; simp [conc]
  · cases h; simp [conc]
  · cases h; simp [conc]
  · split at h
    · rename_i hc
      cases h
      simp [conc, R0, hc.1]
    · split at h <;> try cases h
      rename_i hc
      obtain ⟨rfl, rfl⟩ := hc
      simp [conc]
  · split at h <;> try cases h
    rename_i hc
    obtain ⟨rfl, rfl⟩ := hc
    simp [conc]
  · cases h
def mkT (f : Nat → Option Blk) : Nat → T Blk
  | 0 => .e
  | n + 1 => (mkT f n).set n (f n)
theorem mkT_get (f : Nat → Option Blk) : ∀ (n b : Nat), (mkT f n).get b = if b < n then f b else none
  | 0, b => by cases b <;> simp [mkT, T.get]
  | n + 1, b => by
    simp only [mkT, T.get_set, mkT_get f n b]
    by_cases h : b = n
    · subst h; simp
    · simp only [if_neg h]
      by_cases h2 : b < n
      · rw [if_pos h2, if_pos (by omega)]
      · rw [if_neg h2, if_neg (by omega)]
def roOf (n : Nat) : Option Obj → Option Blk
  | some (.cells arr _ _) => some (.ro (arr.toList.map (absV n)))
  | _ => none
def h0 (w : World) : H := ⟨w.heap.size, mkT (fun b => roOf w.heap.size w.heap[b]?) w.heap.size, []⟩
theorem h0_get (w : World) (b : Nat) : (h0 w).get b = if b < w.heap.size then roOf w.heap.size w.heap[b]? else none := mkT_get _ _ _
theorem h0_sim (P : Program) (w : World) : Sim P allB (R0 w) (h0 w).get w := by
  refine ⟨?_, ?_, ?_⟩
  · intro b c sz x _ hb hx
    simp only [R0] at hb
    split at hb <;> simp only [Option.some.injEq, Prod.mk.injEq, reduceCtorEq] at hb
    rename_i hlt
    obtain ⟨rfl, rfl⟩ := hb
    rw [h0_get, if_pos hlt] at hx
    unfold roOf at hx
    split at hx <;> simp only [Option.some.injEq, reduceCtorEq] at hx
    rename_i arr e f ho
    subst hx
    refine ⟨arr, e, f, ho, by simp, fun i v hi => ?_⟩
    rw [List.getElem?_map, Option.map_eq_some_iff] at hi
    obtain ⟨y, h1, h2⟩ := hi
    exact ⟨y, h1, absV_conc h2⟩
  · intro b b' c sz sz' x x' _ _ hb hb' _ _
    simp only [R0] at hb hb'
    split at hb <;> simp only [Option.some.injEq, Prod.mk.injEq, reduceCtorEq] at hb
    split at hb' <;> simp only [Option.some.injEq, Prod.mk.injEq, reduceCtorEq] at hb'
    omega
  · intro b c sz hb
    simp only [R0] at hb
    split at hb <;> simp only [Option.some.injEq, Prod.mk.injEq, reduceCtorEq] at hb
    omega
theorem h0_wf (w : World) : WF (h0 w) := by
  refine ⟨fun b hb => ?_, fun _ hb => by simp [h0] at hb⟩
  have hb : w.heap.size ≤ b := hb
  rw [h0_get, if_neg (by omega)]
theorem lift_true {g : Nat} {args : List V} {vs : List Value} {W : World} (hargs : concL (R0 W) args = some vs)
    (hrun : WC Try.tblA (.fn g [] []) args (h0 W) fun v h' => v = .b true ∧ Ext (h0 W) h') :
    Calls Go.Proofs.Try.prog g vs.toArray W fun e W' => e = .returned (.bool true) ∧ Below W.heap.size W W' := by
  obtain ⟨k, v, h', he, rfl, hx⟩ := hrun
  have hfr : Fresh (R0 W) (h0 W) h' := fun b hb _ => by
    have hb : W.heap.size ≤ b := hb
    simp only [R0]
    rw [if_neg (by omega)]
  have h1 := (air_fn Try.mixed Try.okA he (h0_sim _ W) hfr (h0_wf W) hargs).2 none 0
  have h2 : CallsIn Fence.wide 0 Go.Proofs.Try.prog g vs.toArray W _ := h1
  refine (callsIn_wide.1 h2).mono ?_
  intro e W' q
  cases e with
  | returned x =>
    obtain ⟨R', l, f, _, hc⟩ := q
    refine ⟨by simp [conc] at hc; rw [hc], f.io.1, f.io.2.1, f.io.2.2, f.size, fun c hlt => f.frame c hlt fun b sz hb hl => ?_⟩
    obtain ⟨l', e1, e2⟩ := hx.log
    have e3 := f.log
    rw [e1] at e3
    have : l' = l := List.append_cancel_right e3
    subst this
    have := e2 b hl
    have hn : (h0 W).next = W.heap.size := rfl
    simp only [R0] at hb
    split at hb <;> simp only [Option.some.injEq, Prod.mk.injEq, reduceCtorEq] at hb
    omega
  | _ => exact q.elim
theorem own : ownKnob Go.Proofs.Try.prog.godebug = none := by kernel_rfl
theorem laid : laidOutB Go.Proofs.Try.prog = true := by kernel_rfl
theorem trodAll_stays {H : Type} {enc : TypeId × Value → H} {P : Program} {base : Nat} (hl : laidOutB P = true) {W W' : World} {sp : Nat → Bool} : ∀ {ts : List TypeId} {vs : List Value} {ds : List (DataW H)} {ps : List MemPlace},
    (∀ t ∈ ts, P.readableRec t = true ∧ t < P.types.size) → DataW.TrodAll enc P W base (fun _ => true) true ts vs ds ps → (∀ p ∈ ps, W.sameAt W' p) → (∀ p ∈ ps, sp p.block = true) → DataW.TrodAll enc P W' base sp true ts vs ds ps
  | [], _, _, _, _, h, _, _ => by
    obtain ⟨rfl, rfl, rfl⟩ := trodAll_nil h
    exact h
  | t :: ts, _, _, _, ht, h, h1, h2 => by
    obtain ⟨v, vs1, d, ds1, a, b, rfl, rfl, rfl, q1, q2⟩ := trodAll_cons h
    have := ht t (by simp)
    exact ⟨a, b, WideElems.Trod_stays hl this.1 this.2 q1 (fun p hp => h1 p (List.mem_append_left _ hp)) (fun p hp => h2 p (List.mem_append_left _ hp)),
      trodAll_stays hl (fun t ht' => ht t (by simp [ht'])) q2 (fun p hp => h1 p (List.mem_append_right _ hp)) (fun p hp => h2 p (List.mem_append_right _ hp)), rfl⟩
theorem trodAll_length {H : Type} {enc : TypeId × Value → H} {P : Program} {w : World} {base : Nat} {spare : Nat → Bool} {held : Bool} : ∀ {ts : List TypeId} {vs : List Value} {ds : List (DataW H)} {ps : List MemPlace},
    DataW.TrodAll enc P w base spare held ts vs ds ps → ds.length = ts.length
  | [], _, _, _, h => by
    obtain ⟨_, rfl, _⟩ := trodAll_nil h
    rfl
  | t :: ts, _, _, _, h => by
    obtain ⟨v, vs1, d, ds1, a, b, rfl, rfl, rfl, q1, q2⟩ := trodAll_cons h
    simp [trodAll_length q2]
noncomputable def readable (l : List TypeId) : Bool := l.all fun t => Go.Proofs.Try.prog.readableRec t && decide (t < Go.Proofs.Try.prog.types.size)
theorem post_true {H : Type} {enc : TypeId × Value → H} {f : Func} {s : ChangeSpec} {W W' : World} {args : Array Value} {bt : TypeId} {ds gs : List (DataW H)} {before : List MemPlace}
    (hW : DataW.Whole enc Go.Proofs.Try.prog f.params.toList s.vars false W args.toList ds gs before) (hv : s.vars = []) (hs : s.fn H ds = { results := [.lit (.bool true)], args := ds })
    (hr : f.resultTypes = #[bt]) (hbt : Go.Proofs.Try.prog.underlying bt = some .bool) (hp : readable f.params.toList = true) (hb : Below W.heap.size W W') :
    s.post enc Go.Proofs.Try.prog f false true false false W args (.bool true) W' := by
  have hlt := hW.lt
  have hW' := hW
  obtain ⟨p, q, hA, hV, rfl, hfz, hnd⟩ := hW
  rw [hv] at hV
  have hV0 := hV
  obtain ⟨rfl, rfl⟩ := trodVars_none hV
  have hread : ∀ t ∈ f.params.toList, Go.Proofs.Try.prog.readableRec t = true ∧ t < Go.Proofs.Try.prog.types.size := by
    intro t ht
    have := List.all_eq_true.1 hp t ht
    simpa using this
  have hlt' : ∀ x ∈ p, x.block < W.heap.size := fun x hx => hlt x (by simp [hx])
  have e : s.fn H (ds ++ []) = { results := [.lit (.bool true)], args := ds } := by simpa using hs
  refine ⟨ds, [], p ++ [], [], p, [], hW', ?_, ?_, ?_, hb.frame _, fun ha => by cases ha⟩
  · rw [e, hr]
    exact trodAll_mk1 (shut_bool hbt true)
  · rw [e]
    exact trodAll_stays laid hread hA (fun x hx => hb.same (hlt' x hx)) (fun x hx => by simpa using hlt' x hx)
  · rw [e, hv]
    exact hV0
theorem row_true {g : Nat} {fn : Func} {s : ChangeSpec} {bt : TypeId} (hfn : Go.Proofs.Try.prog.funcs[g]? = some fn) (hv : s.vars = [])
    (hs : ∀ (H : Type) (ds : List (DataW H)), ds.length = fn.params.size → s.fn H ds = { results := [.lit (.bool true)], args := ds })
    (hr : fn.resultTypes = #[bt]) (hbt : Go.Proofs.Try.prog.underlying bt = some .bool) (hp : readable fn.params.toList = true) (hni : Go.Proofs.Try.checked.prog.inits.idxOf? g = none)
    (os : Os) (started : os.Started) (H : Type) (enc : TypeId × Value → H)
    (witness : ∃ (w : World) (tape : Tape) (i : Input), w.os = os ∧ (w.forCall tape i).Shaped Go.Proofs.Try.checked.prog ∧ i.vars = [] ∧ Input.okWide Go.Proofs.Try.checked.prog (w.forCall tape i) .any w.heap.size g i ∧
      s.pre6 enc Go.Proofs.Try.checked.prog fn [] false (w.forCall tape i).memory i.args ∧ Assume.holds {} Go.Proofs.Try.checked.prog (lone (Frame.enter Go.Proofs.Try.checked.prog g i.args .normal) [] (w.forCall tape i)))
    (hrun : ∀ (W : World) (args : List Value) (ds : List (DataW H)) (ps : List MemPlace) (base : Nat), (∀ (j : Nat) t v, fn.params[j]? = some t → args[j]? = some v → Value.okWide Go.Proofs.Try.prog W .any base t v) →
      DataW.TrodAll enc Go.Proofs.Try.prog W 0 (fun _ => true) true fn.params.toList args ds ps →
      (DataW.weightsEach Go.Proofs.Try.prog fn.params.toList ds).all (· ≤ reachBytes) = true →
      ∃ us, concL (R0 W) us = some args ∧ WC Try.tblA (.fn g [] []) us (h0 W) fun v h' => v = .b true ∧ Ext (h0 W) h') :
    ReturnsInHanded {} Go.Proofs.Try.checked os g .any (s.pre6 enc Go.Proofs.Try.checked.prog fn [] false) (s.post enc Go.Proofs.Try.checked.prog fn false true false false) := by
  refine returnsInHanded_of_change_shaped (C := Go.Proofs.Try.checked) own started hni hfn witness ?_
  intro W base args ds gs before hval hW _ hwt _ _
  have hW' := hW
  obtain ⟨p, q, hA, hV, rfl, hfz, hnd⟩ := hW
  rw [hv] at hV
  obtain ⟨rfl, rfl⟩ := trodVars_none hV
  have hw2 : (DataW.weightsEach Go.Proofs.Try.prog fn.params.toList ds).all (· ≤ reachBytes) = true := by
    have e : s.plain.varTypes Go.Proofs.Try.checked.prog = [] := by simp [DataSpec.varTypes, ChangeSpec.plain, hv]
    have h := hwt
    rw [e, List.append_nil, List.append_nil] at h
    exact h
  obtain ⟨us, h1, h2⟩ := hrun W args.toList ds p base (fun j t v h1 h2 => hval j t v h1 (by simpa using h2)) hA hw2
  have hcall := lift_true h1 h2
  rw [Array.toArray_toList] at hcall
  refine hcall.mono ?_
  rintro e W' ⟨rfl, hb⟩
  exact ⟨_, rfl, post_true hW' hv (hs H ds (by simpa using trodAll_length hA)) hr hbt hp hb⟩
end Go.Air
set_option maxRecDepth 100000
namespace Go.Air
open Go.ChangeShapes Go.WideShapes Go.ChangeAt Go.RowKit Go.Air.Try
theorem cutO_of : ∀ {cs : List (Option V)} {o n : Nat} {l : List V}, l.length = n → (∀ (i : Nat) (v : V), l[i]? = some v → cs[o + i]? = some (some v)) → o + n ≤ cs.length → cutO cs o n = some l
  | [], 0, 0, l, hl, _, _ => by
    obtain rfl := List.eq_nil_of_length_eq_zero hl
    rfl
  | _ :: _, 0, 0, l, hl, _, _ => by
    obtain rfl := List.eq_nil_of_length_eq_zero hl
    rfl
  | [], 0, n + 1, _, _, _, h => by simp at h
  | [], o + 1, n, _, _, _, h => by simp at h
  | x :: cs, 0, n + 1, l, hl, h, hle => by
    cases l with
    | nil => simp at hl
    | cons v l =>
      have h0 := h 0 v rfl
      simp only [Nat.add_zero, List.getElem?_cons_zero, Option.some.injEq] at h0
      subst h0
      have ih := cutO_of (cs := cs) (o := 0) (n := n) (l := l) (by simpa using hl) (fun i v hi => by
        have := h (i + 1) v (by simpa using hi)
        rw [show 0 + (i + 1) = (0 + i) + 1 by omega] at this
        simpa using this) (by simp at hle ⊢; omega)
      simp only [cutO, ih, Option.map_some]
  | x :: cs, o + 1, n, l, hl, h, hle => by
    simp only [cutO]
    refine cutO_of (o := o) hl (fun i v hi => ?_) (by simp at hle; omega)
    have := h i v hi
    rw [show o + 1 + i = (o + i) + 1 by omega] at this
    simpa using this
variable {W : World}
theorem cell_inv {a : Addr} {x : Value} (h : W.cell? a = some x) : a.spot = none ∧ ∃ arr e f, W.heap[a.block]? = some (.cells arr e f) ∧ arr.toList[a.off]? = some x := by
  unfold World.cell? at h
  split at h <;> try simp at h
  rename_i arr e f ho
  exact ⟨h.1, arr, e, f, ho, by simpa using h.2⟩
theorem arg_of {a : Addr} {len cap esz : Nat} {cs : List V} (hlen : cs.length = len * esz) (hc : 0 < cap) (hz : 0 < esz) (hle : len ≤ cap) {x0 : Value} (hx0 : W.cell? (a.add 0) = some x0)
    (hcell : ∀ i u, cs[i]? = some u → ∃ x, W.cell? (a.add i) = some x ∧ absV W.heap.size x = some u) :
    ∃ v, absV W.heap.size (.slice (some a) len cap) = some v ∧ conc (R0 W) v = some (.slice (some a) len cap) ∧ Arg esz (h0 W) v len cs := by
  obtain ⟨b, o, s⟩ := a
  obtain ⟨hs, arr, e, f, ho, _⟩ := cell_inv hx0
  obtain rfl : s = none := by simpa [Addr.add] using hs
  simp only [add_spot] at hcell ho
  have hb : b < W.heap.size := by
    rcases Nat.lt_or_ge b W.heap.size with h | h
    · exact h
    · rw [Array.getElem?_eq_none h] at ho; cases ho
  have hv : absV W.heap.size (.slice (some ⟨b, o, none⟩) len cap) = some (.sl b o len cap none) := by
    simp only [absV]
    rw [if_pos ⟨hb, hle, hc⟩]
  refine ⟨_, hv, absV_conc hv, .inr ⟨b, o, cap, _, rfl, hle, hb, by rw [h0_get, if_pos hb, ho]; rfl, ?_⟩⟩
  have hcell' : ∀ (i : Nat) (u : V), cs[i]? = some u → ∃ x, arr.toList[o + i]? = some x ∧ absV W.heap.size x = some u := by
    intro i u hi
    obtain ⟨x, h1, h2⟩ := hcell i u hi
    obtain ⟨_, arr', e', f', q1, q2⟩ := cell_inv h1
    simp only at q1 q2
    rw [ho] at q1
    cases q1
    exact ⟨x, q2, h2⟩
  simp only [Blk.rd]
  refine cutO_of hlen (fun i u hi => ?_) ?_
  · obtain ⟨x, h1, h2⟩ := hcell' i u hi
    rw [List.getElem?_map, h1, Option.map_some, h2]
  · by_cases h0 : len * esz = 0
    · have hx : o ≤ arr.toList.length := by
        obtain ⟨_, arr', e', f', q1, q2⟩ := cell_inv hx0
        simp only [add_spot] at q1 q2
        rw [ho] at q1
        cases q1
        have := (List.getElem?_eq_some_iff.1 q2).1
        simp only [Nat.add_zero] at this
        omega
      simp only [List.length_map]; omega
    · have hlt : len * esz - 1 < cs.length := by omega
      obtain ⟨x, h1, _⟩ := hcell' (len * esz - 1) cs[len * esz - 1] (List.getElem?_eq_getElem hlt)
      have := (List.getElem?_eq_some_iff.1 h1).1
      simp only [List.length_map]; omega
theorem open_intsA {H : Type} {enc : TypeId × Value → H} {t e : TypeId} {base : Nat} {v : Value} {d : DataW H} {p : List MemPlace} (ht : Go.Proofs.Try.prog.underlying t = some (.slice e)) (he : Go.Proofs.Try.prog.underlying e = some (.int .i64))
    (hc : Go.Proofs.Try.prog.cellsOf e = 1) (hval : Value.okWide Go.Proofs.Try.prog W .any base t v) (hd : DataW.Trod enc Go.Proofs.Try.prog W 0 (fun _ => true) true t v d p) :
    ∃ u n xs, absV W.heap.size v = some u ∧ conc (R0 W) u = some v ∧ Arg 1 (h0 W) u n (ints xs) ∧ n ≤ maxLen ∧ xs.length = n ∧ ∀ x ∈ xs, (Lit.int .i64 x).wf = true := by
  obtain ⟨a0, len, cap, rfl⟩ := okWide_slice ht hval
  obtain ⟨fuel, hf⟩ := hd
  rcases open_ints ht he hc hf with ⟨hcs, hx⟩ | ⟨a, l', c', zs, hcs, _, hl, hm, hz, hx, hcell, hw⟩
  · simp [Value.cells] at hcs
    obtain ⟨rfl, rfl, rfl⟩ := hcs
    exact ⟨.sn, 0, [], rfl, by simp [conc], .inl ⟨rfl, rfl, .inl rfl⟩, by simp, rfl, by simp⟩
  · simp [Value.cells] at hcs
    obtain ⟨rfl, rfl, rfl⟩ := hcs
    simp only [if_true] at hz
    by_cases h0 : cap = 0
    · subst h0
      obtain rfl : len = 0 := by omega
      obtain ⟨b, o, s⟩ := a
      refine ⟨.se ⟨b, o, s⟩, 0, [], ?_, by simp [conc], .inl ⟨rfl, rfl, .inr ⟨_, rfl⟩⟩, by simp, rfl, by simp⟩
      cases s <;> simp [absV]
    · obtain ⟨u, q1, q2, q3⟩ := arg_of (W := W) (a := a) (len := len) (cap := cap) (esz := 1) (cs := ints (zs.take len)) (by simp [ints]; omega) (by omega) (by omega) hl (hcell 0 (by omega)) (by
        intro i u hi
        rw [ints_get, Option.map_eq_some_iff] at hi
        obtain ⟨x, h1, rfl⟩ := hi
        have hlt := (List.getElem?_eq_some_iff.1 h1).1
        simp at hlt
        refine ⟨_, hcell i (by omega), ?_⟩
        have : zs.getD i 0 = x := by
          rw [List.getElem?_take_of_lt (by omega)] at h1
          rw [List.getD_eq_getElem?_getD, h1]; rfl
        rw [this]
        rfl)
      exact ⟨u, len, zs.take len, q1, q2, q3, by omega, by simp; omega, fun x hx => hw x (List.mem_of_mem_take hx)⟩
end Go.Air
set_option maxRecDepth 100000
namespace Go.Air
open Go.ChangeShapes Go.WideShapes Go.ChangeAt Go.RowKit Go.Air.Try Go.Deep
variable {W : World}
theorem trod_struct4 {H : Type} {enc : TypeId × Value → H} {P : Program} {w : World} {base : Nat} {spare : Nat → Bool} {held : Bool} {t : TypeId} {f0 f1 f2 f3 : Field} {fuel : Nat} {cs : List Value} {x : DataW H × List MemPlace} (ht : P.underlying t = some (.struct #[f0, f1, f2, f3])) (h : DataW.trod enc P w base spare held fuel t cs = some x) :
    ∃ y0 y1 y2 y3 n, cs.length = P.cellsOf t ∧ DataW.trod enc P w base spare held n f0.type ((cs.drop f0.offset).take (P.cellsOf f0.type)) = some y0 ∧
      DataW.trod enc P w base spare held n f1.type ((cs.drop f1.offset).take (P.cellsOf f1.type)) = some y1 ∧ DataW.trod enc P w base spare held n f2.type ((cs.drop f2.offset).take (P.cellsOf f2.type)) = some y2 ∧
      DataW.trod enc P w base spare held n f3.type ((cs.drop f3.offset).take (P.cellsOf f3.type)) = some y3 := by
  obtain ⟨xs, n, _, rfl, hl, hlen, hf⟩ := DataW.trod_struct ht h
  match xs, hlen with
  | [y0, y1, y2, y3], _ => exact ⟨y0, y1, y2, y3, n, hl, by simpa using hf 0 f0 rfl, by simpa using hf 1 f1 rfl, by simpa using hf 2 f2 rfl, by simpa using hf 3 f3 rfl⟩
def ArrsA (h : H) (v : V) (rs : List Arw) : Prop := Arg 4 h v rs.length (recs arw rs)
theorem open_arrowsAA {H : Type} {enc : TypeId × Value → H} {fuel : Nat} {cs : List Value} {x : DataW H × List MemPlace}
    (h : DataW.trod enc Go.Proofs.Try.prog W 0 (fun _ => true) true fuel 22 cs = some x) :
    ∃ v u rs, cs = [v] ∧ absV W.heap.size v = some u ∧ conc (R0 W) u = some v ∧ ArrsA (h0 W) u rs := by
  have c23 : Go.Proofs.Try.prog.cellsOf 41 = 4 := by kernel_rfl
  have c3 : Go.Proofs.Try.prog.cellsOf 3 = 1 := by kernel_rfl
  rcases open_slice Go.Proofs.Try.underlying22 h with ⟨hcs, _⟩ | ⟨a, len, cap, m, n, D, Pl, hcs, _, hl, hm, hmm, _, hx⟩
  · subst hcs
    exact ⟨_, .sn, [], rfl, rfl, by simp [conc], .inl ⟨rfl, rfl, .inl rfl⟩⟩
  · subst hcs
    simp only [if_true] at hmm
    subst hmm
    by_cases h0' : m = 0
    · subst h0'
      obtain rfl : len = 0 := by omega
      obtain ⟨b, o, s⟩ := a
      refine ⟨_, .se ⟨b, o, s⟩, [], rfl, ?_, by simp [conc], .inl ⟨rfl, rfl, .inr ⟨_, rfl⟩⟩⟩
      cases s <;> simp [absV]
    · have hz : ∀ i, ∃ q : Arw, i < m → ∀ (j : Nat) (u : V), (arw q)[j]? = some u → ∃ x, W.cell? (a.add (i * 4 + j)) = some x ∧ absV W.heap.size x = some u := by
        intro i
        by_cases hi : ¬ i < m
        · exact ⟨⟨0, 0, 0, 0⟩, fun h => absurd h hi⟩
        replace hi := Classical.not_not.1 hi
        obtain ⟨cs', h1, h2⟩ := hx i hi
        rw [c23] at h1
        obtain ⟨_, hlen, hcell⟩ := World.cells?_some h1
        obtain ⟨y0, y1, y2, y3, k, _, g0, g1, g2, g3⟩ := trod_struct4 Go.Proofs.Try.underlying41 h2
        rw [c3] at g0 g1 g2 g3
        match cs', hlen with
        | [v0, v1, v2, v3], _ =>
          obtain ⟨z0, e0, _⟩ := DataW.trod_int Go.Proofs.Try.underlying3 g0
          obtain ⟨z1, e1, _⟩ := DataW.trod_int Go.Proofs.Try.underlying3 g1
          obtain ⟨z2, e2, _⟩ := DataW.trod_int Go.Proofs.Try.underlying3 g2
          obtain ⟨z3, e3, _⟩ := DataW.trod_int Go.Proofs.Try.underlying3 g3
          simp at e0 e1 e2 e3
          subst e0 e1 e2 e3
          refine ⟨⟨z0, z1, z2, z3⟩, fun _ j u hj => ?_⟩
          have hj4 : j < 4 := (List.getElem?_eq_some_iff.1 hj).1
          have hc := hcell j hj4
          rw [add_add] at hc
          match j, hj4, hj, hc with
          | 0, _, hj, hc => simp [arw] at hj; subst hj; exact ⟨_, hc, rfl⟩
          | 1, _, hj, hc => simp [arw] at hj; subst hj; exact ⟨_, hc, rfl⟩
          | 2, _, hj, hc => simp [arw] at hj; subst hj; exact ⟨_, hc, rfl⟩
          | 3, _, hj, hc => simp [arw] at hj; subst hj; exact ⟨_, hc, rfl⟩
      obtain ⟨f, hf⟩ := Classical.axiomOfChoice hz
      have hget : ∀ i, i < len → ((List.range len).map f)[i]? = some (f i) := by intro i hi; simp [hi]
      have hrl := recs_len arw_len ((List.range len).map f)
      obtain ⟨x0, hx0, _⟩ := hf 0 (by omega) 0 _ rfl
      obtain ⟨u, q1, q2, q3⟩ := arg_of (W := W) (a := a) (len := len) (cap := m) (esz := 4) (cs := recs arw ((List.range len).map f)) (by rw [hrl]; simp) (by omega) (by omega) hl (x0 := x0) (by simpa using hx0) (by
        intro i u hi
        have hlt : i < len * 4 := by
          have := (List.getElem?_eq_some_iff.1 hi).1
          rw [hrl] at this
          simpa using this
        have hjl : i / 4 < len := by omega
        have hi' : i = i / 4 * 4 + i % 4 := by omega
        rw [hi'] at hi ⊢
        rw [recs_get arw_len (hget _ hjl) (by omega)] at hi
        exact hf (i / 4) (by omega) (i % 4) u hi)
      refine ⟨_, u, (List.range len).map f, rfl, q1, q2, ?_⟩
      unfold ArrsA
      simpa using q3
theorem open_relAA {H : Type} {enc : TypeId × Value → H} {base : Nat} {v : Value} {d : DataW H} {p : List MemPlace} (hval : Value.okWide Go.Proofs.Try.prog W .any base 24 v)
    (hd : DataW.Trod enc Go.Proofs.Try.prog W 0 (fun _ => true) true 24 v d p) : ∃ (N : Int) (u : V) (rs : List Arw), conc (R0 W) (.agg [.i .i64 N, u]) = some v ∧ ArrsA (h0 W) u rs := by
  have c3 : Go.Proofs.Try.prog.cellsOf 3 = 1 := by kernel_rfl
  have c22 : Go.Proofs.Try.prog.cellsOf 22 = 1 := by kernel_rfl
  have c24 : Go.Proofs.Try.prog.cellsOf 24 = 2 := by kernel_rfl
  obtain ⟨cs, rfl, hsz⟩ := okWide_struct Go.Proofs.Try.underlying24 hval
  obtain ⟨fuel, hf⟩ := hd
  obtain ⟨y0, y1, n, _, hl, q0, q1⟩ := trod_struct2 Go.Proofs.Try.underlying24 hf
  rw [c24] at hsz
  obtain ⟨l⟩ := cs
  simp only [Value.cells, List.size_toArray] at hsz q0 q1
  match l, hsz with
  | [x, y], _ =>
    rw [c3] at q0
    rw [c22] at q1
    obtain ⟨N, e1, _⟩ := DataW.trod_int Go.Proofs.Try.underlying3 q0
    obtain ⟨v, u, rs, e2, r1, r2, r3⟩ := open_arrowsAA q1
    simp at e1 e2
    subst e1 e2
    exact ⟨N, u, rs, by simp [conc, concL, r2], r3⟩
theorem open_relA {H : Type} {enc : TypeId × Value → H} {base : Nat} {v : Value} {d : DataW H} {p : List MemPlace} (hval : Value.okWide Go.Proofs.Try.prog W .any base 24 v)
    (hd : DataW.Trod enc Go.Proofs.Try.prog W 0 (fun _ => true) true 24 v d p) : ∃ (N : Int) (u : V) (rs : List Arw), conc (R0 W) (.agg [.i .i64 N, u]) = some v ∧ Arrs (h0 W) u rs := by
  obtain ⟨N, u, rs, q1, q2⟩ := open_relAA hval hd
  exact ⟨N, u, rs, q1, q2.sl⟩
end Go.Air
