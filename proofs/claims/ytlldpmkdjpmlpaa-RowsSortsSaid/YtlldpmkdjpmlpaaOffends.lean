/-
  Offence and Slights, the program's and the document's; the law RowsOffends; in Air.
-/
import Derived.Test.YtlldpmkdjpmlpaaOrders
set_option linter.unusedSectionVars false
set_option linter.unusedVariables false
set_option linter.unusedSimpArgs false
set_option maxRecDepth 100000
namespace Go.Air
open Go.Air.Try

theorem Ints.ixI {h : H} {v : V} {xs : List Int} (s : Ints h v xs) {x : Int} (h0 : 0 ≤ x) (h1 : x < xs.length) : ixV 1 v (.i .i64 x) = some (.p (blkV v) (offV v + x.toNat * 1)) := by
  obtain ⟨j, rfl⟩ := Int.eq_ofNat_of_zero_le h0
  exact s.ix (i := j) (by omega)

/-! ### places -/
def posL (xs : List Int) : List Int := (List.range xs.length).map fun (j : Nat) => (posN (j : Int) xs : Int)
theorem posL_len (xs : List Int) : (posL xs).length = xs.length := by simp [posL]
theorem posL_get {xs : List Int} {x : Int} (h0 : 0 ≤ x) (h1 : x < xs.length) : (posL xs)[x.toNat]? = some (posN x xs : Int) := by
  obtain ⟨j, rfl⟩ := Int.eq_ofNat_of_zero_le h0
  have hj : j < xs.length := by omega
  simp [posL, hj]
def posC (xs : List Int) (i : Nat) : List Int := (List.range xs.length).map fun (j : Nat) => if (j : Int) ∈ xs.take i then (posN (j : Int) xs : Int) else 0
theorem posC_len (xs : List Int) (i : Nat) : (posC xs i).length = xs.length := by simp [posC]
theorem posC_0 (xs : List Int) : posC xs 0 = List.replicate xs.length 0 := by
  apply List.ext_getElem?
  intro i
  by_cases hi : i < xs.length
  · simp [posC, hi]
  · rw [List.getElem?_eq_none (by rw [posC_len]; omega), List.getElem?_eq_none (by simp; omega)]
theorem posC_all {xs : List Int} (g : GoodO xs.length xs) : posC xs xs.length = posL xs := by
  simp only [posC, posL]
  apply List.map_congr_left
  intro j hj
  have hj := List.mem_range.1 hj
  rw [List.take_of_length_le (by omega), if_pos (goodO_mem g (by omega) (by omega))]
theorem posC_set {xs : List Int} {i j : Nat} (g : GoodO xs.length xs) (hx : xs[i]? = some (j : Int)) (hj : j < xs.length) : (posC xs i).set j (i : Int) = posC xs (i + 1) := by
  have hno : (j : Int) ∉ xs.take i := fun hm => goodO_bad hx (.inr (.inr hm)) g
  apply List.ext_getElem?
  intro k
  rw [List.getElem?_set]
  by_cases hk : k < xs.length
  · by_cases hjk : j = k
    · subst hjk
      rw [if_pos rfl, if_pos (by rw [posC_len]; exact hk)]
      simp only [posC, List.getElem?_map, List.getElem?_range hk, Option.map_some]
      rw [if_pos (by rw [take_succ' hx]; simp), posN_eq hx hno]
    · rw [if_neg hjk]
      simp only [posC, List.getElem?_map, List.getElem?_range hk, Option.map_some]
      have : ¬ (k : Int) = (j : Int) := by omega
      rw [take_succ' hx]
      simp [this]
  · rw [List.getElem?_eq_none (l := posC xs (i + 1)) (by rw [posC_len]; omega), List.getElem?_eq_none (l := posC xs i) (by rw [posC_len]; omega)]
    have : j ≠ k := by omega
    simp [this]
theorem ints_rep (n : Nat) : ints (List.replicate n 0) = List.replicate n (.i .i64 0) := by simp [ints]
theorem ints_set (l : List Int) (j : Nat) (x : Int) : (ints l).set j (.i .i64 x) = ints (l.set j x) := by simp [ints, List.map_set]

theorem t117 : tblA 117 = some a117 := by kernel_rfl
theorem fn_places {h : H} {v : V} {xs : List Int} (hs : Ints h v xs) (hn : xs.length ≤ 1000000) (g : GoodO xs.length xs) : WC tblA (.fn 117 [] []) [v] h fun u h' => Ext h h' ∧ Ints h' u (posL xs) := by
  refine (WC_in t117).2 ?_
  simp only [go_sem, ↓reduceIte, r117_0, r117_1, r117_2, hs.len, mkSl_ok (h := h) (c := [.i .i64 0]) (bytes := 8) (n := xs.length) (by omega) (by omega)]
  have e0 : Ext h (h.new (.cells (rep [.i .i64 0] xs.length))) := (Ext.refl h).new _
  have g0 : (h.new (.cells (rep [.i .i64 0] xs.length))).get h.next = some (.cells (ints (posC xs 0))) := by rw [H.get_new, if_pos rfl, rep_one, posC_0, ints_rep]
  have n0 : h.next < (h.new (.cells (rep [.i .i64 0] xs.length))).next := by simp
  generalize hh : h.new (.cells (rep [.i .i64 0] xs.length)) = h0 at *
  refine W_while (fun k t h' => ∃ i, k = xs.length - i ∧ i ≤ xs.length ∧ t.length = 22 ∧ nth t 3 = .sl h.next 0 xs.length xs.length none ∧ nth t 9 = v ∧ nth t 10 = .i .i64 (xs.length : Int) ∧ nth t 11 = .i .i64 (i : Int) ∧ Ext h h' ∧ h.next < h'.next ∧ h'.get h.next = some (.cells (ints (posC xs i)))) ?_ xs.length ?_
  · rintro k t h' ⟨i, rfl, hi, tl, t3, t9, t10, t11, e1, n1, g1⟩
    unfold b117_0
    by_cases hlt : i < xs.length
    · have hlt' : (i : Int) < (xs.length : Int) := by omega
      obtain ⟨x, hx⟩ : ∃ x, xs[i]? = some x := ⟨_, List.getElem?_eq_getElem hlt⟩
      have hr := g.2.1 x (List.mem_of_getElem? hx)
      obtain ⟨j, rfl⟩ := Int.eq_ofNat_of_zero_le (a := x) (by omega)
      have hj : j < xs.length := by omega
      have s1 := hs.ext e1
      simp only [go_sem, ↓reduceIte, r117_3, r117_4, r117_5, r117_6, tl, t3, t9, t10, t11, hlt', s1.ix hlt, s1.ld hx, ix_own hj, st_one g1 (show j < (ints (posC xs i)).length by simp [ints, posC_len]; exact hj), wrap_succ (show i < 1000000000 by omega)]
      refine ⟨xs.length - (i + 1), by omega, i + 1, rfl, hlt, rfl, e1.put (Nat.le_refl _) _, by simpa using n1, ?_⟩
      rw [H.get_put, if_pos rfl, ints_set, posC_set g hx hj]
    · have hlt' : ¬ (i : Int) < (xs.length : Int) := by omega
      simp only [go_sem, ↓reduceIte, r117_3, r117_7, tl, t3, t9, t10, t11, hlt']
      obtain rfl : i = xs.length := by omega
      rw [posC_all g] at g1
      refine ⟨e1, ?_⟩
      exact (Ints.of (n := xs.length) (.inr ⟨h.next, 0, xs.length, none, _, rfl, n1, g1, cut_eq.2 ⟨by simp [ints, posL_len], by rw [List.drop_zero, List.take_of_length_le (by simp [ints, posL_len])]⟩⟩)).1
  · refine ⟨0, by omega, by omega, ?_⟩
    simp only [go_sem, ↓reduceIte]
    exact ⟨e0, n0, g0⟩

/-! ### slights -/
def slt (s : Int × Int × Int) : List V := [.i .i64 s.1, .i .i64 s.2.1, .i .i64 s.2.2]
theorem slt_len (s : Int × Int × Int) : (slt s).length = 3 := rfl
theorem slt_one (s : Int × Int × Int) : ∀ u ∈ slt s, u.oneCell = true := by
  intro u hu; simp [slt] at hu; rcases hu with rfl | rfl | rfl <;> rfl
def Slts (h : H) (v : V) (L : List (Int × Int × Int)) : Prop := Sl 3 h v L.length (recs slt L)
theorem Slts.ext {h h' : H} {v : V} {L : List (Int × Int × Int)} (s : Slts h v L) (e : Ext h h') : Slts h' v L := Sl.ext s e
theorem Slts.nil {h : H} : Slts h .sn [] := .inl ⟨rfl, rfl, .inl rfl⟩
theorem Slts.len {h : H} {v : V} {L : List (Int × Int × Int)} (s : Slts h v L) : lenV v = some L.length := Sl.len s
theorem Slts.ix {h : H} {v : V} {L : List (Int × Int × Int)} (s : Slts h v L) {i : Nat} (hi : i < L.length) : ixV 3 v (.i .i64 (i : Int)) = some (.p (blkV v) (offV v + i * 3)) := Sl.ix s hi
theorem Slts.ldn {h : H} {v : V} {L : List (Int × Int × Int)} (s : Slts h v L) {i : Nat} {a : Int × Int × Int} (hx : L[i]? = some a) : ldnV h 3 (.p (blkV v) (offV v + i * 3)) = some (.agg [.i .i64 a.1, .i .i64 a.2.1, .i .i64 a.2.2]) := by
  rw [Sl.ldn s (List.getElem?_eq_some_iff.1 hx).1, recs_at slt_len L i a hx]; rfl
theorem Slts.of {h : H} {v : V} {n : Nat} {L : List (Int × Int × Int)} (s : Sl 3 h v n (recs slt L)) : Slts h v L ∧ L.length = n := by
  have : L.length = n := by have := s.length; rw [recs_len slt_len] at this; omega
  subst this
  exact ⟨s, rfl⟩
theorem st_slt (h : H) (z0 z1 z2 : V) (a : Int × Int × Int) : ∃ h2, stV (h.new (.cells [z0, z1, z2])) 3 (.p h.next 0) (.agg [.i .i64 a.1, .i .i64 a.2.1, .i .i64 a.2.2]) = some h2 ∧ Ext h h2 ∧ h2.get h.next = some (.cells (slt a)) ∧ h2.next = h.next + 1 :=
  st_newK h [z0, z1, z2] (slt a) rfl (slt_one a)

def slS (xs : List Int) (rs : List Arw) : List (Int × Int × Int) := rs.flatMap fun a => if posN a.t xs < posN a.f xs then [(a.f, a.t, a.w)] else []
theorem slS_step {xs : List Int} {rs : List Arw} {i : Nat} {a : Arw} (hx : rs[i]? = some a) : slS xs (rs.take (i + 1)) = slS xs (rs.take i) ++ if posN a.t xs < posN a.f xs then [(a.f, a.t, a.w)] else [] := by
  rw [take_succ' hx]; simp [slS]
theorem slS_le (xs : List Int) : ∀ rs : List Arw, (slS xs rs).length ≤ rs.length
  | [] => by simp [slS]
  | a :: rs => by
    have := slS_le xs rs
    simp only [slS, List.flatMap_cons, List.length_append] at *
    split <;> simp only [List.length_cons, List.length_nil] <;> omega
def sumW (L : List (Int × Int × Int)) : Int := (L.map fun s => s.2.2).sum
theorem sumW_append (a b : List (Int × Int × Int)) : sumW (a ++ b) = sumW a + sumW b := by simp [sumW]
theorem sumW_one (s : Int × Int × Int) : sumW [s] = s.2.2 := by simp [sumW]
theorem sumW_range {L : List (Int × Int × Int)} (h : ∀ s ∈ L, 0 ≤ s.2.2 ∧ s.2.2 ≤ 1000) : 0 ≤ sumW L ∧ sumW L ≤ 1000 * L.length := by
  induction L with
  | nil => simp [sumW]
  | cons s L ih =>
    have h1 := h s (by simp)
    have h2 := ih fun x hx => h x (by simp [hx])
    simp only [sumW, List.map_cons, List.sum_cons, List.length_cons] at *
    omega
theorem slS_range {N : Int} {xs : List Int} {rs : List Arw} (g : GoodR N rs) : ∀ s ∈ slS xs rs, 0 ≤ s.2.2 ∧ s.2.2 ≤ 1000 := by
  intro s hs
  obtain ⟨a, ha, hs⟩ := List.mem_flatMap.1 hs
  have := g.1 a ha
  unfold OkA at this
  split at hs
  · simp at hs; subst hs; simp only []; omega
  · simp at hs

theorem t84 : tblA 84 = some a84 := by kernel_rfl
theorem fn_slights {h : H} {N : Int} {v o : V} {rs : List Arw} {xs : List Int} (hr : Arrs h v rs) (hrn : rs.length ≤ 1000000) (hs : Ints h o xs) (hn : xs.length ≤ 1000000) (gr : GoodR N rs) (go : GoodO N xs) :
    WC tblA (.fn 84 [] []) [.agg [.i .i64 N, v], o] h fun u h' => Ext h h' ∧ Slts h' u (slS xs rs) := by
  refine (WC_in t84).2 ?_
  obtain ⟨e0, g0⟩ := rel_blk h N v
  simp only [go_sem, ↓reduceIte, r84_0]
  have hb0 : h.next < (h.new (.cells [.i .i64 N, v])).next := by simp
  generalize hh : h.new (.cells [.i .i64 N, v]) = h0 at *
  have hNl := go.1
  simp only [go_sem, ↓reduceIte, r84_1]
  refine (fn_places (hs.ext e0) hn (by rw [hNl]; exact go)).mono ?_
  rintro p h1 ⟨e1, sp⟩
  have l1 : ldV h1 (.p h.next 1) = some v := blk_ld (e1.get hb0 g0) rfl
  have hr1 := hr.ext (e0.trans e1)
  simp only [go_sem, ↓reduceIte, r84_2, r84_3, l1, hr1.len]
  refine W_while (fun k t h' => ∃ (i : Nat) (w : V), k = rs.length - i ∧ i ≤ rs.length ∧ t.length = 41 ∧ nth t 5 = p ∧ nth t 6 = w ∧ nth t 12 = v ∧ nth t 13 = .i .i64 (rs.length : Int) ∧ nth t 14 = .i .i64 (i : Int) ∧ Ext h1 h' ∧ Own h1 3 h' w (slS xs (rs.take i)).length (recs slt (slS xs (rs.take i)))) ?_ rs.length ?_
  · rintro k t h2 ⟨i, w, rfl, hi, tl, t5, t6, t12, t13, t14, e2, o2⟩
    unfold b84_0
    by_cases hlt : i < rs.length
    · have hlt' : (i : Int) < (rs.length : Int) := by omega
      obtain ⟨a, hx⟩ : ∃ a, rs[i]? = some a := ⟨_, List.getElem?_eq_getElem hlt⟩
      have hok := gr.1 a (List.mem_of_getElem? hx)
      unfold OkA at hok
      have s2 := hr1.ext e2
      obtain ⟨h3, q3, e3, g3, n3⟩ := st_arw h2 (.i .i64 0) (.i .i64 0) (.i .i64 0) (.i .i64 0) a
      obtain ⟨x0, x1, _, x3, _⟩ := arw_lds g3
      have p3 := sp.ext (e2.trans e3)
      have pl := posL_len xs
      have pf := p3.ixI (x := a.f) (by omega) (by omega)
      have pt := p3.ixI (x := a.t) (by omega) (by omega)
      have lf := p3.ld (posL_get (xs := xs) (x := a.f) (by omega) (by omega))
      have lt := p3.ld (posL_get (xs := xs) (x := a.t) (by omega) (by omega))
      have hst := slS_step (xs := xs) hx
      have hle := slS_le xs (rs.take i)
      have htl : (rs.take i).length ≤ i := by simp; omega
      by_cases hb : posN a.t xs < posN a.f xs
      · have hb' : (posN a.t xs : Int) < (posN a.f xs : Int) := by omega
        rw [if_pos hb] at hst
        obtain ⟨w', h4, r1, r2, r3, _⟩ := app_3 (f := slt) (a.f, a.t, a.w) slt_len slt_one (o2.ext e3) (e2.trans e3) (by omega)
        simp only [slt] at r1
        simp only [go_sem, ↓reduceIte, r84_4, r84_5, r84_6, r84_7, r84_8, tl, t5, t6, t12, t13, t14, hlt', s2.ix hlt, s2.ldn hx, q3, x0, x1, x3, pf, pt, lf, lt, hb', r1, wrap_succ (show i < 1000000000 by omega)]
        refine ⟨rs.length - (i + 1), by omega, i + 1, w', rfl, hlt, rfl, rfl, r2, ?_⟩
        rw [hst, List.length_append]
        exact r3
      · have hb' : ¬ (posN a.t xs : Int) < (posN a.f xs : Int) := by omega
        rw [if_neg hb, List.append_nil] at hst
        simp only [go_sem, ↓reduceIte, r84_4, r84_5, r84_6, r84_8, tl, t5, t6, t12, t13, t14, hlt', s2.ix hlt, s2.ldn hx, q3, x0, x1, x3, pf, pt, lf, lt, hb', wrap_succ (show i < 1000000000 by omega)]
        refine ⟨rs.length - (i + 1), by omega, i + 1, w, rfl, hlt, rfl, rfl, e2.trans e3, ?_⟩
        rw [hst]
        exact o2.ext e3
    · have hlt' : ¬ (i : Int) < (rs.length : Int) := by omega
      simp only [go_sem, ↓reduceIte, r84_4, r84_9, tl, t5, t6, t12, t13, t14, hlt']
      rw [List.take_of_length_le (by omega)] at o2
      exact ⟨e0.trans (e1.trans e2), (Slts.of o2.sl).1⟩
  · refine ⟨0, .sn, by omega, by omega, ?_⟩
    simp only [go_sem, ↓reduceIte]
    exact ⟨.refl h1, .nil⟩

theorem t81 : tblA 81 = some a81 := by kernel_rfl
theorem fn_offence {h : H} {N : Int} {v o : V} {rs : List Arw} {xs : List Int} (hr : Arrs h v rs) (hrn : rs.length ≤ 1000000) (hs : Ints h o xs) (hn : xs.length ≤ 1000000) (gr : GoodR N rs) (go : GoodO N xs) :
    WC tblA (.fn 81 [] []) [.agg [.i .i64 N, v], o] h fun u h' => Ext h h' ∧ u = .i .i64 (sumW (slS xs rs)) := by
  refine (WC_in t81).2 ?_
  obtain ⟨e0, g0⟩ := rel_blk h N v
  simp only [go_sem, ↓reduceIte, r81_0]
  generalize hh : h.new (.cells [.i .i64 N, v]) = h0 at *
  have l0 : ldnV h0 2 (.p h.next 0) = some (.agg [.i .i64 N, v]) := blk_ldn g0 rfl
  simp only [go_sem, ↓reduceIte, r81_1, r81_2, l0]
  refine (fn_slights (hr.ext e0) hrn (hs.ext e0) hn gr go).mono ?_
  rintro w h1 ⟨e1, sw⟩
  have hrange := slS_range (xs := xs) gr
  have hle := slS_le xs rs
  generalize hL : slS xs rs = L at *
  simp only [go_sem, ↓reduceIte, sw.len]
  refine W_while (fun k t h' => ∃ (i : Nat), k = L.length - i ∧ i ≤ L.length ∧ t.length = 22 ∧ nth t 5 = .i .i64 (sumW (L.take i)) ∧ nth t 10 = w ∧ nth t 11 = .i .i64 (L.length : Int) ∧ nth t 12 = .i .i64 (i : Int) ∧ Ext h1 h') ?_ L.length ?_
  · rintro k t h2 ⟨i, rfl, hi, tl, t5, t10, t11, t12, e2⟩
    unfold b81_0
    by_cases hlt : i < L.length
    · have hlt' : (i : Int) < (L.length : Int) := by omega
      obtain ⟨s, hx⟩ : ∃ s, L[i]? = some s := ⟨_, List.getElem?_eq_getElem hlt⟩
      have s2 := sw.ext e2
      obtain ⟨h3, q3, e3, g3, n3⟩ := st_slt h2 (.i .i64 0) (.i .i64 0) (.i .i64 0) s
      have x2 : ldV h3 (.p h2.next 2) = some (.i .i64 s.2.2) := blk_ld g3 rfl
      have hst : sumW (L.take (i + 1)) = sumW (L.take i) + s.2.2 := by rw [take_succ' hx, sumW_append, sumW_one]
      have b1 := sumW_range (L := L.take (i + 1)) fun x hm => hrange x (List.mem_of_mem_take hm)
      have b2 : (L.take (i + 1)).length ≤ i + 1 := by simp; omega
      have hw : IntKind.i64.wrap (sumW (L.take i) + s.2.2) = sumW (L.take (i + 1)) := by rw [← hst]; exact wrap_in (by omega) (by omega)
      simp only [go_sem, ↓reduceIte, r81_3, r81_4, r81_5, r81_6, tl, t5, t10, t11, t12, hlt', s2.ix hlt, s2.ldn hx, q3, x2, hw, wrap_succ (show i < 1000000000 by omega)]
      exact ⟨L.length - (i + 1), by omega, i + 1, rfl, hlt, rfl, rfl, e2.trans e3⟩
    · have hlt' : ¬ (i : Int) < (L.length : Int) := by omega
      simp only [go_sem, ↓reduceIte, r81_3, r81_7, tl, t5, t10, t11, t12, hlt']
      rw [List.take_of_length_le (by omega)]
      exact ⟨e0.trans (e1.trans e2), rfl⟩
  · refine ⟨0, by omega, by omega, ?_⟩
    simp only [go_sem, ↓reduceIte]
    exact ⟨rfl, .refl h1⟩

theorem t85 : tblA 85 = some a85 := by kernel_rfl
theorem Idx.mem {xs : List Int} {g r : Int} (i : Idx xs g r) : (0 ≤ r ↔ g ∈ xs) ∧ (g ∈ xs → r = posN g xs) := by
  rcases i with ⟨rfl, h⟩ | ⟨i, rfl, hx, hn⟩
  · exact ⟨⟨fun z => by omega, fun z => absurd z h⟩, fun z => absurd z h⟩
  · exact ⟨⟨fun _ => List.mem_of_getElem? hx, fun _ => by omega⟩, fun _ => by rw [posN_eq hx hn]⟩
theorem fn_offended {h : H} {a : Arw} {o : V} {xs : List Int} (hs : Ints h o xs) (hn : xs.length ≤ 1000000) :
    WC tblA (.fn 85 [] []) [.agg [.i .i64 a.f, .i .i64 a.t, .i .i64 a.r, .i .i64 a.w], o] h fun u h' => Ext h h' ∧ u = .b (decide (a.f ∈ xs ∧ a.t ∈ xs ∧ posN a.t xs < posN a.f xs)) := by
  refine (WC_in t85).2 ?_
  have e0 : Ext h (h.new (.cells (arw a))) := (Ext.refl h).new _
  have g0 : (h.new (.cells (arw a))).get h.next = some (.cells (arw a)) := by rw [H.get_new, if_pos rfl]
  simp only [go_sem, ↓reduceIte, r85_0]
  unfold arw at e0 g0
  generalize hh : h.new (.cells [.i .i64 a.f, .i .i64 a.t, .i .i64 a.r, .i .i64 a.w]) = h0 at *
  obtain ⟨x0, x1, _, _, _⟩ := arw_lds (a := a) g0
  simp only [go_sem, ↓reduceIte, r85_1, x0]
  refine (fn_place (hs.ext e0) hn).mono ?_
  rintro _ _ ⟨r, rfl, hr, rfl⟩
  simp only [go_sem, ↓reduceIte, r85_2, x1]
  refine (fn_place (hs.ext e0) hn).mono ?_
  rintro _ _ ⟨r', rfl, hr', rfl⟩
  obtain ⟨m1, p1⟩ := hr.mem
  obtain ⟨m2, p2⟩ := hr'.mem
  by_cases c1 : 0 ≤ r
  · by_cases c2 : 0 ≤ r'
    · have q1 := p1 (m1.1 c1)
      have q2 := p2 (m2.1 c2)
      have mm1 := m1.1 c1
      have mm2 := m2.1 c2
      by_cases c3 : r' < r
      · simp only [go_sem, ↓reduceIte, r85_3, c1, c2, c3]
        exact ⟨e0, by simp [mm1, mm2]; omega⟩
      · simp only [go_sem, ↓reduceIte, r85_3, c1, c2, c3]
        exact ⟨e0, by simp [mm1, mm2]; omega⟩
    · have mm2 : a.t ∉ xs := fun z => c2 (m2.2 z)
      simp only [go_sem, ↓reduceIte, r85_3, c1, c2]
      exact ⟨e0, by simp [mm2]⟩
  · have mm1 : a.f ∉ xs := fun z => c1 (m1.2 z)
    simp only [go_sem, ↓reduceIte, r85_3, c1]
    exact ⟨e0, by simp [mm1]⟩
theorem off_good {N : Int} {rs : List Arw} {xs : List Int} {i : Nat} {a : Arw} (gr : GoodR N rs) (go : GoodO N xs) (hx : rs[i]? = some a) : decide (a.f ∈ xs ∧ a.t ∈ xs ∧ posN a.t xs < posN a.f xs) = decide (posN a.t xs < posN a.f xs) := by
  have hok := gr.1 a (List.mem_of_getElem? hx)
  unfold OkA at hok
  rw [decide_eq_decide]
  simp only [goodO_mem go hok.1 hok.2.1, goodO_mem go hok.2.2.1 hok.2.2.2.1, true_and]
end Go.Air
/-
  Offence and Slights; the law RowsOffends; in Air.
-/
set_option maxRecDepth 100000
namespace Go.Air
open Go.Air.Try

theorem t83 : tblA 83 = some a83 := by kernel_rfl
theorem fn_Inner {h : H} {N : Int} {v o : V} {rs : List Arw} {xs : List Int} (hr : Arrs h v rs) (hrn : rs.length ≤ 1000000) (hs : Ints h o xs) (hn : xs.length ≤ 1000000) (gr : GoodR N rs) (go : GoodO N xs) :
    WC tblA (.fn 83 [] []) [.agg [.i .i64 N, v], o] h fun u h' => Ext h h' ∧ u = .i .i64 (sumW (slS xs rs)) := by
  refine (WC_in t83).2 ?_
  obtain ⟨e0, g0⟩ := rel_blk h N v
  simp only [go_sem, ↓reduceIte, r83_0]
  have hb0 : h.next < (h.new (.cells [.i .i64 N, v])).next := by simp
  generalize hh : h.new (.cells [.i .i64 N, v]) = h0 at *
  simp only [go_sem, ↓reduceIte, r83_1, r83_2]
  refine W_while (fun k t h' => ∃ (i : Nat), k = rs.length - i ∧ i ≤ rs.length ∧ t.length = 32 ∧ nth t 1 = o ∧ nth t 2 = .p h.next 0 ∧ nth t 5 = .i .i64 (sumW (slS xs (rs.take i))) ∧ nth t 6 = .i .i64 (i : Int) ∧ Ext h0 h') ?_ rs.length ?_
  · rintro k t h2 ⟨i, rfl, hi, tl, t1, t2, t5, t6, e2⟩
    unfold b83_0
    have l2 : ldV h2 (.p h.next 1) = some v := blk_ld (e2.get hb0 g0) rfl
    have s2 := (hr.ext e0).ext e2
    by_cases hlt : i < rs.length
    · have hlt' : (i : Int) < (rs.length : Int) := by omega
      obtain ⟨a, hx⟩ : ∃ a, rs[i]? = some a := ⟨_, List.getElem?_eq_getElem hlt⟩
      simp only [go_sem, ↓reduceIte, r83_3, r83_5, tl, t1, t2, t5, t6, l2, s2.len, hlt', s2.ix hlt, s2.ldn hx]
      refine (fn_offended ((hs.ext e0).ext e2) hn).mono ?_
      rintro _ h3 ⟨e3, rfl⟩
      rw [off_good gr go hx]
      have hst := slS_step (xs := xs) hx
      have l3 : ldV h3 (.p h.next 1) = some v := blk_ld ((e2.trans e3).get hb0 g0) rfl
      have s3 := s2.ext e3
      have lw := s3.ld (j := 3) hx (by omega)
      rw [show (arw a)[3]? = some (.i .i64 a.w) from rfl] at lw
      by_cases hb : posN a.t xs < posN a.f xs
      · rw [if_pos hb] at hst
        have hs1 : sumW (slS xs (rs.take (i + 1))) = sumW (slS xs (rs.take i)) + a.w := by rw [hst, sumW_append, sumW_one]
        have b1 := sumW_range (L := slS xs (rs.take (i + 1))) fun x hm => slS_range (xs := xs) gr x (by
          obtain ⟨y, hy, hm⟩ := List.mem_flatMap.1 hm
          exact List.mem_flatMap.2 ⟨y, List.mem_of_mem_take hy, hm⟩)
        have b2 := slS_le xs (rs.take (i + 1))
        have b3 : (rs.take (i + 1)).length ≤ i + 1 := by simp; omega
        have hw : IntKind.i64.wrap (sumW (slS xs (rs.take i)) + a.w) = sumW (slS xs (rs.take (i + 1))) := by rw [← hs1]; exact wrap_in (by omega) (by omega)
        simp only [go_sem, ↓reduceIte, r83_4, r83_6, r83_7, tl, t1, t2, t5, t6, hb, l3, s3.ix hlt, lw, hw, wrap_succ (show i < 1000000000 by omega)]
        exact ⟨rs.length - (i + 1), by omega, i + 1, rfl, hlt, rfl, rfl, e2.trans e3⟩
      · rw [if_neg hb, List.append_nil] at hst
        simp only [go_sem, ↓reduceIte, r83_4, r83_6, tl, t1, t2, t5, t6, hb, wrap_succ (show i < 1000000000 by omega)]
        exact ⟨rs.length - (i + 1), by omega, i + 1, rfl, hlt, by rw [hst], rfl, e2.trans e3⟩
    · have hlt' : ¬ (i : Int) < (rs.length : Int) := by omega
      simp only [go_sem, ↓reduceIte, r83_3, r83_8, tl, t1, t2, t5, t6, l2, s2.len, hlt']
      rw [List.take_of_length_le (by omega)]
      exact ⟨e0.trans e2, rfl⟩
  · refine ⟨0, by omega, by omega, ?_⟩
    simp only [go_sem, ↓reduceIte]
    exact ⟨rfl, .refl h0⟩

def offS (N : Int) (rs : List Arw) (xs : List Int) : Int := if bothS N rs xs ≠ 0 then 0 else sumW (slS xs rs)
def slightsS (N : Int) (rs : List Arw) (xs : List Int) : List (Int × Int × Int) := if bothS N rs xs ≠ 0 then [] else slS xs rs

theorem t32 : tblA 32 = some a32 := by kernel_rfl
theorem fn_Offence {h : H} {N : Int} {v o : V} {rs : List Arw} {xs : List Int} (hr : Arrs h v rs) (hrn : rs.length ≤ 1000000) (hs : Ints h o xs) (hn : xs.length ≤ 1000000) :
    WC tblA (.fn 32 [] []) [.agg [.i .i64 N, v], o] h fun u h' => Ext h h' ∧ u = .tup [.i .i64 (offS N rs xs), .i .i64 (bothS N rs xs)] := by
  refine (WC_in t32).2 ?_
  obtain ⟨e0, g0⟩ := rel_blk h N v
  simp only [go_sem, ↓reduceIte, r32_0]
  have hb0 : h.next < (h.new (.cells [.i .i64 N, v])).next := by simp
  generalize hh : h.new (.cells [.i .i64 N, v]) = h0 at *
  have l0 : ldnV h0 2 (.p h.next 0) = some (.agg [.i .i64 N, v]) := blk_ldn g0 rfl
  simp only [go_sem, ↓reduceIte, r32_1, l0]
  refine (fn_both (hr.ext e0) hrn (hs.ext e0) hn).mono ?_
  rintro _ h1 ⟨e1, rfl⟩
  by_cases hc : bothS N rs xs = 0
  · obtain ⟨gr, go, _, _⟩ := both_ok hc
    have l1 : ldnV h1 2 (.p h.next 0) = some (.agg [.i .i64 N, v]) := blk_ldn (e1.get hb0 g0) rfl
    simp only [go_sem, ↓reduceIte, r32_2, r32_4, hc, l1]
    refine (fn_offence (hr.ext (e0.trans e1)) hrn (hs.ext (e0.trans e1)) hn gr go).mono ?_
    rintro _ h2 ⟨e2, rfl⟩
    simp only [go_sem, ↓reduceIte]
    exact ⟨e0.trans (e1.trans e2), by simp [offS, hc]⟩
  · simp only [go_sem, ↓reduceIte, r32_2, r32_3, hc]
    exact ⟨e0.trans e1, by simp [offS, hc]⟩
theorem t33 : tblA 33 = some a33 := by kernel_rfl
theorem fn_refOffence {h : H} {N : Int} {v o : V} {rs : List Arw} {xs : List Int} (hr : Arrs h v rs) (hrn : rs.length ≤ 1000000) (hs : Ints h o xs) (hn : xs.length ≤ 1000000) :
    WC tblA (.fn 33 [] []) [.agg [.i .i64 N, v], o] h fun u h' => Ext h h' ∧ u = .tup [.i .i64 (offS N rs xs), .i .i64 (bothS N rs xs)] := by
  refine (WC_in t33).2 ?_
  obtain ⟨e0, g0⟩ := rel_blk h N v
  simp only [go_sem, ↓reduceIte, r33_0]
  have hb0 : h.next < (h.new (.cells [.i .i64 N, v])).next := by simp
  generalize hh : h.new (.cells [.i .i64 N, v]) = h0 at *
  have l0 : ldnV h0 2 (.p h.next 0) = some (.agg [.i .i64 N, v]) := blk_ldn g0 rfl
  simp only [go_sem, ↓reduceIte, r33_1, l0]
  refine (fn_checked (hr.ext e0) hrn (hs.ext e0) hn).mono ?_
  rintro _ h1 ⟨e1, rfl⟩
  by_cases hc : bothS N rs xs = 0
  · obtain ⟨gr, go, _, _⟩ := both_ok hc
    have l1 : ldnV h1 2 (.p h.next 0) = some (.agg [.i .i64 N, v]) := blk_ldn (e1.get hb0 g0) rfl
    simp only [go_sem, ↓reduceIte, r33_2, r33_4, hc, l1]
    refine (fn_Inner (hr.ext (e0.trans e1)) hrn (hs.ext (e0.trans e1)) hn gr go).mono ?_
    rintro _ h2 ⟨e2, rfl⟩
    simp only [go_sem, ↓reduceIte]
    exact ⟨e0.trans (e1.trans e2), by simp [offS, hc]⟩
  · simp only [go_sem, ↓reduceIte, r33_2, r33_3, hc]
    exact ⟨e0.trans e1, by simp [offS, hc]⟩

theorem t34 : tblA 34 = some a34 := by kernel_rfl
theorem fn_Slights {h : H} {N : Int} {v o : V} {rs : List Arw} {xs : List Int} (hr : Arrs h v rs) (hrn : rs.length ≤ 1000000) (hs : Ints h o xs) (hn : xs.length ≤ 1000000) :
    WC tblA (.fn 34 [] []) [.agg [.i .i64 N, v], o] h fun u h' => Ext h h' ∧ ∃ w, u = .tup [w, .i .i64 (bothS N rs xs)] ∧ Slts h' w (slightsS N rs xs) := by
  refine (WC_in t34).2 ?_
  obtain ⟨e0, g0⟩ := rel_blk h N v
  simp only [go_sem, ↓reduceIte, r34_0]
  have hb0 : h.next < (h.new (.cells [.i .i64 N, v])).next := by simp
  generalize hh : h.new (.cells [.i .i64 N, v]) = h0 at *
  have l0 : ldnV h0 2 (.p h.next 0) = some (.agg [.i .i64 N, v]) := blk_ldn g0 rfl
  simp only [go_sem, ↓reduceIte, r34_1, l0]
  refine (fn_both (hr.ext e0) hrn (hs.ext e0) hn).mono ?_
  rintro _ h1 ⟨e1, rfl⟩
  by_cases hc : bothS N rs xs = 0
  · obtain ⟨gr, go, _, _⟩ := both_ok hc
    have l1 : ldnV h1 2 (.p h.next 0) = some (.agg [.i .i64 N, v]) := blk_ldn (e1.get hb0 g0) rfl
    have hL : slightsS N rs xs = slS xs rs := by simp [slightsS, hc]
    simp only [go_sem, ↓reduceIte, r34_2, r34_4, hc, l1]
    refine (fn_slights (hr.ext (e0.trans e1)) hrn (hs.ext (e0.trans e1)) hn gr go).mono ?_
    rintro w h2 ⟨e2, sw⟩
    simp only [go_sem, ↓reduceIte]
    exact ⟨e0.trans (e1.trans e2), w, rfl, by rw [hL]; exact sw⟩
  · have hL : slightsS N rs xs = [] := by simp [slightsS, hc]
    simp only [go_sem, ↓reduceIte, r34_2, r34_3, hc]
    exact ⟨e0.trans e1, .sn, rfl, by rw [hL]; exact Slts.nil⟩

theorem t35 : tblA 35 = some a35 := by kernel_rfl
theorem fn_refSlights {h : H} {N : Int} {v o : V} {rs : List Arw} {xs : List Int} (hr : Arrs h v rs) (hrn : rs.length ≤ 1000000) (hs : Ints h o xs) (hn : xs.length ≤ 1000000) :
    WC tblA (.fn 35 [] []) [.agg [.i .i64 N, v], o] h fun u h' => Ext h h' ∧ ∃ w, u = .tup [w, .i .i64 (bothS N rs xs)] ∧ Slts h' w (slightsS N rs xs) := by
  refine (WC_in t35).2 ?_
  obtain ⟨e0, g0⟩ := rel_blk h N v
  simp only [go_sem, ↓reduceIte, r35_0]
  have hb0 : h.next < (h.new (.cells [.i .i64 N, v])).next := by simp
  generalize hh : h.new (.cells [.i .i64 N, v]) = h0 at *
  have l0 : ldnV h0 2 (.p h.next 0) = some (.agg [.i .i64 N, v]) := blk_ldn g0 rfl
  simp only [go_sem, ↓reduceIte, r35_1, l0]
  refine (fn_checked (hr.ext e0) hrn (hs.ext e0) hn).mono ?_
  rintro _ h1 ⟨e1, rfl⟩
  by_cases hc : bothS N rs xs = 0
  · obtain ⟨gr, go, _, _⟩ := both_ok hc
    have hL : slightsS N rs xs = slS xs rs := by simp [slightsS, hc]
    rw [hL]
    simp only [go_sem, ↓reduceIte, r35_2, r35_4, r35_5, hc]
    have g1 := e1.get hb0 g0
    have hb1 : h.next < h1.next := Nat.lt_of_lt_of_le hb0 e1.nx
    have hr1 := hr.ext (e0.trans e1)
    have hs1 := hs.ext (e0.trans e1)
    refine W_while (fun k t h' => ∃ (i : Nat) (w : V), k = rs.length - i ∧ i ≤ rs.length ∧ t.length = 44 ∧ nth t 1 = o ∧ nth t 2 = .p h.next 0 ∧ nth t 7 = w ∧ nth t 8 = .i .i64 (i : Int) ∧ Ext h1 h' ∧ Own h1 3 h' w (slS xs (rs.take i)).length (recs slt (slS xs (rs.take i)))) ?_ rs.length ?_
    · rintro k t h2 ⟨i, w, rfl, hi, tl, t1, t2, t7, t8, e2, o2⟩
      unfold b35_0
      have l2 : ldV h2 (.p h.next 1) = some v := blk_ld (e2.get hb1 g1) rfl
      have s2 := hr1.ext e2
      by_cases hlt : i < rs.length
      · have hlt' : (i : Int) < (rs.length : Int) := by omega
        obtain ⟨a, hx⟩ : ∃ a, rs[i]? = some a := ⟨_, List.getElem?_eq_getElem hlt⟩
        obtain ⟨h3, q3, e3, g3, n3⟩ := st_arw h2 (.i .i64 0) (.i .i64 0) (.i .i64 0) (.i .i64 0) a
        obtain ⟨_, _, _, _, x4⟩ := arw_lds g3
        simp only [go_sem, ↓reduceIte, r35_6, r35_8, r35_9, tl, t1, t2, t7, t8, l2, s2.len, hlt', s2.ix hlt, s2.ldn hx, q3, x4]
        refine (fn_offended ((hs1.ext e2).ext e3) hn).mono ?_
        rintro _ h4 ⟨e4, rfl⟩
        rw [off_good gr go hx]
        have hst := slS_step (xs := xs) hx
        obtain ⟨x0, x1, _, x3, _⟩ := arw_lds (e4.get (by omega) g3)
        have hle := slS_le xs (rs.take i)
        have htl : (rs.take i).length ≤ i := by simp; omega
        by_cases hb : posN a.t xs < posN a.f xs
        · rw [if_pos hb] at hst
          obtain ⟨w', h5, r1, r2, r3, _⟩ := app_3 (f := slt) (a.f, a.t, a.w) slt_len slt_one (o2.ext (e3.trans e4)) (e2.trans (e3.trans e4)) (by omega)
          simp only [slt] at r1
          simp only [go_sem, ↓reduceIte, r35_7, r35_10, r35_11, tl, t1, t2, t7, t8, hb, x0, x1, x3, r1, wrap_succ (show i < 1000000000 by omega)]
          refine ⟨rs.length - (i + 1), by omega, i + 1, w', rfl, hlt, rfl, rfl, r2, ?_⟩
          rw [hst, List.length_append]
          exact r3
        · rw [if_neg hb, List.append_nil] at hst
          simp only [go_sem, ↓reduceIte, r35_7, r35_10, tl, t1, t2, t7, t8, hb, wrap_succ (show i < 1000000000 by omega)]
          refine ⟨rs.length - (i + 1), by omega, i + 1, w, rfl, hlt, rfl, rfl, e2.trans (e3.trans e4), ?_⟩
          rw [hst]
          exact o2.ext (e3.trans e4)
      · have hlt' : ¬ (i : Int) < (rs.length : Int) := by omega
        simp only [go_sem, ↓reduceIte, r35_6, r35_12, tl, t1, t2, t7, t8, l2, s2.len, hlt']
        rw [List.take_of_length_le (by omega)] at o2
        exact ⟨e0.trans (e1.trans e2), w, rfl, (Slts.of o2.sl).1⟩
    · refine ⟨0, .sn, by omega, by omega, ?_⟩
      simp only [go_sem, ↓reduceIte]
      exact ⟨.refl h1, .nil⟩
  · have hL : slightsS N rs xs = [] := by simp [slightsS, hc]
    simp only [go_sem, ↓reduceIte, r35_2, r35_3, hc]
    exact ⟨e0.trans e1, .sn, rfl, by rw [hL]; exact Slts.nil⟩

theorem t36 : tblA 36 = some a36 := by kernel_rfl
theorem fn_SameSlights {h : H} {v1 v2 : V} {ps qs : List (Int × Int × Int)} (h1 : Slts h v1 ps) (h2 : Slts h v2 qs) (hn : ps.length ≤ 1000000) :
    WC tblA (.fn 36 [] []) [v1, v2] h fun u h' => u = .b (decide (ps = qs)) ∧ h' = h := by
  refine (WC_in t36).2 ?_
  by_cases hne : (ps.length : Int) = (qs.length : Int)
  · simp only [go_sem, ↓reduceIte, r36_0, r36_1, r36_3, h1.len, h2.len, hne]
    refine W_while (fun k t h' => ∃ i, k = ps.length - i ∧ i ≤ ps.length ∧ t.length = 26 ∧ nth t 0 = v1 ∧ nth t 1 = v2 ∧ nth t 5 = .i .i64 (i : Int) ∧ ps.take i = qs.take i ∧ h = h') ?_ ps.length ?_
    · rintro k t h' ⟨i, rfl, hi, tl, t0, t1, t5, he, rfl⟩
      unfold b36_0
      by_cases hlt : i < ps.length
      · have hlt' : (i : Int) < (qs.length : Int) := by omega
        have hlt2 : i < qs.length := by omega
        obtain ⟨p, hpi⟩ : ∃ p, ps[i]? = some p := ⟨_, List.getElem?_eq_getElem hlt⟩
        obtain ⟨q, hqi⟩ : ∃ q, qs[i]? = some q := ⟨_, List.getElem?_eq_getElem hlt2⟩
        by_cases hpq : p.1 = q.1 ∧ p.2.1 = q.2.1 ∧ p.2.2 = q.2.2
        · simp only [go_sem, ↓reduceIte, r36_4, r36_5, r36_6, tl, t0, t1, t5, h1.len, hne, hlt', h1.ix hlt, h2.ix hlt2, h1.ldn hpi, h2.ldn hqi, hpq, wrap_succ (show i < 1000000000 by omega)]
          refine ⟨ps.length - (i + 1), by omega, i + 1, rfl, hlt, rfl, ?_⟩
          have : p = q := Prod.ext hpq.1 (Prod.ext hpq.2.1 hpq.2.2)
          rw [take_succ' hpi, take_succ' hqi, he, this]
        · simp only [go_sem, ↓reduceIte, r36_4, r36_5, r36_6, r36_7, tl, t0, t1, t5, h1.len, hne, hlt', h1.ix hlt, h2.ix hlt2, h1.ldn hpi, h2.ldn hqi, hpq]
          have : ps ≠ qs := by
            rintro rfl
            rw [hpi] at hqi
            cases hqi
            exact hpq ⟨rfl, rfl, rfl⟩
          simp [this]
      · have hlt' : ¬ (i : Int) < (qs.length : Int) := by omega
        simp only [go_sem, ↓reduceIte, r36_4, r36_8, tl, t0, t5, h1.len, hne, hlt']
        rw [List.take_of_length_le (by omega), List.take_of_length_le (by omega)] at he
        simp [he]
    · refine ⟨0, by omega, by omega, ?_⟩
      simp only [go_sem, ↓reduceIte]
      simp
  · simp only [go_sem, ↓reduceIte, r36_0, r36_1, r36_2, h1.len, h2.len, hne]
    have : ps ≠ qs := by rintro rfl; omega
    simp [this]

theorem t7 : tblA 7 = some a7 := by kernel_rfl
theorem law_offends {h : H} {N n : Int} {v o : V} {rs : List Arw} {xs : List Int} (hr : Arrs h v rs) (hs : Ints h o xs) :
    WC tblA (.fn 7 [] []) [.agg [.i .i64 N, v], .i .i64 n, o] h fun u h' => u = .b true ∧ Ext h h' := by
  refine (WC_in t7).2 ?_
  obtain ⟨e0, g0⟩ := rel_blk h N v
  simp only [go_sem, ↓reduceIte, r7_0]
  have hb0 : h.next < (h.new (.cells [.i .i64 N, v])).next := by simp
  generalize hh : h.new (.cells [.i .i64 N, v]) = h0 at *
  have l1 : ldV h0 (.p h.next 1) = some v := blk_ld g0 rfl
  by_cases c1 : (700 : Int) < (rs.length : Int)
  · simp only [go_sem, ↓reduceIte, r7_1, r7_2, l1, hr.len, c1]
    exact e0
  by_cases c2 : (60 : Int) < (xs.length : Int)
  · simp only [go_sem, ↓reduceIte, r7_1, r7_2, l1, hr.len, hs.len, c1, c2]
    exact e0
  have l0 : ∀ {h'}, Ext h0 h' → ldnV h' 2 (.p h.next 0) = some (.agg [.i .i64 N, v]) := fun e => blk_ldn (e.get hb0 g0) rfl
  have hr0 := hr.ext e0
  have hs0 := hs.ext e0
  simp only [go_sem, ↓reduceIte, r7_1, r7_3, l1, hr.len, hs.len, c1, c2, l0 (.refl h0)]
  refine (fn_Offence hr0 (by omega) hs0 (by omega)).mono ?_
  rintro _ h1 ⟨e1, rfl⟩
  simp only [go_sem, ↓reduceIte, r7_4, l0 e1]
  refine (fn_refOffence (hr0.ext e1) (by omega) (hs0.ext e1) (by omega)).mono ?_
  rintro _ h2 ⟨e2, rfl⟩
  have e12 := e1.trans e2
  simp only [go_sem, ↓reduceIte, r7_5, l0 e12]
  refine (fn_Slights (hr0.ext e12) (by omega) (hs0.ext e12) (by omega)).mono ?_
  rintro _ h3 ⟨e3, w, rfl, sw⟩
  have e13 := e12.trans e3
  simp only [go_sem, ↓reduceIte, r7_6, l0 e13]
  refine (fn_refSlights (hr0.ext e13) (by omega) (hs0.ext e13) (by omega)).mono ?_
  rintro _ h4 ⟨e4, w', rfl, sw'⟩
  have e14 := e13.trans e4
  replace sw := sw.ext e4
  have hsum : sumW (slightsS N rs xs) = offS N rs xs := by
    unfold slightsS offS; split <;> rfl
  have hlen : (slightsS N rs xs).length ≤ 700 := by
    have := slS_le xs rs
    unfold slightsS; split
    · simp
    · omega
  have hrange : ∀ s ∈ slightsS N rs xs, 0 ≤ s.2.2 ∧ s.2.2 ≤ 1000 := by
    unfold slightsS
    split
    · simp
    · rename_i hc
      exact slS_range (both_ok (Classical.not_not.1 hc)).1
  generalize hL : slightsS N rs xs = L at *
  simp only [go_sem, ↓reduceIte, r7_7, r7_8, sw.len]
  refine W_while (fun k t h' => ∃ (i : Nat), k = L.length - i ∧ i ≤ L.length ∧ t.length = 97 ∧ nth t 1 = .i .i64 n ∧ nth t 2 = o ∧ nth t 7 = .i .i64 (offS N rs xs) ∧ nth t 8 = .i .i64 (bothS N rs xs) ∧ nth t 9 = .i .i64 (offS N rs xs) ∧ nth t 10 = .i .i64 (bothS N rs xs) ∧
    nth t 11 = w ∧ nth t 12 = .i .i64 (bothS N rs xs) ∧ nth t 13 = w' ∧ nth t 14 = .i .i64 (bothS N rs xs) ∧ nth t 15 = .i .i64 (sumW (L.take i)) ∧ nth t 52 = w ∧ nth t 53 = .i .i64 (L.length : Int) ∧ nth t 54 = .i .i64 (i : Int) ∧ Ext h4 h') ?_ L.length ?_
  · rintro k t h5 ⟨i, rfl, hi, tl, t1, t2, t7, t8, t9, t10, t11, t12, t13, t14, t15, t52, t53, t54, e5⟩
    unfold b7_0
    by_cases hlt : i < L.length
    · have hlt' : (i : Int) < (L.length : Int) := by omega
      obtain ⟨s, hx⟩ : ∃ s, L[i]? = some s := ⟨_, List.getElem?_eq_getElem hlt⟩
      have s5 := sw.ext e5
      obtain ⟨h6, q6, e6, g6, n6⟩ := st_slt h5 (.i .i64 0) (.i .i64 0) (.i .i64 0) s
      have x2 : ldV h6 (.p h5.next 2) = some (.i .i64 s.2.2) := blk_ld g6 rfl
      have hst : sumW (L.take (i + 1)) = sumW (L.take i) + s.2.2 := by rw [take_succ' hx, sumW_append, sumW_one]
      have b1 := sumW_range (L := L.take (i + 1)) fun x hm => hrange x (List.mem_of_mem_take hm)
      have b2 : (L.take (i + 1)).length ≤ i + 1 := by simp; omega
      have hw : IntKind.i64.wrap (sumW (L.take i) + s.2.2) = sumW (L.take (i + 1)) := by rw [← hst]; exact wrap_in (by omega) (by omega)
      simp only [go_sem, ↓reduceIte, r7_9, r7_10, r7_11, r7_12, tl, t1, t2, t7, t8, t9, t10, t11, t12, t13, t14, t15, t52, t53, t54, hlt', s5.ix hlt, s5.ldn hx, q6, x2, hw, wrap_succ (show i < 1000000000 by omega)]
      exact ⟨L.length - (i + 1), by omega, i + 1, rfl, hlt, rfl, rfl, e5.trans e6⟩
    · have hlt' : ¬ (i : Int) < (L.length : Int) := by omega
      obtain rfl : i = L.length := by omega
      rw [List.take_of_length_le (Nat.le_refl _), hsum] at t15
      have eA := e0.trans (e14.trans e5)
      simp only [go_sem, ↓reduceIte, r7_9, r7_13, tl, t1, t2, t7, t8, t9, t10, t11, t12, t13, t14, t15, t52, t53, t54, hlt']
      refine (fn_SameSlights (sw.ext e5) (sw'.ext e5) (by omega)).mono ?_
      rintro _ _ ⟨rfl, rfl⟩
      simp only [go_sem, ↓reduceIte, r7_15, tl, t1, t2, t7, t8, t9, t10, t11, t12, t13, t14, t15]
      refine (fn_CheckOrder (hs.ext eA) (by omega)).mono ?_
      rintro _ h7 ⟨e7, rfl⟩
      simp only [go_sem, ↓reduceIte, tl, t1, t2]
      refine (fn_refCheckOrder (hs.ext (eA.trans e7)) (by omega)).mono ?_
      rintro _ h8 ⟨e8, rfl⟩
      simp only [go_sem, ↓reduceIte, tl]
      exact eA.trans (e7.trans e8)
  · refine ⟨0, by omega, by omega, ?_⟩
    simp only [go_sem, ↓reduceIte]
    exact ⟨rfl, .refl h4⟩
end Go.Air
