/-
  The weight of an arrow: weigh of the program, weight of the document; a clone of a list; in Air.
-/
import Derived.Test.YtlldpmkdjpmlpaaOffends
set_option linter.unusedSectionVars false
set_option linter.unusedVariables false
set_option linter.unusedSimpArgs false
set_option maxRecDepth 100000
namespace Go.Air
open Go.Air.Try

/-! ### Weights -/
def wt (a b : Int) : List Arw → Int
  | [] => 0
  | r :: l => if r.f = a ∧ r.t = b then r.w else wt a b l
theorem wt_none {a b : Int} : ∀ {l : List Arw}, (∀ r ∈ l, ¬ (r.f = a ∧ r.t = b)) → wt a b l = 0
  | [], _ => rfl
  | r :: l, h => by rw [wt, if_neg (h r (by simp)), wt_none fun x hx => h x (by simp [hx])]
theorem wt_at {a b : Int} : ∀ {l : List Arw} {i : Nat} {r : Arw}, (∀ x ∈ l.take i, ¬ (x.f = a ∧ x.t = b)) → l[i]? = some r → r.f = a ∧ r.t = b → wt a b l = r.w
  | [], i, r, _, h, _ => by simp at h
  | x :: l, 0, r, _, h, e => by simp at h; subst h; rw [wt, if_pos e]
  | x :: l, i + 1, r, hn, h, e => by
    rw [wt, if_neg (hn x (by simp)), wt_at (i := i) (fun y hy => hn y (by simp [hy])) (by simpa using h) e]
theorem wt_append {a b : Int} : ∀ {l m : List Arw}, (∀ r ∈ l, ¬ (r.f = a ∧ r.t = b)) → wt a b (l ++ m) = wt a b m
  | [], m, _ => rfl
  | r :: l, m, h => by rw [List.cons_append, wt, if_neg (h r (by simp)), wt_append fun x hx => h x (by simp [hx])]
theorem wt_keep {a b : Int} {r : Arw} (hr : ¬ (r.f = a ∧ r.t = b)) : ∀ {l : List Arw}, wt a b (l ++ [r]) = wt a b l
  | [] => by simp [wt, hr]
  | x :: l => by rw [List.cons_append, wt, wt, wt_keep hr]
theorem wt_nonneg {N a b : Int} : ∀ {l : List Arw}, (∀ r ∈ l, OkA N r) → 0 ≤ wt a b l
  | [], _ => Int.le_refl _
  | r :: l, h => by
    rw [wt]
    split
    · have := h r (by simp); unfold OkA at this; omega
    · exact wt_nonneg fun x hx => h x (by simp [hx])

def gridL (rs : List Arw) : List Int := (List.range 576).map fun (c : Nat) => wt ((c / 24 : Nat) : Int) ((c % 24 : Nat) : Int) rs
theorem gridL_len (rs : List Arw) : (gridL rs).length = 576 := by simp [gridL]
theorem gridL_get {rs : List Arw} {a b : Nat} (ha : a < 24) (hb : b < 24) : (gridL rs)[a * 24 + b]? = some (wt (a : Int) (b : Int) rs) := by
  have hc : a * 24 + b < 576 := by omega
  have h1 : (a * 24 + b) / 24 = a := by omega
  have h2 : (a * 24 + b) % 24 = b := by omega
  simp only [gridL, List.getElem?_map, List.getElem?_range hc, Option.map_some, h1, h2]
theorem gridL_nil : gridL [] = List.replicate 576 0 := by
  apply List.ext_getElem?
  intro i
  by_cases hi : i < 576
  · simp only [gridL, List.getElem?_map, List.getElem?_range hi, Option.map_some, wt, List.getElem?_replicate, if_pos hi]
  · rw [List.getElem?_eq_none (by rw [gridL_len]; omega), List.getElem?_eq_none (by rw [List.length_replicate]; omega)]
theorem gridL_set {rs : List Arw} {r : Arw} {a b : Nat} (ha : a < 24) (hb : b < 24) (ea : r.f = (a : Int)) (eb : r.t = (b : Int)) (hn : ∀ x ∈ rs, ¬ (x.f = r.f ∧ x.t = r.t)) : (gridL rs).set (a * 24 + b) r.w = gridL (rs ++ [r]) := by
  apply List.ext_getElem?
  intro i
  rw [List.getElem?_set]
  by_cases hi : i < 576
  · have hri : i = i / 24 * 24 + i % 24 := by omega
    by_cases h : a * 24 + b = i
    · subst h
      rw [if_pos rfl, if_pos (by rw [gridL_len]; omega), gridL_get ha hb, ← ea, ← eb, wt_append hn]
      simp [wt]
    · rw [if_neg h]
      simp only [gridL, List.getElem?_map, List.getElem?_range hi, Option.map_some]
      rw [wt_keep]
      rintro ⟨h1, h2⟩
      rw [ea] at h1
      rw [eb] at h2
      omega
  · rw [List.getElem?_eq_none (l := gridL (rs ++ [r])) (by rw [gridL_len]; omega), List.getElem?_eq_none (l := gridL rs) (by rw [gridL_len]; omega)]
    have : a * 24 + b ≠ i := by omega
    simp [this]

theorem lay_k : ∀ (cs : List V) (j : Nat) (u : V), j < cs.length → lay cs j [u] = some (cs.set j u) := lay_one
theorem st_k {h : H} {b k : Nat} {cs : List V} {kd : IntKind} {x : Int} (hg : h.get b = some (.cells cs)) (hk : k < cs.length) : stV h 1 (.p b k) (.i kd x) = some (h.put b (.cells (cs.set k (.i kd x)))) := by
  have hl := lay_one cs k (.i kd x) hk
  simp [stV, V.cells, storeAt, hg, hl, V.oneCell]
theorem st_all {h : H} {b k : Nat} {z c : List V} (hg : h.get b = some (.cells z)) (hl : z.length = c.length) (hk : c.length = k) (hone : ∀ u ∈ c, u.oneCell = true) : stV h k (.p b 0) (.agg c) = some (h.put b (.cells c)) := by
  subst hk
  have hall : c.all V.oneCell = true := List.all_eq_true.2 hone
  simp [stV, V.cells, storeAt, hg, lay_all z c hl]
  exact fun u hu => hone u hu
theorem ints_len (xs : List Int) : (ints xs).length = xs.length := by simp [ints]
theorem grid_nil : List.replicate 576 (V.i .i64 0) = ints (gridL []) := by rw [gridL_nil, ints_rep]

theorem res_cellk {h : H} {t : List V} {n k b : Nat} {c : List V} {l : List ResV} (ht : nth t n = .p b 0) (g : h.get b = some (.cells c)) (hk : c.length = k) : resultsOf t h (.cell n (some k) :: l) = (resultsOf t h l).map (V.agg c :: ·) := by
  subst hk
  have : cut c 0 c.length = some c := cut_eq.2 ⟨by simp, by simp⟩
  simp [resultsOf, resultOf, ht, g, this]

theorem t97 : tblA 97 = some a97 := by kernel_rfl
theorem fn_weigh {h : H} {N : Int} {v : V} {rs : List Arw} (hr : Arrs h v rs) (hrn : rs.length ≤ 1000000) (gr : GoodR N rs) (hN : N ≤ 24) :
    WC tblA (.fn 97 [] []) [.agg [.i .i64 N, v]] h fun u h' => Ext h h' ∧ u = .agg (ints (gridL rs)) := by
  refine (WC_in t97).2 ?_
  obtain ⟨e0, g0⟩ := rel_blk h N v
  simp only [go_sem, ↓reduceIte, r97_0]
  have hb0 : h.next < (h.new (.cells [.i .i64 N, v])).next := by simp
  generalize hh : h.new (.cells [.i .i64 N, v]) = h0 at *
  have e1 : Ext h0 (h0.new (.cells (List.replicate 576 (.i .i64 0)))) := (Ext.refl h0).new _
  have g1 : (h0.new (.cells (List.replicate 576 (.i .i64 0)))).get h0.next = some (.cells (List.replicate 576 (.i .i64 0))) := by rw [H.get_new, if_pos rfl]
  have hb1 : h0.next < (h0.new (.cells (List.replicate 576 (.i .i64 0)))).next := by simp
  generalize hh1 : h0.new (.cells (List.replicate 576 (.i .i64 0))) = h1 at *
  simp only [go_sem, ↓reduceIte, r97_1]
  have e2 : Ext h1 (h1.new (.cells (List.replicate 576 (.i .i64 0)))) := (Ext.refl h1).new _
  have g2 : (h1.new (.cells (List.replicate 576 (.i .i64 0)))).get h1.next = some (.cells (ints (gridL []))) := by rw [H.get_new, if_pos rfl, grid_nil]
  have hb2 : h1.next < (h1.new (.cells (List.replicate 576 (.i .i64 0)))).next := by simp
  generalize hh2 : h1.new (.cells (List.replicate 576 (.i .i64 0))) = h2 at *
  have l2 : ldV h2 (.p h.next 1) = some v := blk_ld ((e1.trans e2).get hb0 g0) rfl
  have hr1 := hr.ext (e0.trans e1)
  simp only [go_sem, ↓reduceIte, r97_2, l2, hr1.len]
  refine W_while (fun k t h' => ∃ i, k = rs.length - i ∧ i ≤ rs.length ∧ t.length = 23 ∧ nth t 2 = .p h0.next 0 ∧ nth t 3 = .p h1.next 0 ∧ nth t 7 = v ∧ nth t 8 = .i .i64 (rs.length : Int) ∧ nth t 9 = .i .i64 (i : Int) ∧ Ext h1 h' ∧ h1.next < h'.next ∧ h'.get h1.next = some (.cells (ints (gridL (rs.take i))))) ?_ rs.length ?_
  · rintro k t h3 ⟨i, rfl, hi, tl, t2, t3, t7, t8, t9, e3, n3, g3⟩
    unfold b97_0
    by_cases hlt : i < rs.length
    · have hlt' : (i : Int) < (rs.length : Int) := by omega
      obtain ⟨r, hx⟩ : ∃ r, rs[i]? = some r := ⟨_, List.getElem?_eq_getElem hlt⟩
      have hok := gr.1 r (List.mem_of_getElem? hx)
      unfold OkA at hok
      have s3 := hr1.ext e3
      obtain ⟨h4, q4, e4, g4, n4⟩ := st_arw h3 (.i .i64 0) (.i .i64 0) (.i .i64 0) (.i .i64 0) r
      obtain ⟨x0, x1, _, x3, _⟩ := arw_lds g4
      obtain ⟨a, ha⟩ := Int.eq_ofNat_of_zero_le hok.1
      obtain ⟨b, hb⟩ := Int.eq_ofNat_of_zero_le hok.2.2.1
      have ha' : r.f = (a : Int) := ha
      have hb' : r.t = (b : Int) := hb
      have ha24 : a < 24 := by omega
      have hb24 : b < 24 := by omega
      rw [ha'] at x0
      rw [hb'] at x1
      have g3' := e4.get n3 g3
      have hn4 := e4.nx
      have n3' : h1.next < h4.next := Nat.lt_of_lt_of_le n3 e4.nx
      have st1 := st_k (h := h4.bare) (k := 0 + a * 24 + b * 1) (kd := .i64) (x := r.w) g3' (by rw [ints_len, gridL_len]; omega)
      have bk := back_put n3' (.cells ((ints (gridL (rs.take i))).set (0 + a * 24 + b * 1) (.i .i64 r.w)))
      have hno : ∀ x ∈ rs.take i, ¬ (x.f = r.f ∧ x.t = r.t) := by
        intro x hm
        have hg : GoodR N (rs.take (i + 1)) := ⟨fun y hy => gr.1 y (List.mem_of_mem_take hy), gr.2.sublist (List.take_sublist _ _)⟩
        rw [take_succ' hx] at hg
        have := (List.pairwise_append.1 hg.2).2.2 x hm r (by simp)
        unfold ltA at this
        omega
      simp only [go_sem, ↓reduceIte, r97_3, r97_4, r97_5, r97_6, tl, t2, t3, t7, t8, t9, hlt', s3.ix hlt, s3.ldn hx, q4, x0, x1, x3, ixA_ok ha24, ixA_ok hb24, st1, bk, wrap_succ (show i < 1000000000 by omega)]
      refine ⟨rs.length - (i + 1), by omega, i + 1, rfl, hlt, rfl, (e3.trans e4).put (Nat.le_refl _) _, n3', ?_⟩
      rw [H.get_put, if_pos rfl, ints_set, show 0 + a * 24 + b * 1 = a * 24 + b by omega, gridL_set ha24 hb24 ha' hb' hno, take_succ' hx]
    · have hlt' : ¬ (i : Int) < (rs.length : Int) := by omega
      rw [List.take_of_length_le (by omega)] at g3
      have l3 : ldnV h3 576 (.p h1.next 0) = some (.agg (ints (gridL rs))) := blk_ldn g3 (by rw [ints_len, gridL_len])
      have g1' := e3.get hb1 g1
      have st1 := st_all (k := 576) (c := ints (gridL rs)) g1' (by rw [List.length_replicate, ints_len, gridL_len]) (by rw [ints_len, gridL_len]) ints_one
      have g5 : (h3.put h0.next (.cells (ints (gridL rs)))).get h0.next = some (.cells (ints (gridL rs))) := by rw [H.get_put, if_pos rfl]
      simp only [go_sem, ↓reduceIte, r97_3, r97_7, tl, t2, t3, t7, t8, t9, hlt', l3, st1]
      rw [res_cellk (b := h0.next) (by simp only [go_sem, ↓reduceIte, t2]) g5 (by rw [ints_len, gridL_len])]
      simp only [go_sem, ↓reduceIte]
      exact (e0.trans (e1.trans e3)).put e0.nx _
  · refine ⟨0, by omega, by omega, ?_⟩
    simp only [go_sem, ↓reduceIte]
    exact ⟨e2, hb2, g2⟩

theorem t98 : tblA 98 = some a98 := by kernel_rfl
theorem fn_weight {h : H} {N a b : Int} {v : V} {rs : List Arw} (hr : Arrs h v rs) (hrn : rs.length ≤ 1000000) :
    WC tblA (.fn 98 [] []) [.agg [.i .i64 N, v], .i .i64 a, .i .i64 b] h fun u h' => Ext h h' ∧ u = .i .i64 (wt a b rs) := by
  refine (WC_in t98).2 ?_
  obtain ⟨e0, g0⟩ := rel_blk h N v
  simp only [go_sem, ↓reduceIte, r98_0]
  generalize hh : h.new (.cells [.i .i64 N, v]) = h0 at *
  have l0 : ldV h0 (.p h.next 1) = some v := blk_ld g0 rfl
  have s0 := hr.ext e0
  simp only [go_sem, ↓reduceIte, r98_1]
  refine W_while (fun k t h' => ∃ i, k = rs.length - i ∧ i ≤ rs.length ∧ t.length = 39 ∧ nth t 1 = .i .i64 a ∧ nth t 2 = .i .i64 b ∧ nth t 3 = .p h.next 0 ∧ nth t 7 = .i .i64 (i : Int) ∧ (∀ r ∈ rs.take i, ¬ (r.f = a ∧ r.t = b)) ∧ h0 = h') ?_ rs.length ?_
  · rintro k t h' ⟨i, rfl, hi, tl, t1, t2, t3, t7, hno, rfl⟩
    unfold b98_0
    by_cases hlt : i < rs.length
    · have hlt' : (i : Int) < (rs.length : Int) := by omega
      obtain ⟨r, hx⟩ : ∃ r, rs[i]? = some r := ⟨_, List.getElem?_eq_getElem hlt⟩
      have d0 := s0.ld (j := 0) hx (by omega)
      have d1 := s0.ld (j := 1) hx (by omega)
      have d3 := s0.ld (j := 3) hx (by omega)
      rw [show (arw r)[0]? = some (.i .i64 r.f) from rfl] at d0
      rw [show (arw r)[1]? = some (.i .i64 r.t) from rfl] at d1
      rw [show (arw r)[3]? = some (.i .i64 r.w) from rfl] at d3
      by_cases c1 : r.f = a
      · by_cases c2 : r.t = b
        · simp only [go_sem, ↓reduceIte, r98_2, r98_4, r98_5, tl, t1, t2, t3, t7, l0, s0.len, hlt', s0.ix hlt, d0, d1, d3, c1, c2]
          exact ⟨e0, by rw [wt_at hno hx ⟨c1, c2⟩]⟩
        · simp only [go_sem, ↓reduceIte, r98_2, r98_3, r98_4, tl, t1, t2, t3, t7, l0, s0.len, hlt', s0.ix hlt, d0, d1, c1, c2, wrap_succ (show i < 1000000000 by omega)]
          refine ⟨rs.length - (i + 1), by omega, i + 1, rfl, hlt, rfl, ?_⟩
          rw [take_succ' hx]
          intro x hm
          rcases List.mem_append.1 hm with hm | hm
          · exact hno x hm
          · simp at hm; subst hm; exact fun z => c2 z.2
      · simp only [go_sem, ↓reduceIte, r98_2, r98_3, r98_4, tl, t1, t2, t3, t7, l0, s0.len, hlt', s0.ix hlt, d0, c1, wrap_succ (show i < 1000000000 by omega)]
        refine ⟨rs.length - (i + 1), by omega, i + 1, rfl, hlt, rfl, ?_⟩
        rw [take_succ' hx]
        intro x hm
        rcases List.mem_append.1 hm with hm | hm
        · exact hno x hm
        · simp at hm; subst hm; exact fun z => c1 z.1
    · have hlt' : ¬ (i : Int) < (rs.length : Int) := by omega
      simp only [go_sem, ↓reduceIte, r98_2, r98_6, tl, t1, t2, t3, t7, l0, s0.len, hlt']
      rw [List.take_of_length_le (by omega)] at hno
      exact ⟨e0, by rw [wt_none hno]⟩
  · refine ⟨0, by omega, by omega, ?_⟩
    simp only [go_sem, ↓reduceIte]
    simp

/-! ### A clone of a list -/
@[go_sem] theorem eqV_sn : eqV .slice .sn .sn = some true := rfl
@[go_sem] theorem eqV_se {a : Addr} : eqV .slice (.se a) .sn = some false := rfl
@[go_sem] theorem eqV_sl {b o n c : Nat} {g : Option Nat} : eqV .slice (.sl b o n c g) .sn = some false := rfl
@[go_sem] theorem fill_nil {t z : List V} : fill t z [] = some z := rfl
/-- all of a list behind an empty one. -/
theorem app_all {h : H} {v : V} {xs : List Int} (hs : Ints h v xs) (hn : xs.length ≤ 1000000) : ∃ w h', appendV 1 8 (h.new (.cells [])) (.sl h.next 0 0 0 none) v = .ok w h' ∧ Ext h h' ∧ Own h 1 h' w xs.length (ints xs) := by
  obtain ⟨o1, x1⟩ := Own.lit (esz := 1) (Ext.refl h) [] 0 rfl
  obtain ⟨w, h', r1, r2, r3, _⟩ := Own.app (bytes := 8) o1 x1 (hs.ext x1) ints_one (by omega) (by omega) (by omega)
  exact ⟨w, h', r1, r2, by simpa using r3⟩
theorem t70 : tblA 70 = some a70 := by kernel_rfl
theorem fn_Clone {h : H} {v : V} {xs : List Int} (hs : Ints h v xs) (hn : xs.length ≤ 1000000) : WC tblA (.fn 70 [] []) [v] h fun u h' => Ext h h' ∧ Own h 1 h' u xs.length (ints xs) := by
  refine (WC_in t70).2 ?_
  obtain ⟨w, h', q1, q2, q3⟩ := app_all hs hn
  have hs' := hs
  rcases hs with ⟨hl, hx, rfl | ⟨a, rfl⟩⟩ | ⟨b, off, cap, g, bl, rfl, _⟩
  · obtain rfl : xs = [] := List.eq_nil_of_length_eq_zero hl
    simp only [go_sem, ↓reduceIte, r70_0, r70_1, r70_2]
    exact ⟨.refl h, .nil⟩
  · simp only [go_sem, ↓reduceIte, r70_0, r70_1, r70_3, q1]
    exact ⟨q2, q3⟩
  · simp only [go_sem, ↓reduceIte, r70_0, r70_1, r70_3, q1]
    exact ⟨q2, q3⟩
theorem Own.set {h0 h : H} {v : V} {n i : Nat} {xs : List Int} (o : Own h0 1 h v n (ints xs)) (e : Ext h0 h) (hi : i < n) (x : Int) :
    ∃ h2, stV h 1 (.p (blkV v) (offV v + i * 1)) (.i .i64 x) = some h2 ∧ Ext h0 h2 ∧ Own h0 1 h2 v n (ints (xs.set i x)) ∧ h2.next = h.next ∧ (∀ b, b ≠ blkV v → h2.get b = h.get b) := by
  obtain ⟨hl, ⟨rfl, rfl⟩ | ⟨b, g, rfl, hv, h1, h2, hg⟩⟩ := o
  · omega
  · refine ⟨h.put b (.cells ((ints xs).set (0 + i * 1) (.i .i64 x))), st_k (k := 0 + i * 1) hg (by rw [hl]; omega), e.put h1 _, ⟨by rw [ints_len, List.length_set, ← ints_len, hl], .inr ⟨b, g, rfl, hv, h1, by simpa using h2, ?_⟩⟩, by simp, fun b' hb' => by rw [H.get_put, if_neg (show b' ≠ b from hb')]⟩
    rw [H.get_put, if_pos rfl, ints_set, show 0 + i * 1 = i by omega]
end Go.Air
/-
  Sorting by exchanges of neighbours (no program in sight): it ends, in one list only, and lessens the offence.
-/
set_option maxRecDepth 100000
namespace Go.Air
open Go.Air.Try

def off (rs : List Arw) (xs : List Int) : Int := sumW (slS xs rs)
def NoB (rs : List Arw) (xs : List Int) (i : Nat) : Prop := ∀ (j : Nat) (x y : Int), j < i → xs[j]? = some x → xs[j + 1]? = some y → wt y x rs ≤ wt x y rs
def swp (xs : List Int) (i : Nat) (a b : Int) : List Int := (xs.set i b).set (i + 1) a
theorem swp_len (xs : List Int) (i : Nat) (a b : Int) : (swp xs i a b).length = xs.length := by simp [swp]
inductive Srt (rs : List Arw) : List Int → List Int → Prop
  | done {xs : List Int} (h : NoB rs xs xs.length) : Srt rs xs xs
  | step {xs ys : List Int} {i : Nat} {a b : Int} (h : NoB rs xs i) (ha : xs[i]? = some a) (hb : xs[i + 1]? = some b) (hlt : wt a b rs < wt b a rs) (s : Srt rs (swp xs i a b) ys) : Srt rs xs ys
theorem Srt.uniq {rs : List Arw} {xs ys : List Int} (s : Srt rs xs ys) : ∀ zs, Srt rs xs zs → ys = zs := by
  induction s with
  | done h =>
    intro zs z
    cases z with
    | done _ => rfl
    | step h2 ha hb hlt _ =>
      have := h _ _ _ (List.getElem?_eq_some_iff.1 ha).1 ha hb
      omega
  | step h ha hb hlt _ ih =>
    rename_i xs ys i a b _
    intro zs z
    cases z with
    | done h2 =>
      have := h2 _ _ _ (List.getElem?_eq_some_iff.1 ha).1 ha hb
      omega
    | step h2 ha2 hb2 hlt2 s2 =>
      rename_i i2 a2 b2
      have : i = i2 := by
        rcases Nat.lt_trichotomy i i2 with q | q | q
        · have := h2 _ _ _ q ha hb; omega
        · exact q
        · have := h _ _ _ q ha2 hb2; omega
      subst this
      rw [ha] at ha2
      rw [hb] at hb2
      cases ha2
      cases hb2
      exact ih zs s2
theorem Srt.fix {rs : List Arw} {xs ys : List Int} (s : Srt rs xs ys) : NoB rs ys ys.length := by
  induction s with
  | done h => exact h
  | step _ _ _ _ _ ih => exact ih

theorem swp_split {xs : List Int} {i : Nat} {a b : Int} (ha : xs[i]? = some a) (hb : xs[i + 1]? = some b) : ∃ p q, p.length = i ∧ xs = p ++ a :: b :: q ∧ swp xs i a b = p ++ b :: a :: q := by
  obtain ⟨h1, e1⟩ := List.getElem?_eq_some_iff.1 ha
  obtain ⟨h2, e2⟩ := List.getElem?_eq_some_iff.1 hb
  have hx : xs = xs.take i ++ a :: b :: xs.drop (i + 2) := by
    rw [← e1, ← e2, ← List.drop_eq_getElem_cons h2, ← List.drop_eq_getElem_cons h1, List.take_append_drop]
  have hl : (xs.take i).length = i := by simp; omega
  refine ⟨xs.take i, xs.drop (i + 2), hl, hx, ?_⟩
  generalize hp : xs.take i = p at *
  generalize xs.drop (i + 2) = q at *
  subst hl
  rw [hx]
  simp [swp, List.set_append]

theorem posN_append (x : Int) : ∀ p l : List Int, posN x (p ++ l) = if x ∈ p then posN x p else p.length + posN x l
  | [], l => by simp
  | y :: p, l => by
    rw [List.cons_append, posN, posN_append x p l, posN]
    by_cases h : y = x
    · subst h; simp
    · simp only [if_neg h, List.mem_cons, Ne.symm h, false_or, List.length_cons]
      split <;> omega
theorem posN_lt {x : Int} {p : List Int} (h : x ∈ p) : posN x p < p.length := (posN_get h).2

/-- how an exchange moves those in the list. -/
theorem pos_swp {p q : List Int} {a b : Int} (hd : (p ++ a :: b :: q).Nodup) (x : Int) :
    (x = a ∧ posN x (p ++ a :: b :: q) = p.length ∧ posN x (p ++ b :: a :: q) = p.length + 1) ∨
    (x = b ∧ posN x (p ++ a :: b :: q) = p.length + 1 ∧ posN x (p ++ b :: a :: q) = p.length) ∨
    (x ≠ a ∧ x ≠ b ∧ posN x (p ++ a :: b :: q) = posN x (p ++ b :: a :: q) ∧ (posN x (p ++ a :: b :: q) < p.length ∨ p.length + 2 ≤ posN x (p ++ a :: b :: q))) := by
  obtain ⟨h1, h2, h3⟩ := List.nodup_append.1 hd
  have hab : a ≠ b := by rintro rfl; simp at h2
  have hap : a ∉ p := fun h => h3 a h a (by simp) rfl
  have hbp : b ∉ p := fun h => h3 b h b (by simp) rfl
  rw [posN_append, posN_append]
  by_cases c1 : x = a
  · subst c1
    refine .inl ⟨rfl, ?_, ?_⟩
    · rw [if_neg hap]; simp [posN]
    · rw [if_neg hap]; simp [posN, hab.symm]
  by_cases c2 : x = b
  · subst c2
    refine .inr (.inl ⟨rfl, ?_, ?_⟩)
    · rw [if_neg hbp]; simp [posN, hab]
    · rw [if_neg hbp]; simp [posN]
  refine .inr (.inr ⟨c1, c2, ?_, ?_⟩)
  · split
    · rfl
    · simp [posN, Ne.symm c1, Ne.symm c2]
  · split
    · rename_i h; exact .inl (posN_lt h)
    · right; simp [posN, Ne.symm c1, Ne.symm c2]

def term (xs : List Int) (r : Arw) : Int := if posN r.t xs < posN r.f xs then r.w else 0
def offT (rs : List Arw) (g : Arw → Int) : Int := (rs.map g).sum
theorem off_eq (xs : List Int) : ∀ rs : List Arw, off rs xs = offT rs (term xs)
  | [] => rfl
  | r :: rs => by
    have ih := off_eq xs rs
    simp only [off, offT, List.map_cons, List.sum_cons] at *
    rw [← ih]
    have : slS xs (r :: rs) = (if posN r.t xs < posN r.f xs then [(r.f, r.t, r.w)] else []) ++ slS xs rs := rfl
    rw [this, sumW_append]
    unfold term
    split
    · rw [sumW_one]
    · rfl
def one (a b : Int) (r : Arw) : Int := if r.f = a ∧ r.t = b then r.w else 0
theorem offT_one (a b : Int) : ∀ rs : List Arw, rs.Pairwise ltA → offT rs (one a b) = wt a b rs
  | [], _ => rfl
  | r :: rs, hp => by
    obtain ⟨h1, h2⟩ := List.pairwise_cons.1 hp
    have ih := offT_one a b rs h2
    simp only [offT, List.map_cons, List.sum_cons] at *
    rw [ih, one, wt]
    split
    · rename_i h
      rw [wt_none]
      · omega
      · rintro x hx ⟨e1, e2⟩
        have := h1 x hx
        unfold ltA at this
        omega
    · omega
theorem offT_add (f g k : Arw → Int) : ∀ rs : List Arw, offT rs (fun r => f r - g r + k r) = offT rs f - offT rs g + offT rs k
  | [] => rfl
  | r :: rs => by
    have ih := offT_add f g k rs
    simp only [offT, List.map_cons, List.sum_cons] at *
    omega
theorem offT_congr {f g : Arw → Int} : ∀ {rs : List Arw}, (∀ r ∈ rs, f r = g r) → offT rs f = offT rs g
  | [], _ => rfl
  | r :: rs, h => by
    have ih := offT_congr (rs := rs) fun x hx => h x (by simp [hx])
    simp only [offT, List.map_cons, List.sum_cons] at *
    rw [ih, h r (by simp)]

theorem off_swp {rs : List Arw} {N : Int} {xs : List Int} {i : Nat} {a b : Int} (gr : GoodR N rs) (hd : xs.Nodup) (ha : xs[i]? = some a) (hb : xs[i + 1]? = some b) :
    off rs (swp xs i a b) = off rs xs - wt b a rs + wt a b rs := by
  obtain ⟨p, q, hl, hx, hs⟩ := swp_split ha hb
  rw [off_eq, off_eq, ← offT_one b a rs gr.2, ← offT_one a b rs gr.2, ← offT_add]
  refine offT_congr fun r hr => ?_
  have hok := gr.1 r hr
  unfold OkA at hok
  rw [hs]
  rw [hx] at hd ⊢
  have hab : a ≠ b := by
    rintro rfl
    have := (List.nodup_append.1 hd).2.1
    simp at this
  unfold term one
  rcases pos_swp hd r.f with ⟨f1, f2, f3⟩ | ⟨f1, f2, f3⟩ | ⟨f1, f1', f2, f3⟩ <;> rcases pos_swp hd r.t with ⟨g1, g2, g3⟩ | ⟨g1, g2, g3⟩ | ⟨g1, g1', g2, g3⟩
  all_goals (repeat' split) <;> omega

theorem swp_perm {xs : List Int} {i : Nat} {a b : Int} (ha : xs[i]? = some a) (hb : xs[i + 1]? = some b) : (swp xs i a b).Perm xs := by
  obtain ⟨p, q, _, hx, hs⟩ := swp_split ha hb
  rw [hs]
  conv => rhs; rw [hx]
  exact (List.Perm.swap a b q).append_left p
theorem swp_good {N : Int} {xs : List Int} {i : Nat} {a b : Int} (g : GoodO N xs) (ha : xs[i]? = some a) (hb : xs[i + 1]? = some b) : GoodO N (swp xs i a b) := by
  have hp := swp_perm ha hb
  refine ⟨by rw [swp_len]; exact g.1, fun x hx => g.2.1 x (hp.mem_iff.1 hx), hp.nodup_iff.2 g.2.2⟩
theorem off_nonneg {N : Int} {rs : List Arw} (gr : GoodR N rs) (xs : List Int) : 0 ≤ off rs xs := (sumW_range (slS_range (xs := xs) gr)).1
theorem Srt.less {rs : List Arw} {N : Int} {xs ys : List Int} (gr : GoodR N rs) (s : Srt rs xs ys) : GoodO N xs → GoodO N ys ∧ off rs ys ≤ off rs xs ∧ (off rs ys = off rs xs → ys = xs) := by
  induction s with
  | done h => intro g; exact ⟨g, Int.le_refl _, fun _ => rfl⟩
  | step h ha hb hlt _ ih =>
    intro g
    obtain ⟨i1, i2, i3⟩ := ih (swp_good g ha hb)
    have := off_swp gr g.2.2 ha hb
    exact ⟨i1, by omega, fun e => by omega⟩
end Go.Air
/-
  Sorted, the program's and the document's, in Air.
-/
set_option maxRecDepth 100000
namespace Go.Air
open Go.Air.Try

/-- what Sorted returns. -/
def SortedRes (h h' : H) (N : Int) (rs : List Arw) (xs : List Int) (u : V) : Prop :=
  Ext h h' ∧ ∃ w ys, u = .tup [w, .i .i64 (bothS N rs xs)] ∧ Own h 1 h' w ys.length (ints ys) ∧ (if bothS N rs xs ≠ 0 then ys = [] else Srt rs xs ys)

theorem srt_step {rs : List Arw} {xs cur : List Int} {i : Nat} {a b : Int} (hS : ∀ ys, Srt rs cur ys → Srt rs xs ys) (hn : NoB rs cur i) (ha : cur[i]? = some a) (hb : cur[i + 1]? = some b) (hlt : wt a b rs < wt b a rs) : ∀ ys, Srt rs (swp cur i a b) ys → Srt rs xs ys :=
  fun ys s => hS ys (.step hn ha hb hlt s)
theorem nob_step {rs : List Arw} {cur : List Int} {j : Nat} {a b : Int} (hn : NoB rs cur j) (ha : cur[j]? = some a) (hb : cur[j + 1]? = some b) (hlt : ¬ wt a b rs < wt b a rs) : NoB rs cur (j + 1) := by
  intro k x y hk hx hy
  by_cases h : k = j
  · subst h
    rw [ha] at hx; rw [hb] at hy
    cases hx; cases hy
    omega
  · exact hn k x y (by omega) hx hy
theorem nob_all {rs : List Arw} {cur : List Int} {j m : Nat} (hl : cur.length = m) (hn : NoB rs cur j) (hj : m ≤ j + 1) : NoB rs cur cur.length := by
  intro k x y hk hx hy
  have := (List.getElem?_eq_some_iff.1 hy).1
  exact hn k x y (by omega) hx hy

theorem t49 : tblA 49 = some a49 := by kernel_rfl
theorem fn_Sorted {h : H} {N : Int} {v o : V} {rs : List Arw} {xs : List Int} (hr : Arrs h v rs) (hrn : rs.length ≤ 1000000) (hs : Ints h o xs) (hn : xs.length ≤ 1000000) :
    WC tblA (.fn 49 [] []) [.agg [.i .i64 N, v], o] h fun u h' => SortedRes h h' N rs xs u := by
  refine (WC_in t49).2 ?_
  obtain ⟨e0, g0⟩ := rel_blk h N v
  simp only [go_sem, ↓reduceIte, r49_0]
  have hb0 : h.next < (h.new (.cells [.i .i64 N, v])).next := by simp
  generalize hh : h.new (.cells [.i .i64 N, v]) = h0 at *
  have l0 : ldnV h0 2 (.p h.next 0) = some (.agg [.i .i64 N, v]) := blk_ldn g0 rfl
  simp only [go_sem, ↓reduceIte, r49_1, l0]
  refine (fn_both (hr.ext e0) hrn (hs.ext e0) hn).mono ?_
  rintro _ h1 ⟨e1, rfl⟩
  by_cases hc : ¬ bothS N rs xs = 0
  · simp only [go_sem, ↓reduceIte, r49_2, r49_3, hc]
    exact ⟨e0.trans e1, .sn, [], rfl, .nil, by rw [if_pos hc]⟩
  replace hc := Classical.not_not.1 hc
  obtain ⟨gr, go, hN0, hN⟩ := both_ok hc
  have l1 : ldnV h1 2 (.p h.next 0) = some (.agg [.i .i64 N, v]) := blk_ldn (e1.get hb0 g0) rfl
  simp only [go_sem, ↓reduceIte, r49_2, r49_4, hc, l1]
  refine (fn_weigh (hr.ext (e0.trans e1)) hrn gr hN).mono ?_
  rintro _ h2 ⟨e2, rfl⟩
  have g3 : (h2.new (.cells (List.replicate 576 (.i .i64 0)))).get h2.next = some (.cells (List.replicate 576 (.i .i64 0))) := by rw [H.get_new, if_pos rfl]
  have hst := st_all (k := 576) (c := ints (gridL rs)) g3 (by rw [List.length_replicate, ints_len, gridL_len]) (by rw [ints_len, gridL_len]) ints_one
  have e4 : Ext h2 ((h2.new (.cells (List.replicate 576 (.i .i64 0)))).put h2.next (.cells (ints (gridL rs)))) := ((Ext.refl h2).new _).put (Nat.le_refl _) _
  have g4 : ((h2.new (.cells (List.replicate 576 (.i .i64 0)))).put h2.next (.cells (ints (gridL rs)))).get h2.next = some (.cells (ints (gridL rs))) := by rw [H.get_put, if_pos rfl]
  have n4 : h2.next < ((h2.new (.cells (List.replicate 576 (.i .i64 0)))).put h2.next (.cells (ints (gridL rs)))).next := by simp
  simp only [go_sem, ↓reduceIte, hst]
  generalize hq : (h2.new (.cells (List.replicate 576 (.i .i64 0)))).put h2.next (.cells (ints (gridL rs))) = h4 at *
  have eA := e0.trans (e1.trans (e2.trans e4))
  simp only [go_sem, ↓reduceIte, r49_5]
  refine (fn_Clone (hs.ext eA) hn).mono ?_
  rintro w h5 ⟨e5, o5⟩
  simp only [go_sem, ↓reduceIte]
  refine W_while (fun kk t h' => ∃ cur : List Int, kk = (off rs cur).toNat ∧ t.length = 58 ∧ nth t 7 = .p h2.next 0 ∧ nth t 8 = w ∧ GoodO N cur ∧ (∀ ys, Srt rs cur ys → Srt rs xs ys) ∧ Ext h4 h' ∧ Own h4 1 h' w xs.length (ints cur)) ?_ (off rs xs).toNat ?_
  · rintro kk t h6 ⟨cur, rfl, tl, t7, t8, gc, hS, e6, o6⟩
    unfold b49_1
    have hcl : cur.length = xs.length := o6.len1
    simp only [go_sem, ↓reduceIte, r49_6, tl, t7, t8]
    refine W_while (fun kk t h' => ∃ j : Nat, kk = xs.length - j ∧ (j = 0 ∨ j < xs.length) ∧ t.length = 58 ∧ nth t 7 = .p h2.next 0 ∧ nth t 8 = w ∧ nth t 9 = .i .i64 ((j + 1 : Nat) : Int) ∧ NoB rs cur j ∧ h6 = h') ?_ xs.length ?_
    · rintro kk t h7 ⟨j, rfl, hj, tl, t7, t8, t9, hnb, rfl⟩
      unfold b49_0
      have s6 := (Ints.of o6.sl).1
      by_cases hlt : j + 1 < xs.length
      · have hlt' : ((j + 1 : Nat) : Int) < (xs.length : Int) := by omega
        have hj1 : j < cur.length := by omega
        have hj2 : j + 1 < cur.length := by omega
        obtain ⟨a, ha⟩ : ∃ a, cur[j]? = some a := ⟨_, List.getElem?_eq_getElem hj1⟩
        obtain ⟨b, hb⟩ : ∃ b, cur[j + 1]? = some b := ⟨_, List.getElem?_eq_getElem hj2⟩
        have ra := gc.2.1 a (List.mem_of_getElem? ha)
        have rb := gc.2.1 b (List.mem_of_getElem? hb)
        obtain ⟨x, rfl⟩ := Int.eq_ofNat_of_zero_le ra.1
        obtain ⟨y, rfl⟩ := Int.eq_ofNat_of_zero_le rb.1
        have hx : x < 24 := by omega
        have hy : y < 24 := by omega
        have hw1 : IntKind.i64.wrap (((j + 1 : Nat) : Int) - 1) = (j : Int) := by rw [wrap_in (by omega) (by omega)]; omega
        have g6 := e6.get n4 g4
        have w1 : ldV h6 (.p h2.next (0 + y * 24 + x * 1)) = some (.i .i64 (wt y x rs)) := blk_ld g6 (by rw [ints_get, show 0 + y * 24 + x * 1 = y * 24 + x by omega, gridL_get hy hx]; rfl)
        have w2 : ldV h6 (.p h2.next (0 + x * 24 + y * 1)) = some (.i .i64 (wt x y rs)) := blk_ld g6 (by rw [ints_get, show 0 + x * 24 + y * 1 = x * 24 + y by omega, gridL_get hx hy]; rfl)
        have ix1 := s6.ix hj1
        have ix2 := s6.ix hj2
        have ld1 := s6.ld ha
        have ld2 := s6.ld hb
        have hlen := s6.len
        rw [hcl] at hlen
        by_cases hbad : wt x y rs < wt y x rs
        · obtain ⟨h8, q8, e8, o8, n8, k8⟩ := o6.set (i := j) e6 (by omega) (y : Int)
          obtain ⟨h9, q9, e9, o9, n9, k9⟩ := o8.set (i := j + 1) e8 (by omega) (x : Int)
          simp only [go_sem, ↓reduceIte, r49_7, r49_9, r49_10, r49_11, tl, t7, t8, t9, hlen, hlt', hw1, ix1, ix2, ld1, ld2, ixA_ok hx, ixA_ok hy, w1, w2, hbad, q8, q9]
          have hoff := off_swp gr gc.2.2 ha hb
          have hnn := off_nonneg gr (swp cur j x y)
          exact ⟨(off rs (swp cur j x y)).toNat, by omega, swp cur j x y, rfl, swp_good gc ha hb, srt_step hS hnb ha hb hbad, e9, o9⟩
        · simp only [go_sem, ↓reduceIte, r49_7, r49_8, r49_9, r49_10, tl, t7, t8, t9, hlen, hlt', hw1, ix1, ix2, ld1, ld2, ixA_ok hx, ixA_ok hy, w1, w2, hbad, wrap_succ (show j + 1 < 1000000000 by omega)]
          exact ⟨xs.length - (j + 1), by omega, j + 1, rfl, .inr hlt, rfl, nob_step hnb ha hb hbad⟩
      · have hlt' : ¬ ((j + 1 : Nat) : Int) < (xs.length : Int) := by omega
        have hlen := s6.len
        rw [hcl] at hlen
        simp only [go_sem, ↓reduceIte, r49_7, r49_12, tl, t7, t8, t9, hlen, hlt']
        refine ⟨eA.trans e6, w, cur, by rw [hc], ?_, ?_⟩
        · rw [hcl]
          exact o6.mono eA.nx
        · rw [if_neg (by simp [hc])]
          exact hS cur (.done (nob_all hcl hnb (by omega)))
    · refine ⟨0, by omega, .inl rfl, ?_⟩
      simp only [go_sem, ↓reduceIte, tl, t7, t8]
      refine ⟨rfl, ?_⟩
      intro k x y hk; omega
  · refine ⟨xs, rfl, ?_⟩
    simp only [go_sem, ↓reduceIte]
    exact ⟨go, fun ys s => s, e5, o5⟩

theorem t50 : tblA 50 = some a50 := by kernel_rfl
theorem fn_refSorted {h : H} {N : Int} {v o : V} {rs : List Arw} {xs : List Int} (hr : Arrs h v rs) (hrn : rs.length ≤ 1000000) (hs : Ints h o xs) (hn : xs.length ≤ 1000000) :
    WC tblA (.fn 50 [] []) [.agg [.i .i64 N, v], o] h fun u h' => SortedRes h h' N rs xs u := by
  refine (WC_in t50).2 ?_
  obtain ⟨e0, g0⟩ := rel_blk h N v
  simp only [go_sem, ↓reduceIte, r50_0]
  have hb0 : h.next < (h.new (.cells [.i .i64 N, v])).next := by simp
  generalize hh : h.new (.cells [.i .i64 N, v]) = h0 at *
  have l0 : ldnV h0 2 (.p h.next 0) = some (.agg [.i .i64 N, v]) := blk_ldn g0 rfl
  simp only [go_sem, ↓reduceIte, r50_1, l0]
  refine (fn_checked (hr.ext e0) hrn (hs.ext e0) hn).mono ?_
  rintro _ h1 ⟨e1, rfl⟩
  by_cases hc : ¬ bothS N rs xs = 0
  · simp only [go_sem, ↓reduceIte, r50_2, r50_3, hc]
    exact ⟨e0.trans e1, .sn, [], rfl, .nil, by rw [if_pos hc]⟩
  replace hc := Classical.not_not.1 hc
  obtain ⟨gr, go, hN0, hN⟩ := both_ok hc
  have eA := e0.trans e1
  have g1 := e1.get hb0 g0
  have hb1 : h.next < h1.next := Nat.lt_of_lt_of_le hb0 e1.nx
  obtain ⟨w, h2, q2, e2, o2⟩ := app_all (hs.ext eA) hn
  have hr1 := hr.ext eA
  simp only [go_sem, ↓reduceIte, r50_2, r50_4, r50_5, hc, q2]
  refine W_while (fun kk t h' => ∃ (cur : List Int) (j : Nat), kk = (off rs cur).toNat * (xs.length + 1) + (xs.length - j) ∧ (j = 0 ∨ j < xs.length) ∧ t.length = 71 ∧ nth t 2 = .p h.next 0 ∧ nth t 7 = w ∧ nth t 8 = .i .i64 (j : Int) ∧ GoodO N cur ∧ NoB rs cur j ∧ (∀ ys, Srt rs cur ys → Srt rs xs ys) ∧ Ext h1 h' ∧ Own h1 1 h' w xs.length (ints cur)) ?_ ((off rs xs).toNat * (xs.length + 1) + xs.length) ?_
  · rintro kk t h3 ⟨cur, j, rfl, hj, tl, t2, t7, t8, gc, hnb, hS, e3, o3⟩
    unfold b50_0
    have hcl : cur.length = xs.length := o3.len1
    have s3 := (Ints.of o3.sl).1
    have hlen := s3.len
    rw [hcl] at hlen
    have hws := wrap_succ (show j < 1000000000 by omega)
    by_cases hlt : j + 1 < xs.length
    · have hlt' : ((j + 1 : Nat) : Int) < (xs.length : Int) := by omega
      have hj1 : j < cur.length := by omega
      have hj2 : j + 1 < cur.length := by omega
      obtain ⟨a, ha⟩ : ∃ a, cur[j]? = some a := ⟨_, List.getElem?_eq_getElem hj1⟩
      obtain ⟨b, hb⟩ : ∃ b, cur[j + 1]? = some b := ⟨_, List.getElem?_eq_getElem hj2⟩
      have l3 : ldnV h3 2 (.p h.next 0) = some (.agg [.i .i64 N, v]) := blk_ldn (e3.get hb1 g1) rfl
      simp only [go_sem, ↓reduceIte, r50_6, r50_7, tl, t2, t7, t8, hws, hlen, hlt', l3, s3.ix hj1, s3.ix hj2, s3.ld ha, s3.ld hb]
      refine (fn_weight (h := h3.bare) (N := N) (a := a) (b := b) (Sl.bare (hr1.ext e3)) hrn).mono ?_
      rintro _ h4 ⟨e4, rfl⟩
      replace e4 := e4.back
      simp only [go_sem, ↓reduceIte]
      generalize hq4 : h3.back h4 = h4' at *
      have l4 : ldnV h4' 2 (.p h.next 0) = some (.agg [.i .i64 N, v]) := blk_ldn ((e3.trans e4).get hb1 g1) rfl
      have s4 := s3.ext e4
      simp only [go_sem, ↓reduceIte, r50_8, tl, t2, t7, t8, hws, l4, s4.ix hj1, s4.ix hj2, s4.ld ha, s4.ld hb]
      refine (fn_weight (h := h4'.bare) (N := N) (a := b) (b := a) (Sl.bare (hr1.ext (e3.trans e4))) hrn).mono ?_
      rintro _ h5 ⟨e5, rfl⟩
      replace e5 := e5.back
      simp only [go_sem, ↓reduceIte]
      generalize hq5 : h4'.back h5 = h5' at *
      have e35 := e4.trans e5
      have s5 := s3.ext e35
      have o5 := o3.ext e35
      by_cases hbad : wt a b rs < wt b a rs
      · have hbad' : ¬ wt b a rs ≤ wt a b rs := by omega
        obtain ⟨h6, q6, e6, o6, n6, k6⟩ := o5.set (i := j) (e3.trans e35) (by omega) b
        have s6 := (Ints.of o6.sl).1
        have hb' : (cur.set j b)[j + 1]? = some b := by rw [List.getElem?_set_ne (by omega)]; exact hb
        obtain ⟨h7, q7, e7, o7, n7, k7⟩ := o6.set (i := j + 1) e6 (by omega) a
        have ix6 := s6.ix (i := j + 1) (by simp; omega)
        simp only [go_sem, ↓reduceIte, r50_9, r50_11, r50_12, r50_13, r50_14, tl, t2, t7, t8, hws, hbad', s5.ix hj1, s5.ix hj2, s5.ld ha, s5.ld hb, q6, ix6, q7]
        have hoff := off_swp gr gc.2.2 ha hb
        have hnn := off_nonneg gr (swp cur j a b)
        refine ⟨(off rs (swp cur j a b)).toNat * (xs.length + 1) + (xs.length - 0), ?_, swp cur j a b, 0, rfl, .inl rfl, rfl, swp_good gc ha hb, ?_, srt_step hS hnb ha hb hbad, e7, o7⟩
        · have h1 : (off rs (swp cur j a b)).toNat + 1 ≤ (off rs cur).toNat := by omega
          have h2 := Nat.mul_le_mul_right (xs.length + 1) h1
          rw [Nat.succ_mul] at h2
          omega
        · intro k x y hk; omega
      · have hbad' : wt b a rs ≤ wt a b rs := by omega
        simp only [go_sem, ↓reduceIte, r50_9, r50_10, tl, t2, t7, t8, hws, hbad']
        exact ⟨(off rs cur).toNat * (xs.length + 1) + (xs.length - (j + 1)), by omega, cur, j + 1, rfl, .inr hlt, rfl, gc, nob_step hnb ha hb hbad, hS, e3.trans e35, o5⟩
    · have hlt' : ¬ ((j + 1 : Nat) : Int) < (xs.length : Int) := by omega
      simp only [go_sem, ↓reduceIte, r50_6, r50_15, tl, t2, t7, t8, hws, hlen, hlt']
      refine ⟨eA.trans e3, w, cur, by rw [hc], ?_, ?_⟩
      · rw [hcl]
        exact o3.mono eA.nx
      · rw [if_neg (by simp [hc])]
        exact hS cur (.done (nob_all hcl hnb (by omega)))
  · refine ⟨xs, 0, by omega, .inl rfl, ?_⟩
    simp only [go_sem, ↓reduceIte]
    refine ⟨go, ?_, fun ys s => s, e2, o2⟩
    intro k x y hk; omega
end Go.Air
/-
  The laws RowsSorts and RowsSorting, in Air.
-/
set_option maxRecDepth 100000
namespace Go.Air
open Go.Air.Try

theorem sorted_len {N : Int} {rs : List Arw} {xs ys : List Int} (h : if bothS N rs xs ≠ 0 then ys = [] else Srt rs xs ys) : ys.length ≤ xs.length ∧ (bothS N rs xs = 0 → GoodR N rs ∧ GoodO N xs ∧ N ≤ 24 ∧ GoodO N ys ∧ Srt rs xs ys) := by
  by_cases hc : bothS N rs xs = 0
  · obtain ⟨gr, go, _, hN⟩ := both_ok hc
    rw [if_neg (by simp [hc])] at h
    have g := (h.less gr go).1
    have h1 := g.1
    have h2 := go.1
    exact ⟨by omega, fun _ => ⟨gr, go, hN, g, h⟩⟩
  · rw [if_pos hc] at h
    subst h
    exact ⟨by simp, fun z => absurd z hc⟩

theorem t13 : tblA 13 = some a13 := by kernel_rfl
theorem law_sorts {h : H} {N : Int} {v o : V} {rs : List Arw} {xs : List Int} (hr : Arrs h v rs) (hs : Ints h o xs) :
    WC tblA (.fn 13 [] []) [.agg [.i .i64 N, v], o] h fun u h' => u = .b true ∧ Ext h h' := by
  refine (WC_in t13).2 ?_
  obtain ⟨e0, g0⟩ := rel_blk h N v
  simp only [go_sem, ↓reduceIte, r13_0]
  have hb0 : h.next < (h.new (.cells [.i .i64 N, v])).next := by simp
  generalize hh : h.new (.cells [.i .i64 N, v]) = h0 at *
  have l1 : ldV h0 (.p h.next 1) = some v := blk_ld g0 rfl
  by_cases c1 : (700 : Int) < (rs.length : Int)
  · simp only [go_sem, ↓reduceIte, r13_1, r13_2, l1, hr.len, c1]
    exact e0
  by_cases c2 : (60 : Int) < (xs.length : Int)
  · simp only [go_sem, ↓reduceIte, r13_1, r13_2, l1, hr.len, hs.len, c1, c2]
    exact e0
  have l0 : ∀ {h'}, Ext h0 h' → ldnV h' 2 (.p h.next 0) = some (.agg [.i .i64 N, v]) := fun e => blk_ldn (e.get hb0 g0) rfl
  have hr0 := hr.ext e0
  have hs0 := hs.ext e0
  simp only [go_sem, ↓reduceIte, r13_1, r13_3, l1, hr.len, hs.len, c1, c2, l0 (.refl h0)]
  refine (fn_Sorted hr0 (by omega) hs0 (by omega)).mono ?_
  rintro _ h1 ⟨e1, w, ys, rfl, o1, hy⟩
  simp only [go_sem, ↓reduceIte, r13_4, l0 e1]
  refine (fn_refSorted (hr0.ext e1) (by omega) (hs0.ext e1) (by omega)).mono ?_
  rintro _ h2 ⟨e2, w', zs, rfl, o2, hz⟩
  have hyl := (sorted_len hy).1
  have heq : ys = zs := by
    by_cases hc : bothS N rs xs = 0
    · rw [if_neg (by simp [hc])] at hy hz
      exact hy.uniq _ hz
    · rw [if_pos hc] at hy hz
      rw [hy, hz]
  simp only [go_sem, ↓reduceIte, r13_5]
  refine (fn_SameInts ((Ints.of o1.sl).1.ext e2) (Ints.of o2.sl).1 (by omega)).mono ?_
  rintro _ _ ⟨rfl, rfl⟩
  simp only [go_sem, ↓reduceIte, heq]
  exact e0.trans (e1.trans e2)

theorem t14 : tblA 14 = some a14 := by kernel_rfl
theorem law_sorting {h : H} {N k : Int} {v o : V} {rs : List Arw} {xs : List Int} (hr : Arrs h v rs) (hs : Ints h o xs) :
    WC tblA (.fn 14 [] []) [.agg [.i .i64 N, v], o, .i .i64 k] h fun u h' => u = .b true ∧ Ext h h' := by
  refine (WC_in t14).2 ?_
  obtain ⟨e0, g0⟩ := rel_blk h N v
  simp only [go_sem, ↓reduceIte, r14_0]
  have hb0 : h.next < (h.new (.cells [.i .i64 N, v])).next := by simp
  generalize hh : h.new (.cells [.i .i64 N, v]) = h0 at *
  have l1 : ldV h0 (.p h.next 1) = some v := blk_ld g0 rfl
  by_cases c1 : (700 : Int) < (rs.length : Int)
  · simp only [go_sem, ↓reduceIte, r14_1, r14_2, l1, hr.len, c1]
    exact e0
  by_cases c2 : (60 : Int) < (xs.length : Int)
  · simp only [go_sem, ↓reduceIte, r14_1, r14_2, l1, hr.len, hs.len, c1, c2]
    exact e0
  have l0 : ∀ {h'}, Ext h0 h' → ldnV h' 2 (.p h.next 0) = some (.agg [.i .i64 N, v]) := fun e => blk_ldn (e.get hb0 g0) rfl
  have hr0 := hr.ext e0
  have hs0 := hs.ext e0
  simp only [go_sem, ↓reduceIte, r14_1, r14_3, l1, hr.len, hs.len, c1, c2, l0 (.refl h0)]
  refine (fn_Sorted hr0 (by omega) hs0 (by omega)).mono ?_
  rintro _ h1 ⟨e1, w, ys, rfl, o1, hy⟩
  obtain ⟨hyl, hgood⟩ := sorted_len hy
  simp only [go_sem, ↓reduceIte, r14_4, l0 e1]
  refine (fn_Offence (hr0.ext e1) (by omega) (hs0.ext e1) (by omega)).mono ?_
  rintro _ h2 ⟨e2, rfl⟩
  have e12 := e1.trans e2
  have sy := (Ints.of o1.sl).1.ext e2
  by_cases hc : ¬ bothS N rs xs = 0
  · rw [if_pos hc] at hy
    have hyl := sy.len
    rw [hy] at hyl
    simp only [List.length_nil] at hyl
    simp only [go_sem, ↓reduceIte, r14_5, r14_7, r14_8, hc, hyl]
    exact e0.trans e12
  replace hc := Classical.not_not.1 hc
  obtain ⟨gr, go, hN, gy, srt⟩ := hgood hc
  have hby : bothS N rs ys = 0 := by
    have h1 := hc
    unfold bothS at h1 ⊢
    by_cases hk : checkS N rs = 0
    · rw [if_neg (by simp [hk])]
      rw [orderS, if_pos gy]
    · rw [if_pos hk] at h1
      exact absurd h1 hk
  have hoffx : offS N rs xs = off rs xs := by unfold offS; rw [if_neg (by simp [hc])]; rfl
  have hoffy : offS N rs ys = off rs ys := by unfold offS; rw [if_neg (by simp [hby])]; rfl
  obtain ⟨_, hle, hsame⟩ := srt.less gr go
  simp only [go_sem, ↓reduceIte, r14_5, r14_7, r14_9, hc, l0 e12]
  refine (fn_Offence (hr0.ext e12) (by omega) sy (by omega)).mono ?_
  rintro _ h3 ⟨e3, rfl⟩
  have e13 := e12.trans e3
  simp only [go_sem, ↓reduceIte, r14_10, l0 e13]
  refine (fn_Sorted (hr0.ext e13) (by omega) (sy.ext e3) (by omega)).mono ?_
  rintro _ h4 ⟨e4, w2, zs, rfl, o4, hz⟩
  have hzy : zs = ys := by
    rw [if_neg (by simp [hby])] at hz
    exact (hz.uniq _ (.done srt.fix))
  subst hzy
  have e14 := e13.trans e4
  have hle' : ¬ off rs xs < off rs zs := by omega
  simp only [go_sem, ↓reduceIte, r14_11, hby, hoffx, hoffy, hle']
  refine (fn_SameInts (Ints.of o4.sl).1 (sy.ext (e3.trans e4)) (by omega)).mono ?_
  rintro _ h4b ⟨rfl, ee⟩
  obtain rfl : h4 = h4b := ee.symm
  have sy4 := sy.ext (e3.trans e4)
  have hs4 := hs0.ext e14
  have rest : ∀ t : List V, t.length = 134 → nth t 2 = .i .i64 k → nth t 3 = .p h.next 0 → nth t 7 = w → nth t 11 = .i .i64 (off rs zs) →
      WL tblA r14_15 t h4 (Kops (Kseq tblA (.cond (.t 97) (.seq (.ops r14_16) (.ret)) (.skip)) (Kseq tblA (.seq (.ops r14_17) (.seq (.ops r14_18) (.seq (.ops r14_19) (.seq (.ops r14_20) (.seq (.ops r14_21) (.ret)))))) (Kfn [.tmp 6] fun u h' => u = .b true ∧ Ext h h')))) := by
    intro t tl t2 t3 t7 t11
    by_cases d1 : k < 0
    · simp only [go_sem, ↓reduceIte, r14_15, r14_16, tl, t2, t3, t7, t11, d1]
      exact e0.trans e14
    obtain ⟨i, rfl⟩ := Int.eq_ofNat_of_zero_le (a := k) (by omega)
    have hw1 : IntKind.i64.wrap ((zs.length : Int) - 1) = (zs.length : Int) - 1 := wrap_in (by omega) (by omega)
    by_cases d2 : (zs.length : Int) - 1 ≤ (i : Int)
    · simp only [go_sem, ↓reduceIte, r14_15, r14_16, tl, t2, t3, t7, t11, d1, d2, sy4.len, hw1]
      exact e0.trans e14
    have hi1 : i < zs.length := by omega
    have hi2 : i + 1 < zs.length := by omega
    obtain ⟨a, ha⟩ : ∃ a, zs[i]? = some a := ⟨_, List.getElem?_eq_getElem hi1⟩
    obtain ⟨b, hb⟩ : ∃ b, zs[i + 1]? = some b := ⟨_, List.getElem?_eq_getElem hi2⟩
    obtain ⟨x, h5, q5, e5, o5⟩ := app_all sy4 (by omega)
    have sy5 := sy4.ext e5
    obtain ⟨h6, q6, e6, o6, n6, k6⟩ := o5.set (i := i) e5 (by omega) b
    have sy6 := sy4.ext e6
    have s6 := (Ints.of o6.sl).1
    have ix6 := s6.ix (i := i + 1) (by simp; omega)
    have ix5 := (Ints.of o5.sl).1.ix hi1
    obtain ⟨h7, q7, e7, o7, n7, k7⟩ := o6.set (i := i + 1) e6 (by omega) a
    have hws := wrap_succ (show i < 1000000000 by omega)
    have s7 := (Ints.of o7.sl).1
    have e17 := e14.trans e7
    have gx := swp_good gy ha hb
    unfold swp at gx
    have hbx : bothS N rs ((zs.set i b).set (i + 1) a) = 0 := by
      have h1 := hc
      unfold bothS at h1 ⊢
      by_cases hk : checkS N rs = 0
      · rw [if_neg (by simp [hk])]
        rw [orderS, if_pos gx]
      · rw [if_pos hk] at h1
        exact absurd h1 hk
    have hoffz : offS N rs ((zs.set i b).set (i + 1) a) = off rs (swp zs i a b) := by unfold offS; rw [if_neg (by simp [hbx])]; rfl
    have hsw := off_swp gr gy.2.2 ha hb
    have hnb := srt.fix i a b hi1 ha hb
    have hge : off rs zs ≤ off rs (swp zs i a b) := by omega
    simp only [go_sem, ↓reduceIte, r14_15, r14_17, r14_18, r14_19, r14_20, tl, t2, t3, t7, t11, d1, d2, sy4.len, hw1, q5, hws, sy5.ix hi2, sy5.ld hb, ix5, q6, sy6.ix hi1, sy6.ld ha, ix6, q7, l0 e17]
    refine (fn_Offence (hr0.ext e17) (by omega) s7 (by simp; omega)).mono ?_
    rintro _ h8 ⟨e8, rfl⟩
    simp only [go_sem, ↓reduceIte, r14_21, tl, t11, hbx, hoffz, hge]
    exact e0.trans (e17.trans e8)
  by_cases hmn : off rs zs = off rs xs
  · have hzx := hsame hmn
    simp only [go_sem, ↓reduceIte, r14_13, hmn]
    refine (fn_SameInts sy4 hs4 (by omega)).mono ?_
    rintro _ h4b ⟨rfl, ee⟩
    obtain rfl : h4 = h4b := ee.symm
    simp only [go_sem, ↓reduceIte, hzx]
    exact rest _ (by simp only [go_sem, ↓reduceIte, hmn]) (by simp only [go_sem, ↓reduceIte, hmn]) (by simp only [go_sem, ↓reduceIte, hmn]) (by simp only [go_sem, ↓reduceIte, hmn]) (by simp only [go_sem, ↓reduceIte, hmn])
  · simp only [go_sem, ↓reduceIte, r14_13, hmn]
    exact rest _ (by simp only [go_sem, ↓reduceIte]) (by simp only [go_sem, ↓reduceIte]) (by simp only [go_sem, ↓reduceIte]) (by simp only [go_sem, ↓reduceIte]) (by simp only [go_sem, ↓reduceIte])
end Go.Air
