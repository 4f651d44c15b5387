/-
  row, upTo, slices.Reverse, join, in Air.
-/
import Derived.Test.YtlldpmkdjpmlpaaSpots
import Derived.Test.YtlldpmkdjpmlpaaMid
set_option linter.unusedSectionVars false
set_option linter.unusedVariables false
set_option linter.unusedSimpArgs false
set_option maxRecDepth 100000
namespace Go.Air
open Go.Air.Try

def inRow (r : Int) (xs : List Int) : List Pt := xs.map fun c => (r, c)
def upN (n : Nat) : List Int := (List.range n).map fun (i : Nat) => (i : Int)

theorem t89 : tblA 89 = some a89 := by kernel_rfl
theorem fn_row {h : H} {v : V} {xs : List Int} {r : Int} (h1 : Ints h v xs) (hn : xs.length ≤ 1000000) :
    WC tblA (.fn 89 [] []) [.i .i64 r, v] h fun u h' => Ext h h' ∧ Own h 2 h' u xs.length (spots (inRow r xs)) := by
  refine (WC_in t89).2 ?_
  simp only [go_sem, ↓reduceIte, r89_0, r89_1, r89_2, h1.len]
  refine W_while (fun k t h2 => ∃ (i : Nat) (w : V), k = xs.length - i ∧ i ≤ xs.length ∧ t.length = 22 ∧ nth t 0 = .i .i64 r ∧ nth t 5 = w ∧ nth t 8 = v ∧ nth t 9 = .i .i64 (xs.length : Int) ∧ nth t 10 = .i .i64 (i : Int) ∧ Ext h h2 ∧
    Own h 2 h2 w i (spots (inRow r (xs.take i)))) ?_ xs.length ?_
  · rintro k t h2 ⟨i, w, rfl, hi, tl, t0, t5, t8, t9, t10, e2, o2⟩
    unfold b89_0
    by_cases hlt : i < xs.length
    · have hlt' : (i : Int) < (xs.length : Int) := by omega
      obtain ⟨c, hc⟩ : ∃ c, xs[i]? = some c := ⟨_, List.getElem?_eq_getElem hlt⟩
      have h2' := h1.ext e2
      obtain ⟨o4, x4⟩ := Own.lit (esz := 2) (Ext.refl h2) [.i .i64 r, .i .i64 c] 1 rfl
      obtain ⟨w', h5, r1, r2, r3, _⟩ := Own.app (bytes := 16) (o2.ext x4) (e2.trans x4) o4.sl (by intro u hu; simp at hu; rcases hu with rfl | rfl <;> rfl) (by omega) (by omega) (by omega)
      simp only [go_sem, ↓reduceIte, r89_3, r89_4, r89_5, r89_6, tl, t0, t5, t8, t9, t10, hlt', h2'.ix hlt, h2'.ld hc, r1, wrap_succ (show i < 1000000000 by omega)]
      refine ⟨xs.length - (i + 1), by omega, i + 1, w', rfl, hlt, rfl, rfl, r2, ?_⟩
      rw [take_succ' hc]
      simpa [inRow, spots_append, spots_one] using r3
    · have hlt' : ¬ (i : Int) < (xs.length : Int) := by omega
      simp only [go_sem, ↓reduceIte, r89_3, r89_7, tl, t5, t9, t10, hlt']
      obtain rfl : i = xs.length := by omega
      rw [List.take_length] at o2
      exact ⟨e2, o2⟩
  · refine ⟨0, .sn, by omega, by omega, ?_⟩
    simp only [go_sem, ↓reduceIte]
    exact ⟨.refl h, .nil⟩

theorem rep_one (x : V) : ∀ n, rep [x] n = List.replicate n x
  | 0 => rfl
  | n + 1 => by rw [rep, rep_one x n, List.replicate_succ]; rfl
theorem mkSl_ok {h : H} {c : List V} {bytes n : Nat} (hn : n ≤ 1000000000) (hb : bytes ≤ 100) : mkSlR h c bytes (some n) (some n) = .ok (.sl h.next 0 n n none) (h.new (.cells (rep c n))) := by
  have h1 : bytes * n ≤ 100 * 1000000000 := Nat.mul_le_mul hb hn
  have h2 : (Nat.ble n n && Nat.ble n 281474976710656 && Nat.ble (bytes * n) 281474976710656) = true := by
    simp only [Bool.and_eq_true, Nat.ble_eq]; omega
  simp only [mkSlR, h2, if_true]
@[go_sem] theorem blkV_sl {b o n c : Nat} {g : Option Nat} : blkV (.sl b o n c g) = b := rfl
@[go_sem] theorem offV_sl {b o n c : Nat} {g : Option Nat} : offV (.sl b o n c g) = o := rfl
theorem lay_one : ∀ (cs : List V) (j : Nat) (u : V), j < cs.length → lay cs j [u] = some (cs.set j u)
  | [], j, u, h => by simp at h
  | x :: cs, 0, u, _ => by simp [lay]
  | x :: cs, j + 1, u, h => by simp [lay, lay_one cs j u (by simpa using h)]
theorem st_one {h : H} {b j : Nat} {cs : List V} {kd : IntKind} {x : Int} (hg : h.get b = some (.cells cs)) (hj : j < cs.length) : stV h 1 (.p b (0 + j * 1)) (.i kd x) = some (h.put b (.cells (cs.set j (.i kd x)))) := by
  have hl := lay_one cs j (.i kd x) hj
  simp [stV, V.cells, storeAt, hg, hl, V.oneCell]
theorem ix_own {b n i esz : Nat} {g : Option Nat} (hi : i < n) : ixV esz (.sl b 0 n n g) (.i .i64 (i : Int)) = some (.p b (0 + i * esz)) := by
  simp only [ixV]
  rw [show natOf (.i .i64 (i : Int)) = some i from rfl]
  simp [hi]

theorem t90 : tblA 90 = some a90 := by kernel_rfl
theorem fn_upTo {h : H} {n : Nat} (hn : n ≤ 100000) : WC tblA (.fn 90 [] []) [.i .i64 (n : Int)] h fun u h' => Ext h h' ∧ (∃ b, u = .sl b 0 n n none ∧ h.next ≤ b ∧ b < h'.next ∧ h'.get b = some (.cells (ints (upN n)))) := by
  refine (WC_in t90).2 ?_
  simp only [go_sem, ↓reduceIte, r90_0, r90_1, r90_2, mkSl_ok (show n ≤ 1000000000 by omega) (show 8 ≤ 100 by omega)]
  refine W_while (fun k t h2 => ∃ (i : Nat), k = n - i ∧ i ≤ n ∧ t.length = 18 ∧ nth t 3 = .sl h.next 0 n n none ∧ nth t 8 = .i .i64 (n : Int) ∧ nth t 9 = .i .i64 (i : Int) ∧ Ext h h2 ∧ h.next < h2.next ∧
    h2.get h.next = some (.cells (ints (upN i) ++ List.replicate (n - i) (.i .i64 0)))) ?_ n ?_
  · rintro k t h2 ⟨i, rfl, hi, tl, t3, t8, t9, e2, hb, g2⟩
    unfold b90_0
    by_cases hlt : i < n
    · have hlt' : (i : Int) < (n : Int) := by omega
      have hl : (ints (upN i)).length = i := by simp [ints, upN]
      have hst := st_one (j := i) (kd := .i64) (x := (i : Int)) g2 (by simp [hl]; omega)
      simp only [go_sem, ↓reduceIte, r90_3, r90_4, r90_5, r90_6, tl, t3, t8, t9, hlt', ix_own hlt, hst, wrap_succ (show i < 1000000000 by omega)]
      refine ⟨n - (i + 1), by omega, i + 1, rfl, hlt, rfl, e2.put (Nat.le_refl _) _, hb, ?_⟩
      rw [H.get_put, if_pos rfl]
      congr 2
      rw [List.set_append_right _ _ (by omega), hl, Nat.sub_self, show n - i = (n - (i + 1)) + 1 by omega, List.replicate_succ, List.set_cons_zero]
      simp [ints, upN, List.range_succ]
    · have hlt' : ¬ (i : Int) < (n : Int) := by omega
      simp only [go_sem, ↓reduceIte, r90_3, r90_7, tl, t3, t8, t9, hlt']
      obtain rfl : i = n := by omega
      refine ⟨e2, h.next, rfl, Nat.le_refl _, hb, ?_⟩
      rw [g2]; simp
  · refine ⟨0, by omega, by omega, ?_⟩
    simp only [go_sem, ↓reduceIte]
    refine ⟨(Ext.refl h).new _, by simp, ?_⟩
    rw [H.get_new, if_pos rfl, rep_one]
    simp [ints, upN]

theorem t93 : tblA 93 = some a93 := by kernel_rfl
theorem fn_Reverse {h0 h : H} {b n : Nat} {g : Option Nat} {xs : List Int} (e : Ext h0 h) (hb0 : h0.next ≤ b) (hbn : b < h.next) (hg : h.get b = some (.cells (ints xs))) (hl : xs.length = n) (hn : n ≤ 1000000) :
    WC tblA (.fn 93 [] []) [.sl b 0 n n g] h fun _ h' => Ext h0 h' ∧ b < h'.next ∧ h'.get b = some (.cells (ints xs.reverse)) := by
  refine (WC_in t93).2 ?_
  have hw : IntKind.i64.wrap ((n : Int) - 1) = (n : Int) - 1 := wrap_in (by omega) (by omega)
  simp only [go_sem, ↓reduceIte, r93_0, hw]
  refine W_while (fun k t h2 => ∃ (i : Nat) (ys : List Int), k = n - i ∧ (i : Int) ≤ (n : Int) - i ∧ t.length = 28 ∧ nth t 0 = .sl b 0 n n g ∧ nth t 2 = .i .i64 (i : Int) ∧ nth t 3 = .i .i64 ((n : Int) - 1 - i) ∧ Ext h0 h2 ∧ b < h2.next ∧
    h2.get b = some (.cells (ints ys)) ∧ ys.length = n ∧ ∀ p : Nat, p < n → ys[p]? = if (p < i ∨ n - 1 - i < p) then xs[n - 1 - p]? else xs[p]?) ?_ n ?_
  · rintro k t h2 ⟨i, ys, rfl, hi, tl, t0, t2, t3, e2, hb2, g2, hyl, hy⟩
    unfold b93_0
    by_cases hlt : (i : Int) < (n : Int) - 1 - i
    · obtain ⟨j, hj⟩ : ∃ j : Nat, (n : Int) - 1 - i = (j : Int) := ⟨n - 1 - i, by omega⟩
      rw [hj] at t3 hlt
      have hin : i < n := by omega
      have hjn : j < n := by omega
      obtain ⟨x, hx⟩ : ∃ x, ys[i]? = some x := ⟨_, List.getElem?_eq_getElem (by omega)⟩
      obtain ⟨y, hy'⟩ : ∃ y, ys[j]? = some y := ⟨_, List.getElem?_eq_getElem (by omega)⟩
      have hs : Sl 1 h2 (.sl b 0 n n g) n (ints ys) := .inr ⟨b, 0, n, g, _, rfl, hb2, g2, cut_eq.2 ⟨by simp [ints]; omega, by rw [List.drop_zero, List.take_of_length_le (by simp [ints]; omega)]⟩⟩
      have l1 := hs.ld1 hin
      rw [ints_get, hx] at l1
      have l2 := hs.ld1 hjn
      rw [ints_get, hy'] at l2
      simp only [go_sem, ↓reduceIte] at l1 l2
      have st1 := st_one (h := h2.bare) (j := i) (kd := .i64) (x := y) (b := b) (cs := ints ys) g2 (by simp [ints]; omega)
      have bk1 := back_put hb2 (.cells ((ints ys).set i (.i .i64 y)))
      have g3 : (h2.put b (.cells ((ints ys).set i (.i .i64 y)))).bare.get b = some (.cells ((ints ys).set i (.i .i64 y))) := by rw [H.get_bare, H.get_put, if_pos rfl]
      have st2 := st_one (j := j) (kd := .i64) (x := x) g3 (by simp [ints]; omega)
      have bk2 := back_put (h := h2.put b (.cells ((ints ys).set i (.i .i64 y)))) (b := b) hb2 (.cells (((ints ys).set i (.i .i64 y)).set j (.i .i64 x)))
      have w1 : IntKind.i64.wrap ((j : Int) - 1) = (n : Int) - 1 - ((i + 1 : Nat) : Int) := by rw [wrap_in (by omega) (by omega)]; omega
      simp only [go_sem, ↓reduceIte, r93_1, r93_2, r93_3, tl, t0, t2, t3, hlt, ix_own hin, ix_own hjn, l1, l2, st1, bk1, st2, bk2, w1, wrap_succ (show i < 1000000000 by omega)]
      refine ⟨n - (i + 1), by omega, i + 1, (ys.set i y).set j x, rfl, by omega, rfl, rfl, (e2.put hb0 _).put hb0 _, hb2, ?_, by simp [hyl], ?_⟩
      · rw [H.get_put, if_pos rfl]
        simp [ints, List.map_set]
      · intro p hp
        rw [List.getElem?_set, List.getElem?_set]
        have h5 := hy i hin
        have h6 := hy j hjn
        rw [if_neg (by omega)] at h5 h6
        by_cases p1 : j = p
        · subst p1
          rw [if_pos rfl, if_pos (by simp; omega), if_pos (by omega), show n - 1 - j = i by omega, ← h5, hx]
        · rw [if_neg p1]
          by_cases p2 : i = p
          · subst p2
            rw [if_pos rfl, if_pos (by omega), if_pos (by omega), show n - 1 - i = j by omega, ← h6, hy']
          · rw [if_neg p2, hy p hp]
            by_cases q : p < i ∨ n - 1 - i < p
            · rw [if_pos q, if_pos (by omega)]
            · rw [if_neg q, if_neg (by omega)]
    · simp only [go_sem, ↓reduceIte, r93_1, tl, t2, t3, hlt]
      refine ⟨e2, hb2, ?_⟩
      rw [g2]
      congr 3
      refine List.ext_getElem? fun p => ?_
      by_cases hp : p < n
      · rw [hy p hp, List.getElem?_reverse (by omega), hl]
        by_cases q : p < i ∨ n - 1 - i < p
        · rw [if_pos q]
        · rw [if_neg q]
          congr 1
          omega
      · rw [List.getElem?_eq_none (by omega), List.getElem?_eq_none (by simp; omega)]
  · refine ⟨0, xs, by omega, by omega, ?_⟩
    simp only [go_sem, ↓reduceIte]
    refine ⟨by simp, e, hbn, hg, hl, fun p hp => ?_⟩
    rw [if_neg (by omega)]
end Go.Air
