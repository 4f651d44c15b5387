/-
  Spots of the program, in Air.
-/
import Derived.Test.YtlldpmkdjpmlpaaJoin
set_option linter.unusedSectionVars false
set_option linter.unusedVariables false
set_option linter.unusedSimpArgs false
set_option maxRecDepth 100000
namespace Go.Air
open Go.Air.Try

def Pts (h : H) (v : V) (ps : List Pt) : Prop := Sl 2 h v ps.length (spots ps)
theorem Pts.ext {h h' : H} {v : V} {ps : List Pt} (s : Pts h v ps) (e : Ext h h') : Pts h' v ps := Sl.ext s e
theorem Pts.nil {h : H} : Pts h .sn [] := .inl ⟨rfl, rfl, .inl rfl⟩
theorem Pts.of {h : H} {v : V} {n : Nat} {ps : List Pt} (s : Sl 2 h v n (spots ps)) : Pts h v ps ∧ ps.length = n := by
  have : ps.length = n := by have := s.length; rw [spots_length] at this; omega
  subst this
  exact ⟨s, rfl⟩

def rowP (n k r : Nat) : List Pt := inRow (r : Int) (mid (min k (n - r * k)))
def prc (n k i : Nat) : List (List Pt) := (List.range i).map (rowP n k)
def rowsN (n k : Nat) : Nat := (n + k - 1) / k
theorem rows_lt {n k i : Nat} (hk : 0 < k) : i * k < n ↔ i < rowsN n k := by
  unfold rowsN
  rw [← Nat.succ_le_iff (m := i), Nat.le_div_iff_mul_le hk, Nat.succ_mul]
  omega
theorem rows_le {n k : Nat} (hk : 0 < k) : rowsN n k ≤ n := by
  rcases Nat.lt_or_ge n (rowsN n k) with h | h
  · have := (rows_lt hk).2 h
    have : n * 1 ≤ n * k := Nat.mul_le_mul_left _ hk
    omega
  · exact h
theorem rowP_len {n k r : Nat} : (rowP n k r).length = min k (n - r * k) := by simp [rowP, inRow, mid_len]
theorem prc_get {n k i j : Nat} (hj : j < i) : (prc n k i)[j]? = some (rowP n k j) := by simp [prc, hj]
theorem prc_succ (n k i : Nat) : prc n k (i + 1) = prc n k i ++ [rowP n k i] := by simp [prc, List.range_succ]
theorem prc_sum {n k : Nat} : ∀ i : Nat, (i = 0 ∨ (i - 1) * k < n) → sumLen (prc n k i) = min (i * k) n
  | 0, _ => by simp [prc, sumLen]
  | i + 1, h => by
    rw [prc_succ, sumLen_append]
    have hlt : i * k < n := by rcases h with h | h; omega; simpa using h
    have hi : i = 0 ∨ (i - 1) * k < n := by
      rcases Nat.eq_zero_or_pos i with h0 | h0
      · exact .inl h0
      · refine .inr ?_
        have : (i - 1) * k ≤ i * k := Nat.mul_le_mul_right _ (by omega)
        omega
    rw [prc_sum i hi]
    simp only [sumLen, List.map_cons, List.map_nil, List.sum_cons, List.sum_nil, rowP_len, Nat.succ_mul]
    omega
def tblP (n : Nat) : List Pt := (List.range n).map fun i => (((i % 2 : Nat) : Int), (if i % 2 = 0 then mid (n - n / 2) else mid (n / 2)).getD (i / 2) 0)
def spotsN (kind : Int) (n : Nat) (k : Int) : List Pt × Int :=
  if kind = 1 ∧ k = 0 then (inRow 0 (upN n), 0)
  else if kind = 2 ∧ 1 ≤ k ∧ k ≤ 200 then ((prc n k.toNat (rowsN n k.toNat)).flatten, 0)
  else if kind = 3 ∧ k = 0 then (inRow 0 (mid n), 0)
  else if kind = 3 ∧ k = 1 then (inRow 0 (upN n), 0)
  else if kind = 3 ∧ k = 2 then (inRow 0 (upN n).reverse, 0)
  else if kind = 4 ∧ k = 0 then (tblP n, 0)
  else ([], 1)
/-- what Spots returns: the places, the error. -/
def spotsS (kind n k : Int) : List Pt × Int := if n < 0 ∨ 200 < n then ([], 1) else spotsN kind n.toNat k

theorem app_ref {h0 h : H} {w u : V} {cs : List V} {n : Nat} (o : Own h0 1 h w n cs) (e : Ext h0 h) (hu : u.oneCell = true) (hn : n ≤ 1000000) :
    ∃ w' h', appendV 1 24 (h.new (.cells [u])) w (.sl h.next 0 1 1 none) = .ok w' h' ∧ Ext h0 h' ∧ Own h0 1 h' w' (n + 1) (cs ++ [u]) ∧ h.next < h'.next ∧ (∀ b, b < h.next → (w = .sn ∨ b ≠ blkV w) → h'.get b = h.get b) ∧ h.next < blkV w' := by
  obtain ⟨o3, x3⟩ := Own.lit (esz := 1) (Ext.refl h) [u] 1 rfl
  obtain ⟨w', h5, r1, r2, r3, r4, r5, r6⟩ := Own.app (bytes := 24) (o.ext x3) (e.trans x3) o3.sl (by intro y hy; simp at hy; subst hy; exact hu) (by omega) (by omega) (by omega)
  refine ⟨w', h5, r1, r2, r3, by simp at r4; omega, fun b hb hw => ?_, by rw [r6 (by omega)]; simp⟩
  rw [r5 b (by simp; omega) hw, H.get_new, if_neg (by omega)]
theorem Own.one {h0 h : H} {v : V} {n esz : Nat} {cs : List V} (o : Own h0 esz h v n cs) : v.cells = [v] ∧ v.oneCell = true := by
  obtain ⟨_, ⟨_, rfl⟩ | ⟨_, _, rfl, _⟩⟩ := o <;> exact ⟨rfl, rfl⟩
theorem fill1_of {x : V} (hx : x.cells = [x]) : fill1 x = some [x] := by simp [fill1, hx]
theorem Own.pos {h0 h : H} {v : V} {n esz : Nat} {cs : List V} (o : Own h0 esz h v n cs) (hn : 0 < n) : v ≠ .sn ∧ h0.next ≤ blkV v ∧ blkV v < h.next := by
  obtain ⟨_, ⟨q, _⟩ | ⟨_, _, rfl, _, q1, q2, _⟩⟩ := o
  · omega
  · exact ⟨by simp, q1, q2⟩

theorem t42 : tblA 42 = some a42 := by kernel_rfl
def SpotsRes (h h' : H) (kind n k : Int) (u : V) : Prop := Ext h h' ∧ ∃ w, u = .tup [w, .i .i64 (spotsS kind n k).2] ∧ Pts h' w (spotsS kind n k).1
theorem res_none {h h' : H} {kind n k : Int} (e : Ext h h') (hs : spotsS kind n k = ([], 1)) : SpotsRes h h' kind n k (.tup [.sn, .i .i64 1]) := by
  refine ⟨e, .sn, by rw [hs], ?_⟩
  rw [hs]
  exact Pts.nil
theorem res_own {h0 h h' : H} {kind n k : Int} {w : V} {m : Nat} {ps : List Pt} (e : Ext h h') (o : Own h0 2 h' w m (spots ps)) (hs : spotsS kind n k = (ps, 0)) : SpotsRes h h' kind n k (.tup [w, .i .i64 0]) := by
  refine ⟨e, w, by rw [hs], ?_⟩
  rw [hs]
  exact (Pts.of o.sl).1
theorem spotsS_nat {kind k : Int} {m : Nat} (hm : m ≤ 200) : spotsS kind (m : Int) k = spotsN kind m k := by
  unfold spotsS
  rw [if_neg (by omega)]
  simp

/-- the rows of a procession. -/
theorem prc_loop {h : H} {n k : Nat} (hn : n ≤ 200) (hk1 : 1 ≤ k) (hk2 : k ≤ 200) {t : List V} (tl : t.length = 132) (t1 : nth t 1 = .i .i64 (n : Int)) (t2 : nth t 2 = .i .i64 (k : Int)) (t8 : nth t 8 = .sn) (t9 : nth t 9 = .i .i64 0)
    {S : V → H → Prop} (hS : ∀ w h', Ext h h' → Own h 2 h' w (prc n k (rowsN n k)).flatten.length (spots (prc n k (rowsN n k)).flatten) → S (.tup [w, .i .i64 0]) h') (Q : Out → List V → H → Prop) :
    W tblA (.loop b42_0) t h (Kblk 1 (Kseq tblA (.seq (.ops r42_11) .ret) (Kblk 0 (Kseq tblA (.seq (.ops r42_29) .ret) (Kfn [.tmp 6, .tmp 7] S))))) := by
  refine W_while (fun kk t h2 => ∃ (i : Nat) (w : V) (cs : List V), kk = n - i ∧ i ≤ n ∧ (i = 0 ∨ (i - 1) * k < n) ∧ t.length = 132 ∧ nth t 1 = .i .i64 (n : Int) ∧ nth t 2 = .i .i64 (k : Int) ∧ nth t 8 = w ∧ nth t 9 = .i .i64 (i : Int) ∧ Ext h h2 ∧ Own h 1 h2 w i cs ∧
    ∀ j, j < i → ∃ c, cs[j]? = some c ∧ Pts h2 c (rowP n k j) ∧ blkV c < h2.next ∧ (w = .sn ∨ blkV c ≠ blkV w)) ?_ n ?_
  · rintro kk t h2 ⟨i, w, cs, rfl, hi, hpr, tl, t1, t2, t8, t9, e2, o2, hc⟩
    unfold b42_0
    have hik : i * k ≤ 200 * 200 := Nat.mul_le_mul (by omega) hk2
    have hw1 : IntKind.i64.wrap ((i : Int) * (k : Int)) = ((i * k : Nat) : Int) := by
      rw [show (i : Int) * (k : Int) = ((i * k : Nat) : Int) by simp]
      exact wrap_in (by omega) (by omega)
    by_cases hlt : i * k < n
    · have hlt' : ((i * k : Nat) : Int) < (n : Int) := by omega
      have hw2 : IntKind.i64.wrap ((n : Int) - ((i * k : Nat) : Int)) = ((n - i * k : Nat) : Int) := by
        rw [wrap_in (by omega) (by omega)]; omega
      have hmin : (if ((n - i * k : Nat) : Int) < (k : Int) then ((n - i * k : Nat) : Int) else (k : Int)) = ((min k (n - i * k) : Nat) : Int) := by
        split <;> omega
      simp only [go_sem, ↓reduceIte, r42_8, r42_10, tl, t1, t2, t8, t9, hw1, hlt', hw2, hmin]
      refine (fn_middle (h := h2) (m := min k (n - i * k)) (by omega)).mono ?_
      rintro u1 h3 ⟨e3, o3⟩
      have hml := mid_len (min k (n - i * k))
      simp only [go_sem, ↓reduceIte, tl, t1, t2, t8, t9]
      refine (fn_row (Ints.of o3.sl).1 (by omega)).mono ?_
      rintro u2 h4 ⟨e4, o4⟩
      have o4p := o4.pos (by omega)
      obtain ⟨w', h6, q6, e6, o6, n6, k6, b6⟩ := app_ref (u := u2) (o2.ext (e3.trans e4)) (e2.trans (e3.trans e4)) o4.one.2 (by omega)
      have hiN : i < n := by
        have : i * 1 ≤ i * k := Nat.mul_le_mul_left _ hk1
        omega
      simp only [go_sem, ↓reduceIte, r42_9, tl, t1, t2, t8, t9, fill1_of o4.one.1, q6, wrap_succ (show i < 1000000000 by omega)]
      have hn3 := e3.nx
      have hn4 := e4.nx
      have hlen := o2.len
      refine ⟨n - (i + 1), by omega, i + 1, w', _, rfl, hiN, .inr (by simpa using hlt), rfl, rfl, e6, o6, fun j hj => ?_⟩
      by_cases hji : j < i
      · obtain ⟨c, q1, q2, q3, q4⟩ := hc j hji
        refine ⟨c, by rw [List.getElem?_append_left (by omega)]; exact q1, Sl.keep (q2.ext (e3.trans e4)) (Nat.le_of_lt (Nat.lt_of_le_of_lt (Nat.le_refl _) n6)) (fun hb => k6 _ hb q4), by omega, .inr (by omega)⟩
      · obtain rfl : j = i := by omega
        refine ⟨u2, by rw [List.getElem?_append_right (by omega)]; simp [hlen], Sl.keep ((Pts.of o4.sl).1) (Nat.le_of_lt n6) (fun hb => k6 _ hb ?_), by omega, .inr (by omega)⟩
        rcases o2.wlt with q | q
        · exact .inl q
        · exact .inr (by omega)
    · have hlt' : ¬ ((i * k : Nat) : Int) < (n : Int) := by omega
      have hiR : i = rowsN n k := by
        have h1 : ¬ i < rowsN n k := fun q => hlt ((rows_lt hk1).2 q)
        rcases hpr with rfl | hpr
        · omega
        · have := (rows_lt hk1).1 hpr
          omega
      have hsum := prc_sum (n := n) (k := k) i hpr
      simp only [go_sem, ↓reduceIte, r42_8, r42_11, tl, t1, t2, t8, t9, hw1, hlt']
      have hLS : LS h2 w (prc n k i) := ⟨cs, by simpa [prc] using o2.sl, fun j ps hj => by
        have hjn : j < i := by
          have := (List.getElem?_eq_some_iff.1 hj).1
          simpa [prc] using this
        obtain ⟨c, q1, q2, _⟩ := hc j hjn
        rw [prc_get hjn] at hj
        cases hj
        exact ⟨c, q1, q2⟩⟩
      refine (fn_join hLS (by simp [prc]; omega) (by omega)).mono ?_
      rintro u h3 ⟨e3, o3⟩
      simp only [go_sem, ↓reduceIte, tl]
      rw [hiR] at o3
      exact hS u h3 (e2.trans e3) (o3.mono e2.nx)
  · refine ⟨0, .sn, [], by omega, by omega, .inl rfl, ?_⟩
    simp only [go_sem, ↓reduceIte, tl, t1, t2, t8, t9]
    exact ⟨.refl h, .nil, fun j hj => by omega⟩
end Go.Air
