/-
  Place and Abreast, the program's and the document's; the law RowsSeats; in Air.
-/
import Derived.Test.YtlldpmkdjpmlpaaHonLaw
import Derived.Test.YtlldpmkdjpmlpaaArrows
set_option linter.unusedSectionVars false
set_option linter.unusedVariables false
set_option linter.unusedSimpArgs false
set_option maxRecDepth 100000
namespace Go.Air
open Go.Air.Try

/-! ### Bodies of loops over functions -/
/-- one round: the loop's block is as before behind it. -/
theorem yld_round {tbl : Nat → Option FI} {l : Nat} {t : List V} {ps : List Nat} {asg body : C} {args : List V} {h : H} {S : V → H → Prop} (hg : h.get l = some (.loop ⟨.ready, none, t, ps, asg, body⟩)) (ha : args.length = ps.length)
    (hb : W tbl asg (updAll t ps args) h fun o t1 h1 => o = .norm ∧ h1 = h ∧ W tbl body t1 (h.put l (.loop ⟨.busy, none, t, ps, asg, body⟩)) fun o _ h2 => o = .norm ∧ h2.get l = some (.loop ⟨.busy, none, t, ps, asg, body⟩) ∧ S (.b true) (h2.put l (.loop ⟨.ready, none, t, ps, asg, body⟩))) :
    WC tbl (.yld l) args h S := by
  refine (WC_yld hg ha).2 (hb.mono ?_)
  rintro o t1 h1 ⟨rfl, rfl, hw⟩
  simp only [hg, loopOut]
  refine ⟨trivial, hw.mono ?_⟩
  rintro o t2 h2 ⟨rfl, g2, hs⟩
  simp only [g2]
  exact ⟨trivial, hs⟩
/-- a loop over a function that ends by itself. -/
theorem W_rangeN {tbl : Nat → Option FI} {f : X} {ps : List Nat} {asg body : C} {g : Nat} {a c t : List V} {h : H} {Q : Out → List V → H → Prop} (hf : f.ev t = .fn g a c)
    (hw : WC tbl (.fn g a c) [.yld h.next] (h.new (.loop ⟨.ready, none, t, ps, asg, body⟩)) fun _ h' => h'.get h.next = some (.loop ⟨.ready, none, t, ps, asg, body⟩) ∧ Q .norm t (h'.put h.next (.loop ⟨.over, none, t, ps, asg, body⟩))) :
    W tbl (.rangeF f ps asg body) t h Q := by
  refine (W_range hf).2 (hw.mono ?_)
  rintro _ h' ⟨g', q⟩
  simp only [g', loopOut]
  exact ⟨by simp, q⟩

/-! ### Seats -/
def placeS (xs : List Int) (kind k : Int) : List (Int × Int × Int) × Int :=
  if ¬ Good xs then ([], 1) else if (spotsS kind xs.length k).2 ≠ 0 then ([], (spotsS kind xs.length k).2) else (List.zipWith (fun x p => (x, p.1, p.2)) xs (spotsS kind xs.length k).1, 0)
def sea (s : Int × Int × Int) : List V := [.i .i64 s.1, .i .i64 s.2.1, .i .i64 s.2.2]
theorem sea_len (s : Int × Int × Int) : (sea s).length = 3 := rfl
theorem sea_one (s : Int × Int × Int) : ∀ u ∈ sea s, u.oneCell = true := by
  intro u hu; simp [sea] at hu; rcases hu with rfl | rfl | rfl <;> rfl
def Seas (h : H) (v : V) (L : List (Int × Int × Int)) : Prop := Sl 3 h v L.length (recs sea L)
theorem Seas.ext {h h' : H} {v : V} {L : List (Int × Int × Int)} (s : Seas h v L) (e : Ext h h') : Seas h' v L := Sl.ext s e
theorem Seas.nil {h : H} : Seas h .sn [] := .inl ⟨rfl, rfl, .inl rfl⟩
theorem Seas.len {h : H} {v : V} {L : List (Int × Int × Int)} (s : Seas h v L) : lenV v = some L.length := Sl.len s
theorem Seas.ix {h : H} {v : V} {L : List (Int × Int × Int)} (s : Seas h v L) {i : Nat} (hi : i < L.length) : ixV 3 v (.i .i64 (i : Int)) = some (.p (blkV v) (offV v + i * 3)) := Sl.ix s hi
theorem Seas.ldn {h : H} {v : V} {L : List (Int × Int × Int)} (s : Seas h v L) {i : Nat} {a : Int × Int × Int} (hx : L[i]? = some a) : ldnV h 3 (.p (blkV v) (offV v + i * 3)) = some (.agg [.i .i64 a.1, .i .i64 a.2.1, .i .i64 a.2.2]) := by
  rw [Sl.ldn s (List.getElem?_eq_some_iff.1 hx).1, recs_at sea_len L i a hx]; rfl
theorem Seas.of {h : H} {v : V} {n : Nat} {L : List (Int × Int × Int)} (s : Sl 3 h v n (recs sea L)) : Seas h v L ∧ L.length = n := by
  have : L.length = n := by have := s.length; rw [recs_len sea_len] at this; omega
  subst this
  exact ⟨s, rfl⟩
def fill12 (x y : V) : Option (List V) := if Nat.beq x.cells.length 1 && Nat.beq y.cells.length 2 then some (x.cells ++ y.cells) else none
@[go_sem] theorem fill_12 {t : List V} {z0 z1 z2 : V} {x y : X} : fill t [z0, z1, z2] [(0, 1, x), (1, 2, y)] = fill12 (x.ev t) (y.ev t) := by
  simp only [fill, fill12]
  by_cases hl : Nat.beq (x.ev t).cells.length 1 = true
  · rw [if_pos hl]
    obtain ⟨u, hc⟩ : ∃ u, (x.ev t).cells = [u] := by
      rw [Nat.beq_eq] at hl
      exact List.length_eq_one_iff.1 hl
    simp only [hc, lay, Option.map_some]
    by_cases hl2 : Nat.beq (y.ev t).cells.length 2 = true
    · obtain ⟨u2, u3, hc2⟩ : ∃ u v, (y.ev t).cells = [u, v] := by
        rw [Nat.beq_eq] at hl2
        match (y.ev t).cells, hl2 with
      | [u, v], _ => exact ⟨u, v, rfl⟩
      simp [hc2, lay]
    · simp [hl2]
  · simp [hl]
@[go_sem] theorem fill12_i {a b c : Int} : fill12 (.i .i64 a) (.agg [.i .i64 b, .i .i64 c]) = some [.i .i64 a, .i .i64 b, .i .i64 c] := rfl

theorem zip_take {xs : List Int} {ps : List Pt} {i : Nat} {x : Int} {p : Pt} (hx : xs[i]? = some x) (hp : ps[i]? = some p) :
    (List.zipWith (fun x (p : Pt) => (x, p.1, p.2)) xs ps).take (i + 1) = (List.zipWith (fun x (p : Pt) => (x, p.1, p.2)) xs ps).take i ++ [(x, p.1, p.2)] :=
  take_succ' (by rw [List.getElem?_zipWith, hx, hp])

theorem t51 : tblA 51 = some a51 := by kernel_rfl
theorem fn_Place {h : H} {v : V} {xs : List Int} {kind k : Int} (hs : Ints h v xs) (hn : xs.length ≤ 1000000) :
    WC tblA (.fn 51 [] []) [v, .i .u8 kind, .i .i64 k] h fun u h' => Ext h h' ∧ ∃ w, u = .tup [w, .i .i64 (placeS xs kind k).2] ∧ Seas h' w (placeS xs kind k).1 := by
  refine (WC_in t51).2 ?_
  simp only [go_sem, ↓reduceIte, r51_0, r51_1]
  refine (fn_listed hs hn).mono ?_
  rintro _ h1 ⟨e1, rfl⟩
  by_cases hg : ¬ Good xs
  · have hp : placeS xs kind k = ([], 1) := by simp [placeS, hg]
    rw [hp]
    simp only [go_sem, ↓reduceIte, r51_2, r51_3, hg]
    exact ⟨e1, .sn, rfl, Seas.nil⟩
  replace hg := Classical.not_not.1 hg
  have hs1 := hs.ext e1
  simp only [go_sem, ↓reduceIte, r51_2, r51_4, hg, hs1.len]
  refine (fn_Spots (kind := kind) (n := (xs.length : Int)) (k := k)).mono ?_
  rintro _ h2 ⟨e2, w, rfl, hw⟩
  by_cases he : ¬ (spotsS kind xs.length k).2 = 0
  · have hp : placeS xs kind k = ([], (spotsS kind xs.length k).2) := by simp [placeS, hg, he]
    rw [hp]
    simp only [go_sem, ↓reduceIte, r51_5, r51_6, he]
    exact ⟨e1.trans e2, .sn, rfl, Seas.nil⟩
  replace he := Classical.not_not.1 he
  have hp : placeS xs kind k = (List.zipWith (fun x p => (x, p.1, p.2)) xs (spotsS kind xs.length k).1, 0) := by simp [placeS, hg, he]
  rw [hp]
  obtain ⟨m, hm, _, _, nice⟩ := nice_spots he
  have hl : (spotsS kind xs.length k).1.length = xs.length := by rw [nice.len]; omega
  generalize hps : (spotsS kind xs.length k).1 = ps at *
  have hs2 := hs1.ext e2
  simp only [go_sem, ↓reduceIte, r51_5, r51_7, r51_8, he, hs2.len]
  refine W_while (fun kk t h' => ∃ (i : Nat) (o : V), kk = xs.length - i ∧ i ≤ xs.length ∧ t.length = 48 ∧ nth t 9 = w ∧ nth t 11 = o ∧ nth t 30 = v ∧ nth t 31 = .i .i64 (xs.length : Int) ∧ nth t 32 = .i .i64 (i : Int) ∧ Ext h2 h' ∧ Own h2 3 h' o i (recs sea ((List.zipWith (fun x p => (x, p.1, p.2)) xs ps).take i))) ?_ xs.length ?_
  · rintro kk t h3 ⟨i, o, rfl, hi, tl, t9, t11, t30, t31, t32, e3, o3⟩
    unfold b51_0
    by_cases hlt : i < xs.length
    · have hlt' : (i : Int) < (xs.length : Int) := by omega
      obtain ⟨x, hx⟩ : ∃ x, xs[i]? = some x := ⟨_, List.getElem?_eq_getElem hlt⟩
      have hlt2 : i < ps.length := by omega
      obtain ⟨p, hpi⟩ : ∃ p, ps[i]? = some p := ⟨_, List.getElem?_eq_getElem hlt2⟩
      have s3 := hs2.ext e3
      have p3 := hw.ext e3
      have hld := Sl.ldn p3 hlt2
      rw [spots_at ps i p hpi] at hld
      obtain ⟨o', h4, r1, r2, r3, _⟩ := app_3 (f := sea) (x, p.1, p.2) sea_len sea_one o3 e3 (by omega)
      simp only [sea] at r1
      simp only [go_sem, ↓reduceIte, r51_9, r51_10, r51_11, r51_12, tl, t9, t11, t30, t31, t32, hlt', s3.ix hlt, s3.ld hx, Sl.ix p3 hlt2, hld, r1, wrap_succ (show i < 1000000000 by omega)]
      refine ⟨xs.length - (i + 1), by omega, i + 1, o', rfl, hlt, rfl, rfl, r2, ?_⟩
      rw [zip_take hx hpi]
      exact r3
    · have hlt' : ¬ (i : Int) < (xs.length : Int) := by omega
      simp only [go_sem, ↓reduceIte, r51_9, r51_13, tl, t9, t11, t30, t31, t32, hlt']
      rw [List.take_of_length_le (by simp; omega)] at o3
      exact ⟨e1.trans (e2.trans e3), o, rfl, (Seas.of o3.sl).1⟩
  · refine ⟨0, .sn, by omega, by omega, ?_⟩
    simp only [go_sem, ↓reduceIte]
    exact ⟨.refl h2, .nil⟩

theorem t52 : tblA 52 = some a52 := by kernel_rfl
theorem fn_refPlace {h : H} {v : V} {xs : List Int} {kind k : Int} (hs : Ints h v xs) (hn : xs.length ≤ 1000000) :
    WC tblA (.fn 52 [] []) [v, .i .u8 kind, .i .i64 k] h fun u h' => Ext h h' ∧ ∃ w, u = .tup [w, .i .i64 (placeS xs kind k).2] ∧ Seas h' w (placeS xs kind k).1 := by
  refine (WC_in t52).2 ?_
  simp only [go_sem, ↓reduceIte, r52_0, r52_1]
  refine (fn_list hs hn).mono ?_
  rintro _ _ ⟨rfl, rfl⟩
  by_cases hg : ¬ Good xs
  · have hp : placeS xs kind k = ([], 1) := by simp [placeS, hg]
    rw [hp]
    simp only [go_sem, ↓reduceIte, r52_2, r52_3, hg]
    exact ⟨.refl _, .sn, rfl, Seas.nil⟩
  replace hg := Classical.not_not.1 hg
  simp only [go_sem, ↓reduceIte, r52_2, r52_4, hg, hs.len]
  refine (fn_refSpots (kind := kind) (n := (xs.length : Int)) (k := k)).mono ?_
  rintro _ h2 ⟨e2, w, rfl, hw⟩
  by_cases he : ¬ (spotsS kind xs.length k).2 = 0
  · have hp : placeS xs kind k = ([], (spotsS kind xs.length k).2) := by simp [placeS, hg, he]
    rw [hp]
    simp only [go_sem, ↓reduceIte, r52_5, r52_6, he]
    exact ⟨e2, .sn, rfl, Seas.nil⟩
  replace he := Classical.not_not.1 he
  have hp : placeS xs kind k = (List.zipWith (fun x p => (x, p.1, p.2)) xs (spotsS kind xs.length k).1, 0) := by simp [placeS, hg, he]
  rw [hp]
  obtain ⟨m, hm, _, _, nice⟩ := nice_spots he
  have hl : (spotsS kind xs.length k).1.length = xs.length := by rw [nice.len]; omega
  generalize hps : (spotsS kind xs.length k).1 = ps at *
  have hs2 := hs.ext e2
  simp only [go_sem, ↓reduceIte, r52_5, r52_7, r52_8, he]
  refine W_while (fun kk t h' => ∃ (i : Nat) (o : V), kk = xs.length - i ∧ i ≤ xs.length ∧ t.length = 47 ∧ nth t 0 = v ∧ nth t 9 = w ∧ nth t 11 = o ∧ nth t 12 = .i .i64 (i : Int) ∧ Ext h2 h' ∧ Own h2 3 h' o i (recs sea ((List.zipWith (fun x p => (x, p.1, p.2)) xs ps).take i))) ?_ xs.length ?_
  · rintro kk t h3 ⟨i, o, rfl, hi, tl, t0, t9, t11, t12, e3, o3⟩
    unfold b52_0
    have s3 := hs2.ext e3
    have p3 := hw.ext e3
    have hlen := Sl.len p3
    rw [hl] at hlen
    by_cases hlt : i < xs.length
    · have hlt' : (i : Int) < (xs.length : Int) := by omega
      obtain ⟨x, hx⟩ : ∃ x, xs[i]? = some x := ⟨_, List.getElem?_eq_getElem hlt⟩
      have hlt2 : i < ps.length := by omega
      obtain ⟨p, hpi⟩ : ∃ p, ps[i]? = some p := ⟨_, List.getElem?_eq_getElem hlt2⟩
      have hld := Sl.ldn p3 hlt2
      rw [spots_at ps i p hpi] at hld
      obtain ⟨o', hb, h4, r1, r1', r2, r3⟩ := app_3B (f := sea) (x, p.1, p.2) sea_len sea_one o3 e3 (by omega)
      simp only [sea] at r1 r1'
      simp only [go_sem, ↓reduceIte, r52_9, r52_10, r52_11, tl, t0, t9, t11, t12, hlen, hlt', s3.ix hlt, s3.ld hx, Sl.ix p3 hlt2, hld, r1, r1', wrap_succ (show i < 1000000000 by omega)]
      refine ⟨xs.length - (i + 1), by omega, i + 1, o', rfl, hlt, rfl, rfl, r2, ?_⟩
      rw [zip_take hx hpi]
      exact r3
    · have hlt' : ¬ (i : Int) < (xs.length : Int) := by omega
      simp only [go_sem, ↓reduceIte, r52_9, r52_12, tl, t0, t9, t11, t12, hlen, hlt']
      rw [List.take_of_length_le (by simp; omega)] at o3
      exact ⟨e2.trans e3, o, rfl, (Seas.of o3.sl).1⟩
  · refine ⟨0, .sn, by omega, by omega, ?_⟩
    simp only [go_sem, ↓reduceIte]
    exact ⟨.refl h2, .nil⟩
end Go.Air
/-
  Abreast, the program's and the document's; the law RowsSeats; in Air.
-/
set_option maxRecDepth 100000
namespace Go.Air
open Go.Air.Try

def chunk (xs : List Int) (k j : Nat) : List Int := (xs.drop (j * k)).take k
def chunks (xs : List Int) (k : Nat) : List (List Int) := (List.range (rowsN xs.length k)).map (chunk xs k)
def abreastS (xs : List Int) (k : Int) : List (List Int) × Int := if ¬ Good xs ∨ k < 1 ∨ 200 < k then ([], 1) else if 200 < xs.length then ([], 2) else (chunks xs k.toNat, 0)
theorem chunk_len {xs : List Int} {k j : Nat} : (chunk xs k j).length = min k (xs.length - j * k) := by simp [chunk]

/-! ### A list of lists that is built -/
def Rows (h0 h : H) (w : V) (xss : List (List Int)) : Prop := ∃ cs, Own h0 1 h w xss.length cs ∧ ∀ (j : Nat) (xs : List Int), xss[j]? = some xs → ∃ c, cs[j]? = some c ∧ Ints h c xs ∧ h0.next ≤ blkV c ∧ blkV c < h.next ∧ (w = .sn ∨ blkV c ≠ blkV w)
theorem Rows.nil {h0 h : H} : Rows h0 h .sn [] := ⟨[], .nil, fun j xs hj => by simp at hj⟩
theorem Rows.ll {h0 h : H} {w : V} {xss : List (List Int)} (r : Rows h0 h w xss) : LL h w xss := by
  obtain ⟨cs, o, hc⟩ := r
  refine ⟨cs, by simpa using o.sl, fun j xs hj => ?_⟩
  obtain ⟨c, q1, q2, _⟩ := hc j xs hj
  exact ⟨c, q1, q2⟩
/-- nothing behind h0 changes but new blocks. -/
theorem Rows.keep {h0 h h' : H} {w : V} {xss : List (List Int)} (r : Rows h0 h w xss) (hn : h.next ≤ h'.next) (hk : ∀ b, h0.next ≤ b → b < h.next → h'.get b = h.get b) : Rows h0 h' w xss := by
  obtain ⟨cs, o, hc⟩ := r
  refine ⟨cs, ?_, fun j xs hj => ?_⟩
  · obtain ⟨hl, ⟨hz, hw⟩ | ⟨b, g, hw, hg, h1, h2, hb⟩⟩ := o
    · exact ⟨hl, .inl ⟨hz, hw⟩⟩
    · exact ⟨hl, .inr ⟨b, g, hw, hg, h1, by omega, (hk b h1 h2).trans hb⟩⟩
  · obtain ⟨c, q1, q2, q3, q4, q5⟩ := hc j xs hj
    exact ⟨c, q1, Sl.keep q2 hn (fun hb => hk _ q3 hb), q3, by omega, q5⟩
theorem Rows.ext {h0 h h' : H} {w : V} {xss : List (List Int)} (r : Rows h0 h w xss) (e : Ext h h') : Rows h0 h' w xss := r.keep e.nx (fun b _ hb => e.same b hb)
theorem Rows.step {h0 h g : H} {w w' u : V} {xss : List (List Int)} {xs : List Int} {cs : List V} (hc : ∀ (j : Nat) (xs : List Int), xss[j]? = some xs → ∃ c, cs[j]? = some c ∧ Ints h c xs ∧ h0.next ≤ blkV c ∧ blkV c < h.next ∧ (w = .sn ∨ blkV c ≠ blkV w))
    (hl : cs.length = xss.length) (iu : Ints h u xs) (u1 : h0.next ≤ blkV u) (u2 : blkV u < h.next) (u3 : w = .sn ∨ blkV u ≠ blkV w)
    (o : Own h0 1 g w' (xss.length + 1) (cs ++ [u])) (n : h.next < g.next) (k : ∀ b, b < h.next → (w = .sn ∨ b ≠ blkV w) → g.get b = h.get b) (hb : h.next < blkV w') : Rows h0 g w' (xss ++ [xs]) := by
  refine ⟨cs ++ [u], by simpa using o, fun j ys hj => ?_⟩
  by_cases hjl : j < xss.length
  · rw [List.getElem?_append_left hjl] at hj
    obtain ⟨c, q1, q2, q3, q4, q5⟩ := hc j ys hj
    exact ⟨c, by rw [List.getElem?_append_left (by omega)]; exact q1, Sl.keep q2 (Nat.le_of_lt n) (fun hb => k _ hb q5), q3, by omega, .inr (by omega)⟩
  · have hlt := (List.getElem?_eq_some_iff.1 hj).1
    simp at hlt
    obtain rfl : j = xss.length := by omega
    rw [List.getElem?_append_right (by omega)] at hj
    simp at hj
    subst hj
    exact ⟨u, by rw [List.getElem?_append_right (by omega)]; simp [hl], Sl.keep iu (Nat.le_of_lt n) (fun hb => k _ hb u3), u1, by omega, .inr (by omega)⟩
theorem Rows.app {h0 h : H} {w u : V} {xss : List (List Int)} {xs : List Int} (r : Rows h0 h w xss) (e : Ext h0 h) (iu : Ints h u xs) (uo : u.oneCell = true) (u1 : h0.next ≤ blkV u) (u2 : blkV u < h.next) (u3 : w = .sn ∨ blkV u ≠ blkV w) (hn : xss.length ≤ 1000000) :
    ∃ w' h', appendV 1 24 (h.new (.cells [u])) w (.sl h.next 0 1 1 none) = .ok w' h' ∧ Ext h0 h' ∧ Rows h0 h' w' (xss ++ [xs]) ∧ h.next < h'.next := by
  obtain ⟨cs, o, hc⟩ := r
  obtain ⟨w', h', r1, r2, r3, r4, r5, r6⟩ := app_ref (u := u) o e uo hn
  exact ⟨w', h', r1, r2, Rows.step hc (by simpa using o.len) iu u1 u2 u3 r3 r4 r5 r6, r4⟩
theorem app_refB {h0 h : H} {w u : V} {cs : List V} {n : Nat} (o : Own h0 1 h w n cs) (e : Ext h0 h) (hu : u.oneCell = true) (hn : n ≤ 1000000) :
    ∃ w' hb g, appendV 1 24 (h.new (.cells [u])).bare w (.sl h.next 0 1 1 none) = .ok w' hb ∧ (h.new (.cells [u])).back hb = g ∧ Ext h0 g ∧ Own h0 1 g w' (n + 1) (cs ++ [u]) ∧ h.next < g.next ∧ (∀ b, b < h.next → (w = .sn ∨ b ≠ blkV w) → g.get b = h.get b) ∧ h.next < blkV w' := by
  obtain ⟨o3, x3⟩ := Own.lit (esz := 1) (Ext.refl h) [u] 1 rfl
  obtain ⟨w', hb, g, r1, r2, r3, r4, r5, r6, r7⟩ := Own.appB (bytes := 24) (o.ext x3) (e.trans x3) o3.sl (by intro y hy; simp at hy; subst hy; exact hu) (by omega) (by omega) (by omega)
  refine ⟨w', hb, g, r1, r2, r3, r4, by simp at r5; omega, fun b hb hw => ?_, by rw [r7 (by omega)]; simp⟩
  rw [r6 b (by simp; omega) hw, H.get_new, if_neg (by omega)]
theorem Rows.appB {h0 h : H} {w u : V} {xss : List (List Int)} {xs : List Int} (r : Rows h0 h w xss) (e : Ext h0 h) (iu : Ints h u xs) (uo : u.oneCell = true) (u1 : h0.next ≤ blkV u) (u2 : blkV u < h.next) (u3 : w = .sn ∨ blkV u ≠ blkV w) (hn : xss.length ≤ 1000000) :
    ∃ w' hb g, appendV 1 24 (h.new (.cells [u])).bare w (.sl h.next 0 1 1 none) = .ok w' hb ∧ (h.new (.cells [u])).back hb = g ∧ Ext h0 g ∧ Rows h0 g w' (xss ++ [xs]) ∧ h.next < g.next := by
  obtain ⟨cs, o, hc⟩ := r
  obtain ⟨w', hb, g, r0, r1, r2, r3, r4, r5, r6⟩ := app_refB (u := u) o e uo hn
  exact ⟨w', hb, g, r0, r1, r2, Rows.step hc (by simpa using o.len) iu u1 u2 u3 r3 r4 r5 r6, r4⟩
theorem Rows.wlt {h0 h : H} {w : V} {xss : List (List Int)} (r : Rows h0 h w xss) : w = .sn ∨ blkV w < h.next := by
  obtain ⟨cs, o, _⟩ := r
  exact o.wlt

/-! ### s[i:j:j] -/
def slV3 (esz : Nat) (v i j m : V) : Option V := sliceV3 esz [i, j, m] (some (.t 0)) (some (.t 1)) (.t 2) v
@[go_sem ↓] theorem wa_slc3 {tbl : Nat → Option FI} {esz : Nat} {x y z m : X} {t : List V} {h : H} {S : V → H → Prop} : WA tbl (.slc esz x (some y) (some z) (some m)) t h S ↔ ROk (RO.ofV h (slV3 esz (x.ev t) (y.ev t) (z.ev t) (m.ev t))) S := by
  refine WA_of rfl ?_
  show RO.ofV h (sliceV3 esz t (some y) (some z) m (x.ev t)) = _
  congr 1
  have e : natOf (X.ev [y.ev t, z.ev t, m.ev t] (.t 2)) = natOf (m.ev t) := rfl
  have eb : ∀ len cap, bounds [y.ev t, z.ev t, m.ev t] len cap (some (.t 0)) (some (.t 1)) = bounds t len cap (some y) (some z) := fun _ _ => rfl
  unfold slV3 sliceV3
  cases x.ev t <;> first | rfl | (simp only [e, eb]; cases natOf (m.ev t) <;> rfl)
theorem Arg.sl3 {h : H} {v : V} {n a b : Nat} {cs : List V} (s : Arg 1 h v n cs) (hab : a < b) (hb : b ≤ n) : ∃ u, slV3 1 v (.i .i64 (a : Int)) (.i .i64 (b : Int)) (.i .i64 (b : Int)) = some u ∧ Sl 1 h u (b - a) ((cs.drop a).take (b - a)) := by
  rcases s with ⟨rfl, rfl, hv⟩ | ⟨b', off, cap, bl, rfl, hc, hb', hg', hr⟩
  · omega
  · have key : bl.rd (off + a * 1) ((b - a) * 1) = some ((cs.drop (a * 1)).take ((b - a) * 1)) := rd_sub hr (by omega)
    have hbd : bounds [.i .i64 (a : Int), .i .i64 (b : Int), .i .i64 (b : Int)] b b (some (.t 0)) (some (.t 1)) = some (a, b) := bounds_lh rfl rfl (Nat.le_refl b) (by omega)
    have h1 : Nat.ble b cap = true := by rw [Nat.ble_eq]; omega
    have h2 : Nat.beq a b = false := by rw [Bool.eq_false_iff, ne_eq, Nat.beq_eq]; omega
    simp only [slV3, sliceV3]
    rw [show natOf (X.ev [.i .i64 (a : Int), .i .i64 (b : Int), .i .i64 (b : Int)] (.t 2)) = some b from rfl]
    simp only [h1, if_true, hbd, h2, Bool.false_eq_true, if_false]
    refine ⟨_, rfl, .inr ⟨b', _, b - a, none, bl, rfl, hb', hg', ?_⟩⟩
    simpa using key

theorem t121 : tblA 121 = some a121 := by kernel_rfl
theorem fn_Chunk1 {h : H} {b1 b2 l k : Nat} {v : V} {xs : List Int} (J : Nat → H → Prop) (hJ : ∀ j h', J j h' → h'.get b1 = some (.cells [v]) ∧ h'.get b2 = some (.cells [.i .i64 (k : Int)]) ∧ Arg 1 h' v xs.length (ints xs))
    (hstep : ∀ j u h', J j h' → j * k < xs.length → Ints h' u (chunk xs k j) → WC tblA (.yld l) [u] h' (fun r h'' => r = .b true ∧ J (j + 1) h''))
    (h0 : J 0 h) (hk1 : 1 ≤ k) (hk2 : k ≤ 1000) (hn : xs.length ≤ 1000) : WC tblA (.fn 121 [] [.p b1 0, .p b2 0]) [.yld l] h fun _ h' => J (rowsN xs.length k) h' := by
  refine (WC_fn' t121).2 ?_
  have hap : ([] : List V) ++ [.yld l] ++ [.p b1 0, .p b2 0] = [.yld l, .p b1 0, .p b2 0] := rfl
  rw [hap]
  simp only [a121]
  simp only [go_sem, ↓reduceIte, r121_0]
  refine W_while (fun kk t h' => ∃ j, kk = xs.length - j ∧ j ≤ xs.length ∧ (j = 0 ∨ (j - 1) * k < xs.length) ∧ t.length = 31 ∧ nth t 0 = .yld l ∧ nth t 1 = .p b1 0 ∧ nth t 2 = .p b2 0 ∧ nth t 4 = .i .i64 ((j * k : Nat) : Int) ∧ J j h') ?_ xs.length ?_
  · rintro kk t h' ⟨j, rfl, hj, hpr, tl, t0, t1, t2, t4, hJ'⟩
    obtain ⟨g1, g2, ar⟩ := hJ j h' hJ'
    have ls := blk_ld (i := 0) g1 rfl
    have ln := blk_ld (i := 0) g2 rfl
    have hlen := Sl.len ar.sl
    have hjk : j * k ≤ 1000 * 1000 := Nat.mul_le_mul (by omega) hk2
    unfold b121_0
    by_cases hlt : j * k < xs.length
    · have hlt' : ((j * k : Nat) : Int) < (xs.length : Int) := by omega
      obtain ⟨w1, q1, a1⟩ := ar.lo (a := j * k) (by omega)
      have hl1 := Sl.len a1.sl
      have hmin : (if ((xs.length - j * k : Nat) : Int) < (k : Int) then ((xs.length - j * k : Nat) : Int) else (k : Int)) = ((min k (xs.length - j * k) : Nat) : Int) := by
        split <;> omega
      have hw : IntKind.i64.wrap (((j * k : Nat) : Int) + ((min k (xs.length - j * k) : Nat) : Int)) = ((j * k + min k (xs.length - j * k) : Nat) : Int) := by
        rw [wrap_in (by omega) (by omega)]; omega
      obtain ⟨u, q2, s2⟩ := ar.sl3 (a := j * k) (b := j * k + min k (xs.length - j * k)) (by omega) (by omega)
      have iu : Ints h' u (chunk xs k j) := by
        have : (ints xs).drop (j * k) = ints (xs.drop (j * k)) := by simp [ints]
        rw [this] at s2
        have e : (ints (xs.drop (j * k))).take (j * k + min k (xs.length - j * k) - j * k) = ints (chunk xs k j) := by
          simp only [ints, chunk, ← List.map_take]
          congr 1
          rw [List.take_eq_take_iff]
          simp
        rw [e] at s2
        exact (Ints.of s2).1
      simp only [go_sem, ↓reduceIte, r121_1, r121_3, tl, t0, t1, t2, t4, ls, ln, hlen, hlt', q1, hl1, hmin]
      simp only [go_sem, ↓reduceIte, r121_4, tl, t0, t1, t2, t4, ls, hw, q2]
      refine (hstep j u h' hJ' hlt iu).mono ?_
      rintro _ h2 ⟨rfl, hJ2⟩
      obtain ⟨_, g2', _⟩ := hJ (j + 1) h2 hJ2
      have ln2 := blk_ld (i := 0) g2' rfl
      have hw2 : IntKind.i64.wrap (((j * k : Nat) : Int) + (k : Int)) = (((j + 1) * k : Nat) : Int) := by
        rw [wrap_in (by omega) (by omega), Nat.succ_mul]; omega
      have hjn : j < xs.length := by
        have : j * 1 ≤ j * k := Nat.mul_le_mul_left _ hk1
        omega
      simp only [go_sem, ↓reduceIte, r121_2, tl, t0, t1, t2, t4, ln2, hw2]
      exact ⟨xs.length - (j + 1), by omega, j + 1, rfl, hjn, .inr (by simpa using hlt), rfl, hJ2⟩
    · have hlt' : ¬ ((j * k : Nat) : Int) < (xs.length : Int) := by omega
      have hiR : j = rowsN xs.length k := by
        have h1 : ¬ j < rowsN xs.length k := fun q => hlt ((rows_lt hk1).2 q)
        rcases hpr with rfl | hpr
        · omega
        · have := (rows_lt hk1).1 hpr
          omega
      simp only [go_sem, ↓reduceIte, r121_1, tl, t0, t1, t2, t4, ls, hlen, hlt']
      rw [← hiR]
      exact hJ'
  · refine ⟨0, by omega, by omega, .inl rfl, ?_⟩
    simp only [go_sem, ↓reduceIte]
    simp [h0]

/-- the heap as far as n. -/
def trunc (n : Nat) (h : H) : H := ⟨n, h.mem, h.log⟩
theorem trunc_ext {n : Nat} {h : H} (hn : n ≤ h.next) : Ext (trunc n h) h := ⟨hn, fun b _ => rfl, [], rfl, fun _ hb => by simp at hb⟩
theorem ext_trunc {n : Nat} {hA h : H} (e : Ext hA h) (hn : hA.next ≤ n) : Ext hA (trunc n h) := ⟨hn, fun b hb => e.same b hb, e.log⟩
theorem t100 : tblA 100 = some a100 := by kernel_rfl
theorem t53 : tblA 53 = some a53 := by kernel_rfl
def s53_8a : List O := [⟨some 28, none, .ld (.t 6)⟩, ⟨some 29, none, .mov (.t 7)⟩, ⟨some 30, none, .call (.f 70) [(.t 29)]⟩]
def s53_8b : List O := [⟨some 31, none, .buildSl [.sn] 1 [(0, 1, (.t 30))]⟩, ⟨some 32, none, .app 1 24 (.t 28) (.t 31)⟩, ⟨none, none, .st 1 (.t 6) (.t 32)⟩]
theorem r53_8_eq : r53_8 = s53_8a ++ s53_8b := rfl
theorem chunks_take {xs : List Int} {k j : Nat} (hj : j < rowsN xs.length k) : (chunks xs k).take (j + 1) = (chunks xs k).take j ++ [chunk xs k j] := take_succ' (by simp [chunks, hj])
theorem draw53 {hA hB h : H} {oc l : Nat} {w u : V} {xss : List (List Int)} {xs : List Int} {t : List V} {Q : Out → List V → H → Prop} {L : Loop} (tl : t.length = 34) (t6 : nth t 6 = .p oc 0) (t7 : nth t 7 = u) (hoc : oc < hB.next) (hl : l < hB.next) (hlo : l ≠ oc) (hAB : hA.next ≤ oc)
    (hBh : hB.next ≤ h.next) (g : h.get oc = some (.cells [w])) (gl : h.get l = some (.loop L)) (e : Ext hA h) (r : Rows hB h w xss) (iu : Ints h u xs) (hne : xs ≠ []) (hx : xs.length ≤ 1000000) (hn : xss.length ≤ 1000000)
    (hQ : ∀ t' w' h', Ext hA h' → hB.next ≤ h'.next → h'.get oc = some (.cells [w']) → h'.get l = some (.loop L) → (∀ b, b < hB.next → b ≠ oc → h'.get b = h.get b) → Rows hB h' w' (xss ++ [xs]) → Q .norm t' h') :
    WD tblA r53_8 t h [] (Kcrit [(0, 2)] Q) := by
  rw [r53_8_eq]
  apply W_crit (by simp [s53_8a])
  have l6 := blk_ld (i := 0) g rfl
  simp only [go_sem, ↓reduceIte, s53_8a, tl, t6, t7, l6]
  refine (fn_Clone (h := h.bare) (Sl.bare iu) hx).mono ?_
  rintro c h1 ⟨e1, o1⟩
  have hold := e1.old
  have o1' : Own h 1 (h.back h1) c xs.length (ints xs) := o1
  replace e1 := e1.back
  have c1 := o1'.pos (by cases xs with
    | nil => exact absurd rfl hne
    | cons x l => simp)
  simp only [go_sem, ↓reduceIte, hold]
  generalize hq : h.back h1 = h2 at *
  have r2 := r.ext e1
  have hwl := r.wlt
  have hn1 := e1.nx
  have hone := o1'.one
  have hnB : hB.next ≤ h2.next := by omega
  have rT : Rows (trunc hB.next h2) h2 w xss := r2
  obtain ⟨w', hb, g', q0, q1, q2, q3, q4⟩ := rT.appB (trunc_ext hnB) (xs := xs) (u := c) (Ints.of o1'.sl).1 hone.2 (show hB.next ≤ blkV c by omega) c1.2.2 (by
    rcases hwl with z | z
    · exact .inl z
    · exact .inr (by omega)) hn
  have eA : Ext hA g' := (ext_trunc (e.trans e1) (by omega)).trans q2
  have fr : ∀ b, b < hB.next → g'.get b = h.get b := fun b hb => (q2.same b hb).trans (e1.same b (by omega))
  have goc : g'.get oc = some (.cells [w]) := (fr oc hoc).trans g
  have hw' : w'.cells = [w'] ∧ w'.oneCell = true := by
    obtain ⟨cs, o, _⟩ := q3
    exact o.one
  have hst := st_ref (h := g'.bare) goc hw'.1 hw'.2
  have hbk := back_put (h := g') (b := oc) (by omega) (.cells [w'])
  simp only [go_sem, ↓reduceIte, s53_8b, tl, t6, fill1_of hone.1, q0, q1, hst, hbk]
  refine hQ _ w' _ (eA.put hAB _) (by simp; omega) (by rw [H.get_put, if_pos rfl]) (by rw [H.get_put, if_neg hlo, fr l hl]; exact gl) (fun b hb hne => by rw [H.get_put, if_neg hne]; exact fr b hb) ?_
  exact Rows.keep (h0 := hB) q3 (Nat.le_refl _) (fun b h1 _ => by rw [H.get_put, if_neg (by omega)])

theorem fn_Chunk {h : H} {k : Int} {v : V} (hk : ¬ k < 1) : WC tblA (.fn 100 [] []) [v, .i .i64 k] h fun u h' => u = .fn 121 [] [.p h.next 0, .p (h.next + 1) 0] ∧ h' = (h.new (.cells v.cells)).new (.cells [.i .i64 k]) := by
  refine (WC_in t100).2 ?_
  have g2 : ((h.new (.cells v.cells)).new (.cells [.i .i64 k])).get (h.next + 1) = some (.cells [.i .i64 k]) := by rw [H.get_new, if_pos (by simp)]
  have l2 := blk_ld (i := 0) g2 rfl
  simp only [go_sem, ↓reduceIte, r100_0, H.next_new]
  rw [show (V.i .i64 k).cells = [.i .i64 k] from rfl]
  simp only [go_sem, ↓reduceIte, r100_1, r100_3, l2, hk]
theorem arg_cells {h : H} {v : V} {n : Nat} {cs : List V} (s : Sl 1 h v n cs) : v.cells = [v] ∧ v.oneCell = true := by
  rcases s with ⟨_, _, rfl | ⟨a, rfl⟩⟩ | ⟨b, off, cap, g, bl, rfl, _⟩ <;> exact ⟨rfl, rfl⟩

theorem draw53_1 {h h' : H} {v : V} {xs : List Int} {k : Int} {t : List V} {Q : Out → List V → H → Prop} (tl : t.length = 34) (t0 : nth t 0 = v) (t1 : nth t 1 = .i .i64 k) (hs : Ints h v xs) (hn : xs.length ≤ 1000000)
    (hQ : ∀ t' h', Ext h h' → t'.length = 34 → nth t' 0 = v → nth t' 1 = .i .i64 k → nth t' 8 = .b (decide (¬ Good xs ∨ k < 1 ∨ 200 < k)) → Q .norm t' h') : WL tblA r53_1 t h (Kops Q) := by
  simp only [go_sem, ↓reduceIte, r53_1, tl, t0, t1]
  refine (fn_listed hs hn).mono ?_
  rintro _ h1 ⟨e1, rfl⟩
  by_cases c1 : Good xs
  · by_cases c2 : k < 1
    · simp only [go_sem, ↓reduceIte, tl, t0, t1, c1, c2]
      exact hQ _ _ e1 (by simp only [go_sem, ↓reduceIte, tl]) (by simp only [go_sem, ↓reduceIte, t0]) (by simp only [go_sem, ↓reduceIte, t1]) (by simp only [go_sem, ↓reduceIte, tl]; simp [c2])
    · by_cases c3 : 200 < k
      · simp only [go_sem, ↓reduceIte, tl, t0, t1, c1, c2, c3]
        exact hQ _ _ e1 (by simp only [go_sem, ↓reduceIte, tl]) (by simp only [go_sem, ↓reduceIte, t0]) (by simp only [go_sem, ↓reduceIte, t1]) (by simp only [go_sem, ↓reduceIte, tl]; simp [c3])
      · simp only [go_sem, ↓reduceIte, tl, t0, t1, c1, c2, c3]
        exact hQ _ _ e1 (by simp only [go_sem, ↓reduceIte, tl]) (by simp only [go_sem, ↓reduceIte, t0]) (by simp only [go_sem, ↓reduceIte, t1]) (by simp only [go_sem, ↓reduceIte, tl]; simp [c1, c2, c3])
  · simp only [go_sem, ↓reduceIte, tl, t0, t1, c1]
    exact hQ _ _ e1 (by simp only [go_sem, ↓reduceIte, tl]) (by simp only [go_sem, ↓reduceIte, t0]) (by simp only [go_sem, ↓reduceIte, t1]) (by simp only [go_sem, ↓reduceIte, tl]; simp [c1])
def AbrRes (h h' : H) (xs : List Int) (k : Int) (u : V) : Prop := Ext h h' ∧ ∃ w, u = .tup [w, .i .i64 (abreastS xs k).2] ∧ LL h' w (abreastS xs k).1

theorem Sl.put_loop {h : H} {esz n l : Nat} {u : V} {cs : List V} {L : Loop} (s : Sl esz h u n cs) (g : h.get l = some (.loop L)) (x : Blk) : Sl esz (h.put l x) u n cs := by
  rcases s with s | ⟨b, off, cap, gr, bl, rfl, hb, hg, hr⟩
  · exact .inl s
  · have hbl : b ≠ l := by
      rintro rfl
      rw [g] at hg
      cases hg
      simp [Blk.rd] at hr
    exact .inr ⟨b, off, cap, gr, bl, rfl, by simpa using hb, by rw [H.get_put, if_neg hbl]; exact hg, hr⟩
theorem fn_Abreast {h : H} {v : V} {xs : List Int} {k : Int} (hs : Arg 1 h v xs.length (ints xs)) (hn : xs.length ≤ 1000000) : WC tblA (.fn 53 [] []) [v, .i .i64 k] h fun u h' => AbrRes h h' xs k u := by
  refine (WC_in t53).2 ?_
  simp only [go_sem, ↓reduceIte, r53_0]
  refine draw53_1 (h' := h) (xs := xs) (k := k) (v := v) (by simp only [go_sem, ↓reduceIte]) (by simp only [go_sem, ↓reduceIte]) (by simp only [go_sem, ↓reduceIte]) (Ints.of hs.sl).1 hn ?_
  intro t h1 e1 tl t0 t1 t8
  by_cases c1 : ¬ Good xs ∨ k < 1 ∨ 200 < k
  · have ha : abreastS xs k = ([], 1) := by unfold abreastS; rw [if_pos c1]
    rw [decide_eq_true c1] at t8
    simp only [go_sem, ↓reduceIte, r53_2, t8, tl]
    exact ⟨e1, .sn, by rw [ha], by rw [ha]; exact LL.nil⟩
  rw [decide_eq_false c1] at t8
  have s1 := hs.ext e1
  by_cases c2 : (200 : Int) < (xs.length : Int)
  · have ha : abreastS xs k = ([], 2) := by unfold abreastS; rw [if_neg c1, if_pos (by omega)]
    simp only [go_sem, ↓reduceIte, r53_3, r53_4, t0, t8, tl, Sl.len s1.sl, c2]
    exact ⟨e1, .sn, by rw [ha], by rw [ha]; exact LL.nil⟩
  have hk1 : ¬ k < 1 := fun z => c1 (.inr (.inl z))
  have hk2 : ¬ 200 < k := fun z => c1 (.inr (.inr z))
  obtain ⟨q, rfl⟩ := Int.eq_ofNat_of_zero_le (a := k) (by omega)
  have ha : abreastS xs (q : Int) = (chunks xs q, 0) := by unfold abreastS; rw [if_neg c1, if_neg (by omega)]; simp
  unfold AbrRes
  rw [ha]
  simp only [go_sem, ↓reduceIte, r53_3, r53_5, t0, t1, t8, tl, Sl.len s1.sl, c2]
  have e2 : Ext h1 (h1.new (.cells [.sn])) := (Ext.refl h1).new _
  have g2 : (h1.new (.cells [.sn])).get h1.next = some (.cells [.sn]) := by rw [H.get_new, if_pos rfl]
  have n2 : (h1.new (.cells [.sn])).next = h1.next + 1 := rfl
  generalize hh2 : h1.new (.cells [.sn]) = h2 at *
  simp only [go_sem, ↓reduceIte, r53_6, t0, t1, tl]
  refine (fn_Chunk hk1).mono ?_
  rintro _ _ ⟨rfl, rfl⟩
  rw [(arg_cells s1.sl).1]
  have e3 : Ext h2 ((h2.new (.cells [v])).new (.cells [.i .i64 (q : Int)])) := ((Ext.refl h2).new _).new _
  have g31 : ((h2.new (.cells [v])).new (.cells [.i .i64 (q : Int)])).get h2.next = some (.cells [v]) := by rw [H.get_new, if_neg (by simp), H.get_new, if_pos rfl]
  have g32 : ((h2.new (.cells [v])).new (.cells [.i .i64 (q : Int)])).get (h2.next + 1) = some (.cells [.i .i64 (q : Int)]) := by rw [H.get_new, if_pos (by simp)]
  have n3 : ((h2.new (.cells [v])).new (.cells [.i .i64 (q : Int)])).next = h2.next + 2 := rfl
  simp only [go_sem, ↓reduceIte]
  generalize hh3 : (h2.new (.cells [v])).new (.cells [.i .i64 (q : Int)]) = h3 at *
  refine W_rangeN (g := 121) (a := []) (c := [.p h2.next 0, .p (h2.next + 1) 0]) (by simp only [go_sem, ↓reduceIte, tl]) ?_
  generalize hT : upd (upd (upd (upd (upd (upd (upd (upd t 21 v) 22 (V.i IntKind.i64 ↑xs.length)) 23 (V.b false)) 20 (V.b false)) 6 (V.p h1.next 0)) 24 v) 25 (V.i IntKind.i64 ↑q)) 26 (V.fn 121 [] [V.p h2.next 0, V.p (h2.next + 1) 0]) = T0
  have T0l : T0.length = 34 := by rw [← hT]; simp only [go_sem, ↓reduceIte, tl]
  have T06 : nth T0 6 = .p h1.next 0 := by rw [← hT]; simp only [go_sem, ↓reduceIte, tl]
  have gl0 : (h3.new (.loop ⟨.ready, none, T0, [27], .ops r53_7, b53_0⟩)).get h3.next = some (.loop ⟨.ready, none, T0, [27], .ops r53_7, b53_0⟩) := by rw [H.get_new, if_pos rfl]
  have e4 : Ext h3 (h3.new (.loop ⟨.ready, none, T0, [27], .ops r53_7, b53_0⟩)) := (Ext.refl h3).new _
  have n4 : (h3.new (.loop ⟨.ready, none, T0, [27], .ops r53_7, b53_0⟩)).next = h3.next + 1 := rfl
  generalize hh4 : h3.new (.loop ⟨.ready, none, T0, [27], .ops r53_7, b53_0⟩) = hB at *
  have J0 : ∀ J : Nat → H → Prop, J = (fun j h' => Ext h1 h' ∧ hB.next ≤ h'.next ∧ h'.get h3.next = some (.loop ⟨.ready, none, T0, [27], .ops r53_7, b53_0⟩) ∧ h'.get h2.next = some (.cells [v]) ∧ h'.get (h2.next + 1) = some (.cells [.i .i64 (q : Int)]) ∧
      ∃ w, h'.get h1.next = some (.cells [w]) ∧ Rows hB h' w ((chunks xs q).take j)) → WC tblA (V.fn 121 [] [V.p h2.next 0, V.p (h2.next + 1) 0]) [V.yld h3.next] hB fun _ h' => J (rowsN xs.length q) h' := by
    intro J hJd
    refine fn_Chunk1 (k := q) (v := v) (xs := xs) J ?_ ?_ ?_ (by omega) (by omega) (by omega)
    · intro j h' hJ
      rw [hJd] at hJ
      obtain ⟨q1, q2, q3, q4, q5, q6⟩ := hJ
      exact ⟨q4, q5, s1.ext q1⟩
    · intro j u h' hJ hlt iu
      rw [hJd] at hJ
      obtain ⟨q1, q2, q3, q4, q5, w, q6, q7⟩ := hJ
      have hjR : j < rowsN xs.length q := (rows_lt (by omega)).1 hlt
      refine yld_round q3 rfl ?_
      simp only [go_sem, ↓reduceIte, r53_7, updAll, T0l]
      unfold b53_0
      simp only [go_sem, ↓reduceIte]
      have hln : h3.next ≠ h1.next := by omega
      have hch : (chunk xs q j).length = min q (xs.length - j * q) := chunk_len
      refine draw53 (hA := h1) (hB := hB) (oc := h1.next) (l := h3.next) (w := w) (u := u) (xss := (chunks xs q).take j) (xs := chunk xs q j) (by simp only [go_sem, ↓reduceIte, T0l]) (by simp only [go_sem, ↓reduceIte, T06]) (by simp only [go_sem, ↓reduceIte, T0l]) (by omega) (by omega) hln (Nat.le_refl _)
        (by simpa using q2) (by rw [H.get_put, if_neg (Ne.symm hln)]; exact q6) (by rw [H.get_put, if_pos rfl]) (q1.put (by omega) _) (q7.keep (by simp) (fun b hb1 hb2 => by rw [H.get_put, if_neg (by omega)])) (Sl.put_loop iu q3 _)
        (by intro z; rw [z] at hch; simp at hch; omega) (by omega) (by
          have : rowsN xs.length q ≤ xs.length := rows_le (by omega)
          simp [chunks]; omega) ?_
      intro t' w' h'' f1 f2 f3 f4 f5 f6
      simp only [go_sem, ↓reduceIte]
      rw [hJd]
      refine ⟨f4, f1.put (by omega) _, by simpa using f2, by rw [H.get_put, if_pos rfl]; rfl, ?_, ?_, w', ?_, ?_⟩
      · rw [H.get_put, if_neg (by omega), f5 _ (by omega) (by omega), H.get_put, if_neg (by omega)]; exact q4
      · rw [H.get_put, if_neg (by omega), f5 _ (by omega) (by omega), H.get_put, if_neg (by omega)]; exact q5
      · rw [H.get_put, if_neg (Ne.symm hln)]; exact f3
      · rw [chunks_take hjR]
        exact f6.keep (by simp) (fun b hb1 hb2 => by rw [H.get_put, if_neg (by omega)])
    · rw [hJd]
      have e34 := e3.trans e4
      exact ⟨e2.trans e34, Nat.le_refl _, gl0, (e4.same _ (by omega)).trans g31, (e4.same _ (by omega)).trans g32, .sn, (e34.same _ (by omega)).trans g2, Rows.nil⟩
  refine (J0 _ rfl).mono ?_
  rintro _ h' ⟨q1, q2, q3, q4, q5, w, q6, q7⟩
  refine ⟨q3, ?_⟩
  rw [List.take_of_length_le (by simp [chunks])] at q7
  have hln : h3.next ≠ h1.next := by omega
  have g6 : (h'.put h3.next (.loop ⟨.over, none, T0, [27], .ops r53_7, b53_0⟩)).get h1.next = some (.cells [w]) := by rw [H.get_put, if_neg (Ne.symm hln)]; exact q6
  have l6 := blk_ld (i := 0) g6 rfl
  simp only [go_sem, ↓reduceIte, r53_9, T06, T0l, l6]
  exact ⟨e1.trans (q1.put (by omega) _), w, rfl, (q7.keep (by simp) (fun b hb1 hb2 => by rw [H.get_put, if_neg (by omega)])).ll⟩

theorem t54 : tblA 54 = some a54 := by kernel_rfl
theorem fn_refAbreast {h : H} {v : V} {xs : List Int} {k : Int} (hs : Arg 1 h v xs.length (ints xs)) (hn : xs.length ≤ 1000000) : WC tblA (.fn 54 [] []) [v, .i .i64 k] h fun u h' => AbrRes h h' xs k u := by
  refine (WC_in t54).2 ?_
  simp only [go_sem, ↓reduceIte, r54_0, r54_1]
  refine (fn_list (Ints.of hs.sl).1 hn).mono ?_
  rintro _ h1 ⟨rfl, ee⟩
  obtain rfl : h = h1 := ee.symm
  by_cases c1 : ¬ Good xs
  · have ha : abreastS xs k = ([], 1) := by unfold abreastS; rw [if_pos (.inl c1)]
    simp only [go_sem, ↓reduceIte, r54_2, r54_3, c1]
    exact ⟨.refl h, .sn, by rw [ha], by rw [ha]; exact LL.nil⟩
  replace c1 := Classical.not_not.1 c1
  by_cases c2 : k < 1
  · have ha : abreastS xs k = ([], 1) := by unfold abreastS; rw [if_pos (.inr (.inl c2))]
    simp only [go_sem, ↓reduceIte, r54_2, r54_3, c1, c2]
    exact ⟨.refl h, .sn, by rw [ha], by rw [ha]; exact LL.nil⟩
  by_cases c3 : 200 < k
  · have ha : abreastS xs k = ([], 1) := by unfold abreastS; rw [if_pos (.inr (.inr c3))]
    simp only [go_sem, ↓reduceIte, r54_2, r54_3, c1, c2, c3]
    exact ⟨.refl h, .sn, by rw [ha], by rw [ha]; exact LL.nil⟩
  have hcc : ¬ (¬ Good xs ∨ k < 1 ∨ 200 < k) := by simp only [c1, c2, c3, not_true_eq_false, or_self, not_false_eq_true]
  by_cases c4 : (200 : Int) < (xs.length : Int)
  · have ha : abreastS xs k = ([], 2) := by unfold abreastS; rw [if_neg hcc, if_pos (by omega)]
    simp only [go_sem, ↓reduceIte, r54_2, r54_4, r54_5, c1, c2, c3, Sl.len hs.sl, c4]
    exact ⟨.refl h, .sn, by rw [ha], by rw [ha]; exact LL.nil⟩
  obtain ⟨q, rfl⟩ := Int.eq_ofNat_of_zero_le (a := k) (by omega)
  have ha : abreastS xs (q : Int) = (chunks xs q, 0) := by unfold abreastS; rw [if_neg hcc, if_neg (by omega)]; simp
  unfold AbrRes
  rw [ha]
  have hR : rowsN xs.length q ≤ xs.length := rows_le (by omega)
  simp only [go_sem, ↓reduceIte, r54_2, r54_4, r54_6, r54_7, c1, c2, c3, Sl.len hs.sl, c4]
  refine W_while (fun kk t h' => ∃ (j : Nat) (w : V), kk = xs.length - j ∧ j ≤ xs.length ∧ (j = 0 ∨ (j - 1) * q < xs.length) ∧ t.length = 46 ∧ nth t 0 = v ∧ nth t 1 = .i .i64 (q : Int) ∧ nth t 7 = w ∧ nth t 8 = .i .i64 ((j * q : Nat) : Int) ∧ Ext h h' ∧ Rows h h' w ((chunks xs q).take j)) ?_ xs.length ?_
  · rintro kk t h1 ⟨j, w, rfl, hj, hpr, tl, t0, t1, t7, t8, e1, r1⟩
    unfold b54_0
    have ar := hs.ext e1
    have hjk : j * q ≤ 200 * 200 := Nat.mul_le_mul (by omega) (by omega)
    by_cases hlt : j * q < xs.length
    · have hlt' : ((j * q : Nat) : Int) < (xs.length : Int) := by omega
      have hjR : j < rowsN xs.length q := (rows_lt (by omega)).1 hlt
      have hw : IntKind.i64.wrap (((j * q : Nat) : Int) + (q : Int)) = (((j + 1) * q : Nat) : Int) := by
        rw [wrap_in (by omega) (by omega), Nat.succ_mul]; omega
      have hmin : (if (xs.length : Int) < (((j + 1) * q : Nat) : Int) then (xs.length : Int) else (((j + 1) * q : Nat) : Int)) = ((min ((j + 1) * q) xs.length : Nat) : Int) := by
        split <;> omega
      have hsq : (j + 1) * q = j * q + q := Nat.succ_mul j q
      obtain ⟨p, q2, s2⟩ := ar.lh (a := j * q) (b := min ((j + 1) * q) xs.length) (by omega) (by omega)
      have iu : Ints h1 p (chunk xs q j) := by
        have s2 := s2.sl
        simp only [Nat.mul_one] at s2
        have e0 : (ints xs).drop (j * q) = ints (xs.drop (j * q)) := by simp [ints]
        rw [e0] at s2
        have e : (ints (xs.drop (j * q))).take (min ((j + 1) * q) xs.length - j * q) = ints (chunk xs q j) := by
          simp only [ints, chunk, ← List.map_take]
          congr 1
          rw [List.take_eq_take_iff, hsq]
          simp
          omega
        rw [e] at s2
        exact (Ints.of s2).1
      have iu0 := iu.ext ((Ext.refl h1).new (.cells []))
      have hcl : (chunk xs q j).length = min q (xs.length - j * q) := chunk_len
      obtain ⟨c, h2, q3, e2, o2⟩ := app_all iu (by omega)
      have c1' := o2.pos (by omega)
      have hone := o2.one
      have r2 := r1.ext e2
      have hwl := r1.wlt
      have hn1 := e1.nx
      obtain ⟨w', h3, q4, e3, r3, n3⟩ := r2.app (e1.trans e2) (xs := chunk xs q j) (u := c) (Ints.of o2.sl).1 hone.2 (by omega) c1'.2.2 (by
        rcases hwl with z | z
        · exact .inl z
        · exact .inr (by omega)) (by simp [chunks]; omega)
      simp only [go_sem, ↓reduceIte, r54_8, r54_9, r54_10, tl, t0, t1, t7, t8, Sl.len ar.sl, hlt', hw, hmin, q2, q3, fill1_of hone.1, q4]
      have hjn : j < xs.length := by omega
      refine ⟨xs.length - (j + 1), by omega, j + 1, w', rfl, hjn, .inr (by simpa using hlt), rfl, rfl, e3, ?_⟩
      rw [chunks_take hjR]
      exact r3
    · have hlt' : ¬ ((j * q : Nat) : Int) < (xs.length : Int) := by omega
      have hiR : j = rowsN xs.length q := by
        have h1 : ¬ j < rowsN xs.length q := fun z => hlt ((rows_lt (by omega)).2 z)
        rcases hpr with rfl | hpr
        · omega
        · have := (rows_lt (k := q) (by omega)).1 hpr
          omega
      simp only [go_sem, ↓reduceIte, r54_8, r54_11, tl, t0, t1, t7, t8, Sl.len ar.sl, hlt']
      rw [List.take_of_length_le (by simp [chunks]; omega)] at r1
      exact ⟨e1, w, rfl, r1.ll⟩
  · refine ⟨0, .sn, by omega, by omega, .inl rfl, ?_⟩
    simp only [go_sem, ↓reduceIte]
    exact ⟨by simp, .refl h, Rows.nil⟩

theorem t55 : tblA 55 = some a55 := by kernel_rfl
theorem fn_SameSeats {h : H} {v1 v2 : V} {ps qs : List (Int × Int × Int)} (h1 : Seas h v1 ps) (h2 : Seas h v2 qs) (hn : ps.length ≤ 1000000) :
    WC tblA (.fn 55 [] []) [v1, v2] h fun u h' => u = .b (decide (ps = qs)) ∧ h' = h := by
  refine (WC_in t55).2 ?_
  by_cases hne : (ps.length : Int) = (qs.length : Int)
  · simp only [go_sem, ↓reduceIte, r55_0, r55_1, r55_3, h1.len, h2.len, hne]
    refine W_while (fun k t h' => ∃ i, k = ps.length - i ∧ i ≤ ps.length ∧ t.length = 26 ∧ nth t 0 = v1 ∧ nth t 1 = v2 ∧ nth t 5 = .i .i64 (i : Int) ∧ ps.take i = qs.take i ∧ h = h') ?_ ps.length ?_
    · rintro k t h' ⟨i, rfl, hi, tl, t0, t1, t5, he, rfl⟩
      unfold b55_0
      by_cases hlt : i < ps.length
      · have hlt' : (i : Int) < (qs.length : Int) := by omega
        have hlt2 : i < qs.length := by omega
        obtain ⟨p, hpi⟩ : ∃ p, ps[i]? = some p := ⟨_, List.getElem?_eq_getElem hlt⟩
        obtain ⟨q, hqi⟩ : ∃ q, qs[i]? = some q := ⟨_, List.getElem?_eq_getElem hlt2⟩
        by_cases hpq : p.1 = q.1 ∧ p.2.1 = q.2.1 ∧ p.2.2 = q.2.2
        · simp only [go_sem, ↓reduceIte, r55_4, r55_5, r55_6, tl, t0, t1, t5, h1.len, hne, hlt', h1.ix hlt, h2.ix hlt2, h1.ldn hpi, h2.ldn hqi, hpq, wrap_succ (show i < 1000000000 by omega)]
          refine ⟨ps.length - (i + 1), by omega, i + 1, rfl, hlt, rfl, ?_⟩
          have : p = q := Prod.ext hpq.1 (Prod.ext hpq.2.1 hpq.2.2)
          rw [take_succ' hpi, take_succ' hqi, he, this]
        · simp only [go_sem, ↓reduceIte, r55_4, r55_5, r55_6, r55_7, tl, t0, t1, t5, h1.len, hne, hlt', h1.ix hlt, h2.ix hlt2, h1.ldn hpi, h2.ldn hqi, hpq]
          have : ps ≠ qs := by
            rintro rfl
            rw [hpi] at hqi
            cases hqi
            exact hpq ⟨rfl, rfl, rfl⟩
          simp [this]
      · have hlt' : ¬ (i : Int) < (qs.length : Int) := by omega
        simp only [go_sem, ↓reduceIte, r55_4, r55_8, tl, t0, t5, h1.len, hne, hlt']
        rw [List.take_of_length_le (by omega), List.take_of_length_le (by omega)] at he
        simp [he]
    · refine ⟨0, by omega, by omega, ?_⟩
      simp only [go_sem, ↓reduceIte]
      simp
  · simp only [go_sem, ↓reduceIte, r55_0, r55_1, r55_2, h1.len, h2.len, hne]
    have : ps ≠ qs := by rintro rfl; omega
    simp [this]

theorem place_len (xs : List Int) (kind k : Int) : (placeS xs kind k).1.length ≤ xs.length := by
  unfold placeS
  split
  · simp
  · split
    · simp
    · simp; omega
theorem abreast_len {xs : List Int} {k : Int} (h : xs.length ≤ 1000) : (abreastS xs k).1.length ≤ 1000 ∧ ∀ ys ∈ (abreastS xs k).1, ys.length ≤ 1000 := by
  unfold abreastS
  split
  · simp
  · split
    · simp
    · rename_i c1 c2
      have hR : rowsN xs.length k.toNat ≤ xs.length := rows_le (by omega)
      refine ⟨by simp [chunks]; omega, fun ys hy => ?_⟩
      obtain ⟨j, _, rfl⟩ := List.mem_map.1 hy
      rw [chunk_len]
      omega
theorem t16 : tblA 16 = some a16 := by kernel_rfl
theorem law_seats {h : H} {v : V} {xs : List Int} {kind k : Int} (hs : Arg 1 h v xs.length (ints xs)) :
    WC tblA (.fn 16 [] []) [v, .i .u8 kind, .i .i64 k] h fun u h' => u = .b true ∧ Ext h h' := by
  refine (WC_in t16).2 ?_
  have hi := (Ints.of hs.sl).1
  by_cases c1 : (220 : Int) < (xs.length : Int)
  · simp only [go_sem, ↓reduceIte, r16_0, r16_1, r16_2, hi.len, c1]
    exact .refl h
  simp only [go_sem, ↓reduceIte, r16_0, r16_1, r16_3, hi.len, c1]
  refine (fn_Place (kind := kind) (k := k) hi (by omega)).mono ?_
  rintro _ h1 ⟨e1, w, rfl, sw⟩
  simp only [go_sem, ↓reduceIte, r16_4]
  refine (fn_refPlace (kind := kind) (k := k) (hi.ext e1) (by omega)).mono ?_
  rintro _ h2 ⟨e2, w', rfl, sw'⟩
  simp only [go_sem, ↓reduceIte, r16_5]
  refine (fn_Abreast (k := k) (hs.ext (e1.trans e2)) (by omega)).mono ?_
  rintro _ h3 ⟨e3, a, rfl, sa⟩
  simp only [go_sem, ↓reduceIte, r16_6]
  refine (fn_refAbreast (k := k) (hs.ext (e1.trans (e2.trans e3))) (by omega)).mono ?_
  rintro _ h4 ⟨e4, a', rfl, sa'⟩
  have hl := place_len xs kind k
  obtain ⟨al, am⟩ := abreast_len (xs := xs) (k := k) (by omega)
  simp only [go_sem, ↓reduceIte, r16_7]
  refine (fn_SameSeats (sw.ext (e2.trans (e3.trans e4))) (sw'.ext (e3.trans e4)) (by omega)).mono ?_
  rintro _ h5 ⟨rfl, ee⟩
  obtain rfl : h4 = h5 := ee.symm
  simp only [go_sem, ↓reduceIte]
  refine (fn_SameLists (sa.ext e4) sa' (by omega) (fun ys hy => by have := am ys hy; omega)).mono ?_
  rintro _ h5 ⟨rfl, ee⟩
  obtain rfl : h4 = h5 := ee.symm
  simp only [go_sem, ↓reduceIte]
  exact e1.trans (e2.trans (e3.trans e4))
end Go.Air
