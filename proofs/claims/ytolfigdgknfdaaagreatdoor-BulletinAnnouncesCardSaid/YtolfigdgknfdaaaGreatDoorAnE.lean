/-
  A part of the proof of: The row of BulletinAnnounces and its tied card, out of the lifted form.
-/
import Derived.Test.YtolfigdgknfdaaaGreatDoorAnD
set_option linter.unusedSectionVars false
set_option linter.unusedVariables false
set_option linter.unusedSimpArgs false
set_option maxRecDepth 100000
namespace Go.Air
open Go.Air.Try
def GetQ (h h' : H) (s : List Nat) (a : Ann) (e : Int) (u : V) : Prop :=
  ∃ gv ov, u = .tup [.agg (a.cells gv ov), I e] ∧ Own h 2 h' gv a.guests.length (cells2 a.guests) ∧ Own h 1 h' ov a.order.length (a.order.map I)
def readR (s : List Nat) : Ann × Int := match annOf s with
  | some a => if a.good then (a, 0) else (ann0, 4)
  | none => (ann0, 4)
theorem GetR.q {h h' : H} {s : List Nat} {u : V} (g : GetR h h' s u) : GetQ h h' s (readR s).1 (readR s).2 u := by
  rcases g with ⟨a, gv, ov, ha, hg, rfl, o1, o2⟩ | ⟨hno, rfl⟩
  · have e : readR s = (a, 0) := by unfold readR; rw [ha]; simp [hg]
    rw [e]
    exact ⟨gv, ov, rfl, o1, o2⟩
  · have e : readR s = (ann0, 4) := by
      unfold readR
      split
      · rename_i a ha
        rw [hno a ha]
        rfl
      · rfl
    rw [e]
    exact ⟨.sn, .sn, rfl, .nil, .nil⟩
theorem read_good {s : List Nat} : (readR s).2 = 0 → annOf s = some (readR s).1 ∧ (readR s).1.good = true := by
  unfold readR
  split
  · rename_i a ha
    split
    · rename_i hg
      intro _
      exact ⟨ha, hg⟩
    · intro h; cases h
  · intro h; cases h
theorem read_err (s : List Nat) : (readR s).2 = 0 ∨ (readR s).2 = 4 := by
  unfold readR
  split
  · split
    · exact .inl rfl
    · exact .inr rfl
  · exact .inr rfl
theorem read_text {a : Ann} (hg : a.good = true) : readR a.text = (a, 0) := by
  have hs := good_small hg
  have hn : a.Num := ⟨fun n hn => ⟨(hs.one n hn).1, by have := (hs.one n hn).2; omega⟩, fun n hn => ⟨(hs.two n hn).1, by have := (hs.two n hn).2; omega⟩, fun p hp => ⟨⟨(hs.gs p hp).1.1, by have := (hs.gs p hp).1.2; omega⟩, (hs.gs p hp).2.1, by have := (hs.gs p hp).2.2; omega⟩, fun n hn => ⟨(hs.ord n hn).1, by have := (hs.ord n hn).2; omega⟩⟩
  unfold readR
  rw [annOf_text hn]
  simp [hg]
theorem read_in (s : List Nat) : (readR s).1.In := by
  unfold readR
  split
  · rename_i a ha
    split
    · exact NumB.in (annOf_some ha).2
    · exact NumB.in num0
  · exact NumB.in num0
theorem read_len {s : List Nat} (hs : s.length ≤ 1000000) : (readR s).1.guests.length ≤ 1000000 ∧ (readR s).1.order.length ≤ 1000000 := by
  unfold readR
  split
  · rename_i a ha
    split
    · obtain ⟨rfl, _⟩ := annOf_some ha
      have := text_len a
      simp only
      omega
    · simp [ann0]
  · simp [ann0]
theorem text_short (a : Ann) (h1 : a.guests.length ≤ 60) (h2 : a.order.length ≤ 60) : a.text.length ≤ 100000 := by
  have b1 := headT_len a
  have b2 := guestsT_le a.guests
  have b3 := ordT_le a.order
  rw [← text_eq]
  simp only [List.length_append, List.length_cons, List.length_nil]
  omega
section
variable {h : H}
theorem t5' : tb1 3 = some a3 := by kernel_rfl
theorem law_announces (ht : Tb4 h) {a : Ann} {gv ov : V} {s : List Nat} (hgs : Gsts h gv a.guests) (hod : Ints h ov a.order) (hi : a.In) : WC tb1 (.fn 3 [] []) [.agg (a.cells gv ov), .s s] h fun u h' => u = .b true ∧ Ext h h' := by
  refine (WC_in t5').2 ?_
  have e1 : Ext h (h.new (.cells (a.cells gv ov))) := (Ext.refl h).new _
  have g : (h.new (.cells (a.cells gv ov))).get h.next = some (.cells (a.cells gv ov)) := get_new_eq rfl
  have n1 : (h.new (.cells (a.cells gv ov))).next = h.next + 1 := rfl
  have hc : (V.agg (a.cells gv ov)).cells = a.cells gv ov := rfl
  have hz : [V.i .i64 0, .i .i64 0, .i .i64 0, .i .i64 0, .i .i64 0, .i .i64 0, .sn, .i .i64 0, .i .i64 0, .sn, .i .i64 0, .i .i64 0] = zeroC := rfl
  have hI : ∀ n : Int, I n = .i .i64 n := fun _ => rfl
  obtain ⟨_, _, _, _, _, l6, l9, _⟩ := annL g
  have ln := blk_ldn g (cells12 a gv ov)
  have lg := Sl.len hgs
  have lo := Ints.len hod
  simp only [go_sem, ↓WL_guard2, ↓reduceIte, r3_0, hc]
  generalize h.new (.cells (a.cells gv ov)) = h1 at e1 g n1 l6 l9 ln
  by_cases c1 : (60 : Int) < (a.guests.length : Int)
  · simp only [go_sem, ↓WL_guard2, ↓reduceIte, r3_1, r3_2, l6, lg, c1]
    exact e1
  by_cases c2 : (60 : Int) < (a.order.length : Int)
  · simp only [go_sem, ↓WL_guard2, ↓reduceIte, r3_1, r3_2, l6, l9, lg, lo, c1, c2]
    exact e1
  by_cases c3 : (5000 : Int) < (s.length : Int)
  · simp only [go_sem, ↓WL_guard2, ↓reduceIte, r3_1, r3_2, l6, l9, lg, lo, c1, c2, c3]
    exact e1
  have q : AnnV h a gv ov := ⟨hgs, hod, by omega, by omega⟩
  simp only [go_sem, ↓WL_guard2, ↓reduceIte, r3_1, r3_3, l6, l9, lg, lo, c1, c2, c3, ln]
  refine (fn_PutAnnounce (ht.ext e1) (q.ext e1) hi).mono ?_
  rintro u h2 ⟨rfl, e2⟩
  have e02 := e1.trans e2
  have g2 := e2.get (by omega) g
  have n2 : h.next < h2.next := by have := e2.nx; omega
  have ln2 := blk_ldn g2 (cells12 a gv ov)
  obtain ⟨pt, pe, hput, hpe⟩ : ∃ (pt : List Nat) (pe : Int), putR a = .tup [.s pt, .i .i64 pe] ∧ ((pe = 0 ∧ a.good = true ∧ pt = a.text) ∨ (pe = 1 ∧ a.good = false)) := by
    unfold putR
    cases hg : a.good
    · exact ⟨[], 1, rfl, .inr ⟨rfl, rfl⟩⟩
    · exact ⟨a.text, 0, rfl, .inl ⟨rfl, rfl, rfl⟩⟩
  simp only [go_sem, ↓WL_guard2, ↓reduceIte, r3_4, hput, ln2]
  refine (fn_rPutAnnounce (ht.ext e02) (q.ext e02) hi).mono ?_
  rintro u h3 ⟨rfl, e3⟩
  have e03 := e02.trans e3
  have g3 := e3.get n2 g2
  have n3 : h.next < h3.next := Nat.lt_of_lt_of_le n2 e3.nx
  simp only [go_sem, ↓WL_guard2, ↓reduceIte, r3_5, hput]
  refine (fn_GetAnnounce (ht.ext e03) (s := s) (by omega)).mono ?_
  rintro u h4 ⟨e4, gq⟩
  obtain ⟨xg, xo, rfl, og, oo⟩ := gq.q
  have hrl := read_len (s := s) (by omega)
  have hri := read_in s
  have hrg := read_good (s := s)
  have hre := read_err s
  generalize hrr : readR s = rr at og oo hrl hri hrg hre
  obtain ⟨b, be⟩ := rr
  simp only at og oo hrl hri hrg hre
  have qb : AnnV h4 b xg xo := ⟨og.sl, oo.sl, hrl.1, hrl.2⟩
  have b4 : ∀ u ∈ b.cells xg xo, u.oneCell = true := annOne og.one oo.one
  have s5 := blk_stn (h := h4.new (.cells zeroC)) (b := h4.next) (k := 12) (d := b.cells xg xo) (get_new_eq rfl) rfl rfl b4
  have x5 : ((h4.new (.cells zeroC)).put h4.next (.cells (b.cells xg xo))).get h4.next = some (.cells (b.cells xg xo)) := get_put_eq
  have e5 : Ext h4 ((h4.new (.cells zeroC)).put h4.next (.cells (b.cells xg xo))) := ((Ext.refl h4).new _).put (Nat.le_refl _) _
  have n5 : h4.next < ((h4.new (.cells zeroC)).put h4.next (.cells (b.cells xg xo))).next := Nat.lt_succ_self _
  simp only [go_sem, ↓WL_guard2, ↓reduceIte, hI, hz, s5]
  generalize (h4.new (.cells zeroC)).put h4.next (.cells (b.cells xg xo)) = h5 at x5 e5 n5
  have e05 := (e03.trans e4).trans e5
  simp only [go_sem, ↓WL_guard2, ↓reduceIte, r3_6]
  refine (fn_rGetAnnounce (ht.ext e05) (s := s) (by omega)).mono ?_
  rintro u h6 ⟨e6, gq2⟩
  obtain ⟨yg, yo, rfl, pg, po⟩ := gq2.q
  rw [hrr] at pg po ⊢
  simp only at pg po
  have qc : AnnV h6 b yg yo := ⟨pg.sl, po.sl, hrl.1, hrl.2⟩
  have b6 : ∀ u ∈ b.cells yg yo, u.oneCell = true := annOne pg.one po.one
  have s7 := blk_stn (h := h6.new (.cells zeroC)) (b := h6.next) (k := 12) (d := b.cells yg yo) (get_new_eq rfl) rfl rfl b6
  have x7 : ((h6.new (.cells zeroC)).put h6.next (.cells (b.cells yg yo))).get h6.next = some (.cells (b.cells yg yo)) := get_put_eq
  have e7 : Ext h6 ((h6.new (.cells zeroC)).put h6.next (.cells (b.cells yg yo))) := ((Ext.refl h6).new _).put (Nat.le_refl _) _
  have n7 : h6.next < ((h6.new (.cells zeroC)).put h6.next (.cells (b.cells yg yo))).next := Nat.lt_succ_self _
  simp only [go_sem, ↓WL_guard2, ↓reduceIte, hI, hz, s7]
  generalize (h6.new (.cells zeroC)).put h6.next (.cells (b.cells yg yo)) = h7 at x7 e7 n7
  have e07 := (e05.trans e6).trans e7
  have e57 := e6.trans e7
  have x57 := e57.get n5 x5
  have g7 := ((((e3.trans e4).trans e5).trans e57).get n2 g2)
  have m5 := blk_ldn x57 (cells12 b xg xo)
  have m7 := blk_ldn x7 (cells12 b yg yo)
  have bs : binV .neq (.s pt) (.s pt) = some (.b false) := by rw [bin_sne]; simp
  refine WL_gen (fun t => t.length = 102 ∧ nth t 1 = .s s ∧ nth t 2 = .p h.next 0 ∧ nth t 5 = .s pt ∧ nth t 6 = .i .i64 pe ∧ nth t 7 = .s pt ∧ nth t 8 = .i .i64 pe ∧ nth t 9 = .p h4.next 0 ∧ nth t 10 = .i .i64 be ∧ nth t 11 = .p h6.next 0 ∧ nth t 12 = .i .i64 be) ?_ ?_
  · refine ⟨?_, ?_, ?_, ?_, ?_, ?_, ?_, ?_, ?_, ?_, ?_⟩ <;> simp only [go_sem, ↓reduceIte]
  rintro t ⟨tl, t1, t2, t5, t6, t7, t8, t9, t10, t11, t12⟩
  simp only [go_sem, ↓WL_guard2, ↓reduceIte, r3_7, tl, t5, t6, t7, t8, t9, t10, t11, t12, bs, m5, m7]
  refine (fn_same (qb.ext (e5.trans e57)) (qc.ext e7)).mono ?_
  rintro u h8 ⟨rfl, e8⟩
  have ebb : decide (b = b) = true := decide_eq_true rfl
  simp only [go_sem, ↓WL_guard2, ↓reduceIte, tl, ebb]
  have e08 := e07.trans e8
  have x8 := e8.get (Nat.lt_of_lt_of_le n5 e57.nx) x57
  have g8 := e8.get (by have := e57.nx; have := e5.nx; have := e4.nx; have := e3.nx; omega) g7
  have tail : ∀ (t : List V) (hh : H), t.length = 102 → nth t 1 = .s s → nth t 9 = .p h4.next 0 → nth t 10 = .i .i64 be → Ext h hh → hh.get h4.next = some (.cells (b.cells xg xo)) → AnnV hh b xg xo →
      W tb1 (.seq (.seq (.ops r3_13) (.cond (.t 88) (.seq (.ops r3_14) (.seq (.ops r3_15) (.cond (.t 100) (.seq (.ops r3_16) (.ret)) (.skip)))) (.skip))) (.seq (.ops r3_17) (.ret))) t hh (Kfn [.tmp 4] (fun u h' => u = V.b true ∧ Ext h h') noPan) := by
    intro t hh tl t1 t9 t10 ex gx qx
    have lx := blk_ldn gx (cells12 b xg xo)
    rcases hre with rfl | rfl
    · obtain ⟨r1, r2⟩ := hrg rfl
      obtain ⟨rfl, _⟩ := annOf_some r1
      have hpb : putR b = .tup [.s b.text, .i .i64 0] := by unfold putR; rw [r2]; rfl
      have bt : binV .neq (.s b.text) (.s b.text) = some (.b false) := by rw [bin_sne]; simp
      simp only [go_sem, ↓WL_guard2, ↓reduceIte, r3_13, r3_14, tl, t1, t9, t10, lx]
      refine (fn_PutAnnounce (ht.ext ex) qx hri).mono ?_
      rintro u h9 ⟨rfl, e9⟩
      simp only [go_sem, ↓WL_guard2, ↓reduceIte, r3_15, r3_17, tl, t1, hpb, bt]
      exact ex.trans e9
    · simp only [go_sem, ↓WL_guard2, ↓reduceIte, r3_13, r3_17, tl, t10]
      exact ex
  simp only [W_seq', W_ops'] at tail
  have qb8 := ((qb.ext (e5.trans e57)).ext e8)
  rcases hpe with ⟨rfl, hgood, rfl⟩ | ⟨rfl, hgood⟩
  · simp only [go_sem, ↓WL_guard2, ↓reduceIte, r3_9, r3_10, tl, t5, t6]
    have htl := text_short a (by omega) (by omega)
    refine (fn_GetAnnounce (ht.ext e08) (s := a.text) (by omega)).mono ?_
    rintro u h9 ⟨e9, gq3⟩
    obtain ⟨wg, wo, rfl, wg1, wo1⟩ := gq3.q
    rw [read_text hgood] at wg1 wo1 ⊢
    simp only at wg1 wo1
    have qd : AnnV h9 a wg wo := ⟨wg1.sl, wo1.sl, q.gl, q.ol⟩
    have b9 : ∀ u ∈ a.cells wg wo, u.oneCell = true := annOne wg1.one wo1.one
    have s10 := blk_stn (h := h9.new (.cells zeroC)) (b := h9.next) (k := 12) (d := a.cells wg wo) (get_new_eq rfl) rfl rfl b9
    have x10 : ((h9.new (.cells zeroC)).put h9.next (.cells (a.cells wg wo))).get h9.next = some (.cells (a.cells wg wo)) := get_put_eq
    have e10 : Ext h9 ((h9.new (.cells zeroC)).put h9.next (.cells (a.cells wg wo))) := ((Ext.refl h9).new _).put (Nat.le_refl _) _
    simp only [go_sem, ↓WL_guard2, ↓reduceIte, tl, hI, hz, s10]
    generalize (h9.new (.cells zeroC)).put h9.next (.cells (a.cells wg wo)) = h10 at x10 e10
    have e8x := e9.trans e10
    have m10 := blk_ldn x10 (cells12 a wg wo)
    have n8 : h.next < h8.next := by have := e8.nx; have := e57.nx; have := e5.nx; have := e4.nx; have := e3.nx; omega
    have m2 := blk_ldn (e8x.get n8 g8) (cells12 a gv ov)
    have haa : decide (a = a) = true := decide_eq_true rfl
    simp only [go_sem, ↓WL_guard2, ↓reduceIte, r3_11, tl, t2, m10, m2]
    refine (fn_same (qd.ext e10) (q.ext (e08.trans e8x))).mono ?_
    rintro u h11 ⟨rfl, e11⟩
    simp only [go_sem, ↓WL_guard2, ↓reduceIte, tl, haa]
    have e811 := e8x.trans e11
    refine tail _ _ ?_ ?_ ?_ ?_ (e08.trans e811) (e811.get ?_ x8) (qb8.ext e811)
    · simp only [go_sem, ↓reduceIte, tl]
    · simp only [go_sem, ↓reduceIte, tl, t1]
    · simp only [go_sem, ↓reduceIte, tl, t9]
    · simp only [go_sem, ↓reduceIte, tl, t10]
    · exact Nat.lt_of_lt_of_le (Nat.lt_of_lt_of_le n5 e57.nx) e8.nx
  · simp only [go_sem, ↓WL_guard2, ↓reduceIte, r3_9, tl, t6]
    refine tail _ _ ?_ ?_ ?_ ?_ e08 x8 qb8
    · simp only [go_sem, ↓reduceIte, tl]
    · simp only [go_sem, ↓reduceIte, tl, t1]
    · simp only [go_sem, ↓reduceIte, tl, t9]
    · simp only [go_sem, ↓reduceIte, tl, t10]
end
end Go.Air
