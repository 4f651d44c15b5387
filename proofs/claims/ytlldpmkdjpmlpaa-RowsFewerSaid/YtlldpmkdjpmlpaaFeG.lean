/-
  A part of the proof of: The row RowsFewer, from the law in Air.
-/
import Derived.Test.YtlldpmkdjpmlpaaRows
import Derived.ProofKit
import Derived.HandedShaped
import Derived.Deep.SlicePairs
import Derived.Test.YtlldpmkdjpmlpaaFeF
set_option linter.unusedSectionVars false
set_option linter.unusedVariables false
set_option linter.unusedSimpArgs false
set_option maxRecDepth 100000
namespace Go.Air
open Go.Air.Try
theorem get_new_lt {h : H} {b : Nat} {x : Blk} (hb : b < h.next) : (h.new x).get b = h.get b := by rw [H.get_new, if_neg (by omega)]
theorem get_new_eq {h : H} {b : Nat} {x : Blk} (hb : b = h.next) : (h.new x).get b = some x := by rw [H.get_new, if_pos hb]
theorem updAll_two (t : List V) (p q : Nat) (a b : V) : updAll t [p, q] [a, b] = upd (upd t p a) q b := rfl
theorem yld_roundL {tbl : Nat → Option FI} {l : Nat} {t : List V} {ps : List Nat} {asg body : C} {args : List V} {h : H} {S : V → H → Prop} {L Lb : Loop} (hg : h.get l = some (.loop L)) (hL : L = ⟨.ready, none, t, ps, asg, body⟩) (hLb : Lb = ⟨.busy, none, t, ps, asg, body⟩) (ha : args.length = ps.length)
    (hb : W tbl asg (updAll t ps args) h fun o t1 h1 => o = .norm ∧ h1 = h ∧ W tbl body t1 (h.put l (.loop Lb)) fun o _ h2 => o = .norm ∧ h2.get l = some (.loop Lb) ∧ S (.b true) (h2.put l (.loop L))) : WC tbl (.yld l) args h S := by
  subst hL hLb
  exact yld_round hg ha hb
theorem W_rangeL {tbl : Nat → Option FI} {f : X} {ps : List Nat} {asg body : C} {g : Nat} {a c t : List V} {h : H} {Q : Out → List V → H → Prop} (hf : f.ev t = .fn g a c)
    (hw : ∀ L Lo : Loop, L = ⟨.ready, none, t, ps, asg, body⟩ → WC tbl (.fn g a c) [.yld h.next] (h.new (.loop L)) fun _ h' => h'.get h.next = some (.loop L) ∧ Q .norm t (h'.put h.next (.loop Lo))) :
    W tbl (.rangeF f ps asg body) t h Q := W_rangeN hf (hw _ _ rfl)
theorem t122 : tblA 122 = some a122 := by kernel_rfl
@[go_sem ↓] theorem fn_members {h : H} {s m : Int} {S : V → H → Prop} : WC tblA (.fn 122 [] []) [.i .i64 s, .i .i64 m] h S ↔ S (.fn 133 [] [.p (h.next + 1) 0, .p h.next 0]) ((h.new (.cells [.i .i64 s])).new (.cells [.i .i64 m])) := by
  rw [WC_in t122]
  simp only [go_sem, ↓reduceIte, r122_0, r122_1, H.next_new]
  rw [show (V.i .i64 s).cells = [.i .i64 s] from rfl, show (V.i .i64 m).cells = [.i .i64 m] from rfl]
theorem t133 : tblA 133 = some a133 := by kernel_rfl
theorem fn_members1 {h : H} {b1 b2 l m s : Nat} (hm : m ≤ 24) (hs : s < 1000000000) (J : Nat → H → Prop) (K : H → Prop)
    (hJ : ∀ i h', J i h' → h'.get b1 = some (.cells [.i .i64 (m : Int)]) ∧ h'.get b2 = some (.cells [.i .i64 (s : Int)]))
    (hstep : ∀ i h', J i h' → i < m → s.testBit i = true → WC tblA (.yld l) [.i .i64 (i : Int), .i .i64 ((2 ^ i : Nat) : Int)] h' (fun r h'' => (r = .b true ∧ J (i + 1) h'') ∨ (r = .b false ∧ K h'')))
    (hskip : ∀ i h', J i h' → i < m → s.testBit i = false → J (i + 1) h') (h0 : J 0 h) : WC tblA (.fn 133 [] [.p b1 0, .p b2 0]) [.yld l] h fun _ h' => J m h' ∨ K h' := by
  refine (WC_cl t133).2 ?_
  refine W_gen (fun t => t.length = 24 ∧ nth t 0 = .yld l ∧ nth t 1 = .p b1 0 ∧ nth t 2 = .p b2 0) ⟨rfl, rfl, rfl, rfl⟩ ?_
  rintro t ⟨tl, t0, t1, t2⟩
  have lm := blk_ld (i := 0) (hJ 0 h h0).1 rfl
  simp only [go_sem, ↓reduceIte, r133_0, tl, t1, lm]
  refine W_while (fun k t h' => ∃ i, k = m - i ∧ i ≤ m ∧ t.length = 24 ∧ nth t 0 = .yld l ∧ nth t 2 = .p b2 0 ∧ nth t 6 = .i .i64 (m : Int) ∧ nth t 7 = .i .i64 (i : Int) ∧ J i h') ?_ m ?_
  · rintro k t h' ⟨i, rfl, hi, tl, t0, t2, t6, t7, hj⟩
    unfold b133_0
    by_cases hlt : i < m
    · have hltI : (i : Int) < (m : Int) := by omega
      have ls := blk_ld (i := 0) (hJ i h' hj).2 rfl
      have hp := pow_lt (show i < 62 by omega)
      have ha := bin_and (a := s) (b := 2 ^ i) (by omega) hp
      cases hb : s.testBit i
      · have hz : (((s &&& 2 ^ i : Nat) : Int) = 0) := by
          have := and_bit s i
          rw [hb] at this
          have : s &&& 2 ^ i = 0 := by
            rcases Nat.eq_zero_or_pos (s &&& 2 ^ i) with q | q
            · exact q
            · exact absurd (this.1 (by omega)) (by simp)
          omega
        simp only [go_sem, ↓reduceIte, r133_1, r133_2, r133_3, r133_4, r133_5, tl, t0, t2, t6, t7, hltI, bin_shl1 (kd := .i64) (show i < 62 by omega), ls, ha, hz, wrap_succ (show i < 1000000000 by omega)]
        exact ⟨m - (i + 1), by omega, i + 1, rfl, hlt, rfl, hskip i h' hj hlt hb⟩
      · have hz : ¬ (((s &&& 2 ^ i : Nat) : Int) = 0) := by
          have := (and_bit s i).2 hb
          omega
        simp only [go_sem, ↓reduceIte, r133_1, r133_2, r133_3, r133_4, tl, t0, t2, t6, t7, hltI, bin_shl1 (kd := .i64) (show i < 62 by omega), ls, ha, hz]
        refine (hstep i h' hj hlt hb).mono ?_
        rintro r h2 (⟨rfl, hj2⟩ | ⟨rfl, hk⟩)
        · simp only [go_sem, ↓reduceIte, r133_5, tl, t0, t2, t6, t7, wrap_succ (show i < 1000000000 by omega)]
          exact ⟨m - (i + 1), by omega, i + 1, rfl, hlt, rfl, hj2⟩
        · simp only [go_sem, ↓reduceIte, tl]
          exact .inr hk
    · have hltI : ¬ (i : Int) < (m : Int) := by omega
      obtain rfl : i = m := by omega
      simp only [go_sem, ↓reduceIte, r133_1, tl, t0, t2, t6, t7, hltI]
      exact .inl hj
  · refine ⟨0, by omega, by omega, ?_⟩
    simp only [go_sem, ↓reduceIte, tl, t0, t2]
    exact h0
def bhK (rs : List Arw) (c : List Int) (i s : Nat) : Nat → Int
  | 0 => 0
  | k + 1 => bhK rs c i s k + if s.testBit k = true then wt (c.getD i 0) (c.getD k 0) rs else 0
def Wok (rs : List Arw) : Prop := ∀ a b : Int, 0 ≤ wt a b rs ∧ wt a b rs ≤ 1000
theorem wok_of {N : Int} : ∀ {rs : List Arw}, (∀ r ∈ rs, OkA N r) → Wok rs
  | [], _ => fun a b => by simp [wt]
  | r :: l, h => fun a b => by
    have ih := wok_of (N := N) (rs := l) (fun x hx => h x (by simp [hx])) a b
    have := h r (by simp)
    unfold OkA at this
    simp only [wt]
    split
    · omega
    · exact ih
theorem bhK_bound {rs : List Arw} (hw : Wok rs) (c : List Int) (i s : Nat) : ∀ k, 0 ≤ bhK rs c i s k ∧ bhK rs c i s k ≤ 1000 * k
  | 0 => by simp [bhK]
  | k + 1 => by
    have ih := bhK_bound hw c i s k
    have := hw (c.getD i 0) (c.getD k 0)
    simp only [bhK]
    split <;> omega
def Grid (h : H) (gb : Nat) (rs : List Arw) : Prop := gb < h.next ∧ ∃ cs, h.get gb = some (.cells cs) ∧ ∀ a b : Nat, a < 24 → b < 24 → cs[0 + a * 24 + b * 1]? = some (.i .i64 (wt (a : Int) (b : Int) rs))
theorem Grid.ext {h h' : H} {gb : Nat} {rs : List Arw} (g : Grid h gb rs) (e : Ext h h') : Grid h' gb rs := by
  obtain ⟨hb, cs, q, r⟩ := g
  exact ⟨Nat.lt_of_lt_of_le hb e.nx, cs, e.get hb q, r⟩
theorem Grid.extX {X : Nat → Prop} {h h' : H} {gb : Nat} {rs : List Arw} (g : Grid h gb rs) (e : ExtX X h h') (hX : ¬ X gb) : Grid h' gb rs := by
  obtain ⟨hb, cs, q, r⟩ := g
  exact ⟨Nat.lt_of_lt_of_le hb e.nx, cs, e.get hb hX q, r⟩
theorem Grid.ld {h : H} {gb a b : Nat} {rs : List Arw} (g : Grid h gb rs) (ha : a < 24) (hb : b < 24) : ldV h (.p gb (0 + a * 24 + b * 1)) = some (.i .i64 (wt (a : Int) (b : Int) rs)) := by
  obtain ⟨_, cs, q, r⟩ := g
  exact blk_ld q (r a b ha hb)
def Gst (c : List Int) : Prop := ∀ y ∈ c, ∃ j : Nat, y = (j : Int) ∧ j < 24
theorem Gst.at {c : List Int} (h : Gst c) {i : Nat} (hi : i < c.length) : ∃ j : Nat, c[i]? = some (j : Int) ∧ j < 24 ∧ c.getD i 0 = (j : Int) := by
  obtain ⟨j, e, hj⟩ := h c[i] (List.getElem_mem hi)
  exact ⟨j, by rw [List.getElem?_eq_getElem hi, e], hj, by rw [List.getD_eq_getElem?_getD, List.getElem?_eq_getElem hi, e]; rfl⟩
theorem t123 : tblA 123 = some a123 := by kernel_rfl
theorem fn_behind {h : H} {gb i s m : Nat} {v : V} {rs : List Arw} {c : List Int} (hg : Grid h gb rs) (hc : Ints h v c) (hl : c.length = m) (hm : m ≤ 24) (hin : Gst c) (hi : i < m) (hs : s < 1000000000) (hw : Wok rs) :
    WC tblA (.fn 123 [] []) [.p gb 0, v, .i .i64 (i : Int), .i .i64 (s : Int)] h fun u h' => Ext h h' ∧ u = .i .i64 (bhK rs c i s m) := by
  refine (WC_in t123).2 ?_
  simp only [go_sem, ↓reduceIte, r123_0, H.next_new]
  rw [show (V.i .i64 (i : Int)).cells = [.i .i64 (i : Int)] from rfl, hc.one.1]
  have e1 : Ext h (((h.new (.cells [.p gb 0])).new (.cells [v])).new (.cells [.i .i64 (i : Int)])) := (((Ext.refl h).new _).new _).new _
  have g4 : (((h.new (.cells [.p gb 0])).new (.cells [v])).new (.cells [.i .i64 (i : Int)])).get h.next = some (.cells [.p gb 0]) := by rw [get_new_lt (by simp; omega), get_new_lt (by simp), get_new_eq rfl]
  have g5 : (((h.new (.cells [.p gb 0])).new (.cells [v])).new (.cells [.i .i64 (i : Int)])).get (h.next + 1) = some (.cells [v]) := by rw [get_new_lt (by simp), get_new_eq (by simp)]
  have g6 : (((h.new (.cells [.p gb 0])).new (.cells [v])).new (.cells [.i .i64 (i : Int)])).get (h.next + 1 + 1) = some (.cells [.i .i64 (i : Int)]) := by rw [get_new_eq (by simp)]
  have n1 : (((h.new (.cells [.p gb 0])).new (.cells [v])).new (.cells [.i .i64 (i : Int)])).next = h.next + 1 + 1 + 1 := by simp
  generalize (((h.new (.cells [.p gb 0])).new (.cells [v])).new (.cells [.i .i64 (i : Int)])) = h1 at *
  obtain ⟨h2, s2, e2, g9, n2⟩ := st_newK h1 [.i .i64 0] [.i .i64 0] rfl (by intro u hu; simp at hu; subst hu; rfl)
  have s2' : stV (h1.new (.cells [.i .i64 0])) 1 (.p h1.next 0) (.i .i64 0) = some h2 := s2
  simp only [go_sem, ↓reduceIte, r123_1, s2']
  have g4' := e2.get (by omega) g4
  have g5' := e2.get (by omega) g5
  have g6' := e2.get (by omega) g6
  have l5 : ldV h2 (.p (h.next + 1) 0) = some v := blk_ld g5' rfl
  have hc2 := hc.ext (e1.trans e2)
  simp only [go_sem, ↓reduceIte, r123_2, l5, hc2.len, hl]
  have e3 : Ext h2 ((h2.new (.cells [.i .i64 (s : Int)])).new (.cells [.i .i64 (m : Int)])) := ((Ext.refl h2).new _).new _
  have gs : ((h2.new (.cells [.i .i64 (s : Int)])).new (.cells [.i .i64 (m : Int)])).get h2.next = some (.cells [.i .i64 (s : Int)]) := by rw [get_new_lt (by simp), get_new_eq rfl]
  have gm : ((h2.new (.cells [.i .i64 (s : Int)])).new (.cells [.i .i64 (m : Int)])).get (h2.next + 1) = some (.cells [.i .i64 (m : Int)]) := by rw [get_new_eq (by simp)]
  have n3 : ((h2.new (.cells [.i .i64 (s : Int)])).new (.cells [.i .i64 (m : Int)])).next = h2.next + 1 + 1 := by simp
  generalize ((h2.new (.cells [.i .i64 (s : Int)])).new (.cells [.i .i64 (m : Int)])) = h3 at *
  refine W_gen (fun t => t.length = 33 ∧ nth t 4 = .p h.next 0 ∧ nth t 5 = .p (h.next + 1) 0 ∧ nth t 6 = .p (h.next + 1 + 1) 0 ∧ nth t 9 = .p h1.next 0 ∧ nth t 14 = .fn 133 [] [.p (h2.next + 1) 0, .p h2.next 0]) ⟨by simp only [go_sem], by simp only [go_sem, ↓reduceIte], by simp only [go_sem, ↓reduceIte], by simp only [go_sem, ↓reduceIte], by simp only [go_sem, ↓reduceIte], by simp only [go_sem, ↓reduceIte]⟩ ?_
  rintro t ⟨tl, t4, t5, t6, t9, t14⟩
  refine W_rangeL (show (X.t 14).ev t = _ from t14) ?_
  intro L Lo hLdef
  obtain ⟨Lb, hLb⟩ : ∃ Lb : Loop, Lb = ⟨.busy, none, t, [15, 16], .ops r123_3, b123_0⟩ := ⟨_, rfl⟩
  have eL : Ext h3 (h3.new (.loop L)) := (Ext.refl h3).new _
  have gL : (h3.new (.loop L)).get h3.next = some (.loop L) := get_new_eq rfl
  have nL : (h3.new (.loop L)).next = h3.next + 1 := by simp
  generalize h3.new (.loop L) = hL at *
  have eAll : Ext h hL := e1.trans (e2.trans (e3.trans eL))
  have n2e := e2.nx
  have g4L := eL.get (by omega) (e3.get (by omega) g4')
  have g5L := eL.get (by omega) (e3.get (by omega) g5')
  have g6L := eL.get (by omega) (e3.get (by omega) g6')
  have g9L := eL.get (by omega) (e3.get (by omega) g9)
  have gsL := eL.get (by omega) gs
  have gmL := eL.get (by omega) gm
  have hgL := hg.ext eAll
  have hcL := hc.ext eAll
  have hgb := hg.1
  refine (fn_members1 hm hs (fun k h' => ExtX (fun b => b = h1.next ∨ b = h3.next) hL h' ∧ h'.get h1.next = some (.cells [.i .i64 (bhK rs c i s k)]) ∧ h'.get h3.next = some (.loop L)) (fun _ => False) ?_ ?_ ?_ ⟨.refl _ _, g9L, gL⟩).mono ?_
  · rintro k h' ⟨x, _, _⟩
    exact ⟨x.get (by omega) (by omega) gmL, x.get (by omega) (by omega) gsL⟩
  · rintro k h' ⟨x, g9, gl⟩ hk hb
    refine yld_roundL gl hLdef hLb rfl ?_
    rw [updAll_two]
    obtain ⟨a, ha, ha24, haD⟩ := hin.at (i := i) (by omega)
    obtain ⟨b, hb', hb24, hbD⟩ := hin.at (i := k) (by omega)
    have hcv : v = .sn ∨ (∃ a, v = .se a) ∨ ¬ (blkV v = h1.next ∨ blkV v = h3.next) := by
      rcases hc with ⟨_, _, q | q⟩ | ⟨b, off, cap, g, bl, rfl, hb, _⟩
      · exact .inl q
      · exact .inr (.inl q)
      · exact .inr (.inr (show ¬ (b = h1.next ∨ b = h3.next) by omega))
    have hc' : Ints h' v c := Sl.keepX hcL x hcv
    have hg' := hgL.extX x (by omega)
    simp only [go_sem, ↓reduceIte, r123_3, tl]
    have x1 : ExtX (fun b => b = h1.next ∨ b = h3.next) hL (h'.put h3.next (.loop Lb)) := x.put (.inr (.inr rfl)) _
    have gq : (h'.put h3.next (.loop Lb)).get h3.next = some (.loop Lb) := by rw [H.get_put, if_pos rfl]
    have g9' : (h'.put h3.next (.loop Lb)).get h1.next = some (.cells [.i .i64 (bhK rs c i s k)]) := by rw [H.get_put, if_neg (by omega)]; exact g9
    have hc1 : Ints (h'.put h3.next (.loop Lb)) v c := Sl.keepX hcL x1 hcv
    have hg1 := hgL.extX x1 (by omega)
    generalize h'.put h3.next (.loop Lb) = hX at *
    have q4 : ldV hX (.p h.next 0) = some (.p gb 0) := blk_ld (x1.get (by omega) (by omega) g4L) rfl
    have q5 : ldV hX (.p (h.next + 1) 0) = some v := blk_ld (x1.get (by omega) (by omega) g5L) rfl
    have q6 : ldV hX (.p (h.next + 1 + 1) 0) = some (.i .i64 (i : Int)) := blk_ld (x1.get (by omega) (by omega) g6L) rfl
    have q9 : ldV hX (.p h1.next 0) = some (.i .i64 (bhK rs c i s k)) := blk_ld g9' rfl
    have hbd := bhK_bound hw c i s k
    have hwb := hw (a : Int) (b : Int)
    have hsum : IntKind.i64.wrap (bhK rs c i s k + wt (a : Int) (b : Int) rs) = bhK rs c i s (k + 1) := by
      rw [wrap_in (by omega) (by omega)]
      simp only [bhK, hb, if_true, haD, hbD]
    have hst := st_k (h := hX.bare) (k := 0) (x := bhK rs c i s (k + 1)) (kd := .i64) g9' (by simp)
    have hnx := x1.nx
    have hbk := back_put (h := hX) (b := h1.next) (by omega)
    simp only [go_sem, ↓reduceIte, b123_0, r123_4, tl, t4, t5, t6, t9, q4, q5, q6, q9, hc1.ix (show i < c.length by omega), hc1.ix (show k < c.length by omega), hc1.ld ha, hc1.ld hb', ix24r ha24, ixA_ok (esz := 1) hb24, hg1.ld ha24 hb24, hsum, hst, hbk]
    refine ⟨?_, .inl ⟨(x1.put (.inr (.inl rfl)) _).put (.inr (.inr rfl)) _, ?_, ?_⟩⟩
    · rw [H.get_put, if_neg (by omega)]; exact gq
    · rw [H.get_put, if_neg (by omega), H.get_put, if_pos rfl]; rfl
    · rw [H.get_put, if_pos rfl]
  · rintro k h' ⟨x, g9, gl⟩ hk hb
    refine ⟨x, ?_, gl⟩
    rw [g9]
    simp [bhK, hb]
  · rintro _ h' (⟨x, g9, gl⟩ | hf)
    case inr => exact hf.elim
    refine ⟨gl, ?_⟩
    have l9 : ldV (h'.put h3.next (.loop Lo)) (.p h1.next 0) = some (.i .i64 (bhK rs c i s m)) := blk_ld (by rw [H.get_put, if_neg (by omega)]; exact g9) rfl
    simp only [go_sem, ↓reduceIte, r123_5, tl, t9, l9]
    refine (x.put (.inr (.inr rfl)) _).ext eAll (fun b hb => ?_)
    omega
end Go.Air
set_option maxRecDepth 100000
namespace Go.Air
open Go.Air.Try
def never : Int := 1099511627776
def costS (rs : List Arw) (c : List Int) (sp : Int) (m i r : Nat) : Int := if c.getD i 0 = sp ∧ 0 < bhK rs c i r m then never else bhK rs c i r m
def tmin (rs : List Arw) (c : List Int) (sp : Int) (m : Nat) (L : List Int) (s : Nat) : Nat → Int
  | 0 => never
  | i + 1 => if s.testBit i = true then (if L.getD (s - 2 ^ i) 0 + costS rs c sp m i (s - 2 ^ i) < tmin rs c sp m L s i then L.getD (s - 2 ^ i) 0 + costS rs c sp m i (s - 2 ^ i) else tmin rs c sp m L s i) else tmin rs c sp m L s i
def tval (rs : List Arw) (c : List Int) (sp : Int) (m : Nat) (L : List Int) (s : Nat) : Int := if s = 0 then 0 else tmin rs c sp m L s m
def tabL (rs : List Arw) (c : List Int) (sp : Int) (m : Nat) : Nat → List Int
  | 0 => []
  | s + 1 => tabL rs c sp m s ++ [tval rs c sp m (tabL rs c sp m s) s]
section
variable {rs : List Arw} {c : List Int} {sp : Int} {m : Nat}
theorem costS_bound (hw : Wok rs) (hm : m ≤ 24) (i r : Nat) : 0 ≤ costS rs c sp m i r ∧ costS rs c sp m i r ≤ never := by
  have := bhK_bound hw c i r m
  unfold costS never
  split <;> omega
theorem tabL_len : ∀ s, (tabL rs c sp m s).length = s
  | 0 => rfl
  | s + 1 => by simp [tabL, tabL_len s]
theorem getD_in {L : List Int} (h : ∀ x ∈ L, 0 ≤ x ∧ x ≤ never) (j : Nat) : 0 ≤ L.getD j 0 ∧ L.getD j 0 ≤ never := by
  rw [List.getD_eq_getElem?_getD]
  cases q : L[j]? with
  | none => simp [never]
  | some x => exact h x (List.mem_of_getElem? q)
theorem tmin_bound (hw : Wok rs) (hm : m ≤ 24) {L : List Int} (h : ∀ x ∈ L, 0 ≤ x ∧ x ≤ never) (s : Nat) : ∀ i, 0 ≤ tmin rs c sp m L s i ∧ tmin rs c sp m L s i ≤ never
  | 0 => by simp [tmin, never]
  | i + 1 => by
    have ih := tmin_bound hw hm h s i
    have h1 := getD_in h (s - 2 ^ i)
    have h2 := costS_bound (c := c) (sp := sp) hw hm i (s - 2 ^ i)
    simp only [tmin]
    repeat' split
    all_goals omega
theorem tabL_bound (hw : Wok rs) (hm : m ≤ 24) : ∀ s, ∀ x ∈ tabL rs c sp m s, 0 ≤ x ∧ x ≤ never
  | 0, x, h => by simp [tabL] at h
  | s + 1, x, h => by
    simp only [tabL, List.mem_append, List.mem_singleton] at h
    rcases h with h | rfl
    · exact tabL_bound hw hm s x h
    · unfold tval
      split
      · simp [never]
      · exact tmin_bound hw hm (tabL_bound hw hm s) s m
theorem tabL_prefix : ∀ {s n : Nat}, s ≤ n → (tabL rs c sp m n).take s = tabL rs c sp m s
  | s, 0, h => by
    obtain rfl : s = 0 := by omega
    rfl
  | s, n + 1, h => by
    by_cases q : s = n + 1
    · subst q; rw [List.take_of_length_le (by rw [tabL_len]; omega)]
    · rw [tabL, List.take_append_of_le_length (by rw [tabL_len]; omega)]
      exact tabL_prefix (by omega)
end
theorem take_set_same {xs : List Int} {s : Nat} {x : Int} : (xs.set s x).take s = xs.take s := List.take_set_of_le (Nat.le_refl _)
theorem ints_at {xs : List Int} {j : Nat} {x : Int} (h : xs[j]? = some x) : (ints xs)[j]? = some (.i .i64 x) := by rw [ints_get, h]; rfl
theorem t110 : tblA 110 = some a110 := by kernel_rfl
theorem fn_table {h : H} {gb m : Nat} {sp : Int} {v : V} {rs : List Arw} {c : List Int} (hg : Grid h gb rs) (hc : Ints h v c) (hl : c.length = m) (hm : m ≤ 10) (hin : Gst c) (hw : Wok rs) :
    WC tblA (.fn 110 [] []) [.p gb 0, v, .i .i64 sp] h fun u h' => Ext h h' ∧ Own h 1 h' u (2 ^ m) (ints (tabL rs c sp m (2 ^ m))) := by
  refine (WC_in t110).2 ?_
  simp only [go_sem, ↓reduceIte, r110_0, H.next_new]
  rw [show (V.i .i64 sp).cells = [.i .i64 sp] from rfl, hc.one.1]
  have e1 : Ext h (((h.new (.cells [.p gb 0])).new (.cells [v])).new (.cells [.i .i64 sp])) := (((Ext.refl h).new _).new _).new _
  have g3 : (((h.new (.cells [.p gb 0])).new (.cells [v])).new (.cells [.i .i64 sp])).get h.next = some (.cells [.p gb 0]) := by rw [get_new_lt (by simp; omega), get_new_lt (by simp), get_new_eq rfl]
  have g4 : (((h.new (.cells [.p gb 0])).new (.cells [v])).new (.cells [.i .i64 sp])).get (h.next + 1) = some (.cells [v]) := by rw [get_new_lt (by simp), get_new_eq (by simp)]
  have g5 : (((h.new (.cells [.p gb 0])).new (.cells [v])).new (.cells [.i .i64 sp])).get (h.next + 1 + 1) = some (.cells [.i .i64 sp]) := by rw [get_new_eq (by simp)]
  have n1 : (((h.new (.cells [.p gb 0])).new (.cells [v])).new (.cells [.i .i64 sp])).next = h.next + 1 + 1 + 1 := by simp
  generalize (((h.new (.cells [.p gb 0])).new (.cells [v])).new (.cells [.i .i64 sp])) = h1 at *
  have hM : 2 ^ m ≤ 1024 := by
    have := Nat.pow_le_pow_right (n := 2) (by omega) hm
    simpa using this
  have hM1 : 1 ≤ 2 ^ m := Nat.one_le_two_pow
  have l4 : ldV h1 (.p (h.next + 1) 0) = some v := blk_ld g4 rfl
  have hc1 := hc.ext e1
  have hshl := bin_shl1 (k := m) (kd := .i64) (by omega)
  have hgb := hg.1
  generalize hMM : 2 ^ m = M at *
  simp only [go_sem, ↓reduceIte, r110_1, l4, hc1.len, hl, hshl, mkSl_ok (h := h1) (c := [.i .i64 0]) (bytes := 8) (n := M) (by omega) (by omega), rep_one]
  have e2 : Ext h1 ((h1.new (.cells (List.replicate M (.i .i64 0)))).new (.cells [.sn])) := ((Ext.refl h1).new _).new _
  have gv : ((h1.new (.cells (List.replicate M (.i .i64 0)))).new (.cells [.sn])).get h1.next = some (.cells (ints (List.replicate M 0))) := by rw [get_new_lt (by simp), get_new_eq rfl]; simp [ints]
  have g7 : ((h1.new (.cells (List.replicate M (.i .i64 0)))).new (.cells [.sn])).get (h1.next + 1) = some (.cells [.sn]) := by rw [get_new_eq (by simp)]
  have n2 : ((h1.new (.cells (List.replicate M (.i .i64 0)))).new (.cells [.sn])).next = h1.next + 1 + 1 := by simp
  simp only [H.next_new]
  generalize ((h1.new (.cells (List.replicate M (.i .i64 0)))).new (.cells [.sn])) = h2 at *
  have st7 := st_ref (v := .sl h1.next 0 M M none) g7 rfl rfl
  simp only [go_sem, ↓reduceIte, st7]
  have eB : Ext h (h2.put (h1.next + 1) (.cells [.sl h1.next 0 M M none])) := (e1.trans e2).put (by omega) _
  have e2' : ExtX (· = h1.next + 1) h2 (h2.put (h1.next + 1) (.cells [.sl h1.next 0 M M none])) := (ExtX.refl (· = h1.next + 1) h2).put (.inr rfl) _
  have n2e := e2.nx
  have B3 := e2'.get (by omega) (by omega) (e2.get (by omega) g3)
  have B4 := e2'.get (by omega) (by omega) (e2.get (by omega) g4)
  have B5 := e2'.get (by omega) (by omega) (e2.get (by omega) g5)
  have Bv := e2'.get (by omega) (by omega) gv
  have B7 : (h2.put (h1.next + 1) (.cells [.sl h1.next 0 M M none])).get (h1.next + 1) = some (.cells [.sl h1.next 0 M M none]) := by rw [H.get_put, if_pos rfl]
  have nB : (h2.put (h1.next + 1) (.cells [.sl h1.next 0 M M none])).next = h1.next + 1 + 1 := by simpa using n2
  generalize h2.put (h1.next + 1) (.cells [.sl h1.next 0 M M none]) = hB at *
  have hgB := hg.ext eB
  have hcB := hc.ext eB
  have stp (hh : H) : ∃ h3, stV (hh.new (.cells [.i .i64 0])) 1 (.p hh.next 0) (.i .i64 1) = some h3 ∧ Ext hh h3 ∧ h3.get hh.next = some (.cells [.i .i64 1]) ∧ h3.next = hh.next + 1 := st_newK hh [.i .i64 0] [.i .i64 1] rfl (by intro u hu; simp at hu; subst hu; rfl)
  obtain ⟨h3, s3, e3, g8, n3⟩ := stp hB
  simp only [go_sem, ↓reduceIte, r110_2, s3]
  have hcv : v = .sn ∨ (∃ a, v = .se a) ∨ blkV v < h.next := by
    rcases hc with ⟨_, _, q | q⟩ | ⟨b, off, cap, g, bl, rfl, hb, _⟩
    · exact .inl q
    · exact .inr (.inl q)
    · exact .inr (.inr hb)
  refine W_while (fun k t h' => ∃ (s q : Nat) (xs : List Int), k = M - s ∧ 1 ≤ s ∧ s ≤ M ∧ t.length = 66 ∧ nth t 3 = .p h.next 0 ∧ nth t 4 = .p (h.next + 1) 0 ∧ nth t 5 = .p (h.next + 1 + 1) 0 ∧ nth t 7 = .p (h1.next + 1) 0 ∧ nth t 8 = .p q 0 ∧ hB.next ≤ q ∧ q < h'.next ∧ ExtX (· = h1.next) hB h' ∧ h'.get q = some (.cells [.i .i64 (s : Int)]) ∧
      h'.get h1.next = some (.cells (ints xs)) ∧ xs.length = M ∧ xs.take s = tabL rs c sp m s) ?_ (M - 1) ?_
  · rintro k t h' ⟨s, q, xs, rfl, hs1, hsM, tl, t3, t4, t5, t7, t8, hq1, hq2, x, gq, gx, hxl, hxt⟩
    unfold b110_1
    have l8 : ldV h' (.p q 0) = some (.i .i64 (s : Int)) := blk_ld gq rfl
    have l7 : ldV h' (.p (h1.next + 1) 0) = some (.sl h1.next 0 M M none) := blk_ld (x.get (by omega) (by omega) B7) rfl
    by_cases hlt : s < M
    · have hltI : (s : Int) < (M : Int) := by omega
      have stv := st_one (h := h') (kd := .i64) (x := never) gx (show s < (ints xs).length by rw [ints_len]; omega)
      rw [ints_set] at stv
      simp only [go_sem, ↓reduceIte, r110_3, r110_5, tl, t3, t4, t5, t7, t8, l8, l7, hltI, ix_own hlt]
      rw [show (1099511627776 : Int) = never from rfl]
      simp only [go_sem, ↓reduceIte, stv]
      have x1 : ExtX (· = h1.next) hB (h'.put h1.next (.cells (ints (xs.set s never)))) := x.put (.inr rfl) _
      have gq1 : (h'.put h1.next (.cells (ints (xs.set s never)))).get q = some (.cells [.i .i64 (s : Int)]) := by rw [H.get_put, if_neg (by omega)]; exact gq
      have gx1 : (h'.put h1.next (.cells (ints (xs.set s never)))).get h1.next = some (.cells (ints (xs.set s never))) := by rw [H.get_put, if_pos rfl]
      have nx1 : (h'.put h1.next (.cells (ints (xs.set s never)))).next = h'.next := by simp
      generalize h'.put h1.next (.cells (ints (xs.set s never))) = h4 at *
      have l8' : ldV h4 (.p q 0) = some (.i .i64 (s : Int)) := blk_ld gq1 rfl
      have l4' : ldV h4 (.p (h.next + 1) 0) = some v := blk_ld (x1.get (by omega) (by omega) B4) rfl
      have hc4 : Ints h4 v c := Sl.keepX hcB x1 (by
        rcases hcv with z | z | z
        · exact .inl z
        · exact .inr (.inl z)
        · exact .inr (.inr (by omega)))
      simp only [go_sem, ↓reduceIte, r110_6, tl, t3, t4, t5, t7, t8, l8', l4', hc4.len, hl]
      have e5 : Ext h4 ((h4.new (.cells [.i .i64 (s : Int)])).new (.cells [.i .i64 (m : Int)])) := ((Ext.refl h4).new _).new _
      have gs : ((h4.new (.cells [.i .i64 (s : Int)])).new (.cells [.i .i64 (m : Int)])).get h4.next = some (.cells [.i .i64 (s : Int)]) := by rw [get_new_lt (by simp), get_new_eq rfl]
      have gm : ((h4.new (.cells [.i .i64 (s : Int)])).new (.cells [.i .i64 (m : Int)])).get (h4.next + 1) = some (.cells [.i .i64 (m : Int)]) := by rw [get_new_eq (by simp)]
      have n5 : ((h4.new (.cells [.i .i64 (s : Int)])).new (.cells [.i .i64 (m : Int)])).next = h4.next + 1 + 1 := by simp
      generalize ((h4.new (.cells [.i .i64 (s : Int)])).new (.cells [.i .i64 (m : Int)])) = h5 at *
      refine W_gen (fun t => t.length = 66 ∧ nth t 3 = .p h.next 0 ∧ nth t 4 = .p (h.next + 1) 0 ∧ nth t 5 = .p (h.next + 1 + 1) 0 ∧ nth t 7 = .p (h1.next + 1) 0 ∧ nth t 8 = .p q 0 ∧ nth t 28 = .fn 133 [] [.p (h4.next + 1) 0, .p h4.next 0]) ⟨by simp only [go_sem, tl], by simp only [go_sem, ↓reduceIte, tl, t3], by simp only [go_sem, ↓reduceIte, tl, t4], by simp only [go_sem, ↓reduceIte, tl, t5], by simp only [go_sem, ↓reduceIte, tl, t7], by simp only [go_sem, ↓reduceIte, tl, t8], by simp only [go_sem, ↓reduceIte, tl]⟩ ?_
      clear tl t3 t4 t5 t7 t8
      rintro t ⟨tl, t3, t4, t5, t7, t8, t28⟩
      refine W_rangeL (show (X.t 28).ev t = _ from t28) ?_
      intro L Lo hLdef
      obtain ⟨Lb, hLb⟩ : ∃ Lb : Loop, Lb = ⟨.busy, none, t, [29, 30], .seq (.ops r110_7) (.ops r110_8), b110_0⟩ := ⟨_, rfl⟩
      have eL : Ext h5 (h5.new (.loop L)) := (Ext.refl h5).new _
      have gL : (h5.new (.loop L)).get h5.next = some (.loop L) := get_new_eq rfl
      have nL : (h5.new (.loop L)).next = h5.next + 1 := by simp
      generalize h5.new (.loop L) = hL at *
      have e4L := e5.trans eL
      have xL : ExtX (· = h1.next) hB hL := x1.trans (.of e4L)
      have gqL := e4L.get (by omega) gq1
      have gxL := e4L.get (by omega) gx1
      have gsL := eL.get (by omega) gs
      have gmL := eL.get (by omega) gm
      have hgL := hgB.extX xL (by omega)
      have hcL := hc4.ext e4L
      have hTb := tabL_bound (rs := rs) (c := c) (sp := sp) (m := m) hw (by omega) s
      have nx0 := x.nx
      refine (fn_members1 (show m ≤ 24 by omega) (show s < 1000000000 by omega) (fun i h' => ExtX (fun b => b = h1.next ∨ b = h5.next) hL h' ∧ h'.get h1.next = some (.cells (ints (xs.set s (tmin rs c sp m (tabL rs c sp m s) s i)))) ∧ h'.get h5.next = some (.loop L)) (fun _ => False) ?_ ?_ ?_ ⟨.refl _ _, gxL, gL⟩).mono ?_
      · rintro i h' ⟨x, _, _⟩
        exact ⟨x.get (by omega) (by omega) gmL, x.get (by omega) (by omega) gsL⟩
      · rintro i h' ⟨x', gx', gl⟩ hi hbit
        refine yld_roundL gl hLdef hLb rfl ?_
        rw [updAll_two]
        obtain ⟨a, ha, ha24, haD⟩ := hin.at (i := i) (by omega)
        simp only [go_sem, ↓reduceIte, r110_7, r110_8, tl]
        have x2 : ExtX (fun b => b = h1.next ∨ b = h5.next) hL (h'.put h5.next (.loop Lb)) := x'.put (.inr (.inr rfl)) _
        have gl2 : (h'.put h5.next (.loop Lb)).get h5.next = some (.loop Lb) := by rw [H.get_put, if_pos rfl]
        have gx2 : (h'.put h5.next (.loop Lb)).get h1.next = some (.cells (ints (xs.set s (tmin rs c sp m (tabL rs c sp m s) s i)))) := by rw [H.get_put, if_neg (by omega)]; exact gx'
        generalize h'.put h5.next (.loop Lb) = h6 at *
        have hg6 := hgL.extX x2 (by omega)
        have hc6 : Ints h6 v c := Sl.keepX hcL x2 (by
          rcases hcv with z | z | z
          · exact .inl z
          · exact .inr (.inl z)
          · exact .inr (.inr (by omega)))
        have q3 : ldV h6 (.p h.next 0) = some (.p gb 0) := blk_ld (x2.get (by omega) (by omega) (xL.get (by omega) (by omega) B3)) rfl
        have g46 := x2.get (by omega) (by omega) (xL.get (by omega) (by omega) B4)
        have g56 := x2.get (by omega) (by omega) (xL.get (by omega) (by omega) B5)
        have g76 := x2.get (by omega) (by omega) (xL.get (by omega) (by omega) B7)
        have gq6 := x2.get (by omega) (by omega) gqL
        have q4 : ldV h6 (.p (h.next + 1) 0) = some v := blk_ld g46 rfl
        have q8 : ldV h6 (.p q 0) = some (.i .i64 (s : Int)) := blk_ld gq6 rfl
        have hble := bit_le hbit
        have hpp : 0 < 2 ^ i := Nat.two_pow_pos i
        simp only [b110_0]
        simp only [go_sem, ↓reduceIte, r110_9, tl, t3, t4, t5, t7, t8, q3, q4, q8, bin_andNot (show s < 4611686018427387904 by omega) hbit]
        refine (fn_behind hg6 hc6 hl (by omega) hin hi (show s - 2 ^ i < 1000000000 by omega) hw).mono ?_
        rintro _ h7 ⟨e7, rfl⟩
        have n6 := x2.nx
        have nx7 := e7.nx
        have hg7 := hg6.ext e7
        have hc7 := hc6.ext e7
        have q47 : ldV h7 (.p (h.next + 1) 0) = some v := blk_ld (e7.get (by omega) g46) rfl
        have q57 : ldV h7 (.p (h.next + 1 + 1) 0) = some (.i .i64 sp) := blk_ld (e7.get (by omega) g56) rfl
        have q77 : ldV h7 (.p (h1.next + 1) 0) = some (.sl h1.next 0 M M none) := blk_ld (e7.get (by omega) g76) rfl
        have q87 : ldV h7 (.p q 0) = some (.i .i64 (s : Int)) := blk_ld (e7.get (by omega) gq6) rfl
        have gl7 := e7.get (by omega) gl2
        have gx7 := e7.get (by omega) gx2
        have hcost : costS rs c sp m i (s - 2 ^ i) = if c.getD i 0 = sp ∧ 0 < bhK rs c i (s - 2 ^ i) m then never else bhK rs c i (s - 2 ^ i) m := rfl
        have hcb := costS_bound (c := c) (sp := sp) hw (show m ≤ 24 by omega) i (s - 2 ^ i)
        have hlb := getD_in hTb (s - 2 ^ i)
        have htb := tmin_bound (c := c) (sp := sp) hw (show m ≤ 24 by omega) hTb s i
        have hlt2 : s - 2 ^ i < M := by omega
        have lds : ldV h7 (.p h1.next (0 + s * 1)) = some (.i .i64 (tmin rs c sp m (tabL rs c sp m s) s i)) := by
          refine blk_ld gx7 (ints_at ?_)
          rw [show 0 + s * 1 = s by omega, List.getElem?_set]
          simp [hxl, hlt]
        have ldr : ldV h7 (.p h1.next (0 + (s - 2 ^ i) * 1)) = some (.i .i64 ((tabL rs c sp m s).getD (s - 2 ^ i) 0)) := by
          refine blk_ld gx7 (ints_at ?_)
          rw [show 0 + (s - 2 ^ i) * 1 = s - 2 ^ i by omega, List.getElem?_set, if_neg (by omega), ← hxt, List.getD_eq_getElem?_getD, List.getElem?_take_of_lt (by omega)]
          obtain ⟨y, hy⟩ : ∃ y, xs[s - 2 ^ i]? = some y := ⟨_, List.getElem?_eq_getElem (by omega)⟩
          rw [hy]; rfl
        have hsum : IntKind.i64.wrap ((tabL rs c sp m s).getD (s - 2 ^ i) 0 + costS rs c sp m i (s - 2 ^ i)) = (tabL rs c sp m s).getD (s - 2 ^ i) 0 + costS rs c sp m i (s - 2 ^ i) := by
          unfold never at *
          exact wrap_in (by omega) (by omega)
        have hand := bin_andNot (show s < 4611686018427387904 by omega) hbit
        have htm : tmin rs c sp m (tabL rs c sp m s) s (i + 1) = if (tabL rs c sp m s).getD (s - 2 ^ i) 0 + costS rs c sp m i (s - 2 ^ i) < tmin rs c sp m (tabL rs c sp m s) s i then (tabL rs c sp m s).getD (s - 2 ^ i) 0 + costS rs c sp m i (s - 2 ^ i) else tmin rs c sp m (tabL rs c sp m s) s i := by
          simp only [tmin, hbit, if_true]
        have st7 := st_one (h := h7.bare) (kd := .i64) (x := tmin rs c sp m (tabL rs c sp m s) s (i + 1)) gx7 (show s < (ints (xs.set s (tmin rs c sp m (tabL rs c sp m s) s i))).length by rw [ints_len]; simp; omega)
        rw [ints_set, List.set_set] at st7
        have hbk := back_put (h := h7) (b := h1.next) (by omega)
        have x7 : ExtX (fun b => b = h1.next ∨ b = h5.next) hL h7 := x2.trans (.of e7)
        have fin : (h7.put h1.next (.cells (ints (xs.set s (tmin rs c sp m (tabL rs c sp m s) s (i + 1)))))).get h5.next = some (.loop Lb) ∧
            ((V.b true = .b true ∧ ExtX (fun b => b = h1.next ∨ b = h5.next) hL ((h7.put h1.next (.cells (ints (xs.set s (tmin rs c sp m (tabL rs c sp m s) s (i + 1)))))).put h5.next (.loop L)) ∧ ((h7.put h1.next (.cells (ints (xs.set s (tmin rs c sp m (tabL rs c sp m s) s (i + 1)))))).put h5.next (.loop L)).get h1.next = some (.cells (ints (xs.set s (tmin rs c sp m (tabL rs c sp m s) s (i + 1))))) ∧ ((h7.put h1.next (.cells (ints (xs.set s (tmin rs c sp m (tabL rs c sp m s) s (i + 1)))))).put h5.next (.loop L)).get h5.next = some (.loop L)) ∨ (V.b true = .b false ∧ False)) := by
          refine ⟨by rw [H.get_put, if_neg (by omega)]; exact gl7, .inl ⟨rfl, (x7.put (.inr (.inl rfl)) _).put (.inr (.inr rfl)) _, ?_, ?_⟩⟩
          · rw [H.get_put, if_neg (by omega), H.get_put, if_pos rfl]
          · rw [H.get_put, if_pos rfl]
        by_cases d1 : c.getD i 0 = sp ∧ 0 < bhK rs c i (s - 2 ^ i) m
        · rw [if_pos d1] at hcost
          have d2 : (a : Int) = sp := by rw [← haD]; exact d1.1
          simp only [go_sem, ↓reduceIte, r110_10, r110_11, tl, t3, t4, t5, t7, t8, q47, q57, hc7.ix (show i < c.length by omega), hc7.ld ha, d2, d1.2]
          rw [show (1099511627776 : Int) = never from rfl, ← hcost]
          simp only [go_sem, ↓reduceIte, r110_12, tl, t3, t4, t5, t7, t8, q77, q87, ix_own hlt, ix_own hlt2, hand, lds, ldr, hsum, minL_2, ← htm, st7, hbk]
          simpa using fin
        · rw [if_neg d1] at hcost
          by_cases d2 : (a : Int) = sp
          · have d3 : ¬ 0 < bhK rs c i (s - 2 ^ i) m := fun z => d1 ⟨by rw [haD]; exact d2, z⟩
            simp only [go_sem, ↓reduceIte, r110_10, tl, t3, t4, t5, t7, t8, q47, q57, hc7.ix (show i < c.length by omega), hc7.ld ha, d2, d3]
            rw [← hcost]
            simp only [go_sem, ↓reduceIte, r110_12, tl, t3, t4, t5, t7, t8, q77, q87, ix_own hlt, ix_own hlt2, hand, lds, ldr, hsum, minL_2, ← htm, st7, hbk]
            simpa using fin
          · simp only [go_sem, ↓reduceIte, r110_10, tl, t3, t4, t5, t7, t8, q47, q57, hc7.ix (show i < c.length by omega), hc7.ld ha, d2]
            rw [← hcost]
            simp only [go_sem, ↓reduceIte, r110_12, tl, t3, t4, t5, t7, t8, q77, q87, ix_own hlt, ix_own hlt2, hand, lds, ldr, hsum, minL_2, ← htm, st7, hbk]
            simpa using fin
      · rintro i h' ⟨x', gx', gl⟩ hi hbit
        refine ⟨x', ?_, gl⟩
        rw [gx']
        simp [tmin, hbit]
      · rintro _ h' (⟨x', gx', gl⟩ | hf)
        case inr => exact hf.elim
        refine ⟨gl, ?_⟩
        have x8 : ExtX (fun b => b = h1.next ∨ b = h5.next) hL (h'.put h5.next (.loop Lo)) := x'.put (.inr (.inr rfl)) _
        have gx8 : (h'.put h5.next (.loop Lo)).get h1.next = some (.cells (ints (xs.set s (tmin rs c sp m (tabL rs c sp m s) s m)))) := by rw [H.get_put, if_neg (by omega)]; exact gx'
        generalize h'.put h5.next (.loop Lo) = h8 at *
        have gq8 := x8.get (by omega) (by omega) gqL
        have n8 := x8.nx
        have l88 : ldV h8 (.p q 0) = some (.i .i64 (s : Int)) := blk_ld gq8 rfl
        obtain ⟨h9, s9, e9, g9, n9⟩ : ∃ h9, stV (h8.new (.cells [.i .i64 0])) 1 (.p h8.next 0) (.i .i64 (s : Int)) = some h9 ∧ Ext h8 h9 ∧ h9.get h8.next = some (.cells [.i .i64 (s : Int)]) ∧ h9.next = h8.next + 1 := st_newK h8 [.i .i64 0] [.i .i64 (s : Int)] rfl (by intro u hu; simp at hu; subst hu; rfl)
        have l99 : ldV h9 (.p h8.next 0) = some (.i .i64 (s : Int)) := blk_ld g9 rfl
        have stA : stV h9 1 (.p h8.next 0) (.i .i64 ((s + 1 : Nat) : Int)) = some (h9.put h8.next (.cells [.i .i64 ((s + 1 : Nat) : Int)])) := st_ref g9 rfl rfl
        simp only [go_sem, ↓reduceIte, r110_13, r110_14, r110_4, tl, t3, t4, t5, t7, t8, l88, s9, l99, wrap_succ (show s < 1000000000 by omega), stA]
        have xf : ExtX (· = h1.next) hB (h9.put h8.next (.cells [.i .i64 ((s + 1 : Nat) : Int)])) := by
          have y1 : ExtX (fun b => b = h1.next ∨ b = h5.next) hL h9 := x8.trans (.of e9)
          have y2 : ExtX (fun b => b = h1.next ∨ b = h5.next ∨ b = h8.next) hL (h9.put h8.next (.cells [.i .i64 ((s + 1 : Nat) : Int)])) := (y1.mono (fun b hb => hb.elim .inl fun z => .inr (.inl z))).put (.inr (.inr (.inr rfl))) _
          refine ⟨Nat.le_trans xL.nx y2.nx, fun b hb hne => ?_, ?_⟩
          · rw [y2.same b (by omega) (by omega)]
            exact xL.same b hb hne
          · obtain ⟨l1, p1, p2⟩ := xL.log
            obtain ⟨l2, p3, p4⟩ := y2.log
            refine ⟨l2 ++ l1, by rw [p3, p1, List.append_assoc], fun b hb => ?_⟩
            rcases List.mem_append.1 hb with hb | hb
            · rcases p4 b hb with z | z | z | z
              · exact .inl (by omega)
              · exact .inr z
              · exact .inl (by omega)
              · exact .inl (by omega)
            · exact p2 b hb
        refine ⟨M - (s + 1), by omega, s + 1, h8.next, xs.set s (tmin rs c sp m (tabL rs c sp m s) s m), rfl, by omega, by omega, rfl, by omega, by simp; omega, xf, by rw [H.get_put, if_pos rfl], ?_, by simpa using hxl, ?_⟩
        · rw [H.get_put, if_neg (by omega)]
          exact e9.get (by omega) gx8
        · rw [tabL, take_succ' (x := tmin rs c sp m (tabL rs c sp m s) s m) (by rw [List.getElem?_set]; simp [hxl, hlt]), take_set_same, hxt]
          congr 2
          rw [tval, if_neg (by omega)]
    · have hltI : ¬ (s : Int) < (M : Int) := by omega
      obtain rfl : s = M := by omega
      simp only [go_sem, ↓reduceIte, r110_3, r110_15, tl, t3, t4, t5, t7, t8, l8, l7, hltI]
      rw [List.take_of_length_le (by omega)] at hxt
      subst hxt
      refine ⟨x.ext eB (fun b hb => by omega), by rw [ints_len, hxl]; simp, .inr ⟨h1.next, none, rfl, .inl rfl, by omega, by have := x.nx; omega, gx⟩⟩
  · refine ⟨1, hB.next, List.replicate M 0, rfl, by omega, by omega, ?_⟩
    simp only [go_sem, ↓reduceIte]
    refine ⟨by omega, by omega, .of e3, g8, e3.get (by omega) Bv, by simp, ?_⟩
    obtain ⟨M', rfl⟩ : ∃ M', M = M' + 1 := ⟨M - 1, by omega⟩
    simp [tabL, tval, List.replicate_succ]
end Go.Air
set_option maxRecDepth 100000
namespace Go.Air
open Go.Air.Try
def NxtF (R : Nat → Nat → Bool) (n : Nat) (d : Nat → Bool) (i : Nat) (z : Int) : Prop :=
  (z = -1 ∧ ∀ a, i ≤ a → a < n → freeG R n d a = false) ∨ ∃ a : Nat, z = (a : Int) ∧ i ≤ a ∧ a < n ∧ freeG R n d a = true ∧ ∀ b, i ≤ b → b < a → freeG R n d b = false
theorem NxtF.no {R : Nat → Nat → Bool} {n j : Nat} {d : Nat → Bool} {z : Int} (h : NxtF R n d (j + 1) z) (hf : freeG R n d j = false) : NxtF R n d j z := by
  rcases h with ⟨rfl, h⟩ | ⟨a, rfl, h1, h2, h3, h4⟩
  · refine .inl ⟨rfl, fun a q1 q2 => ?_⟩
    by_cases q : a = j
    · subst q; exact hf
    · exact h a (by omega) q2
  · refine .inr ⟨a, rfl, by omega, h2, h3, fun b q1 q2 => ?_⟩
    by_cases q : b = j
    · subst q; exact hf
    · exact h4 b (by omega) q2
end Go.Air
set_option maxRecDepth 100000
namespace Go.Air
open Go.Air.Try
def Refs (hA h1 h : H) (w : V) (xss : List (List Int)) : Prop := ∃ cs, Own h1 1 h w xss.length cs ∧ ∀ (j : Nat) (xs : List Int), xss[j]? = some xs → ∃ c, cs[j]? = some c ∧ Ints h1 c xs ∧ hA.next ≤ blkV c
def LLa (hA h : H) (v : V) (xss : List (List Int)) : Prop := ∃ cs, Sl 1 h v xss.length cs ∧ (v = .sn ∨ hA.next ≤ blkV v) ∧ ∀ (j : Nat) (xs : List Int), xss[j]? = some xs → ∃ c, cs[j]? = some c ∧ Ints h c xs ∧ hA.next ≤ blkV c
theorem LLa.ll {hA h : H} {v : V} {xss : List (List Int)} (r : LLa hA h v xss) : LL h v xss := by
  obtain ⟨cs, s, _, hc⟩ := r
  exact ⟨cs, s, fun j xs hj => let ⟨c, q1, q2, _⟩ := hc j xs hj; ⟨c, q1, q2⟩⟩
theorem LLa.keepX {X : Nat → Prop} {hA h h' : H} {v : V} {xss : List (List Int)} (r : LLa hA h v xss) (e : ExtX X h h') (hX : ∀ b, X b → b < hA.next) : LLa hA h' v xss := by
  obtain ⟨cs, s, q, hc⟩ := r
  have far : ∀ {b : Nat}, hA.next ≤ b → ¬ X b := fun hb x => by have := hX _ x; omega
  refine ⟨cs, s.keepX e (q.imp id fun z => .inr (far z)), q, fun j xs hj => ?_⟩
  obtain ⟨c, q1, q2, q3⟩ := hc j xs hj
  exact ⟨c, q1, Sl.keepX q2 e (.inr (.inr (far q3))), q3⟩
theorem LLa.ext {hA h h' : H} {v : V} {xss : List (List Int)} (r : LLa hA h v xss) (e : Ext h h') : LLa hA h' v xss := r.keepX (X := fun _ => False) (.of e) (fun _ z => z.elim)
theorem LLa.mono {hA hB h : H} {v : V} {xss : List (List Int)} (r : LLa hA h v xss) (e : hB.next ≤ hA.next) : LLa hB h v xss := by
  obtain ⟨cs, s, q, hc⟩ := r
  exact ⟨cs, s, q.imp id fun z => Nat.le_trans e z, fun j xs hj => let ⟨c, q1, q2, q3⟩ := hc j xs hj; ⟨c, q1, q2, Nat.le_trans e q3⟩⟩
theorem Refs.nil {hA h1 h : H} : Refs hA h1 h .sn [] := ⟨[], .nil, fun j xs hj => by simp at hj⟩
theorem Refs.ll {hA h1 h : H} {w : V} {xss : List (List Int)} (r : Refs hA h1 h w xss) (e : Ext h1 h) (hn : hA.next ≤ h1.next) : LLa hA h w xss := by
  obtain ⟨cs, o, hc⟩ := r
  refine ⟨cs, by simpa using o.sl, ?_, fun j xs hj => ?_⟩
  · rcases o.2 with ⟨_, z⟩ | ⟨b, g, z, _, q, _⟩
    · exact .inl z
    · exact .inr (by subst z; exact Nat.le_trans hn q)
  · obtain ⟨c, q1, q2, q3⟩ := hc j xs hj
    exact ⟨c, q1, q2.ext e, q3⟩
theorem Refs.app {hA h1 h : H} {w u : V} {xss : List (List Int)} {xs : List Int} (r : Refs hA h1 h w xss) (e : Ext h1 h) (iu : Ints h1 u xs) (ub : hA.next ≤ blkV u) (hn : xss.length ≤ 1000000) :
    ∃ w' h', appendV 1 24 (h.new (.cells [u])) w (.sl h.next 0 1 1 none) = .ok w' h' ∧ Ext h1 h' ∧ Refs hA h1 h' w' (xss ++ [xs]) := by
  obtain ⟨cs, o, hc⟩ := r
  obtain ⟨w', h', r1, r2, r3, r4, r5, r6⟩ := app_ref (u := u) o e iu.one.2 hn
  have hl : cs.length = xss.length := by simpa using o.len
  refine ⟨w', h', r1, r2, cs ++ [u], by simpa using r3, fun j ys hj => ?_⟩
  by_cases hjl : j < xss.length
  · rw [List.getElem?_append_left hjl] at hj
    obtain ⟨c, q1, q2⟩ := hc j ys hj
    exact ⟨c, by rw [List.getElem?_append_left (by omega)]; exact q1, q2⟩
  · have hlt := (List.getElem?_eq_some_iff.1 hj).1
    simp at hlt
    obtain rfl : j = xss.length := by omega
    rw [List.getElem?_append_right (by omega)] at hj
    simp at hj
    subst hj
    exact ⟨u, by rw [List.getElem?_append_right (by omega)]; simp [hl], iu, ub⟩
theorem Rows.ld {h0 h : H} {w : V} {xss : List (List Int)} (r : Rows h0 h w xss) {i : Nat} {xs : List Int} (hx : xss[i]? = some xs) : ∃ c, ldV h (.p (blkV w) (offV w + i * 1)) = some c ∧ Ints h c xs ∧ h0.next ≤ blkV c := by
  obtain ⟨cs, o, hc⟩ := r
  obtain ⟨c, q1, q2, q3, _⟩ := hc i xs hx
  have hi := (List.getElem?_eq_some_iff.1 hx).1
  have s : Sl 1 h w xss.length cs := by simpa using o.sl
  exact ⟨c, by rw [s.ld1 hi, q1], q2, q3⟩
noncomputable def circledS (N : Int) (rs : List Arw) : Int := if checkS N rs ≠ 0 then checkS N rs else circE (circR N rs)
end Go.Air
set_option maxRecDepth 100000
namespace Go.Air
open Go.Air.Try
def subL (c : List Int) (s : Nat) : Nat → List Int
  | 0 => []
  | k + 1 => subL c s k ++ if s.testBit k = true then [c.getD k 0] else []
def hit (x : Int) (l : List Int) (r : Arw) : Int := if r.f = x ∧ r.t ∈ l then r.w else 0
theorem offT_sum (f g : Arw → Int) : ∀ rs : List Arw, offT rs (fun r => f r + g r) = offT rs f + offT rs g
  | [] => rfl
  | r :: rs => by
    have ih := offT_sum f g rs
    simp only [offT, List.map_cons, List.sum_cons] at *
    omega
theorem hit_nil {rs : List Arw} {x : Int} : offT rs (hit x []) = 0 := by
  have : offT rs (hit x []) = offT rs (fun _ => 0) := offT_congr fun r _ => by simp [hit]
  rw [this]
  clear this
  induction rs with
  | nil => rfl
  | cons r l ih => simp only [offT, List.map_cons, List.sum_cons] at *; omega
theorem subL_mem {c : List Int} {s : Nat} {y : Int} : ∀ {k : Nat}, y ∈ subL c s k → ∃ j, j < k ∧ c.getD j 0 = y
  | 0, h => by simp [subL] at h
  | k + 1, h => by
    simp only [subL, List.mem_append] at h
    rcases h with h | h
    · obtain ⟨j, h1, h2⟩ := subL_mem h
      exact ⟨j, by omega, h2⟩
    · split at h
      · simp at h; exact ⟨k, by omega, h.symm⟩
      · simp at h
theorem getD_injI {c : List Int} (hd : c.Nodup) {i j : Nat} (hi : i < c.length) (hj : j < c.length) (h : c.getD i 0 = c.getD j 0) : i = j := by
  rw [List.getD_eq_getElem?_getD, List.getD_eq_getElem?_getD, List.getElem?_eq_getElem hi, List.getElem?_eq_getElem hj] at h
  simp only [Option.getD_some] at h
  exact (List.getElem_inj hd).1 h
def SmallL (L : List Int) : Prop := ∀ (j : Nat) (x : Int), L[j]? = some x → 0 ≤ x ∧ x ≤ 24000 * j
theorem SmallL.getD {L : List Int} (h : SmallL L) (j : Nat) : 0 ≤ L.getD j 0 ∧ L.getD j 0 ≤ 24000 * j := by
  rw [List.getD_eq_getElem?_getD]
  cases q : L[j]? with
  | none => simp; omega
  | some x => exact h j x q
section
variable {rs : List Arw} {c : List Int} {m : Nat}
theorem some_bit {s m : Nat} (h0 : s ≠ 0) (hs : s < 2 ^ m) : ∃ j, j < m ∧ s.testBit j = true := by
  obtain ⟨j, hj⟩ := Nat.exists_testBit_of_ne_zero h0
  exact ⟨j, bit_lt hs hj, hj⟩
end
end Go.Air
set_option maxRecDepth 100000
namespace Go.Air
open Go.Air.Try
def bools (n : Nat) (d : Nat → Bool) : List V := (List.range n).map fun j => .b (d j)
theorem bools_len (n : Nat) (d : Nat → Bool) : (bools n d).length = n := by simp [bools]
theorem bools_get {n j : Nat} {d : Nat → Bool} (hj : j < n) : (bools n d)[j]? = some (.b (d j)) := by simp [bools, hj]
theorem bools_set {n j : Nat} {d : Nat → Bool} {v : Bool} : (bools n d).set j (.b v) = bools n (sput d j v) := by
  apply List.ext_getElem?
  intro i
  rw [List.getElem?_set]
  by_cases hi : i < n
  · rw [bools_get hi, bools_get hi]
    by_cases h : j = i
    · subst h
      rw [if_pos rfl, if_pos (by rw [bools_len]; exact hi)]
      simp [sput]
    · rw [if_neg h]
      simp [sput, Ne.symm h]
  · rw [List.getElem?_eq_none (l := bools n (sput d j v)) (by rw [bools_len]; omega), List.getElem?_eq_none (l := bools n d) (by rw [bools_len]; omega)]
    split
    · rw [if_neg (by rw [bools_len]; omega)]
    · rfl
theorem ldb {h : H} {b n j : Nat} {d : Nat → Bool} (g : h.get b = some (.cells (bools n d))) (hj : j < n) : ldV h (.p b (0 + j * 1)) = some (.b (d j)) := blk_ld g (by rw [show 0 + j * 1 = j by omega]; exact bools_get hj)
theorem stb {h : H} {b n j : Nat} {d : Nat → Bool} {v : Bool} (g : h.get b = some (.cells (bools n d))) (hj : j < n) : stV h 1 (.p b (0 + j * 1)) (.b v) = some (h.put b (.cells (bools n (sput d j v)))) := by
  rw [st_b (k := 0 + j * 1) g (by rw [bools_len]; omega), show 0 + j * 1 = j by omega, bools_set]
def tabF (rs : List Arw) (sp : Int) (c : List Int) : List Int := tabL rs c sp c.length (2 ^ c.length)
theorem tabF_len (rs : List Arw) (sp : Int) (c : List Int) : (tabF rs sp c).length = 2 ^ c.length := tabL_len _
def Okc (n : Nat) (xss : List (List Int)) : Prop := ∀ c ∈ xss, c.length ≤ 10 ∧ c.Nodup ∧ ∀ y ∈ c, ∃ j : Nat, y = (j : Int) ∧ j < n
theorem Okc.gst {n : Nat} {xss : List (List Int)} (h : Okc n xss) (hn : n ≤ 24) {c : List Int} (hc : c ∈ xss) : Gst c := by
  intro y hy
  obtain ⟨j, e, hj⟩ := (h c hc).2.2 y hy
  exact ⟨j, e, by omega⟩
structure Srch (h : H) (sb n : Nat) (rs : List Arw) (xss : List (List Int)) (sp : Int) (cv vv : V) : Prop where
  lt : sb < h.next
  g : h.get sb = some (.cells (ints (gridL rs) ++ [.i .i64 (n : Int), cv, vv, .i .i64 sp]))
  lc : LL h cv xss
  lv : LL h vv (xss.map (tabF rs sp))
theorem Srch.ext {h h' : H} {sb n : Nat} {rs : List Arw} {xss : List (List Int)} {sp : Int} {cv vv : V} (s : Srch h sb n rs xss sp cv vv) (e : Ext h h') : Srch h' sb n rs xss sp cv vv :=
  ⟨Nat.lt_of_lt_of_le s.lt e.nx, e.get s.lt s.g, s.lc.ext e, s.lv.ext e⟩
section
variable {h : H} {sb n : Nat} {rs : List Arw} {xss : List (List Int)} {sp : Int} {cv vv : V}
theorem Srch.grid (s : Srch h sb n rs xss sp cv vv) : Grid h sb rs := by
  refine ⟨s.lt, _, s.g, fun a b ha hb => ?_⟩
  rw [List.getElem?_append_left (by rw [ints_len, gridL_len]; omega)]
  exact ints_at (by rw [show 0 + a * 24 + b * 1 = a * 24 + b by omega]; exact gridL_get ha hb)
theorem Srch.tail (s : Srch h sb n rs xss sp cv vv) {k : Nat} {x : V} (hx : ([.i .i64 (n : Int), cv, vv, .i .i64 sp] : List V)[k]? = some x) : ldV h (.p sb (576 + k)) = some x := by
  refine blk_ld s.g ?_
  rw [List.getElem?_append_right (by rw [ints_len, gridL_len]; omega), ints_len, gridL_len, Nat.add_sub_cancel_left]
  exact hx
theorem Srch.ln (s : Srch h sb n rs xss sp cv vv) : ldV h (.p sb 576) = some (.i .i64 (n : Int)) := s.tail (k := 0) rfl
theorem Srch.lcv (s : Srch h sb n rs xss sp cv vv) : ldV h (.p sb 577) = some cv := s.tail (k := 1) rfl
theorem Srch.lvv (s : Srch h sb n rs xss sp cv vv) : ldV h (.p sb 578) = some vv := s.tail (k := 2) rfl
theorem Srch.lsp (s : Srch h sb n rs xss sp cv vv) : ldV h (.p sb 579) = some (.i .i64 sp) := s.tail (k := 3) rfl
end
def setOf (c : List Int) (d : Nat → Bool) : Nat → Nat
  | 0 => 0
  | i + 1 => if d (c.getD i 0).toNat = true then setOf c d i ||| 2 ^ i else setOf c d i
theorem setOf_lt (c : List Int) (d : Nat → Bool) : ∀ k, setOf c d k < 2 ^ k
  | 0 => by simp [setOf]
  | k + 1 => by
    have ih := setOf_lt c d k
    have h1 : 2 ^ k < 2 ^ (k + 1) := Nat.pow_lt_pow_right (by omega) (by omega)
    simp only [setOf]
    split
    · exact Nat.or_lt_two_pow (by omega) h1
    · omega
def leftS (rs : List Arw) (sp : Int) (d : Nat → Bool) : List (List Int) → Int
  | [] => 0
  | c :: l => (tabF rs sp c).getD (setOf c d c.length) 0 + leftS rs sp d l
theorem leftS_append (rs : List Arw) (sp : Int) (d : Nat → Bool) : ∀ a b : List (List Int), leftS rs sp d (a ++ b) = leftS rs sp d a + leftS rs sp d b
  | [], b => by simp [leftS]
  | c :: a, b => by simp only [List.cons_append, leftS, leftS_append rs sp d a b]; omega
theorem tabF_getD {rs : List Arw} {sp : Int} {c : List Int} (hw : Wok rs) (hl : c.length ≤ 24) (j : Nat) : 0 ≤ (tabF rs sp c).getD j 0 ∧ (tabF rs sp c).getD j 0 ≤ never := getD_in (tabL_bound hw hl _) j
theorem leftS_bound {rs : List Arw} {sp : Int} {d : Nat → Bool} (hw : Wok rs) : ∀ l : List (List Int), (∀ c ∈ l, c.length ≤ 24) → 0 ≤ leftS rs sp d l ∧ leftS rs sp d l ≤ never * l.length
  | [], _ => by simp [leftS]
  | c :: l, h => by
    have ih := leftS_bound hw (sp := sp) (d := d) l fun x hx => h x (by simp [hx])
    have h1 := tabF_getD (sp := sp) hw (h c (by simp)) (setOf c d c.length)
    simp only [leftS, List.length_cons]
    have : never * ((l.length + 1 : Nat) : Int) = never * l.length + never := by rw [Int.natCast_add, Int.mul_add]; simp
    omega
theorem t111 : tblA 111 = some a111 := by kernel_rfl
theorem fn_left {h : H} {sb n ib : Nat} {rs : List Arw} {xss : List (List Int)} {sp : Int} {cv vv : V} {d : Nat → Bool} (s : Srch h sb n rs xss sp cv vv) (ok : Okc n xss) (hn : n ≤ 24) (hxl : xss.length ≤ 24) (hw : Wok rs) (gi : h.get ib = some (.cells (bools n d))) :
    WC tblA (.fn 111 [] []) [.p sb 0, .sl ib 0 n n none] h fun u h' => h' = h ∧ u = .i .i64 (leftS rs sp d xss) := by
  refine (WC_in t111).2 ?_
  simp only [go_sem, ↓reduceIte, r111_0, r111_1, r111_2, s.lcv, s.lc.len]
  refine W_while (fun k t h' => ∃ i, k = xss.length - i ∧ i ≤ xss.length ∧ t.length = 51 ∧ nth t 0 = .p sb 0 ∧ nth t 1 = .sl ib 0 n n none ∧ nth t 5 = .i .i64 (leftS rs sp d (xss.take i)) ∧ nth t 14 = cv ∧ nth t 15 = .i .i64 (xss.length : Int) ∧ nth t 16 = .i .i64 (i : Int) ∧ h = h') ?_ xss.length ?_
  · rintro k t _ ⟨i, rfl, hi, tl, t0, t1, t5, t14, t15, t16, rfl⟩
    unfold b111_1
    by_cases hlt : i < xss.length
    · have hltI : (i : Int) < (xss.length : Int) := by omega
      obtain ⟨c, hx⟩ : ∃ c, xss[i]? = some c := ⟨_, List.getElem?_eq_getElem hlt⟩
      have hcm := List.mem_of_getElem? hx
      obtain ⟨hc10, hcd, hcin⟩ := ok c hcm
      obtain ⟨w, hl, hi1⟩ := s.lc.ld hx
      have hvx : (xss.map (tabF rs sp))[i]? = some (tabF rs sp c) := by rw [List.getElem?_map, hx]; rfl
      obtain ⟨w2, hl2, hi2⟩ := s.lv.ld hvx
      simp only [go_sem, ↓reduceIte, r111_3, r111_4, r111_5, r111_6, tl, t0, t1, t5, t14, t15, t16, hltI, s.lc.ix hlt, hl, hi1.len]
      refine W_while (fun k t h' => ∃ j, k = c.length - j ∧ j ≤ c.length ∧ t.length = 51 ∧ nth t 0 = .p sb 0 ∧ nth t 1 = .sl ib 0 n n none ∧ nth t 5 = .i .i64 (leftS rs sp d (xss.take i)) ∧ nth t 6 = .i .i64 (i : Int) ∧ nth t 8 = .i .i64 ((setOf c d j : Nat) : Int) ∧ nth t 14 = cv ∧ nth t 15 = .i .i64 (xss.length : Int) ∧ nth t 16 = .i .i64 (i : Int) ∧ nth t 21 = w ∧ nth t 22 = .i .i64 (c.length : Int) ∧ nth t 23 = .i .i64 (j : Int) ∧ h = h') ?_ c.length ?_
      · rintro k t _ ⟨j, rfl, hj, tl, t0, t1, t5, t6, t8, t14, t15, t16, t21, t22, t23, rfl⟩
        unfold b111_0
        by_cases hltj : j < c.length
        · have hltjI : (j : Int) < (c.length : Int) := by omega
          obtain ⟨x, hxj⟩ : ∃ x, c[j]? = some x := ⟨_, List.getElem?_eq_getElem hltj⟩
          obtain ⟨g, hxg, hg⟩ := hcin x (List.mem_of_getElem? hxj)
          have hgD : (c.getD j 0).toNat = g := by rw [List.getD_eq_getElem?_getD, hxj, hxg]; rfl
          rw [hxg] at hxj
          have hsl := setOf_lt c d j
          have hp := Nat.pow_le_pow_right (n := 2) (by omega) (show j ≤ 10 by omega)
          have hst : setOf c d (j + 1) = if d g = true then setOf c d j ||| 2 ^ j else setOf c d j := by rw [setOf, hgD]
          have hor := bin_or (a := setOf c d j) (b := 2 ^ j) (by omega) (by omega)
          cases hb : d g
          · rw [hb] at hst
            simp only [Bool.false_eq_true, if_false] at hst
            simp only [go_sem, ↓reduceIte, r111_7, r111_8, r111_9, r111_11, tl, t0, t1, t5, t6, t8, t14, t15, t16, t21, t22, t23, hltjI, hi1.ix hltj, hi1.ld hxj, ix_own hg, ldb gi hg, hb, wrap_succ (show j < 1000000000 by omega)]
            exact ⟨c.length - (j + 1), by omega, j + 1, rfl, hltj, by rw [hst], rfl⟩
          · rw [hb] at hst
            simp only [if_true] at hst
            simp only [go_sem, ↓reduceIte, r111_7, r111_8, r111_9, r111_10, r111_11, tl, t0, t1, t5, t6, t8, t14, t15, t16, t21, t22, t23, hltjI, hi1.ix hltj, hi1.ld hxj, ix_own hg, ldb gi hg, hb, bin_shl1 (kd := .i64) (show j < 62 by omega), hor, wrap_succ (show j < 1000000000 by omega)]
            exact ⟨c.length - (j + 1), by omega, j + 1, rfl, hltj, by rw [hst], rfl⟩
        · have hltjI : ¬ (j : Int) < (c.length : Int) := by omega
          obtain rfl : j = c.length := by omega
          have hsl := setOf_lt c d c.length
          have hltv : i < (xss.map (tabF rs sp)).length := by simpa using hlt
          have hidx : setOf c d c.length < (tabF rs sp c).length := by rw [tabF_len]; exact hsl
          have hval : (tabF rs sp c)[setOf c d c.length]? = some ((tabF rs sp c).getD (setOf c d c.length) 0) := by
            rw [List.getD_eq_getElem?_getD]
            obtain ⟨x, hx⟩ : ∃ x, (tabF rs sp c)[setOf c d c.length]? = some x := ⟨_, List.getElem?_eq_getElem hidx⟩
            rw [hx]; rfl
          have b1 := leftS_bound (sp := sp) (d := d) hw (xss.take i) fun x hx => by have := (ok x (List.mem_of_mem_take hx)).1; omega
          have b2 := tabF_getD (sp := sp) hw (show c.length ≤ 24 by omega) (setOf c d c.length)
          have hst : leftS rs sp d (xss.take (i + 1)) = leftS rs sp d (xss.take i) + (tabF rs sp c).getD (setOf c d c.length) 0 := by
            rw [take_succ' hx, leftS_append]; simp [leftS]
          have hsum : IntKind.i64.wrap (leftS rs sp d (xss.take i) + (tabF rs sp c).getD (setOf c d c.length) 0) = leftS rs sp d (xss.take (i + 1)) := by
            rw [hst]
            simp only [List.length_take] at b1
            unfold never at b1 b2
            exact wrap_in (by omega) (by omega)
          simp only [go_sem, ↓reduceIte, r111_7, r111_12, r111_13, tl, t0, t1, t5, t6, t8, t14, t15, t16, t21, t22, t23, hltjI, s.lvv, s.lv.ix hltv, hl2, hi2.ix hidx, hi2.ld hval, hsum, wrap_succ (show i < 1000000000 by omega)]
          exact ⟨xss.length - (i + 1), by omega, i + 1, rfl, hlt, rfl, rfl⟩
      · refine ⟨0, by omega, by omega, ?_⟩
        simp only [go_sem, ↓reduceIte, tl, t0, t1, t5, t14, t15, t16]
        simp [setOf]
    · have hltI : ¬ (i : Int) < (xss.length : Int) := by omega
      rw [List.take_of_length_le (by omega)] at t5
      simp only [go_sem, ↓reduceIte, r111_3, r111_14, tl, t0, t1, t5, t14, t15, t16, hltI]
  · refine ⟨0, by omega, by omega, ?_⟩
    simp only [go_sem, ↓reduceIte]
    simp [leftS]
def nextK (rs : List Arw) (d : Nat → Bool) (x : Nat) : Nat → Int
  | 0 => 0
  | y + 1 => if d y = true ∧ y ≠ x then nextK rs d x y + wt (y : Int) (x : Int) rs else nextK rs d x y
def hurt (rs : List Arw) (sp : Int) (d : Nat → Bool) (x y : Nat) : Prop := d y = true ∧ y ≠ x ∧ (y : Int) = sp ∧ 0 < wt (y : Int) (x : Int) rs
instance (rs : List Arw) (sp : Int) (d : Nat → Bool) (x y : Nat) : Decidable (hurt rs sp d x y) := by unfold hurt; infer_instance
def nextS (rs : List Arw) (sp : Int) (n : Nat) (d : Nat → Bool) (x : Nat) : Int := if ∃ y, y < n ∧ hurt rs sp d x y then never else nextK rs d x n
theorem nextK_bound {rs : List Arw} {d : Nat → Bool} {x : Nat} (hw : Wok rs) : ∀ k, 0 ≤ nextK rs d x k ∧ nextK rs d x k ≤ 1000 * k
  | 0 => by simp [nextK]
  | k + 1 => by
    have ih := nextK_bound (d := d) (x := x) hw k
    have := hw (k : Int) (x : Int)
    simp only [nextK]
    split <;> omega
theorem nextS_bound {rs : List Arw} {sp : Int} {n : Nat} {d : Nat → Bool} {x : Nat} (hw : Wok rs) (hn : n ≤ 24) : 0 ≤ nextS rs sp n d x ∧ nextS rs sp n d x ≤ never := by
  have := nextK_bound (d := d) (x := x) hw n
  unfold nextS never
  split <;> omega
theorem t112 : tblA 112 = some a112 := by kernel_rfl
theorem fn_nextS {h : H} {sb n ib x : Nat} {rs : List Arw} {xss : List (List Int)} {sp : Int} {cv vv : V} {d : Nat → Bool} (s : Srch h sb n rs xss sp cv vv) (hn : n ≤ 24) (hx : x < n) (hw : Wok rs) (gi : h.get ib = some (.cells (bools n d))) :
    WC tblA (.fn 112 [] []) [.p sb 0, .sl ib 0 n n none, .i .i64 (x : Int)] h fun u h' => h' = h ∧ u = .i .i64 (nextS rs sp n d x) := by
  refine (WC_in t112).2 ?_
  simp only [go_sem, ↓reduceIte, r112_0, r112_1, r112_2]
  refine W_while (fun k t h' => ∃ y, k = n - y ∧ y ≤ n ∧ t.length = 52 ∧ nth t 0 = .p sb 0 ∧ nth t 2 = .i .i64 (x : Int) ∧ nth t 7 = .i .i64 (nextK rs d x y) ∧ nth t 10 = .sl ib 0 n n none ∧ nth t 11 = .i .i64 (n : Int) ∧ nth t 12 = .i .i64 (y : Int) ∧ h = h' ∧ ∀ z, z < y → ¬ hurt rs sp d x z) ?_ n ?_
  · rintro k t _ ⟨y, rfl, hy, tl, t0, t2, t7, t10, t11, t12, rfl, hno⟩
    unfold b112_0
    by_cases hlt : y < n
    · have hltI : (y : Int) < (n : Int) := by omega
      have hgl := s.grid.ld (show y < 24 by omega) (show x < 24 by omega)
      have hkeep : ¬ hurt rs sp d x y → ∀ z, z < y + 1 → ¬ hurt rs sp d x z := by
        intro h z hz
        by_cases q : z = y
        · subst q; exact h
        · exact hno z (by omega)
      cases hd : d y
      · have hn1 : nextK rs d x (y + 1) = nextK rs d x y := by simp [nextK, hd]
        simp only [go_sem, ↓reduceIte, r112_3, r112_4, r112_5, r112_9, tl, t0, t2, t7, t10, t11, t12, hltI, ix_own hlt, ldb gi hlt, hd, wrap_succ (show y < 1000000000 by omega)]
        exact ⟨n - (y + 1), by omega, y + 1, rfl, hlt, by rw [hn1], rfl, hkeep fun h => by unfold hurt at h; rw [hd] at h; exact absurd h.1 (by simp)⟩
      · by_cases hyx : y = x
        · subst hyx
          have hn1 : nextK rs d y (y + 1) = nextK rs d y y := by simp [nextK]
          simp only [go_sem, ↓reduceIte, r112_3, r112_4, r112_5, r112_9, tl, t0, t2, t7, t10, t11, t12, hltI, ix_own hlt, ldb gi hlt, hd, wrap_succ (show y < 1000000000 by omega)]
          exact ⟨n - (y + 1), by omega, y + 1, rfl, hlt, by rw [hn1], rfl, hkeep fun h => h.2.1 rfl⟩
        · have hn1 : nextK rs d x (y + 1) = nextK rs d x y + wt (y : Int) (x : Int) rs := by simp [nextK, hyx, hd]
          have hb := nextK_bound (d := d) (x := x) hw y
          have hb2 := hw (y : Int) (x : Int)
          have hsum : IntKind.i64.wrap (nextK rs d x y + wt (y : Int) (x : Int) rs) = nextK rs d x (y + 1) := by
            rw [hn1]; exact wrap_in (by omega) (by omega)
          simp only [go_sem, ↓reduceIte, r112_3, r112_4, r112_5, r112_6, tl, t0, t2, t7, t10, t11, t12, hltI, ix_own hlt, ldb gi hlt, hd, nat_int_eq, hyx, ix24r (show y < 24 by omega), ixA_ok (esz := 1) (show x < 24 by omega), hgl, hsum]
          by_cases hsp : (y : Int) = sp
          · by_cases hpos : 0 < wt (y : Int) (x : Int) rs
            · have hh : hurt rs sp d x y := ⟨hd, hyx, hsp, hpos⟩
              simp only [go_sem, ↓reduceIte, r112_7, r112_8, tl, t0, t2, s.lsp, hsp, ix24r (show y < 24 by omega), ixA_ok (esz := 1) (show x < 24 by omega)]
              rw [← hsp]
              simp only [go_sem, ↓reduceIte, ix24r (show y < 24 by omega), ixA_ok (esz := 1) (show x < 24 by omega), hgl, hpos, tl]
              rw [nextS, if_pos ⟨y, hlt, by rw [hsp]; exact hh⟩]
              rfl
            · simp only [go_sem, ↓reduceIte, r112_7, tl, t0, t2, t10, t11, s.lsp, hsp]
              rw [← hsp]
              simp only [go_sem, ↓reduceIte, r112_9, tl, t0, t2, t10, t11, t12, ix24r (show y < 24 by omega), ixA_ok (esz := 1) (show x < 24 by omega), hgl, hpos, wrap_succ (show y < 1000000000 by omega)]
              exact ⟨n - (y + 1), by omega, y + 1, rfl, hlt, rfl, rfl, by rw [hsp]; exact hkeep fun h => hpos h.2.2.2⟩
          · simp only [go_sem, ↓reduceIte, r112_7, r112_9, tl, t0, t2, t10, t11, t12, s.lsp, hsp, wrap_succ (show y < 1000000000 by omega)]
            exact ⟨n - (y + 1), by omega, y + 1, rfl, hlt, rfl, rfl, hkeep fun h => hsp h.2.2.1⟩
    · have hltI : ¬ (y : Int) < (n : Int) := by omega
      obtain rfl : y = n := by omega
      simp only [go_sem, ↓reduceIte, r112_3, r112_10, tl, t0, t2, t7, t10, t11, t12, hltI]
      rw [nextS, if_neg]
      rintro ⟨z, hz, hh⟩
      exact hno z hz hh
  · refine ⟨0, by omega, by omega, ?_⟩
    simp only [go_sem, ↓reduceIte]
    simp [nextK]
end Go.Air
set_option maxRecDepth 100000
namespace Go.Air
open Go.Air.Try
def pickc (rs : List Arw) (sp : Int) (n : Nat) (xss : List (List Int)) (d : Nat → Bool) (rest : Int) (x : Nat) : Bool := d x && (decide (nextS rs sp n d x < never) && decide (nextS rs sp n d x + leftS rs sp (sput d x false) xss = rest))
def firstK (rs : List Arw) (sp : Int) (n : Nat) (xss : List (List Int)) : Nat → (Nat → Bool) → Int → List Int
  | 0, _, _ => []
  | k + 1, d, rest => match (List.range n).find? (pickc rs sp n xss d rest) with
    | none => firstK rs sp n xss k d rest
    | some x => (x : Int) :: firstK rs sp n xss k (sput d x false) (leftS rs sp (sput d x false) xss)
def allT (_ : Nat) : Bool := true
def firstS (rs : List Arw) (sp : Int) (n : Nat) (xss : List (List Int)) : List Int := firstK rs sp n xss n allT (leftS rs sp allT xss)
theorem bools_congr {n : Nat} {d d' : Nat → Bool} (h : ∀ j, j < n → d j = d' j) : bools n d = bools n d' := by
  unfold bools
  refine List.map_congr_left fun j hj => ?_
  rw [h j (List.mem_range.1 hj)]
theorem sput_back {d : Nat → Bool} {x : Nat} (h : d x = true) : sput (sput d x false) x true = d := by
  funext y
  simp only [sput]
  split
  · rename_i q; subst q; rw [h]
  · rfl
theorem sput_upto {i : Nat} : sput (upto i allT) i true = upto (i + 1) allT := upto_succ allT i
theorem t69 : tblA 69 = some a69 := by kernel_rfl
theorem fn_first {h : H} {sb n : Nat} {rs : List Arw} {xss : List (List Int)} {sp : Int} {cv vv : V} (s : Srch h sb n rs xss sp cv vv) (ok : Okc n xss) (hn : n ≤ 24) (hxl : xss.length ≤ 24) (hw : Wok rs) :
    WC tblA (.fn 69 [] []) [.p sb 0] h fun u h' => Ext h h' ∧ ∃ ov, u = .tup [ov, .i .i64 (leftS rs sp allT xss)] ∧ Own h 1 h' ov (firstS rs sp n xss).length (ints (firstS rs sp n xss)) := by
  refine (WC_in t69).2 ?_
  simp only [go_sem, ↓reduceIte, r69_0, r69_1, r69_2, s.ln, mkSl_ok (h := h) (c := [.b false]) (bytes := 1) (n := n) (by omega) (by omega), rep_one]
  have e1 : Ext h (h.new (.cells (List.replicate n (.b false)))) := (Ext.refl h).new _
  have g1 : (h.new (.cells (List.replicate n (.b false)))).get h.next = some (.cells (bools n (upto 0 allT))) := by
    rw [get_new_eq rfl]
    congr 2
    apply List.ext_getElem?
    intro j
    by_cases hj : j < n
    · rw [bools_get hj, List.getElem?_replicate, if_pos hj]; simp [upto]
    · rw [List.getElem?_eq_none (by rw [List.length_replicate]; omega), List.getElem?_eq_none (by rw [bools_len]; omega)]
  have n1 : (h.new (.cells (List.replicate n (.b false)))).next = h.next + 1 := by simp
  generalize h.new (.cells (List.replicate n (.b false))) = h1 at *
  refine W_while (fun k t h' => ∃ i, k = n - i ∧ i ≤ n ∧ t.length = 77 ∧ nth t 0 = .p sb 0 ∧ nth t 4 = .sl h.next 0 n n none ∧ nth t 18 = .i .i64 (n : Int) ∧ nth t 19 = .i .i64 (i : Int) ∧ Ext h h' ∧ h.next < h'.next ∧ h'.get h.next = some (.cells (bools n (upto i allT)))) ?_ n ?_
  · rintro k t h2 ⟨i, rfl, hi, tl, t0, t4, t18, t19, e2, n2, g2⟩
    unfold b69_0
    by_cases hlt : i < n
    · have hltI : (i : Int) < (n : Int) := by omega
      simp only [go_sem, ↓reduceIte, r69_3, r69_4, r69_5, r69_6, tl, t0, t4, t18, t19, hltI, ix_own hlt, stb g2 hlt, wrap_succ (show i < 1000000000 by omega)]
      refine ⟨n - (i + 1), by omega, i + 1, rfl, hlt, rfl, e2.put (Nat.le_refl _) _, by simpa using n2, ?_⟩
      rw [H.get_put, if_pos rfl, sput_upto]
    · have hltI : ¬ (i : Int) < (n : Int) := by omega
      obtain rfl : i = n := by omega
      have g2' : h2.get h.next = some (.cells (bools i allT)) := by rw [g2, bools_congr (d' := allT)]; intro j hj; simp [upto, hj]
      simp only [go_sem, ↓reduceIte, r69_3, r69_7, tl, t0, t4, t18, t19, hltI]
      refine (fn_left (s.ext e2) ok hn hxl hw g2').mono ?_
      rintro _ h3 ⟨hh, rfl⟩
      obtain rfl : h2 = h3 := hh.symm
      have s2 := s.ext e2
      simp only [go_sem, ↓reduceIte, r69_8, r69_9, r69_10, tl, t0, t4, s2.ln]
      generalize hlst : leftS rs sp allT xss = least
      refine W_while (fun k t h' => ∃ (j : Nat) (d : Nat → Bool) (rest : Int) (L : List Int) (w : V), k = i - j ∧ j ≤ i ∧ t.length = 77 ∧ nth t 0 = .p sb 0 ∧ nth t 4 = .sl h.next 0 i i none ∧ nth t 6 = .i .i64 least ∧ nth t 7 = w ∧ nth t 8 = .i .i64 rest ∧ nth t 33 = .i .i64 (i : Int) ∧ nth t 34 = .i .i64 (j : Int) ∧ Ext h h' ∧ h.next < h'.next ∧ h'.get h.next = some (.cells (bools i d)) ∧
          Own h 1 h' w L.length (ints L) ∧ (w = .sn ∨ h.next ≠ blkV w) ∧ L.length ≤ j ∧ firstS rs sp i xss = L ++ firstK rs sp i xss (i - j) d rest) ?_ i ?_
      · rintro k t h' ⟨j, d, rest, L, w, rfl, hj, tl, t0, t4, t6, t7, t8, t33, t34, e', n', g', o', hwn, hLj, hF⟩
        unfold b69_2
        have s' := s.ext e'
        by_cases hltj : j < i
        · have hltjI : (j : Int) < (i : Int) := by omega
          obtain ⟨m, hm⟩ : ∃ m, i - j = m + 1 := ⟨i - j - 1, by omega⟩
          rw [hm, firstK] at hF
          simp only [go_sem, ↓reduceIte, r69_11, r69_12, tl, t0, t4, t6, t7, t8, t33, t34, hltjI, s'.ln]
          refine W_while (fun k t h' => ∃ (x : Nat), k = i - x ∧ x ≤ i ∧ t.length = 77 ∧ nth t 0 = .p sb 0 ∧ nth t 4 = .sl h.next 0 i i none ∧ nth t 6 = .i .i64 least ∧ nth t 7 = w ∧ nth t 8 = .i .i64 rest ∧ nth t 33 = .i .i64 (i : Int) ∧ nth t 34 = .i .i64 (j : Int) ∧ nth t 39 = .i .i64 (i : Int) ∧ nth t 40 = .i .i64 (x : Int) ∧ Ext h h' ∧ h.next < h'.next ∧ h'.get h.next = some (.cells (bools i d)) ∧ Own h 1 h' w L.length (ints L) ∧ ∀ y, y < x → pickc rs sp i xss d rest y = false) ?_ i ?_
          · rintro k t h' ⟨x, rfl, hx, tl, t0, t4, t6, t7, t8, t33, t34, t39, t40, e', n', g', o', hno⟩
            unfold b69_1
            have s' := s.ext e'
            by_cases hltx : x < i
            · have hltxI : (x : Int) < (i : Int) := by omega
              have hkeep : pickc rs sp i xss d rest x = false → ∀ y, y < x + 1 → pickc rs sp i xss d rest y = false := by
                intro hp y hy
                by_cases q : y = x
                · subst q; exact hp
                · exact hno y (by omega)
              cases hd : d x
              · simp only [go_sem, ↓reduceIte, r69_13, r69_14, r69_15, r69_24, tl, t0, t4, t6, t7, t8, t33, t34, t39, t40, hltxI, ix_own hltx, ldb g' hltx, hd, wrap_succ (show x < 1000000000 by omega)]
                exact ⟨i - (x + 1), by omega, x + 1, rfl, hltx, rfl, e', n', g', o', hkeep (by simp [pickc, hd])⟩
              · simp only [go_sem, ↓reduceIte, r69_13, r69_14, r69_15, r69_16, tl, t0, t4, t6, t7, t8, t33, t34, t39, t40, hltxI, ix_own hltx, ldb g' hltx, hd]
                refine (fn_nextS s' hn hltx hw g').mono ?_
                rintro _ h4 ⟨hh, rfl⟩
                obtain rfl : h' = h4 := hh.symm
                by_cases hnv : never ≤ nextS rs sp i d x
                · rw [show (r69_17 : List O) = [⟨some 52, none, .mov (.t 10)⟩, ⟨some 53, none, .bin .geq (.t 52) (.c (.i .i64 never))⟩] from rfl]
                  simp only [go_sem, ↓reduceIte, r69_24, tl, t0, t4, t6, t7, t8, t33, t34, t39, t40, hnv, wrap_succ (show x < 1000000000 by omega)]
                  refine ⟨i - (x + 1), by omega, x + 1, rfl, hltx, rfl, e', n', g', o', hkeep ?_⟩
                  have : ¬ nextS rs sp i d x < never := by omega
                  simp [pickc, this]
                · have hlt2 : nextS rs sp i d x < never := by omega
                  rw [show (r69_17 : List O) = [⟨some 52, none, .mov (.t 10)⟩, ⟨some 53, none, .bin .geq (.t 52) (.c (.i .i64 never))⟩] from rfl]
                  simp only [go_sem, ↓reduceIte, r69_18, r69_19, tl, t0, t4, t6, t7, t8, t33, t34, t39, t40, hnv, ix_own hltx, stb g' hltx]
                  have e5 : Ext h (h'.put h.next (.cells (bools i (sput d x false)))) := e'.put (Nat.le_refl _) _
                  have g5 : (h'.put h.next (.cells (bools i (sput d x false)))).get h.next = some (.cells (bools i (sput d x false))) := by rw [H.get_put, if_pos rfl]
                  have n5 : h.next < (h'.put h.next (.cells (bools i (sput d x false)))).next := by simpa using n'
                  have o5 : Own h 1 (h'.put h.next (.cells (bools i (sput d x false)))) w L.length (ints L) := by
                    obtain ⟨hl, o | ⟨b, g, rfl, hv, q1, q2, q3⟩⟩ := o'
                    · exact ⟨hl, .inl o⟩
                    · refine ⟨hl, .inr ⟨b, g, rfl, hv, q1, by simpa using q2, ?_⟩⟩
                      rw [H.get_put, if_neg]
                      · exact q3
                      · rcases hwn with z | z
                        · cases z
                        · exact fun q => z q.symm
                  generalize h'.put h.next (.cells (bools i (sput d x false))) = h5 at *
                  have s5 := s.ext e5
                  refine (fn_left s5 ok hn hxl hw g5).mono ?_
                  rintro _ h6 ⟨hh, rfl⟩
                  obtain rfl : h5 = h6 := hh.symm
                  have b1 := nextS_bound (sp := sp) (d := d) (x := x) hw hn
                  have b2 := leftS_bound (sp := sp) (d := sput d x false) hw xss fun c hc => by have := (ok c hc).1; omega
                  have hsum : IntKind.i64.wrap (nextS rs sp i d x + leftS rs sp (sput d x false) xss) = nextS rs sp i d x + leftS rs sp (sput d x false) xss := by
                    unfold never at b1 b2
                    exact wrap_in (by omega) (by omega)
                  by_cases heq : nextS rs sp i d x + leftS rs sp (sput d x false) xss = rest
                  · have hpick : pickc rs sp i xss d rest x = true := by simp [pickc, hd, hlt2, heq]
                    rw [find_range hltx hpick hno] at hF
                    obtain ⟨w', h7, r1, r2, r3, r4, r5, r6⟩ := app_int' (x : Int) o5 e5 (by omega)
                    have g7 : h7.get h.next = some (.cells (bools i (sput d x false))) := (r5 h.next n5 hwn).trans g5
                    simp only [go_sem, ↓reduceIte, r69_20, tl, t0, t4, t6, t7, t8, t33, t34, t39, t40, hsum]
                    simp only [go_sem, ↓reduceIte, r69_21, r69_22, r69_25, tl, t0, t4, t6, t7, t8, t33, t34, t39, t40, heq, r1, wrap_succ (show j < 1000000000 by omega)]
                    refine ⟨i - (j + 1), by omega, j + 1, sput d x false, leftS rs sp (sput d x false) xss, L ++ [(x : Int)], w', rfl, hltj, rfl, rfl, rfl, r2, by omega, g7, by rw [List.length_append]; exact r3, .inr (by omega), by simp; omega, ?_⟩
                    rw [hF, show i - (j + 1) = m by omega]
                    simp
                  · have hback := sput_back hd
                    have hst := stb (v := true) g5 hltx
                    rw [hback] at hst
                    have o7 : Own h 1 (h5.put h.next (.cells (bools i d))) w L.length (ints L) := by
                      obtain ⟨hl, o | ⟨b, g, rfl, hv, q1, q2, q3⟩⟩ := o5
                      · exact ⟨hl, .inl o⟩
                      · refine ⟨hl, .inr ⟨b, g, rfl, hv, q1, by simpa using q2, ?_⟩⟩
                        rw [H.get_put, if_neg]
                        · exact q3
                        · rcases hwn with z | z
                          · cases z
                          · exact fun q => z q.symm
                    simp only [go_sem, ↓reduceIte, r69_20, tl, t0, t4, t6, t7, t8, t33, t34, t39, t40, hsum]
                    simp only [go_sem, ↓reduceIte, r69_23, r69_24, tl, t0, t4, t6, t7, t8, t33, t34, t39, t40, heq, ix_own hltx, hst, wrap_succ (show x < 1000000000 by omega)]
                    exact ⟨i - (x + 1), by omega, x + 1, rfl, hltx, rfl, e5.put (Nat.le_refl _) _, by simpa using n5, by rw [H.get_put, if_pos rfl], o7, hkeep (by simp [pickc, heq])⟩
            · have hltxI : ¬ (x : Int) < (i : Int) := by omega
              obtain rfl : x = i := by omega
              rw [find_range_none hno] at hF
              simp only [go_sem, ↓reduceIte, r69_13, r69_25, tl, t0, t4, t6, t7, t8, t33, t34, t39, t40, hltxI, wrap_succ (show j < 1000000000 by omega)]
              refine ⟨x - (j + 1), by omega, j + 1, d, rest, L, w, rfl, hltj, rfl, rfl, rfl, e', n', g', o', hwn, by omega, ?_⟩
              rw [hF, show x - (j + 1) = m by omega]
          · refine ⟨0, by omega, by omega, ?_⟩
            simp only [go_sem, ↓reduceIte, tl, t0, t4, t6, t7, t8, t33, t34]
            exact ⟨e', n', g', o', fun y hy => by omega⟩
        · have hltjI : ¬ (j : Int) < (i : Int) := by omega
          rw [show i - j = 0 by omega, firstK, List.append_nil] at hF
          simp only [go_sem, ↓reduceIte, r69_11, r69_26, tl, t0, t4, t6, t7, t8, t33, t34, hltjI]
          rw [hF]
          exact ⟨e', w, rfl, o'⟩
      · refine ⟨0, allT, least, [], .sn, by omega, by omega, ?_⟩
        simp only [go_sem, ↓reduceIte, tl, t0, t4]
        refine ⟨e2, n2, g2', .nil, .inl trivial, Nat.le_refl _, ?_⟩
        rw [firstS, hlst, List.nil_append, Nat.sub_zero]
  · refine ⟨0, by omega, by omega, ?_⟩
    simp only [go_sem, ↓reduceIte]
    exact ⟨e1, by omega, g1⟩
end Go.Air
set_option maxRecDepth 100000
namespace Go.Air
open Go.Air.Try
def RowsO (h0 h : H) (w : V) (xss : List (List Int)) : Prop := ∃ cs, Own h0 1 h w xss.length cs ∧ ∀ (j : Nat) (xs : List Int), xss[j]? = some xs → ∃ c, cs[j]? = some c ∧ Own h0 1 h c xs.length (ints xs) ∧ (w = .sn ∨ c = .sn ∨ blkV c ≠ blkV w)
theorem RowsO.nil {h0 h : H} : RowsO h0 h .sn [] := ⟨[], .nil, fun j xs hj => by simp at hj⟩
theorem RowsO.ll {h0 h : H} {w : V} {xss : List (List Int)} (r : RowsO h0 h w xss) : LL h w xss := by
  obtain ⟨cs, o, hc⟩ := r
  refine ⟨cs, by simpa using o.sl, fun j xs hj => ?_⟩
  obtain ⟨c, q1, q2, _⟩ := hc j xs hj
  exact ⟨c, q1, q2.ints⟩
theorem RowsO.mono {h0 h1 h : H} {w : V} {xss : List (List Int)} (r : RowsO h1 h w xss) (hn : h0.next ≤ h1.next) : RowsO h0 h w xss := by
  obtain ⟨cs, o, hc⟩ := r
  refine ⟨cs, o.mono hn, fun j xs hj => ?_⟩
  obtain ⟨c, q1, q2, q3⟩ := hc j xs hj
  exact ⟨c, q1, q2.mono hn, q3⟩
theorem RowsO.keepX {X : Nat → Prop} {h0 h h' : H} {w : V} {xss : List (List Int)} (r : RowsO h0 h w xss) (e : ExtX X h h') (hX : ∀ b, X b → b < h0.next) : RowsO h0 h' w xss := by
  obtain ⟨cs, o, hc⟩ := r
  refine ⟨cs, o.keepX e hX, fun j xs hj => ?_⟩
  obtain ⟨c, q1, q2, q3⟩ := hc j xs hj
  exact ⟨c, q1, q2.keepX e hX, q3⟩
theorem RowsO.ext {h0 h h' : H} {w : V} {xss : List (List Int)} (r : RowsO h0 h w xss) (e : Ext h h') : RowsO h0 h' w xss := r.keepX (X := fun _ => False) (.of e) (fun _ hb => hb.elim)
theorem Own.keepB {esz n : Nat} {h0 h h' : H} {v w : V} {cs : List V} (o : Own h0 esz h v n cs) (hn : h.next ≤ h'.next) (k : ∀ b, b < h.next → (w = .sn ∨ b ≠ blkV w) → h'.get b = h.get b) (hv : w = .sn ∨ v = .sn ∨ blkV v ≠ blkV w) : Own h0 esz h' v n cs := by
  obtain ⟨hl, o | ⟨b, g, rfl, hg, h1, h2, hb⟩⟩ := o
  · exact ⟨hl, .inl o⟩
  · refine ⟨hl, .inr ⟨b, g, rfl, hg, h1, by omega, ?_⟩⟩
    rw [k b h2]
    · exact hb
    · rcases hv with z | z | z
      · exact .inl z
      · cases z
      · exact .inr z
theorem Own.wlt' {h0 h : H} {v : V} {n esz : Nat} {cs : List V} (o : Own h0 esz h v n cs) : v = .sn ∨ (h0.next ≤ blkV v ∧ blkV v < h.next) := by
  obtain ⟨hl, ⟨_, rfl⟩ | ⟨b, g, rfl, hg, h1, h2, hb⟩⟩ := o
  · exact .inl rfl
  · exact .inr ⟨h1, h2⟩
theorem RowsO.step {h0 h g : H} {w w' u : V} {xss : List (List Int)} {xs : List Int} {cs : List V} (hc : ∀ (j : Nat) (xs : List Int), xss[j]? = some xs → ∃ c, cs[j]? = some c ∧ Own h0 1 h c xs.length (ints xs) ∧ (w = .sn ∨ c = .sn ∨ blkV c ≠ blkV w))
    (hl : cs.length = xss.length) (iu : Own h0 1 h u xs.length (ints xs)) (u3 : w = .sn ∨ u = .sn ∨ blkV u ≠ blkV w)
    (o : Own h0 1 g w' (xss.length + 1) (cs ++ [u])) (n : h.next < g.next) (k : ∀ b, b < h.next → (w = .sn ∨ b ≠ blkV w) → g.get b = h.get b) (hb : h.next < blkV w') : RowsO h0 g w' (xss ++ [xs]) := by
  refine ⟨cs ++ [u], by simpa using o, fun j ys hj => ?_⟩
  by_cases hjl : j < xss.length
  · rw [List.getElem?_append_left hjl] at hj
    obtain ⟨c, q1, q2, q3⟩ := hc j ys hj
    refine ⟨c, by rw [List.getElem?_append_left (by omega)]; exact q1, q2.keepB (Nat.le_of_lt n) k q3, ?_⟩
    rcases q2.wlt' with z | z
    · exact .inr (.inl z)
    · exact .inr (.inr (by omega))
  · have hlt := (List.getElem?_eq_some_iff.1 hj).1
    simp at hlt
    obtain rfl : j = xss.length := by omega
    rw [List.getElem?_append_right (by omega)] at hj
    simp at hj
    subst hj
    refine ⟨u, by rw [List.getElem?_append_right (by omega)]; simp [hl], iu.keepB (Nat.le_of_lt n) k u3, ?_⟩
    rcases iu.wlt' with z | z
    · exact .inr (.inl z)
    · exact .inr (.inr (by omega))
def Z580 : List V := List.replicate 577 (.i .i64 0) ++ [.sn, .sn] ++ [.i .i64 0]
def fillS (x y z u : V) : Option (List V) := fill [x, y, z, u] Z580 [(0, 576, .t 0), (576, 1, .t 1), (577, 1, .t 2), (579, 1, .t 3)]
@[go_sem] theorem fill_search {t : List V} {x y z u : X} : fill t (List.replicate 577 (.i .i64 0) ++ [.sn, .sn] ++ [.i .i64 0]) [(0, 576, x), (576, 1, y), (577, 1, z), (579, 1, u)] = fillS (x.ev t) (y.ev t) (z.ev t) (u.ev t) := rfl
theorem fillS_eq {g : List V} {a b c : V} (hg : g.length = 576) (ha : a.cells = [a]) (hb : b.cells = [b]) (hc : c.cells = [c]) : fillS (.agg g) a b c = some (g ++ [a, b, .sn, c]) := by
  have hZ : Z580 = List.replicate 576 (.i .i64 0) ++ [.i .i64 0, .sn, .sn, .i .i64 0] := by
    unfold Z580
    rw [show 577 = 576 + 1 by rfl, List.replicate_succ']
    simp only [List.append_assoc]; rfl
  have l0 : lay Z580 0 g = some (g ++ [.i .i64 0, .sn, .sn, .i .i64 0]) := by
    rw [hZ]
    refine lay_eq.2 ⟨by simp [hg], ?_⟩
    simp [hg]
  have l1 : lay (g ++ [.i .i64 0, .sn, .sn, .i .i64 0]) 576 [a] = some (g ++ [a, .sn, .sn, .i .i64 0]) := by
    refine lay_eq.2 ⟨by simp [hg], ?_⟩
    rw [← hg, List.take_left, show g.length + [a].length = (g ++ [V.i .i64 0]).length by simp, show g ++ [V.i .i64 0, .sn, .sn, .i .i64 0] = (g ++ [V.i .i64 0]) ++ [.sn, .sn, .i .i64 0] by simp, List.drop_left]
    simp
  have l2 : lay (g ++ [a, .sn, .sn, .i .i64 0]) 577 [b] = some (g ++ [a, b, .sn, .i .i64 0]) := by
    refine lay_eq.2 ⟨by simp [hg], ?_⟩
    have h577 : 577 = (g ++ [a]).length := by simp [hg]
    rw [show g ++ [a, .sn, .sn, V.i .i64 0] = (g ++ [a]) ++ [.sn, .sn, .i .i64 0] by simp, h577, List.take_left, show (g ++ [a]).length + [b].length = ((g ++ [a]) ++ [V.sn]).length by simp, show (g ++ [a]) ++ [.sn, .sn, V.i .i64 0] = ((g ++ [a]) ++ [V.sn]) ++ [.sn, .i .i64 0] by simp, List.drop_left]
    simp
  have l3 : lay (g ++ [a, b, .sn, .i .i64 0]) 579 [c] = some (g ++ [a, b, .sn, c]) := by
    refine lay_eq.2 ⟨by simp [hg], ?_⟩
    have h579 : 579 = (g ++ [a, b, .sn]).length := by simp [hg]
    rw [show g ++ [a, b, .sn, V.i .i64 0] = (g ++ [a, b, .sn]) ++ [.i .i64 0] by simp, h579, List.take_left, List.drop_of_length_le (by simp)]
    simp
  have s0 : Nat.beq g.length 576 = true := by rw [hg]; rfl
  simp only [fillS, fill, ev_t, nth_0, nth_1, nth_2, nth_3, agg_cells, s0, l0, ha, hb, hc, l1, l2, l3, if_true, List.length_cons, List.length_nil, Nat.zero_add, beq_self']
theorem st_any0 {h : H} {b k : Nat} {cs : List V} {x : V} (hg : h.get b = some (.cells cs)) (h1 : x.cells = [x]) (h2 : x.oneCell = true) (hk : k < cs.length) : stV h 1 (.p b k) x = some (h.put b (.cells (cs.set k x))) := by
  have := st_any (k := k) hg h1 h2 hk
  rwa [show 0 + k * 1 = k by omega] at this
theorem LL.one {h : H} {v : V} {xss : List (List Int)} (s : LL h v xss) : v.cells = [v] ∧ v.oneCell = true := by
  obtain ⟨cs, q, _⟩ := s
  exact arg_cells q
def s68_5a : List O := [⟨some 24, none, .mov (.t 7)⟩, ⟨some 25, none, .mov (.t 7)⟩, ⟨some 26, none, .nilck (.t 25)⟩, ⟨some 27, none, .fld 578 (.t 26)⟩, ⟨some 28, none, .ld (.t 27)⟩, ⟨some 29, none, .mov (.t 7)⟩,
  ⟨some 30, none, .nilck (.t 29)⟩, ⟨some 31, none, .fld 0 (.t 30)⟩, ⟨some 32, none, .mov (.t 9)⟩, ⟨some 33, none, .mov (.t 2)⟩, ⟨some 34, none, .call (.f 110) [(.t 31), (.t 32), (.t 33)]⟩]
def s68_5b : List O := [⟨some 35, none, .buildSl [.sn] 1 [(0, 1, (.t 34))]⟩, ⟨some 36, none, .app 1 24 (.t 28) (.t 35)⟩, ⟨some 37, none, .nilck (.t 24)⟩, ⟨some 38, none, .fld 578 (.t 37)⟩, ⟨none, none, .st 1 (.t 38) (.t 36)⟩]
theorem r68_5_eq : r68_5 = s68_5a ++ s68_5b := rfl
def srchC (rs : List Arw) (n : Nat) (cv w : V) (sp : Int) : List V := ints (gridL rs) ++ [.i .i64 (n : Int), cv, w, .i .i64 sp]
theorem srchC_len {rs : List Arw} {n : Nat} {cv w : V} {sp : Int} : (srchC rs n cv w sp).length = 580 := by simp [srchC, ints_len, gridL_len]
theorem srchC_set {rs : List Arw} {n : Nat} {cv w w' : V} {sp : Int} : (srchC rs n cv w sp).set 578 w' = srchC rs n cv w' sp := by
  unfold srchC
  rw [List.set_append_right _ _ (by rw [ints_len, gridL_len]; omega), ints_len, gridL_len]
  rfl
theorem srchC_at {rs : List Arw} {n : Nat} {cv w : V} {sp : Int} {k : Nat} {x : V} (hx : ([.i .i64 (n : Int), cv, w, .i .i64 sp] : List V)[k]? = some x) : (srchC rs n cv w sp)[576 + k]? = some x := by
  unfold srchC
  rw [List.getElem?_append_right (by rw [ints_len, gridL_len]; omega), ints_len, gridL_len, Nat.add_sub_cancel_left]
  exact hx
theorem srchC_grid {h : H} {sb n : Nat} {rs : List Arw} {cv w : V} {sp : Int} (hb : sb < h.next) (g : h.get sb = some (.cells (srchC rs n cv w sp))) : Grid h sb rs := by
  refine ⟨hb, _, g, fun a b ha hb => ?_⟩
  unfold srchC
  rw [List.getElem?_append_left (by rw [ints_len, gridL_len]; omega)]
  exact ints_at (by rw [show 0 + a * 24 + b * 1 = a * 24 + b by omega]; exact gridL_get ha hb)
theorem t68 : tblA 68 = some a68 := by kernel_rfl
theorem fn_begin {h : H} {n : Nat} {v cv : V} {rs : List Arw} {xss : List (List Int)} {sp : Int} (hr : Arrs h v rs) (hrn : rs.length ≤ 1000000) (gr : GoodR (n : Int) rs) (hn : n ≤ 24) (hc : LL h cv xss) (ok : Okc n xss) (hxl : xss.length ≤ 24) :
    WC tblA (.fn 68 [] []) [.agg [.i .i64 (n : Int), v], cv, .i .i64 sp] h fun u h' => Ext h h' ∧ ∃ sb vv, u = .p sb 0 ∧ h.next ≤ sb ∧ Srch h' sb n rs xss sp cv vv ∧ RowsO h h' vv (xss.map (tabF rs sp)) := by
  refine (WC_in t68).2 ?_
  have hw : Wok rs := wok_of gr.1
  obtain ⟨e0, g0⟩ := rel_blk h (n : Int) v
  simp only [go_sem, ↓reduceIte, r68_0]
  have hr0 := hr.ext e0
  have n0 : (h.new (.cells [.i .i64 (n : Int), v])).next = h.next + 1 := by simp
  generalize hh : h.new (.cells [.i .i64 (n : Int), v]) = h0 at *
  have l0 : ldnV h0 2 (.p h.next 0) = some (.agg [.i .i64 (n : Int), v]) := blk_ldn g0 rfl
  apply W_pure (by simp [r68_1])
  simp only [go_sem, ↓reduceIte, r68_1, l0]
  refine (fn_weigh (h := h0.bare) (Sl.bare hr0) hrn gr (by omega)).mono ?_
  rintro _ h1 ⟨e1, rfl⟩
  have hold := e1.old
  replace e1 := e1.back
  simp only [go_sem, ↓reduceIte, hold]
  generalize h0.back h1 = h2 at *
  have l1 : ldV h2 (.p h.next 0) = some (.i .i64 (n : Int)) := blk_ld (e1.get (by omega) g0) rfl
  have hcone := hc.one
  have hfs := fillS_eq (g := ints (gridL rs)) (a := .i .i64 (n : Int)) (b := cv) (c := .i .i64 sp) (by rw [ints_len, gridL_len]) rfl hcone.1 rfl
  simp only [go_sem, ↓reduceIte, l1, hfs]
  have eB : Ext h (h2.new (.cells (srchC rs n cv .sn sp))) := (e0.trans e1).new _
  have gB : (h2.new (.cells (srchC rs n cv .sn sp))).get h2.next = some (.cells (srchC rs n cv .sn sp)) := get_new_eq rfl
  have nB : (h2.new (.cells (srchC rs n cv .sn sp))).next = h2.next + 1 := by simp
  have hsb : h.next ≤ h2.next := (e0.trans e1).nx
  rw [show ints (gridL rs) ++ [.i .i64 (n : Int), cv, .sn, .i .i64 sp] = srchC rs n cv .sn sp from rfl]
  generalize h2.next = sb at *
  generalize h2.new (.cells (srchC rs n cv .sn sp)) = hB at *
  have hcB := hc.ext eB
  have hLs : ∀ (h' : H) (w : V), ExtX (· = sb) hB h' → LL h' cv xss := by
    intro h' w x
    obtain ⟨cs, s1, s2⟩ := hc
    have kX : ∀ {esz n : Nat} {u : V} {ds : List V}, Sl esz h u n ds → Sl esz h' u n ds := by
      intro esz n u ds q
      have q' := q.ext eB
      refine q'.keepX x ?_
      rcases q with ⟨_, _, z | z⟩ | ⟨b, off, cap, g, bl, rfl, hb, _⟩
      · exact .inl z
      · exact .inr (.inl z)
      · exact .inr (.inr (show ¬ b = sb by omega))
    exact ⟨cs, kX s1, fun j xs hj => let ⟨c, q1, q2⟩ := s2 j xs hj; ⟨c, q1, kX q2⟩⟩
  simp only [go_sem, ↓reduceIte, r68_2, hcB.len]
  refine W_while (fun k t h' => ∃ (i : Nat) (w : V), k = xss.length - i ∧ i ≤ xss.length ∧ t.length = 41 ∧ nth t 2 = .i .i64 sp ∧ nth t 7 = .p sb 0 ∧ nth t 18 = cv ∧ nth t 19 = .i .i64 (xss.length : Int) ∧ nth t 20 = .i .i64 (i : Int) ∧ ExtX (· = sb) hB h' ∧ h'.get sb = some (.cells (srchC rs n cv w sp)) ∧ RowsO hB h' w ((xss.take i).map (tabF rs sp))) ?_ xss.length ?_
  · rintro k t h' ⟨i, w, rfl, hi, tl, t2, t7, t18, t19, t20, x', g', r'⟩
    unfold b68_0
    have hc' := hLs h' w x'
    have nx' := x'.nx
    by_cases hlt : i < xss.length
    · have hltI : (i : Int) < (xss.length : Int) := by omega
      obtain ⟨c, hx⟩ : ∃ c, xss[i]? = some c := ⟨_, List.getElem?_eq_getElem hlt⟩
      obtain ⟨hc10, hcd, _⟩ := ok c (List.mem_of_getElem? hx)
      have hgst := ok.gst hn (List.mem_of_getElem? hx)
      obtain ⟨u, hl, hi1⟩ := hc'.ld hx
      simp only [go_sem, ↓reduceIte, r68_3, r68_4, tl, t2, t7, t18, t19, t20, hltI, hc'.ix hlt, hl]
      rw [r68_5_eq]
      apply W_crit (by simp [s68_5a])
      have lw : ldV h' (.p sb 578) = some w := blk_ld g' (srchC_at (k := 2) rfl)
      simp only [go_sem, ↓reduceIte, s68_5a, tl, t2, t7, t18, t19, t20, lw]
      refine (fn_table (h := h'.bare) (show Grid h'.bare sb rs from srchC_grid (h := h') (by omega) g') (Sl.bare hi1) rfl hc10 hgst hw).mono ?_
      rintro tv h3 ⟨e3, o3⟩
      have hold3 := e3.old
      replace e3 := e3.back
      have o3' : Own h' 1 (h'.back h3) tv (tabF rs sp c).length (ints (tabF rs sp c)) := by rw [tabF_len]; exact o3
      simp only [go_sem, ↓reduceIte, hold3, tl]
      generalize h'.back h3 = h4 at *
      have n4 := e3.nx
      have r4 := r'.ext e3
      have hone := o3'.one
      obtain ⟨cs, o, hcs⟩ := r4
      have rT : Own (trunc hB.next h4) 1 h4 w ((xss.take i).map (tabF rs sp)).length cs := o
      have hp := o3'.pos (by rw [tabF_len]; exact Nat.two_pow_pos _)
      obtain ⟨w', hb, g4, q0, q1, q2, q3, q4, q5, q6⟩ := app_refB (u := tv) rT (trunc_ext (by omega)) hone.2 (by simp; omega)
      have hwl : w = .sn ∨ blkV w < h'.next := by
        obtain ⟨cs', o', _⟩ := r'
        exact o'.wlt
      have rows' : RowsO hB g4 w' ((xss.take i).map (tabF rs sp) ++ [tabF rs sp c]) := RowsO.step hcs (by simpa using o.len) (o3'.mono (by omega)) (by
        rcases hwl with z | z
        · exact .inl z
        · exact .inr (.inr (by omega))) q3 q4 q5 q6
      have x4 : ExtX (· = sb) hB g4 := (x'.trans (.of e3)).tr q2
      have gsb : g4.get sb = some (.cells (srchC rs n cv w sp)) := by
        rw [q2.same sb (show sb < hB.next by omega)]
        exact e3.get (by omega) g'
      have hw1 : w'.cells = [w'] ∧ w'.oneCell = true := q3.one
      have hst := st_any0 (h := g4.bare) (k := 578) (x := w') gsb hw1.1 hw1.2 (by rw [srchC_len]; omega)
      rw [srchC_set] at hst
      have hbk := back_put (h := g4) (b := sb) (by have := x4.nx; omega)
      simp only [go_sem, ↓reduceIte, s68_5b, r68_6, tl, t2, t7, t18, t19, t20, fill1_of hone.1, q0, q1, hst, hbk, wrap_succ (show i < 1000000000 by omega)]
      refine ⟨xss.length - (i + 1), by omega, i + 1, w', rfl, hlt, rfl, x4.put (.inr rfl) _, by rw [H.get_put, if_pos rfl], ?_⟩
      rw [take_succ' hx, List.map_append]
      exact rows'.keepX (X := (· = sb)) ((ExtX.refl (· = sb) g4).put (.inr rfl) _) (fun b hb => by omega)
    · have hltI : ¬ (i : Int) < (xss.length : Int) := by omega
      simp only [go_sem, ↓reduceIte, r68_3, r68_7, tl, t2, t7, t18, t19, t20, hltI]
      rw [List.take_of_length_le (by omega)] at r'
      exact ⟨x'.ext eB (fun b hb => by omega), sb, w, rfl, hsb, ⟨by omega, g', hc', r'.ll⟩, r'.mono eB.nx⟩
  · refine ⟨0, .sn, by omega, by omega, ?_⟩
    simp only [go_sem, ↓reduceIte, List.take_zero, List.map_nil]
    exact ⟨.refl _ _, gB, .nil⟩
end Go.Air
set_option maxRecDepth 100000
namespace Go.Air
open Go.Air.Try
theorem setL_nodup (n : Nat) (s : Nat → Bool) : (setL n s).Nodup := by
  unfold setL
  refine List.Pairwise.map _ ?_ (List.Pairwise.filter _ List.nodup_range)
  intro a b h
  omega
theorem comps_mem {R : Nat → Nat → Bool} {n : Nat} {c : List Int} : ∀ {k : Nat} {d : Nat → Bool}, c ∈ comps R n k d → ∃ a, a < n ∧ freeG R n d a = true ∧ c = setL n (mate R n a) ∨ ∃ a d', a < n ∧ freeG R n d' a = true ∧ c = setL n (mate R n a)
  | 0, d, h => by simp [comps] at h
  | k + 1, d, h => by
    rw [comps] at h
    split at h
    · simp at h
    · rename_i a hf
      obtain ⟨ha, hfr⟩ := free_find hf
      rcases List.mem_cons.1 h with rfl | h
      · exact ⟨a, .inl ⟨ha, hfr, rfl⟩⟩
      · obtain ⟨b, q⟩ := comps_mem h
        refine ⟨b, .inr ?_⟩
        rcases q with ⟨q1, q2, q3⟩ | q
        · exact ⟨b, _, q1, q2, q3⟩
        · exact q
theorem circ_mem {N : Int} {rs : List Arw} {c : List Int} (h : c ∈ circR N rs) : ∃ n a : Nat, N = (n : Int) ∧ n ≤ 24 ∧ a < n ∧ c = setL n (mate (rch (eA rs)) n a) ∧ 2 ≤ c.length := by
  obtain ⟨h1, h2⟩ := List.mem_filter.1 h
  unfold compsR at h1
  split at h1
  · rename_i hc
    obtain ⟨n, rfl, hn, _⟩ := check_ok hc
    obtain ⟨a, q⟩ := comps_mem h1
    simp only [Int.toNat_natCast] at q
    rcases q with ⟨q1, _, q3⟩ | ⟨b, _, q1, _, q3⟩
    · exact ⟨n, a, rfl, hn, q1, q3, by simpa [big] using h2⟩
    · exact ⟨n, b, rfl, hn, q1, q3, by simpa [big] using h2⟩
  · simp at h1
theorem circ_ok {n : Nat} {rs : List Arw} (h : circE (circR (n : Int) rs) = 0) : Okc n (circR (n : Int) rs) := by
  intro c hc
  obtain ⟨n', a, hn', _, _, rfl, _⟩ := circ_mem hc
  obtain rfl : n' = n := by omega
  refine ⟨?_, setL_nodup _ _, fun y hy => ?_⟩
  · unfold circE at h
    split at h
    · omega
    · rename_i hno
      have : ¬ 10 < (setL n' (mate (rch (eA rs)) n' a)).length := fun q => hno ⟨_, hc, q⟩
      omega
  · obtain ⟨j, rfl, hj, _⟩ := setL_mem.1 hy
    exact ⟨j, rfl, hj⟩
def TBx (hA hv h : H) (v : V) (tb : List (List Int × List Int)) : Prop := ∃ cs, Own hv 2 h v tb.length cs ∧ ∀ (j : Nat) (g vals : List Int), tb[j]? = some (g, vals) → ∃ c1 c2, cs[j * 2]? = some c1 ∧ cs[j * 2 + 1]? = some c2 ∧
  Own hA 1 h c1 g.length (ints g) ∧ Own hA 1 h c2 vals.length (ints vals) ∧ (v = .sn ∨ c1 = .sn ∨ blkV c1 ≠ blkV v) ∧ (v = .sn ∨ c2 = .sn ∨ blkV c2 ≠ blkV v)
def TBo (h0 h : H) (v : V) (tb : List (List Int × List Int)) : Prop := TBx h0 h0 h v tb
def TB (h : H) (v : V) (tb : List (List Int × List Int)) : Prop := ∃ cs, Sl 2 h v tb.length cs ∧ ∀ (j : Nat) (g vals : List Int), tb[j]? = some (g, vals) → ∃ c1 c2, cs[j * 2]? = some c1 ∧ cs[j * 2 + 1]? = some c2 ∧ Ints h c1 g ∧ Ints h c2 vals
section
variable {hA hv h h' : H} {v : V} {tb : List (List Int × List Int)}
theorem TBx.nil : TBx hA hv h .sn [] := ⟨[], .nil, fun j g vals hj => by simp at hj⟩
theorem TBx.rd (r : TBx hA hv h v tb) : TB h v tb := by
  obtain ⟨cs, o, hc⟩ := r
  refine ⟨cs, o.sl, fun j g vals hj => ?_⟩
  obtain ⟨c1, c2, q1, q2, q3, q4, _⟩ := hc j g vals hj
  exact ⟨c1, c2, q1, q2, q3.ints, q4.ints⟩
theorem TB.ext (r : TB h v tb) (e : Ext h h') : TB h' v tb := by
  obtain ⟨cs, s, hc⟩ := r
  refine ⟨cs, s.ext e, fun j g vals hj => ?_⟩
  obtain ⟨c1, c2, q1, q2, q3, q4⟩ := hc j g vals hj
  exact ⟨c1, c2, q1, q2, q3.ext e, q4.ext e⟩
theorem TBx.ext (r : TBx hA hv h v tb) (e : Ext h h') : TBx hA hv h' v tb := by
  obtain ⟨cs, o, hc⟩ := r
  refine ⟨cs, o.ext e, fun j g vals hj => ?_⟩
  obtain ⟨c1, c2, q1, q2, q3, q4, q5⟩ := hc j g vals hj
  exact ⟨c1, c2, q1, q2, q3.ext e, q4.ext e, q5⟩
theorem TBx.mono {hA' hv' : H} (r : TBx hA hv h v tb) (h1 : hA'.next ≤ hA.next) (h2 : hv'.next ≤ hv.next) : TBx hA' hv' h v tb := by
  obtain ⟨cs, o, hc⟩ := r
  refine ⟨cs, o.mono h2, fun j g vals hj => ?_⟩
  obtain ⟨c1, c2, q1, q2, q3, q4, q5⟩ := hc j g vals hj
  exact ⟨c1, c2, q1, q2, q3.mono h1, q4.mono h1, q5⟩
theorem Own.keepN {esz n p : Nat} {h0 h h' : H} {v : V} {cs : List V} (o : Own h0 esz h v n cs) (x : ExtX (· = p) h h') (hv : v = .sn ∨ blkV v ≠ p) : Own h0 esz h' v n cs := by
  obtain ⟨hl, o | ⟨b, g, rfl, hg, h1, h2, hb⟩⟩ := o
  · exact ⟨hl, .inl o⟩
  · refine ⟨hl, .inr ⟨b, g, rfl, hg, h1, Nat.lt_of_lt_of_le h2 x.nx, ?_⟩⟩
    rw [x.same b h2]
    · exact hb
    · rcases hv with z | z
      · cases z
      · exact z
theorem app_twoB {h0 h : H} {w u1 u2 : V} {cs : List V} {n : Nat} (o : Own h0 2 h w n cs) (e : Ext h0 h) (hu1 : u1.oneCell = true) (hu2 : u2.oneCell = true) (hn : n ≤ 1000000) :
    ∃ w' hb g, appendV 2 48 (h.new (.cells [u1, u2])).bare w (.sl h.next 0 1 1 none) = .ok w' hb ∧ (h.new (.cells [u1, u2])).back hb = g ∧ Ext h0 g ∧ Own h0 2 g w' (n + 1) (cs ++ [u1, u2]) ∧ h.next < g.next ∧ (∀ b, b < h.next → (w = .sn ∨ b ≠ blkV w) → g.get b = h.get b) ∧ h.next < blkV w' := by
  obtain ⟨o3, x3⟩ := Own.lit (esz := 2) (Ext.refl h) [u1, u2] 1 rfl
  obtain ⟨w', hb, g, r1, r2, r3, r4, r5, r6, r7⟩ := Own.appB (bytes := 48) (o.ext x3) (e.trans x3) o3.sl (by
    intro y hy
    simp at hy
    rcases hy with rfl | rfl
    · exact hu1
    · exact hu2) (by omega) (by omega) (by omega)
  refine ⟨w', hb, g, r1, r2, r3, r4, by simp at r5; omega, fun b hb hw => ?_, by rw [r7 (by omega)]; simp⟩
  rw [r6 b (by simp; omega) hw, H.get_new, if_neg (by omega)]
theorem TBx.step {g : H} {w w' u1 u2 : V} {gs vs : List Int} {cs : List V} (hc : ∀ (j : Nat) (g vals : List Int), tb[j]? = some (g, vals) → ∃ c1 c2, cs[j * 2]? = some c1 ∧ cs[j * 2 + 1]? = some c2 ∧
      Own hA 1 h c1 g.length (ints g) ∧ Own hA 1 h c2 vals.length (ints vals) ∧ (w = .sn ∨ c1 = .sn ∨ blkV c1 ≠ blkV w) ∧ (w = .sn ∨ c2 = .sn ∨ blkV c2 ≠ blkV w))
    (hl : cs.length = tb.length * 2) (i1 : Own hA 1 h u1 gs.length (ints gs)) (i2 : Own hA 1 h u2 vs.length (ints vs)) (n1 : w = .sn ∨ u1 = .sn ∨ blkV u1 ≠ blkV w) (n2 : w = .sn ∨ u2 = .sn ∨ blkV u2 ≠ blkV w)
    (o : Own hv 2 g w' (tb.length + 1) (cs ++ [u1, u2])) (n : h.next < g.next) (k : ∀ b, b < h.next → (w = .sn ∨ b ≠ blkV w) → g.get b = h.get b) (hb : h.next < blkV w') : TBx hA hv g w' (tb ++ [(gs, vs)]) := by
  have far : ∀ {u : V} {m : Nat} {ds : List V}, Own hA 1 h u m ds → (w' = .sn ∨ u = .sn ∨ blkV u ≠ blkV w') := by
    intro u m ds q
    rcases q.wlt' with z | z
    · exact .inr (.inl z)
    · exact .inr (.inr (by omega))
  refine ⟨cs ++ [u1, u2], by simpa using o, fun j a b hj => ?_⟩
  by_cases hjl : j < tb.length
  · rw [List.getElem?_append_left hjl] at hj
    obtain ⟨c1, c2, q1, q2, q3, q4, q5, q6⟩ := hc j a b hj
    exact ⟨c1, c2, by rw [List.getElem?_append_left (by omega)]; exact q1, by rw [List.getElem?_append_left (by omega)]; exact q2, q3.keepB (Nat.le_of_lt n) k q5, q4.keepB (Nat.le_of_lt n) k q6, far q3, far q4⟩
  · have hlt := (List.getElem?_eq_some_iff.1 hj).1
    simp at hlt
    obtain rfl : j = tb.length := by omega
    rw [List.getElem?_append_right (by omega)] at hj
    simp at hj
    obtain ⟨rfl, rfl⟩ := hj
    exact ⟨u1, u2, by rw [List.getElem?_append_right (by omega), hl]; simp, by rw [List.getElem?_append_right (by omega), hl]; simp, i1.keepB (Nat.le_of_lt n) k n1, i2.keepB (Nat.le_of_lt n) k n2, far i1, far i2⟩
end
theorem RowsO.ld {h0 h : H} {w : V} {xss : List (List Int)} (r : RowsO h0 h w xss) {i : Nat} {xs : List Int} (hx : xss[i]? = some xs) : ∃ c, ixV 1 w (.i .i64 (i : Int)) = some (.p (blkV w) (offV w + i * 1)) ∧ ldV h (.p (blkV w) (offV w + i * 1)) = some c ∧ Own h0 1 h c xs.length (ints xs) := by
  obtain ⟨cs, o, hc⟩ := r
  obtain ⟨c, q1, q2, _⟩ := hc i xs hx
  have hi := (List.getElem?_eq_some_iff.1 hx).1
  exact ⟨c, o.sl.ix hi, by rw [o.sl.ld1 hi, q1], q2⟩
theorem own_ne {h0 h : H} {y z : V} {m p : Nat} {xs : List Int} {ds : List V} (o : Own h0 1 h y m (ints xs)) (g : h.get p = some (.cells (z :: ds))) (hz : ∀ k n, z ≠ .i k n) : y = .sn ∨ blkV y ≠ p := by
  obtain ⟨hl, ⟨_, rfl⟩ | ⟨b, g', rfl, hg, h1, h2, hb⟩⟩ := o
  · exact .inl rfl
  · refine .inr fun q => ?_
    have q' : b = p := q
    subst q'
    rw [g] at hb
    cases xs with
    | nil => simp [ints] at hb
    | cons x l =>
      simp [ints] at hb
      exact hz _ _ hb.1
theorem Own.noti {h0 h : H} {v : V} {esz n : Nat} {cs : List V} (o : Own h0 esz h v n cs) : ∀ k m, v ≠ .i k m := by
  obtain ⟨hl, ⟨_, rfl⟩ | ⟨b, g', rfl, _⟩⟩ := o
  · intro k m q; cases q
  · intro k m q; cases q
structure PlanS where
  order : List Int
  off : Int
  tabs : List (List Int × List Int)
def PlanO (h0 h : H) (p : V) (P : PlanS) : Prop := ∃ ov tv, p = .agg [ov, .i .i64 P.off, tv] ∧ Own h0 1 h ov P.order.length (ints P.order) ∧ TBo h0 h tv P.tabs
noncomputable def leastP (N : Int) (rs : List Arw) : PlanS :=
  if circledS N rs = 0 then ⟨firstS rs (-1) N.toNat (circR N rs), leftS rs (-1) allT (circR N rs), (circR N rs).map fun c => (c, tabF rs (-1) c)⟩ else ⟨[], 0, []⟩
theorem PlanO.none {h0 h : H} : PlanO h0 h (.agg [.sn, .i .i64 0, .sn]) ⟨[], 0, []⟩ := ⟨.sn, .sn, rfl, .nil, TBx.nil⟩
def s23_13a : List O := [⟨some 43, none, .fld 2 (.t 8)⟩, ⟨some 44, none, .ld (.t 43)⟩, ⟨some 45, none, .mov (.t 10)⟩, ⟨some 46, none, .call (.f 70) [(.t 45)]⟩, ⟨some 47, none, .mov (.t 7)⟩, ⟨some 48, none, .nilck (.t 47)⟩, ⟨some 49, none, .fld 578 (.t 48)⟩,
  ⟨some 50, none, .ld (.t 49)⟩, ⟨some 51, none, .mov (.t 9)⟩, ⟨some 52, none, .ixS 1 (.t 50) (.t 51)⟩, ⟨some 53, none, .ld (.t 52)⟩]
def s23_13b : List O := [⟨some 54, none, .build [.sn, .sn] [(0, 1, (.t 46)), (1, 1, (.t 53))]⟩, ⟨some 55, none, .buildSl [.sn, .sn] 1 [(0, 2, (.t 54))]⟩, ⟨some 56, none, .app 2 48 (.t 44) (.t 55)⟩, ⟨some 57, none, .fld 2 (.t 8)⟩, ⟨none, none, .st 1 (.t 57) (.t 56)⟩]
theorem r23_13_eq : r23_13 = s23_13a ++ s23_13b := rfl
theorem res_pair {t : List V} {h : H} {n k b m : Nat} {cs r : List V} (hn : nth t n = .p b 0) (g : h.get b = some (.cells cs)) (hc : cut cs 0 k = some r) : resultsOf t h [.cell n (some k), .tmp m] = some [.agg r, nth t m] := by
  simp [resultsOf, resultOf, hn, g, hc]
theorem t23 : tblA 23 = some a23 := by kernel_rfl
theorem fn_Least {h : H} {N : Int} {v : V} {rs : List Arw} (hr : Arrs h v rs) (hrn : rs.length ≤ 1000000) : WC tblA (.fn 23 [] []) [.agg [.i .i64 N, v]] h fun u h' => Ext h h' ∧ ∃ p, u = .tup [p, .i .i64 (circledS N rs)] ∧ PlanO h h' p (leastP N rs) := by
  refine (WC_in t23).2 ?_
  simp only [go_sem, ↓reduceIte, r23_0, H.next_new]
  have e0 : Ext h ((h.new (.cells [.i .i64 N, v])).new (.cells [.sn, .i .i64 0, .sn])) := ((Ext.refl h).new _).new _
  have g0 : ((h.new (.cells [.i .i64 N, v])).new (.cells [.sn, .i .i64 0, .sn])).get h.next = some (.cells [.i .i64 N, v]) := by rw [get_new_lt (by simp), get_new_eq rfl]
  have g2 : ((h.new (.cells [.i .i64 N, v])).new (.cells [.sn, .i .i64 0, .sn])).get (h.next + 1) = some (.cells [.sn, .i .i64 0, .sn]) := by rw [get_new_eq (by simp)]
  have n0 : ((h.new (.cells [.i .i64 N, v])).new (.cells [.sn, .i .i64 0, .sn])).next = h.next + 1 + 1 := by simp
  generalize ((h.new (.cells [.i .i64 N, v])).new (.cells [.sn, .i .i64 0, .sn])) = h0 at *
  have hr0 := hr.ext e0
  have l0 : ldnV h0 2 (.p h.next 0) = some (.agg [.i .i64 N, v]) := blk_ldn g0 rfl
  simp only [go_sem, ↓reduceIte, r23_1, l0]
  refine (fn_Check hr0 hrn).mono ?_
  rintro _ h1 ⟨e1, rfl⟩
  have n1 := e1.nx
  have g01 := e1.get (by omega) g0
  have g21 := e1.get (by omega) g2
  have stz : ∀ hh : H, hh.get (h.next + 1) = some (.cells [.sn, .i .i64 0, .sn]) → stV hh 3 (.p (h.next + 1) 0) (.agg [.sn, .i .i64 0, .sn]) = some (hh.put (h.next + 1) (.cells [.sn, .i .i64 0, .sn])) := fun hh gg => st_whole gg rfl rfl (by
    intro u hu
    simp at hu
    rcases hu with rfl | rfl | rfl <;> rfl)
  by_cases hc : checkS N rs = 0
  case neg =>
    have hcd : circledS N rs = checkS N rs := by rw [circledS, if_pos hc]
    have hlp : leastP N rs = ⟨[], 0, []⟩ := by rw [leastP, if_neg (by rw [hcd]; exact hc)]
    simp only [go_sem, ↓reduceIte, r23_2, r23_3, hc, stz h1 g21]
    rw [res_pair (k := 3) (r := [.sn, .i .i64 0, .sn]) (b := h.next + 1) (cs := [.sn, .i .i64 0, .sn]) (by simp only [go_sem, ↓reduceIte]) (by rw [H.get_put, if_pos rfl]) (cut_all rfl)]
    simp only [go_sem, ↓reduceIte]
    rw [hcd, hlp]
    exact ⟨(e0.trans e1).put (by omega) _, _, rfl, .none⟩
  obtain ⟨n, rfl, hn, gr⟩ := check_ok hc
  have hw : Wok rs := wok_of gr.1
  have hcd : circledS (n : Int) rs = circE (circR (n : Int) rs) := by rw [circledS, if_neg (by simp [hc])]
  have l1 : ldnV h1 2 (.p h.next 0) = some (.agg [.i .i64 (n : Int), v]) := blk_ldn g01 rfl
  simp only [go_sem, ↓reduceIte, r23_2, r23_4, hc, l1]
  refine (fn_circles (hr0.ext e1) hrn).mono ?_
  rintro _ h2 ⟨e2, cw, rfl, hLL⟩
  have n2 := e2.nx
  by_cases hce : circE (circR (n : Int) rs) = 0
  case neg =>
    have hlp : leastP (n : Int) rs = ⟨[], 0, []⟩ := by rw [leastP, if_neg (by rw [hcd]; exact hce)]
    simp only [go_sem, ↓reduceIte, r23_5, r23_6, hce, stz h2 (e2.get (by omega) g21)]
    rw [res_pair (k := 3) (r := [.sn, .i .i64 0, .sn]) (b := h.next + 1) (cs := [.sn, .i .i64 0, .sn]) (by simp only [go_sem, ↓reduceIte]) (by rw [H.get_put, if_pos rfl]) (cut_all rfl)]
    simp only [go_sem, ↓reduceIte]
    rw [hcd, hlp]
    exact ⟨(e0.trans (e1.trans e2)).put (by omega) _, _, rfl, .none⟩
  have hlp : leastP (n : Int) rs = ⟨firstS rs (-1) n (circR (n : Int) rs), leftS rs (-1) allT (circR (n : Int) rs), (circR (n : Int) rs).map fun c => (c, tabF rs (-1) c)⟩ := by rw [leastP, if_pos (by rw [hcd]; exact hce)]; simp
  rw [hcd, hlp]
  have ok := circ_ok hce
  have sc := hLL hce
  have hxl := (circR_len (N := (n : Int)) (rs := rs)).1
  rw [hce]
  clear hLL hlp hcd
  generalize circR (n : Int) rs = xss at *
  have g02 := e2.get (by omega) g01
  have l2 : ldnV h2 2 (.p h.next 0) = some (.agg [.i .i64 (n : Int), v]) := blk_ldn g02 rfl
  simp only [go_sem, ↓reduceIte, r23_5, r23_7, hce, l2]
  refine (fn_begin ((hr0.ext e1).ext e2) hrn gr hn sc ok hxl).mono ?_
  rintro _ h6 ⟨e6, sb, vv, rfl, hsb, s6, r6⟩
  have n6 := e6.nx
  have e06 : Ext h h6 := e0.trans (e1.trans (e2.trans e6))
  have r6' : RowsO h h6 vv (xss.map (tabF rs (-1))) := r6.mono (e0.trans (e1.trans e2)).nx
  have g26 := e6.get (by omega) (e2.get (by omega) g21)
  simp only [go_sem, ↓reduceIte, r23_8]
  have e7 : Ext h6 (h6.new (.cells [.sn, .i .i64 0, .sn])) := (Ext.refl h6).new _
  have g7 : (h6.new (.cells [.sn, .i .i64 0, .sn])).get h6.next = some (.cells [.sn, .i .i64 0, .sn]) := get_new_eq rfl
  have n7 : (h6.new (.cells [.sn, .i .i64 0, .sn])).next = h6.next + 1 := by simp
  generalize h6.new (.cells [.sn, .i .i64 0, .sn]) = h7 at *
  generalize hpb : h6.next = pb at *
  simp only [go_sem, ↓reduceIte, r23_9]
  refine (fn_first (s6.ext e7) ok hn hxl hw).mono ?_
  rintro _ h8 ⟨e8, ov, rfl, o8⟩
  have n8 := e8.nx
  have g8 := e8.get (by omega) g7
  have hov := o8.one
  have st0 := st_any0 (k := 0) (x := ov) g8 hov.1 hov.2 (by simp)
  have x9 : ExtX (· = pb) h8 (h8.put pb (.cells [ov, .i .i64 0, .sn])) := (ExtX.refl (· = pb) h8).put (.inr rfl) _
  have g9 : (h8.put pb (.cells [ov, .i .i64 0, .sn])).get pb = some (.cells [ov, .i .i64 0, .sn]) := by rw [H.get_put, if_pos rfl]
  have st0' : stV h8 1 (.p pb 0) ov = some (h8.put pb (.cells [ov, .i .i64 0, .sn])) := st0
  have st1 := st_any0 (k := 1) (x := .i .i64 (leftS rs (-1) allT xss)) g9 rfl rfl (by simp)
  have st1' : stV (h8.put pb (.cells [ov, .i .i64 0, .sn])) 1 (.p pb 1) (.i .i64 (leftS rs (-1) allT xss)) = some ((h8.put pb (.cells [ov, .i .i64 0, .sn])).put pb (.cells [ov, .i .i64 (leftS rs (-1) allT xss), .sn])) := st1
  simp only [go_sem, ↓reduceIte, st0', st1']
  have x10 : ExtX (· = pb) h8 ((h8.put pb (.cells [ov, .i .i64 0, .sn])).put pb (.cells [ov, .i .i64 (leftS rs (-1) allT xss), .sn])) := x9.put (.inr rfl) _
  have g10 : ((h8.put pb (.cells [ov, .i .i64 0, .sn])).put pb (.cells [ov, .i .i64 (leftS rs (-1) allT xss), .sn])).get pb = some (.cells [ov, .i .i64 (leftS rs (-1) allT xss), .sn]) := by rw [H.get_put, if_pos rfl]
  clear st0 st0' st1 st1' x9 g9
  generalize (h8.put pb (.cells [ov, .i .i64 0, .sn])).put pb (.cells [ov, .i .i64 (leftS rs (-1) allT xss), .sn]) = hP at *
  have eP : Ext h6 hP := x10.ext (e7.trans e8) (fun b hb => by omega)
  have nP := x10.nx
  have oP : Own h7 1 hP ov (firstS rs (-1) n xss).length (ints (firstS rs (-1) n xss)) := o8.keepX x10 (fun b hb => by omega)
  have scP := (sc.ext e6).ext eP
  generalize firstS rs (-1) n xss = F at *
  generalize leftS rs (-1) allT xss = least at *
  simp only [go_sem, ↓reduceIte, r23_10, scP.len]
  refine W_while (fun k t h' => ∃ (i : Nat) (w : V), k = xss.length - i ∧ i ≤ xss.length ∧ t.length = 60 ∧ nth t 2 = .p (h.next + 1) 0 ∧ nth t 7 = .p sb 0 ∧ nth t 8 = .p pb 0 ∧ nth t 36 = cw ∧ nth t 37 = .i .i64 (xss.length : Int) ∧ nth t 38 = .i .i64 (i : Int) ∧ Ext h6 h' ∧ ExtX (· = pb) hP h' ∧
      h'.get pb = some (.cells [ov, .i .i64 least, w]) ∧ TBx h hP h' w ((xss.take i).map fun c => (c, tabF rs (-1) c))) ?_ xss.length ?_
  · rintro k t h' ⟨i, w, rfl, hi, tl, t2, t7, t8, t36, t37, t38, e', x', g', r'⟩
    unfold b23_0
    have nx' := x'.nx
    have nx2 := e'.nx
    have sc' := (sc.ext e6).ext e'
    have s' := s6.ext e'
    have rv := r6'.ext e'
    by_cases hlt : i < xss.length
    · have hltI : (i : Int) < (xss.length : Int) := by omega
      obtain ⟨c, hx⟩ : ∃ c, xss[i]? = some c := ⟨_, List.getElem?_eq_getElem hlt⟩
      obtain ⟨hc10, _, _⟩ := ok c (List.mem_of_getElem? hx)
      obtain ⟨u, hl, hi1⟩ := sc'.ld hx
      have hvx : (xss.map (tabF rs (-1)))[i]? = some (tabF rs (-1) c) := by rw [List.getElem?_map, hx]; rfl
      simp only [go_sem, ↓reduceIte, r23_11, r23_12, tl, t2, t7, t8, t36, t37, t38, hltI, sc'.ix hlt, hl]
      rw [r23_13_eq]
      apply W_crit (by simp [s23_13a])
      have lw : ldV h' (.p pb 2) = some w := blk_ld g' rfl
      simp only [go_sem, ↓reduceIte, s23_13a, tl, t2, t7, t8, t36, t37, t38, lw]
      refine (fn_Clone (h := h'.bare) (Sl.bare hi1) (by omega)).mono ?_
      rintro c1 h3 ⟨e3, o3⟩
      have hold3 := e3.old
      replace e3 := e3.back
      have o3' : Own h' 1 (h'.back h3) c1 c.length (ints c) := o3
      have s3 := s'.ext e3
      have rv3 := rv.ext e3
      obtain ⟨c2, ixv, lv, o2⟩ := rv3.ld hvx
      simp only [go_sem, ↓reduceIte, hold3, tl, t7, s3.lvv, ixv, lv]
      have hTB : TBx h hP (h'.back h3) w ((xss.take i).map fun c => (c, tabF rs (-1) c)) := r'.ext e3
      have gpb := e3.get (by omega) g'
      generalize h'.back h3 = h4 at *
      have n4 := e3.nx
      have hone1 := o3'.one
      have hone2 := o2.one
      obtain ⟨cs, o, hcs⟩ := hTB
      have rT : Own (trunc hP.next h4) 2 h4 w ((xss.take i).map fun c => (c, tabF rs (-1) c)).length cs := o
      obtain ⟨w', hb, g4, q0, q1, q2, q3, q4, q5, q6⟩ := app_twoB (u1 := c1) (u2 := c2) rT (trunc_ext (by omega)) hone1.2 hone2.2 (by simp; omega)
      have hwl : w = .sn ∨ (hP.next ≤ blkV w ∧ blkV w < h'.next) := by
        obtain ⟨cs', o', _⟩ := r'
        exact o'.wlt'
      obtain ⟨cs6, o6, hcs6⟩ := r6'
      obtain ⟨c2', z1, z2, _⟩ := hcs6 i _ hvx
      have hc2eq : c2' = c2 := by
        have y1 := (o6.ext (e'.trans e3)).sl.ld1 (show i < (xss.map (tabF rs (-1))).length by simpa using hlt)
        rw [lv, z1] at y1
        cases y1; rfl
      subst hc2eq
      have hc2l : c2' = .sn ∨ blkV c2' < pb := by
        rcases z2.wlt' with z | z
        · exact .inl z
        · exact .inr (by omega)
      have tb' : TBx h hP g4 w' (((xss.take i).map fun c => (c, tabF rs (-1) c)) ++ [(c, tabF rs (-1) c)]) := TBx.step hcs (by simpa using o.len) (o3'.mono (by have := e06.nx; omega)) o2 (by
          rcases hwl with z | z
          · exact .inl z
          · rcases o3'.wlt' with y | y
            · exact .inr (.inl y)
            · exact .inr (.inr (by omega))) (by
          rcases hwl with z | z
          · exact .inl z
          · rcases hc2l with y | y
            · exact .inr (.inl y)
            · exact .inr (.inr (by omega))) q3 q4 q5 q6
      have x4 : ExtX (· = pb) hP g4 := (x'.trans (.of e3)).tr q2
      have gpb4 : g4.get pb = some (.cells [ov, .i .i64 least, w]) := by
        rw [q2.same pb (show pb < hP.next by omega)]
        exact gpb
      have hw1 : w'.cells = [w'] ∧ w'.oneCell = true := q3.one
      have hst := st_any0 (h := g4.bare) (k := 2) (x := w') gpb4 hw1.1 hw1.2 (by simp)
      have hst' : stV g4.bare 1 (.p pb 2) w' = some (g4.bare.put pb (.cells [ov, .i .i64 least, w'])) := hst
      have hbk := back_put (h := g4) (b := pb) (by have := x4.nx; omega)
      have e6g : Ext h6 g4 := x4.ext eP (fun b hb => by omega)
      simp only [go_sem, ↓reduceIte, s23_13b, r23_14, tl, t2, t7, t8, t36, t37, t38, fill2_of hone1.1 hone2.1, q0, q1, hst', hbk, wrap_succ (show i < 1000000000 by omega)]
      refine ⟨xss.length - (i + 1), by omega, i + 1, w', rfl, hlt, rfl, e6g.put (by omega) _, x4.put (.inr rfl) _, by rw [H.get_put, if_pos rfl], ?_⟩
      rw [take_succ' hx, List.map_append]
      have xp : ExtX (· = pb) g4 (g4.put pb (.cells [ov, .i .i64 least, w'])) := (ExtX.refl (· = pb) g4).put (.inr rfl) _
      obtain ⟨ds, d1, d2⟩ := tb'
      have d1l : w' = .sn ∨ blkV w' ≠ pb := by
        rcases d1.wlt' with z | z
        · exact .inl z
        · exact .inr (by omega)
      refine ⟨ds, d1.keepN xp d1l, fun j a b hj => ?_⟩
      obtain ⟨y1, y2, p1, p2, p3, p4, p5, p6⟩ := d2 j a b hj
      have key1 := own_ne p3 gpb4 oP.noti
      have key2 := own_ne p4 gpb4 oP.noti
      exact ⟨y1, y2, p1, p2, p3.keepN xp key1, p4.keepN xp key2, p5, p6⟩
    · have hltI : ¬ (i : Int) < (xss.length : Int) := by omega
      rw [List.take_of_length_le (by omega)] at r'
      have l8 : ldnV h' 3 (.p pb 0) = some (.agg [ov, .i .i64 least, w]) := blk_ldn g' rfl
      have g2' := e'.get (by omega) g26
      have how : w.cells = [w] ∧ w.oneCell = true := by
        obtain ⟨cs, o, _⟩ := r'
        exact o.one
      have stA := st_whole (k := 3) (c := [ov, .i .i64 least, w]) g2' rfl rfl (by
        intro u hu
        simp at hu
        rcases hu with rfl | rfl | rfl
        · exact hov.2
        · rfl
        · exact how.2)
      simp only [go_sem, ↓reduceIte, r23_11, r23_15, tl, t2, t7, t8, t36, t37, t38, hltI, l8, stA]
      rw [res_pair (k := 3) (r := [ov, .i .i64 least, w]) (b := h.next + 1) (cs := [ov, .i .i64 least, w]) (by simp only [go_sem, ↓reduceIte, tl, t2]) (by rw [H.get_put, if_pos rfl]) (cut_all rfl)]
      simp only [go_sem, ↓reduceIte, tl]
      have xf : ExtX (· = h.next + 1) h' (h'.put (h.next + 1) (.cells [ov, .i .i64 least, w])) := (ExtX.refl (· = h.next + 1) h').put (.inr rfl) _
      have o1 : Own h7 1 h' ov F.length (ints F) := oP.keepX x' (fun b hb => by omega)
      have hne : ∀ k n, (V.sn) ≠ .i k n := fun k n q => by cases q
      obtain ⟨ds, d1, d2⟩ := r'
      have d1l : w = .sn ∨ blkV w ≠ h.next + 1 := by
        rcases d1.wlt' with z | z
        · exact .inl z
        · exact .inr (by omega)
      refine ⟨(e06.trans e').put (by omega) _, _, rfl, ov, w, rfl, (o1.keepN xf (own_ne o1 g2' hne)).mono (by have := e06.nx; omega), ds, (d1.keepN xf d1l).mono (by have := e06.nx; omega), fun j a b hj => ?_⟩
      obtain ⟨y1, y2, p1, p2, p3, p4, p5, p6⟩ := d2 j a b hj
      exact ⟨y1, y2, p1, p2, p3.keepN xf (own_ne p3 g2' hne), p4.keepN xf (own_ne p4 g2' hne), p5, p6⟩
  · refine ⟨0, .sn, by omega, by omega, ?_⟩
    simp only [go_sem, ↓reduceIte, List.take_zero, List.map_nil]
    exact ⟨eP, .refl _ _, g10, .nil⟩
end Go.Air
set_option maxRecDepth 100000
namespace Go.Air
open Go.Air.Try
theorem st_newB (h : H) (z c : List V) (hl : z.length = c.length) (hone : ∀ u ∈ c, u.oneCell = true) :
    ∃ hb h2, stV (h.new (.cells z)).bare c.length (.p h.next 0) (.agg c) = some hb ∧ (h.new (.cells z)).back hb = h2 ∧ Ext h h2 ∧ h2.get h.next = some (.cells c) ∧ h2.next = h.next + 1 := by
  have g : (h.new (.cells z)).bare.get h.next = some (.cells z) := get_new_eq rfl
  refine ⟨_, _, st_whole (k := c.length) g rfl hl hone, rfl, ?_⟩
  rw [back_put (h := h.new (.cells z)) (by simp)]
  exact ⟨((Ext.refl h).new _).put (Nat.le_refl _) _, by rw [H.get_put, if_pos rfl], by simp⟩
theorem circled_ok {N : Int} {rs : List Arw} (h : circledS N rs = 0) : checkS N rs = 0 ∧ circE (circR N rs) = 0 := by
  unfold circledS at h
  split at h
  · rename_i hc; exact absurd h hc
  · rename_i hc; exact ⟨Classical.not_not.1 hc, h⟩
end Go.Air
set_option maxRecDepth 100000
namespace Go.Air
def sT (rs : List Arw) (x : Int) : List Int → Int
  | [] => 0
  | y :: l => wt y x rs + sT rs x l
def sF (rs : List Arw) (y : Int) : List Int → Int
  | [] => 0
  | x :: l => wt y x rs + sF rs y l
def inc (rs : List Arw) : List Int → Int
  | [] => 0
  | x :: l => sT rs x l + inc rs l
def feas (rs : List Arw) (sp : Int) : List Int → Prop
  | [] => True
  | x :: l => (∀ y ∈ l, y = sp → wt y x rs = 0) ∧ feas rs sp l
section
variable {rs : List Arw} {sp : Int}
theorem sT_append (x : Int) : ∀ a b : List Int, sT rs x (a ++ b) = sT rs x a + sT rs x b
  | [], b => by simp [sT]
  | y :: a, b => by simp only [List.cons_append, sT, sT_append x a b]; omega
theorem sF_append (y : Int) : ∀ a b : List Int, sF rs y (a ++ b) = sF rs y a + sF rs y b
  | [], b => by simp [sF]
  | x :: a, b => by simp only [List.cons_append, sF, sF_append y a b]; omega
theorem sT_perm (x : Int) {a b : List Int} (h : a.Perm b) : sT rs x a = sT rs x b := by
  induction h with
  | nil => rfl
  | cons y _ ih => simp only [sT, ih]
  | swap y z l => simp only [sT]; omega
  | trans _ _ ih1 ih2 => rw [ih1, ih2]
theorem sF_perm (y : Int) {a b : List Int} (h : a.Perm b) : sF rs y a = sF rs y b := by
  induction h with
  | nil => rfl
  | cons x _ ih => simp only [sF, ih]
  | swap x z l => simp only [sF]; omega
  | trans _ _ ih1 ih2 => rw [ih1, ih2]
theorem sT_nonneg (hw : Wok rs) (x : Int) : ∀ l, 0 ≤ sT rs x l
  | [] => by simp [sT]
  | y :: l => by have := sT_nonneg hw x l; have := (hw y x).1; simp only [sT]; omega
theorem sF_nonneg (hw : Wok rs) (y : Int) : ∀ l, 0 ≤ sF rs y l
  | [] => by simp [sF]
  | x :: l => by have := sF_nonneg hw y l; have := (hw y x).1; simp only [sF]; omega
theorem sT_le (hw : Wok rs) (x : Int) : ∀ l, sT rs x l ≤ 1000 * l.length
  | [] => by simp [sT]
  | y :: l => by have := sT_le hw x l; have := (hw y x).2; simp only [sT, List.length_cons]; omega
theorem inc_nonneg (hw : Wok rs) : ∀ l, 0 ≤ inc rs l
  | [] => by simp [inc]
  | x :: l => by have := inc_nonneg hw l; have := sT_nonneg hw x l; simp only [inc]; omega
theorem sF_zero (hw : Wok rs) (y : Int) : ∀ l, sF rs y l = 0 ↔ ∀ x ∈ l, wt y x rs = 0
  | [] => by simp [sF]
  | x :: l => by
    have ih := sF_zero hw y l
    have h1 := sF_nonneg hw y l
    have h2 := (hw y x).1
    simp only [sF, List.mem_cons, forall_eq_or_imp]
    rw [← ih]
    omega
theorem inc_snoc (y : Int) : ∀ l, inc rs (l ++ [y]) = inc rs l + sF rs y l
  | [] => by simp [inc, sT, sF]
  | x :: l => by
    have ih := inc_snoc y l
    simp only [List.cons_append, inc, sF, sT_append, sT, ih]
    omega
theorem feas_snoc (y : Int) : ∀ l, feas rs sp (l ++ [y]) ↔ feas rs sp l ∧ (y = sp → ∀ x ∈ l, wt y x rs = 0)
  | [] => by simp [feas]
  | x :: l => by
    have ih := feas_snoc y l
    simp only [List.cons_append, feas, ih, List.mem_append, List.mem_cons, List.not_mem_nil, or_false]
    constructor
    · rintro ⟨h1, h2, h3⟩
      exact ⟨⟨fun z hz => h1 z (.inl hz), h2⟩, fun q z hz => by
        rcases hz with rfl | hz
        · exact h1 y (.inr rfl) q
        · exact h3 q z hz⟩
    · rintro ⟨⟨h1, h2⟩, h3⟩
      exact ⟨fun z hz q => by
        rcases hz with hz | rfl
        · exact h1 z hz q
        · exact h3 q x (.inl rfl), h2, fun q z hz => h3 q z (.inr hz)⟩
theorem sT_filter (hw : Wok rs) (x : Int) (p : Int → Bool) : ∀ l, sT rs x (l.filter p) ≤ sT rs x l
  | [] => by simp [sT]
  | y :: l => by
    have ih := sT_filter hw x p l
    have := (hw y x).1
    by_cases h : p y = true
    · rw [List.filter_cons_of_pos h]; simp only [sT]; omega
    · rw [List.filter_cons_of_neg h]; simp only [sT]; omega
theorem inc_split (hw : Wok rs) (p : Int → Bool) : ∀ l, inc rs (l.filter p) + inc rs (l.filter fun x => !p x) ≤ inc rs l
  | [] => by simp [inc]
  | x :: l => by
    have ih := inc_split hw p l
    by_cases h : p x = true
    · rw [List.filter_cons_of_pos h, List.filter_cons_of_neg (by simp [h])]
      have := sT_filter hw x p l
      simp only [inc]; omega
    · rw [List.filter_cons_of_neg h, List.filter_cons_of_pos (by simp [h])]
      have := sT_filter hw x (fun x => !p x) l
      simp only [inc]; omega
theorem feas_filter (p : Int → Bool) : ∀ l, feas rs sp l → feas rs sp (l.filter p)
  | [], _ => trivial
  | x :: l, h => by
    have ih := feas_filter p l h.2
    by_cases hx : p x = true
    · rw [List.filter_cons_of_pos hx]
      exact ⟨fun y hy => h.1 y (List.mem_filter.1 hy).1, ih⟩
    · rw [List.filter_cons_of_neg hx]; exact ih
end
theorem subL_at {c : List Int} {s i k : Nat} (hi : i < k) (hb : s.testBit i = true) : c.getD i 0 ∈ subL c s k := by
  induction k with
  | zero => omega
  | succ k ih =>
    simp only [subL, List.mem_append]
    by_cases q : i = k
    · subst q; right; rw [if_pos hb]; simp
    · left; exact ih (by omega)
theorem subL_iff {c : List Int} {s : Nat} {y : Int} : ∀ {k : Nat}, y ∈ subL c s k ↔ ∃ j, j < k ∧ s.testBit j = true ∧ c.getD j 0 = y
  | 0 => by simp [subL]
  | k + 1 => by
    have ih := @subL_iff c s y k
    simp only [subL, List.mem_append, ih]
    constructor
    · rintro (⟨j, h1, h2, h3⟩ | h)
      · exact ⟨j, by omega, h2, h3⟩
      · split at h
        · rename_i hb
          simp at h
          exact ⟨k, by omega, hb, h.symm⟩
        · simp at h
    · rintro ⟨j, h1, h2, h3⟩
      by_cases q : j = k
      · subst q; right; rw [if_pos h2, List.mem_singleton]; exact h3.symm
      · left; exact ⟨j, by omega, h2, h3⟩
theorem subL_nodup {c : List Int} (hd : c.Nodup) (s : Nat) : ∀ k, k ≤ c.length → (subL c s k).Nodup
  | 0, _ => by simp [subL]
  | k + 1, hk => by
    have ih := subL_nodup hd s k (by omega)
    simp only [subL]
    split
    · refine List.nodup_append.2 ⟨ih, by simp, fun a ha b hb => ?_⟩
      simp at hb
      subst hb
      rintro rfl
      obtain ⟨j, h1, h2⟩ := subL_mem ha
      have := getD_injI hd (by omega) (by omega) h2
      omega
    · simpa using ih
theorem subL_less {c : List Int} (hd : c.Nodup) {s i : Nat} (hs : s < 4611686018427387904) (hi : i < c.length) (hb : s.testBit i = true) : (subL c s c.length).Perm (c.getD i 0 :: subL c (s - 2 ^ i) c.length) := by
  have hn : c.getD i 0 ∉ subL c (s - 2 ^ i) c.length := by
    intro h
    obtain ⟨j, h1, h2, h3⟩ := subL_iff.1 h
    have := getD_injI hd h1 hi h3
    subst this
    rw [bit_sub hs hb] at h2
    simp at h2
  refine (List.perm_ext_iff_of_nodup (subL_nodup hd s _ (Nat.le_refl _)) (List.nodup_cons.2 ⟨hn, subL_nodup hd _ _ (Nat.le_refl _)⟩)).2 fun y => ?_
  rw [List.mem_cons, subL_iff, subL_iff]
  constructor
  · rintro ⟨j, h1, h2, h3⟩
    by_cases q : j = i
    · subst q; exact .inl h3.symm
    · exact .inr ⟨j, h1, by rw [bit_sub hs hb]; simp [q, h2], h3⟩
  · rintro (h | ⟨j, h1, h2, h3⟩)
    · exact ⟨i, hi, hb, h.symm⟩
    · rw [bit_sub hs hb] at h2
      simp at h2
      exact ⟨j, h1, h2.2, h3⟩
theorem bhK_sF (rs : List Arw) (c : List Int) (i s : Nat) : ∀ k, bhK rs c i s k = sF rs (c.getD i 0) (subL c s k)
  | 0 => rfl
  | k + 1 => by
    simp only [bhK, subL, sF_append, bhK_sF rs c i s k]
    split
    · simp [sF]
    · simp [sF]
def tv (rs : List Arw) (sp : Int) (c : List Int) (s : Nat) : Int := (tabF rs sp c).getD s 0
section
variable {rs : List Arw} {sp : Int} {c : List Int}
theorem tv_tab {s j : Nat} (hs : s ≤ 2 ^ c.length) (hj : j < s) : (tabL rs c sp c.length s).getD j 0 = tv rs sp c j := by
  unfold tv tabF
  rw [← tabL_prefix hs, List.getD_eq_getElem?_getD, List.getD_eq_getElem?_getD, List.getElem?_take_of_lt hj]
theorem tv_eq {s : Nat} (hs : s < 2 ^ c.length) : tv rs sp c s = tval rs c sp c.length (tabL rs c sp c.length s) s := by
  have := tv_tab (rs := rs) (sp := sp) (c := c) (s := s + 1) (j := s) hs (by omega)
  rw [← this, tabL, List.getD_eq_getElem?_getD, List.getElem?_append_right (by rw [tabL_len]; omega), tabL_len]
  simp
theorem tv_zero : tv rs sp c 0 = 0 := by
  rw [tv_eq (Nat.two_pow_pos _)]
  simp [tval]
theorem tmin_le {L : List Int} {s : Nat} {m : Nat} : ∀ {k i : Nat}, i < k → s.testBit i = true → tmin rs c sp m L s k ≤ L.getD (s - 2 ^ i) 0 + costS rs c sp m i (s - 2 ^ i)
  | 0, i, h, _ => by omega
  | k + 1, i, h, hb => by
    simp only [tmin]
    by_cases q : i = k
    · subst q
      rw [if_pos hb]
      split <;> omega
    · have ih := tmin_le (L := L) (m := m) (k := k) (i := i) (by omega) hb
      repeat' split
      all_goals omega
theorem tmin_att {L : List Int} {s m : Nat} : ∀ {k : Nat}, tmin rs c sp m L s k < never → ∃ i, i < k ∧ s.testBit i = true ∧ tmin rs c sp m L s k = L.getD (s - 2 ^ i) 0 + costS rs c sp m i (s - 2 ^ i)
  | 0, h => by simp [tmin] at h
  | k + 1, h => by
    simp only [tmin] at h ⊢
    by_cases hb : s.testBit k = true
    · rw [if_pos hb] at h ⊢
      by_cases q : L.getD (s - 2 ^ k) 0 + costS rs c sp m k (s - 2 ^ k) < tmin rs c sp m L s k
      · rw [if_pos q]
        exact ⟨k, by omega, hb, rfl⟩
      · rw [if_neg q] at h ⊢
        obtain ⟨i, h1, h2, h3⟩ := tmin_att h
        exact ⟨i, by omega, h2, h3⟩
    · rw [if_neg hb] at h ⊢
      obtain ⟨i, h1, h2, h3⟩ := tmin_att h
      exact ⟨i, by omega, h2, h3⟩
theorem tv_bound (hw : Wok rs) (hl : c.length ≤ 24) (s : Nat) : 0 ≤ tv rs sp c s ∧ tv rs sp c s ≤ never := tabF_getD hw hl s
theorem tab_low (hw : Wok rs) (hd : c.Nodup) (hl : c.length ≤ 24) : ∀ (s : Nat), s < 2 ^ c.length → ∀ l : List Int, l.Perm (subL c s c.length) → feas rs sp l → tv rs sp c s ≤ inc rs l := by
  have h24 : 2 ^ c.length ≤ 16777216 := by
    have := Nat.pow_le_pow_right (n := 2) (by omega) hl
    simpa using this
  intro s
  induction s using Nat.strongRecOn with
  | ind s ih =>
  intro hs l hp hf
  by_cases h0 : s = 0
  · subst h0
    rw [tv_zero]
    exact inc_nonneg hw l
  rcases List.eq_nil_or_concat l with rfl | ⟨l', y, rfl⟩
  · exfalso
    obtain ⟨j, h1, h2⟩ := some_bit h0 hs
    have := subL_at (c := c) h1 h2
    rw [← hp.mem_iff] at this
    simp at this
  rw [List.concat_eq_append] at hp hf ⊢
  have hy : y ∈ subL c s c.length := by rw [← hp.mem_iff]; simp
  obtain ⟨i, hi, hb, rfl⟩ := subL_iff.1 hy
  have hle := bit_le hb
  have hpp : 0 < 2 ^ i := Nat.two_pow_pos i
  have hp' : l'.Perm (subL c (s - 2 ^ i) c.length) := by
    have h1 : (c.getD i 0 :: l').Perm (l' ++ [c.getD i 0]) := by
      have := List.perm_append_comm (l₁ := [c.getD i 0]) (l₂ := l')
      simpa using this
    exact ((h1.trans hp).trans (subL_less hd (by omega) hi hb)).cons_inv
  obtain ⟨hf1, hf2⟩ := (feas_snoc _ l').1 hf
  have ih' := ih (s - 2 ^ i) (by omega) (by omega) l' hp' hf1
  have hb1 : bhK rs c i (s - 2 ^ i) c.length = sF rs (c.getD i 0) l' := by rw [bhK_sF, sF_perm _ hp']
  have hc : costS rs c sp c.length i (s - 2 ^ i) = sF rs (c.getD i 0) l' := by
    rw [costS, hb1]
    split
    · rename_i q
      have := (sF_zero hw (c.getD i 0) l').2 (hf2 q.1)
      omega
    · rfl
  rw [tv_eq hs, tval, if_neg h0, inc_snoc]
  have := tmin_le (rs := rs) (c := c) (sp := sp) (L := tabL rs c sp c.length s) (m := c.length) hi hb
  rw [tv_tab (by omega) (by omega), hc] at this
  omega
theorem tab_hit (hw : Wok rs) (hd : c.Nodup) (hl : c.length ≤ 24) : ∀ (s : Nat), s < 2 ^ c.length → tv rs sp c s < never → ∃ l : List Int, l.Perm (subL c s c.length) ∧ feas rs sp l ∧ inc rs l = tv rs sp c s := by
  have h24 : 2 ^ c.length ≤ 16777216 := by
    have := Nat.pow_le_pow_right (n := 2) (by omega) hl
    simpa using this
  intro s
  induction s using Nat.strongRecOn with
  | ind s ih =>
  intro hs hlt
  by_cases h0 : s = 0
  · subst h0
    refine ⟨[], ?_, trivial, by rw [tv_zero]; rfl⟩
    have : subL c 0 c.length = [] := by
      rcases hq : subL c 0 c.length with _ | ⟨y, l⟩
      · rfl
      · have : y ∈ subL c 0 c.length := by rw [hq]; simp
        obtain ⟨j, _, h2, _⟩ := subL_iff.1 this
        simp at h2
    rw [this]
  have he := tv_eq (rs := rs) (sp := sp) hs
  rw [tval, if_neg h0] at he
  rw [he] at hlt
  obtain ⟨i, hi, hb, e⟩ := tmin_att hlt
  have hle := bit_le hb
  have hpp : 0 < 2 ^ i := Nat.two_pow_pos i
  rw [tv_tab (by omega) (by omega)] at e
  have b1 := tv_bound (sp := sp) hw hl (s - 2 ^ i)
  have b2 := costS_bound (c := c) (sp := sp) hw hl i (s - 2 ^ i)
  obtain ⟨l', hp', hf', hi'⟩ := ih (s - 2 ^ i) (by omega) (by omega) (by omega)
  have hcl : costS rs c sp c.length i (s - 2 ^ i) < never := by omega
  have hb1 : bhK rs c i (s - 2 ^ i) c.length = sF rs (c.getD i 0) l' := by rw [bhK_sF, sF_perm _ hp']
  have hcs : costS rs c sp c.length i (s - 2 ^ i) = sF rs (c.getD i 0) l' ∧ (c.getD i 0 = sp → sF rs (c.getD i 0) l' = 0) := by
    rw [costS, hb1] at hcl ⊢
    split at hcl
    · omega
    · rename_i q
      rw [if_neg q]
      refine ⟨rfl, fun z => ?_⟩
      have := sF_nonneg hw (c.getD i 0) l'
      rcases Int.lt_or_le 0 (sF rs (c.getD i 0) l') with w | w
      · exact absurd ⟨z, w⟩ q
      · omega
  refine ⟨l' ++ [c.getD i 0], ?_, (feas_snoc _ _).2 ⟨hf', fun z => (sF_zero hw _ _).1 (hcs.2 z)⟩, ?_⟩
  · have h1 : (l' ++ [c.getD i 0]).Perm (c.getD i 0 :: l') := by
      have := List.perm_append_comm (l₁ := l') (l₂ := [c.getD i 0])
      exact this
    exact (h1.trans (hp'.cons _)).trans (subL_less hd (by omega) hi hb).symm
  · rw [inc_snoc, he, e, hi', hcs.1]
end
end Go.Air
set_option maxRecDepth 100000
namespace Go.Air
def down (R : Nat → Nat → Bool) (n a : Nat) : Nat := ((List.range n).filter fun c => R c a || decide (c = a)).length
theorem free_exists {R : Nat → Nat → Bool} {n : Nat} {d : Nat → Bool} (htr : ∀ a b c, R a b = true → R b c = true → R a c = true) : ∀ (k a : Nat), down R n a ≤ k → a < n → d a = false → ∃ b, b < n ∧ freeG R n d b = true := by
  intro k
  induction k with
  | zero =>
    intro a hk ha hd
    exfalso
    have : a ∈ (List.range n).filter fun c => R c a || decide (c = a) := List.mem_filter.2 ⟨List.mem_range.2 ha, by simp⟩
    have := List.length_pos_of_mem this
    unfold down at hk
    omega
  | succ k ih =>
    intro a hk ha hd
    by_cases hf : freeG R n d a = true
    · exact ⟨a, ha, hf⟩
    · obtain ⟨b, hb, h1, h2, h3⟩ : ∃ b, b < n ∧ R b a = true ∧ R a b = false ∧ d b = false := by
        simp only [freeG, hd, Bool.not_false, Bool.true_and, List.all_eq_true, List.mem_range, Bool.not_eq_true', Bool.and_eq_false_iff, Bool.not_eq_false'] at hf
        simp only [Classical.not_forall, not_or, Bool.not_eq_false, Bool.not_eq_true] at hf
        obtain ⟨b, hb, ⟨h1, h2⟩, h3⟩ := hf
        exact ⟨b, hb, h1, h2, h3⟩
      refine ih b ?_ hb h3
      have : down R n b < down R n a := by
        refine filter_lt (a := a) ?_ (List.mem_range.2 ha) ?_ ?_
        · intro x hx
          simp only [Bool.or_eq_true, decide_eq_true_eq] at hx ⊢
          rcases hx with hx | rfl
          · exact .inl (htr _ _ _ hx h1)
          · exact .inl h1
        · simp only [h2, Bool.false_or, decide_eq_false_iff_not]
          rintro rfl
          rw [h1] at h2; cases h2
        · simp
      omega
theorem rch_trans {e : Nat → Nat → Bool} {a b c : Nat} (h1 : rch e a b = true) (h2 : rch e b c = true) : rch e a c = true := rch_iff.2 ((rch_iff.1 h1).trans (rch_iff.1 h2))
structure CInv (R : Nat → Nat → Bool) (n : Nat) (d : Nat → Bool) (l : List (List Int)) : Prop where
  mem : ∀ x : Int, (∃ C ∈ l, x ∈ C) ↔ ∃ a : Nat, x = (a : Int) ∧ a < n ∧ d a = false
  nd : ∀ C ∈ l, C.Nodup
  one : ∀ C ∈ l, ∃ a : Nat, a < n ∧ C = setL n (mate R n a)
  ord : l.Pairwise fun C C' => ∀ a b : Nat, (a : Int) ∈ C → (b : Int) ∈ C' → a ≠ b ∧ R b a = false
def Whole (R : Nat → Nat → Bool) (n : Nat) (d : Nat → Bool) : Prop := ∀ a b, a < n → b < n → R a b = true → R b a = true → d a = true → d b = true
theorem mate_sym {R : Nat → Nat → Bool} {n a b : Nat} (htr : ∀ a b c, R a b = true → R b c = true → R a c = true) (ha : a < n) (h : mate R n a b = true) {c : Nat} (hc : mate R n a c = true) (hne : b ≠ c) : R b c = true := by
  simp only [mate, Bool.and_eq_true, Bool.or_eq_true, decide_eq_true_eq] at h hc
  obtain ⟨_, h⟩ := h
  obtain ⟨_, hc⟩ := hc
  rcases h with rfl | ⟨h1, h2⟩
  · rcases hc with rfl | ⟨h3, h4⟩
    · exact absurd rfl hne
    · exact h3
  · rcases hc with rfl | ⟨h3, h4⟩
    · exact h2
    · exact htr _ _ _ h2 h3
theorem comps_inv {R : Nat → Nat → Bool} {n : Nat} (htr : ∀ a b c, R a b = true → R b c = true → R a c = true) : ∀ (k : Nat) (d : Nat → Bool), undone n d ≤ k → Whole R n d → CInv R n d (comps R n k d) := by
  intro k
  induction k with
  | zero =>
    intro d hu hw
    have hz : (List.range n).filter (fun a => !d a) = [] := List.eq_nil_of_length_eq_zero (Nat.le_zero.1 hu)
    refine ⟨fun x => ⟨by rintro ⟨C, hC, _⟩; simp [comps] at hC, ?_⟩, fun C hC => by simp [comps] at hC, fun C hC => by simp [comps] at hC, by simp [comps]⟩
    rintro ⟨a, _, ha, hd⟩
    have := List.filter_eq_nil_iff.1 hz a (List.mem_range.2 ha)
    rw [hd] at this
    exact absurd rfl this
  | succ k ih =>
    intro d hu hw
    rw [comps]
    split
    · rename_i hnone
      refine ⟨fun x => ⟨by rintro ⟨C, hC, _⟩; simp at hC, ?_⟩, fun C hC => by simp at hC, fun C hC => by simp at hC, by simp⟩
      rintro ⟨a, _, ha, hd⟩
      obtain ⟨b, hb, hf⟩ := free_exists (d := d) htr (down R n a) a (Nat.le_refl _) ha hd
      have := List.find?_eq_none.1 hnone b (List.mem_range.2 hb)
      exact absurd hf this
    · rename_i a hsome
      obtain ⟨ha, hf⟩ := free_find hsome
      have hda : d a = false := by
        simp only [freeG, Bool.and_eq_true, Bool.not_eq_true'] at hf
        exact hf.1
      have hmd : ∀ b, mate R n a b = true → d b = false := by
        intro b hb
        by_cases q : a = b
        · subst q; exact hda
        · have h1 := mate_sym htr ha (mate_self ha) hb q
          have h2 := mate_sym htr ha hb (mate_self ha) (Ne.symm q)
          rcases hq : d b with _ | _
          · rfl
          · rw [hw b a (mate_lt hb) ha h2 h1 hq] at hda; cases hda
      have hw' : Whole R n (addS d (mate R n a)) := by
        intro x y hx hy h1 h2 h3
        simp only [addS, Bool.or_eq_true] at h3 ⊢
        rcases h3 with h3 | h3
        · exact .inl (hw x y hx hy h1 h2 h3)
        · right
          simp only [mate, Bool.and_eq_true, Bool.or_eq_true, decide_eq_true_eq] at h3 ⊢
          refine ⟨hy, ?_⟩
          rcases h3.2 with rfl | ⟨h4, h5⟩
          · exact .inr ⟨h1, h2⟩
          · exact .inr ⟨htr _ _ _ h4 h1, htr _ _ _ h2 h5⟩
      have hul := undone_lt ha hf
      have I := ih (addS d (mate R n a)) (by omega) hw'
      refine ⟨fun x => ?_, fun C hC => ?_, fun C hC => ?_, List.pairwise_cons.2 ⟨fun C' hC' u v hu hv => ?_, I.ord⟩⟩
      · constructor
        · rintro ⟨C, hC, hx⟩
          rcases List.mem_cons.1 hC with rfl | hC
          · obtain ⟨j, rfl, hj, hs⟩ := setL_mem.1 hx
            exact ⟨j, rfl, hj, hmd j hs⟩
          · obtain ⟨j, rfl, hj, hs⟩ := (I.mem x).1 ⟨C, hC, hx⟩
            simp only [addS, Bool.or_eq_false_iff] at hs
            exact ⟨j, rfl, hj, hs.1⟩
        · rintro ⟨j, rfl, hj, hs⟩
          by_cases q : mate R n a j = true
          · exact ⟨_, List.mem_cons_self, setL_mem.2 ⟨j, rfl, hj, q⟩⟩
          · obtain ⟨C, hC, hx⟩ := (I.mem (j : Int)).2 ⟨j, rfl, hj, by simp [addS, hs, q]⟩
            exact ⟨C, List.mem_cons_of_mem _ hC, hx⟩
      · rcases List.mem_cons.1 hC with rfl | hC
        · exact setL_nodup _ _
        · exact I.nd C hC
      · rcases List.mem_cons.1 hC with rfl | hC
        · exact ⟨a, ha, rfl⟩
        · exact I.one C hC
      · obtain ⟨u', e1, _, hmu⟩ := setL_mem.1 hu
        obtain rfl : u = u' := by omega
        obtain ⟨v', e2, hvn, hsv⟩ := (I.mem (v : Int)).1 ⟨C', hC', hv⟩
        obtain rfl : v = v' := by omega
        simp only [addS, Bool.or_eq_false_iff] at hsv
        refine ⟨by rintro rfl; rw [hmu] at hsv; exact absurd hsv.2 (by simp), ?_⟩
        rcases hq : R v u with _ | _
        · rfl
        · exfalso
          have hva : R v a = true := by
            by_cases q : a = u
            · subst q; exact hq
            · exact htr _ _ _ hq (mate_sym htr ha hmu (mate_self ha) (Ne.symm q))
          simp only [freeG, Bool.and_eq_true, Bool.not_eq_true', List.all_eq_true, List.mem_range, Bool.and_eq_false_iff, Bool.not_eq_false'] at hf
          rcases hf.2 v hvn with (h | h) | h
          · rw [hva] at h; cases h
          · have : mate R n a v = true := by simp [mate, hvn, h, hva]
            rw [this] at hsv; exact absurd hsv.2 (by simp)
          · rw [hsv.1] at h; cases h
theorem wt_pos_edge {rs : List Arw} {a b : Nat} (h : wt (a : Int) (b : Int) rs ≠ 0) : eA rs a b = true := by
  rw [eA_iff]
  refine Classical.byContradiction fun hn => h (wt_none fun r hr q => hn ⟨r, hr, q⟩)
theorem cross_zero {rs : List Arw} {a b : Nat} (h : rch (eA rs) b a = false) : wt (b : Int) (a : Int) rs = 0 := by
  refine Classical.byContradiction fun q => ?_
  have := rch_iff.2 (TC.base (wt_pos_edge q))
  rw [this] at h; cases h
theorem comps_all {n : Nat} {rs : List Arw} : CInv (rch (eA rs)) n noneD (comps (rch (eA rs)) n n noneD) :=
  comps_inv (R := rch (eA rs)) (fun _ _ _ => rch_trans) n noneD (by rw [undone_none]; exact Nat.le_refl _) (fun a b _ _ _ _ h => by cases h)
section
variable {rs : List Arw} {sp : Int}
def NoBack (rs : List Arw) (a b : List Int) : Prop := ∀ x ∈ a, ∀ y ∈ b, wt y x rs = 0
theorem sT_none {x : Int} : ∀ {l : List Int}, (∀ y ∈ l, wt y x rs = 0) → sT rs x l = 0
  | [], _ => rfl
  | y :: l, h => by
    simp only [sT, h y (by simp), sT_none (l := l) fun z hz => h z (by simp [hz])]; omega
theorem inc_join : ∀ {a b : List Int}, NoBack rs a b → inc rs (a ++ b) = inc rs a + inc rs b
  | [], b, _ => by simp [inc]
  | x :: a, b, h => by
    have ih := inc_join (a := a) (b := b) fun z hz => h z (by simp [hz])
    simp only [List.cons_append, inc, sT_append, ih, sT_none (h x (by simp))]
    omega
theorem feas_join : ∀ {a b : List Int}, NoBack rs a b → feas rs sp a → feas rs sp b → feas rs sp (a ++ b)
  | [], b, _, _, hb => hb
  | x :: a, b, h, ha, hb => by
    refine ⟨fun y hy q => ?_, feas_join (a := a) (fun z hz => h z (by simp [hz])) ha.2 hb⟩
    rcases List.mem_append.1 hy with hy | hy
    · exact ha.1 y hy q
    · exact h x (by simp) y hy
end
end Go.Air
set_option maxRecDepth 100000
namespace Go.Air
theorem setOf_bit (c : List Int) (d : Nat → Bool) (j : Nat) : ∀ k, (setOf c d k).testBit j = (decide (j < k) && d (c.getD j 0).toNat)
  | 0 => by simp [setOf]
  | k + 1 => by
    have ih := setOf_bit c d j k
    have hlt := setOf_lt c d k
    simp only [setOf]
    by_cases q : j = k
    · subst q
      have h0 : (setOf c d j).testBit j = false := by rw [ih]; simp
      split
      · rename_i h
        rw [Nat.testBit_or, h0, Nat.testBit_two_pow_self, h]; simp
      · rename_i h
        rw [h0]
        have : d (c.getD j 0).toNat = false := by simpa using h
        rw [this]; simp
    · have hjk : (j < k + 1) ↔ (j < k) := by omega
      simp only [hjk]
      split
      · rw [Nat.testBit_or, ih, Nat.testBit_two_pow]
        have : ¬ k = j := fun z => q z.symm
        simp [this]
      · exact ih
def leftOf (d : Nat → Bool) (C : List Int) : List Int := C.filter fun y => d y.toNat
theorem nodup_filter {p : Int → Bool} {l : List Int} (h : l.Nodup) : (l.filter p).Nodup := h.sublist List.filter_sublist
theorem getD_mem {c : List Int} {j : Nat} (hj : j < c.length) : c.getD j 0 ∈ c := by
  rw [List.getD_eq_getElem?_getD, List.getElem?_eq_getElem hj]
  exact List.getElem_mem hj
theorem mem_getD {c : List Int} {y : Int} (h : y ∈ c) : ∃ j, j < c.length ∧ c.getD j 0 = y := by
  obtain ⟨j, hj, e⟩ := List.getElem_of_mem h
  exact ⟨j, hj, by rw [List.getD_eq_getElem?_getD, List.getElem?_eq_getElem hj, e]; rfl⟩
theorem subL_left {c : List Int} (hd : c.Nodup) (d : Nat → Bool) : (subL c (setOf c d c.length) c.length).Perm (leftOf d c) := by
  refine (List.perm_ext_iff_of_nodup (subL_nodup hd _ _ (Nat.le_refl _)) (nodup_filter hd)).2 fun y => ?_
  rw [subL_iff, List.mem_filter]
  constructor
  · rintro ⟨j, h1, h2, rfl⟩
    rw [setOf_bit] at h2
    simp only [h1, decide_true, Bool.true_and] at h2
    exact ⟨getD_mem h1, h2⟩
  · rintro ⟨h1, h2⟩
    obtain ⟨j, h3, rfl⟩ := mem_getD h1
    exact ⟨j, h3, by rw [setOf_bit, h2, decide_eq_true h3]; rfl, rfl⟩
def Disj (xss : List (List Int)) : Prop := xss.Pairwise fun C C' => ∀ x, x ∈ C → x ∉ C'
section
variable {rs : List Arw} {sp : Int} {d : Nat → Bool}
theorem filter_comm' (p q : Int → Bool) (l : List Int) (h : ∀ x, q x = true → p x = true) : (l.filter p).filter q = l.filter q := by
  rw [List.filter_filter]
  refine List.filter_congr fun x _ => ?_
  cases hq : q x
  · simp
  · simp [h x hq]
theorem left_low0 (hw : Wok rs) : ∀ (xss : List (List Int)) (xs : List Int), Disj xss → (∀ c ∈ xss, c.Nodup ∧ c.length ≤ 24) → (∀ c ∈ xss, (xs.filter fun y => decide (y ∈ c)).Perm (leftOf d c)) → feas rs sp xs → leftS rs sp d xss ≤ inc rs xs
  | [], xs, _, _, _, _ => by
    simp only [leftS]; exact inc_nonneg hw xs
  | c :: l, xs, hdj, hc, hp, hf => by
    obtain ⟨hd1, hd2⟩ := List.pairwise_cons.1 hdj
    obtain ⟨hcn, hcl⟩ := hc c (by simp)
    have h1 := tab_low (sp := sp) hw hcn hcl (setOf c d c.length) (setOf_lt _ _ _) _ ((hp c (by simp)).trans (subL_left hcn d).symm) (feas_filter _ xs hf)
    have h2 := left_low0 hw l (xs.filter fun y => !decide (y ∈ c)) hd2 (fun c' h' => hc c' (by simp [h'])) (fun c' h' => by
      rw [filter_comm' _ _ _ (fun x hx => by
        simp only [decide_eq_true_eq, Bool.not_eq_true', decide_eq_false_iff_not] at hx ⊢
        exact fun q => hd1 c' h' x q hx)]
      exact hp c' (by simp [h'])) (feas_filter _ xs hf)
    have h3 := inc_split hw (fun y => decide (y ∈ c)) xs
    simp only [leftS]
    unfold tv at h1
    omega
theorem small_inc {l : List Int} (h : l.length ≤ 1) : inc rs l = 0 ∧ feas rs sp l := by
  match l, h with
  | [], _ => exact ⟨rfl, trivial⟩
  | [x], _ => exact ⟨by simp [inc, sT], by simp [feas]⟩
theorem left_hit0 (hw : Wok rs) : ∀ (CS : List (List Int)), (∀ C ∈ CS, C.Nodup ∧ C.length ≤ 24) → CS.Pairwise (fun C C' => NoBack rs C C') → (∀ C ∈ CS, big C = true → tv rs sp C (setOf C d C.length) < never) →
    ∃ xs : List Int, xs.Perm (CS.flatMap (leftOf d)) ∧ feas rs sp xs ∧ inc rs xs = leftS rs sp d (CS.filter big)
  | [], _, _, _ => ⟨[], by simp, trivial, by simp [inc, leftS]⟩
  | C :: l, hc, hpw, ht => by
    obtain ⟨hp1, hp2⟩ := List.pairwise_cons.1 hpw
    obtain ⟨hcn, hcl⟩ := hc C (by simp)
    obtain ⟨xs, q1, q2, q3⟩ := left_hit0 hw l (fun C' h' => hc C' (by simp [h'])) hp2 (fun C' h' => ht C' (by simp [h']))
    obtain ⟨o, o1, o2, o3⟩ : ∃ o : List Int, o.Perm (leftOf d C) ∧ feas rs sp o ∧ inc rs o = if big C = true then tv rs sp C (setOf C d C.length) else 0 := by
      by_cases hb : big C = true
      · rw [if_pos hb]
        obtain ⟨o, o1, o2, o3⟩ := tab_hit hw hcn hcl (setOf C d C.length) (setOf_lt _ _ _) (ht C (by simp) hb)
        exact ⟨o, o1.trans (subL_left hcn d), o2, o3⟩
      · rw [if_neg hb]
        have hl : (leftOf d C).length ≤ 1 := by
          have := List.length_filter_le (fun y => d y.toNat) C
          unfold big at hb
          simp at hb
          unfold leftOf
          omega
        exact ⟨leftOf d C, .refl _, (small_inc hl).2, (small_inc (sp := sp) hl).1⟩
    have hnb : NoBack rs o xs := by
      intro x hx y hy
      have hx' : x ∈ C := (List.mem_filter.1 (o1.mem_iff.1 hx)).1
      obtain ⟨C', h1, h2⟩ := List.mem_flatMap.1 (q1.mem_iff.1 hy)
      exact hp1 C' h1 x hx' y (List.mem_filter.1 h2).1
    refine ⟨o ++ xs, ?_, feas_join hnb o2 q2, ?_⟩
    · rw [List.flatMap_cons]
      exact o1.append q1
    · rw [inc_join hnb, o3, q3]
      by_cases hb : big C = true
      · rw [if_pos hb, List.filter_cons_of_pos hb]; rfl
      · rw [if_neg hb, List.filter_cons_of_neg hb]; omega
end
structure GoodC (n : Nat) (rs : List Arw) : Prop where
  n24 : n ≤ 24
  gr : GoodR (n : Int) rs
  ck : checkS (n : Int) rs = 0
  ce : circE (circR (n : Int) rs) = 0
theorem goodC_of {N : Int} {rs : List Arw} (h : circledS N rs = 0) : ∃ n : Nat, N = (n : Int) ∧ GoodC n rs := by
  obtain ⟨h1, h2⟩ := circled_ok h
  obtain ⟨n, rfl, hn, gr⟩ := check_ok h1
  exact ⟨n, rfl, hn, gr, h1, h2⟩
theorem GoodC.wok {n : Nat} {rs : List Arw} (g : GoodC n rs) : Wok rs := wok_of g.gr.1
theorem GoodC.comps {n : Nat} {rs : List Arw} (g : GoodC n rs) : circR (n : Int) rs = (comps (rch (eA rs)) n n noneD).filter big := by
  unfold circR compsR
  rw [if_pos g.ck]; simp
section
variable {rs : List Arw} {n : Nat}
theorem comp_len {C : List Int} (h : C ∈ comps (rch (eA rs)) n n noneD) (hn : n ≤ 24) : C.Nodup ∧ C.length ≤ 24 := by
  obtain ⟨a, _, rfl⟩ := comps_all.one C h
  exact ⟨setL_nodup _ _, Nat.le_trans (setL_len _ _) hn⟩
theorem comps_noback : (comps (rch (eA rs)) n n noneD).Pairwise fun C C' => NoBack rs C C' := by
  refine List.Pairwise.imp_of_mem ?_ (comps_all (rs := rs)).ord
  intro C C' hC hC' h x hx y hy
  obtain ⟨a, rfl, _, _⟩ := (comps_all.mem x).1 ⟨C, hC, hx⟩
  obtain ⟨b, rfl, _, _⟩ := (comps_all.mem y).1 ⟨C', hC', hy⟩
  exact cross_zero (h a b hx hy).2
theorem comps_disj : Disj (comps (rch (eA rs)) n n noneD) := by
  refine List.Pairwise.imp_of_mem ?_ (comps_all (rs := rs)).ord
  intro C C' hC hC' h x hx hx'
  obtain ⟨a, rfl, _, _⟩ := (comps_all.mem x).1 ⟨C, hC, hx⟩
  exact (h a a hx hx').1 rfl
theorem nodup_flatMap {d : Nat → Bool} : ∀ {CS : List (List Int)}, Disj CS → (∀ C ∈ CS, C.Nodup) → (CS.flatMap (leftOf d)).Nodup
  | [], _, _ => by simp
  | C :: l, hd, hn => by
    obtain ⟨h1, h2⟩ := List.pairwise_cons.1 hd
    rw [List.flatMap_cons]
    refine List.nodup_append.2 ⟨nodup_filter (hn C (by simp)), nodup_flatMap h2 fun C' h' => hn C' (by simp [h']), fun a ha b hb => ?_⟩
    rintro rfl
    obtain ⟨C', h3, h4⟩ := List.mem_flatMap.1 hb
    exact h1 C' h3 a (List.mem_filter.1 ha).1 (List.mem_filter.1 h4).1
theorem comps_perm (d : Nat → Bool) : ((comps (rch (eA rs)) n n noneD).flatMap (leftOf d)).Perm (setL n d) := by
  refine (List.perm_ext_iff_of_nodup (nodup_flatMap comps_disj fun C h => comps_all.nd C h) (setL_nodup _ _)).2 fun y => ?_
  rw [List.mem_flatMap, setL_mem]
  constructor
  · rintro ⟨C, h1, h2⟩
    obtain ⟨h3, h4⟩ := List.mem_filter.1 h2
    obtain ⟨a, rfl, ha, _⟩ := (comps_all.mem y).1 ⟨C, h1, h3⟩
    exact ⟨a, rfl, ha, h4⟩
  · rintro ⟨j, rfl, hj, hd⟩
    obtain ⟨C, h1, h2⟩ := (comps_all (rs := rs) (n := n).mem (j : Int)).2 ⟨j, rfl, hj, rfl⟩
    exact ⟨C, h1, List.mem_filter.2 ⟨h2, hd⟩⟩
theorem filter_circle {d : Nat → Bool} {c xs : List Int} (hc : c ∈ circR (n : Int) rs) (hx : xs.Perm (setL n d)) : (xs.filter fun y => decide (y ∈ c)).Perm (leftOf d c) := by
  obtain ⟨n', a, hn', _, _, rfl, _⟩ := circ_mem hc
  obtain rfl : n' = n := by omega
  refine (List.perm_ext_iff_of_nodup (nodup_filter ((hx.nodup_iff).2 (setL_nodup _ _))) (nodup_filter (setL_nodup _ _))).2 fun y => ?_
  rw [List.mem_filter, List.mem_filter, hx.mem_iff, setL_mem]
  constructor
  · rintro ⟨⟨j, rfl, hj, hd⟩, h⟩
    exact ⟨by simpa using h, hd⟩
  · rintro ⟨h1, h2⟩
    obtain ⟨j, rfl, hj, _⟩ := setL_mem.1 h1
    exact ⟨⟨j, rfl, hj, h2⟩, by simpa using h1⟩
theorem circR_disj (g : GoodC n rs) : Disj (circR (n : Int) rs) := by
  rw [g.comps]
  exact List.Pairwise.filter _ comps_disj
theorem left_low (g : GoodC n rs) {sp : Int} {d : Nat → Bool} {xs : List Int} (hx : xs.Perm (setL n d)) (hf : feas rs sp xs) : leftS rs sp d (circR (n : Int) rs) ≤ inc rs xs :=
  left_low0 g.wok _ xs (circR_disj g) (fun c hc => ⟨(circ_ok g.ce c hc).2.1, by have := (circ_ok g.ce c hc).1; omega⟩) (fun c hc => filter_circle hc hx) hf
theorem inc_bound (hw : Wok rs) : ∀ l : List Int, inc rs l ≤ 1000 * (l.length * l.length)
  | [] => by simp [inc]
  | x :: l => by
    have ih := inc_bound hw l
    have := sT_le hw x l
    simp only [inc, List.length_cons]
    have e : ((l.length + 1 : Nat) : Int) * ((l.length + 1 : Nat) : Int) = l.length * l.length + 2 * l.length + 1 := by
      push_cast
      rw [Int.add_mul, Int.mul_add, Int.mul_one, Int.one_mul]
      omega
    rw [e]
    omega
theorem feas_some (sp : Int) (l : List Int) (hd : l.Nodup) : ∃ xs : List Int, xs.Perm l ∧ feas rs sp xs := by
  have key : ∀ l : List Int, sp ∉ l → feas rs sp l := by
    intro l
    induction l with
    | nil => intro _; trivial
    | cons x l ih =>
      intro h
      refine ⟨fun y hy q => ?_, ih fun q => h (by simp [q])⟩
      subst q
      exact absurd (List.mem_cons_of_mem _ hy) h
  by_cases hs : sp ∈ l
  · refine ⟨sp :: l.erase sp, (List.perm_cons_erase hs).symm, ?_⟩
    have hn : sp ∉ l.erase sp := by
      have := (List.perm_cons_erase hs).nodup_iff.1 hd
      exact (List.nodup_cons.1 this).1
    exact ⟨fun y hy q => absurd (q ▸ hy) hn, key _ hn⟩
  · exact ⟨l, .refl _, key l hs⟩
theorem left_small (g : GoodC n rs) (sp : Int) (d : Nat → Bool) : leftS rs sp d (circR (n : Int) rs) ≤ 576000 := by
  obtain ⟨xs, h1, h2⟩ := feas_some (rs := rs) sp (setL n d) (setL_nodup _ _)
  have h3 := left_low g h1 h2
  have h4 := inc_bound g.wok xs
  have h5 : xs.length ≤ 24 := by rw [h1.length_eq]; exact Nat.le_trans (setL_len _ _) g.n24
  have h6 : xs.length * xs.length ≤ 24 * 24 := Nat.mul_le_mul h5 h5
  have h7 : ((xs.length : Int) * (xs.length : Int)) ≤ 576 := by
    have : ((xs.length * xs.length : Nat) : Int) ≤ 576 := by omega
    simpa using this
  omega
theorem leftS_each {sp : Int} {d : Nat → Bool} (hw : Wok rs) : ∀ {xss : List (List Int)}, (∀ c ∈ xss, c.length ≤ 24) → ∀ c ∈ xss, tv rs sp c (setOf c d c.length) ≤ leftS rs sp d xss
  | [], _, c, h => by simp at h
  | c' :: l, hl, c, h => by
    have b := leftS_bound hw (sp := sp) (d := d) l fun x hx => hl x (by simp [hx])
    have b2 := tv_bound (sp := sp) hw (hl c' (by simp)) (setOf c' d c'.length)
    simp only [leftS]
    unfold tv at b2 ⊢
    rcases List.mem_cons.1 h with rfl | h
    · omega
    · have := leftS_each (sp := sp) (d := d) hw (xss := l) (fun x hx => hl x (by simp [hx])) c h
      unfold tv at this
      omega
theorem left_hit (g : GoodC n rs) (sp : Int) (d : Nat → Bool) : ∃ xs : List Int, xs.Perm (setL n d) ∧ feas rs sp xs ∧ inc rs xs = leftS rs sp d (circR (n : Int) rs) := by
  have hs := left_small g sp d
  obtain ⟨xs, h1, h2, h3⟩ := left_hit0 (sp := sp) (d := d) g.wok (comps (rch (eA rs)) n n noneD) (fun C h => comp_len h g.n24) comps_noback (fun C hC hb => by
    have hm : C ∈ circR (n : Int) rs := by rw [g.comps]; exact List.mem_filter.2 ⟨hC, hb⟩
    have := leftS_each (sp := sp) (d := d) g.wok (fun c hc => by have := (circ_ok g.ce c hc).1; omega) C hm
    unfold never
    omega)
  exact ⟨xs, h1.trans (comps_perm d), h2, by rw [h3, g.comps]⟩
end
end Go.Air
set_option maxRecDepth 100000
namespace Go.Air
def badR (xs : List Int) (r : Arw) : Prop := r.f ∈ xs ∧ r.t ∈ xs ∧ posN r.t xs < posN r.f xs
instance (xs : List Int) (r : Arw) : Decidable (badR xs r) := by unfold badR; infer_instance
def badW (xs : List Int) (r : Arw) : Int := if badR xs r then r.w else 0
def toX (x : Int) (l : List Int) (r : Arw) : Int := if r.t = x ∧ r.f ∈ l then r.w else 0
section
variable {rs : List Arw}
theorem toX_sT {N : Int} (gr : GoodR N rs) (x : Int) : ∀ {l : List Int}, l.Nodup → offT rs (toX x l) = sT rs x l
  | [], _ => by
    have : offT rs (toX x []) = offT rs (hit x []) := offT_congr fun r _ => by simp [toX, hit]
    rw [this, hit_nil]; rfl
  | y :: l, hd => by
    obtain ⟨h1, h2⟩ := List.nodup_cons.1 hd
    have ih := toX_sT gr x h2
    simp only [sT]
    rw [← ih, ← offT_one y x rs gr.2, ← offT_sum]
    refine offT_congr fun r _ => ?_
    simp only [toX, one, List.mem_cons]
    by_cases a : r.t = x
    · by_cases b : r.f = y
      · have : r.f ∉ l := by rw [b]; exact h1
        simp [a, b, h1]
      · simp [a, b]
    · simp [a]
theorem bad_iff {x : Int} {l : List Int} (hx : x ∉ l) (r : Arw) : (badR (x :: l) r ↔ (r.t = x ∧ r.f ∈ l) ∨ badR l r) ∧ ((r.t = x ∧ r.f ∈ l) → ¬ badR l r) := by
  refine ⟨?_, fun q z => hx (q.1 ▸ z.2.1)⟩
  constructor
  · rintro ⟨h1, h2, h3⟩
    by_cases a : r.t = x
    · left
      refine ⟨a, ?_⟩
      rcases List.mem_cons.1 h1 with h1 | h1
      · simp only [posN] at h3
        rw [if_pos a.symm, if_pos h1.symm] at h3
        omega
      · exact h1
    · right
      have hne : ¬ x = r.t := fun q => a q.symm
      have ht : r.t ∈ l := by
        rcases List.mem_cons.1 h2 with h | h
        · exact absurd h a
        · exact h
      by_cases b : r.f = x
      · simp only [posN] at h3
        rw [if_neg hne, if_pos b.symm] at h3
        omega
      · have hne2 : ¬ x = r.f := fun q => b q.symm
        simp only [posN] at h3
        rw [if_neg hne, if_neg hne2] at h3
        refine ⟨?_, ht, by omega⟩
        rcases List.mem_cons.1 h1 with h | h
        · exact absurd h b
        · exact h
  · rintro (⟨a, b⟩ | ⟨h1, h2, h3⟩)
    · have hne : ¬ x = r.f := fun q => hx (q ▸ b)
      refine ⟨List.mem_cons_of_mem _ b, by rw [a]; simp, ?_⟩
      simp only [posN]
      rw [if_pos a.symm, if_neg hne]; omega
    · have hne : ¬ x = r.t := fun q => hx (q ▸ h2)
      have hne2 : ¬ x = r.f := fun q => hx (q ▸ h1)
      refine ⟨List.mem_cons_of_mem _ h1, List.mem_cons_of_mem _ h2, ?_⟩
      simp only [posN]
      rw [if_neg hne, if_neg hne2]; omega
theorem bad_cons {x : Int} {l : List Int} (hx : x ∉ l) (r : Arw) : badW (x :: l) r = toX x l r + badW l r := by
  obtain ⟨h1, h2⟩ := bad_iff hx r
  unfold badW toX
  by_cases a : r.t = x ∧ r.f ∈ l
  · rw [if_pos (h1.2 (.inl a)), if_pos a, if_neg (h2 a)]; omega
  · rw [if_neg a, Int.zero_add]
    by_cases b : badR l r
    · rw [if_pos (h1.2 (.inr b)), if_pos b]
    · rw [if_neg (fun q => (h1.1 q).elim a b), if_neg b]
theorem bad_inc {N : Int} (gr : GoodR N rs) : ∀ {xs : List Int}, xs.Nodup → offT rs (badW xs) = inc rs xs
  | [], _ => by
    have : offT rs (badW []) = offT rs (hit 0 []) := offT_congr fun r _ => by simp [badW, badR, hit]
    rw [this, hit_nil]; rfl
  | x :: l, hd => by
    obtain ⟨h1, h2⟩ := List.nodup_cons.1 hd
    have ih := bad_inc gr h2
    simp only [inc]
    rw [← ih, ← toX_sT gr x h2, ← offT_sum]
    exact offT_congr fun r _ => bad_cons h1 r
theorem off_inc {N : Int} (gr : GoodR N rs) {xs : List Int} (go : GoodO N xs) : sumW (slS xs rs) = inc rs xs := by
  have : sumW (slS xs rs) = off rs xs := rfl
  rw [this, off_eq, ← bad_inc gr go.2.2]
  refine offT_congr fun r hr => ?_
  have hok := gr.1 r hr
  unfold OkA at hok
  have h1 := goodO_mem go hok.1 hok.2.1
  have h2 := goodO_mem go hok.2.2.1 hok.2.2.2.1
  simp [term, badW, badR, h1, h2]
theorem wt_ge {N : Int} {a b : Int} : ∀ {l : List Arw}, (∀ r ∈ l, OkA N r) → (∃ r ∈ l, r.f = a ∧ r.t = b) → 1 ≤ wt a b l
  | [], _, h => by obtain ⟨r, hr, _⟩ := h; simp at hr
  | r :: l, ok, h => by
    simp only [wt]
    by_cases q : r.f = a ∧ r.t = b
    · rw [if_pos q]
      have := ok r (by simp)
      unfold OkA at this
      omega
    · rw [if_neg q]
      obtain ⟨r', hr', e⟩ := h
      rcases List.mem_cons.1 hr' with rfl | hr'
      · exact absurd e q
      · exact wt_ge (fun x hx => ok x (by simp [hx])) ⟨r', hr', e⟩
theorem wt_iff {N : Int} {a b : Int} (gr : GoodR N rs) : wt a b rs ≠ 0 ↔ ∃ r ∈ rs, r.f = a ∧ r.t = b := by
  constructor
  · intro h
    refine Classical.byContradiction fun q => h (wt_none fun r hr z => q ⟨r, hr, z⟩)
  · intro h
    have := wt_ge gr.1 h
    omega
theorem feas_iff {N sp : Int} (gr : GoodR N rs) : ∀ {xs : List Int}, xs.Nodup → (feas rs sp xs ↔ ¬ ∃ r ∈ rs, r.f = sp ∧ badR xs r)
  | [], _ => by simp [feas, badR]
  | x :: l, hd => by
    obtain ⟨h1, h2⟩ := List.nodup_cons.1 hd
    have ih := feas_iff (sp := sp) gr h2
    simp only [feas, ih]
    have key : ∀ r ∈ rs, (badR (x :: l) r ↔ (r.t = x ∧ r.f ∈ l) ∨ badR l r) := fun r _ => (bad_iff h1 r).1
    constructor
    · rintro ⟨p1, p2⟩ ⟨r, hr, e, hb⟩
      rcases (key r hr).1 hb with ⟨q1, q2⟩ | q
      · have := p1 r.f q2 e
        exact (wt_iff gr).2 ⟨r, hr, rfl, q1⟩ this
      · exact p2 ⟨r, hr, e, q⟩
    · intro hn
      refine ⟨fun y hy q => ?_, fun ⟨r, hr, e, hb⟩ => hn ⟨r, hr, e, (key r hr).2 (.inr hb)⟩⟩
      refine Classical.byContradiction fun z => ?_
      obtain ⟨r, hr, e1, e2⟩ := (wt_iff gr).1 z
      exact hn ⟨r, hr, by rw [e1, q], (key r hr).2 (.inl ⟨e2, by rw [e1]; exact hy⟩)⟩
end
section
variable {rs : List Arw} {n : Nat} {sp : Int} {d : Nat → Bool}
def OptO (n : Nat) (rs : List Arw) (sp : Int) (d : Nat → Bool) (xs : List Int) : Prop := xs.Perm (setL n d) ∧ feas rs sp xs ∧ inc rs xs = leftS rs sp d (circR (n : Int) rs)
theorem setL_less {x : Nat} (hx : x < n) (hd : d x = true) : (setL n d).Perm ((x : Int) :: setL n (sput d x false)) := by
  have hn : (x : Int) ∉ setL n (sput d x false) := by
    intro h
    obtain ⟨j, e, _, h2⟩ := setL_mem.1 h
    obtain rfl : x = j := by omega
    simp [sput] at h2
  refine (List.perm_ext_iff_of_nodup (setL_nodup _ _) (List.nodup_cons.2 ⟨hn, setL_nodup _ _⟩)).2 fun y => ?_
  rw [List.mem_cons, setL_mem, setL_mem]
  constructor
  · rintro ⟨j, rfl, h1, h2⟩
    by_cases q : j = x
    · subst q; exact .inl rfl
    · exact .inr ⟨j, rfl, h1, by simp [sput, q, h2]⟩
  · rintro (h | ⟨j, rfl, h1, h2⟩)
    · exact ⟨x, h, hx, hd⟩
    · refine ⟨j, rfl, h1, ?_⟩
      unfold sput at h2
      split at h2
      · cases h2
      · exact h2
theorem nextK_sT (rs : List Arw) (d : Nat → Bool) (x : Nat) : ∀ k, nextK rs d x k = sT rs (x : Int) (setL k (sput d x false))
  | 0 => rfl
  | k + 1 => by
    rw [nextK, setL_succ, sT_append, nextK_sT rs d x k]
    by_cases q : k = x
    · subst q; simp [sput, sT]
    · have e : sput d x false k = d k := by simp [sput, q]
      rw [e]
      cases h : d k
      · simp [sT]
      · simp [q, sT]
def safe (rs : List Arw) (sp : Int) (n : Nat) (d : Nat → Bool) (x : Nat) : Prop := ∀ y ∈ setL n (sput d x false), y = sp → wt y (x : Int) rs = 0
theorem hurt_iff (hw : Wok rs) {x : Nat} : (∃ y, y < n ∧ hurt rs sp d x y) ↔ ¬ safe rs sp n d x := by
  constructor
  · rintro ⟨y, hy, h1, h2, h3, h4⟩ hs
    have := hs (y : Int) (setL_mem.2 ⟨y, rfl, hy, by simp [sput, h2, h1]⟩) h3
    omega
  · intro hs
    refine Classical.byContradiction fun hn => hs fun y hy q => ?_
    obtain ⟨j, rfl, hj, h2⟩ := setL_mem.1 hy
    have h3 : j ≠ x ∧ d j = true := by
      unfold sput at h2
      split at h2
      · cases h2
      · exact ⟨by assumption, h2⟩
    have := (hw (j : Int) (x : Int)).1
    rcases Int.lt_or_le 0 (wt (j : Int) (x : Int) rs) with z | z
    · exact absurd ⟨j, hj, h3.2, h3.1, q, z⟩ hn
    · omega
theorem nextS_safe (hw : Wok rs) (hn : n ≤ 24) {x : Nat} : (safe rs sp n d x → nextS rs sp n d x = sT rs (x : Int) (setL n (sput d x false))) ∧ (nextS rs sp n d x < never ↔ safe rs sp n d x) := by
  have hb := nextK_bound (d := d) (x := x) hw n
  by_cases h : safe rs sp n d x
  · have : nextS rs sp n d x = nextK rs d x n := by rw [nextS, if_neg fun q => (hurt_iff hw).1 q h]
    rw [this]
    refine ⟨fun _ => nextK_sT rs d x n, fun _ => h, fun _ => ?_⟩
    unfold never; omega
  · have : nextS rs sp n d x = never := by rw [nextS, if_pos ((hurt_iff hw).2 h)]
    rw [this]
    exact ⟨fun q => absurd q h, fun q => by omega, fun q => absurd q h⟩
theorem feas_cons_iff {x : Nat} {l : List Int} (hp : l.Perm (setL n (sput d x false))) : feas rs sp ((x : Int) :: l) ↔ safe rs sp n d x ∧ feas rs sp l := by
  simp only [feas, safe]
  constructor
  · rintro ⟨h1, h2⟩; exact ⟨fun y hy => h1 y (hp.mem_iff.2 hy), h2⟩
  · rintro ⟨h1, h2⟩; exact ⟨fun y hy => h1 y (hp.mem_iff.1 hy), h2⟩
theorem next_ge (g : GoodC n rs) {x : Nat} (hx : x < n) (hd : d x = true) (hs : safe rs sp n d x) : leftS rs sp d (circR (n : Int) rs) ≤ sT rs (x : Int) (setL n (sput d x false)) + leftS rs sp (sput d x false) (circR (n : Int) rs) := by
  obtain ⟨l, h1, h2, h3⟩ := left_hit g sp (sput d x false)
  have := left_low g (d := d) (xs := (x : Int) :: l) ((h1.cons _).trans (setL_less hx hd).symm) ((feas_cons_iff h1).2 ⟨hs, h2⟩)
  simp only [inc] at this
  rw [sT_perm _ h1, h3] at this
  exact this
theorem pick_iff (g : GoodC n rs) {x : Nat} (hx : x < n) (hd : d x = true) : pickc rs sp n (circR (n : Int) rs) d (leftS rs sp d (circR (n : Int) rs)) x = true ↔ safe rs sp n d x ∧ sT rs (x : Int) (setL n (sput d x false)) + leftS rs sp (sput d x false) (circR (n : Int) rs) = leftS rs sp d (circR (n : Int) rs) := by
  obtain ⟨h1, h2⟩ := nextS_safe (sp := sp) (d := d) (x := x) g.wok g.n24
  simp only [pickc, hd, Bool.true_and, Bool.and_eq_true, decide_eq_true_eq, h2]
  constructor
  · rintro ⟨a, b⟩; rw [h1 a] at b; exact ⟨a, b⟩
  · rintro ⟨a, b⟩; rw [h1 a]; exact ⟨a, b⟩
theorem pick_of_opt (g : GoodC n rs) {x : Int} {l : List Int} (h : OptO n rs sp d (x :: l)) : ∃ j : Nat, x = (j : Int) ∧ j < n ∧ d j = true ∧ pickc rs sp n (circR (n : Int) rs) d (leftS rs sp d (circR (n : Int) rs)) j = true ∧ OptO n rs sp (sput d j false) l := by
  obtain ⟨h1, h2, h3⟩ := h
  obtain ⟨j, rfl, hj, hd⟩ := setL_mem.1 (h1.mem_iff.1 List.mem_cons_self)
  have hp : l.Perm (setL n (sput d j false)) := (h1.trans (setL_less hj hd)).cons_inv
  obtain ⟨hs, hf⟩ := (feas_cons_iff hp).1 h2
  have h4 := next_ge g hj hd hs
  have h5 := left_low g hp hf
  simp only [inc] at h3
  rw [sT_perm _ hp] at h3
  exact ⟨j, rfl, hj, hd, (pick_iff g hj hd).2 ⟨hs, by omega⟩, hp, hf, by omega⟩
theorem opt_of_pick (g : GoodC n rs) {x : Nat} (hx : x < n) (hd : d x = true) (hp : pickc rs sp n (circR (n : Int) rs) d (leftS rs sp d (circR (n : Int) rs)) x = true) {l : List Int} (h : OptO n rs sp (sput d x false) l) : OptO n rs sp d ((x : Int) :: l) := by
  obtain ⟨h1, h2, h3⟩ := h
  obtain ⟨hs, he⟩ := (pick_iff g hx hd).1 hp
  refine ⟨(h1.cons _).trans (setL_less hx hd).symm, (feas_cons_iff h1).2 ⟨hs, h2⟩, ?_⟩
  simp only [inc]
  rw [sT_perm _ h1, h3, he]
theorem pickc_d {xss : List (List Int)} {rest : Int} {x : Nat} (h : pickc rs sp n xss d rest x = true) : d x = true := by
  simp only [pickc, Bool.and_eq_true] at h
  exact h.1
theorem pick_exists (g : GoodC n rs) (h : setL n d ≠ []) : ∃ x, x < n ∧ d x = true ∧ pickc rs sp n (circR (n : Int) rs) d (leftS rs sp d (circR (n : Int) rs)) x = true ∧ (List.range n).find? (pickc rs sp n (circR (n : Int) rs) d (leftS rs sp d (circR (n : Int) rs))) = some x := by
  obtain ⟨xs, h1, h2, h3⟩ := left_hit g sp d
  cases xs with
  | nil => exact absurd (h1.symm.eq_nil) h
  | cons x l =>
    obtain ⟨j, _, hj, hd, hp, _⟩ := pick_of_opt g ⟨h1, h2, h3⟩
    cases hf : (List.range n).find? (pickc rs sp n (circR (n : Int) rs) d (leftS rs sp d (circR (n : Int) rs))) with
    | none => exact absurd hp (by have := List.find?_eq_none.1 hf j (List.mem_range.2 hj); simpa using this)
    | some x' =>
      have hx' := List.mem_range.1 (List.mem_of_find?_eq_some hf)
      have hpx : pickc rs sp n (circR (n : Int) rs) d (leftS rs sp d (circR (n : Int) rs)) x' = true := by simpa using List.find?_some hf
      exact ⟨x', hx', pickc_d hpx, hpx, rfl⟩
theorem firstK_opt (g : GoodC n rs) : ∀ (k : Nat) (d : Nat → Bool), (setL n d).length = k → OptO n rs sp d (firstK rs sp n (circR (n : Int) rs) k d (leftS rs sp d (circR (n : Int) rs)))
  | 0, d, h => by
    have h0 : setL n d = [] := List.eq_nil_of_length_eq_zero h
    obtain ⟨xs, h1, h2, h3⟩ := left_hit g sp d
    rw [h0] at h1
    have := h1.eq_nil
    subst this
    exact ⟨by rw [h0]; exact .refl _, trivial, h3⟩
  | k + 1, d, h => by
    obtain ⟨x, hx, hd, hp, hf⟩ := pick_exists (sp := sp) g (d := d) (by intro q; rw [q] at h; simp at h)
    rw [firstK, hf]
    refine opt_of_pick g hx hd hp (firstK_opt g k (sput d x false) ?_)
    have := (setL_less hx hd).length_eq
    simp at this
    omega
end
theorem setL_all_len (n : Nat) : (setL n allT).length = n := by
  unfold setL
  have e : (List.range n).filter allT = List.range n := List.filter_eq_self.2 (fun _ _ => rfl)
  rw [List.length_map, e]; simp
theorem firstS_opt {n : Nat} {rs : List Arw} (g : GoodC n rs) (sp : Int) : OptO n rs sp allT (firstS rs sp n (circR (n : Int) rs)) := firstK_opt g n allT (setL_all_len n)
theorem good_perm {n : Nat} {xs : List Int} : GoodO (n : Int) xs ↔ xs.Perm (setL n allT) := by
  constructor
  · rintro ⟨h1, h2, h3⟩
    refine (List.perm_ext_iff_of_nodup h3 (setL_nodup _ _)).2 fun y => ?_
    rw [setL_mem]
    constructor
    · intro hy
      obtain ⟨a, b⟩ := h2 y hy
      obtain ⟨j, rfl⟩ := Int.eq_ofNat_of_zero_le a
      exact ⟨j, rfl, by omega, rfl⟩
    · rintro ⟨j, rfl, hj, _⟩
      exact perm_mem n xs (by omega) h2 h3 _ (by omega) (by omega)
  · intro h
    refine ⟨by rw [h.length_eq, setL_all_len], fun x hx => ?_, h.nodup_iff.2 (setL_nodup _ _)⟩
    obtain ⟨j, rfl, hj, _⟩ := setL_mem.1 (h.mem_iff.1 hx)
    omega
end Go.Air
set_option maxRecDepth 100000
namespace Go.Air
structure FR where
  some : Bool
  off : Int
  ord : List Int
end Go.Air
set_option maxRecDepth 100000
namespace Go.Air
open Go.Air.Try
def FRo (h : H) (v : V) (F : FR) : Prop := ∃ (h0 : H) (w : V), v = .agg [.b F.some, .i .i64 F.off, w] ∧ Own h0 1 h w F.ord.length (ints F.ord)
theorem FRo.ext {h h' : H} {v : V} {F : FR} (r : FRo h v F) (e : Ext h h') : FRo h' v F := by
  obtain ⟨h0, w, q, o⟩ := r
  exact ⟨h0, w, q, o.ext e⟩
theorem FRo.bare {h : H} {v : V} {F : FR} (r : FRo h v F) : FRo h.bare v F := r
end Go.Air
set_option maxRecDepth 100000
namespace Go.Air
open Go.Air.Try
def PlanR (h : H) (p : V) (P : PlanS) : Prop := ∃ ov tv, p = .agg [ov, .i .i64 P.off, tv] ∧ Ints h ov P.order ∧ TB h tv P.tabs
theorem PlanR.ext {h h' : H} {p : V} {P : PlanS} (r : PlanR h p P) (e : Ext h h') : PlanR h' p P := by
  obtain ⟨ov, tv, q, o, t⟩ := r
  exact ⟨ov, tv, q, o.ext e, t.ext e⟩
theorem PlanO.rd {h0 h : H} {p : V} {P : PlanS} (r : PlanO h0 h p P) : PlanR h p P := by
  obtain ⟨ov, tv, q, o, t⟩ := r
  exact ⟨ov, tv, q, o.ints, TBx.rd t⟩
theorem TB.len {h : H} {v : V} {tb : List (List Int × List Int)} (r : TB h v tb) : lenV v = some tb.length := let ⟨_, s, _⟩ := r; s.len
theorem TB.ix {h : H} {v : V} {tb : List (List Int × List Int)} (r : TB h v tb) {i : Nat} (hi : i < tb.length) : ixV 2 v (.i .i64 (i : Int)) = some (.p (blkV v) (offV v + i * 2)) := let ⟨_, s, _⟩ := r; s.ix hi
theorem TB.one {h : H} {v : V} {tb : List (List Int × List Int)} (r : TB h v tb) : v.cells = [v] ∧ v.oneCell = true := by
  obtain ⟨cs, s, _⟩ := r
  rcases s with ⟨_, _, rfl | ⟨a, rfl⟩⟩ | ⟨b, off, cap, g, bl, rfl, _⟩ <;> exact ⟨rfl, rfl⟩
theorem TB.at {h : H} {v : V} {tb : List (List Int × List Int)} (r : TB h v tb) {i : Nat} {g vals : List Int} (hx : tb[i]? = some (g, vals)) : ∃ c1 c2, ldnV h 2 (.p (blkV v) (offV v + i * 2)) = some (.agg [c1, c2]) ∧ ldV h (.p (blkV v) (offV v + i * 2 + 1)) = some c2 ∧ Ints h c1 g ∧ Ints h c2 vals := by
  obtain ⟨cs, s, hc⟩ := r
  obtain ⟨c1, c2, q1, q2, q3, q4⟩ := hc i g vals hx
  have hi := (List.getElem?_eq_some_iff.1 hx).1
  refine ⟨c1, c2, ?_, by rw [s.ld hi (by omega), q2], q3, q4⟩
  rw [s.ldn hi]
  congr 2
  have hl := s.length
  apply List.ext_getElem?
  intro k
  by_cases hk : k < 2
  · rw [List.getElem?_take_of_lt hk, List.getElem?_drop]
    rcases Nat.lt_or_ge k 1 with z | z
    · obtain rfl : k = 0 := by omega
      simpa using q1
    · obtain rfl : k = 1 := by omega
      simpa using q2
  · rw [List.getElem?_eq_none (by simp; omega), List.getElem?_eq_none (by simp; omega)]
end Go.Air
set_option maxRecDepth 100000
namespace Go.Air
open Go.Air.Try
def fill23 (z x y : V) : Option (List V) := if Nat.beq x.cells.length 1 && Nat.beq y.cells.length 1 then some (x.cells ++ y.cells ++ [z]) else none
@[go_sem] theorem fill_23 {t : List V} {z0 z1 z2 : V} {x y : X} : fill t [z0, z1, z2] [(0, 1, x), (1, 1, y)] = fill23 z2 (x.ev t) (y.ev t) := by
  simp only [fill, fill23]
  by_cases hl : Nat.beq (x.ev t).cells.length 1 = true
  · rw [if_pos hl]
    obtain ⟨u, hc⟩ : ∃ u, (x.ev t).cells = [u] := by
      rw [Nat.beq_eq] at hl
      exact List.length_eq_one_iff.1 hl
    simp only [hc, lay, Option.map_some]
    by_cases hl2 : Nat.beq (y.ev t).cells.length 1 = true
    · obtain ⟨u2, hc2⟩ : ∃ u, (y.ev t).cells = [u] := by
        rw [Nat.beq_eq] at hl2
        exact List.length_eq_one_iff.1 hl2
      simp [hc2, lay]
    · simp [hl2]
  · simp [hl]
end Go.Air
set_option maxRecDepth 100000
namespace Go.Air
open Go.Air.Try
theorem st_planO {h : H} {p : V} {P : PlanS} (hp : PlanR h p P) : ∃ ov tv h2, p = .agg [ov, .i .i64 P.off, tv] ∧ stV (h.new (.cells [.sn, .i .i64 0, .sn])) 3 (.p h.next 0) (.agg [ov, .i .i64 P.off, tv]) = some h2 ∧ Ext h h2 ∧ h2.get h.next = some (.cells [ov, .i .i64 P.off, tv]) ∧ h2.next = h.next + 1 := by
  obtain ⟨ov, tv, rfl, hov, htv⟩ := hp
  have h1 := htv.one
  have h2 := hov.one
  obtain ⟨h7, p1, p2, p3, p4⟩ := st_newK h [.sn, .i .i64 0, .sn] [ov, .i .i64 P.off, tv] rfl (by
    intro u hu
    simp at hu
    rcases hu with rfl | rfl | rfl
    · exact h2.2
    · rfl
    · exact h1.2)
  exact ⟨ov, tv, h7, rfl, p1, p2, p3, p4⟩
theorem t28 : tblA 28 = some a28 := by kernel_rfl
end Go.Air
set_option maxRecDepth 100000
namespace Go.Air
open Go.Air.Try
section
variable {n : Nat} {rs : List Arw}
theorem both_good {xs : List Int} (g : GoodC n rs) (h : xs.Perm (setL n allT)) : GoodO (n : Int) xs ∧ bothS (n : Int) rs xs = 0 := by
  have go : GoodO (n : Int) xs := good_perm.2 h
  refine ⟨go, ?_⟩
  rw [bothS, if_neg (by simp [g.ck]), orderS, if_pos go]
theorem mem_slS {xs : List Int} {s : Int × Int × Int} (h : s ∈ slS xs rs) : ∃ r ∈ rs, s = (r.f, r.t, r.w) ∧ posN r.t xs < posN r.f xs := by
  obtain ⟨r, hr, hs⟩ := List.mem_flatMap.1 h
  split at hs
  · rename_i hc
    exact ⟨r, hr, by simpa using hs, hc⟩
  · simp at hs
theorem bad_slS {xs : List Int} (gr : GoodR (n : Int) rs) (go : GoodO (n : Int) xs) {r : Arw} (hr : r ∈ rs) (h : posN r.t xs < posN r.f xs) : badR xs r := by
  have hok := gr.1 r hr
  unfold OkA at hok
  exact ⟨goodO_mem go hok.1 hok.2.1, goodO_mem go hok.2.2.1 hok.2.2.2.1, h⟩
theorem opt_facts (g : GoodC n rs) (sp : Int) : GoodO (n : Int) (firstS rs sp n (circR (n : Int) rs)) ∧ bothS (n : Int) rs (firstS rs sp n (circR (n : Int) rs)) = 0 ∧ sumW (slS (firstS rs sp n (circR (n : Int) rs)) rs) = leftS rs sp allT (circR (n : Int) rs) ∧
    ∀ s ∈ slS (firstS rs sp n (circR (n : Int) rs)) rs, s.1 ≠ sp := by
  obtain ⟨h1, h2, h3⟩ := firstS_opt g sp
  obtain ⟨go, hb⟩ := both_good g h1
  refine ⟨go, hb, by rw [off_inc g.gr go]; exact h3, fun s hs e => ?_⟩
  obtain ⟨r, hr, rfl, hp⟩ := mem_slS hs
  exact (feas_iff g.gr go.2.2).1 h2 ⟨r, hr, e, bad_slS g.gr go hr hp⟩
theorem feas_neg {rs : List Arw} : ∀ {xs : List Int}, (∀ x ∈ xs, 0 ≤ x) → feas rs (-1) xs
  | [], _ => trivial
  | x :: l, h => ⟨fun y hy e => by have := h y (by simp [hy]); omega, feas_neg fun y hy => h y (by simp [hy])⟩
theorem feas_all {xs : List Int} (go : GoodO (n : Int) xs) : feas rs (-1) xs := feas_neg fun x hx => (go.2.1 x hx).1
theorem least_le (g : GoodC n rs) {xs : List Int} (go : GoodO (n : Int) xs) : leftS rs (-1) allT (circR (n : Int) rs) ≤ sumW (slS xs rs) := by
  rw [off_inc g.gr go]
  exact left_low g (good_perm.1 go) (feas_all go)
end
end Go.Air
set_option maxRecDepth 100000
namespace Go.Air
section
variable {rs ls : List Arw} {n : Nat}
theorem goodR_sub (h : ls.Sublist rs) (g : GoodR (n : Int) rs) : GoodR (n : Int) ls := ⟨fun a ha => g.1 a (h.subset ha), g.2.sublist h⟩
theorem eA_sub (h : ls.Sublist rs) {a b : Nat} (e : eA ls a b = true) : eA rs a b = true := by
  obtain ⟨r, hr, q⟩ := eA_iff.1 e
  exact eA_iff.2 ⟨r, h.subset hr, q⟩
theorem rch_sub (h : ls.Sublist rs) {a b : Nat} (e : rch (eA ls) a b = true) : rch (eA rs) a b = true := by
  rw [rch_iff] at *
  induction e with
  | base h' => exact .base (eA_sub h h')
  | step _ h' ih => exact .step ih (eA_sub h h')
theorem filter_mono {p q : Nat → Bool} : ∀ {l : List Nat}, (∀ x ∈ l, p x = true → q x = true) → (l.filter p).length ≤ (l.filter q).length
  | [], _ => by simp
  | a :: l, h => by
    have ih := filter_mono (l := l) fun x hx => h x (by simp [hx])
    by_cases hp : p a = true
    · rw [List.filter_cons_of_pos hp, List.filter_cons_of_pos (h a (by simp) hp)]
      simp only [List.length_cons]; omega
    · rw [List.filter_cons_of_neg hp]
      by_cases hq : q a = true
      · rw [List.filter_cons_of_pos hq]; simp only [List.length_cons]; omega
      · rw [List.filter_cons_of_neg hq]; exact ih
theorem goodC_sub (h : ls.Sublist rs) (g : GoodC n rs) : circledS (n : Int) ls = 0 := by
  have gr := goodR_sub h g.gr
  have hck : checkS (n : Int) ls = 0 := by
    have := g.n24
    rw [checkS, if_neg (by omega), if_neg (by omega), if_pos gr]
  rw [circledS, if_neg (by simp [hck])]
  unfold circE
  rw [if_neg]
  rintro ⟨c, hc, hl⟩
  obtain ⟨n', a, hn', _, ha, rfl, _⟩ := circ_mem hc
  obtain rfl : n = n' := by omega
  obtain ⟨C, hC, haC⟩ := (comps_all (rs := rs) (n := n).mem (a : Int)).2 ⟨a, rfl, ha, rfl⟩
  obtain ⟨b, hb, rfl⟩ := comps_all.one C hC
  obtain ⟨a', e, _, mb⟩ := setL_mem.1 haC
  obtain rfl : a = a' := by omega
  have hle : (setL n (mate (rch (eA ls)) n a)).length ≤ (setL n (mate (rch (eA rs)) n b)).length := by
    unfold setL
    rw [List.length_map, List.length_map]
    refine filter_mono fun y _ hy => ?_
    simp only [mate, Bool.and_eq_true, Bool.or_eq_true, decide_eq_true_eq] at hy mb ⊢
    refine ⟨hy.1, ?_⟩
    rcases hy.2 with rfl | ⟨h1, h2⟩
    · exact mb.2
    · have r1 := rch_sub h h1
      have r2 := rch_sub h h2
      rcases mb.2 with rfl | ⟨h3, h4⟩
      · exact .inr ⟨r1, r2⟩
      · exact .inr ⟨rch_trans h3 r1, rch_trans r2 h4⟩
  have hin : setL n (mate (rch (eA rs)) n b) ∈ circR (n : Int) rs := by
    rw [g.comps]
    exact List.mem_filter.2 ⟨hC, by simp [big]; omega⟩
  have := (circ_ok g.ce _ hin).1
  omega
end
theorem slS_cut {F : List Int} {a : Arw} (p q : List Arw) : slS F (p ++ a :: q) = slS F p ++ (if posN a.t F < posN a.f F then [(a.f, a.t, a.w)] else []) ++ slS F q := by
  simp [slS]
theorem slS_cut2 {F : List Int} (p q : List Arw) : slS F (p ++ q) = slS F p ++ slS F q := by simp [slS]
section
variable {rs : List Arw} {n k : Nat} {a : Arw}
theorem cut_at (hx : rs[k]? = some a) : rs = rs.take k ++ a :: rs.drop (k + 1) := by
  have := take_succ' hx
  conv => lhs; rw [← List.take_append_drop (k + 1) rs, this]
  simp
theorem less_sub (k : Nat) : (rs.take k ++ rs.drop (k + 1)).Sublist rs := by
  conv => rhs; rw [← List.take_append_drop k rs]
  refine List.Sublist.append_left ?_ _
  rw [← List.drop_drop]
  exact List.drop_sublist _ _
theorem less_le (g : GoodC n rs) (g' : GoodC n (rs.take k ++ rs.drop (k + 1))) (hx : rs[k]? = some a) : leftS (rs.take k ++ rs.drop (k + 1)) (-1) allT (circR (n : Int) (rs.take k ++ rs.drop (k + 1))) ≤ leftS rs (-1) allT (circR (n : Int) rs) := by
  obtain ⟨go, _, ho, _⟩ := opt_facts g (-1)
  have h1 := least_le g' go
  rw [← ho]
  generalize firstS rs (-1) n (circR (n : Int) rs) = F at *
  refine Int.le_trans h1 ?_
  have ha := g.gr.1 a (List.mem_of_getElem? hx)
  unfold OkA at ha
  conv => rhs; rw [cut_at hx]
  rw [slS_cut, slS_cut2, sumW_append, sumW_append, sumW_append]
  split
  · rw [sumW_one]; dsimp only; omega
  · simp [sumW]
theorem heavy_le {more : Int} (hm : 0 ≤ more) (g : GoodC n rs) (hx : rs[k]? = some a) (g' : GoodC n (rs.set k ⟨a.f, a.t, a.r, a.w + more⟩)) : leftS rs (-1) allT (circR (n : Int) rs) ≤ leftS (rs.set k ⟨a.f, a.t, a.r, a.w + more⟩) (-1) allT (circR (n : Int) (rs.set k ⟨a.f, a.t, a.r, a.w + more⟩)) ∧
    leftS (rs.set k ⟨a.f, a.t, a.r, a.w + more⟩) (-1) allT (circR (n : Int) (rs.set k ⟨a.f, a.t, a.r, a.w + more⟩)) ≤ leftS rs (-1) allT (circR (n : Int) rs) + more := by
  have hk := (List.getElem?_eq_some_iff.1 hx).1
  have hset : rs.set k ⟨a.f, a.t, a.r, a.w + more⟩ = rs.take k ++ ⟨a.f, a.t, a.r, a.w + more⟩ :: rs.drop (k + 1) := by
    rw [List.set_eq_take_append_cons_drop, if_pos hk]
  have key : ∀ F : List Int, sumW (slS F rs) ≤ sumW (slS F (rs.set k ⟨a.f, a.t, a.r, a.w + more⟩)) ∧ sumW (slS F (rs.set k ⟨a.f, a.t, a.r, a.w + more⟩)) ≤ sumW (slS F rs) + more := by
    intro F
    have e : sumW (slS F rs) = sumW (slS F (rs.take k ++ a :: rs.drop (k + 1))) := by rw [← cut_at hx]
    rw [hset, e, slS_cut, slS_cut, sumW_append, sumW_append, sumW_append, sumW_append]
    split
    · rw [sumW_one, sumW_one]; dsimp only
      constructor <;> omega
    · simp [sumW]; omega
  obtain ⟨go, _, ho, _⟩ := opt_facts g (-1)
  obtain ⟨go', _, ho', _⟩ := opt_facts g' (-1)
  have h1 := least_le g' go
  have h2 := least_le g go'
  have k1 := key (firstS rs (-1) n (circR (n : Int) rs))
  have k2 := key (firstS (rs.set k ⟨a.f, a.t, a.r, a.w + more⟩) (-1) n (circR (n : Int) (rs.set k ⟨a.f, a.t, a.r, a.w + more⟩)))
  omega
end
end Go.Air
set_option maxRecDepth 100000
namespace Go.Air
section
variable {n : Nat} {rs : List Arw}
theorem circ_all (g : GoodC n rs) : ∀ c ∈ circR (n : Int) rs, c.Nodup ∧ c.length ≤ 10 ∧ Gst c := by
  have ok := circ_ok g.ce
  intro c hc
  obtain ⟨h1, h2, _⟩ := ok c hc
  exact ⟨h2, h1, ok.gst g.n24 hc⟩
end
end Go.Air
set_option maxRecDepth 100000
namespace Go.Air
open Go.Air.Try
theorem recs_take (rs : List Arw) : ∀ k, (recs arw rs).take (k * 4) = recs arw (rs.take k) := by
  intro k
  induction rs generalizing k with
  | nil => simp [recs]
  | cons a rs ih =>
    cases k with
    | zero => simp [recs]
    | succ k =>
      rw [recs_cons, List.take_succ_cons, recs_cons, Nat.succ_mul, Nat.add_comm, List.take_append, List.take_of_length_le (by rw [arw_len]; omega), arw_len, Nat.add_sub_cancel_left, ih k]
theorem recs_drop (rs : List Arw) : ∀ k, (recs arw rs).drop (k * 4) = recs arw (rs.drop k) := by
  intro k
  induction rs generalizing k with
  | nil => simp [recs]
  | cons a rs ih =>
    cases k with
    | zero => simp [recs]
    | succ k =>
      rw [recs_cons, List.drop_succ_cons, Nat.succ_mul, Nat.add_comm, List.drop_append, List.drop_of_length_le (by rw [arw_len]; omega), arw_len, List.nil_append, Nat.add_sub_cancel_left, ih k]
theorem recs_one' {rs : List Arw} : ∀ u ∈ recs arw rs, u.oneCell = true := by
  intro u hu
  obtain ⟨a, _, h⟩ := List.mem_flatMap.1 hu
  exact arw_one a u h
theorem app_arrB {h0 h : H} {w x : V} {rs qs : List Arw} {n m : Nat} (o : Own h0 4 h w n (recs arw rs)) (e : Ext h0 h) (s : Sl 4 h x m (recs arw qs)) (hn : n ≤ 1000000) (hm : m ≤ 1000000) :
    ∃ w' hb g, appendV 4 32 h.bare w x = .ok w' hb ∧ h.back hb = g ∧ Ext h0 g ∧ Own h0 4 g w' (n + m) (recs arw (rs ++ qs)) := by
  obtain ⟨w', hb, g, r1, r2, r3, r4, _⟩ := Own.appB (bytes := 32) o e s recs_one' (by omega) (by omega) (by omega)
  exact ⟨w', hb, g, r1, r2, r3, by rw [recs_append]; exact r4⟩
theorem log_ge {h g hb : H} {n : Nat} {l0 : List Nat} (e : Ext h g) (hg : g.log = oldOnes n hb.log ++ l0) (h0 : ∃ m, l0 = m ++ h.log) : ∀ b ∈ oldOnes n hb.log, h.next ≤ b := by
  obtain ⟨l, f1, f2⟩ := e.log
  obtain ⟨m, rfl⟩ := h0
  rw [hg, ← List.append_assoc] at f1
  have := List.append_cancel_right f1
  exact fun b hb => f2 b (by rw [← this]; exact List.mem_append_left _ hb)
theorem draw5_4 {h : H} {b3 : Nat} {N : Int} {v : V} {rs : List Arw} {t : List V} {Q : Out → List V → H → Prop} (tl : t.length = 129) (t3 : nth t 3 = .p b3 0) (g3 : h.get b3 = some (.cells [.i .i64 N, v])) (hb3 : b3 < h.next) (hv : Arrs h v rs) (hn : rs.length ≤ 1000000)
    (hQ : ∀ t' w b8 h', Ext h h' → t'.length = 129 → (∀ j, j < 8 → nth t' j = nth t j) → nth t' 8 = .p b8 0 → h.next ≤ b8 → h'.get b8 = some (.cells [.i .i64 N, w]) → b8 < h'.next → Own h 4 h' w rs.length (recs arw rs) → (∀ k m, w ≠ .i k m) → Q .norm t' h') : WD tblA r5_4 t h [] (Kcrit [(1, 5)] Q) := by
  have l0 : ldV h (.p b3 0) = some (.i .i64 N) := blk_ld g3 rfl
  obtain ⟨o1, x1⟩ := Own.lit (esz := 4) (Ext.refl h) (recs arw []) 0 rfl
  have l1 : ldV (h.new (.cells [])) (.p b3 1) = some v := blk_ld (x1.get hb3 g3) rfl
  obtain ⟨w, hb, g, q0, q1, q2, q3⟩ := app_arrB o1 x1 (hv.ext x1) (by omega) hn
  rw [List.nil_append, Nat.zero_add] at q3
  have q0' : appendV 4 32 (h.new (.cells [])).bare (.sl h.next 0 0 0 none) v = .ok w hb := q0
  have q1' : (h.new (.cells [])).back hb = g := q1
  have hone := q3.one
  obtain ⟨hb2, h7, r1, r2, r3, r4, r5⟩ := st_newB g [.i .i64 0, .sn] [.i .i64 N, w] rfl (by
    intro u hu
    simp at hu
    rcases hu with rfl | rfl
    · rfl
    · exact hone.2)
  have r1' : stV (g.new (.cells [.i .i64 0, .sn])).bare 2 (.p g.next 0) (.agg [.i .i64 N, w]) = some hb2 := r1
  have hge := log_ge (n := h.next + 1) (hb := hb) (l0 := h.log) q2 (by rw [← q1']; simp [H.back, H.new]) ⟨[], rfl⟩
  simp only [go_sem, ↓reduceIte, r5_4, tl, t3, l0, l1, q0', q1', fill2_of (x := .i .i64 N) rfl hone.1, r1', r2]
  refine ⟨?_, hQ _ w g.next h7 (q2.trans r3) (by simp only [upd_length, tl]) (fun j hj => by simp only [nth_upd]; repeat rw [if_neg (by omega)]) (by simp only [go_sem, ↓reduceIte, tl]) q2.nx r4 (by omega) (q3.ext r3) q3.noti⟩
  have hno : ∀ b ∈ oldOnes (h.next + 1) hb.log, ¬ b = b3 := fun b hb' z => by have := hge b hb'; omega
  simp only [critOk, reads, go_sem, ↓reduceIte, tl, t3]
  simp [apart, blockOf, old_bare]
  exact hno
theorem draw5_3 {h : H} {b3 k : Nat} {N : Int} {v : V} {rs : List Arw} {t : List V} {Q : Out → List V → H → Prop} (tl : t.length = 129) (t1 : nth t 1 = .i .i64 (k : Int)) (t3 : nth t 3 = .p b3 0) (g3 : h.get b3 = some (.cells [.i .i64 N, v])) (hb3 : b3 < h.next) (hv : Arg 4 h v rs.length (recs arw rs)) (hk : k < rs.length) (hn : rs.length ≤ 1000000)
    (hQ : ∀ t' w b7 h', Ext h h' → t'.length = 129 → (∀ j, j < 7 → nth t' j = nth t j) → nth t' 7 = .p b7 0 → h.next ≤ b7 → h'.get b7 = some (.cells [.i .i64 N, w]) → b7 < h'.next → Arrs h' w (rs.take k ++ rs.drop (k + 1)) → Q .norm t' h') : WD tblA r5_3 t h [] (Kcrit [(1, 7), (7, 9), (1, 13)] Q) := by
  have l0 : ldV h (.p b3 0) = some (.i .i64 N) := blk_ld g3 rfl
  obtain ⟨o1, x1⟩ := Own.lit (esz := 4) (Ext.refl h) (recs arw []) 0 rfl
  have l1 : ldV (h.new (.cells [])) (.p b3 1) = some v := blk_ld (x1.get hb3 g3) rfl
  obtain ⟨u, hu, hua⟩ := hv.hi (b := k) (by omega)
  rw [recs_take] at hua
  obtain ⟨w, hb, g, q0, q1, q2, q3⟩ := app_arrB o1 x1 (hua.sl.ext x1) (by omega) (by omega)
  rw [List.nil_append, Nat.zero_add] at q3
  have q0' : appendV 4 32 (h.new (.cells [])).bare (.sl h.next 0 0 0 none) u = .ok w hb := q0
  have q1' : (h.new (.cells [])).back hb = g := q1
  have l2 : ldV g (.p b3 1) = some v := blk_ld (q2.get hb3 g3) rfl
  obtain ⟨u2, hu2, hua2⟩ := hv.lo (a := k + 1) (by omega)
  rw [recs_drop] at hua2
  have hl2 : rs.length - (k + 1) = (rs.drop (k + 1)).length := by simp
  obtain ⟨w2, hb2, g2, p0, p1, p2, p3⟩ := app_arrB q3 q2 (hua2.sl.ext q2) (by omega) (by omega)
  have hone := p3.one
  obtain ⟨hb3', h7, r1, r2, r3, r4, r5⟩ := st_newB g2 [.i .i64 0, .sn] [.i .i64 N, w2] rfl (by
    intro u hu
    simp at hu
    rcases hu with rfl | rfl
    · rfl
    · exact hone.2)
  have r1' : stV (g2.new (.cells [.i .i64 0, .sn])).bare 2 (.p g2.next 0) (.agg [.i .i64 N, w2]) = some hb3' := r1
  have hge := log_ge (n := h.next + 1) (hb := hb) (l0 := h.log) q2 (by rw [← q1']; simp [H.back, H.new]) ⟨[], rfl⟩
  have hge2 := log_ge (n := g.next) (hb := hb2) (l0 := g.log) p2 (by rw [← p1]; simp [H.back]) (by obtain ⟨l, f, _⟩ := q2.log; exact ⟨l, f⟩)
  have hlen : k + (rs.length - (k + 1)) = (rs.take k ++ rs.drop (k + 1)).length := by simp; omega
  simp only [go_sem, ↓reduceIte, r5_3, tl, t1, t3, l0, l1, hu, q0', q1', l2, wrap_succ (show k < 1000000000 by omega), hu2, p0, p1, fill2_of (x := .i .i64 N) rfl hone.1, r1', r2]
  refine ⟨?_, hQ _ w2 g2.next h7 (p2.trans r3) (by simp only [upd_length, tl]) (fun j hj => by simp only [nth_upd]; repeat rw [if_neg (by omega)]) (by simp only [go_sem, ↓reduceIte, tl]) p2.nx r4 (by omega) (by rw [hlen] at p3; exact (p3.sl).ext r3)⟩
  have hno : ∀ b ∈ oldOnes (h.next + 1) hb.log, ¬ b = b3 := fun b hb' z => by have := hge b hb'; omega
  have hno2 : ∀ b ∈ oldOnes g.next hb2.log, ¬ b = b3 := fun b hb' z => by have := hge2 b hb'; omega
  simp only [critOk, reads, go_sem, ↓reduceIte, tl, t1, t3]
  simp [apart, blockOf, old_bare]
  exact ⟨hno, hno2⟩
theorem recs_set {a : Arw} {x : Int} : ∀ {rs : List Arw} {i : Nat}, rs[i]? = some a → (recs arw rs).set (i * 4 + 3) (.i .i64 x) = recs arw (rs.set i ⟨a.f, a.t, a.r, x⟩)
  | [], i, h => by simp at h
  | b :: rs, 0, h => by
    simp at h; subst h
    rw [recs_cons, List.set_cons_zero, recs_cons]
    simp [arw]
  | b :: rs, i + 1, h => by
    rw [recs_cons, List.set_cons_succ, recs_cons, List.set_append_right _ _ (by rw [arw_len]; omega), arw_len, show (i + 1) * 4 + 3 - 4 = i * 4 + 3 by omega, recs_set (by simpa using h)]
theorem Own.setArr {h0 h : H} {v : V} {n i : Nat} {rs : List Arw} {a : Arw} (o : Own h0 4 h v n (recs arw rs)) (e : Ext h0 h) (hx : rs[i]? = some a) (x : Int) :
    ∃ h2, stV h 1 (.p (blkV v) (offV v + i * 4 + 3)) (.i .i64 x) = some h2 ∧ Ext h0 h2 ∧ Own h0 4 h2 v n (recs arw (rs.set i ⟨a.f, a.t, a.r, x⟩)) ∧ h2.next = h.next ∧ (∀ b, b ≠ blkV v → h2.get b = h.get b) := by
  have hrl := recs_len arw_len rs
  have hi := (List.getElem?_eq_some_iff.1 hx).1
  obtain ⟨hl, ⟨rfl, rfl⟩ | ⟨b, g, rfl, hv, h1, h2, hg⟩⟩ := o
  · omega
  · refine ⟨h.put b (.cells ((recs arw rs).set (0 + i * 4 + 3) (.i .i64 x))), st_k (k := 0 + i * 4 + 3) hg (by omega), e.put h1 _, ⟨by rw [recs_len arw_len, List.length_set]; omega, .inr ⟨b, g, rfl, hv, h1, by simpa using h2, ?_⟩⟩, by simp, fun b' hb' => by rw [H.get_put, if_neg (show b' ≠ b from hb')]⟩
    rw [H.get_put, if_pos rfl, show 0 + i * 4 + 3 = i * 4 + 3 by omega, recs_set hx]
theorem t5 : tblA 5 = some a5 := by kernel_rfl
set_option maxHeartbeats 1000000 in
theorem law_fewer {h : H} {N W M : Int} {v : V} {rs : List Arw} (hv : Arg 4 h v rs.length (recs arw rs)) : WC tblA (.fn 5 [] []) [.agg [.i .i64 N, v], .i .i64 W, .i .i64 M] h fun u h' => u = .b true ∧ Ext h h' := by
  refine (WC_in t5).2 ?_
  have hr : Arrs h v rs := hv.sl
  obtain ⟨e0, g0⟩ := rel_blk h N v
  simp only [go_sem, ↓reduceIte, r5_0]
  have hr0 := hr.ext e0
  have hv0 := hv.ext e0
  have n0 : (h.new (.cells [.i .i64 N, v])).next = h.next + 1 := by simp
  generalize hh : h.new (.cells [.i .i64 N, v]) = h0 at *
  have l0 : ∀ {h'}, Ext h0 h' → ldnV h' 2 (.p h.next 0) = some (.agg [.i .i64 N, v]) := fun e => blk_ldn (e.get (by omega) g0) rfl
  have l1 : ldV h0 (.p h.next 1) = some v := blk_ld g0 rfl
  by_cases c1 : (700 : Int) < (rs.length : Int)
  · simp only [go_sem, ↓reduceIte, r5_1, r5_2, l1, hr.len, c1]
    exact e0
  by_cases c2 : W < 0
  · simp only [go_sem, ↓reduceIte, r5_1, r5_2, l1, hr.len, c1, c2]
    exact e0
  by_cases c3 : (rs.length : Int) ≤ W
  · simp only [go_sem, ↓reduceIte, r5_1, r5_2, l1, hr.len, c1, c2, c3]
    exact e0
  by_cases c4 : M < 0
  · simp only [go_sem, ↓reduceIte, r5_1, r5_2, l1, hr.len, c1, c2, c3, c4]
    exact e0
  by_cases c5 : (999 : Int) < M
  · simp only [go_sem, ↓reduceIte, r5_1, r5_2, l1, hr.len, c1, c2, c3, c4, c5]
    exact e0
  obtain ⟨k, rfl⟩ := Int.eq_ofNat_of_zero_le (a := W) (by omega)
  have hk : k < rs.length := by omega
  obtain ⟨a, hx⟩ : ∃ a, rs[k]? = some a := ⟨_, List.getElem?_eq_getElem hk⟩
  simp only [go_sem, ↓reduceIte, r5_1, l1, hr.len, c1, c2, c3, c4, c5]
  refine draw5_3 (k := k) ?_ ?_ ?_ g0 (by omega) hv0 hk (by omega) ?_
  · simp only [go_sem, ↓reduceIte]
  · simp only [go_sem, ↓reduceIte]
  · simp only [go_sem, ↓reduceIte]
  intro t w7 b7 h1 e1 tl tj t7 hb7 g7 n7 a7
  have j1 : nth t 1 = .i .i64 (k : Int) := by rw [tj 1 (by omega)]; simp only [go_sem, ↓reduceIte]
  have j2 : nth t 2 = .i .i64 M := by rw [tj 2 (by omega)]; simp only [go_sem, ↓reduceIte]
  have j3 : nth t 3 = .p h.next 0 := by rw [tj 3 (by omega)]; simp only [go_sem, ↓reduceIte]
  clear tj
  simp only [go_sem, ↓reduceIte]
  refine draw5_4 tl j3 (e1.get (by omega) g0) (by have := e1.nx; omega) (hr0.ext e1) (by omega) ?_
  intro t' w8 b8 h2 e2 tl' tj t8 hb8 g8 n8 o8 hni
  have i1 : nth t' 1 = .i .i64 (k : Int) := by rw [tj 1 (by omega), j1]
  have i2 : nth t' 2 = .i .i64 M := by rw [tj 2 (by omega), j2]
  have i3 : nth t' 3 = .p h.next 0 := by rw [tj 3 (by omega), j3]
  have i7 : nth t' 7 = .p b7 0 := by rw [tj 7 (by omega), t7]
  clear tj
  have s8 : Arrs h2 w8 rs := o8.sl
  have lw : ldV h2 (.p b8 1) = some w8 := blk_ld g8 rfl
  have la : ldV h2 (.p (blkV w8) (offV w8 + k * 4 + 3)) = some (.i .i64 a.w) := by rw [s8.ld hx (by omega)]; rfl
  obtain ⟨h3, q1, q2, q3, q4, q5⟩ := o8.setArr e2 hx (IntKind.i64.wrap (a.w + M))
  have e03 : Ext h0 h3 := e1.trans q2
  have hbw : blkV w8 ≠ b8 := by
    intro z
    obtain ⟨hl, ⟨hz, _⟩ | ⟨b, gg, rfl, _, _, _, hg⟩⟩ := o8
    · omega
    · have z' : b = b8 := z
      subst z'
      rw [g8] at hg
      simp only [Option.some.injEq, Blk.cells.injEq] at hg
      have h1 := congrArg List.length hg
      rw [hl] at h1
      simp at h1
      omega
  have g83 : h3.get b8 = some (.cells [.i .i64 N, w8]) := by rw [q5 b8 (fun z => hbw z.symm)]; exact g8
  simp only [go_sem, ↓reduceIte, r5_5, tl', i1, i2, i3, i7, t8, lw, s8.ix hk, la, q1]
  have hwl : h1.next ≤ blkV w8 := by
    obtain ⟨hl, ⟨hz, _⟩ | ⟨b, gg, rfl, _, hge, _, hg⟩⟩ := o8
    · omega
    · exact hge
  have g73 : h3.get b7 = some (.cells [.i .i64 N, w7]) := by rw [q5 b7 (by omega)]; exact e2.get (by omega) g7
  have n3 : b7 < h3.next ∧ b8 < h3.next := by have := e2.nx; omega
  have a73 : Arrs h3 w7 (rs.take k ++ rs.drop (k + 1)) := a7.ext q2
  have a83 : Arrs h3 w8 (rs.set k ⟨a.f, a.t, a.r, IntKind.i64.wrap (a.w + M)⟩) := by
    have : rs.length = (rs.set k ⟨a.f, a.t, a.r, IntKind.i64.wrap (a.w + M)⟩).length := by simp
    rw [this] at q3
    exact q3.sl
  have hll : (rs.take k ++ rs.drop (k + 1)).length ≤ 1000000 := by simp; omega
  have hlh : (rs.set k ⟨a.f, a.t, a.r, IntKind.i64.wrap (a.w + M)⟩).length ≤ 1000000 := by simp; omega
  generalize hhv : rs.set k ⟨a.f, a.t, a.r, IntKind.i64.wrap (a.w + M)⟩ = hvl at *
  have l7 : ∀ {h'}, Ext h3 h' → ldnV h' 2 (.p b7 0) = some (.agg [.i .i64 N, w7]) := fun e => blk_ldn (e.get n3.1 g73) rfl
  have l8 : ∀ {h'}, Ext h3 h' → ldnV h' 2 (.p b8 0) = some (.agg [.i .i64 N, w8]) := fun e => blk_ldn (e.get n3.2 g83) rfl
  simp only [go_sem, ↓reduceIte, r5_6, tl', i1, i2, i3, i7, t8, l0 e03]
  refine (fn_Least (hr0.ext e03) (by omega)).mono ?_
  rintro _ h4 ⟨e4, p, rfl, hp⟩
  obtain ⟨pv, tv, h5, rfl, p1, p2, p3, p4⟩ := st_planO hp.rd
  have e35 := e4.trans p2
  simp only [go_sem, ↓reduceIte, p1, r5_7, tl', i1, i2, i3, i7, t8, l7 e35]
  refine (fn_Least (a73.ext e35) hll).mono ?_
  rintro _ h6 ⟨e6, q, rfl, hq⟩
  obtain ⟨qv, tw, h7, rfl, r1, r2, r3, r4⟩ := st_planO hq.rd
  have e57 := e6.trans r2
  have e37 := e35.trans e57
  simp only [go_sem, ↓reduceIte, r1, r5_8, tl', i1, i2, i3, i7, t8, l8 e37]
  refine (fn_Least (a83.ext e37) hlh).mono ?_
  rintro _ h8 ⟨e8, s, rfl, hs⟩
  obtain ⟨sv, tx, h9, rfl, s1, s2, s3, s4⟩ := st_planO hs.rd
  have e79 := e8.trans s2
  have e59 := e57.trans e79
  have eA := e0.trans (e03.trans (e37.trans e79))
  have lp : ldV h9 (.p h4.next 1) = some (.i .i64 (leastP N rs).off) := blk_ld (e59.get (by omega) p3) rfl
  have lq : ldV h9 (.p h6.next 1) = some (.i .i64 (leastP N (rs.take k ++ rs.drop (k + 1))).off) := blk_ld (e79.get (by omega) r3) rfl
  have ls : ldV h9 (.p h8.next 1) = some (.i .i64 (leastP N hvl).off) := blk_ld s3 rfl
  simp only [go_sem, ↓reduceIte, tl', s1]
  by_cases hc : circledS N rs = 0
  case neg =>
    simp only [go_sem, ↓reduceIte, r5_9, tl', i1, i2, i3, i7, t8, hc]
    simp only [go_sem, ↓reduceIte, r5_10, tl', hc]
    exact eA
  obtain ⟨n, rfl, gc⟩ := goodC_of hc
  have hcl : circledS (n : Int) (rs.take k ++ rs.drop (k + 1)) = 0 := goodC_sub (less_sub k) gc
  obtain ⟨n', hn', gl⟩ := goodC_of hcl
  obtain rfl : n = n' := by omega
  have ha := gc.gr.1 a (List.mem_of_getElem? hx)
  unfold OkA at ha
  have hwr : IntKind.i64.wrap (a.w + M) = a.w + M := wrap_in (by omega) (by omega)
  rw [hwr] at hhv
  by_cases hch : circledS (n : Int) hvl = 0
  case neg =>
    simp only [go_sem, ↓reduceIte, r5_9, tl', i1, i2, i3, i7, t8, hc, hcl, hch]
    simp only [go_sem, ↓reduceIte, r5_10, tl', hc, hcl]
    exact eA
  obtain ⟨n', hn', gh⟩ := goodC_of hch
  obtain rfl : n = n' := by omega
  subst hhv
  have k1 := less_le gc gl hx
  obtain ⟨k2, k3⟩ := heavy_le (more := M) (by omega) gc hx gh
  have kb := left_small gc (-1) allT
  have kb0 := (leftS_bound (sp := -1) (d := allT) gc.wok (circR (n : Int) rs) (fun c hcm => by have := (circ_all gc c hcm).2.1; omega)).1
  rw [leastP, if_pos hc] at lp
  rw [leastP, if_pos hcl] at lq
  rw [leastP, if_pos hch] at ls
  simp only at lp lq ls
  generalize leftS rs (-1) allT (circR (n : Int) rs) = x0 at *
  generalize leftS (rs.take k ++ rs.drop (k + 1)) (-1) allT (circR (n : Int) (rs.take k ++ rs.drop (k + 1))) = x1 at *
  generalize leftS (rs.set k ⟨a.f, a.t, a.r, a.w + M⟩) (-1) allT (circR (n : Int) (rs.set k ⟨a.f, a.t, a.r, a.w + M⟩)) = x2 at *
  have hws : IntKind.i64.wrap (x0 + M) = x0 + M := wrap_in (by omega) (by omega)
  simp only [go_sem, ↓reduceIte, r5_9, tl', i1, i2, i3, i7, t8, hc, hcl, hch]
  simp only [go_sem, ↓reduceIte, r5_11, tl', i2, lp, lq, ls, k1, k2, hws, k3]
  exact eA
end Go.Air
set_option maxRecDepth 100000
namespace Go.Air
open Go.ChangeShapes Go.WideShapes Go.ChangeAt Go.RowKit
def absV (n : Nat) : Value → Option V
  | .int k i => some (.i k i)
  | .bool b => some (.b b)
  | .slice none 0 0 => some .sn
  | .slice (some ⟨b, o, none⟩) l c => if b < n ∧ l ≤ c ∧ 0 < c then some (.sl b o l c none) else if l = 0 ∧ c = 0 then some (.se ⟨b, o, none⟩) else none
  | .slice (some ⟨b, o, some s⟩) l c => if l = 0 ∧ c = 0 then some (.se ⟨b, o, some s⟩) else none
  | _ => none
def R0 (w : World) : Emb := fun b => if b < w.heap.size then some (b, 0) else none
theorem absV_conc {w : World} {v : Value} {u : V} (h : absV w.heap.size v = some u) : conc (R0 w) u = some v := by
  unfold absV at h
  split at h
  · cases h; simp [conc]
  · cases h; simp [conc]
  · cases h; simp [conc]
  · split at h
    · rename_i hc
      cases h
      simp [conc, R0, hc.1]
    · split at h <;> try cases h
      rename_i hc
      obtain ⟨rfl, rfl⟩ := hc
      simp [conc]
  · split at h <;> try cases h
    rename_i hc
    obtain ⟨rfl, rfl⟩ := hc
    simp [conc]
  · cases h
def mkT (f : Nat → Option Blk) : Nat → T Blk
  | 0 => .e
  | n + 1 => (mkT f n).set n (f n)
theorem mkT_get (f : Nat → Option Blk) : ∀ (n b : Nat), (mkT f n).get b = if b < n then f b else none
  | 0, b => by cases b <;> simp [mkT, T.get]
  | n + 1, b => by
    simp only [mkT, T.get_set, mkT_get f n b]
    by_cases h : b = n
    · subst h; simp
    · simp only [if_neg h]
      by_cases h2 : b < n
      · rw [if_pos h2, if_pos (by omega)]
      · rw [if_neg h2, if_neg (by omega)]
def roOf (n : Nat) : Option Obj → Option Blk
  | some (.cells arr _ _) => some (.ro (arr.toList.map (absV n)))
  | _ => none
def h0 (w : World) : H := ⟨w.heap.size, mkT (fun b => roOf w.heap.size w.heap[b]?) w.heap.size, []⟩
theorem h0_get (w : World) (b : Nat) : (h0 w).get b = if b < w.heap.size then roOf w.heap.size w.heap[b]? else none := mkT_get _ _ _
theorem h0_sim (P : Program) (w : World) : Sim P allB (R0 w) (h0 w).get w := by
  refine ⟨?_, ?_, ?_⟩
  · intro b c sz x _ hb hx
    simp only [R0] at hb
    split at hb <;> simp only [Option.some.injEq, Prod.mk.injEq, reduceCtorEq] at hb
    rename_i hlt
    obtain ⟨rfl, rfl⟩ := hb
    rw [h0_get, if_pos hlt] at hx
    unfold roOf at hx
    split at hx <;> simp only [Option.some.injEq, reduceCtorEq] at hx
    rename_i arr e f ho
    subst hx
    refine ⟨arr, e, f, ho, by simp, fun i v hi => ?_⟩
    rw [List.getElem?_map, Option.map_eq_some_iff] at hi
    obtain ⟨y, h1, h2⟩ := hi
    exact ⟨y, h1, absV_conc h2⟩
  · intro b b' c sz sz' x x' _ _ hb hb' _ _
    simp only [R0] at hb hb'
    split at hb <;> simp only [Option.some.injEq, Prod.mk.injEq, reduceCtorEq] at hb
    split at hb' <;> simp only [Option.some.injEq, Prod.mk.injEq, reduceCtorEq] at hb'
    omega
  · intro b c sz hb
    simp only [R0] at hb
    split at hb <;> simp only [Option.some.injEq, Prod.mk.injEq, reduceCtorEq] at hb
    omega
theorem h0_wf (w : World) : WF (h0 w) := by
  refine ⟨fun b hb => ?_, fun _ hb => by simp [h0] at hb⟩
  have hb : w.heap.size ≤ b := hb
  rw [h0_get, if_neg (by omega)]
theorem lift_true {g : Nat} {args : List V} {vs : List Value} {W : World} (hargs : concL (R0 W) args = some vs)
    (hrun : WC Try.tblA (.fn g [] []) args (h0 W) fun v h' => v = .b true ∧ Ext (h0 W) h') :
    Calls Go.Proofs.Try.prog g vs.toArray W fun e W' => e = .returned (.bool true) ∧ Below W.heap.size W W' := by
  obtain ⟨k, v, h', he, rfl, hx⟩ := hrun
  have hfr : Fresh (R0 W) (h0 W) h' := fun b hb _ => by
    have hb : W.heap.size ≤ b := hb
    simp only [R0]
    rw [if_neg (by omega)]
  have h1 := (air_fn Try.mixed Try.okA he (h0_sim _ W) hfr (h0_wf W) hargs).2 none 0
  have h2 : CallsIn Fence.wide 0 Go.Proofs.Try.prog g vs.toArray W _ := h1
  refine (callsIn_wide.1 h2).mono ?_
  intro e W' q
  cases e with
  | returned x =>
    obtain ⟨R', l, f, _, hc⟩ := q
    refine ⟨by simp [conc] at hc; rw [hc], f.io.1, f.io.2.1, f.io.2.2, f.size, fun c hlt => f.frame c hlt fun b sz hb hl => ?_⟩
    obtain ⟨l', e1, e2⟩ := hx.log
    have e3 := f.log
    rw [e1] at e3
    have : l' = l := List.append_cancel_right e3
    subst this
    have := e2 b hl
    have hn : (h0 W).next = W.heap.size := rfl
    simp only [R0] at hb
    split at hb <;> simp only [Option.some.injEq, Prod.mk.injEq, reduceCtorEq] at hb
    omega
  | _ => exact q.elim
theorem own : ownKnob Go.Proofs.Try.prog.godebug = none := by kernel_rfl
theorem laid : laidOutB Go.Proofs.Try.prog = true := by kernel_rfl
theorem trodAll_stays {H : Type} {enc : TypeId × Value → H} {P : Program} {base : Nat} (hl : laidOutB P = true) {W W' : World} {sp : Nat → Bool} : ∀ {ts : List TypeId} {vs : List Value} {ds : List (DataW H)} {ps : List MemPlace},
    (∀ t ∈ ts, P.readableRec t = true ∧ t < P.types.size) → DataW.TrodAll enc P W base (fun _ => true) true ts vs ds ps → (∀ p ∈ ps, W.sameAt W' p) → (∀ p ∈ ps, sp p.block = true) → DataW.TrodAll enc P W' base sp true ts vs ds ps
  | [], _, _, _, _, h, _, _ => by
    obtain ⟨rfl, rfl, rfl⟩ := trodAll_nil h
    exact h
  | t :: ts, _, _, _, ht, h, h1, h2 => by
    obtain ⟨v, vs1, d, ds1, a, b, rfl, rfl, rfl, q1, q2⟩ := trodAll_cons h
    have := ht t (by simp)
    exact ⟨a, b, WideElems.Trod_stays hl this.1 this.2 q1 (fun p hp => h1 p (List.mem_append_left _ hp)) (fun p hp => h2 p (List.mem_append_left _ hp)),
      trodAll_stays hl (fun t ht' => ht t (by simp [ht'])) q2 (fun p hp => h1 p (List.mem_append_right _ hp)) (fun p hp => h2 p (List.mem_append_right _ hp)), rfl⟩
theorem trodAll_length {H : Type} {enc : TypeId × Value → H} {P : Program} {w : World} {base : Nat} {spare : Nat → Bool} {held : Bool} : ∀ {ts : List TypeId} {vs : List Value} {ds : List (DataW H)} {ps : List MemPlace},
    DataW.TrodAll enc P w base spare held ts vs ds ps → ds.length = ts.length
  | [], _, _, _, h => by
    obtain ⟨_, rfl, _⟩ := trodAll_nil h
    rfl
  | t :: ts, _, _, _, h => by
    obtain ⟨v, vs1, d, ds1, a, b, rfl, rfl, rfl, q1, q2⟩ := trodAll_cons h
    simp [trodAll_length q2]
noncomputable def readable (l : List TypeId) : Bool := l.all fun t => Go.Proofs.Try.prog.readableRec t && decide (t < Go.Proofs.Try.prog.types.size)
theorem post_true {H : Type} {enc : TypeId × Value → H} {f : Func} {s : ChangeSpec} {W W' : World} {args : Array Value} {bt : TypeId} {ds gs : List (DataW H)} {before : List MemPlace}
    (hW : DataW.Whole enc Go.Proofs.Try.prog f.params.toList s.vars false W args.toList ds gs before) (hv : s.vars = []) (hs : s.fn H ds = { results := [.lit (.bool true)], args := ds })
    (hr : f.resultTypes = #[bt]) (hbt : Go.Proofs.Try.prog.underlying bt = some .bool) (hp : readable f.params.toList = true) (hb : Below W.heap.size W W') :
    s.post enc Go.Proofs.Try.prog f false true false false W args (.bool true) W' := by
  have hlt := hW.lt
  have hW' := hW
  obtain ⟨p, q, hA, hV, rfl, hfz, hnd⟩ := hW
  rw [hv] at hV
  have hV0 := hV
  obtain ⟨rfl, rfl⟩ := trodVars_none hV
  have hread : ∀ t ∈ f.params.toList, Go.Proofs.Try.prog.readableRec t = true ∧ t < Go.Proofs.Try.prog.types.size := by
    intro t ht
    have := List.all_eq_true.1 hp t ht
    simpa using this
  have hlt' : ∀ x ∈ p, x.block < W.heap.size := fun x hx => hlt x (by simp [hx])
  have e : s.fn H (ds ++ []) = { results := [.lit (.bool true)], args := ds } := by simpa using hs
  refine ⟨ds, [], p ++ [], [], p, [], hW', ?_, ?_, ?_, hb.frame _, fun ha => by cases ha⟩
  · rw [e, hr]
    exact trodAll_mk1 (shut_bool hbt true)
  · rw [e]
    exact trodAll_stays laid hread hA (fun x hx => hb.same (hlt' x hx)) (fun x hx => by simpa using hlt' x hx)
  · rw [e, hv]
    exact hV0
theorem row_true {g : Nat} {fn : Func} {s : ChangeSpec} {bt : TypeId} (hfn : Go.Proofs.Try.prog.funcs[g]? = some fn) (hv : s.vars = [])
    (hs : ∀ (H : Type) (ds : List (DataW H)), ds.length = fn.params.size → s.fn H ds = { results := [.lit (.bool true)], args := ds })
    (hr : fn.resultTypes = #[bt]) (hbt : Go.Proofs.Try.prog.underlying bt = some .bool) (hp : readable fn.params.toList = true) (hni : Go.Proofs.Try.checked.prog.inits.idxOf? g = none)
    (os : Os) (started : os.Started) (H : Type) (enc : TypeId × Value → H)
    (witness : ∃ (w : World) (tape : Tape) (i : Input), w.os = os ∧ (w.forCall tape i).Shaped Go.Proofs.Try.checked.prog ∧ i.vars = [] ∧ Input.okWide Go.Proofs.Try.checked.prog (w.forCall tape i) .any w.heap.size g i ∧
      s.pre6 enc Go.Proofs.Try.checked.prog fn [] false (w.forCall tape i).memory i.args ∧ Assume.holds {} Go.Proofs.Try.checked.prog (lone (Frame.enter Go.Proofs.Try.checked.prog g i.args .normal) [] (w.forCall tape i)))
    (hrun : ∀ (W : World) (args : List Value) (ds : List (DataW H)) (ps : List MemPlace) (base : Nat), (∀ (j : Nat) t v, fn.params[j]? = some t → args[j]? = some v → Value.okWide Go.Proofs.Try.prog W .any base t v) →
      DataW.TrodAll enc Go.Proofs.Try.prog W 0 (fun _ => true) true fn.params.toList args ds ps →
      (DataW.weightsEach Go.Proofs.Try.prog fn.params.toList ds).all (· ≤ reachBytes) = true →
      ∃ us, concL (R0 W) us = some args ∧ WC Try.tblA (.fn g [] []) us (h0 W) fun v h' => v = .b true ∧ Ext (h0 W) h') :
    ReturnsInHanded {} Go.Proofs.Try.checked os g .any (s.pre6 enc Go.Proofs.Try.checked.prog fn [] false) (s.post enc Go.Proofs.Try.checked.prog fn false true false false) := by
  refine returnsInHanded_of_change_shaped (C := Go.Proofs.Try.checked) own started hni hfn witness ?_
  intro W base args ds gs before hval hW _ hwt _ _
  have hW' := hW
  obtain ⟨p, q, hA, hV, rfl, hfz, hnd⟩ := hW
  rw [hv] at hV
  obtain ⟨rfl, rfl⟩ := trodVars_none hV
  have hw2 : (DataW.weightsEach Go.Proofs.Try.prog fn.params.toList ds).all (· ≤ reachBytes) = true := by
    have e : s.plain.varTypes Go.Proofs.Try.checked.prog = [] := by simp [DataSpec.varTypes, ChangeSpec.plain, hv]
    have h := hwt
    rw [e, List.append_nil, List.append_nil] at h
    exact h
  obtain ⟨us, h1, h2⟩ := hrun W args.toList ds p base (fun j t v h1 h2 => hval j t v h1 (by simpa using h2)) hA hw2
  have hcall := lift_true h1 h2
  rw [Array.toArray_toList] at hcall
  refine hcall.mono ?_
  rintro e W' ⟨rfl, hb⟩
  exact ⟨_, rfl, post_true hW' hv (hs H ds (by simpa using trodAll_length hA)) hr hbt hp hb⟩
end Go.Air
set_option maxRecDepth 100000
namespace Go.Air
open Go.ChangeShapes Go.WideShapes Go.ChangeAt Go.RowKit Go.Air.Try
theorem cutO_of : ∀ {cs : List (Option V)} {o n : Nat} {l : List V}, l.length = n → (∀ (i : Nat) (v : V), l[i]? = some v → cs[o + i]? = some (some v)) → o + n ≤ cs.length → cutO cs o n = some l
  | [], 0, 0, l, hl, _, _ => by
    obtain rfl := List.eq_nil_of_length_eq_zero hl
    rfl
  | _ :: _, 0, 0, l, hl, _, _ => by
    obtain rfl := List.eq_nil_of_length_eq_zero hl
    rfl
  | [], 0, n + 1, _, _, _, h => by simp at h
  | [], o + 1, n, _, _, _, h => by simp at h
  | x :: cs, 0, n + 1, l, hl, h, hle => by
    cases l with
    | nil => simp at hl
    | cons v l =>
      have h0 := h 0 v rfl
      simp only [Nat.add_zero, List.getElem?_cons_zero, Option.some.injEq] at h0
      subst h0
      have ih := cutO_of (cs := cs) (o := 0) (n := n) (l := l) (by simpa using hl) (fun i v hi => by
        have := h (i + 1) v (by simpa using hi)
        rw [show 0 + (i + 1) = (0 + i) + 1 by omega] at this
        simpa using this) (by simp at hle ⊢; omega)
      simp only [cutO, ih, Option.map_some]
  | x :: cs, o + 1, n, l, hl, h, hle => by
    simp only [cutO]
    refine cutO_of (o := o) hl (fun i v hi => ?_) (by simp at hle; omega)
    have := h i v hi
    rw [show o + 1 + i = (o + i) + 1 by omega] at this
    simpa using this
variable {W : World}
theorem cell_inv {a : Addr} {x : Value} (h : W.cell? a = some x) : a.spot = none ∧ ∃ arr e f, W.heap[a.block]? = some (.cells arr e f) ∧ arr.toList[a.off]? = some x := by
  unfold World.cell? at h
  split at h <;> try simp at h
  rename_i arr e f ho
  exact ⟨h.1, arr, e, f, ho, by simpa using h.2⟩
theorem arg_of {a : Addr} {len cap esz : Nat} {cs : List V} (hlen : cs.length = len * esz) (hc : 0 < cap) (hz : 0 < esz) (hle : len ≤ cap) {x0 : Value} (hx0 : W.cell? (a.add 0) = some x0)
    (hcell : ∀ i u, cs[i]? = some u → ∃ x, W.cell? (a.add i) = some x ∧ absV W.heap.size x = some u) :
    ∃ v, absV W.heap.size (.slice (some a) len cap) = some v ∧ conc (R0 W) v = some (.slice (some a) len cap) ∧ Arg esz (h0 W) v len cs := by
  obtain ⟨b, o, s⟩ := a
  obtain ⟨hs, arr, e, f, ho, _⟩ := cell_inv hx0
  obtain rfl : s = none := by simpa [Addr.add] using hs
  simp only [add_spot] at hcell ho
  have hb : b < W.heap.size := by
    rcases Nat.lt_or_ge b W.heap.size with h | h
    · exact h
    · rw [Array.getElem?_eq_none h] at ho; cases ho
  have hv : absV W.heap.size (.slice (some ⟨b, o, none⟩) len cap) = some (.sl b o len cap none) := by
    simp only [absV]
    rw [if_pos ⟨hb, hle, hc⟩]
  refine ⟨_, hv, absV_conc hv, .inr ⟨b, o, cap, _, rfl, hle, hb, by rw [h0_get, if_pos hb, ho]; rfl, ?_⟩⟩
  have hcell' : ∀ (i : Nat) (u : V), cs[i]? = some u → ∃ x, arr.toList[o + i]? = some x ∧ absV W.heap.size x = some u := by
    intro i u hi
    obtain ⟨x, h1, h2⟩ := hcell i u hi
    obtain ⟨_, arr', e', f', q1, q2⟩ := cell_inv h1
    simp only at q1 q2
    rw [ho] at q1
    cases q1
    exact ⟨x, q2, h2⟩
  simp only [Blk.rd]
  refine cutO_of hlen (fun i u hi => ?_) ?_
  · obtain ⟨x, h1, h2⟩ := hcell' i u hi
    rw [List.getElem?_map, h1, Option.map_some, h2]
  · by_cases h0 : len * esz = 0
    · have hx : o ≤ arr.toList.length := by
        obtain ⟨_, arr', e', f', q1, q2⟩ := cell_inv hx0
        simp only [add_spot] at q1 q2
        rw [ho] at q1
        cases q1
        have := (List.getElem?_eq_some_iff.1 q2).1
        simp only [Nat.add_zero] at this
        omega
      simp only [List.length_map]; omega
    · have hlt : len * esz - 1 < cs.length := by omega
      obtain ⟨x, h1, _⟩ := hcell' (len * esz - 1) cs[len * esz - 1] (List.getElem?_eq_getElem hlt)
      have := (List.getElem?_eq_some_iff.1 h1).1
      simp only [List.length_map]; omega
end Go.Air
set_option maxRecDepth 100000
namespace Go.Air
open Go.ChangeShapes Go.WideShapes Go.ChangeAt Go.RowKit Go.Air.Try Go.Deep
variable {W : World}
theorem trod_struct4 {H : Type} {enc : TypeId × Value → H} {P : Program} {w : World} {base : Nat} {spare : Nat → Bool} {held : Bool} {t : TypeId} {f0 f1 f2 f3 : Field} {fuel : Nat} {cs : List Value} {x : DataW H × List MemPlace} (ht : P.underlying t = some (.struct #[f0, f1, f2, f3])) (h : DataW.trod enc P w base spare held fuel t cs = some x) :
    ∃ y0 y1 y2 y3 n, cs.length = P.cellsOf t ∧ DataW.trod enc P w base spare held n f0.type ((cs.drop f0.offset).take (P.cellsOf f0.type)) = some y0 ∧
      DataW.trod enc P w base spare held n f1.type ((cs.drop f1.offset).take (P.cellsOf f1.type)) = some y1 ∧ DataW.trod enc P w base spare held n f2.type ((cs.drop f2.offset).take (P.cellsOf f2.type)) = some y2 ∧
      DataW.trod enc P w base spare held n f3.type ((cs.drop f3.offset).take (P.cellsOf f3.type)) = some y3 := by
  obtain ⟨xs, n, _, rfl, hl, hlen, hf⟩ := DataW.trod_struct ht h
  match xs, hlen with
  | [y0, y1, y2, y3], _ => exact ⟨y0, y1, y2, y3, n, hl, by simpa using hf 0 f0 rfl, by simpa using hf 1 f1 rfl, by simpa using hf 2 f2 rfl, by simpa using hf 3 f3 rfl⟩
def ArrsA (h : H) (v : V) (rs : List Arw) : Prop := Arg 4 h v rs.length (recs arw rs)
theorem open_arrowsAA {H : Type} {enc : TypeId × Value → H} {fuel : Nat} {cs : List Value} {x : DataW H × List MemPlace}
    (h : DataW.trod enc Go.Proofs.Try.prog W 0 (fun _ => true) true fuel 22 cs = some x) :
    ∃ v u rs, cs = [v] ∧ absV W.heap.size v = some u ∧ conc (R0 W) u = some v ∧ ArrsA (h0 W) u rs := by
  have c23 : Go.Proofs.Try.prog.cellsOf 41 = 4 := by kernel_rfl
  have c3 : Go.Proofs.Try.prog.cellsOf 3 = 1 := by kernel_rfl
  rcases open_slice Go.Proofs.Try.underlying22 h with ⟨hcs, _⟩ | ⟨a, len, cap, m, n, D, Pl, hcs, _, hl, hm, hmm, _, hx⟩
  · subst hcs
    exact ⟨_, .sn, [], rfl, rfl, by simp [conc], .inl ⟨rfl, rfl, .inl rfl⟩⟩
  · subst hcs
    simp only [if_true] at hmm
    subst hmm
    by_cases h0' : m = 0
    · subst h0'
      obtain rfl : len = 0 := by omega
      obtain ⟨b, o, s⟩ := a
      refine ⟨_, .se ⟨b, o, s⟩, [], rfl, ?_, by simp [conc], .inl ⟨rfl, rfl, .inr ⟨_, rfl⟩⟩⟩
      cases s <;> simp [absV]
    · have hz : ∀ i, ∃ q : Arw, i < m → ∀ (j : Nat) (u : V), (arw q)[j]? = some u → ∃ x, W.cell? (a.add (i * 4 + j)) = some x ∧ absV W.heap.size x = some u := by
        intro i
        by_cases hi : ¬ i < m
        · exact ⟨⟨0, 0, 0, 0⟩, fun h => absurd h hi⟩
        replace hi := Classical.not_not.1 hi
        obtain ⟨cs', h1, h2⟩ := hx i hi
        rw [c23] at h1
        obtain ⟨_, hlen, hcell⟩ := World.cells?_some h1
        obtain ⟨y0, y1, y2, y3, k, _, g0, g1, g2, g3⟩ := trod_struct4 Go.Proofs.Try.underlying41 h2
        rw [c3] at g0 g1 g2 g3
        match cs', hlen with
        | [v0, v1, v2, v3], _ =>
          obtain ⟨z0, e0, _⟩ := DataW.trod_int Go.Proofs.Try.underlying3 g0
          obtain ⟨z1, e1, _⟩ := DataW.trod_int Go.Proofs.Try.underlying3 g1
          obtain ⟨z2, e2, _⟩ := DataW.trod_int Go.Proofs.Try.underlying3 g2
          obtain ⟨z3, e3, _⟩ := DataW.trod_int Go.Proofs.Try.underlying3 g3
          simp at e0 e1 e2 e3
          subst e0 e1 e2 e3
          refine ⟨⟨z0, z1, z2, z3⟩, fun _ j u hj => ?_⟩
          have hj4 : j < 4 := (List.getElem?_eq_some_iff.1 hj).1
          have hc := hcell j hj4
          rw [add_add] at hc
          match j, hj4, hj, hc with
          | 0, _, hj, hc => simp [arw] at hj; subst hj; exact ⟨_, hc, rfl⟩
          | 1, _, hj, hc => simp [arw] at hj; subst hj; exact ⟨_, hc, rfl⟩
          | 2, _, hj, hc => simp [arw] at hj; subst hj; exact ⟨_, hc, rfl⟩
          | 3, _, hj, hc => simp [arw] at hj; subst hj; exact ⟨_, hc, rfl⟩
      obtain ⟨f, hf⟩ := Classical.axiomOfChoice hz
      have hget : ∀ i, i < len → ((List.range len).map f)[i]? = some (f i) := by intro i hi; simp [hi]
      have hrl := recs_len arw_len ((List.range len).map f)
      obtain ⟨x0, hx0, _⟩ := hf 0 (by omega) 0 _ rfl
      obtain ⟨u, q1, q2, q3⟩ := arg_of (W := W) (a := a) (len := len) (cap := m) (esz := 4) (cs := recs arw ((List.range len).map f)) (by rw [hrl]; simp) (by omega) (by omega) hl (x0 := x0) (by simpa using hx0) (by
        intro i u hi
        have hlt : i < len * 4 := by
          have := (List.getElem?_eq_some_iff.1 hi).1
          rw [hrl] at this
          simpa using this
        have hjl : i / 4 < len := by omega
        have hi' : i = i / 4 * 4 + i % 4 := by omega
        rw [hi'] at hi ⊢
        rw [recs_get arw_len (hget _ hjl) (by omega)] at hi
        exact hf (i / 4) (by omega) (i % 4) u hi)
      refine ⟨_, u, (List.range len).map f, rfl, q1, q2, ?_⟩
      unfold ArrsA
      simpa using q3
theorem open_relAA {H : Type} {enc : TypeId × Value → H} {base : Nat} {v : Value} {d : DataW H} {p : List MemPlace} (hval : Value.okWide Go.Proofs.Try.prog W .any base 24 v)
    (hd : DataW.Trod enc Go.Proofs.Try.prog W 0 (fun _ => true) true 24 v d p) : ∃ (N : Int) (u : V) (rs : List Arw), conc (R0 W) (.agg [.i .i64 N, u]) = some v ∧ ArrsA (h0 W) u rs := by
  have c3 : Go.Proofs.Try.prog.cellsOf 3 = 1 := by kernel_rfl
  have c22 : Go.Proofs.Try.prog.cellsOf 22 = 1 := by kernel_rfl
  have c24 : Go.Proofs.Try.prog.cellsOf 24 = 2 := by kernel_rfl
  obtain ⟨cs, rfl, hsz⟩ := okWide_struct Go.Proofs.Try.underlying24 hval
  obtain ⟨fuel, hf⟩ := hd
  obtain ⟨y0, y1, n, _, hl, q0, q1⟩ := trod_struct2 Go.Proofs.Try.underlying24 hf
  rw [c24] at hsz
  obtain ⟨l⟩ := cs
  simp only [Value.cells, List.size_toArray] at hsz q0 q1
  match l, hsz with
  | [x, y], _ =>
    rw [c3] at q0
    rw [c22] at q1
    obtain ⟨N, e1, _⟩ := DataW.trod_int Go.Proofs.Try.underlying3 q0
    obtain ⟨v, u, rs, e2, r1, r2, r3⟩ := open_arrowsAA q1
    simp at e1 e2
    subst e1 e2
    exact ⟨N, u, rs, by simp [conc, concL, r2], r3⟩
end Go.Air
