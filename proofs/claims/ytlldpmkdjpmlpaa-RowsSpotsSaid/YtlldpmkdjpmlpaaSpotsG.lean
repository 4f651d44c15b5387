/-
  Spots of the program, in Air: all kinds.
-/
import Derived.Test.YtlldpmkdjpmlpaaSpotsF
import Derived.Test.YtlldpmkdjpmlpaaMirror
set_option linter.unusedSectionVars false
set_option linter.unusedVariables false
set_option linter.unusedSimpArgs false
set_option maxRecDepth 100000
namespace Go.Air
open Go.Air.Try

/-- the places at a table. -/
theorem tbl_loop {h : H} {n b : Nat} {u1 u2 : V} (hn : n ≤ 200) (hb : b < h.next) (g1 : ldV h (.p b 0) = some u1) (g2 : ldV h (.p b 1) = some u2) (i1 : Ints h u1 (mid (n - n / 2))) (i2 : Ints h u2 (mid (n / 2)))
    {t : List V} (tl : t.length = 132) (t11 : nth t 11 = .p b 0) (t12 : nth t 12 = .sn) (t112 : nth t 112 = .i .i64 (n : Int)) (t113 : nth t 113 = .i .i64 0)
    {S : V → H → Prop} (hS : ∀ w h', Ext h h' → Own h 2 h' w n (spots (tblP n)) → S (.tup [w, .i .i64 0]) h') :
    W tblA (.loop b42_1) t h (Kblk 3 (Kseq tblA (.seq (.ops r42_28) .ret) (Kblk 0 (Kseq tblA (.seq (.ops r42_29) .ret) (Kfn [.tmp 6, .tmp 7] S))))) := by
  refine W_while (fun kk t h2 => ∃ (i : Nat) (w : V), kk = n - i ∧ i ≤ n ∧ t.length = 132 ∧ nth t 11 = .p b 0 ∧ nth t 12 = w ∧ nth t 112 = .i .i64 (n : Int) ∧ nth t 113 = .i .i64 (i : Int) ∧ Ext h h2 ∧ Own h 2 h2 w i (spots ((tblP n).take i))) ?_ n ?_
  · rintro kk t h2 ⟨i, w, rfl, hi, tl, t11, t12, t112, t113, e2, o2⟩
    unfold b42_1
    by_cases hlt : i < n
    · have hlt' : (i : Int) < (n : Int) := by omega
      have hrem := rem_eq i
      have hquo : IntKind.i64.wrap ((i : Int).tdiv 2) = ((i / 2 : Nat) : Int) := by
        rw [show (i : Int).tdiv 2 = ((i / 2 : Nat) : Int) from rfl]
        exact wrap_in (by omega) (by omega)
      obtain ⟨c, hc⟩ : ∃ c, (if i % 2 = 0 then mid (n - n / 2) else mid (n / 2))[i / 2]? = some c := by
        refine ⟨_, List.getElem?_eq_getElem ?_⟩
        split <;> rw [mid_len] <;> omega
      have htb : (tblP n)[i]? = some (((i % 2 : Nat) : Int), c) := by
        simp only [tblP, List.getElem?_map, List.getElem?_range hlt, Option.map_some, List.getD_eq_getElem?_getD, hc, Option.getD_some]
      have l1 : ldV h2 (.p b 0) = some u1 := by rw [← g1]; simp only [ldV]; rw [e2.same b hb]
      have l2 : ldV h2 (.p b 1) = some u2 := by rw [← g2]; simp only [ldV]; rw [e2.same b hb]
      obtain ⟨o4, x4⟩ := Own.lit (esz := 2) (Ext.refl h2) [.i .i64 ((i % 2 : Nat) : Int), .i .i64 c] 1 rfl
      obtain ⟨w', h5, r1, r2, r3, _⟩ := Own.app (bytes := 16) (o2.ext x4) (e2.trans x4) o4.sl (by intro u hu; simp at hu; rcases hu with rfl | rfl <;> rfl) (by omega) (by omega) (by omega)
      have hfin : ∃ m, m < n - i ∧ ∃ (i' : Nat) (w : V), m = n - i' ∧ i' ≤ n ∧ V.i .i64 ((i + 1 : Nat) : Int) = V.i .i64 (i' : Int) ∧ Ext h h5 ∧ Own h 2 h5 w' i' (spots ((tblP n).take i')) := by
        refine ⟨n - (i + 1), by omega, i + 1, w', rfl, hlt, rfl, r2, ?_⟩
        rw [take_succ' htb, spots_append]
        exact r3
      by_cases hp : i % 2 = 0
      · rw [if_pos hp] at hc
        have hci := (List.getElem?_eq_some_iff.1 hc).1
        have j1 := i1.ext e2
        have hld := j1.ld hc
        have hix : ixAV 2 1 (.p b 0) (.i .i64 ((i % 2 : Nat) : Int)) = some (.p b 0) := by rw [ixA_ok (by omega), hp]
        simp only [go_sem, ↓reduceIte, r42_24, r42_25, r42_26, r42_27, tl, t11, t12, t112, t113, hlt', hrem, hquo, hix, l1, j1.ix hci, hld, r1, wrap_succ (show i < 1000000000 by omega)]
        obtain ⟨m, p1, i', _, p2, p3, p4, p5, p6⟩ := hfin
        exact ⟨m, p1, i', w', p2, p3, rfl, p4, p5, p6⟩
      · rw [if_neg hp] at hc
        have hci := (List.getElem?_eq_some_iff.1 hc).1
        have j2 := i2.ext e2
        have hld := j2.ld hc
        have hix : ixAV 2 1 (.p b 0) (.i .i64 ((i % 2 : Nat) : Int)) = some (.p b 1) := by rw [ixA_ok (by omega), show i % 2 = 1 by omega]
        simp only [go_sem, ↓reduceIte, r42_24, r42_25, r42_26, r42_27, tl, t11, t12, t112, t113, hlt', hrem, hquo, hix, l2, j2.ix hci, hld, r1, wrap_succ (show i < 1000000000 by omega)]
        obtain ⟨m, p1, i', _, p2, p3, p4, p5, p6⟩ := hfin
        exact ⟨m, p1, i', w', p2, p3, rfl, p4, p5, p6⟩
    · have hlt' : ¬ (i : Int) < (n : Int) := by omega
      simp only [go_sem, ↓reduceIte, r42_24, r42_28, tl, t12, t112, t113, hlt']
      obtain rfl : i = n := by omega
      rw [List.take_of_length_le (by simp [tblP])] at o2
      exact hS w h2 e2 o2
  · refine ⟨0, .sn, by omega, by omega, ?_⟩
    simp only [go_sem, ↓reduceIte, tl, t11, t12, t112, t113]
    exact ⟨.refl h, .nil⟩

def St42 (t : List V) (kd : Int) (m : Nat) (k : Int) : Prop := t.length = 132 ∧ nth t 0 = .i .u8 kd ∧ nth t 1 = .i .i64 (m : Int) ∧ nth t 2 = .i .i64 k
theorem ops42_3 {t : List V} {h : H} {kd k : Int} {m : Nat} {Q : Out → List V → H → Prop} (s : St42 t kd m k) (hQ : ∀ t', St42 t' kd m k → nth t' 20 = .b (decide (kd = 1 ∧ k = 0)) → Q .norm t' h) : WL tblA r42_3 t h (Kops Q) := by
  obtain ⟨tl, t0, t1, t2⟩ := s
  by_cases c0 : kd = 1
  · by_cases c1 : k = 0
    · simp only [go_sem, ↓reduceIte, r42_3, tl, t0, t1, t2, c0, c1]
      exact hQ _ ⟨by simp only [go_sem, ↓reduceIte, tl], by simp only [go_sem, ↓reduceIte, t0], by simp only [go_sem, ↓reduceIte, t1], by simp only [go_sem, ↓reduceIte, t2]⟩ (by simp only [go_sem, ↓reduceIte, tl]; simp [c0, c1])
    · simp only [go_sem, ↓reduceIte, r42_3, tl, t0, t1, t2, c0, c1]
      exact hQ _ ⟨by simp only [go_sem, ↓reduceIte, tl], by simp only [go_sem, ↓reduceIte, t0], by simp only [go_sem, ↓reduceIte, t1], by simp only [go_sem, ↓reduceIte, t2]⟩ (by simp only [go_sem, ↓reduceIte, tl]; simp [c1])
  · simp only [go_sem, ↓reduceIte, r42_3, tl, t0, t1, t2, c0]
    exact hQ _ ⟨by simp only [go_sem, ↓reduceIte, tl], by simp only [go_sem, ↓reduceIte, t0], by simp only [go_sem, ↓reduceIte, t1], by simp only [go_sem, ↓reduceIte, t2]⟩ (by simp only [go_sem, ↓reduceIte, tl]; simp [c0])

theorem ops42_5 {t : List V} {h : H} {kd k : Int} {m : Nat} {Q : Out → List V → H → Prop} (s : St42 t kd m k) (hQ : ∀ t', St42 t' kd m k → nth t' 30 = .b (decide (kd = 2 ∧ 1 ≤ k ∧ k ≤ 200)) → Q .norm t' h) : WL tblA r42_5 t h (Kops Q) := by
  obtain ⟨tl, t0, t1, t2⟩ := s
  by_cases c0 : kd = 2
  · by_cases c1 : 1 ≤ k
    · by_cases c2 : k ≤ 200
      · simp only [go_sem, ↓reduceIte, r42_5, tl, t0, t1, t2, c0, c1, c2]
        exact hQ _ ⟨by simp only [go_sem, ↓reduceIte, tl], by simp only [go_sem, ↓reduceIte, t0], by simp only [go_sem, ↓reduceIte, t1], by simp only [go_sem, ↓reduceIte, t2]⟩ (by simp only [go_sem, ↓reduceIte, tl]; simp [c0, c1, c2])
      · simp only [go_sem, ↓reduceIte, r42_5, tl, t0, t1, t2, c0, c1, c2]
        exact hQ _ ⟨by simp only [go_sem, ↓reduceIte, tl], by simp only [go_sem, ↓reduceIte, t0], by simp only [go_sem, ↓reduceIte, t1], by simp only [go_sem, ↓reduceIte, t2]⟩ (by simp only [go_sem, ↓reduceIte, tl]; simp [c2])
    · simp only [go_sem, ↓reduceIte, r42_5, tl, t0, t1, t2, c0, c1]
      exact hQ _ ⟨by simp only [go_sem, ↓reduceIte, tl], by simp only [go_sem, ↓reduceIte, t0], by simp only [go_sem, ↓reduceIte, t1], by simp only [go_sem, ↓reduceIte, t2]⟩ (by simp only [go_sem, ↓reduceIte, tl]; simp [c1])
  · simp only [go_sem, ↓reduceIte, r42_5, tl, t0, t1, t2, c0]
    exact hQ _ ⟨by simp only [go_sem, ↓reduceIte, tl], by simp only [go_sem, ↓reduceIte, t0], by simp only [go_sem, ↓reduceIte, t1], by simp only [go_sem, ↓reduceIte, t2]⟩ (by simp only [go_sem, ↓reduceIte, tl]; simp [c0])

theorem ops42_12 {t : List V} {h : H} {kd k : Int} {m : Nat} {Q : Out → List V → H → Prop} (s : St42 t kd m k) (hQ : ∀ t', St42 t' kd m k → nth t' 63 = .b (decide (kd = 3 ∧ k = 0)) → Q .norm t' h) : WL tblA r42_12 t h (Kops Q) := by
  obtain ⟨tl, t0, t1, t2⟩ := s
  by_cases c0 : kd = 3
  · by_cases c1 : k = 0
    · simp only [go_sem, ↓reduceIte, r42_12, tl, t0, t1, t2, c0, c1]
      exact hQ _ ⟨by simp only [go_sem, ↓reduceIte, tl], by simp only [go_sem, ↓reduceIte, t0], by simp only [go_sem, ↓reduceIte, t1], by simp only [go_sem, ↓reduceIte, t2]⟩ (by simp only [go_sem, ↓reduceIte, tl]; simp [c0, c1])
    · simp only [go_sem, ↓reduceIte, r42_12, tl, t0, t1, t2, c0, c1]
      exact hQ _ ⟨by simp only [go_sem, ↓reduceIte, tl], by simp only [go_sem, ↓reduceIte, t0], by simp only [go_sem, ↓reduceIte, t1], by simp only [go_sem, ↓reduceIte, t2]⟩ (by simp only [go_sem, ↓reduceIte, tl]; simp [c1])
  · simp only [go_sem, ↓reduceIte, r42_12, tl, t0, t1, t2, c0]
    exact hQ _ ⟨by simp only [go_sem, ↓reduceIte, tl], by simp only [go_sem, ↓reduceIte, t0], by simp only [go_sem, ↓reduceIte, t1], by simp only [go_sem, ↓reduceIte, t2]⟩ (by simp only [go_sem, ↓reduceIte, tl]; simp [c0])

theorem ops42_14 {t : List V} {h : H} {kd k : Int} {m : Nat} {Q : Out → List V → H → Prop} (s : St42 t kd m k) (hQ : ∀ t', St42 t' kd m k → nth t' 73 = .b (decide (kd = 3 ∧ k = 1)) → Q .norm t' h) : WL tblA r42_14 t h (Kops Q) := by
  obtain ⟨tl, t0, t1, t2⟩ := s
  by_cases c0 : kd = 3
  · by_cases c1 : k = 1
    · simp only [go_sem, ↓reduceIte, r42_14, tl, t0, t1, t2, c0, c1]
      exact hQ _ ⟨by simp only [go_sem, ↓reduceIte, tl], by simp only [go_sem, ↓reduceIte, t0], by simp only [go_sem, ↓reduceIte, t1], by simp only [go_sem, ↓reduceIte, t2]⟩ (by simp only [go_sem, ↓reduceIte, tl]; simp [c0, c1])
    · simp only [go_sem, ↓reduceIte, r42_14, tl, t0, t1, t2, c0, c1]
      exact hQ _ ⟨by simp only [go_sem, ↓reduceIte, tl], by simp only [go_sem, ↓reduceIte, t0], by simp only [go_sem, ↓reduceIte, t1], by simp only [go_sem, ↓reduceIte, t2]⟩ (by simp only [go_sem, ↓reduceIte, tl]; simp [c1])
  · simp only [go_sem, ↓reduceIte, r42_14, tl, t0, t1, t2, c0]
    exact hQ _ ⟨by simp only [go_sem, ↓reduceIte, tl], by simp only [go_sem, ↓reduceIte, t0], by simp only [go_sem, ↓reduceIte, t1], by simp only [go_sem, ↓reduceIte, t2]⟩ (by simp only [go_sem, ↓reduceIte, tl]; simp [c0])

theorem ops42_16 {t : List V} {h : H} {kd k : Int} {m : Nat} {Q : Out → List V → H → Prop} (s : St42 t kd m k) (hQ : ∀ t', St42 t' kd m k → nth t' 83 = .b (decide (kd = 3 ∧ k = 2)) → Q .norm t' h) : WL tblA r42_16 t h (Kops Q) := by
  obtain ⟨tl, t0, t1, t2⟩ := s
  by_cases c0 : kd = 3
  · by_cases c1 : k = 2
    · simp only [go_sem, ↓reduceIte, r42_16, tl, t0, t1, t2, c0, c1]
      exact hQ _ ⟨by simp only [go_sem, ↓reduceIte, tl], by simp only [go_sem, ↓reduceIte, t0], by simp only [go_sem, ↓reduceIte, t1], by simp only [go_sem, ↓reduceIte, t2]⟩ (by simp only [go_sem, ↓reduceIte, tl]; simp [c0, c1])
    · simp only [go_sem, ↓reduceIte, r42_16, tl, t0, t1, t2, c0, c1]
      exact hQ _ ⟨by simp only [go_sem, ↓reduceIte, tl], by simp only [go_sem, ↓reduceIte, t0], by simp only [go_sem, ↓reduceIte, t1], by simp only [go_sem, ↓reduceIte, t2]⟩ (by simp only [go_sem, ↓reduceIte, tl]; simp [c1])
  · simp only [go_sem, ↓reduceIte, r42_16, tl, t0, t1, t2, c0]
    exact hQ _ ⟨by simp only [go_sem, ↓reduceIte, tl], by simp only [go_sem, ↓reduceIte, t0], by simp only [go_sem, ↓reduceIte, t1], by simp only [go_sem, ↓reduceIte, t2]⟩ (by simp only [go_sem, ↓reduceIte, tl]; simp [c0])

theorem ops42_20 {t : List V} {h : H} {kd k : Int} {m : Nat} {Q : Out → List V → H → Prop} (s : St42 t kd m k) (hQ : ∀ t', St42 t' kd m k → nth t' 96 = .b (decide (kd = 4 ∧ k = 0)) → Q .norm t' h) : WL tblA r42_20 t h (Kops Q) := by
  obtain ⟨tl, t0, t1, t2⟩ := s
  by_cases c0 : kd = 4
  · by_cases c1 : k = 0
    · simp only [go_sem, ↓reduceIte, r42_20, tl, t0, t1, t2, c0, c1]
      exact hQ _ ⟨by simp only [go_sem, ↓reduceIte, tl], by simp only [go_sem, ↓reduceIte, t0], by simp only [go_sem, ↓reduceIte, t1], by simp only [go_sem, ↓reduceIte, t2]⟩ (by simp only [go_sem, ↓reduceIte, tl]; simp [c0, c1])
    · simp only [go_sem, ↓reduceIte, r42_20, tl, t0, t1, t2, c0, c1]
      exact hQ _ ⟨by simp only [go_sem, ↓reduceIte, tl], by simp only [go_sem, ↓reduceIte, t0], by simp only [go_sem, ↓reduceIte, t1], by simp only [go_sem, ↓reduceIte, t2]⟩ (by simp only [go_sem, ↓reduceIte, tl]; simp [c1])
  · simp only [go_sem, ↓reduceIte, r42_20, tl, t0, t1, t2, c0]
    exact hQ _ ⟨by simp only [go_sem, ↓reduceIte, tl], by simp only [go_sem, ↓reduceIte, t0], by simp only [go_sem, ↓reduceIte, t1], by simp only [go_sem, ↓reduceIte, t2]⟩ (by simp only [go_sem, ↓reduceIte, tl]; simp [c0])


theorem fn_Spots {h : H} {kind n k : Int} : WC tblA (.fn 42 [] []) [.i .u8 kind, .i .i64 n, .i .i64 k] h fun u h' => SpotsRes h h' kind n k u := by
  refine (WC_in t42).2 ?_
  by_cases hn1 : n < 0
  · simp only [go_sem, ↓reduceIte, r42_0, r42_1, r42_2, hn1]
    exact res_none (.refl h) (by unfold spotsS; rw [if_pos (.inl hn1)])
  by_cases hn2 : 200 < n
  · simp only [go_sem, ↓reduceIte, r42_0, r42_1, r42_2, hn1, hn2]
    exact res_none (.refl h) (by unfold spotsS; rw [if_pos (.inr hn2)])
  obtain ⟨m, rfl⟩ := Int.eq_ofNat_of_zero_le (a := n) (by omega)
  have hm : m ≤ 200 := by omega
  have hS := spotsS_nat (kind := kind) (k := k) hm
  unfold spotsN at hS
  simp only [go_sem, ↓reduceIte, r42_0, r42_1, hn1, hn2]
  refine ops42_3 (kd := kind) (m := m) (k := k) ⟨by simp only [go_sem, ↓reduceIte], by simp only [go_sem, ↓reduceIte], by simp only [go_sem, ↓reduceIte], by simp only [go_sem, ↓reduceIte]⟩ ?_
  rintro t ⟨tl, t0, t1, t2⟩ c
  by_cases c1 : kind = 1 ∧ k = 0
  · rw [if_pos c1] at hS
    rw [decide_eq_true c1] at c
    simp only [go_sem, ↓reduceIte, r42_4, c, tl, t1]
    refine (fn_upTo (n := m) (by omega)).mono ?_
    rintro _ h1 ⟨e1, b, rfl, hb, hb2, g⟩
    have i1 : Ints h1 (.sl b 0 m m none) (upN m) := (Ints.of (n := m) (.inr ⟨b, 0, m, none, _, rfl, hb2, g, cut_eq.2 ⟨by simp [ints, upN], by rw [List.drop_zero, List.take_of_length_le (by simp [ints, upN])]⟩⟩)).1
    simp only [go_sem, ↓reduceIte, tl]
    refine (fn_row i1 (by simp [upN]; omega)).mono ?_
    rintro w h2 ⟨e2, o2⟩
    simp only [go_sem, ↓reduceIte, tl]
    exact res_own (e1.trans e2) o2 hS
  rw [if_neg c1] at hS
  rw [decide_eq_false c1] at c
  simp only [go_sem, ↓reduceIte, c]
  refine ops42_5 (kd := kind) (m := m) (k := k) ⟨tl, t0, t1, t2⟩ ?_
  clear c tl t0 t1 t2
  rintro t ⟨tl, t0, t1, t2⟩ c
  by_cases c2 : kind = 2 ∧ 1 ≤ k ∧ k ≤ 200
  · rw [if_pos c2] at hS
    rw [decide_eq_true c2] at c
    obtain ⟨q, rfl⟩ := Int.eq_ofNat_of_zero_le (a := k) (by omega)
    simp only [Int.ofNat_eq_natCast, Int.toNat_natCast] at hS
    simp only [go_sem, ↓reduceIte, r42_6, r42_7, c]
    refine prc_loop (n := m) (k := q) hm (by omega) (by omega) (by simp only [go_sem, ↓reduceIte, tl]) (by simp only [go_sem, ↓reduceIte, t1]) (by simp only [go_sem, ↓reduceIte, t2]) (by simp only [go_sem, ↓reduceIte, tl]) (by simp only [go_sem, ↓reduceIte, tl]) ?_ (fun _ _ _ => True)
    intro w h' e' o'
    exact res_own e' o' hS
  rw [if_neg c2] at hS
  rw [decide_eq_false c2] at c
  simp only [go_sem, ↓reduceIte, c]
  refine ops42_12 (kd := kind) (m := m) (k := k) ⟨tl, t0, t1, t2⟩ ?_
  clear c tl t0 t1 t2
  rintro t ⟨tl, t0, t1, t2⟩ c
  by_cases c3 : kind = 3 ∧ k = 0
  · rw [if_pos c3] at hS
    rw [decide_eq_true c3] at c
    simp only [go_sem, ↓reduceIte, r42_13, c, tl, t1]
    refine (fn_middle (m := m) (by omega)).mono ?_
    rintro u1 h1 ⟨e1, o1⟩
    simp only [go_sem, ↓reduceIte, tl]
    refine (fn_row (Ints.of o1.sl).1 (by rw [mid_len]; omega)).mono ?_
    rintro w h2 ⟨e2, o2⟩
    simp only [go_sem, ↓reduceIte, tl]
    exact res_own (e1.trans e2) o2 hS
  rw [if_neg c3] at hS
  rw [decide_eq_false c3] at c
  simp only [go_sem, ↓reduceIte, c]
  refine ops42_14 (kd := kind) (m := m) (k := k) ⟨tl, t0, t1, t2⟩ ?_
  clear c tl t0 t1 t2
  rintro t ⟨tl, t0, t1, t2⟩ c
  by_cases c4 : kind = 3 ∧ k = 1
  · rw [if_pos c4] at hS
    rw [decide_eq_true c4] at c
    simp only [go_sem, ↓reduceIte, r42_15, c, tl, t1]
    refine (fn_upTo (n := m) (by omega)).mono ?_
    rintro _ h1 ⟨e1, b, rfl, hb, hb2, g⟩
    have i1 : Ints h1 (.sl b 0 m m none) (upN m) := (Ints.of (n := m) (.inr ⟨b, 0, m, none, _, rfl, hb2, g, cut_eq.2 ⟨by simp [ints, upN], by rw [List.drop_zero, List.take_of_length_le (by simp [ints, upN])]⟩⟩)).1
    simp only [go_sem, ↓reduceIte, tl]
    refine (fn_row i1 (by simp [upN]; omega)).mono ?_
    rintro w h2 ⟨e2, o2⟩
    simp only [go_sem, ↓reduceIte, tl]
    exact res_own (e1.trans e2) o2 hS
  rw [if_neg c4] at hS
  rw [decide_eq_false c4] at c
  simp only [go_sem, ↓reduceIte, c]
  refine ops42_16 (kd := kind) (m := m) (k := k) ⟨tl, t0, t1, t2⟩ ?_
  clear c tl t0 t1 t2
  rintro t ⟨tl, t0, t1, t2⟩ c
  by_cases c5 : kind = 3 ∧ k = 2
  · rw [if_pos c5] at hS
    rw [decide_eq_true c5] at c
    simp only [go_sem, ↓reduceIte, r42_17, c, tl, t1]
    refine (fn_upTo (n := m) (by omega)).mono ?_
    rintro _ h1 ⟨e1, b, rfl, hb, hb2, g⟩
    simp only [go_sem, ↓reduceIte, r42_18, tl]
    refine (fn_Reverse e1 hb hb2 g (by simp [upN]) (by omega)).mono ?_
    rintro _ h2 ⟨e2, hb3, g2⟩
    have i1 : Ints h2 (.sl b 0 m m none) (upN m).reverse := (Ints.of (n := m) (.inr ⟨b, 0, m, none, _, rfl, hb3, g2, cut_eq.2 ⟨by simp [ints, upN], by rw [List.drop_zero, List.take_of_length_le (by simp [ints, upN])]⟩⟩)).1
    simp only [go_sem, ↓reduceIte, r42_19, tl]
    refine (fn_row i1 (by simp [upN]; omega)).mono ?_
    rintro w h3 ⟨e3, o3⟩
    simp only [go_sem, ↓reduceIte, tl]
    exact res_own (e2.trans e3) o3 hS
  rw [if_neg c5] at hS
  rw [decide_eq_false c5] at c
  simp only [go_sem, ↓reduceIte, c]
  refine ops42_20 (kd := kind) (m := m) (k := k) ⟨tl, t0, t1, t2⟩ ?_
  clear c tl t0 t1 t2
  rintro t ⟨tl, t0, t1, t2⟩ c
  by_cases c6 : kind = 4 ∧ k = 0
  · rw [if_pos c6] at hS
    rw [decide_eq_true c6] at c
    have w1 : IntKind.i64.wrap ((m : Int).tdiv 2) = ((m / 2 : Nat) : Int) := by
      rw [show (m : Int).tdiv 2 = ((m / 2 : Nat) : Int) from rfl]
      exact wrap_in (by omega) (by omega)
    have w2 : IntKind.i64.wrap ((m : Int) - ((m / 2 : Nat) : Int)) = ((m - m / 2 : Nat) : Int) := by
      rw [wrap_in (by omega) (by omega)]; omega
    simp only [go_sem, ↓reduceIte, r42_21, c, tl, t1, w1, w2]
    refine (fn_middle (m := m - m / 2) (by omega)).mono ?_
    rintro u1 h1 ⟨e1, o1⟩
    simp only [go_sem, ↓reduceIte, tl, t1, w1]
    refine (fn_middle (m := m / 2) (by omega)).mono ?_
    rintro u2 h2 ⟨e2, o2⟩
    obtain ⟨h3, q1, e3, gc, n3, ld0, ld1⟩ := st_new2 h2 .sn .sn (x := u1) (y := u2) o1.one.2 o2.one.2
    simp only [go_sem, ↓reduceIte, fill2_of o1.one.1 o2.one.1, q1, r42_22, r42_23, tl, t1]
    refine tbl_loop (n := m) (b := h2.next) (u1 := u1) (u2 := u2) hm (by omega) ld0 ld1 ((Ints.of o1.sl).1.ext (e2.trans e3)) ((Ints.of o2.sl).1.ext e3) (by simp only [go_sem, ↓reduceIte, tl]) (by simp only [go_sem, ↓reduceIte, tl]) (by simp only [go_sem, ↓reduceIte, tl]) (by simp only [go_sem, ↓reduceIte, tl]) (by simp only [go_sem, ↓reduceIte, tl]) ?_
    intro w h' e' o'
    exact res_own (e1.trans (e2.trans (e3.trans e'))) o' hS
  rw [if_neg c6] at hS
  rw [decide_eq_false c6] at c
  simp only [go_sem, ↓reduceIte, r42_29, c, tl]
  exact res_none (.refl h) hS
end Go.Air
