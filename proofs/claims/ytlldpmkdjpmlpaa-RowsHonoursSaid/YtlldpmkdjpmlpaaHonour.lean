/-
  Honour, the program's and the document's, and the law RowsSpots, in Air.
-/
import Derived.Test.YtlldpmkdjpmlpaaSpotsG
set_option linter.unusedSectionVars false
set_option linter.unusedVariables false
set_option linter.unusedSimpArgs false
set_option maxRecDepth 100000
namespace Go.Air
open Go.Air.Try

def fstI (p : Pt) : List Pt → Nat
  | [] => 0
  | q :: l => if q = p then 0 else fstI p l + 1
theorem fstI_eq {p : Pt} : ∀ {ps : List Pt} {i : Nat}, ps[i]? = some p → p ∉ ps.take i → fstI p ps = i
  | [], i, h, _ => by simp at h
  | q :: l, 0, h, _ => by simp at h; subst h; simp [fstI]
  | q :: l, i + 1, h, hn => by
    simp only [List.take_succ_cons, List.mem_cons, not_or] at hn
    simp only [fstI, if_neg (Ne.symm hn.1)]
    rw [fstI_eq (by simpa using h) hn.2]
/-- what Honour returns: the index, the error. -/
def honS (kind n k : Int) (p : Pt) : Int × Int :=
  if (spotsS kind n k).2 ≠ 0 then (0, (spotsS kind n k).2) else if p ∈ (spotsS kind n k).1 then ((fstI p (spotsS kind n k).1 : Int), 0) else (0, 5)
@[go_sem] theorem cells_agg {c : List V} : (V.agg c).cells = c := rfl
theorem new_ldn {h : H} {x y : V} {h' : H} (e : Ext (h.new (.cells [x, y])) h') : ldnV h' 2 (.p h.next 0) = some (.agg [x, y]) := by
  have : h'.get h.next = some (.cells [x, y]) := by
    rw [e.same _ (by simp), H.get_new, if_pos rfl]
  simp [ldnV, this, Blk.rd, cut]

theorem spotsS_len (kind n k : Int) : (spotsS kind n k).1.length ≤ 200 := by
  unfold spotsS
  split
  · simp
  · rename_i h
    obtain ⟨m, rfl⟩ := Int.eq_ofNat_of_zero_le (a := n) (by omega)
    simp only [Int.ofNat_eq_natCast, Int.toNat_natCast]
    unfold spotsN
    split
    · simp [inRow, upN]; omega
    · split
      · rename_i h2
        rw [flatten_len]
        obtain ⟨q, rfl⟩ := Int.eq_ofNat_of_zero_le (a := k) (by omega)
        simp only [Int.ofNat_eq_natCast, Int.toNat_natCast]
        have hq : 0 < q := by omega
        rw [prc_sum]
        · omega
        · rcases Nat.eq_zero_or_pos (rowsN m q) with h0 | h0
          · exact .inl h0
          · exact .inr ((rows_lt hq).2 (by omega))
      · split
        · simp [inRow, mid_len]; omega
        · split
          · simp [inRow, upN]; omega
          · split
            · simp [inRow, upN]; omega
            · split
              · simp [tblP]; omega
              · simp

theorem t96 : tblA 96 = some a96 := by kernel_rfl
theorem fn_96 {h : H} {q : Nat} {x y a b : Int} (hq : q < h.next) (hg : h.get q = some (.cells [.i .i64 a, .i .i64 b])) :
    WC tblA (.fn 96 [] [.p q 0]) [.agg [.i .i64 x, .i .i64 y]] h fun u h' => Ext h h' ∧ u = .b (decide (x = a ∧ y = b)) := by
  refine (WC_fn' t96).2 ?_
  have l2 : ldnV (h.new (.cells [.i .i64 x, .i .i64 y])) 2 (.p q 0) = some (.agg [.i .i64 a, .i .i64 b]) := by
    have : (h.new (.cells [.i .i64 x, .i .i64 y])).get q = some (.cells [.i .i64 a, .i .i64 b]) := by rw [H.get_new, if_neg (by omega)]; exact hg
    simp [ldnV, this, Blk.rd, cut]
  have hap : ([] : List V) ++ [.agg [.i .i64 x, .i .i64 y]] ++ [.p q 0] = [.agg [.i .i64 x, .i .i64 y], .p q 0] := rfl
  rw [hap]
  have hb : ∀ d : Bool, (if false = true then !d else d) = d := fun d => rfl
  simp only [go_sem, ↓reduceIte, a96, r96_0, r96_1, new_ldn (.refl _), l2, Bool.false_eq_true]
  exact ((Ext.refl h).new _)

def IdxP (ps : List Pt) (p : Pt) (r : Int) : Prop := (r = -1 ∧ p ∉ ps) ∨ ∃ i : Nat, r = (i : Int) ∧ ps[i]? = some p ∧ p ∉ ps.take i
theorem t95 : tblA 95 = some a95 := by kernel_rfl
theorem fn_IndexFunc {h : H} {v : V} {ps : List Pt} {q : Nat} {p : Pt} (h1 : Pts h v ps) (hn : ps.length ≤ 1000000) (hq : q < h.next) (hg : h.get q = some (.cells [.i .i64 p.1, .i .i64 p.2])) :
    WC tblA (.fn 95 [] []) [v, .fn 96 [] [.p q 0]] h fun u h' => Ext h h' ∧ ∃ r, u = .i .i64 r ∧ IdxP ps p r := by
  refine (WC_in t95).2 ?_
  simp only [go_sem, ↓reduceIte, r95_0, r95_1, Sl.len h1]
  refine W_while (fun k t h' => ∃ i, k = ps.length - i ∧ i ≤ ps.length ∧ t.length = 19 ∧ nth t 0 = v ∧ nth t 1 = .fn 96 [] [.p q 0] ∧ nth t 7 = .i .i64 (ps.length : Int) ∧ nth t 8 = .i .i64 (i : Int) ∧ p ∉ ps.take i ∧ Ext h h') ?_ ps.length ?_
  · rintro k t h' ⟨i, rfl, hi, tl, t0, t1, t7, t8, he, e2⟩
    unfold b95_0
    by_cases hlt : i < ps.length
    · have hlt' : (i : Int) < (ps.length : Int) := by omega
      obtain ⟨x, hx⟩ : ∃ x, ps[i]? = some x := ⟨_, List.getElem?_eq_getElem hlt⟩
      have s2 := h1.ext e2
      have hld := Sl.ldn s2 hlt
      rw [spots_at ps i x hx] at hld
      simp only [go_sem, ↓reduceIte, r95_2, r95_3, r95_4, tl, t0, t1, t7, t8, hlt', Sl.ix s2 hlt, hld]
      refine (fn_96 (a := p.1) (b := p.2) (Nat.lt_of_lt_of_le hq e2.nx) ((e2.same q hq).trans hg)).mono ?_
      rintro _ h3 ⟨e3, rfl⟩
      by_cases hxp : x = p
      · subst hxp
        simp only [go_sem, ↓reduceIte, r95_5, tl]
        exact ⟨e2.trans e3, _, rfl, .inr ⟨i, rfl, hx, he⟩⟩
      · have hxp' : ¬ (x.1 = p.1 ∧ x.2 = p.2) := fun hh => hxp (Prod.ext hh.1 hh.2)
        simp only [go_sem, ↓reduceIte, r95_6, tl, t0, t1, t7, t8, hxp', wrap_succ (show i < 1000000000 by omega)]
        refine ⟨ps.length - (i + 1), by omega, i + 1, rfl, hlt, rfl, ?_, e2.trans e3⟩
        rw [take_succ' hx]
        simp [he, Ne.symm hxp]
    · have hlt' : ¬ (i : Int) < (ps.length : Int) := by omega
      simp only [go_sem, ↓reduceIte, r95_2, r95_7, tl, t7, t8, hlt']
      rw [List.take_of_length_le (by omega)] at he
      exact ⟨e2, _, rfl, .inl ⟨rfl, he⟩⟩
  · refine ⟨0, by omega, by omega, ?_⟩
    simp only [go_sem, ↓reduceIte]
    exact ⟨by simp, .refl h⟩

theorem t44 : tblA 44 = some a44 := by kernel_rfl
theorem fn_Honour {h : H} {kind n k : Int} {p : Pt} : WC tblA (.fn 44 [] []) [.i .u8 kind, .i .i64 n, .i .i64 k, .agg [.i .i64 p.1, .i .i64 p.2]] h fun u h' =>
    Ext h h' ∧ u = .tup [.i .i64 (honS kind n k p).1, .i .i64 (honS kind n k p).2] := by
  refine (WC_in t44).2 ?_
  simp only [go_sem, ↓reduceIte, r44_0, r44_1]
  refine (fn_Spots (kind := kind) (n := n) (k := k)).mono ?_
  rintro _ h1 ⟨e1, w, rfl, hw⟩
  have e0 : Ext h (h.new (.cells [.i .i64 p.1, .i .i64 p.2])) := (Ext.refl h).new _
  have hgq : h1.get h.next = some (.cells [.i .i64 p.1, .i .i64 p.2]) := by rw [e1.same _ (by simp), H.get_new, if_pos rfl]
  by_cases he : (spotsS kind n k).2 = 0
  · simp only [go_sem, ↓reduceIte, r44_2, r44_4, he]
    refine (fn_IndexFunc hw (by have := spotsS_len kind n k; omega) (by have := e1.nx; simp at this; omega) hgq).mono ?_
    rintro _ h2 ⟨e2, r, rfl, hr⟩
    have ex := e0.trans (e1.trans e2)
    rcases hr with ⟨rfl, hno⟩ | ⟨i, rfl, hi, hno⟩
    · simp only [go_sem, ↓reduceIte, r44_5, r44_6]
      exact ⟨ex, by simp only [honS, he, ne_eq, not_true_eq_false, if_false, if_neg hno]⟩
    · have hneg : ¬ (i : Int) < 0 := by omega
      simp only [go_sem, ↓reduceIte, r44_5, r44_7, hneg]
      refine ⟨ex, ?_⟩
      simp only [honS, he, ne_eq, not_true_eq_false, if_false, if_pos (List.mem_of_getElem? hi), fstI_eq hi hno]
  · simp only [go_sem, ↓reduceIte, r44_2, r44_3, he]
    exact ⟨e0.trans e1, by simp only [honS, ne_eq, he, not_false_eq_true, if_true]⟩

theorem t45 : tblA 45 = some a45 := by kernel_rfl
theorem fn_refHonour {h : H} {kind n k : Int} {p : Pt} : WC tblA (.fn 45 [] []) [.i .u8 kind, .i .i64 n, .i .i64 k, .agg [.i .i64 p.1, .i .i64 p.2]] h fun u h' =>
    Ext h h' ∧ u = .tup [.i .i64 (honS kind n k p).1, .i .i64 (honS kind n k p).2] := by
  refine (WC_in t45).2 ?_
  simp only [go_sem, ↓reduceIte, r45_0, r45_1]
  refine (fn_refSpots (kind := kind) (n := n) (k := k)).mono ?_
  rintro _ h1 ⟨e1, w, rfl, hw⟩
  have e0 : Ext h (h.new (.cells [.i .i64 p.1, .i .i64 p.2])) := (Ext.refl h).new _
  have hlq := new_ldn e1
  have hlen := spotsS_len kind n k
  by_cases he : (spotsS kind n k).2 = 0
  · simp only [go_sem, ↓reduceIte, r45_2, r45_4, he]
    generalize hps : (spotsS kind n k).1 = ps at *
    refine W_while (fun kk t h' => ∃ i, kk = ps.length - i ∧ i ≤ ps.length ∧ t.length = 36 ∧ nth t 7 = .p h.next 0 ∧ nth t 10 = w ∧ nth t 12 = .i .i64 (i : Int) ∧ p ∉ ps.take i ∧ h1 = h') ?_ ps.length ?_
    · rintro kk t h' ⟨i, rfl, hi, tl, t7, t10, t12, hno, rfl⟩
      unfold b45_0
      by_cases hlt : i < ps.length
      · have hlt' : (i : Int) < (ps.length : Int) := by omega
        obtain ⟨x, hx⟩ : ∃ x, ps[i]? = some x := ⟨_, List.getElem?_eq_getElem hlt⟩
        have hld := Sl.ldn hw hlt
        rw [spots_at ps i x hx] at hld
        by_cases hxp : x = p
        · subst hxp
          simp only [go_sem, ↓reduceIte, r45_5, r45_7, r45_8, tl, t7, t10, t12, Sl.len hw, hlt', Sl.ix hw hlt, hld, hlq, Bool.false_eq_true]
          refine ⟨e0.trans e1, ?_⟩
          simp only [honS, he, hps, ne_eq, not_true_eq_false, if_false, if_pos (List.mem_of_getElem? hx), fstI_eq hx hno]
        · have hxp' : ¬ (x.1 = p.1 ∧ x.2 = p.2) := fun hh => hxp (Prod.ext hh.1 hh.2)
          simp only [go_sem, ↓reduceIte, r45_5, r45_6, r45_7, tl, t7, t10, t12, Sl.len hw, hlt', Sl.ix hw hlt, hld, hlq, hxp', Bool.false_eq_true, wrap_succ (show i < 1000000000 by omega)]
          refine ⟨ps.length - (i + 1), by omega, i + 1, rfl, hlt, rfl, ?_⟩
          rw [take_succ' hx]
          simp [hno, Ne.symm hxp]
      · have hlt' : ¬ (i : Int) < (ps.length : Int) := by omega
        simp only [go_sem, ↓reduceIte, r45_5, r45_9, tl, t10, t12, Sl.len hw, hlt']
        rw [List.take_of_length_le (by omega)] at hno
        refine ⟨e0.trans e1, ?_⟩
        simp only [honS, he, hps, ne_eq, not_true_eq_false, if_false, if_neg hno]
    · refine ⟨0, by omega, by omega, ?_⟩
      simp only [go_sem, ↓reduceIte]
      simp
  · simp only [go_sem, ↓reduceIte, r45_2, r45_3, he]
    exact ⟨e0.trans e1, by simp only [honS, ne_eq, he, not_false_eq_true, if_true]⟩

theorem t11 : tblA 11 = some a11 := by kernel_rfl
set_option maxHeartbeats 1000000 in
theorem law_spots {h : H} {kind n k : Int} {p : Pt} : WC tblA (.fn 11 [] []) [.i .u8 kind, .i .i64 n, .i .i64 k, .agg [.i .i64 p.1, .i .i64 p.2]] h fun u h' => u = .b true ∧ Ext h h' := by
  refine (WC_in t11).2 ?_
  simp only [go_sem, ↓reduceIte, r11_0, r11_1]
  have e0 : Ext h (h.new (.cells [.i .i64 p.1, .i .i64 p.2])) := (Ext.refl h).new _
  refine (fn_Spots (kind := kind) (n := n) (k := k)).mono ?_
  rintro _ h1 ⟨e1, w, rfl, hw⟩
  simp only [go_sem, ↓reduceIte, r11_2]
  refine (fn_refSpots (kind := kind) (n := n) (k := k)).mono ?_
  rintro _ h2 ⟨e2, w', rfl, hw'⟩
  simp only [go_sem, ↓reduceIte, r11_3, new_ldn (e1.trans e2)]
  refine fn_Honour.mono ?_
  rintro _ h3 ⟨e3, rfl⟩
  simp only [go_sem, ↓reduceIte, r11_4, new_ldn (e1.trans (e2.trans e3))]
  refine fn_refHonour.mono ?_
  rintro _ h4 ⟨e4, rfl⟩
  simp only [go_sem, ↓reduceIte, r11_5]
  refine (fn_SameSpots (hw.ext (e2.trans (e3.trans e4))) (hw'.ext (e3.trans e4)) (by have := spotsS_len kind n k; omega)).mono ?_
  rintro _ _ ⟨rfl, rfl⟩
  simp only [go_sem, ↓reduceIte]
  exact e0.trans (e1.trans (e2.trans (e3.trans e4)))
end Go.Air
