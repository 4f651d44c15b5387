/-
  A part of the proof of: The row of BulletinLinks and its tied card, out of the lifted form.
-/
import Derived.Test.YtanmdooeaaafkaaGreatDoorLkC
set_option linter.unusedSectionVars false
set_option linter.unusedVariables false
set_option linter.unusedSimpArgs false
set_option maxRecDepth 100000
namespace Go.Air
open Go.Air.Try
theorem t116 : tb1 34 = some a34 := by kernel_rfl
theorem fn_rlinked {h : H} (ht : Tb4 h) {v : V} {bs : List Bul} {i : Nat} {b : Bul} (q : Buls h v bs) (hb : bs[i]? = some b) (hn : bs.length ≤ 1000) (hlo : ∀ j, j < i → errAt bs j = 0) :
    WC tb1 (.fn 34 [] []) [v, .i .i64 (i : Int)] h fun u h' => u = .i .i64 (errAt bs i) ∧ Ext h h' := by
  refine (WC_in t116).2 ?_
  have hlt := Buls.lt q hb
  have ho := Buls.okAt q hb
  have h2000 : ¬ (2000 : Int) ≤ (i : Int) := by omega
  simp only [go_sem, ↓reduceIte, r34_0, r34_1, r34_3, h2000, Buls.ix q hb, Buls.ldn q hb]
  refine (fn_wellformed ht ho).mono ?_
  rintro u h1 ⟨rfl, e1⟩
  have q1 := q.ext e1
  have hE := errAt_eq hb
  cases hf : b.formed
  · simp only [go_sem, ↓reduceIte, r34_4, r34_5]
    refine ⟨by rw [hE, hf]; rfl, e1⟩
  cases hi : decide (b.n = (i : Int))
  · have hne : binV .neq (.i .i64 b.n) (.i .i64 (i : Int)) = some (.b true) := by simp [binV, binI, of_decide_eq_false hi]
    simp only [go_sem, ↓reduceIte, r34_4, r34_5, Buls.ix q1 hb, Buls.ld0 q1 hb, hne]
    refine ⟨by rw [hE, hf, hi]; rfl, e1⟩
  have hne : binV .neq (.i .i64 b.n) (.i .i64 (i : Int)) = some (.b false) := by simp [binV, binI, of_decide_eq_true hi]
  rw [hf, hi] at hE
  simp only [Bool.not_true, Bool.or_self, Bool.false_eq_true, if_false] at hE
  have hz : (zeroD.map u8 : List V) = List.replicate 32 (.i .u8 0) := by rw [zero_u8]; rfl
  have e2 : Ext h1 (h1.new (.cells (List.replicate 32 (V.i .u8 0)))) := (Ext.refl h1).new _
  have q2 := q1.ext e2
  have e12 := e1.trans e2
  have g2 : (h1.new (.cells (List.replicate 32 (V.i .u8 0)))).get h1.next = some (.cells (List.replicate 32 (V.i .u8 0))) := get_new_eq rfl
  have n2 : h1.next < (h1.new (.cells (List.replicate 32 (V.i .u8 0)))).next := by simp
  by_cases hpos : (0 : Int) < (i : Int)
  · obtain ⟨j, hij⟩ : ∃ j, i = j + 1 := ⟨i - 1, by omega⟩
    have hjl : j < bs.length := by omega
    have hp : bs[j]? = some bs[j] := List.getElem?_eq_getElem hjl
    generalize bs[j] = pr at hp
    have hpo := q.ok pr (List.mem_of_getElem? hp)
    have hsub : IntKind.i64.wrap ((i : Int) - 1) = (j : Int) := by rw [wrap_in (by omega) (by omega)]; omega
    have hr : restAt bs b i = if b.at' < pr.at' then 7 else if b.prev = digV pr then 0 else 90 := by rw [hij]; simp only [restAt, hp]
    rw [hr] at hE
    simp only [go_sem, ↓reduceIte, r34_4, r34_6, r34_7, r34_8, Buls.ix q1 hb, Buls.ld0 q1 hb, hne, hpos, hsub, Buls.ix q2 hp, Buls.ldn q2 hp]
    generalize h1.new (.cells (List.replicate 32 (V.i .u8 0))) = hh at e2 q2 e12 g2 n2
    refine (fn_rDigest (ht.ext e12) hpo).mono ?_
    rintro u h3 ⟨rfl, e3⟩
    have e13 := e12.trans e3
    have g3 : h3.get h1.next = some (.cells (List.replicate 32 (V.i .u8 0))) := e3.get n2 g2
    have hst := blk_stn (k := 32) (d := (digV pr).map u8) g3 rfl (by simpa using digV_len pr) (u8s_one _)
    have e4 : Ext h1 (h3.put h1.next (.cells ((digV pr).map u8))) := (e2.trans e3).put (Nat.le_refl _) _
    have q4 := q1.ext e4
    have hz4 : ldnV (h3.put h1.next (.cells ((digV pr).map u8))) 32 (.p h1.next 0) = some (.agg ((digV pr).map u8)) := blk_ldn get_put_eq (by simpa using digV_len pr)
    have e14 := e1.trans e4
    simp only [go_sem, ↓reduceIte, hst]
    generalize h3.put h1.next (.cells ((digV pr).map u8)) = h4 at e4 q4 hz4 e14
    refine WE_gen (fun t => t.length = 52 ∧ nth t 0 = v ∧ nth t 1 = .i .i64 (i : Int) ∧ nth t 6 = .p h1.next 0) (by simp only [go_sem, ↓reduceIte]) ?_
    rintro t ⟨tl, t0, t1, t6⟩
    have hq : eqV (.agg (List.replicate 32 (.i .u8))) (.agg (b.prev.map u8)) (.agg ((digV pr).map u8)) = some (decide (b.prev = digV pr)) := eq_u8s ho.prev (digV_len pr)
    by_cases hday : b.at' < pr.at'
    · simp only [go_sem, ↓reduceIte, r34_9, r34_10, tl, t0, t1, hsub, Buls.ix q4 hb, Buls.ld1 q4 hb, Buls.ix q4 hp, Buls.ld1 q4 hp, hday]
      exact ⟨by rw [hE, if_pos hday], e14⟩
    · cases hpd : decide (b.prev = digV pr)
      · rw [hpd] at hq
        simp only [go_sem, ↓reduceIte, r34_9, r34_11, r34_12, tl, t0, t1, t6, hsub, Buls.ix q4 hb, Buls.ld1 q4 hb, Buls.ix q4 hp, Buls.ld1 q4 hp, hday, Buls.ld39 q4 hb, hz4, hq]
        exact ⟨by rw [hE, if_neg hday, if_neg (of_decide_eq_false hpd)], e14⟩
      · rw [hpd] at hq
        simp only [go_sem, ↓reduceIte, r34_9, r34_11, r34_13, tl, t0, t1, t6, hsub, Buls.ix q4 hb, Buls.ld1 q4 hb, Buls.ix q4 hp, Buls.ld1 q4 hp, hday, Buls.ld39 q4 hb, hz4, hq]
        exact ⟨by rw [hE, if_neg hday, if_pos (of_decide_eq_true hpd)], e14⟩
  · have hi0 : i = 0 := by omega
    have hr : restAt bs b i = if b.prev = zeroD then 0 else 90 := by rw [hi0]; rfl
    rw [hr] at hE
    have hz2 : ldnV (h1.new (.cells (List.replicate 32 (V.i .u8 0)))) 32 (.p h1.next 0) = some (.agg (zeroD.map u8)) := by rw [hz]; exact blk_ldn g2 rfl
    have hq : eqV (.agg (List.replicate 32 (.i .u8))) (.agg (b.prev.map u8)) (.agg (zeroD.map u8)) = some (decide (b.prev = zeroD)) := eq_u8s ho.prev rfl
    cases hp : decide (b.prev = zeroD)
    · rw [hp] at hq
      simp only [go_sem, ↓reduceIte, r34_4, r34_6, r34_7, r34_11, r34_12, Buls.ix q1 hb, Buls.ld0 q1 hb, hne, hpos, Buls.ix q2 hb, Buls.ld39 q2 hb, hz2, hq, H.back_bare]
      exact ⟨by rw [hE, if_neg (of_decide_eq_false hp)], e12⟩
    · rw [hp] at hq
      simp only [go_sem, ↓reduceIte, r34_4, r34_6, r34_7, r34_11, r34_13, Buls.ix q1 hb, Buls.ld0 q1 hb, hne, hpos, Buls.ix q2 hb, Buls.ld39 q2 hb, hz2, hq, H.back_bare]
      exact ⟨by rw [hE, if_pos (of_decide_eq_true hp)], e12⟩
end Go.Air
set_option maxRecDepth 100000
namespace Go.Air
open Go.Air.Try
def linkV (bs : List Bul) : V := .tup [.i .i64 (linked bs).1, .i .i64 (linked bs).2]
theorem t58 : tb1 18 = some a18 := by kernel_rfl
theorem fn_rLinked {h : H} (ht : Tb4 h) {v : V} {bs : List Bul} (q : Buls h v bs) (hn : bs.length ≤ 1000) : WC tb1 (.fn 18 [] []) [v] h fun u h' => u = linkV bs ∧ Ext h h' := by
  refine (WC_in t58).2 ?_
  have hlv := q.sl.len
  simp only [go_sem, ↓reduceIte, r18_0, r18_1]
  refine W_while (fun k t h' => ∃ i, k = bs.length - i ∧ i ≤ bs.length ∧ t.length = 19 ∧ nth t 0 = v ∧ nth t 4 = .i .i64 (i : Int) ∧ Ext h h' ∧ ∀ j, j < i → errAt bs j = 0) ?_ bs.length ?_
  · rintro k t h' ⟨i, rfl, hi, tl, t0, t4, e, hlo⟩
    unfold b18_0
    have hl' := (q.ext e).sl.len
    by_cases hin : i < bs.length
    · have hI : (i : Int) < (bs.length : Int) := by omega
      have hb : bs[i]? = some bs[i] := List.getElem?_eq_getElem hin
      simp only [go_sem, ↓reduceIte, r18_2, r18_4, tl, t0, t4, hl', hI]
      refine (fn_rlinked (ht.ext e) (q.ext e) hb hn hlo).mono ?_
      rintro u h2 ⟨rfl, e2⟩
      by_cases hz : errAt bs i = 0
      · rw [hz]
        simp only [go_sem, ↓reduceIte, r18_3, r18_5, tl, t0, t4, wrap_succ (show i < 1000000000 by omega)]
        refine ⟨bs.length - (i + 1), by omega, i + 1, rfl, by omega, rfl, e.trans e2, fun j hj => ?_⟩
        by_cases hji : j < i
        · exact hlo j hji
        · rw [show j = i by omega]; exact hz
      · have hne : binV .neq (.i .i64 (errAt bs i)) (.i .i64 0) = some (.b true) := by simp [binV, binI, hz]
        simp only [go_sem, ↓reduceIte, r18_5, r18_6, tl, t4, hne]
        refine ⟨?_, e.trans e2⟩
        unfold linkV
        rw [linked_at hin hlo hz]
    · have hI : ¬ (i : Int) < (bs.length : Int) := by omega
      obtain rfl : i = bs.length := by omega
      simp only [go_sem, ↓reduceIte, r18_2, r18_7, tl, t0, t4, hl', hI]
      refine ⟨?_, e⟩
      unfold linkV
      rw [linked_none hlo]
  · exact ⟨0, by omega, by omega, by simp only [go_sem, ↓reduceIte], by simp only [go_sem, ↓reduceIte], by simp only [go_sem, ↓reduceIte], .refl h, fun j hj => by omega⟩
theorem bl39 {h : H} {k : Nat} {b : Bul} (q : h.get k = some (.cells b.cells)) (hb : b.Ok) : ldnV h 32 (.p k 39) = some (.agg (b.prev.map u8)) := by
  have : cut b.cells 39 32 = some (b.prev.map u8) := by
    refine cut_eq.2 ⟨by rw [cells_len hb]; omega, ?_⟩
    have e : b.cells.drop 39 = b.prev.map u8 := by
      unfold Bul.cells
      rw [← List.append_assoc, List.drop_left' (by simp [Bul.head, hb.dig])]
    rw [e, List.take_of_length_le (by simp [hb.prev])]
  simp [ldnV, q, Blk.rd, this]
def c27 : C := .seq (.ops r13_7) (.cond (.t 22) (.seq (.ops r13_8) (.ret)) (.seq (.ops r13_9) (.cond (.t 26) (.seq (.ops r13_10) (.ret)) (.seq (.draw r13_11 []) (.cond (.t 37) (.seq (.ops r13_12) (.ret)) (.seq (.ops r13_13) (.cond (.t 52) (.seq (.ops r13_14) (.ret)) (.skip))))))))
def Bef (bs : List Bul) (i : Nat) (bef : List Nat) : Prop := bef.length = 32 ∧ match i with
  | 0 => bef = zeroD
  | j + 1 => ∃ p, bs[j]? = some p ∧ bef = digV p
theorem restAt_bef {bs : List Bul} {b : Bul} {bef : List Nat} {i : Nat} (hB : Bef bs i bef) (hday : i = 0 ∨ ∃ p, bs[i - 1]? = some p ∧ ¬ b.at' < p.at') : restAt bs b i = if b.prev = bef then 0 else 90 := by
  cases i with
  | zero => obtain ⟨_, rfl⟩ := hB; rfl
  | succ j =>
    obtain ⟨_, p, hp, rfl⟩ := hB
    rcases hday with h | ⟨p', hp', h⟩
    · omega
    · rw [Nat.add_sub_cancel, hp] at hp'
      cases hp'
      simp only [restAt, hp, if_neg h]
theorem W27 {h hh : H} (ht : Tb4 h) {v : V} {bs : List Bul} {t : List V} {i k5 k6 : Nat} {b : Bul} {bef : List Nat} {Q : Out → List V → H → Prop} (q : Buls h v bs) (hn : bs.length ≤ 1000) (hb : bs[i]? = some b) (hB : Bef bs i bef)
    (tl : t.length = 59) (t0 : nth t 0 = v) (t4 : nth t 4 = .i .i64 (i : Int)) (t5 : nth t 5 = .p k5 0) (t6 : nth t 6 = .p k6 0) (t7 : nth t 7 = v) (t8 : nth t 8 = .i .i64 (bs.length : Int)) (t9 : nth t 9 = .i .i64 (i : Int))
    (e : Ext h hh) (g5 : hh.get k5 = some (.cells b.cells)) (g6 : hh.get k6 = some (.cells (bef.map u8))) (n5 : k5 < hh.next) (n6 : k6 < hh.next)
    (hret : ∀ t' h', nth t' 2 = .i .i64 (i : Int) → nth t' 3 = .i .i64 (errAt bs i) → errAt bs i ≠ 0 → Ext h h' → Q .ret t' h')
    (hnorm : ∀ t' h', t'.length = 59 → nth t' 0 = v → nth t' 7 = v → nth t' 8 = .i .i64 (bs.length : Int) → nth t' 9 = .i .i64 (i : Int) → errAt bs i = 0 → Ext h h' → Q .norm t' h') : W tb1 c27 t hh Q := by
  have hlt := Buls.lt q hb
  have ho := Buls.okAt q hb
  have h2000 : ¬ (2000 : Int) ≤ (i : Int) := by omega
  have hE := errAt_eq hb
  unfold c27
  simp only [go_sem, ↓reduceIte, r13_7, tl, t4, h2000]
  refine WL_gen (fun t => t.length = 59 ∧ nth t 0 = v ∧ nth t 4 = .i .i64 (i : Int) ∧ nth t 5 = .p k5 0 ∧ nth t 6 = .p k6 0 ∧ nth t 7 = v ∧ nth t 8 = .i .i64 (bs.length : Int) ∧ nth t 9 = .i .i64 (i : Int)) (by simp only [go_sem, ↓reduceIte, tl, t0, t4, t5, t6, t7, t8, t9]) ?_
  clear tl t0 t4 t5 t6 t7 t8 t9
  rintro t ⟨tl, t0, t4, t5, t6, t7, t8, t9⟩
  simp only [go_sem, ↓reduceIte, r13_9, tl, t5, bl71 g5 ho]
  refine (fn_formed (ht.ext e) ho).mono ?_
  rintro u h1 ⟨rfl, e1⟩
  have e01 := e.trans e1
  have g5 := e1.get n5 g5
  have g6 := e1.get n6 g6
  have q1 := q.ext e01
  cases hf : b.formed
  · have hx : errAt bs i = 1 := by rw [hE, hf]; rfl
    simp only [go_sem, ↓reduceIte, r13_10, tl, t4]
    exact hret _ _ (by simp only [go_sem, ↓reduceIte, tl]) (by simp only [go_sem, ↓reduceIte, tl, hx]) (by rw [hx]; decide) e01
  cases hi : decide (b.n = (i : Int))
  · have hx : errAt bs i = 1 := by rw [hE, hf, hi]; rfl
    have hne : binV .neq (.i .i64 b.n) (.i .i64 (i : Int)) = some (.b true) := by simp [binV, binI, of_decide_eq_false hi]
    simp only [go_sem, ↓reduceIte, r13_10, tl, t4, t5, bl0 g5, hne]
    exact hret _ _ (by simp only [go_sem, ↓reduceIte, tl]) (by simp only [go_sem, ↓reduceIte, tl, hx]) (by rw [hx]; decide) e01
  have hne : binV .neq (.i .i64 b.n) (.i .i64 (i : Int)) = some (.b false) := by simp [binV, binI, of_decide_eq_true hi]
  rw [hf, hi] at hE
  simp only [Bool.not_true, Bool.or_self, Bool.false_eq_true, if_false] at hE
  simp only [go_sem, ↓reduceIte, tl, t4, t5, bl0 g5, hne]
  refine WE_gen (fun t => t.length = 59 ∧ nth t 0 = v ∧ nth t 4 = .i .i64 (i : Int) ∧ nth t 5 = .p k5 0 ∧ nth t 6 = .p k6 0 ∧ nth t 7 = v ∧ nth t 8 = .i .i64 (bs.length : Int) ∧ nth t 9 = .i .i64 (i : Int)) (by simp only [go_sem, ↓reduceIte, tl, t0, t4, t5, t6, t7, t8, t9]) ?_
  clear tl t0 t4 t5 t6 t7 t8 t9
  rintro t ⟨tl, t0, t4, t5, t6, t7, t8, t9⟩
  have hq : eqV (.agg (List.replicate 32 (.i .u8))) (.agg (b.prev.map u8)) (.agg (bef.map u8)) = some (decide (b.prev = bef)) := eq_u8s ho.prev hB.1
  have l39 : ldnV h1 32 (.p k5 39) = some (.agg (b.prev.map u8)) := bl39 g5 ho
  have l6 : ldnV h1 32 (.p k6 0) = some (.agg (bef.map u8)) := blk_ldn g6 (by simpa using hB.1)
  have fin : ∀ t' : List V, t'.length = 59 ∧ nth t' 0 = v ∧ nth t' 4 = .i .i64 (i : Int) ∧ nth t' 5 = .p k5 0 ∧ nth t' 6 = .p k6 0 ∧ nth t' 7 = v ∧ nth t' 8 = .i .i64 (bs.length : Int) ∧ nth t' 9 = .i .i64 (i : Int) →
      restAt bs b i = (if b.prev = bef then 0 else 90) → WL tb1 r13_13 t' h1 (Kseq tb1 (.cond (.t 52) (.seq (.ops r13_14) (.ret)) (.skip)) Q) := by
    rintro t' ⟨tl, t0, t4, t5, t6, t7, t8, t9⟩ hr
    rw [hr] at hE
    cases hp : decide (b.prev = bef)
    · rw [hp] at hq
      have hx : errAt bs i = 90 := by rw [hE, if_neg (of_decide_eq_false hp)]
      simp only [go_sem, ↓reduceIte, r13_13, r13_14, tl, t4, t5, t6, l39, l6, hq]
      exact hret _ _ (by simp only [go_sem, ↓reduceIte, tl]) (by simp only [go_sem, ↓reduceIte, tl, hx]) (by rw [hx]; decide) e01
    · rw [hp] at hq
      have hx : errAt bs i = 0 := by rw [hE, if_pos (of_decide_eq_true hp)]
      simp only [go_sem, ↓reduceIte, r13_13, tl, t4, t5, t6, l39, l6, hq]
      exact hnorm _ _ (by simp only [go_sem, ↓reduceIte, tl]) (by simp only [go_sem, ↓reduceIte, t0]) (by simp only [go_sem, ↓reduceIte, t7]) (by simp only [go_sem, ↓reduceIte, t8]) (by simp only [go_sem, ↓reduceIte, t9]) hx e01
  by_cases hpos : (0 : Int) < (i : Int)
  · obtain ⟨j, hij⟩ : ∃ j, i = j + 1 := ⟨i - 1, by omega⟩
    have hjl : j < bs.length := by omega
    have hp : bs[j]? = some bs[j] := List.getElem?_eq_getElem hjl
    generalize bs[j] = pr at hp
    have hsub : IntKind.i64.wrap ((i : Int) - 1) = (j : Int) := by rw [wrap_in (by omega) (by omega)]; omega
    by_cases hday : b.at' < pr.at'
    · have hx : errAt bs i = 7 := by rw [hE, hij]; simp only [restAt, hp, if_pos hday]
      simp only [go_sem, ↓reduceIte, r13_11, r13_12, tl, t0, t4, t5, hpos, hsub, bl1 g5, Buls.ix q1 hp, Buls.ld1 q1 hp, hday]
      exact hret _ _ (by simp only [go_sem, ↓reduceIte, tl]) (by simp only [go_sem, ↓reduceIte, tl, hx]) (by rw [hx]; decide) e01
    · simp only [go_sem, ↓reduceIte, r13_11, tl, t0, t4, t5, hpos, hsub, bl1 g5, Buls.ix q1 hp, Buls.ld1 q1 hp, hday]
      exact fin _ (by simp only [go_sem, ↓reduceIte, tl, t0, t4, t5, t6, t7, t8, t9]) (restAt_bef hB (.inr ⟨pr, by rw [hij, Nat.add_sub_cancel]; exact hp, hday⟩))
  · simp only [go_sem, ↓reduceIte, r13_11, tl, t0, t4, t5, hpos]
    exact fin _ (by simp only [go_sem, ↓reduceIte, tl, t0, t4, t5, t6, t7, t8, t9]) (restAt_bef hB (.inl (by omega)))
theorem t27 : tb1 13 = some a13 := by kernel_rfl
theorem fn_Linked {h : H} (ht : Tb4 h) {v : V} {bs : List Bul} (q : Buls h v bs) (hn : bs.length ≤ 1000) : WC tb1 (.fn 13 [] []) [v] h fun u h' => u = linkV bs ∧ Ext h h' := by
  refine (WC_in t27).2 ?_
  have hlv := q.sl.len
  have hzc : [V.i .i64 0, .i .i64 0, .i .i64 0] ++ [.i .u8 0] ++ [.b false] ++ [.s []] ++ [.i .i64 0] ++ List.replicate 64 (.i .u8 0) = zc := rfl
  have hz : (zeroD.map u8 : List V) = List.replicate 32 (.i .u8 0) := by rw [zero_u8]; rfl
  simp only [go_sem, ↓reduceIte, r13_0, r13_1, hlv]
  refine W_while (fun k t h' => ∃ i, k = bs.length - i ∧ i ≤ bs.length ∧ t.length = 59 ∧ nth t 0 = v ∧ nth t 7 = v ∧ nth t 8 = .i .i64 (bs.length : Int) ∧ nth t 9 = .i .i64 (i : Int) ∧ Ext h h' ∧ ∀ j, j < i → errAt bs j = 0) ?_ bs.length ?_
  · rintro k t h' ⟨i, rfl, hi, tl, t0, t7, t8, t9, e, hlo⟩
    unfold b13_0
    by_cases hin : i < bs.length
    · have hI : (i : Int) < (bs.length : Int) := by omega
      have hb : bs[i]? = some bs[i] := List.getElem?_eq_getElem hin
      generalize bs[i] = b at hb
      have ho := q.ok b (List.mem_of_getElem? hb)
      have hE := errAt_eq hb
      have h2000 : ¬ (2000 : Int) ≤ (i : Int) := by omega
      have q' := q.ext e
      have x2 : (h'.new (.cells zc)).get h'.next = some (.cells zeroB.cells) := get_new_eq rfl
      have s2 := blk_stn (k := 71) (d := b.cells) x2 (cells_len zero_ok) (cells_len ho) (cells_one _)
      have e2 : Ext h' (((h'.new (.cells zc)).put h'.next (.cells b.cells)).new (.cells (List.replicate 32 (V.i .u8 0)))) := ((((Ext.refl h').new _).put (Nat.le_refl _) _).new _)
      have n2 : (((h'.new (.cells zc)).put h'.next (.cells b.cells)).new (.cells (List.replicate 32 (V.i .u8 0)))).next = h'.next + 2 := by simp
      have g5 : (((h'.new (.cells zc)).put h'.next (.cells b.cells)).new (.cells (List.replicate 32 (V.i .u8 0)))).get h'.next = some (.cells b.cells) := by rw [get_new_lt (by simp), get_put_eq]
      have g6 : (((h'.new (.cells zc)).put h'.next (.cells b.cells)).new (.cells (List.replicate 32 (V.i .u8 0)))).get (h'.next + 1) = some (.cells (List.replicate 32 (V.i .u8 0))) := get_new_eq (by simp)
      simp only [hzc, go_sem, ↓reduceIte, r13_2, r13_3, r13_4, tl, t0, t7, t8, t9, hI, Buls.ix q' hb, Buls.ldn q' hb, s2]
      rw [show ((h'.new (.cells zc)).put h'.next (.cells b.cells)).next = h'.next + 1 from rfl]
      generalize ((h'.new (.cells zc)).put h'.next (.cells b.cells)).new (.cells (List.replicate 32 (V.i .u8 0))) = h1 at e2 n2 g5 g6
      have e12 := e.trans e2
      have step : ∀ (t : List V) (hh : H) (bef : List Nat) (Q : Out → List V → H → Prop), Bef bs i bef → Ext h' hh → hh.get h'.next = some (.cells b.cells) → hh.get (h'.next + 1) = some (.cells (bef.map u8)) → h'.next + 1 < hh.next →
          (t.length = 59 ∧ nth t 0 = v ∧ nth t 4 = .i .i64 (i : Int) ∧ nth t 5 = .p h'.next 0 ∧ nth t 6 = .p (h'.next + 1) 0 ∧ nth t 7 = v ∧ nth t 8 = .i .i64 (bs.length : Int) ∧ nth t 9 = .i .i64 (i : Int)) →
          (∀ t' h', nth t' 2 = .i .i64 (i : Int) → nth t' 3 = .i .i64 (errAt bs i) → errAt bs i ≠ 0 → Ext h h' → Q .ret t' h') →
          (∀ t' h', t'.length = 59 → nth t' 0 = v → nth t' 7 = v → nth t' 8 = .i .i64 (bs.length : Int) → nth t' 9 = .i .i64 (i : Int) → errAt bs i = 0 → Ext h h' → Q .norm t' h') → W tb1 c27 t hh Q := by
        rintro t hh bef Q hB eh x5 x6 nn ⟨y1, y2, y3, y4, y5, y6, y7, y8⟩ hr hn'
        exact W27 ht q hn hb hB y1 y2 y3 y4 y5 y6 y7 y8 (e.trans eh) x5 x6 (by omega) nn hr hn'
      have hret : ∀ t' h', nth t' 2 = .i .i64 (i : Int) → nth t' 3 = .i .i64 (errAt bs i) → errAt bs i ≠ 0 → Ext h h' → resOk (resultsOf t' h' [.tmp 2, .tmp 3]) h' (fun u h' => u = linkV bs ∧ Ext h h') := by
        intro t' h' z2 z3 hz ex
        refine ⟨?_, ex⟩
        unfold linkV
        rw [linked_at hin hlo hz]
        simp only [z2, z3, resultOf, packR]
      by_cases hpos : (0 : Int) < (i : Int)
      · obtain ⟨j, hij⟩ : ∃ j, i = j + 1 := ⟨i - 1, by omega⟩
        have hjl : j < bs.length := by omega
        have hp : bs[j]? = some bs[j] := List.getElem?_eq_getElem hjl
        generalize bs[j] = pr at hp
        have hpo := q.ok pr (List.mem_of_getElem? hp)
        have hsub : IntKind.i64.wrap ((i : Int) - 1) = (j : Int) := by rw [wrap_in (by omega) (by omega)]; omega
        have hpf := formed_of hp (hlo j (by omega))
        have q1 := q.ext e12
        simp only [go_sem, ↓reduceIte, r13_5, r13_6, tl, t0, hpos, hsub, Buls.ix q1 hp, Buls.ldn q1 hp]
        refine (fn_digest (ht.ext e12) hpo).mono ?_
        rintro u h3 ⟨rfl, e3⟩
        have hdv : digV pr = Sha.sum (digT pr) := by unfold digV; rw [hpf]; rfl
        rw [← hdv]
        have x5 := e3.get (by omega) g5
        have x6 := e3.get (by omega) g6
        have hst := blk_stn (k := 32) (d := (digV pr).map u8) x6 rfl (by simpa using digV_len pr) (u8s_one _)
        simp only [go_sem, ↓reduceIte, tl, hst]
        refine W_ops'.1 (W_seq'.1 (step _ _ (digV pr) _ ⟨digV_len pr, by rw [hij]; exact ⟨pr, hp, rfl⟩⟩ ((e2.trans e3).put (by omega) _) ((get_put_ne (by omega)).trans x5) get_put_eq (by have := e3.nx; show h'.next + 1 < h3.next; omega) ?_ ?_ ?_))
        · simp only [go_sem, ↓reduceIte, tl, t0, t7, t8, t9]
        · intro t' h' z2 z3 hz ex
          simp only [go_sem]
          exact hret t' h' z2 z3 hz ex
        · intro t' h' y1 y2 y3 y4 y5 hz ex
          simp only [go_sem, ↓reduceIte, r13_15, y1, y2, y3, y4, y5, wrap_succ (show i < 1000000000 by omega)]
          refine ⟨bs.length - (i + 1), by omega, i + 1, rfl, by omega, rfl, ex, fun j hj => ?_⟩
          by_cases hji : j < i
          · exact hlo j hji
          · rw [show j = i by omega]; exact hz
      · simp only [go_sem, ↓reduceIte, r13_5, tl, hpos]
        refine W_ops'.1 (W_seq'.1 (step _ _ zeroD _ ⟨rfl, by rw [show i = 0 by omega]⟩ e2 g5 (by rw [hz]; exact g6) (by omega) ?_ ?_ ?_))
        · simp only [go_sem, ↓reduceIte, tl, t0, t7, t8, t9]
        · intro t' h' z2 z3 hz ex
          simp only [go_sem]
          exact hret t' h' z2 z3 hz ex
        · intro t' h' y1 y2 y3 y4 y5 hz ex
          simp only [go_sem, ↓reduceIte, r13_15, y1, y2, y3, y4, y5, wrap_succ (show i < 1000000000 by omega)]
          refine ⟨bs.length - (i + 1), by omega, i + 1, rfl, by omega, rfl, ex, fun j hj => ?_⟩
          by_cases hji : j < i
          · exact hlo j hji
          · rw [show j = i by omega]; exact hz
    · have hI : ¬ (i : Int) < (bs.length : Int) := by omega
      obtain rfl : i = bs.length := by omega
      simp only [go_sem, ↓reduceIte, r13_2, r13_16, tl, t8, t9, hI]
      refine ⟨?_, e⟩
      unfold linkV
      rw [linked_none hlo]
  · exact ⟨0, by omega, by omega, by simp only [go_sem, ↓reduceIte], by simp only [go_sem, ↓reduceIte], by simp only [go_sem, ↓reduceIte], by simp only [go_sem, ↓reduceIte], by simp only [go_sem, ↓reduceIte], .refl h, fun j hj => by omega⟩
end Go.Air
set_option maxRecDepth 100000
namespace Go.Air
open Go.Air.Try
def few (bs : List Bul) (m : Nat) : Bool := decide (bs.length ≤ m) && bs.all fun b => decide (b.body.length ≤ 1200)
theorem t24 : tb1 10 = some a10 := by kernel_rfl
theorem fn_few {h : H} {v : V} {bs : List Bul} (q : Buls h v bs) {m : Nat} (hm : m ≤ 1000) : WC tb1 (.fn 10 [] []) [v, .i .i64 (m : Int)] h fun u h' => u = .b (few bs m) ∧ Ext h h' := by
  refine (WC_in t24).2 ?_
  have hlv := q.sl.len
  by_cases hl : (m : Int) < (bs.length : Int)
  · simp only [go_sem, ↓reduceIte, r10_0, r10_1, r10_2, hlv, hl]
    refine ⟨?_, .refl h⟩
    unfold few
    rw [decide_eq_false (by omega)]
    rfl
  simp only [go_sem, ↓reduceIte, r10_0, r10_1, r10_3, hlv, hl]
  refine W_while (fun k t h' => ∃ i, k = bs.length - i ∧ i ≤ bs.length ∧ t.length = 23 ∧ nth t 0 = v ∧ nth t 5 = .i .i64 (i : Int) ∧ h' = h ∧ ∀ j b, j < i → bs[j]? = some b → b.body.length ≤ 1200) ?_ bs.length ?_
  · rintro k t h' ⟨i, rfl, hi, tl, t0, t5, rfl, hlo⟩
    unfold b10_0
    by_cases hin : i < bs.length
    · have hI : (i : Int) < (bs.length : Int) := by omega
      have hb : bs[i]? = some bs[i] := List.getElem?_eq_getElem hin
      generalize bs[i] = b at hb
      by_cases hx : (1200 : Int) < (b.body.length : Int)
      · simp only [go_sem, ↓reduceIte, r10_4, r10_6, r10_7, tl, t0, t5, hlv, hI, Buls.ix q hb, Buls.ld5 q hb, hx]
        refine ⟨?_, .refl _⟩
        unfold few
        have : (bs.all fun b => decide (b.body.length ≤ 1200)) = false := by
          rw [Bool.eq_false_iff]
          intro hall
          have := List.all_eq_true.1 hall b (List.mem_of_getElem? hb)
          simp at this
          omega
        rw [this, Bool.and_false]
      · simp only [go_sem, ↓reduceIte, r10_4, r10_5, r10_6, tl, t0, t5, hlv, hI, Buls.ix q hb, Buls.ld5 q hb, hx, wrap_succ (show i < 1000000000 by omega)]
        refine ⟨bs.length - (i + 1), by omega, i + 1, rfl, by omega, rfl, fun j b' hj hb' => ?_⟩
        by_cases hji : j < i
        · exact hlo j b' hji hb'
        · obtain rfl : j = i := by omega
          rw [hb] at hb'
          cases hb'
          omega
    · have hI : ¬ (i : Int) < (bs.length : Int) := by omega
      obtain rfl : i = bs.length := by omega
      simp only [go_sem, ↓reduceIte, r10_4, r10_8, tl, t0, t5, hlv, hI]
      refine ⟨?_, .refl _⟩
      unfold few
      rw [decide_eq_true (by omega)]
      have : (bs.all fun b => decide (b.body.length ≤ 1200)) = true := by
        rw [List.all_eq_true]
        intro b hb
        obtain ⟨j, hj⟩ := List.getElem?_of_mem hb
        simpa using hlo j b (List.getElem?_eq_some_iff.1 hj).1 hj
      rw [this]; rfl
  · exact ⟨0, by omega, by omega, by simp only [go_sem, ↓reduceIte], by simp only [go_sem, ↓reduceIte], by simp only [go_sem, ↓reduceIte], rfl, fun j b hj => by omega⟩
def differ (bs cs : List Bul) (i : Nat) : Bool := match bs[i]?, cs[i]? with
  | some b, some c => !decide (digV b = digV c)
  | _, _ => false
def fork (bs cs : List Bul) : Int × Bool := match (List.range (min bs.length cs.length)).find? (differ bs cs) with
  | some i => ((i : Int), true)
  | none => (0, false)
def forkV (bs cs : List Bul) : V := .tup [.i .i64 (fork bs cs).1, .b (fork bs cs).2]
theorem fork_at {bs cs : List Bul} {i : Nat} (hi : i < min bs.length cs.length) (hlo : ∀ j, j < i → differ bs cs j = false) (he : differ bs cs i = true) : fork bs cs = ((i : Int), true) := by
  unfold fork
  have : (List.range (min bs.length cs.length)).find? (differ bs cs) = some i := by
    rw [List.find?_range_eq_some]
    exact ⟨he, by simpa using hi, fun j hj => by simpa using hlo j hj⟩
  rw [this]
theorem fork_none {bs cs : List Bul} (hlo : ∀ j, j < min bs.length cs.length → differ bs cs j = false) : fork bs cs = (0, false) := by
  unfold fork
  have : (List.range (min bs.length cs.length)).find? (differ bs cs) = none := by
    rw [List.find?_eq_none]
    intro j hj
    simpa using hlo j (List.mem_range.1 hj)
  rw [this]
theorem t59 : tb1 19 = some a19 := by kernel_rfl
theorem fn_Fork {h : H} (ht : Tb4 h) {v w : V} {bs cs : List Bul} (q : Buls h v bs) (p : Buls h w cs) (hn : bs.length ≤ 1000) (hm : cs.length ≤ 1000) : WC tb1 (.fn 19 [] []) [v, w] h fun u h' => u = forkV bs cs ∧ Ext h h' := by
  refine (WC_in t59).2 ?_
  have hlv := q.sl.len
  have hlw := p.sl.len
  have hmin : minL false [V.i .i64 (bs.length : Int), .i .i64 (cs.length : Int)] = some (.i .i64 ((min bs.length cs.length : Nat) : Int)) := by
    simp only [minL, minI, mmI]
    by_cases hbc : bs.length ≤ cs.length
    · have h1 : (bs.length : Int) ≤ (cs.length : Int) := by omega
      rw [Nat.min_eq_left hbc]
      simp [h1]
      try omega
    · have h1 : ¬ (bs.length : Int) ≤ (cs.length : Int) := by omega
      rw [Nat.min_eq_right (by omega)]
      simp [h1]
      try omega
  simp only [go_sem, ↓reduceIte, r19_0, r19_1, hlv, hlw, hmin]
  generalize hN : min bs.length cs.length = N at *
  refine W_while (fun k t h' => ∃ i, k = N - i ∧ i ≤ N ∧ t.length = 28 ∧ nth t 0 = v ∧ nth t 1 = w ∧ nth t 11 = .i .i64 (N : Int) ∧ nth t 12 = .i .i64 (i : Int) ∧ Ext h h' ∧ ∀ j, j < i → differ bs cs j = false) ?_ N ?_
  · rintro k t h' ⟨i, rfl, hi, tl, t0, t1, t11, t12, e, hlo⟩
    unfold b19_0
    by_cases hin : i < N
    · have hI : (i : Int) < (N : Int) := by omega
      have hb : bs[i]? = some bs[i] := List.getElem?_eq_getElem (by omega)
      have hc : cs[i]? = some cs[i] := List.getElem?_eq_getElem (by omega)
      generalize bs[i]'(by omega) = b at hb
      generalize cs[i]'(by omega) = c at hc
      have hbo := q.ok b (List.mem_of_getElem? hb)
      have hco := p.ok c (List.mem_of_getElem? hc)
      have q1 := q.ext e
      simp only [go_sem, ↓reduceIte, r19_2, r19_3, r19_4, tl, t0, t1, t11, t12, hI, Buls.ix q1 hb, Buls.ldn q1 hb, old_bare, H.back_bare, List.cons_append, List.nil_append]
      refine (fn_Digest (ht.ext e).bare hbo).mono ?_
      rintro u h2 ⟨rfl, e2⟩
      have ho2 := e2.old
      have e2' := e2.back
      rw [Kdrw_eq, ho2]
      generalize h'.back h2 = h3 at e2'
      have e3 := e.trans e2'
      have p3 := p.ext e3
      simp only [go_sem, ↓reduceIte, tl, t1, Buls.ix p3 hc, Buls.ldn p3 hc, List.cons_append, List.nil_append]
      refine (fn_Digest (ht.ext e3).bare hco).mono ?_
      rintro u h4 ⟨rfl, e4⟩
      have ho4 := e4.old
      have e4' := e4.back
      rw [Kdrw_eq, ho4]
      generalize h3.back h4 = h5 at e4'
      have e5 := e3.trans e4'
      have hq : eqV (.agg (List.replicate 32 (.i .u8))) (.agg ((digV b).map u8)) (.agg ((digV c).map u8)) = some (decide (digV b = digV c)) := eq_u8s (digV_len b) (digV_len c)
      have hd : differ bs cs i = !decide (digV b = digV c) := by unfold differ; rw [hb, hc]
      cases hx : decide (digV b = digV c)
      · rw [hx] at hq hd
        simp only [go_sem, ↓reduceIte, r19_5, tl, hq, List.cons_append, List.nil_append]
        refine ⟨rfl, ?_, e5⟩
        unfold forkV
        rw [fork_at (by rw [hN]; exact hin) hlo hd]
      · rw [hx] at hq hd
        simp only [go_sem, ↓reduceIte, r19_6, tl, hq, List.cons_append, List.nil_append]
        refine ⟨rfl, ?_⟩
        simp only [go_sem, ↓reduceIte, tl, t0, t1, t11, t12, wrap_succ (show i < 1000000000 by omega)]
        refine ⟨N - (i + 1), by omega, i + 1, rfl, by omega, rfl, e5, fun j hj => ?_⟩
        by_cases hji : j < i
        · exact hlo j hji
        · rw [show j = i by omega]; exact hd
    · have hI : ¬ (i : Int) < (N : Int) := by omega
      obtain rfl : i = N := by omega
      simp only [go_sem, ↓reduceIte, r19_2, r19_7, tl, t11, t12, hI]
      refine ⟨?_, e⟩
      unfold forkV
      rw [fork_none (by rw [hN]; exact hlo)]
  · exact ⟨0, by omega, by omega, by simp only [go_sem, ↓reduceIte], by simp only [go_sem, ↓reduceIte], by simp only [go_sem, ↓reduceIte], by simp only [go_sem, ↓reduceIte], by simp only [go_sem, ↓reduceIte], .refl h, fun j hj => by omega⟩
theorem t60 : tb1 20 = some a20 := by kernel_rfl
theorem fn_rFork {h : H} (ht : Tb4 h) {v w : V} {bs cs : List Bul} (q : Buls h v bs) (p : Buls h w cs) (hn : bs.length ≤ 1000) (hm : cs.length ≤ 1000) : WC tb1 (.fn 20 [] []) [v, w] h fun u h' => u = forkV bs cs ∧ Ext h h' := by
  refine (WC_in t60).2 ?_
  simp only [go_sem, ↓reduceIte, r20_0, r20_1]
  generalize hN : min bs.length cs.length = N
  refine W_while (fun k t h' => ∃ i, k = N - i ∧ i ≤ N ∧ t.length = 35 ∧ nth t 0 = v ∧ nth t 1 = w ∧ nth t 6 = .i .i64 (i : Int) ∧ Ext h h' ∧ ∀ j, j < i → differ bs cs j = false) ?_ N ?_
  · rintro k t h' ⟨i, rfl, hi, tl, t0, t1, t6, e, hlo⟩
    unfold b20_0
    have q1 := q.ext e
    have p1 := p.ext e
    have hlv := q1.sl.len
    have hlw := p1.sl.len
    by_cases hin : i < N
    · have hI : (i : Int) < (bs.length : Int) := by omega
      have hJ : (i : Int) < (cs.length : Int) := by omega
      have hb : bs[i]? = some bs[i] := List.getElem?_eq_getElem (by omega)
      have hc : cs[i]? = some cs[i] := List.getElem?_eq_getElem (by omega)
      generalize bs[i]'(by omega) = b at hb
      generalize cs[i]'(by omega) = c at hc
      have hbo := q.ok b (List.mem_of_getElem? hb)
      have hco := p.ok c (List.mem_of_getElem? hc)
      simp only [go_sem, ↓reduceIte, r20_2, r20_4, tl, t0, t1, t6, hlv, hlw, hI, hJ, Buls.ix q1 hb, Buls.ldn q1 hb]
      refine (fn_rDigest (ht.ext e) hbo).mono ?_
      rintro u h2 ⟨rfl, e2⟩
      have e02 := e.trans e2
      have x2 : (h2.new (.cells (List.replicate 32 (V.i .u8 0)))).get h2.next = some (.cells (List.replicate 32 (V.i .u8 0))) := get_new_eq rfl
      have s2 := blk_stn (k := 32) (d := (digV b).map u8) x2 rfl (by simpa using digV_len b) (u8s_one _)
      have e3 : Ext h ((h2.new (.cells (List.replicate 32 (V.i .u8 0)))).put h2.next (.cells ((digV b).map u8))) := (e02.new _).put e02.nx _
      have g3 : ((h2.new (.cells (List.replicate 32 (V.i .u8 0)))).put h2.next (.cells ((digV b).map u8))).get h2.next = some (.cells ((digV b).map u8)) := get_put_eq
      have n3 : h2.next < ((h2.new (.cells (List.replicate 32 (V.i .u8 0)))).put h2.next (.cells ((digV b).map u8))).next := by simp
      simp only [go_sem, ↓reduceIte, tl, s2]
      generalize (h2.new (.cells (List.replicate 32 (V.i .u8 0)))).put h2.next (.cells ((digV b).map u8)) = h3 at e3 g3 n3
      have p3 := p.ext e3
      simp only [go_sem, ↓reduceIte, r20_5, tl, t1, t6, Buls.ix p3 hc, Buls.ldn p3 hc]
      refine (fn_rDigest (ht.ext e3) hco).mono ?_
      rintro u h4 ⟨rfl, e4⟩
      have e04 := e3.trans e4
      have x4 : (h4.new (.cells (List.replicate 32 (V.i .u8 0)))).get h4.next = some (.cells (List.replicate 32 (V.i .u8 0))) := get_new_eq rfl
      have s4 := blk_stn (k := 32) (d := (digV c).map u8) x4 rfl (by simpa using digV_len c) (u8s_one _)
      have e5 : Ext h ((h4.new (.cells (List.replicate 32 (V.i .u8 0)))).put h4.next (.cells ((digV c).map u8))) := (e04.new _).put e04.nx _
      have n34 := e4.nx
      have l3 : ldnV ((h4.new (.cells (List.replicate 32 (V.i .u8 0)))).put h4.next (.cells ((digV c).map u8))) 32 (.p h2.next 0) = some (.agg ((digV b).map u8)) :=
        blk_ldn ((get_put_ne (by omega)).trans ((get_new_lt (by omega)).trans (e4.get n3 g3))) (by simpa using digV_len b)
      have l4 : ldnV ((h4.new (.cells (List.replicate 32 (V.i .u8 0)))).put h4.next (.cells ((digV c).map u8))) 32 (.p h4.next 0) = some (.agg ((digV c).map u8)) := blk_ldn get_put_eq (by simpa using digV_len c)
      simp only [go_sem, ↓reduceIte, tl, s4]
      generalize (h4.new (.cells (List.replicate 32 (V.i .u8 0)))).put h4.next (.cells ((digV c).map u8)) = h5 at e5 l3 l4
      have hq : eqV (.agg (List.replicate 32 (.i .u8))) (.agg ((digV b).map u8)) (.agg ((digV c).map u8)) = some (decide (digV b = digV c)) := eq_u8s (digV_len b) (digV_len c)
      have hd : differ bs cs i = !decide (digV b = digV c) := by unfold differ; rw [hb, hc]
      cases hx : decide (digV b = digV c)
      · rw [hx] at hq hd
        simp only [go_sem, ↓reduceIte, r20_6, r20_7, tl, t6, l3, l4, hq]
        refine ⟨?_, e5⟩
        unfold forkV
        rw [fork_at (by rw [hN]; exact hin) hlo hd]
      · rw [hx] at hq hd
        simp only [go_sem, ↓reduceIte, r20_6, r20_3, tl, t0, t1, t6, l3, l4, hq, wrap_succ (show i < 1000000000 by omega)]
        refine ⟨N - (i + 1), by omega, i + 1, rfl, by omega, rfl, e5, fun j hj => ?_⟩
        by_cases hji : j < i
        · exact hlo j hji
        · rw [show j = i by omega]; exact hd
    · obtain rfl : i = N := by omega
      have hfin : forkV bs cs = .tup [.i .i64 0, .b false] := by unfold forkV; rw [fork_none (by rw [hN]; exact hlo)]
      by_cases hI : (i : Int) < (bs.length : Int)
      · have hJ : ¬ (i : Int) < (cs.length : Int) := by omega
        simp only [go_sem, ↓reduceIte, r20_2, r20_8, tl, t0, t1, t6, hlv, hlw, hI, hJ]
        exact ⟨hfin.symm, e⟩
      · simp only [go_sem, ↓reduceIte, r20_2, r20_8, tl, t0, t1, t6, hlv, hlw, hI]
        exact ⟨hfin.symm, e⟩
  · exact ⟨0, by omega, by omega, by simp only [go_sem, ↓reduceIte], by simp only [go_sem, ↓reduceIte], by simp only [go_sem, ↓reduceIte], by simp only [go_sem, ↓reduceIte], .refl h, fun j hj => by omega⟩
end Go.Air
set_option maxRecDepth 100000
namespace Go.Air
open Go.Air.Try
theorem flat_take : ∀ {bs : List Bul} (n : Nat), (∀ b ∈ bs, b.Ok) → (bs.flatMap Bul.cells).take (n * 71) = (bs.take n).flatMap Bul.cells
  | [], n, _ => by simp
  | b :: bs, 0, _ => by simp
  | b :: bs, n + 1, ho => by
    rw [List.flatMap_cons, List.take_succ_cons, List.flatMap_cons, show (n + 1) * 71 = b.cells.length + n * 71 by rw [cells_len (ho b (by simp))]; omega, List.take_length_add_append, flat_take n fun c hc => ho c (List.mem_cons_of_mem _ hc)]
theorem errAt_take {bs : List Bul} {n j : Nat} (hj : j < n) : errAt (bs.take n) j = errAt bs j := by
  unfold errAt
  rw [List.getElem?_take_of_lt hj]
  cases bs[j]? with
  | none => rfl
  | some b =>
    simp only
    cases j with
    | zero => rfl
    | succ i => simp only [restAt, List.getElem?_take_of_lt (show i < n by omega)]
theorem linked_ok {bs : List Bul} (h : (linked bs).2 = 0) : ∀ j, j < bs.length → errAt bs j = 0 := by
  intro j hj
  unfold linked at h
  split at h
  · rename_i i hi
    have := List.find?_some hi
    simp at this
    exact absurd h this
  · rename_i hi
    rw [List.find?_eq_none] at hi
    have := hi j (List.mem_range.2 hj)
    simpa using this
theorem linked_take {bs : List Bul} {n : Nat} (hn : n ≤ bs.length) (h : (linked bs).2 = 0) : (linked (bs.take n)).2 = 0 := by
  rw [linked_none]
  intro j hj
  rw [List.length_take, Nat.min_eq_left hn] at hj
  rw [errAt_take hj]
  exact linked_ok h j (by omega)
theorem few_len {bs : List Bul} {m : Nat} (h : few bs m = true) : bs.length ≤ m := by
  unfold few at h
  rw [Bool.and_eq_true] at h
  exact of_decide_eq_true h.1
theorem l13 : tb1 6 = some a6 := by kernel_rfl
theorem law_links {h : H} (ht : Tb4 h) {v w : V} {bs cs : List Bul} {n : Int} (a : Arg 71 h v bs.length (bs.flatMap Bul.cells)) (hbo : ∀ b ∈ bs, b.Ok) (p : Buls h w cs) (hn : I64 n) : WC tb1 (.fn 6 [] []) [v, w, .i .i64 n] h fun u h' => u = .b true ∧ Ext h h' := by
  refine (WC_in l13).2 ?_
  have q : Buls h v bs := ⟨a.sl, hbo⟩
  simp only [go_sem, ↓reduceIte, r6_0, r6_1]
  refine (fn_few q (m := 40) (by omega)).mono ?_
  rintro u h1 ⟨rfl, e1⟩
  cases f1 : few bs 40
  · simp only [go_sem, ↓reduceIte, r6_2]
    exact e1
  simp only [go_sem, ↓reduceIte]
  refine (fn_few (p.ext e1) (m := 40) (by omega)).mono ?_
  rintro u h2 ⟨rfl, e2⟩
  have e02 := e1.trans e2
  cases f2 : few cs 40
  · simp only [go_sem, ↓reduceIte, r6_2]
    exact e02
  have l1 := few_len f1
  have l2 := few_len f2
  have hlk : linkV bs = .tup [.i .i64 (linked bs).1, .i .i64 (linked bs).2] := rfl
  have hfk : forkV bs cs = .tup [.i .i64 (fork bs cs).1, .b (fork bs cs).2] := rfl
  have htake := fun m (hm : m ≤ bs.length) => linked_take (bs := bs) (n := m) hm
  generalize (linked bs).1 = la at hlk
  generalize (linked bs).2 = lb at hlk htake
  generalize (fork bs cs).1 = fa at hfk
  generalize (fork bs cs).2 = fb at hfk
  simp only [go_sem, ↓reduceIte, r6_3]
  refine (fn_Linked (ht.ext e02) (q.ext e02) (by omega)).mono ?_
  rintro u h3 ⟨rfl, e3⟩
  have e03 := e02.trans e3
  simp only [hlk, go_sem, ↓reduceIte, r6_4]
  refine (fn_rLinked (ht.ext e03) (q.ext e03) (by omega)).mono ?_
  rintro u h4 ⟨rfl, e4⟩
  have e04 := e03.trans e4
  simp only [hlk, go_sem, ↓reduceIte]
  refine WL_gen (fun t => t.length = 88 ∧ nth t 0 = v ∧ nth t 1 = w ∧ nth t 2 = .i .i64 n ∧ nth t 7 = .i .i64 la ∧ nth t 8 = .i .i64 lb ∧ nth t 9 = .i .i64 la ∧ nth t 10 = .i .i64 lb) (by simp only [go_sem, ↓reduceIte]) ?_
  rintro t ⟨tl, t0, t1, t2, t7, t8, t9, t10⟩
  simp only [go_sem, ↓reduceIte, r6_5, tl, t0, t1]
  refine (fn_Fork (ht.ext e04) (q.ext e04) (p.ext e04) (by omega) (by omega)).mono ?_
  rintro u h5 ⟨rfl, e5⟩
  have e05 := e04.trans e5
  simp only [hfk, go_sem, ↓reduceIte, r6_6, tl, t0, t1]
  refine (fn_rFork (ht.ext e05) (q.ext e05) (p.ext e05) (by omega) (by omega)).mono ?_
  rintro u h6 ⟨rfl, e6⟩
  have e06 := e05.trans e6
  have n1 : binV .neq (.i .i64 la) (.i .i64 la) = some (.b false) := by simp [binV, binI]
  have n2 : binV .neq (.i .i64 lb) (.i .i64 lb) = some (.b false) := by simp [binV, binI]
  have n3 : binV .neq (.i .i64 fa) (.i .i64 fa) = some (.b false) := by simp [binV, binI]
  have n4 : eqV .bool (.b fb) (.b fb) = some true := by simp [eqV]
  simp only [hfk, go_sem, ↓reduceIte, tl]
  refine WL_gen (fun t => t.length = 88 ∧ nth t 0 = v ∧ nth t 2 = .i .i64 n ∧ nth t 7 = .i .i64 la ∧ nth t 8 = .i .i64 lb ∧ nth t 9 = .i .i64 la ∧ nth t 10 = .i .i64 lb ∧ nth t 11 = .i .i64 fa ∧ nth t 12 = .b fb ∧ nth t 13 = .i .i64 fa ∧ nth t 14 = .b fb) (by simp only [go_sem, ↓reduceIte, tl, t0, t1, t2, t7, t8, t9, t10]) ?_
  clear tl t0 t1 t2 t7 t8 t9 t10
  rintro t ⟨tl, t0, t2, t7, t8, t9, t10, t11, t12, t13, t14⟩
  simp only [go_sem, ↓reduceIte, r6_7, tl, t7, t8, t9, t10, t11, t12, t13, t14, n1, n2, n3, n4]
  refine WL_gen (fun t => t.length = 88 ∧ nth t 0 = v ∧ nth t 2 = .i .i64 n ∧ nth t 8 = .i .i64 lb) (by simp only [go_sem, ↓reduceIte, tl, t0, t2, t8]) ?_
  clear tl t0 t2 t7 t8 t9 t10 t11 t12 t13 t14
  rintro t ⟨tl, t0, t2, t8⟩
  have hlv := (q.ext e06).sl.len
  by_cases hn0 : (0 : Int) ≤ n
  · by_cases hnl : n ≤ (bs.length : Int)
    · obtain ⟨m, rfl⟩ : ∃ m : Nat, n = (m : Int) := ⟨n.toNat, (Int.toNat_of_nonneg hn0).symm⟩
      have hm : m ≤ bs.length := by omega
      obtain ⟨u, hu, au⟩ := (a.ext e06).hi hm
      have qu : Buls h6 u (bs.take m) := by
        refine ⟨?_, fun b hb => hbo b (List.mem_of_mem_take hb)⟩
        have := au.sl
        rw [flat_take m hbo] at this
        rw [List.length_take, Nat.min_eq_left hm]
        exact this
      simp only [go_sem, ↓reduceIte, r6_9, r6_10, tl, t0, t2, hlv, hn0, hnl, hu]
      refine (fn_Linked (ht.ext e06) qu (by simp; omega)).mono ?_
      rintro u h7 ⟨rfl, e7⟩
      have e07 := e06.trans e7
      have hlu : linkV (bs.take m) = .tup [.i .i64 (linked (bs.take m)).1, .i .i64 (linked (bs.take m)).2] := rfl
      by_cases hb0 : lb = 0
      · have hz := htake m hm hb0
        rw [hz] at hlu
        simp only [hlu, go_sem, ↓reduceIte, r6_11, r6_13, tl, t8, hb0]
        exact e07
      · simp only [hlu, go_sem, ↓reduceIte, r6_11, r6_13, tl, t8, hb0]
        exact e07
    · simp only [go_sem, ↓reduceIte, r6_9, r6_13, tl, t0, t2, hlv, hn0, hnl]
      exact e06
  · simp only [go_sem, ↓reduceIte, r6_9, r6_13, tl, t0, t2, hn0]
    exact e06
end Go.Air
