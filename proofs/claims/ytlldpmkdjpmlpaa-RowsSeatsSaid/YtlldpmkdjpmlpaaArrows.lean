/-
  Lists of structs in Air; arrows, and how they are compared.
-/
import Derived.Test.YtlldpmkdjpmlpaaTreaties
import Derived.Test.YtlldpmkdjpmlpaaParts
set_option linter.unusedSectionVars false
set_option linter.unusedVariables false
set_option linter.unusedSimpArgs false
set_option maxRecDepth 100000
namespace Go.Air
open Go.Air.Try

/-! ### Open orders in which nothing of before is written -/
section
variable {tbl : Nat → Option FI} {t : List V} {h : H} {Q : Out → List V → H → Prop}
def WP (tbl : Nat → Option FI) : List O → List V → H → (List V → H → Prop) → Prop
  | [], t, h, T => T t h
  | o :: l, t, h, T => if wants o.g t = true then WA tbl o.op t h.bare (fun v h' => oldOnes h.next h'.log = [] ∧ WP tbl l (putD t o.dst v) (h.back h') T) else WP tbl l (putD t o.dst .undef) h T
def Kdp (tbl : Nat → Option FI) (d : Option Nat) (l : List O) (T : List V → H → Prop) (t : List V) (h : H) (v : V) (h' : H) : Prop := oldOnes h.next h'.log = [] ∧ WP tbl l (putD t d v) (h.back h') T
@[go_sem ↓] theorem Kdp_eq {d : Option Nat} {l : List O} {T : List V → H → Prop} {v : V} {h' : H} : Kdp tbl d l T t h v h' ↔ oldOnes h.next h'.log = [] ∧ WP tbl l (putD t d v) (h.back h') T := Iff.rfl
@[go_sem ↓] theorem WP_nil {T : List V → H → Prop} : WP tbl [] t h T ↔ T t h := Iff.rfl
@[go_sem ↓] theorem WP_plain {d : Option Nat} {op : A} {l : List O} {T : List V → H → Prop} : WP tbl (⟨d, none, op⟩ :: l) t h T ↔ WA tbl op t h.bare (Kdp tbl d l T t h) := by
  simp [WP, wants]; rfl
@[go_sem ↓] theorem WP_guard {d : Option Nat} {op : A} {l : List O} {n : Nat} {w : Bool} {T : List V → H → Prop} : WP tbl (⟨d, some (n, w), op⟩ :: l) t h T ↔
    guardB (wants (some (n, w)) t) (WA tbl op t h.bare (Kdp tbl d l T t h)) (WP tbl l (putD t d .undef) h T) := Iff.rfl
theorem WP_WD {T : List V → H → Prop} : ∀ {l : List O} {t : List V} {h : H} {f : List Foot}, (∀ x ∈ f, x.wr = []) → WP tbl l t h T → WD tbl l t h f (fun t h f' => T t h ∧ f'.length = f.length + l.length ∧ ∀ x ∈ f', x.wr = [])
  | [], t, h, f, hf, w => WD_nil.2 ⟨w, by simp, hf⟩
  | o :: l, t, h, f, hf, w => by
    rw [WD_cons]
    simp only [WP] at w
    split
    · rename_i hw
      rw [if_pos hw] at w
      refine w.mono fun v h' q => ?_
      have := WP_WD (f := f ++ [⟨reads o.op t, oldOnes h.next h'.log⟩]) (by
        intro x hx
        rcases List.mem_append.1 hx with hx | hx
        · exact hf x hx
        · simp at hx; subst hx; exact q.1) q.2
      obtain ⟨k, t', h'', f', ee, r⟩ := this
      exact ⟨k, t', h'', f', ee, r.1, by rw [r.2.1]; simp; omega, r.2.2⟩
    · rename_i hw
      rw [if_neg hw] at w
      have := WP_WD (f := f ++ [⟨some [], []⟩]) (by
        intro x hx
        rcases List.mem_append.1 hx with hx | hx
        · exact hf x hx
        · simp at hx; subst hx; rfl) w
      obtain ⟨k, t', h'', f', ee, r⟩ := this
      exact ⟨k, t', h'', f', ee, r.1, by rw [r.2.1]; simp; omega, r.2.2⟩
theorem W_pure {l : List O} {crit : List (Nat × Nat)} (hc : ∀ p ∈ crit, p.1 < l.length ∧ p.2 < l.length) (w : WP tbl l t h (Kops Q)) : WD tbl l t h [] (Kcrit crit Q) := by
  obtain ⟨k, t', h', f', ee, r⟩ := WP_WD (f := []) (by simp) w
  refine ⟨k, t', h', f', ee, ?_, r.1⟩
  refine List.all_eq_true.2 fun p hp => ?_
  obtain ⟨h1, h2⟩ := hc p hp
  have hl : f'.length = l.length := by rw [r.2.1]; simp
  have e1 := List.getElem?_eq_getElem (l := f') (i := p.1) (by omega)
  have e2 := List.getElem?_eq_getElem (l := f') (i := p.2) (by omega)
  obtain ⟨i, j⟩ := p
  simp only at e1 e2 ⊢
  rw [e1, e2]
  have w1 := r.2.2 _ (List.getElem_mem (l := f') (n := i) (by omega))
  have w2 := r.2.2 _ (List.getElem_mem (l := f') (n := j) (by omega))
  simp only [apart, w1, w2]
  cases f'[i].rd <;> cases f'[j].rd <;> simp
theorem WD_append {l2 : List O} {U : List V → H → List Foot → Prop} : ∀ {l1 : List O} {t : List V} {h : H} {f : List Foot}, WD tbl (l1 ++ l2) t h f U ↔ WD tbl l1 t h f (fun t h f => WD tbl l2 t h f U)
  | [], t, h, f => by rw [WD_nil]; rfl
  | o :: l1, t, h, f => by
    rw [List.cons_append, WD_cons, WD_cons]
    split
    · constructor
      · intro w; exact w.mono fun v h' q => WD_append.1 q
      · intro w; exact w.mono fun v h' q => WD_append.2 q
    · exact WD_append
theorem WD_mono {U U' : List V → H → List Foot → Prop} {l : List O} {f : List Foot} (w : WD tbl l t h f U) (hu : ∀ t h f, U t h f → U' t h f) : WD tbl l t h f U' := by
  obtain ⟨k, t', h', f', ee, r⟩ := w
  exact ⟨k, t', h', f', ee, hu _ _ _ r⟩
theorem WE_WD {T : List V → H → Prop} : ∀ {l : List O} {t : List V} {h : H} {f : List Foot}, WE tbl l t h T → WD tbl l t h f (fun t h f' => T t h ∧ ∃ g, f' = f ++ g)
  | [], t, h, f, w => WD_nil.2 ⟨w, [], by simp⟩
  | o :: l, t, h, f, w => by
    rw [WD_cons]
    simp only [WE] at w
    split
    · rename_i hw
      rw [if_pos hw] at w
      refine w.mono fun v h' q => ?_
      refine WD_mono (WE_WD q) fun t' h'' f' r => ⟨r.1, ?_⟩
      obtain ⟨g, rfl⟩ := r.2
      exact ⟨_, by rw [List.append_assoc]⟩
    · rename_i hw
      rw [if_neg hw] at w
      refine WD_mono (WE_WD w) fun t' h'' f' r => ⟨r.1, ?_⟩
      obtain ⟨g, rfl⟩ := r.2
      exact ⟨_, by rw [List.append_assoc]⟩
/-- the pairs that are looked at lie in the first part, which writes nothing of before. -/
theorem W_crit {l1 l2 : List O} {crit : List (Nat × Nat)} (hc : ∀ p ∈ crit, p.1 < l1.length ∧ p.2 < l1.length) (w : WP tbl l1 t h (fun t h => WE tbl l2 t h (Kops Q))) : WD tbl (l1 ++ l2) t h [] (Kcrit crit Q) := by
  rw [WD_append]
  refine WD_mono (WP_WD (f := []) (by simp) w) fun t1 h1 f1 r => ?_
  refine WD_mono (WE_WD r.1) fun t2 h2 f2 r2 => ⟨?_, r2.1⟩
  obtain ⟨g, rfl⟩ := r2.2
  refine List.all_eq_true.2 fun p hp => ?_
  obtain ⟨q1, q2⟩ := hc p hp
  have hl : f1.length = l1.length := by rw [r.2.1]; simp
  have e1 : (f1 ++ g)[p.1]? = some (f1[p.1]'(by omega)) := by rw [List.getElem?_append_left (by omega)]; exact List.getElem?_eq_getElem (by omega)
  have e2 : (f1 ++ g)[p.2]? = some (f1[p.2]'(by omega)) := by rw [List.getElem?_append_left (by omega)]; exact List.getElem?_eq_getElem (by omega)
  obtain ⟨i, j⟩ := p
  simp only at e1 e2 ⊢
  rw [e1, e2]
  have w1 := r.2.2 _ (List.getElem_mem (l := f1) (n := i) (by omega))
  have w2 := r.2.2 _ (List.getElem_mem (l := f1) (n := j) (by omega))
  simp only [apart, w1, w2]
  cases f1[i].rd <;> cases f1[j].rd <;> simp
@[go_sem] theorem old_bare' (h : H) (n : Nat) : (oldOnes n h.bare.log = []) ↔ True := by simp [old_bare]
@[go_sem] theorem old_new' (h : H) (n : Nat) (b : Blk) : (oldOnes n (h.bare.new b).log = []) ↔ True := by simp [H.new, H.bare, oldOnes]
end

/-! ### Lists of structs -/
section
variable {α : Type} {f : α → List V} {k : Nat}
def recs (f : α → List V) (rs : List α) : List V := rs.flatMap f
theorem recs_cons (a : α) (rs : List α) : recs f (a :: rs) = f a ++ recs f rs := rfl
theorem recs_append (a b : List α) : recs f (a ++ b) = recs f a ++ recs f b := by simp [recs]
theorem recs_one (a : α) : recs f [a] = f a := by simp [recs]
theorem recs_len (hk : ∀ a, (f a).length = k) : ∀ rs : List α, (recs f rs).length = rs.length * k
  | [] => by simp [recs]
  | a :: rs => by rw [recs_cons, List.length_append, hk, recs_len hk rs, List.length_cons, Nat.succ_mul]; omega
theorem recs_at (hk : ∀ a, (f a).length = k) : ∀ (rs : List α) (i : Nat) (a : α), rs[i]? = some a → ((recs f rs).drop (i * k)).take k = f a
  | [], i, a, h => by simp at h
  | b :: rs, 0, a, h => by
    simp at h; subst h
    rw [recs_cons, Nat.zero_mul, List.drop_zero, List.take_append_of_le_length (by rw [hk]; omega), List.take_of_length_le (by rw [hk]; omega)]
  | b :: rs, i + 1, a, h => by
    rw [recs_cons, Nat.succ_mul, List.drop_append, List.drop_of_length_le (by rw [hk]; omega), hk, List.nil_append, Nat.add_sub_cancel]
    exact recs_at hk rs i a (by simpa using h)
theorem recs_get (hk : ∀ a, (f a).length = k) {rs : List α} {i j : Nat} {a : α} (h : rs[i]? = some a) (hj : j < k) : (recs f rs)[i * k + j]? = (f a)[j]? := by
  rw [← recs_at hk rs i a h, List.getElem?_take_of_lt hj, List.getElem?_drop]
end

section
variable {h : H} {b k : Nat} {c : List V}
theorem blk_ldn (g : h.get b = some (.cells c)) (hk : c.length = k) : ldnV h k (.p b 0) = some (.agg c) := by
  subst hk
  have : cut c 0 c.length = some c := cut_eq.2 ⟨by simp, by simp⟩
  simp [ldnV, g, Blk.rd, this]
theorem blk_ld {i : Nat} {x : V} (g : h.get b = some (.cells c)) (hx : c[i]? = some x) : ldV h (.p b i) = some x := by
  simp [ldV, g, Blk.rd1, nth?_eq, hx]
end
theorem lay_all : ∀ (z c : List V), z.length = c.length → lay z 0 c = some c
  | [], [], _ => rfl
  | [], _ :: _, h => by simp at h
  | _ :: _, [], h => by simp at h
  | x :: z, v :: c, h => by
    rw [lay, lay_all z c (by simpa using h)]; rfl
theorem st_newK (h : H) (z c : List V) (hl : z.length = c.length) (hone : ∀ u ∈ c, u.oneCell = true) :
    ∃ h2, stV (h.new (.cells z)) c.length (.p h.next 0) (.agg c) = some h2 ∧ Ext h h2 ∧ h2.get h.next = some (.cells c) ∧ h2.next = h.next + 1 := by
  have hg : ((h.new (.cells z)).put h.next (.cells c)).get h.next = some (.cells c) := by rw [H.get_put, if_pos rfl]
  refine ⟨(h.new (.cells z)).put h.next (.cells c), ?_, ((Ext.refl h).new _).put (Nat.le_refl _) _, hg, rfl⟩
  have g1 : (h.new (.cells z)).get h.next = some (.cells z) := by rw [H.get_new, if_pos rfl]
  have hall : c.all V.oneCell = true := List.all_eq_true.2 hone
  simp [stV, V.cells, storeAt, g1, lay_all z c hl]
  exact fun u hu => hone u hu
@[go_sem] theorem agg_cells (c : List V) : (V.agg c).cells = c := rfl

def fill3 (x y z : V) : Option (List V) := if Nat.beq x.cells.length 1 && Nat.beq y.cells.length 1 && Nat.beq z.cells.length 1 then some (x.cells ++ y.cells ++ z.cells) else none
@[go_sem] theorem fill_3i {t : List V} {z0 z1 z2 : V} {x y z : X} : fill t [z0, z1, z2] [(0, 1, x), (1, 1, y), (2, 1, z)] = fill3 (x.ev t) (y.ev t) (z.ev t) := by
  simp only [fill, fill3]
  by_cases hl : Nat.beq (x.ev t).cells.length 1 = true
  · rw [if_pos hl]
    obtain ⟨u, hc⟩ : ∃ u, (x.ev t).cells = [u] := by
      rw [Nat.beq_eq] at hl
      exact List.length_eq_one_iff.1 hl
    simp only [hc, lay, Option.map_some]
    by_cases hl2 : Nat.beq (y.ev t).cells.length 1 = true
    · obtain ⟨u2, hc2⟩ : ∃ u, (y.ev t).cells = [u] := by
        rw [Nat.beq_eq] at hl2
        exact List.length_eq_one_iff.1 hl2
      simp only [hc2, lay, Option.map_some, List.length_cons, List.length_nil]
      by_cases hl3 : Nat.beq (z.ev t).cells.length 1 = true
      · obtain ⟨u3, hc3⟩ : ∃ u, (z.ev t).cells = [u] := by
          rw [Nat.beq_eq] at hl3
          exact List.length_eq_one_iff.1 hl3
        simp [hc3, lay]
      · simp [hl3]
    · simp [hl2]
  · simp [hl]
@[go_sem] theorem fill3_iii {a b c : Int} : fill3 (.i .i64 a) (.i .i64 b) (.i .i64 c) = some [.i .i64 a, .i .i64 b, .i .i64 c] := rfl
@[go_sem] theorem fill_agg3 {t : List V} {z0 z1 z2 : V} {x : X} : fill t [z0, z1, z2] [(0, 3, x)] = fillA 3 (x.ev t) := by
  simp only [fill, fillA]
  by_cases hl : Nat.beq (x.ev t).cells.length 3 = true
  · rw [if_pos hl, if_pos hl]
    rw [Nat.beq_eq] at hl
    rw [lay_all _ _ (by rw [hl]; rfl)]
  · rw [if_neg hl, if_neg hl]
@[go_sem] theorem fillA_3 {a b c : V} : fillA 3 (.agg [a, b, c]) = some [a, b, c] := rfl
@[go_sem] theorem eqV_3 {a b c a' b' c' : Int} : eqV (.agg [.i .i64, .i .i64, .i .i64]) (.agg [.i .i64 a, .i .i64 b, .i .i64 c]) (.agg [.i .i64 a', .i .i64 b', .i .i64 c']) = some (decide (a = a' ∧ b = b' ∧ c = c')) := by
  simp [eqV, fitL, KT.fits, cellsEq, scalarEq, Bool.decide_and]

theorem app_3 {h0 h : H} {w : V} {α : Type} {f : α → List V} {rs : List α} {n : Nat} (a : α) (hk : ∀ a, (f a).length = 3) (hone : ∀ a, ∀ u ∈ f a, u.oneCell = true) (o : Own h0 3 h w n (recs f rs)) (e : Ext h0 h) (hn : n ≤ 1000000) :
    ∃ w' h', appendV 3 24 (h.new (.cells (f a))) w (.sl h.next 0 1 1 none) = .ok w' h' ∧ Ext h0 h' ∧ Own h0 3 h' w' (n + 1) (recs f (rs ++ [a])) ∧ h.next ≤ h'.next ∧ (∀ b, b < h.next → (w = .sn ∨ b ≠ blkV w) → h'.get b = h.get b) ∧ h.next < blkV w' := by
  obtain ⟨o3, x3⟩ := Own.lit (esz := 3) (Ext.refl h) (f a) 1 (by rw [hk])
  obtain ⟨w', h5, r1, r2, r3, r4, r5, r6⟩ := Own.app (bytes := 24) (o.ext x3) (e.trans x3) o3.sl (hone a) (by omega) (by omega) (by omega)
  refine ⟨w', h5, r1, r2, by rw [recs_append, recs_one]; exact r3, by simp at r4; omega, fun b hb hw => ?_, by rw [r6 (by omega)]; simp⟩
  rw [r5 b (by simp; omega) hw, H.get_new, if_neg (by omega)]

/-! ### Arrows -/
structure Arw where
  f : Int
  t : Int
  r : Int
  w : Int
def arw (a : Arw) : List V := [.i .i64 a.f, .i .i64 a.t, .i .i64 a.r, .i .i64 a.w]
theorem arw_len (a : Arw) : (arw a).length = 4 := rfl
theorem arw_one (a : Arw) : ∀ u ∈ arw a, u.oneCell = true := by
  intro u hu; simp [arw] at hu; rcases hu with rfl | rfl | rfl | rfl <;> rfl
def Arrs (h : H) (v : V) (rs : List Arw) : Prop := Sl 4 h v rs.length (recs arw rs)
theorem Arrs.ext {h h' : H} {v : V} {rs : List Arw} (s : Arrs h v rs) (e : Ext h h') : Arrs h' v rs := Sl.ext s e
theorem Arrs.len {h : H} {v : V} {rs : List Arw} (s : Arrs h v rs) : lenV v = some rs.length := Sl.len s
theorem Arrs.ix {h : H} {v : V} {rs : List Arw} (s : Arrs h v rs) {i : Nat} (hi : i < rs.length) : ixV 4 v (.i .i64 (i : Int)) = some (.p (blkV v) (offV v + i * 4)) := Sl.ix s hi
theorem Arrs.ldn {h : H} {v : V} {rs : List Arw} (s : Arrs h v rs) {i : Nat} {a : Arw} (hx : rs[i]? = some a) : ldnV h 4 (.p (blkV v) (offV v + i * 4)) = some (.agg [.i .i64 a.f, .i .i64 a.t, .i .i64 a.r, .i .i64 a.w]) := by
  rw [Sl.ldn s (List.getElem?_eq_some_iff.1 hx).1, recs_at arw_len rs i a hx]; rfl
theorem Arrs.ld {h : H} {v : V} {rs : List Arw} (s : Arrs h v rs) {i j : Nat} {a : Arw} (hx : rs[i]? = some a) (hj : j < 4) : ldV h (.p (blkV v) (offV v + i * 4 + j)) = (arw a)[j]? := by
  rw [Sl.ld s (List.getElem?_eq_some_iff.1 hx).1 hj, recs_get arw_len hx hj]
theorem st_arw (h : H) (z0 z1 z2 z3 : V) (a : Arw) : ∃ h2, stV (h.new (.cells [z0, z1, z2, z3])) 4 (.p h.next 0) (.agg [.i .i64 a.f, .i .i64 a.t, .i .i64 a.r, .i .i64 a.w]) = some h2 ∧ Ext h h2 ∧ h2.get h.next = some (.cells (arw a)) ∧ h2.next = h.next + 1 :=
  st_newK h [z0, z1, z2, z3] (arw a) rfl (arw_one a)
/-- what a block with an arrow says. -/
theorem arw_lds {h : H} {b : Nat} {a : Arw} (g : h.get b = some (.cells (arw a))) : ldV h (.p b 0) = some (.i .i64 a.f) ∧ ldV h (.p b 1) = some (.i .i64 a.t) ∧ ldV h (.p b 2) = some (.i .i64 a.r) ∧ ldV h (.p b 3) = some (.i .i64 a.w) ∧ ldnV h 4 (.p b 0) = some (.agg [.i .i64 a.f, .i .i64 a.t, .i .i64 a.r, .i .i64 a.w]) :=
  ⟨blk_ld g rfl, blk_ld g rfl, blk_ld g rfl, blk_ld g rfl, blk_ldn g rfl⟩

def inB (a lo hi : Int) : Bool := decide (lo ≤ a ∧ a ≤ hi)
theorem t108 : tblA 108 = some a108 := by kernel_rfl
@[go_sem ↓] theorem fn_in {h : H} {a lo hi : Int} {S : V → H → Prop} : WC tblA (.fn 108 [] []) [.i .i64 a, .i .i64 lo, .i .i64 hi] h S ↔ S (.b (inB a lo hi)) h := by
  rw [WC_in t108]
  by_cases c1 : lo ≤ a
  · by_cases c2 : a ≤ hi
    · simp only [go_sem, ↓reduceIte, r108_0, r108_1, c1, c2, inB, and_self]
    · simp only [go_sem, ↓reduceIte, r108_0, r108_1, c1, c2, inB, and_false]
  · simp only [go_sem, ↓reduceIte, r108_0, r108_1, c1, inB, false_and]
theorem t134 : tblA 134 = some a134 := by kernel_rfl
@[go_sem ↓] theorem fn_nan {h : H} {a : Int} {S : V → H → Prop} : WC tblA (.fn 134 [] []) [.i .i64 a] h S ↔ S (.b false) h := by
  rw [WC_in t134]
  simp only [go_sem, ↓reduceIte, r134_0, r134_1]
def cmpI (a b : Int) : Int := if a < b then -1 else if b < a then 1 else 0
theorem t125 : tblA 125 = some a125 := by kernel_rfl
@[go_sem ↓] theorem fn_cmp {h : H} {a b : Int} {S : V → H → Prop} : WC tblA (.fn 125 [] []) [.i .i64 a, .i .i64 b] h S ↔ S (.i .i64 (cmpI a b)) h := by
  rw [WC_in t125]
  by_cases c1 : a < b
  · simp only [go_sem, ↓reduceIte, r125_0, r125_1, r125_2, r125_3, r125_7, r125_9, r125_10, c1, cmpI]
  · by_cases c2 : b < a
    · simp only [go_sem, ↓reduceIte, r125_0, r125_1, r125_2, r125_3, r125_7, r125_9, r125_11, r125_12, c1, c2, cmpI]
    · simp only [go_sem, ↓reduceIte, r125_0, r125_1, r125_2, r125_3, r125_7, r125_9, r125_11, r125_13, c1, c2, cmpI]

/-- the first that is not 0. -/
def orS : List Int → Int
  | [] => 0
  | x :: l => if x ≠ 0 then x else orS l
theorem orS_at : ∀ {xs : List Int} {i : Nat} {x : Int}, (∀ y ∈ xs.take i, y = 0) → xs[i]? = some x → x ≠ 0 → orS xs = x
  | [], _, _, _, h, _ => by simp at h
  | y :: l, 0, x, _, h, hx => by simp at h; subst h; simp [orS, hx]
  | y :: l, i + 1, x, hz, h, hx => by
    have : y = 0 := hz y (by simp)
    subst this
    simp only [orS]
    rw [if_neg (by simp)]
    exact orS_at (i := i) (fun y hy => hz y (by simp [hy])) (by simpa using h) hx
theorem orS_zero : ∀ {xs : List Int}, (∀ y ∈ xs, y = 0) → orS xs = 0
  | [], _ => rfl
  | y :: l, hz => by
    have : y = 0 := hz y (by simp)
    subst this
    simp only [orS]
    rw [if_neg (by simp)]
    exact orS_zero fun y hy => hz y (by simp [hy])
theorem t124 : tblA 124 = some a124 := by kernel_rfl
theorem fn_Or {h : H} {v : V} {xs : List Int} (h1 : Ints h v xs) (hn : xs.length ≤ 1000000) : WC tblA (.fn 124 [] []) [v] h fun u h' => h' = h ∧ u = .i .i64 (orS xs) := by
  refine (WC_in t124).2 ?_
  simp only [go_sem, ↓reduceIte, r124_0, r124_1, r124_2, h1.len]
  refine W_while (fun k t h' => ∃ i, k = xs.length - i ∧ i ≤ xs.length ∧ t.length = 18 ∧ nth t 3 = .i .i64 0 ∧ nth t 6 = v ∧ nth t 7 = .i .i64 (xs.length : Int) ∧ nth t 8 = .i .i64 (i : Int) ∧ (∀ y ∈ xs.take i, y = 0) ∧ h = h') ?_ xs.length ?_
  · rintro k t h' ⟨i, rfl, hi, tl, t3, t6, t7, t8, hz, rfl⟩
    unfold b124_0
    by_cases hlt : i < xs.length
    · have hlt' : (i : Int) < (xs.length : Int) := by omega
      obtain ⟨x, hx⟩ : ∃ x, xs[i]? = some x := ⟨_, List.getElem?_eq_getElem hlt⟩
      by_cases hx0 : x = 0
      · simp only [go_sem, ↓reduceIte, r124_3, r124_4, r124_5, r124_7, tl, t3, t6, t7, t8, hlt', h1.ix hlt, h1.ld hx, hx0, wrap_succ (show i < 1000000000 by omega)]
        refine ⟨xs.length - (i + 1), by omega, i + 1, rfl, hlt, rfl, ?_⟩
        rw [take_succ' hx]
        intro y hy
        rcases List.mem_append.1 hy with hy | hy
        · exact hz y hy
        · simp at hy; subst hy; exact hx0
      · simp only [go_sem, ↓reduceIte, r124_3, r124_4, r124_5, r124_6, tl, t3, t6, t7, t8, hlt', h1.ix hlt, h1.ld hx, hx0]
        rw [orS_at hz hx hx0]
    · have hlt' : ¬ (i : Int) < (xs.length : Int) := by omega
      simp only [go_sem, ↓reduceIte, r124_3, r124_8, tl, t3, t6, t7, t8, hlt']
      rw [List.take_of_length_le (by omega)] at hz
      rw [orS_zero hz]
  · refine ⟨0, by omega, by omega, ?_⟩
    simp only [go_sem, ↓reduceIte]
    simp

def ltA (a b : Arw) : Prop := a.f < b.f ∨ a.f = b.f ∧ a.t < b.t
instance (a b : Arw) : Decidable (ltA a b) := by unfold ltA; infer_instance
theorem cmp_lt {a b : Arw} : 0 ≤ orS [cmpI a.f b.f, cmpI a.t b.t] ↔ ¬ ltA a b := by
  unfold ltA
  simp only [orS, cmpI]
  repeat' split
  all_goals omega
theorem t109 : tblA 109 = some a109 := by kernel_rfl
theorem fn_compare {h : H} {a b : Arw} : WC tblA (.fn 109 [] []) [.agg [.i .i64 a.f, .i .i64 a.t, .i .i64 a.r, .i .i64 a.w], .agg [.i .i64 b.f, .i .i64 b.t, .i .i64 b.r, .i .i64 b.w]] h fun u h' =>
    Ext h h' ∧ ∃ r, u = .i .i64 r ∧ (0 ≤ r ↔ ¬ ltA a b) := by
  refine (WC_in t109).2 ?_
  have g1 : ((h.new (.cells (arw a))).new (.cells (arw b))).get h.next = some (.cells (arw a)) := by rw [H.get_new, if_neg (by simp), H.get_new, if_pos rfl]
  have g2 : ((h.new (.cells (arw a))).new (.cells (arw b))).get (h.next + 1) = some (.cells (arw b)) := by rw [H.get_new, if_pos (by simp)]
  have e0 : Ext h ((h.new (.cells (arw a))).new (.cells (arw b))) := ((Ext.refl h).new _).new _
  obtain ⟨x0, x1, _, _, _⟩ := arw_lds g1
  obtain ⟨y0, y1, _, _, _⟩ := arw_lds g2
  simp only [go_sem, ↓reduceIte, r109_0, H.next_new]
  apply W_pure (by simp [r109_1])
  rw [r109_1]
  unfold arw at *
  generalize hh : ((h.new (.cells [.i .i64 a.f, .i .i64 a.t, .i .i64 a.r, .i .i64 a.w])).new (.cells [.i .i64 b.f, .i .i64 b.t, .i .i64 b.r, .i .i64 b.w])) = h2 at *
  obtain ⟨ol, ox⟩ := Own.lit (esz := 1) (Ext.refl h2.bare) (ints [cmpI a.f b.f, cmpI a.t b.t]) 2 rfl
  simp only [go_sem, ↓reduceIte, x0, x1, y0, y1]
  refine (fn_Or (Ints.of ol.sl).1 (by simp)).mono ?_
  rintro _ _ ⟨rfl, rfl⟩
  simp only [go_sem, ↓reduceIte]
  exact ⟨e0.trans ((Ext.refl h2).new _), _, rfl, cmp_lt⟩
theorem ints_len (xs : List Int) : (ints xs).length = xs.length := by simp [ints]
theorem ints_set (l : List Int) (j : Nat) (x : Int) : (ints l).set j (.i .i64 x) = ints (l.set j x) := by simp [ints, List.map_set]

theorem lay_k : ∀ (cs : List V) (j : Nat) (u : V), j < cs.length → lay cs j [u] = some (cs.set j u) := lay_one
theorem st_k {h : H} {b k : Nat} {cs : List V} {kd : IntKind} {x : Int} (hg : h.get b = some (.cells cs)) (hk : k < cs.length) : stV h 1 (.p b k) (.i kd x) = some (h.put b (.cells (cs.set k (.i kd x)))) := by
  have hl := lay_one cs k (.i kd x) hk
  simp [stV, V.cells, storeAt, hg, hl, V.oneCell]
/-! ### A clone of a list -/
@[go_sem] theorem eqV_sn : eqV .slice .sn .sn = some true := rfl
@[go_sem] theorem eqV_se {a : Addr} : eqV .slice (.se a) .sn = some false := rfl
@[go_sem] theorem eqV_sl {b o n c : Nat} {g : Option Nat} : eqV .slice (.sl b o n c g) .sn = some false := rfl
@[go_sem] theorem fill_nil {t z : List V} : fill t z [] = some z := rfl
/-- all of a list behind an empty one. -/
theorem app_all {h : H} {v : V} {xs : List Int} (hs : Ints h v xs) (hn : xs.length ≤ 1000000) : ∃ w h', appendV 1 8 (h.new (.cells [])) (.sl h.next 0 0 0 none) v = .ok w h' ∧ Ext h h' ∧ Own h 1 h' w xs.length (ints xs) := by
  obtain ⟨o1, x1⟩ := Own.lit (esz := 1) (Ext.refl h) [] 0 rfl
  obtain ⟨w, h', r1, r2, r3, _⟩ := Own.app (bytes := 8) o1 x1 (hs.ext x1) ints_one (by omega) (by omega) (by omega)
  exact ⟨w, h', r1, r2, by simpa using r3⟩
theorem t70 : tblA 70 = some a70 := by kernel_rfl
theorem fn_Clone {h : H} {v : V} {xs : List Int} (hs : Ints h v xs) (hn : xs.length ≤ 1000000) : WC tblA (.fn 70 [] []) [v] h fun u h' => Ext h h' ∧ Own h 1 h' u xs.length (ints xs) := by
  refine (WC_in t70).2 ?_
  obtain ⟨w, h', q1, q2, q3⟩ := app_all hs hn
  have hs' := hs
  rcases hs with ⟨hl, hx, rfl | ⟨a, rfl⟩⟩ | ⟨b, off, cap, g, bl, rfl, _⟩
  · obtain rfl : xs = [] := List.eq_nil_of_length_eq_zero hl
    simp only [go_sem, ↓reduceIte, r70_0, r70_1, r70_2]
    exact ⟨.refl h, .nil⟩
  · simp only [go_sem, ↓reduceIte, r70_0, r70_1, r70_3, q1]
    exact ⟨q2, q3⟩
  · simp only [go_sem, ↓reduceIte, r70_0, r70_1, r70_3, q1]
    exact ⟨q2, q3⟩
theorem Own.set {h0 h : H} {v : V} {n i : Nat} {xs : List Int} (o : Own h0 1 h v n (ints xs)) (e : Ext h0 h) (hi : i < n) (x : Int) :
    ∃ h2, stV h 1 (.p (blkV v) (offV v + i * 1)) (.i .i64 x) = some h2 ∧ Ext h0 h2 ∧ Own h0 1 h2 v n (ints (xs.set i x)) ∧ h2.next = h.next ∧ (∀ b, b ≠ blkV v → h2.get b = h.get b) := by
  obtain ⟨hl, ⟨rfl, rfl⟩ | ⟨b, g, rfl, hv, h1, h2, hg⟩⟩ := o
  · omega
  · refine ⟨h.put b (.cells ((ints xs).set (0 + i * 1) (.i .i64 x))), st_k (k := 0 + i * 1) hg (by rw [hl]; omega), e.put h1 _, ⟨by rw [ints_len, List.length_set, ← ints_len, hl], .inr ⟨b, g, rfl, hv, h1, by simpa using h2, ?_⟩⟩, by simp, fun b' hb' => by rw [H.get_put, if_neg (show b' ≠ b from hb')]⟩
    rw [H.get_put, if_pos rfl, ints_set, show 0 + i * 1 = i by omega]
theorem st_ref {h : H} {b : Nat} {x v : V} (hg : h.get b = some (.cells [x])) (h1 : v.cells = [v]) (h2 : v.oneCell = true) : stV h 1 (.p b 0) v = some (h.put b (.cells [v])) := by
  simp [stV, h1, storeAt, hg, lay, h2]
theorem app_3B {h0 h : H} {w : V} {α : Type} {f : α → List V} {rs : List α} {n : Nat} (a : α) (hk : ∀ a, (f a).length = 3) (hone : ∀ a, ∀ u ∈ f a, u.oneCell = true) (o : Own h0 3 h w n (recs f rs)) (e : Ext h0 h) (hn : n ≤ 1000000) :
    ∃ w' hb g, appendV 3 24 (h.new (.cells (f a))).bare w (.sl h.next 0 1 1 none) = .ok w' hb ∧ (h.new (.cells (f a))).back hb = g ∧ Ext h0 g ∧ Own h0 3 g w' (n + 1) (recs f (rs ++ [a])) := by
  obtain ⟨o3, x3⟩ := Own.lit (esz := 3) (Ext.refl h) (f a) 1 (by rw [hk])
  obtain ⟨w', hb, g, r1, r2, r3, r4, _⟩ := Own.appB (bytes := 24) (o.ext x3) (e.trans x3) o3.sl (hone a) (by omega) (by omega) (by omega)
  exact ⟨w', hb, g, r1, r2, r3, by rw [recs_append, recs_one]; exact r4⟩
end Go.Air
