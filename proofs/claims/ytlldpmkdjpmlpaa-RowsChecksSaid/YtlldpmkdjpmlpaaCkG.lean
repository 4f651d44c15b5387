/-
  A part of the proof of: RowsChecks: for every relation of at most 8 guests and plan, CheckPlan returns what the document's returns (D4).
-/
import Derived.Test.YtlldpmkdjpmlpaaRows
import Derived.ProofKit
import Derived.HandedShaped
import Derived.Deep.SlicePairs
import Derived.Deep.Matrix
import Derived.Test.YtlldpmkdjpmlpaaCkF
set_option linter.unusedSectionVars false
set_option linter.unusedVariables false
set_option linter.unusedSimpArgs false
set_option maxRecDepth 100000
namespace Go.Air
open Go.Air.Try
theorem Rows.mono {h0 h1 h : H} {w : V} {xss : List (List Int)} (r : Rows h1 h w xss) (hn : h0.next ≤ h1.next) : Rows h0 h w xss := by
  obtain ⟨cs, o, hc⟩ := r
  refine ⟨cs, o.mono hn, fun j xs hj => ?_⟩
  obtain ⟨c, q1, q2, q3, q4⟩ := hc j xs hj
  exact ⟨c, q1, q2, by omega, q4⟩
theorem t120 : tblA 120 = some a120 := by kernel_rfl
theorem fn_components {h : H} {wb n : Nat} {e r : Nat → Nat → Bool} (hn : n ≤ 24) (hw : wb < h.next) (g : h.get wb = some (.cells (webC (n : Int) e r))) :
    WC tblA (.fn 120 [] []) [.p wb 0] h fun u h' => Ext h h' ∧ Rows h h' u (comps r n n noneD) := by
  refine (WC_in t120).2 ?_
  simp only [go_sem, ↓reduceIte, r120_0, r120_1, r120_2, r120_3, r120_4, H.next_new]
  have e1 : Ext h ((((h.new (.cells [.p wb 0])).new (.cells [.sn])).new (.cells (List.replicate 24 (.b false)))).new (.cells [.fnil])) := ((((Ext.refl h).new _).new _).new _).new _
  have g1 : ((((h.new (.cells [.p wb 0])).new (.cells [.sn])).new (.cells (List.replicate 24 (.b false)))).new (.cells [.fnil])).get h.next = some (.cells [.p wb 0]) := by
    rw [H.get_new, if_neg (by simp <;> omega), H.get_new, if_neg (by simp <;> omega), H.get_new, if_neg (by simp <;> omega), H.get_new, if_pos rfl]
  have g2 : ((((h.new (.cells [.p wb 0])).new (.cells [.sn])).new (.cells (List.replicate 24 (.b false)))).new (.cells [.fnil])).get (h.next + 1) = some (.cells [.sn]) := by
    rw [H.get_new, if_neg (by simp <;> omega), H.get_new, if_neg (by simp <;> omega), H.get_new, if_pos (by simp)]
  have g3 : ((((h.new (.cells [.p wb 0])).new (.cells [.sn])).new (.cells (List.replicate 24 (.b false)))).new (.cells [.fnil])).get (h.next + 1 + 1) = some (.cells (cells24 noneD)) := by
    rw [H.get_new, if_neg (by simp <;> omega), H.get_new, if_pos (by simp), cells24_zero]
  have g4 : ((((h.new (.cells [.p wb 0])).new (.cells [.sn])).new (.cells (List.replicate 24 (.b false)))).new (.cells [.fnil])).get (h.next + 1 + 1 + 1) = some (.cells [.fnil]) := by
    rw [H.get_new, if_pos (by simp)]
  have nx : ((((h.new (.cells [.p wb 0])).new (.cells [.sn])).new (.cells (List.replicate 24 (.b false)))).new (.cells [.fnil])).next = h.next + 1 + 1 + 1 + 1 := by simp
  generalize ((((h.new (.cells [.p wb 0])).new (.cells [.sn])).new (.cells (List.replicate 24 (.b false)))).new (.cells [.fnil])) = h1 at *
  have hst := st_ref (v := .fn 129 [] [.p h.next 0, .p (h.next + 1 + 1) 0, .p (h.next + 1) 0, .p (h.next + 1 + 1 + 1) 0]) g4 rfl rfl
  simp only [go_sem, ↓reduceIte, hst]
  have x2 : ExtX (· = h.next + 1 + 1 + 1) h1 (h1.put (h.next + 1 + 1 + 1) (.cells [.fn 129 [] [.p h.next 0, .p (h.next + 1 + 1) 0, .p (h.next + 1) 0, .p (h.next + 1 + 1 + 1) 0]])) := (ExtX.refl (· = h.next + 1 + 1 + 1) h1).put (.inr rfl) _
  have e2 : Ext h (h1.put (h.next + 1 + 1 + 1) (.cells [.fn 129 [] [.p h.next 0, .p (h.next + 1 + 1) 0, .p (h.next + 1) 0, .p (h.next + 1 + 1 + 1) 0]])) := e1.put (by omega) _
  have g4' : (h1.put (h.next + 1 + 1 + 1) (.cells [.fn 129 [] [.p h.next 0, .p (h.next + 1 + 1) 0, .p (h.next + 1) 0, .p (h.next + 1 + 1 + 1) 0]])).get (h.next + 1 + 1 + 1) = some (.cells [.fn 129 [] [.p h.next 0, .p (h.next + 1 + 1) 0, .p (h.next + 1) 0, .p (h.next + 1 + 1 + 1) 0]]) := by rw [H.get_put, if_pos rfl]
  have n2 : (h1.put (h.next + 1 + 1 + 1) (.cells [.fn 129 [] [.p h.next 0, .p (h.next + 1 + 1) 0, .p (h.next + 1) 0, .p (h.next + 1 + 1 + 1) 0]])).next = h1.next := by simp
  replace g1 := x2.get (by omega) (by omega) g1
  replace g2 := x2.get (by omega) (by omega) g2
  replace g3 := x2.get (by omega) (by omega) g3
  have g5 := e2.get hw g
  generalize h1.put (h.next + 1 + 1 + 1) (.cells [.fn 129 [] [.p h.next 0, .p (h.next + 1 + 1) 0, .p (h.next + 1) 0, .p (h.next + 1 + 1 + 1) 0]]) = h2 at *
  have lf : ldV h2 (.p (h.next + 1 + 1 + 1) 0) = some (.fn 129 [] [.p h.next 0, .p (h.next + 1 + 1) 0, .p (h.next + 1) 0, .p (h.next + 1 + 1 + 1) 0]) := blk_ld g4' rfl
  simp only [go_sem, ↓reduceIte, r120_5, lf]
  have p : NPre h2 h.next (h.next + 1 + 1) (h.next + 1) (h.next + 1 + 1 + 1) wb n e r := ⟨by omega, by omega, by omega, by omega, by omega, by omega, by omega, by omega, by omega, g1, g4', g5⟩
  refine (fn_next129 hn p n h2 noneD .sn [] (by rw [undone_none]; exact Nat.le_refl _) (.refl _ _) g3 g2 .nil (by simp; omega)).mono ?_
  rintro _ h3 ⟨x3, w, g3', r3⟩
  have e3 : Ext h h3 := x3.ext e2 (fun b hb => by omega)
  have l3 : ldV h3 (.p (h.next + 1) 0) = some w := blk_ld g3' rfl
  simp only [go_sem, ↓reduceIte, r120_6, l3]
  exact ⟨e3, r3.mono (by omega)⟩
noncomputable def compsR (N : Int) (rs : List Arw) : List (List Int) := if checkS N rs = 0 then comps (rch (eA rs)) N.toNat N.toNat noneD else []
def big (l : List Int) : Bool := decide (2 ≤ l.length)
noncomputable def circR (N : Int) (rs : List Arw) : List (List Int) := (compsR N rs).filter big
theorem t87 : tblA 87 = some a87 := by kernel_rfl
theorem fn_Components {h : H} {N : Int} {v : V} {rs : List Arw} (hr : Arrs h v rs) (hrn : rs.length ≤ 1000000) : WC tblA (.fn 87 [] []) [.agg [.i .i64 N, v]] h fun u h' => Ext h h' ∧ Rows h h' u (compsR N rs) := by
  refine (WC_in t87).2 ?_
  obtain ⟨e0, g0⟩ := rel_blk h N v
  simp only [go_sem, ↓reduceIte, r87_0]
  have hr0 := hr.ext e0
  have n0 := e0.nx
  generalize hh : h.new (.cells [.i .i64 N, v]) = h0 at *
  have l0 : ldnV h0 2 (.p h.next 0) = some (.agg [.i .i64 N, v]) := blk_ldn g0 rfl
  simp only [go_sem, ↓reduceIte, r87_1, l0]
  refine (fn_open hr0 hrn).mono ?_
  rintro u h1 ⟨e1, hu⟩
  by_cases hc : checkS N rs = 0
  · rw [if_pos hc] at hu
    obtain ⟨wb, n, rfl, rfl, hw1, hw2, gw⟩ := hu
    obtain ⟨n', hn', hn24, _⟩ := check_ok hc
    have hn : n ≤ 24 := by omega
    simp only [go_sem, ↓reduceIte, r87_2, r87_4]
    refine (fn_components hn hw2 gw).mono ?_
    rintro u h2 ⟨e2, r2⟩
    simp only [go_sem, ↓reduceIte]
    refine ⟨e0.trans (e1.trans e2), ?_⟩
    rw [compsR, if_pos hc]
    exact r2.mono (e0.trans e1).nx
  · rw [if_neg hc] at hu
    subst hu
    simp only [go_sem, ↓reduceIte, r87_2, r87_3]
    refine ⟨e0.trans e1, ?_⟩
    rw [compsR, if_neg hc]
    exact .nil
theorem t88 : tblA 88 = some a88 := by kernel_rfl
theorem fn_small {h : H} {v : V} {xs : List Int} (hs : Ints h v xs) : WC tblA (.fn 88 [] []) [v] h fun u h' => h' = h ∧ u = .b (!big xs) := by
  refine (WC_in t88).2 ?_
  have hb : (decide ((xs.length : Int) < 2)) = !big xs := by
    unfold big
    rw [Bool.eq_iff_iff]
    simp
    omega
  simp only [go_sem, ↓reduceIte, r88_0, r88_1, hs.len, hb]
theorem t118 : tblA 118 = some a118 := by kernel_rfl
theorem fn_IndexSmall {h : H} {v : V} {xss : List (List Int)} (hs : LL h v xss) (hn : xss.length ≤ 1000000) : WC tblA (.fn 118 [] []) [v, .fn 88 [] []] h fun u h' => h' = h ∧
    ((u = .i .i64 (-1) ∧ ∀ xs ∈ xss, big xs = true) ∨ ∃ i : Nat, u = .i .i64 (i : Int) ∧ i < xss.length ∧ (∀ xs ∈ xss.take i, big xs = true) ∧ ∃ xs, xss[i]? = some xs ∧ big xs = false) := by
  refine (WC_in t118).2 ?_
  simp only [go_sem, ↓reduceIte, r118_0, r118_1, hs.len]
  refine W_while (fun k t h' => ∃ i, k = xss.length - i ∧ i ≤ xss.length ∧ t.length = 19 ∧ nth t 0 = v ∧ nth t 1 = .fn 88 [] [] ∧ nth t 7 = .i .i64 (xss.length : Int) ∧ nth t 8 = .i .i64 (i : Int) ∧ h' = h ∧ ∀ xs ∈ xss.take i, big xs = true) ?_ xss.length ?_
  · rintro k t _ ⟨i, rfl, hi, tl, t0, t1, t7, t8, rfl, ha⟩
    unfold b118_0
    by_cases hlt : i < xss.length
    · have hltI : (i : Int) < (xss.length : Int) := by omega
      obtain ⟨xs, hx⟩ : ∃ xs, xss[i]? = some xs := ⟨_, List.getElem?_eq_getElem hlt⟩
      obtain ⟨c, hl, hi1⟩ := hs.ld hx
      simp only [go_sem, ↓reduceIte, r118_2, r118_3, r118_4, tl, t0, t1, t7, t8, hltI, hs.ix hlt, hl]
      refine (fn_small hi1).mono ?_
      rintro _ _ ⟨rfl, rfl⟩
      cases hb : big xs
      · simp only [go_sem, ↓reduceIte, r118_5, tl]
        exact .inr ⟨i, rfl, hlt, ha, xs, hx, hb⟩
      · simp only [go_sem, ↓reduceIte, r118_6, tl, t0, t1, t7, t8, wrap_succ (show i < 1000000000 by omega)]
        refine ⟨xss.length - (i + 1), by omega, i + 1, rfl, hlt, rfl, ?_⟩
        rw [take_succ' hx]
        intro ys hy
        rcases List.mem_append.1 hy with hy | hy
        · exact ha ys hy
        · simp at hy; subst hy; exact hb
    · have hltI : ¬ (i : Int) < (xss.length : Int) := by omega
      simp only [go_sem, ↓reduceIte, r118_2, r118_7, tl, t0, t1, t7, t8, hltI]
      rw [List.take_of_length_le (by omega)] at ha
      exact .inl ha
  · refine ⟨0, by omega, by omega, ?_⟩
    simp only [go_sem, ↓reduceIte, List.take_zero]
    simp
def clrR (h : H) (z : List V) : V → RO
  | .sn => .ok .undef h
  | .sl b o n _ _ => if Nat.beq n 0 then .ok .undef h else match storeAt h b o (rep z n) with
      | some h' => .ok .undef h'
      | none => .fail
  | _ => .fail
@[go_sem ↓] theorem wa_clr {tbl : Nat → Option FI} {z : List V} {x : X} {t : List V} {h : H} {S : V → H → Prop} : WA tbl (.clr z x) t h S ↔ ROk (clrR h z (x.ev t)) S := by
  refine WA_of rfl ?_
  simp only [evA, clrR]
  cases x.ev t <;> rfl
theorem slLo_sm {b n i : Nat} {g : Option Nat} (hg : g = none ∨ g = some 1) (hi : i < n) : slLo 1 (.sl b 0 n n g) (.i .i64 (i : Int)) = some (.sl b (0 + i * 1) (n - i) (n - i) g) := by
  have hb : bounds [V.i .i64 (i : Int)] n n (some (.t 0)) none = some (i, n) := bounds_lo rfl (Nat.le_refl _) (by omega)
  have h1 : Nat.beq i n = false := beq_ne (by omega)
  have h2 : Nat.blt i n = true := by rw [Nat.blt_eq]; exact hi
  rcases hg with rfl | rfl
  · simp only [slLo, sliceV, hb, h1, Bool.false_eq_true, if_false]
  · simp only [slLo, sliceV, hb, h2]
    simp
theorem slHi_sm {b n i : Nat} {g : Option Nat} (hg : g = none ∨ g = some 1) (hi : i < n) : slHi 1 (.sl b 0 n n g) (.i .i64 (i : Int)) = some (.sl b 0 i n g) := by
  have hb : bounds [V.i .i64 (i : Int)] n n none (some (.t 0)) = some (0, i) := bounds_hi rfl (by omega)
  have h1 : Nat.beq 0 n = false := beq_ne (by omega)
  have h2 : Nat.blt 0 n = true := by rw [Nat.blt_eq]; omega
  rcases hg with rfl | rfl
  · simp only [slHi, sliceV, hb, h1, Bool.false_eq_true, if_false]
    simp
  · simp only [slHi, sliceV, hb, h2]
    simp
def stay (cs : List V) (xss : List (List Int)) (j : Nat) : List (V × List Int) := ((cs.zip xss).take j).filter fun p => big p.2
theorem stay_snd {cs : List V} {xss : List (List Int)} (hl : cs.length = xss.length) : (stay cs xss xss.length).map Prod.snd = xss.filter big := by
  unfold stay
  rw [List.take_of_length_le (by simp; omega)]
  have : (fun p : V × List Int => big p.2) = big ∘ Prod.snd := rfl
  rw [this, ← List.filter_map, List.map_snd_zip (by omega)]
theorem stay_succ {cs : List V} {xss : List (List Int)} {j : Nat} {c : V} {xs : List Int} (hc : cs[j]? = some c) (hx : xss[j]? = some xs) : stay cs xss (j + 1) = stay cs xss j ++ if big xs = true then [(c, xs)] else [] := by
  unfold stay
  have : (cs.zip xss)[j]? = some (c, xs) := by rw [List.getElem?_zip_eq_some]; exact ⟨hc, hx⟩
  rw [take_succ' this, List.filter_append]
  congr 1
  cases h : big xs <;> simp [h]
theorem stay_first {cs : List V} {xss : List (List Int)} {i : Nat} (hl : cs.length = xss.length) (hi : i ≤ xss.length) (h : ∀ xs ∈ xss.take i, big xs = true) : stay cs xss i = (cs.zip xss).take i := by
  unfold stay
  rw [List.filter_eq_self]
  intro p hp
  refine h p.2 ?_
  rw [← List.map_snd_zip (l₁ := cs) (l₂ := xss) (by omega), ← List.map_take]
  exact List.mem_map.2 ⟨p, hp, rfl⟩
theorem st_any {h : H} {b k : Nat} {cs : List V} {x : V} (hg : h.get b = some (.cells cs)) (h1 : x.cells = [x]) (h2 : x.oneCell = true) (hk : k < cs.length) : stV h 1 (.p b (0 + k * 1)) x = some (h.put b (.cells (cs.set k x))) := by
  have hl := lay_one cs k x hk
  simp [stV, h1, storeAt, hg, hl, h2]
theorem Ints.one {h : H} {v : V} {xs : List Int} (s : Ints h v xs) : v.cells = [v] ∧ v.oneCell = true := arg_cells s
theorem t86 : tblA 86 = some a86 := by kernel_rfl
theorem fn_DeleteSmall {h0 h : H} {v : V} {xss : List (List Int)} (hs : Rows h0 h v xss) (e0 : Ext h0 h) (hn : xss.length ≤ 1000) : WC tblA (.fn 86 [] []) [v, .fn 88 [] []] h fun u h' => Ext h0 h' ∧ LL h' u (xss.filter big) := by
  refine (WC_in t86).2 ?_
  simp only [go_sem, ↓reduceIte, r86_0, r86_1]
  refine (fn_IndexSmall hs.ll (by omega)).mono ?_
  rintro u h' ⟨hh, hu⟩
  obtain rfl : h = h' := hh.symm
  rcases hu with ⟨rfl, hall⟩ | ⟨i0, rfl, hi0, hall, xs0, hx0, hb0⟩
  · simp only [go_sem, ↓reduceIte, r86_2, r86_3]
    refine ⟨e0, ?_⟩
    rw [List.filter_eq_self.2 hall]
    exact hs.ll
  obtain ⟨cs, ⟨hl, ⟨hz, _⟩ | ⟨b, g, rfl, hg, hb1, hb2, gb⟩⟩, hc⟩ := hs
  · omega
  have hneg : ¬ (i0 : Int) = -1 := by omega
  have hcl : cs.length = xss.length := by omega
  simp only [go_sem, ↓reduceIte, r86_2, r86_4, hneg, wrap_succ (show i0 < 1000000000 by omega)]
  refine W_while (fun k t h' => ∃ (i j : Nat) (ds : List V), k = xss.length - j ∧ j ≤ xss.length ∧ i < j ∧ t.length = 42 ∧ nth t 0 = .sl b 0 xss.length xss.length g ∧ nth t 1 = .fn 88 [] [] ∧ nth t 5 = .i .i64 (i : Int) ∧ nth t 6 = .i .i64 (j : Int) ∧ ExtX (· = b) h h' ∧ h'.get b = some (.cells ds) ∧
      ds.length = xss.length ∧ i = (stay cs xss j).length ∧ ds.take i = (stay cs xss j).map Prod.fst ∧ ∀ m, j ≤ m → ds[m]? = cs[m]?) ?_ (xss.length - (i0 + 1)) ?_
  · rintro k t h' ⟨i, j, ds, rfl, hj, hij, tl, t0, t1, t5, t6, x', g', hdl, hi, htk, hds⟩
    unfold b86_0
    by_cases hlt : j < xss.length
    · have hltI : (j : Int) < (xss.length : Int) := by omega
      obtain ⟨xs, hx⟩ : ∃ xs, xss[j]? = some xs := ⟨_, List.getElem?_eq_getElem hlt⟩
      obtain ⟨c, hcj, ic, c1, c2, c3⟩ := hc j xs hx
      have hcb : blkV c ≠ b := by
        rcases c3 with q | q
        · cases q
        · exact q
      have ic' : Ints h' c xs := Sl.keepX (X := (· = b)) ic x' (.inr (.inr hcb))
      have hld : ldV h' (.p b (0 + j * 1)) = some c := blk_ld g' (by rw [show 0 + j * 1 = j by omega, hds j (Nat.le_refl _), hcj])
      simp only [go_sem, ↓reduceIte, r86_5, r86_7, r86_8, tl, t0, t1, t5, t6, hltI, ix_own hlt, hld]
      refine (fn_small ic').mono ?_
      rintro _ _ ⟨rfl, rfl⟩
      have hst := stay_succ hcj hx
      cases hb : big xs
      · rw [hb] at hst
        simp only [Bool.false_eq_true, if_false, List.append_nil] at hst
        simp only [go_sem, ↓reduceIte, r86_6, tl, t0, t1, t5, t6, wrap_succ (show j < 1000000000 by omega)]
        exact ⟨xss.length - (j + 1), by omega, i, j + 1, ds, rfl, hlt, by omega, rfl, rfl, x', g', hdl, by rw [hst]; exact hi, by rw [hst]; exact htk, fun m hm => hds m (by omega)⟩
      · rw [hb, if_pos rfl] at hst
        have hone := ic'.one
        have hsv := st_any (k := i) g' hone.1 hone.2 (by omega)
        simp only [go_sem, ↓reduceIte, r86_6, r86_9, r86_10, tl, t0, t1, t5, t6, ix_own (show i < xss.length by omega), hsv, wrap_succ (show j < 1000000000 by omega), wrap_succ (show i < 1000000000 by omega)]
        refine ⟨xss.length - (j + 1), by omega, i + 1, j + 1, ds.set i c, rfl, hlt, by omega, rfl, rfl, x'.put (.inr rfl) _, by rw [H.get_put, if_pos rfl], by simpa using hdl, by rw [hst]; simp [hi], ?_, fun m hm => ?_⟩
        · rw [hst, List.map_append, ← htk, take_succ' (x := c) (by rw [List.getElem?_set]; simp; omega)]
          congr 1
          rw [List.take_set_of_le (Nat.le_refl _)]
        · rw [List.getElem?_set, if_neg (by omega)]
          exact hds m (by omega)
    · have hltI : ¬ (j : Int) < (xss.length : Int) := by omega
      obtain rfl : j = xss.length := by omega
      have hin : i < xss.length := by omega
      have hrep : rep [V.sn] (xss.length - i) = List.replicate (xss.length - i) .sn := rep_one _ _
      have hlay : lay ds (0 + i * 1) (rep [V.sn] (xss.length - i)) = some (ds.take i ++ List.replicate (xss.length - i) .sn) := by
        rw [hrep]
        refine lay_of (by simp; omega) (by simp; omega) (fun m hm => ?_)
        by_cases hmi : m < i
        · rw [List.getElem?_append_left (by simp; omega), List.getElem?_take_of_lt hmi, if_neg (by omega)]
        · rw [List.getElem?_append_right (by simp; omega), if_pos (by simp; omega)]
          congr 1
          simp; omega
      have hb0' : Nat.beq (xss.length - i) 0 = false := beq_ne (by omega)
      have hclr : clrR h' [V.sn] (.sl b (0 + i * 1) (xss.length - i) (xss.length - i) g) = .ok .undef (h'.put b (.cells (ds.take i ++ List.replicate (xss.length - i) .sn))) := by
        have hall1 : (rep [V.sn] (xss.length - i)).all V.oneCell = true := by rw [hrep]; simp [V.oneCell]
        simp only [clrR, hb0', Bool.false_eq_true, if_false, storeAt, g', hlay, hall1, if_true]
      simp only [go_sem, ↓reduceIte, r86_5, r86_11, r86_12, tl, t0, t1, t5, t6, hltI, slLo_sm hg hin, slHi_sm hg hin, hclr]
      have xf : ExtX (· = b) h (h'.put b (.cells (ds.take i ++ List.replicate (xss.length - i) .sn))) := x'.put (.inr rfl) _
      refine ⟨xf.ext e0 (fun q hq => by subst hq; exact hb1), (stay cs xss xss.length).map Prod.fst, ?_, ?_⟩
      · rw [← stay_snd hcl, List.length_map, ← hi]
        refine .inr ⟨b, 0, _, g, .cells (ds.take i ++ List.replicate (xss.length - i) .sn), rfl, Nat.lt_of_lt_of_le hb2 xf.nx, by rw [H.get_put, if_pos rfl], ?_⟩
        refine cut_eq.2 ⟨by simp; omega, ?_⟩
        rw [← htk, List.drop_zero, Nat.mul_one, List.take_append_of_le_length (by simp; omega), List.take_take]
        simp
      · intro m xs hm
        rw [← stay_snd hcl, List.getElem?_map] at hm
        obtain ⟨p, hp, hpx⟩ := Option.map_eq_some_iff.1 hm
        refine ⟨p.1, by rw [List.getElem?_map, hp]; rfl, ?_⟩
        have hmem : p ∈ cs.zip xss := by
          have := List.mem_of_getElem? hp
          unfold stay at this
          exact List.mem_of_mem_take (List.mem_filter.1 this).1
        obtain ⟨q, hq⟩ := List.getElem?_of_mem hmem
        have hq2 : cs[q]? = some p.1 ∧ xss[q]? = some p.2 := by
          rw [← List.getElem?_zip_eq_some]; exact hq
        obtain ⟨c, hcq, ic, _, _, c3⟩ := hc q p.2 hq2.2
        rw [hq2.1] at hcq
        cases hcq
        rw [← hpx]
        refine Sl.keepX (X := (· = b)) ic xf (.inr (.inr ?_))
        rcases c3 with z | z
        · cases z
        · exact z
  · have hf := stay_first (cs := cs) hcl (by omega) hall
    have hcs0 : ∃ c0, cs[i0]? = some c0 := ⟨_, List.getElem?_eq_getElem (by omega)⟩
    obtain ⟨c0, hc0⟩ := hcs0
    have hs1 := stay_succ hc0 hx0
    rw [hb0] at hs1
    simp only [Bool.false_eq_true, if_false, List.append_nil] at hs1
    have hlen : ((cs.zip xss).take i0).length = i0 := by simp; omega
    refine ⟨i0, i0 + 1, cs, rfl, by omega, by omega, ?_⟩
    simp only [go_sem, ↓reduceIte, hs1, hf, hlen]
    refine ⟨.refl _ _, gb, hcl, ?_, fun m hm => trivial⟩
    rw [List.map_take, List.map_fst_zip (by omega)]
theorem compsR_len {N : Int} {rs : List Arw} : (compsR N rs).length ≤ 24 ∧ ∀ l ∈ compsR N rs, l.length ≤ 24 := by
  unfold compsR
  split
  · rename_i hc
    obtain ⟨n, rfl, hn, _⟩ := check_ok hc
    have : ∀ (k : Nat) (d : Nat → Bool), (comps (rch (eA rs)) n k d).length ≤ k ∧ ∀ l ∈ comps (rch (eA rs)) n k d, l.length ≤ n := by
      intro k
      induction k with
      | zero => intro d; simp [comps]
      | succ k ih =>
        intro d
        rw [comps]
        split
        · simp
        · rename_i a _
          obtain ⟨h1, h2⟩ := ih (addS d (mate (rch (eA rs)) n a))
          refine ⟨by simp; exact h1, fun l hl => ?_⟩
          rcases List.mem_cons.1 hl with rfl | hl
          · exact setL_len _ _
          · exact h2 l hl
    have := this n noneD
    simp only [Int.toNat_natCast]
    exact ⟨by omega, fun l hl => by have := this.2 l hl; omega⟩
  · simp
theorem circR_len {N : Int} {rs : List Arw} : (circR N rs).length ≤ 24 ∧ ∀ l ∈ circR N rs, l.length ≤ 24 :=
  ⟨Nat.le_trans (List.length_filter_le _ _) compsR_len.1, fun l hl => compsR_len.2 l (List.mem_filter.1 hl).1⟩
theorem t39 : tblA 39 = some a39 := by kernel_rfl
theorem fn_Circles {h : H} {N : Int} {v : V} {rs : List Arw} (hr : Arrs h v rs) (hrn : rs.length ≤ 1000000) : WC tblA (.fn 39 [] []) [.agg [.i .i64 N, v]] h fun u h' => Ext h h' ∧ LL h' u (circR N rs) := by
  refine (WC_in t39).2 ?_
  obtain ⟨e0, g0⟩ := rel_blk h N v
  simp only [go_sem, ↓reduceIte, r39_0]
  have hr0 := hr.ext e0
  generalize hh : h.new (.cells [.i .i64 N, v]) = h0 at *
  have l0 : ldnV h0 2 (.p h.next 0) = some (.agg [.i .i64 N, v]) := blk_ldn g0 rfl
  simp only [go_sem, ↓reduceIte, r39_1, l0]
  refine (fn_Components hr0 hrn).mono ?_
  rintro u h1 ⟨e1, r1⟩
  simp only [go_sem, ↓reduceIte]
  refine (fn_DeleteSmall r1 e1 (by have := (compsR_len (N := N) (rs := rs)).1; omega)).mono ?_
  rintro u2 h2 ⟨e2, s2⟩
  simp only [go_sem, ↓reduceIte]
  exact ⟨e0.trans e2, s2⟩
def circE (l : List (List Int)) : Int := if ∃ c ∈ l, 10 < c.length then 40 else 0
theorem t67 : tblA 67 = some a67 := by kernel_rfl
theorem fn_circles {h : H} {N : Int} {v : V} {rs : List Arw} (hr : Arrs h v rs) (hrn : rs.length ≤ 1000000) : WC tblA (.fn 67 [] []) [.agg [.i .i64 N, v]] h fun u h' => Ext h h' ∧ ∃ w, u = .tup [w, .i .i64 (circE (circR N rs))] ∧ (circE (circR N rs) = 0 → LL h' w (circR N rs)) := by
  refine (WC_in t67).2 ?_
  obtain ⟨e0, g0⟩ := rel_blk h N v
  simp only [go_sem, ↓reduceIte, r67_0]
  have hr0 := hr.ext e0
  generalize hh : h.new (.cells [.i .i64 N, v]) = h0 at *
  have l0 : ldnV h0 2 (.p h.next 0) = some (.agg [.i .i64 N, v]) := blk_ldn g0 rfl
  simp only [go_sem, ↓reduceIte, r67_1, l0]
  refine (fn_Circles hr0 hrn).mono ?_
  rintro u h1 ⟨e1, s1⟩
  have hlen := circR_len (N := N) (rs := rs)
  generalize circR N rs = xss at *
  simp only [go_sem, ↓reduceIte, r67_2, s1.len]
  refine W_while (fun k t h' => ∃ i, k = xss.length - i ∧ i ≤ xss.length ∧ t.length = 20 ∧ nth t 4 = u ∧ nth t 9 = u ∧ nth t 10 = .i .i64 (xss.length : Int) ∧ nth t 11 = .i .i64 (i : Int) ∧ h' = h1 ∧ ∀ c ∈ xss.take i, ¬ 10 < c.length) ?_ xss.length ?_
  · rintro k t _ ⟨i, rfl, hi, tl, t4, t9, t10, t11, rfl, ha⟩
    unfold b67_0
    by_cases hlt : i < xss.length
    · have hltI : (i : Int) < (xss.length : Int) := by omega
      obtain ⟨xs, hx⟩ : ∃ xs, xss[i]? = some xs := ⟨_, List.getElem?_eq_getElem hlt⟩
      obtain ⟨c, hl, hi1⟩ := s1.ld hx
      by_cases hb : 10 < xs.length
      · have hbI : (10 : Int) < (xs.length : Int) := by omega
        simp only [go_sem, ↓reduceIte, r67_3, r67_4, r67_5, r67_6, tl, t4, t9, t10, t11, hltI, s1.ix hlt, hl, hi1.len, hbI]
        have : circE xss = 40 := by rw [circE, if_pos ⟨xs, List.mem_of_getElem? hx, hb⟩]
        rw [this]
        exact ⟨e0.trans e1, .sn, rfl, fun q => by omega⟩
      · have hbI : ¬ (10 : Int) < (xs.length : Int) := by omega
        simp only [go_sem, ↓reduceIte, r67_3, r67_4, r67_5, r67_7, tl, t4, t9, t10, t11, hltI, s1.ix hlt, hl, hi1.len, hbI, wrap_succ (show i < 1000000000 by omega)]
        refine ⟨xss.length - (i + 1), by omega, i + 1, rfl, hlt, rfl, ?_⟩
        rw [take_succ' hx]
        intro ys hy
        rcases List.mem_append.1 hy with hy | hy
        · exact ha ys hy
        · simp at hy; subst hy; exact hb
    · have hltI : ¬ (i : Int) < (xss.length : Int) := by omega
      simp only [go_sem, ↓reduceIte, r67_3, r67_8, tl, t4, t9, t10, t11, hltI]
      rw [List.take_of_length_le (by omega)] at ha
      have : circE xss = 0 := by rw [circE, if_neg]; rintro ⟨c, h1, h2⟩; exact ha c h1 h2
      rw [this]
      exact ⟨e0.trans e1, u, rfl, fun _ => s1⟩
  · refine ⟨0, by omega, by omega, ?_⟩
    simp only [go_sem, ↓reduceIte, List.take_zero]
    simp
end Go.Air
set_option maxRecDepth 100000
namespace Go.Air
open Go.Air.Try
def GoodO (n : Int) (xs : List Int) : Prop := (xs.length : Int) = n ∧ (∀ x ∈ xs, 0 ≤ x ∧ x < n) ∧ xs.Nodup
instance (n : Int) (xs : List Int) : Decidable (GoodO n xs) := inferInstanceAs (Decidable (_ ∧ _ ∧ _))
def orderS (n : Int) (xs : List Int) : Int := if GoodO n xs then 0 else 1
def PreO (n : Int) (xs : List Int) : Prop := (∀ x ∈ xs, 0 ≤ x ∧ x < n) ∧ xs.Nodup
theorem preO_nil (n : Int) : PreO n [] := ⟨by simp, by simp⟩
theorem preO_step {n : Int} {xs : List Int} {i : Nat} {x : Int} (g : PreO n (xs.take i)) (hx : xs[i]? = some x) (h0 : 0 ≤ x) (h1 : x < n) (h2 : x ∉ xs.take i) : PreO n (xs.take (i + 1)) := by
  rw [take_succ' hx]
  refine ⟨fun y hy => ?_, List.nodup_append.2 ⟨g.2, by simp, fun a ha b hb => ?_⟩⟩
  · rcases List.mem_append.1 hy with hy | hy
    · exact g.1 y hy
    · simp at hy; subst hy; exact ⟨h0, h1⟩
  · simp at hb; subst hb
    rintro rfl; exact h2 ha
theorem goodO_bad {n : Int} {xs : List Int} {i : Nat} {x : Int} (hx : xs[i]? = some x) (h : x < 0 ∨ n ≤ x ∨ x ∈ xs.take i) : ¬ GoodO n xs := by
  intro g
  have hm := g.2.1 x (List.mem_of_getElem? hx)
  rcases h with h | h | h
  · omega
  · omega
  · obtain ⟨hi, e⟩ := List.getElem?_eq_some_iff.1 hx
    obtain ⟨j, hj, e2⟩ := List.getElem_of_mem h
    rw [List.getElem_take] at e2
    simp only [List.length_take] at hj
    exact List.pairwise_iff_getElem.1 g.2.2 j i (by omega) hi (by omega) (by rw [e, e2])
def seenB (m : Nat) (l : List Int) : List V := (List.range m).map fun (j : Nat) => V.b (decide ((j : Int) ∈ l))
theorem seenB_len (m : Nat) (l : List Int) : (seenB m l).length = m := by simp [seenB]
theorem seenB_get {m j : Nat} {l : List Int} (hj : j < m) : (seenB m l)[j]? = some (.b (decide ((j : Int) ∈ l))) := by simp [seenB, hj]
theorem seenB_nil (m : Nat) : seenB m [] = List.replicate m (.b false) := by
  apply List.ext_getElem?
  intro i
  by_cases hi : i < m
  · rw [seenB_get hi]; simp [hi]
  · rw [List.getElem?_eq_none (by rw [seenB_len]; omega), List.getElem?_eq_none (by simp; omega)]
theorem seenB_set {m j : Nat} {l : List Int} (hj : j < m) : (seenB m l).set j (.b true) = seenB m (l ++ [(j : Int)]) := by
  apply List.ext_getElem?
  intro i
  rw [List.getElem?_set]
  by_cases hi : i < m
  · rw [seenB_get hi, seenB_get hi]
    by_cases hji : j = i
    · subst hji; simp [seenB_len, hj]
    · have : ¬ (i : Int) = (j : Int) := by omega
      simp [hji, this]
  · rw [List.getElem?_eq_none (l := seenB m (l ++ [(j : Int)])) (by rw [seenB_len]; omega), List.getElem?_eq_none (l := seenB m l) (by rw [seenB_len]; omega)]
    have : j ≠ i := by omega
    simp [this]
theorem st_bool {h : H} {b j : Nat} {cs : List V} {x : Bool} (hg : h.get b = some (.cells cs)) (hj : j < cs.length) : stV h 1 (.p b (0 + j * 1)) (.b x) = some (h.put b (.cells (cs.set j (.b x)))) := by
  have hl := lay_one cs j (.b x) hj
  simp [stV, V.cells, storeAt, hg, hl, V.oneCell]
theorem ld_at {h : H} {b j : Nat} {cs : List V} {x : V} (hg : h.get b = some (.cells cs)) (hx : cs[j]? = some x) : ldV h (.p b (0 + j * 1)) = some x := blk_ld hg (by simpa using hx)
theorem t37 : tblA 37 = some a37 := by kernel_rfl
theorem fn_CheckOrder {h : H} {n : Int} {v : V} {xs : List Int} (hs : Ints h v xs) (hn : xs.length ≤ 1000000) : WC tblA (.fn 37 [] []) [.i .i64 n, v] h fun u h' => Ext h h' ∧ u = .i .i64 (orderS n xs) := by
  refine (WC_in t37).2 ?_
  by_cases c1 : ¬ (xs.length : Int) = n
  · simp only [go_sem, ↓reduceIte, r37_0, r37_1, r37_2, hs.len, c1]
    refine ⟨.refl h, ?_⟩
    rw [orderS, if_neg (fun g => c1 g.1)]
  replace c1 := Classical.not_not.1 c1
  subst c1
  simp only [go_sem, ↓reduceIte, r37_0, r37_1, r37_3, r37_4, hs.len, mkSl_ok (h := h) (c := [.b false]) (bytes := 1) (n := xs.length) (by omega) (by omega)]
  have e0 : Ext h (h.new (.cells (rep [.b false] xs.length))) := (Ext.refl h).new _
  have s0 := hs.ext e0
  have g0 : (h.new (.cells (rep [.b false] xs.length))).get h.next = some (.cells (seenB xs.length [])) := by rw [H.get_new, if_pos rfl, rep_one, seenB_nil]
  have n0 : h.next < (h.new (.cells (rep [.b false] xs.length))).next := by simp
  generalize hh : h.new (.cells (rep [.b false] xs.length)) = h0 at *
  generalize hm : xs.length = m at *
  refine W_while (fun k t h' => ∃ i, k = m - i ∧ i ≤ m ∧ t.length = 37 ∧ nth t 0 = .i .i64 (m : Int) ∧ nth t 5 = .sl h.next 0 m m none ∧ nth t 14 = v ∧ nth t 15 = .i .i64 (m : Int) ∧ nth t 16 = .i .i64 (i : Int) ∧ Ext h h' ∧ h.next < h'.next ∧ h'.get h.next = some (.cells (seenB m (xs.take i))) ∧ PreO m (xs.take i)) ?_ m ?_
  · rintro k t h' ⟨i, rfl, hi, tl, t0, t5, t14, t15, t16, e1, n1, g1, hp⟩
    unfold b37_0
    by_cases hlt : i < m
    · have hlt' : (i : Int) < (m : Int) := by omega
      have hlt2 : i < xs.length := by omega
      obtain ⟨x, hx⟩ : ∃ x, xs[i]? = some x := ⟨_, List.getElem?_eq_getElem hlt2⟩
      have s1 := hs.ext e1
      by_cases d1 : x < 0
      · simp only [go_sem, ↓reduceIte, r37_5, r37_6, r37_7, r37_8, tl, t0, t5, t14, t15, t16, hlt', s1.ix hlt2, s1.ld hx, d1]
        refine ⟨e1, ?_⟩
        rw [orderS, if_neg (goodO_bad hx (.inl d1))]
      by_cases d2 : (m : Int) ≤ x
      · simp only [go_sem, ↓reduceIte, r37_5, r37_6, r37_7, r37_8, tl, t0, t5, t14, t15, t16, hlt', s1.ix hlt2, s1.ld hx, d1, d2]
        refine ⟨e1, ?_⟩
        rw [orderS, if_neg (goodO_bad hx (.inr (.inl d2)))]
      obtain ⟨j, rfl⟩ := Int.eq_ofNat_of_zero_le (a := x) (by omega)
      have hj : j < m := by omega
      have hld := ld_at g1 (seenB_get (l := xs.take i) hj)
      by_cases d3 : (j : Int) ∈ xs.take i
      · simp only [go_sem, ↓reduceIte, r37_5, r37_6, r37_7, r37_8, tl, t0, t5, t14, t15, t16, hlt', s1.ix hlt2, s1.ld hx, d1, d2, ix_own hj, hld, d3]
        refine ⟨e1, ?_⟩
        rw [orderS, if_neg (goodO_bad hx (.inr (.inr d3)))]
      · simp only [go_sem, ↓reduceIte, r37_5, r37_6, r37_7, r37_9, r37_10, tl, t0, t5, t14, t15, t16, hlt', s1.ix hlt2, s1.ld hx, d1, d2, ix_own hj, hld, d3, st_bool g1 (show j < (seenB m (xs.take i)).length by rw [seenB_len]; exact hj), wrap_succ (show i < 1000000000 by omega)]
        refine ⟨m - (i + 1), by omega, i + 1, rfl, hlt, rfl, e1.put (Nat.le_refl _) _, by simpa using n1, ?_, preO_step hp hx (by omega) (by omega) d3⟩
        rw [H.get_put, if_pos rfl, seenB_set hj, take_succ' hx]
    · have hlt' : ¬ (i : Int) < (m : Int) := by omega
      simp only [go_sem, ↓reduceIte, r37_5, r37_11, tl, t0, t5, t14, t15, t16, hlt']
      rw [List.take_of_length_le (by omega)] at hp
      refine ⟨e1, ?_⟩
      rw [orderS, if_pos ⟨by omega, hp⟩]
  · refine ⟨0, by omega, by omega, ?_⟩
    simp only [go_sem, ↓reduceIte]
    exact ⟨e0, n0, g0, preO_nil _⟩
theorem t38 : tblA 38 = some a38 := by kernel_rfl
theorem fn_refCheckOrder {h : H} {n : Int} {v : V} {xs : List Int} (hs : Ints h v xs) (hn : xs.length ≤ 1000000) : WC tblA (.fn 38 [] []) [.i .i64 n, v] h fun u h' => Ext h h' ∧ u = .i .i64 (orderS n xs) := by
  refine (WC_in t38).2 ?_
  by_cases c1 : ¬ (xs.length : Int) = n
  · simp only [go_sem, ↓reduceIte, r38_0, r38_1, r38_2, hs.len, c1]
    refine ⟨.refl h, ?_⟩
    rw [orderS, if_neg (fun g => c1 g.1)]
  replace c1 := Classical.not_not.1 c1
  subst c1
  simp only [go_sem, ↓reduceIte, r38_0, r38_1, r38_3, hs.len]
  generalize hm : xs.length = m at *
  refine W_while (fun k t h' => ∃ i, k = m - i ∧ i ≤ m ∧ t.length = 43 ∧ nth t 0 = .i .i64 (m : Int) ∧ nth t 1 = v ∧ nth t 5 = .i .i64 (i : Int) ∧ PreO m (xs.take i) ∧ h = h') ?_ m ?_
  · rintro k t h' ⟨i, rfl, hi, tl, t0, t1, t5, hp, rfl⟩
    unfold b38_1
    by_cases hlt : i < m
    · have hlt' : (i : Int) < (m : Int) := by omega
      have hlt2 : i < xs.length := by omega
      obtain ⟨x, hx⟩ : ∃ x, xs[i]? = some x := ⟨_, List.getElem?_eq_getElem hlt2⟩
      by_cases d1 : x < 0
      · simp only [go_sem, ↓reduceIte, r38_4, r38_6, r38_7, tl, t0, t1, t5, hlt', hs.ix hlt2, hs.ld hx, d1]
        refine ⟨.refl h, ?_⟩
        rw [orderS, if_neg (goodO_bad hx (.inl d1))]
      by_cases d2 : (m : Int) ≤ x
      · simp only [go_sem, ↓reduceIte, r38_4, r38_6, r38_7, tl, t0, t1, t5, hlt', hs.ix hlt2, hs.ld hx, d1, d2]
        refine ⟨.refl h, ?_⟩
        rw [orderS, if_neg (goodO_bad hx (.inr (.inl d2)))]
      simp only [go_sem, ↓reduceIte, r38_4, r38_6, r38_8, tl, t0, t1, t5, hlt', hs.ix hlt2, hs.ld hx, d1, d2]
      refine W_while (fun k t h' => ∃ j, k = i - j ∧ j ≤ i ∧ t.length = 43 ∧ nth t 0 = .i .i64 (m : Int) ∧ nth t 1 = v ∧ nth t 5 = .i .i64 (i : Int) ∧ nth t 6 = .i .i64 (j : Int) ∧ x ∉ xs.take j ∧ h = h') ?_ i ?_
      · rintro k t h' ⟨j, rfl, hj, tl, t0, t1, t5, t6, hno, rfl⟩
        unfold b38_0
        by_cases hlt3 : j < i
        · have hlt3' : (j : Int) < (i : Int) := by omega
          have hj2 : j < xs.length := by omega
          obtain ⟨y, hy⟩ : ∃ y, xs[j]? = some y := ⟨_, List.getElem?_eq_getElem hj2⟩
          by_cases d3 : y = x
          · simp only [go_sem, ↓reduceIte, r38_9, r38_11, r38_12, tl, t0, t1, t5, t6, hlt3', hs.ix hlt2, hs.ld hx, hs.ix hj2, hs.ld hy, d3]
            refine ⟨.refl h, ?_⟩
            rw [orderS, if_neg (goodO_bad hx (.inr (.inr ?_)))]
            subst d3
            exact List.mem_of_getElem? (i := j) (by rw [List.getElem?_take_of_lt hlt3]; exact hy)
          · simp only [go_sem, ↓reduceIte, r38_9, r38_10, r38_11, tl, t0, t1, t5, t6, hlt3', hs.ix hlt2, hs.ld hx, hs.ix hj2, hs.ld hy, d3, wrap_succ (show j < 1000000000 by omega)]
            refine ⟨i - (j + 1), by omega, j + 1, rfl, hlt3, rfl, ?_⟩
            rw [take_succ' hy]
            simp [hno, Ne.symm d3]
        · have hlt3' : ¬ (j : Int) < (i : Int) := by omega
          obtain rfl : j = i := by omega
          simp only [go_sem, ↓reduceIte, r38_9, r38_5, tl, t0, t1, t5, t6, hlt3', wrap_succ (show j < 1000000000 by omega)]
          exact ⟨m - (j + 1), by omega, j + 1, rfl, hlt, rfl, preO_step hp hx (by omega) (by omega) hno⟩
      · refine ⟨0, by omega, by omega, ?_⟩
        simp only [go_sem, ↓reduceIte, tl, t0, t1, t5]
        simp
    · have hlt' : ¬ (i : Int) < (m : Int) := by omega
      simp only [go_sem, ↓reduceIte, r38_4, r38_13, tl, t0, t1, t5, hlt']
      rw [List.take_of_length_le (by omega)] at hp
      refine ⟨.refl h, ?_⟩
      rw [orderS, if_pos ⟨by omega, hp⟩]
  · refine ⟨0, by omega, by omega, ?_⟩
    simp only [go_sem, ↓reduceIte]
    exact preO_nil _
def posN (g : Int) : List Int → Nat
  | [] => 0
  | x :: l => if x = g then 0 else posN g l + 1
theorem posN_eq {g : Int} : ∀ {xs : List Int} {i : Nat}, xs[i]? = some g → g ∉ xs.take i → posN g xs = i
  | [], i, h, _ => by simp at h
  | x :: l, 0, h, _ => by simp at h; subst h; simp [posN]
  | x :: l, i + 1, h, hn => by
    simp only [List.take_succ_cons, List.mem_cons, not_or] at hn
    simp only [posN, if_neg (Ne.symm hn.1)]
    rw [posN_eq (by simpa using h) hn.2]
theorem perm_mem : ∀ (m : Nat) (l : List Int), l.length = m → (∀ x ∈ l, 0 ≤ x ∧ x < (m : Int)) → l.Nodup → ∀ x : Int, 0 ≤ x → x < (m : Int) → x ∈ l
  | 0, l, hl, hr, hd, x, h0, h1 => by omega
  | m + 1, l, hl, hr, hd, x, h0, h1 => by
    by_cases hm : (m : Int) ∈ l
    · have hd' := (List.nodup_cons.1 ((List.perm_cons_erase hm).nodup_iff.1 hd))
      have ih := perm_mem m (l.erase (m : Int)) (by rw [List.length_erase_of_mem hm]; omega) (fun y hy => by
        have := hr y (List.mem_of_mem_erase hy)
        have : y ≠ (m : Int) := by rintro rfl; exact hd'.1 hy
        omega) hd'.2
      by_cases hx : x = (m : Int)
      · subst hx; exact hm
      · exact List.mem_of_mem_erase (ih x h0 (by omega))
    · exfalso
      match l, hl with
      | [], hl => simp at hl
      | y :: l', hl =>
        have hl : l'.length = m := by simpa using hl
        have hd' := List.nodup_cons.1 hd
        have hr' : ∀ z ∈ y :: l', 0 ≤ z ∧ z < (m : Int) := fun z hz => by
          have := hr z hz
          have : z ≠ (m : Int) := by rintro rfl; exact hm hz
          omega
        have := perm_mem m l' hl (fun z hz => hr' z (List.mem_cons_of_mem _ hz)) hd'.2 y (hr' y (by simp)).1 (hr' y (by simp)).2
        exact hd'.1 this
theorem goodO_mem {n : Int} {xs : List Int} (g : GoodO n xs) {x : Int} (h0 : 0 ≤ x) (h1 : x < n) : x ∈ xs := by
  obtain ⟨hl, hr, hd⟩ := g
  exact perm_mem xs.length xs rfl (by rw [hl]; exact hr) hd x h0 (by omega)
end Go.Air
set_option maxRecDepth 100000
namespace Go.Air
open Go.Air.Try
theorem Ints.ixI {h : H} {v : V} {xs : List Int} (s : Ints h v xs) {x : Int} (h0 : 0 ≤ x) (h1 : x < xs.length) : ixV 1 v (.i .i64 x) = some (.p (blkV v) (offV v + x.toNat * 1)) := by
  obtain ⟨j, rfl⟩ := Int.eq_ofNat_of_zero_le h0
  exact s.ix (i := j) (by omega)
def posL (xs : List Int) : List Int := (List.range xs.length).map fun (j : Nat) => (posN (j : Int) xs : Int)
theorem posL_len (xs : List Int) : (posL xs).length = xs.length := by simp [posL]
theorem posL_get {xs : List Int} {x : Int} (h0 : 0 ≤ x) (h1 : x < xs.length) : (posL xs)[x.toNat]? = some (posN x xs : Int) := by
  obtain ⟨j, rfl⟩ := Int.eq_ofNat_of_zero_le h0
  have hj : j < xs.length := by omega
  simp [posL, hj]
def posC (xs : List Int) (i : Nat) : List Int := (List.range xs.length).map fun (j : Nat) => if (j : Int) ∈ xs.take i then (posN (j : Int) xs : Int) else 0
theorem posC_len (xs : List Int) (i : Nat) : (posC xs i).length = xs.length := by simp [posC]
theorem posC_0 (xs : List Int) : posC xs 0 = List.replicate xs.length 0 := by
  apply List.ext_getElem?
  intro i
  by_cases hi : i < xs.length
  · simp [posC, hi]
  · rw [List.getElem?_eq_none (by rw [posC_len]; omega), List.getElem?_eq_none (by simp; omega)]
theorem posC_all {xs : List Int} (g : GoodO xs.length xs) : posC xs xs.length = posL xs := by
  simp only [posC, posL]
  apply List.map_congr_left
  intro j hj
  have hj := List.mem_range.1 hj
  rw [List.take_of_length_le (by omega), if_pos (goodO_mem g (by omega) (by omega))]
theorem posC_set {xs : List Int} {i j : Nat} (g : GoodO xs.length xs) (hx : xs[i]? = some (j : Int)) (hj : j < xs.length) : (posC xs i).set j (i : Int) = posC xs (i + 1) := by
  have hno : (j : Int) ∉ xs.take i := fun hm => goodO_bad hx (.inr (.inr hm)) g
  apply List.ext_getElem?
  intro k
  rw [List.getElem?_set]
  by_cases hk : k < xs.length
  · by_cases hjk : j = k
    · subst hjk
      rw [if_pos rfl, if_pos (by rw [posC_len]; exact hk)]
      simp only [posC, List.getElem?_map, List.getElem?_range hk, Option.map_some]
      rw [if_pos (by rw [take_succ' hx]; simp), posN_eq hx hno]
    · rw [if_neg hjk]
      simp only [posC, List.getElem?_map, List.getElem?_range hk, Option.map_some]
      have : ¬ (k : Int) = (j : Int) := by omega
      rw [take_succ' hx]
      simp [this]
  · rw [List.getElem?_eq_none (l := posC xs (i + 1)) (by rw [posC_len]; omega), List.getElem?_eq_none (l := posC xs i) (by rw [posC_len]; omega)]
    have : j ≠ k := by omega
    simp [this]
theorem ints_rep (n : Nat) : ints (List.replicate n 0) = List.replicate n (.i .i64 0) := by simp [ints]
theorem t117 : tblA 117 = some a117 := by kernel_rfl
theorem fn_places {h : H} {v : V} {xs : List Int} (hs : Ints h v xs) (hn : xs.length ≤ 1000000) (g : GoodO xs.length xs) : WC tblA (.fn 117 [] []) [v] h fun u h' => Ext h h' ∧ Ints h' u (posL xs) := by
  refine (WC_in t117).2 ?_
  simp only [go_sem, ↓reduceIte, r117_0, r117_1, r117_2, hs.len, mkSl_ok (h := h) (c := [.i .i64 0]) (bytes := 8) (n := xs.length) (by omega) (by omega)]
  have e0 : Ext h (h.new (.cells (rep [.i .i64 0] xs.length))) := (Ext.refl h).new _
  have g0 : (h.new (.cells (rep [.i .i64 0] xs.length))).get h.next = some (.cells (ints (posC xs 0))) := by rw [H.get_new, if_pos rfl, rep_one, posC_0, ints_rep]
  have n0 : h.next < (h.new (.cells (rep [.i .i64 0] xs.length))).next := by simp
  generalize hh : h.new (.cells (rep [.i .i64 0] xs.length)) = h0 at *
  refine W_while (fun k t h' => ∃ i, k = xs.length - i ∧ i ≤ xs.length ∧ t.length = 22 ∧ nth t 3 = .sl h.next 0 xs.length xs.length none ∧ nth t 9 = v ∧ nth t 10 = .i .i64 (xs.length : Int) ∧ nth t 11 = .i .i64 (i : Int) ∧ Ext h h' ∧ h.next < h'.next ∧ h'.get h.next = some (.cells (ints (posC xs i)))) ?_ xs.length ?_
  · rintro k t h' ⟨i, rfl, hi, tl, t3, t9, t10, t11, e1, n1, g1⟩
    unfold b117_0
    by_cases hlt : i < xs.length
    · have hlt' : (i : Int) < (xs.length : Int) := by omega
      obtain ⟨x, hx⟩ : ∃ x, xs[i]? = some x := ⟨_, List.getElem?_eq_getElem hlt⟩
      have hr := g.2.1 x (List.mem_of_getElem? hx)
      obtain ⟨j, rfl⟩ := Int.eq_ofNat_of_zero_le (a := x) (by omega)
      have hj : j < xs.length := by omega
      have s1 := hs.ext e1
      simp only [go_sem, ↓reduceIte, r117_3, r117_4, r117_5, r117_6, tl, t3, t9, t10, t11, hlt', s1.ix hlt, s1.ld hx, ix_own hj, st_one g1 (show j < (ints (posC xs i)).length by simp [ints, posC_len]; exact hj), wrap_succ (show i < 1000000000 by omega)]
      refine ⟨xs.length - (i + 1), by omega, i + 1, rfl, hlt, rfl, e1.put (Nat.le_refl _) _, by simpa using n1, ?_⟩
      rw [H.get_put, if_pos rfl, ints_set, posC_set g hx hj]
    · have hlt' : ¬ (i : Int) < (xs.length : Int) := by omega
      simp only [go_sem, ↓reduceIte, r117_3, r117_7, tl, t3, t9, t10, t11, hlt']
      obtain rfl : i = xs.length := by omega
      rw [posC_all g] at g1
      refine ⟨e1, ?_⟩
      exact (Ints.of (n := xs.length) (.inr ⟨h.next, 0, xs.length, none, _, rfl, n1, g1, cut_eq.2 ⟨by simp [ints, posL_len], by rw [List.drop_zero, List.take_of_length_le (by simp [ints, posL_len])]⟩⟩)).1
  · refine ⟨0, by omega, by omega, ?_⟩
    simp only [go_sem, ↓reduceIte]
    exact ⟨e0, n0, g0⟩
def slt (s : Int × Int × Int) : List V := [.i .i64 s.1, .i .i64 s.2.1, .i .i64 s.2.2]
theorem slt_len (s : Int × Int × Int) : (slt s).length = 3 := rfl
theorem slt_one (s : Int × Int × Int) : ∀ u ∈ slt s, u.oneCell = true := by
  intro u hu; simp [slt] at hu; rcases hu with rfl | rfl | rfl <;> rfl
def Slts (h : H) (v : V) (L : List (Int × Int × Int)) : Prop := Sl 3 h v L.length (recs slt L)
theorem Slts.ext {h h' : H} {v : V} {L : List (Int × Int × Int)} (s : Slts h v L) (e : Ext h h') : Slts h' v L := Sl.ext s e
theorem Slts.nil {h : H} : Slts h .sn [] := .inl ⟨rfl, rfl, .inl rfl⟩
theorem Slts.len {h : H} {v : V} {L : List (Int × Int × Int)} (s : Slts h v L) : lenV v = some L.length := Sl.len s
theorem Slts.ix {h : H} {v : V} {L : List (Int × Int × Int)} (s : Slts h v L) {i : Nat} (hi : i < L.length) : ixV 3 v (.i .i64 (i : Int)) = some (.p (blkV v) (offV v + i * 3)) := Sl.ix s hi
theorem Slts.ldn {h : H} {v : V} {L : List (Int × Int × Int)} (s : Slts h v L) {i : Nat} {a : Int × Int × Int} (hx : L[i]? = some a) : ldnV h 3 (.p (blkV v) (offV v + i * 3)) = some (.agg [.i .i64 a.1, .i .i64 a.2.1, .i .i64 a.2.2]) := by
  rw [Sl.ldn s (List.getElem?_eq_some_iff.1 hx).1, recs_at slt_len L i a hx]; rfl
theorem Slts.of {h : H} {v : V} {n : Nat} {L : List (Int × Int × Int)} (s : Sl 3 h v n (recs slt L)) : Slts h v L ∧ L.length = n := by
  have : L.length = n := by have := s.length; rw [recs_len slt_len] at this; omega
  subst this
  exact ⟨s, rfl⟩
theorem st_slt (h : H) (z0 z1 z2 : V) (a : Int × Int × Int) : ∃ h2, stV (h.new (.cells [z0, z1, z2])) 3 (.p h.next 0) (.agg [.i .i64 a.1, .i .i64 a.2.1, .i .i64 a.2.2]) = some h2 ∧ Ext h h2 ∧ h2.get h.next = some (.cells (slt a)) ∧ h2.next = h.next + 1 :=
  st_newK h [z0, z1, z2] (slt a) rfl (slt_one a)
def slS (xs : List Int) (rs : List Arw) : List (Int × Int × Int) := rs.flatMap fun a => if posN a.t xs < posN a.f xs then [(a.f, a.t, a.w)] else []
theorem slS_step {xs : List Int} {rs : List Arw} {i : Nat} {a : Arw} (hx : rs[i]? = some a) : slS xs (rs.take (i + 1)) = slS xs (rs.take i) ++ if posN a.t xs < posN a.f xs then [(a.f, a.t, a.w)] else [] := by
  rw [take_succ' hx]; simp [slS]
theorem slS_le (xs : List Int) : ∀ rs : List Arw, (slS xs rs).length ≤ rs.length
  | [] => by simp [slS]
  | a :: rs => by
    have := slS_le xs rs
    simp only [slS, List.flatMap_cons, List.length_append] at *
    split <;> simp only [List.length_cons, List.length_nil] <;> omega
def sumW (L : List (Int × Int × Int)) : Int := (L.map fun s => s.2.2).sum
theorem sumW_append (a b : List (Int × Int × Int)) : sumW (a ++ b) = sumW a + sumW b := by simp [sumW]
theorem sumW_one (s : Int × Int × Int) : sumW [s] = s.2.2 := by simp [sumW]
theorem sumW_range {L : List (Int × Int × Int)} (h : ∀ s ∈ L, 0 ≤ s.2.2 ∧ s.2.2 ≤ 1000) : 0 ≤ sumW L ∧ sumW L ≤ 1000 * L.length := by
  induction L with
  | nil => simp [sumW]
  | cons s L ih =>
    have h1 := h s (by simp)
    have h2 := ih fun x hx => h x (by simp [hx])
    simp only [sumW, List.map_cons, List.sum_cons, List.length_cons] at *
    omega
theorem slS_range {N : Int} {xs : List Int} {rs : List Arw} (g : GoodR N rs) : ∀ s ∈ slS xs rs, 0 ≤ s.2.2 ∧ s.2.2 ≤ 1000 := by
  intro s hs
  obtain ⟨a, ha, hs⟩ := List.mem_flatMap.1 hs
  have := g.1 a ha
  unfold OkA at this
  split at hs
  · simp at hs; subst hs; simp only []; omega
  · simp at hs
theorem t84 : tblA 84 = some a84 := by kernel_rfl
theorem fn_slights {h : H} {N : Int} {v o : V} {rs : List Arw} {xs : List Int} (hr : Arrs h v rs) (hrn : rs.length ≤ 1000000) (hs : Ints h o xs) (hn : xs.length ≤ 1000000) (gr : GoodR N rs) (go : GoodO N xs) :
    WC tblA (.fn 84 [] []) [.agg [.i .i64 N, v], o] h fun u h' => Ext h h' ∧ Slts h' u (slS xs rs) := by
  refine (WC_in t84).2 ?_
  obtain ⟨e0, g0⟩ := rel_blk h N v
  simp only [go_sem, ↓reduceIte, r84_0]
  have hb0 : h.next < (h.new (.cells [.i .i64 N, v])).next := by simp
  generalize hh : h.new (.cells [.i .i64 N, v]) = h0 at *
  have hNl := go.1
  simp only [go_sem, ↓reduceIte, r84_1]
  refine (fn_places (hs.ext e0) hn (by rw [hNl]; exact go)).mono ?_
  rintro p h1 ⟨e1, sp⟩
  have l1 : ldV h1 (.p h.next 1) = some v := blk_ld (e1.get hb0 g0) rfl
  have hr1 := hr.ext (e0.trans e1)
  simp only [go_sem, ↓reduceIte, r84_2, r84_3, l1, hr1.len]
  refine W_while (fun k t h' => ∃ (i : Nat) (w : V), k = rs.length - i ∧ i ≤ rs.length ∧ t.length = 41 ∧ nth t 5 = p ∧ nth t 6 = w ∧ nth t 12 = v ∧ nth t 13 = .i .i64 (rs.length : Int) ∧ nth t 14 = .i .i64 (i : Int) ∧ Ext h1 h' ∧ Own h1 3 h' w (slS xs (rs.take i)).length (recs slt (slS xs (rs.take i)))) ?_ rs.length ?_
  · rintro k t h2 ⟨i, w, rfl, hi, tl, t5, t6, t12, t13, t14, e2, o2⟩
    unfold b84_0
    by_cases hlt : i < rs.length
    · have hlt' : (i : Int) < (rs.length : Int) := by omega
      obtain ⟨a, hx⟩ : ∃ a, rs[i]? = some a := ⟨_, List.getElem?_eq_getElem hlt⟩
      have hok := gr.1 a (List.mem_of_getElem? hx)
      unfold OkA at hok
      have s2 := hr1.ext e2
      obtain ⟨h3, q3, e3, g3, n3⟩ := st_arw h2 (.i .i64 0) (.i .i64 0) (.i .i64 0) (.i .i64 0) a
      obtain ⟨x0, x1, _, x3, _⟩ := arw_lds g3
      have p3 := sp.ext (e2.trans e3)
      have pl := posL_len xs
      have pf := p3.ixI (x := a.f) (by omega) (by omega)
      have pt := p3.ixI (x := a.t) (by omega) (by omega)
      have lf := p3.ld (posL_get (xs := xs) (x := a.f) (by omega) (by omega))
      have lt := p3.ld (posL_get (xs := xs) (x := a.t) (by omega) (by omega))
      have hst := slS_step (xs := xs) hx
      have hle := slS_le xs (rs.take i)
      have htl : (rs.take i).length ≤ i := by simp; omega
      by_cases hb : posN a.t xs < posN a.f xs
      · have hb' : (posN a.t xs : Int) < (posN a.f xs : Int) := by omega
        rw [if_pos hb] at hst
        obtain ⟨w', h4, r1, r2, r3, _⟩ := app_3 (f := slt) (a.f, a.t, a.w) slt_len slt_one (o2.ext e3) (e2.trans e3) (by omega)
        simp only [slt] at r1
        simp only [go_sem, ↓reduceIte, r84_4, r84_5, r84_6, r84_7, r84_8, tl, t5, t6, t12, t13, t14, hlt', s2.ix hlt, s2.ldn hx, q3, x0, x1, x3, pf, pt, lf, lt, hb', r1, wrap_succ (show i < 1000000000 by omega)]
        refine ⟨rs.length - (i + 1), by omega, i + 1, w', rfl, hlt, rfl, rfl, r2, ?_⟩
        rw [hst, List.length_append]
        exact r3
      · have hb' : ¬ (posN a.t xs : Int) < (posN a.f xs : Int) := by omega
        rw [if_neg hb, List.append_nil] at hst
        simp only [go_sem, ↓reduceIte, r84_4, r84_5, r84_6, r84_8, tl, t5, t6, t12, t13, t14, hlt', s2.ix hlt, s2.ldn hx, q3, x0, x1, x3, pf, pt, lf, lt, hb', wrap_succ (show i < 1000000000 by omega)]
        refine ⟨rs.length - (i + 1), by omega, i + 1, w, rfl, hlt, rfl, rfl, e2.trans e3, ?_⟩
        rw [hst]
        exact o2.ext e3
    · have hlt' : ¬ (i : Int) < (rs.length : Int) := by omega
      simp only [go_sem, ↓reduceIte, r84_4, r84_9, tl, t5, t6, t12, t13, t14, hlt']
      rw [List.take_of_length_le (by omega)] at o2
      exact ⟨e0.trans (e1.trans e2), (Slts.of o2.sl).1⟩
  · refine ⟨0, .sn, by omega, by omega, ?_⟩
    simp only [go_sem, ↓reduceIte]
    exact ⟨.refl h1, .nil⟩
theorem t81 : tblA 81 = some a81 := by kernel_rfl
theorem fn_offence {h : H} {N : Int} {v o : V} {rs : List Arw} {xs : List Int} (hr : Arrs h v rs) (hrn : rs.length ≤ 1000000) (hs : Ints h o xs) (hn : xs.length ≤ 1000000) (gr : GoodR N rs) (go : GoodO N xs) :
    WC tblA (.fn 81 [] []) [.agg [.i .i64 N, v], o] h fun u h' => Ext h h' ∧ u = .i .i64 (sumW (slS xs rs)) := by
  refine (WC_in t81).2 ?_
  obtain ⟨e0, g0⟩ := rel_blk h N v
  simp only [go_sem, ↓reduceIte, r81_0]
  generalize hh : h.new (.cells [.i .i64 N, v]) = h0 at *
  have l0 : ldnV h0 2 (.p h.next 0) = some (.agg [.i .i64 N, v]) := blk_ldn g0 rfl
  simp only [go_sem, ↓reduceIte, r81_1, r81_2, l0]
  refine (fn_slights (hr.ext e0) hrn (hs.ext e0) hn gr go).mono ?_
  rintro w h1 ⟨e1, sw⟩
  have hrange := slS_range (xs := xs) gr
  have hle := slS_le xs rs
  generalize hL : slS xs rs = L at *
  simp only [go_sem, ↓reduceIte, sw.len]
  refine W_while (fun k t h' => ∃ (i : Nat), k = L.length - i ∧ i ≤ L.length ∧ t.length = 22 ∧ nth t 5 = .i .i64 (sumW (L.take i)) ∧ nth t 10 = w ∧ nth t 11 = .i .i64 (L.length : Int) ∧ nth t 12 = .i .i64 (i : Int) ∧ Ext h1 h') ?_ L.length ?_
  · rintro k t h2 ⟨i, rfl, hi, tl, t5, t10, t11, t12, e2⟩
    unfold b81_0
    by_cases hlt : i < L.length
    · have hlt' : (i : Int) < (L.length : Int) := by omega
      obtain ⟨s, hx⟩ : ∃ s, L[i]? = some s := ⟨_, List.getElem?_eq_getElem hlt⟩
      have s2 := sw.ext e2
      obtain ⟨h3, q3, e3, g3, n3⟩ := st_slt h2 (.i .i64 0) (.i .i64 0) (.i .i64 0) s
      have x2 : ldV h3 (.p h2.next 2) = some (.i .i64 s.2.2) := blk_ld g3 rfl
      have hst : sumW (L.take (i + 1)) = sumW (L.take i) + s.2.2 := by rw [take_succ' hx, sumW_append, sumW_one]
      have b1 := sumW_range (L := L.take (i + 1)) fun x hm => hrange x (List.mem_of_mem_take hm)
      have b2 : (L.take (i + 1)).length ≤ i + 1 := by simp; omega
      have hw : IntKind.i64.wrap (sumW (L.take i) + s.2.2) = sumW (L.take (i + 1)) := by rw [← hst]; exact wrap_in (by omega) (by omega)
      simp only [go_sem, ↓reduceIte, r81_3, r81_4, r81_5, r81_6, tl, t5, t10, t11, t12, hlt', s2.ix hlt, s2.ldn hx, q3, x2, hw, wrap_succ (show i < 1000000000 by omega)]
      exact ⟨L.length - (i + 1), by omega, i + 1, rfl, hlt, rfl, rfl, e2.trans e3⟩
    · have hlt' : ¬ (i : Int) < (L.length : Int) := by omega
      simp only [go_sem, ↓reduceIte, r81_3, r81_7, tl, t5, t10, t11, t12, hlt']
      rw [List.take_of_length_le (by omega)]
      exact ⟨e0.trans (e1.trans e2), rfl⟩
  · refine ⟨0, by omega, by omega, ?_⟩
    simp only [go_sem, ↓reduceIte]
    exact ⟨rfl, .refl h1⟩
theorem t85 : tblA 85 = some a85 := by kernel_rfl
theorem Idx.mem {xs : List Int} {g r : Int} (i : Idx xs g r) : (0 ≤ r ↔ g ∈ xs) ∧ (g ∈ xs → r = posN g xs) := by
  rcases i with ⟨rfl, h⟩ | ⟨i, rfl, hx, hn⟩
  · exact ⟨⟨fun z => by omega, fun z => absurd z h⟩, fun z => absurd z h⟩
  · exact ⟨⟨fun _ => List.mem_of_getElem? hx, fun _ => by omega⟩, fun _ => by rw [posN_eq hx hn]⟩
theorem fn_offended {h : H} {a : Arw} {o : V} {xs : List Int} (hs : Ints h o xs) (hn : xs.length ≤ 1000000) :
    WC tblA (.fn 85 [] []) [.agg [.i .i64 a.f, .i .i64 a.t, .i .i64 a.r, .i .i64 a.w], o] h fun u h' => Ext h h' ∧ u = .b (decide (a.f ∈ xs ∧ a.t ∈ xs ∧ posN a.t xs < posN a.f xs)) := by
  refine (WC_in t85).2 ?_
  have e0 : Ext h (h.new (.cells (arw a))) := (Ext.refl h).new _
  have g0 : (h.new (.cells (arw a))).get h.next = some (.cells (arw a)) := by rw [H.get_new, if_pos rfl]
  simp only [go_sem, ↓reduceIte, r85_0]
  unfold arw at e0 g0
  generalize hh : h.new (.cells [.i .i64 a.f, .i .i64 a.t, .i .i64 a.r, .i .i64 a.w]) = h0 at *
  obtain ⟨x0, x1, _, _, _⟩ := arw_lds (a := a) g0
  simp only [go_sem, ↓reduceIte, r85_1, x0]
  refine (fn_place (hs.ext e0) hn).mono ?_
  rintro _ _ ⟨r, rfl, hr, rfl⟩
  simp only [go_sem, ↓reduceIte, r85_2, x1]
  refine (fn_place (hs.ext e0) hn).mono ?_
  rintro _ _ ⟨r', rfl, hr', rfl⟩
  obtain ⟨m1, p1⟩ := hr.mem
  obtain ⟨m2, p2⟩ := hr'.mem
  by_cases c1 : 0 ≤ r
  · by_cases c2 : 0 ≤ r'
    · have q1 := p1 (m1.1 c1)
      have q2 := p2 (m2.1 c2)
      have mm1 := m1.1 c1
      have mm2 := m2.1 c2
      by_cases c3 : r' < r
      · simp only [go_sem, ↓reduceIte, r85_3, c1, c2, c3]
        exact ⟨e0, by simp [mm1, mm2]; omega⟩
      · simp only [go_sem, ↓reduceIte, r85_3, c1, c2, c3]
        exact ⟨e0, by simp [mm1, mm2]; omega⟩
    · have mm2 : a.t ∉ xs := fun z => c2 (m2.2 z)
      simp only [go_sem, ↓reduceIte, r85_3, c1, c2]
      exact ⟨e0, by simp [mm2]⟩
  · have mm1 : a.f ∉ xs := fun z => c1 (m1.2 z)
    simp only [go_sem, ↓reduceIte, r85_3, c1]
    exact ⟨e0, by simp [mm1]⟩
theorem off_good {N : Int} {rs : List Arw} {xs : List Int} {i : Nat} {a : Arw} (gr : GoodR N rs) (go : GoodO N xs) (hx : rs[i]? = some a) : decide (a.f ∈ xs ∧ a.t ∈ xs ∧ posN a.t xs < posN a.f xs) = decide (posN a.t xs < posN a.f xs) := by
  have hok := gr.1 a (List.mem_of_getElem? hx)
  unfold OkA at hok
  rw [decide_eq_decide]
  simp only [goodO_mem go hok.1 hok.2.1, goodO_mem go hok.2.2.1 hok.2.2.2.1, true_and]
end Go.Air
set_option maxRecDepth 100000
namespace Go.Air
open Go.Air.Try
theorem t83 : tblA 83 = some a83 := by kernel_rfl
theorem fn_Inner {h : H} {N : Int} {v o : V} {rs : List Arw} {xs : List Int} (hr : Arrs h v rs) (hrn : rs.length ≤ 1000000) (hs : Ints h o xs) (hn : xs.length ≤ 1000000) (gr : GoodR N rs) (go : GoodO N xs) :
    WC tblA (.fn 83 [] []) [.agg [.i .i64 N, v], o] h fun u h' => Ext h h' ∧ u = .i .i64 (sumW (slS xs rs)) := by
  refine (WC_in t83).2 ?_
  obtain ⟨e0, g0⟩ := rel_blk h N v
  simp only [go_sem, ↓reduceIte, r83_0]
  have hb0 : h.next < (h.new (.cells [.i .i64 N, v])).next := by simp
  generalize hh : h.new (.cells [.i .i64 N, v]) = h0 at *
  simp only [go_sem, ↓reduceIte, r83_1, r83_2]
  refine W_while (fun k t h' => ∃ (i : Nat), k = rs.length - i ∧ i ≤ rs.length ∧ t.length = 32 ∧ nth t 1 = o ∧ nth t 2 = .p h.next 0 ∧ nth t 5 = .i .i64 (sumW (slS xs (rs.take i))) ∧ nth t 6 = .i .i64 (i : Int) ∧ Ext h0 h') ?_ rs.length ?_
  · rintro k t h2 ⟨i, rfl, hi, tl, t1, t2, t5, t6, e2⟩
    unfold b83_0
    have l2 : ldV h2 (.p h.next 1) = some v := blk_ld (e2.get hb0 g0) rfl
    have s2 := (hr.ext e0).ext e2
    by_cases hlt : i < rs.length
    · have hlt' : (i : Int) < (rs.length : Int) := by omega
      obtain ⟨a, hx⟩ : ∃ a, rs[i]? = some a := ⟨_, List.getElem?_eq_getElem hlt⟩
      simp only [go_sem, ↓reduceIte, r83_3, r83_5, tl, t1, t2, t5, t6, l2, s2.len, hlt', s2.ix hlt, s2.ldn hx]
      refine (fn_offended ((hs.ext e0).ext e2) hn).mono ?_
      rintro _ h3 ⟨e3, rfl⟩
      rw [off_good gr go hx]
      have hst := slS_step (xs := xs) hx
      have l3 : ldV h3 (.p h.next 1) = some v := blk_ld ((e2.trans e3).get hb0 g0) rfl
      have s3 := s2.ext e3
      have lw := s3.ld (j := 3) hx (by omega)
      rw [show (arw a)[3]? = some (.i .i64 a.w) from rfl] at lw
      by_cases hb : posN a.t xs < posN a.f xs
      · rw [if_pos hb] at hst
        have hs1 : sumW (slS xs (rs.take (i + 1))) = sumW (slS xs (rs.take i)) + a.w := by rw [hst, sumW_append, sumW_one]
        have b1 := sumW_range (L := slS xs (rs.take (i + 1))) fun x hm => slS_range (xs := xs) gr x (by
          obtain ⟨y, hy, hm⟩ := List.mem_flatMap.1 hm
          exact List.mem_flatMap.2 ⟨y, List.mem_of_mem_take hy, hm⟩)
        have b2 := slS_le xs (rs.take (i + 1))
        have b3 : (rs.take (i + 1)).length ≤ i + 1 := by simp; omega
        have hw : IntKind.i64.wrap (sumW (slS xs (rs.take i)) + a.w) = sumW (slS xs (rs.take (i + 1))) := by rw [← hs1]; exact wrap_in (by omega) (by omega)
        simp only [go_sem, ↓reduceIte, r83_4, r83_6, r83_7, tl, t1, t2, t5, t6, hb, l3, s3.ix hlt, lw, hw, wrap_succ (show i < 1000000000 by omega)]
        exact ⟨rs.length - (i + 1), by omega, i + 1, rfl, hlt, rfl, rfl, e2.trans e3⟩
      · rw [if_neg hb, List.append_nil] at hst
        simp only [go_sem, ↓reduceIte, r83_4, r83_6, tl, t1, t2, t5, t6, hb, wrap_succ (show i < 1000000000 by omega)]
        exact ⟨rs.length - (i + 1), by omega, i + 1, rfl, hlt, by rw [hst], rfl, e2.trans e3⟩
    · have hlt' : ¬ (i : Int) < (rs.length : Int) := by omega
      simp only [go_sem, ↓reduceIte, r83_3, r83_8, tl, t1, t2, t5, t6, l2, s2.len, hlt']
      rw [List.take_of_length_le (by omega)]
      exact ⟨e0.trans e2, rfl⟩
  · refine ⟨0, by omega, by omega, ?_⟩
    simp only [go_sem, ↓reduceIte]
    exact ⟨rfl, .refl h0⟩
end Go.Air
set_option maxRecDepth 100000
namespace Go.Air
open Go.Air.Try
def wt (a b : Int) : List Arw → Int
  | [] => 0
  | r :: l => if r.f = a ∧ r.t = b then r.w else wt a b l
theorem wt_none {a b : Int} : ∀ {l : List Arw}, (∀ r ∈ l, ¬ (r.f = a ∧ r.t = b)) → wt a b l = 0
  | [], _ => rfl
  | r :: l, h => by rw [wt, if_neg (h r (by simp)), wt_none fun x hx => h x (by simp [hx])]
theorem wt_append {a b : Int} : ∀ {l m : List Arw}, (∀ r ∈ l, ¬ (r.f = a ∧ r.t = b)) → wt a b (l ++ m) = wt a b m
  | [], m, _ => rfl
  | r :: l, m, h => by rw [List.cons_append, wt, if_neg (h r (by simp)), wt_append fun x hx => h x (by simp [hx])]
theorem wt_keep {a b : Int} {r : Arw} (hr : ¬ (r.f = a ∧ r.t = b)) : ∀ {l : List Arw}, wt a b (l ++ [r]) = wt a b l
  | [] => by simp [wt, hr]
  | x :: l => by rw [List.cons_append, wt, wt, wt_keep hr]
def gridL (rs : List Arw) : List Int := (List.range 576).map fun (c : Nat) => wt ((c / 24 : Nat) : Int) ((c % 24 : Nat) : Int) rs
theorem gridL_len (rs : List Arw) : (gridL rs).length = 576 := by simp [gridL]
theorem gridL_get {rs : List Arw} {a b : Nat} (ha : a < 24) (hb : b < 24) : (gridL rs)[a * 24 + b]? = some (wt (a : Int) (b : Int) rs) := by
  have hc : a * 24 + b < 576 := by omega
  have h1 : (a * 24 + b) / 24 = a := by omega
  have h2 : (a * 24 + b) % 24 = b := by omega
  simp only [gridL, List.getElem?_map, List.getElem?_range hc, Option.map_some, h1, h2]
theorem gridL_nil : gridL [] = List.replicate 576 0 := by
  apply List.ext_getElem?
  intro i
  by_cases hi : i < 576
  · simp only [gridL, List.getElem?_map, List.getElem?_range hi, Option.map_some, wt, List.getElem?_replicate, if_pos hi]
  · rw [List.getElem?_eq_none (by rw [gridL_len]; omega), List.getElem?_eq_none (by rw [List.length_replicate]; omega)]
theorem gridL_set {rs : List Arw} {r : Arw} {a b : Nat} (ha : a < 24) (hb : b < 24) (ea : r.f = (a : Int)) (eb : r.t = (b : Int)) (hn : ∀ x ∈ rs, ¬ (x.f = r.f ∧ x.t = r.t)) : (gridL rs).set (a * 24 + b) r.w = gridL (rs ++ [r]) := by
  apply List.ext_getElem?
  intro i
  rw [List.getElem?_set]
  by_cases hi : i < 576
  · have hri : i = i / 24 * 24 + i % 24 := by omega
    by_cases h : a * 24 + b = i
    · subst h
      rw [if_pos rfl, if_pos (by rw [gridL_len]; omega), gridL_get ha hb, ← ea, ← eb, wt_append hn]
      simp [wt]
    · rw [if_neg h]
      simp only [gridL, List.getElem?_map, List.getElem?_range hi, Option.map_some]
      rw [wt_keep]
      rintro ⟨h1, h2⟩
      rw [ea] at h1
      rw [eb] at h2
      omega
  · rw [List.getElem?_eq_none (l := gridL (rs ++ [r])) (by rw [gridL_len]; omega), List.getElem?_eq_none (l := gridL rs) (by rw [gridL_len]; omega)]
    have : a * 24 + b ≠ i := by omega
    simp [this]
theorem st_all {h : H} {b k : Nat} {z c : List V} (hg : h.get b = some (.cells z)) (hl : z.length = c.length) (hk : c.length = k) (hone : ∀ u ∈ c, u.oneCell = true) : stV h k (.p b 0) (.agg c) = some (h.put b (.cells c)) := by
  subst hk
  have hall : c.all V.oneCell = true := List.all_eq_true.2 hone
  simp [stV, V.cells, storeAt, hg, lay_all z c hl]
  exact fun u hu => hone u hu
theorem grid_nil : List.replicate 576 (V.i .i64 0) = ints (gridL []) := by rw [gridL_nil, ints_rep]
theorem res_cellk {h : H} {t : List V} {n k b : Nat} {c : List V} {l : List ResV} (ht : nth t n = .p b 0) (g : h.get b = some (.cells c)) (hk : c.length = k) : resultsOf t h (.cell n (some k) :: l) = (resultsOf t h l).map (V.agg c :: ·) := by
  subst hk
  have : cut c 0 c.length = some c := cut_eq.2 ⟨by simp, by simp⟩
  simp [resultsOf, resultOf, ht, g, this]
theorem t97 : tblA 97 = some a97 := by kernel_rfl
theorem fn_weigh {h : H} {N : Int} {v : V} {rs : List Arw} (hr : Arrs h v rs) (hrn : rs.length ≤ 1000000) (gr : GoodR N rs) (hN : N ≤ 24) :
    WC tblA (.fn 97 [] []) [.agg [.i .i64 N, v]] h fun u h' => Ext h h' ∧ u = .agg (ints (gridL rs)) := by
  refine (WC_in t97).2 ?_
  obtain ⟨e0, g0⟩ := rel_blk h N v
  simp only [go_sem, ↓reduceIte, r97_0]
  have hb0 : h.next < (h.new (.cells [.i .i64 N, v])).next := by simp
  generalize hh : h.new (.cells [.i .i64 N, v]) = h0 at *
  have e1 : Ext h0 (h0.new (.cells (List.replicate 576 (.i .i64 0)))) := (Ext.refl h0).new _
  have g1 : (h0.new (.cells (List.replicate 576 (.i .i64 0)))).get h0.next = some (.cells (List.replicate 576 (.i .i64 0))) := by rw [H.get_new, if_pos rfl]
  have hb1 : h0.next < (h0.new (.cells (List.replicate 576 (.i .i64 0)))).next := by simp
  generalize hh1 : h0.new (.cells (List.replicate 576 (.i .i64 0))) = h1 at *
  simp only [go_sem, ↓reduceIte, r97_1]
  have e2 : Ext h1 (h1.new (.cells (List.replicate 576 (.i .i64 0)))) := (Ext.refl h1).new _
  have g2 : (h1.new (.cells (List.replicate 576 (.i .i64 0)))).get h1.next = some (.cells (ints (gridL []))) := by rw [H.get_new, if_pos rfl, grid_nil]
  have hb2 : h1.next < (h1.new (.cells (List.replicate 576 (.i .i64 0)))).next := by simp
  generalize hh2 : h1.new (.cells (List.replicate 576 (.i .i64 0))) = h2 at *
  have l2 : ldV h2 (.p h.next 1) = some v := blk_ld ((e1.trans e2).get hb0 g0) rfl
  have hr1 := hr.ext (e0.trans e1)
  simp only [go_sem, ↓reduceIte, r97_2, l2, hr1.len]
  refine W_while (fun k t h' => ∃ i, k = rs.length - i ∧ i ≤ rs.length ∧ t.length = 23 ∧ nth t 2 = .p h0.next 0 ∧ nth t 3 = .p h1.next 0 ∧ nth t 7 = v ∧ nth t 8 = .i .i64 (rs.length : Int) ∧ nth t 9 = .i .i64 (i : Int) ∧ Ext h1 h' ∧ h1.next < h'.next ∧ h'.get h1.next = some (.cells (ints (gridL (rs.take i))))) ?_ rs.length ?_
  · rintro k t h3 ⟨i, rfl, hi, tl, t2, t3, t7, t8, t9, e3, n3, g3⟩
    unfold b97_0
    by_cases hlt : i < rs.length
    · have hlt' : (i : Int) < (rs.length : Int) := by omega
      obtain ⟨r, hx⟩ : ∃ r, rs[i]? = some r := ⟨_, List.getElem?_eq_getElem hlt⟩
      have hok := gr.1 r (List.mem_of_getElem? hx)
      unfold OkA at hok
      have s3 := hr1.ext e3
      obtain ⟨h4, q4, e4, g4, n4⟩ := st_arw h3 (.i .i64 0) (.i .i64 0) (.i .i64 0) (.i .i64 0) r
      obtain ⟨x0, x1, _, x3, _⟩ := arw_lds g4
      obtain ⟨a, ha⟩ := Int.eq_ofNat_of_zero_le hok.1
      obtain ⟨b, hb⟩ := Int.eq_ofNat_of_zero_le hok.2.2.1
      have ha' : r.f = (a : Int) := ha
      have hb' : r.t = (b : Int) := hb
      have ha24 : a < 24 := by omega
      have hb24 : b < 24 := by omega
      rw [ha'] at x0
      rw [hb'] at x1
      have g3' := e4.get n3 g3
      have hn4 := e4.nx
      have n3' : h1.next < h4.next := Nat.lt_of_lt_of_le n3 e4.nx
      have st1 := st_k (h := h4.bare) (k := 0 + a * 24 + b * 1) (kd := .i64) (x := r.w) g3' (by rw [ints_len, gridL_len]; omega)
      have bk := back_put n3' (.cells ((ints (gridL (rs.take i))).set (0 + a * 24 + b * 1) (.i .i64 r.w)))
      have hno : ∀ x ∈ rs.take i, ¬ (x.f = r.f ∧ x.t = r.t) := by
        intro x hm
        have hg : GoodR N (rs.take (i + 1)) := ⟨fun y hy => gr.1 y (List.mem_of_mem_take hy), gr.2.sublist (List.take_sublist _ _)⟩
        rw [take_succ' hx] at hg
        have := (List.pairwise_append.1 hg.2).2.2 x hm r (by simp)
        unfold ltA at this
        omega
      simp only [go_sem, ↓reduceIte, r97_3, r97_4, r97_5, r97_6, tl, t2, t3, t7, t8, t9, hlt', s3.ix hlt, s3.ldn hx, q4, x0, x1, x3, ixA_ok ha24, ixA_ok hb24, st1, bk, wrap_succ (show i < 1000000000 by omega)]
      refine ⟨rs.length - (i + 1), by omega, i + 1, rfl, hlt, rfl, (e3.trans e4).put (Nat.le_refl _) _, n3', ?_⟩
      rw [H.get_put, if_pos rfl, ints_set, show 0 + a * 24 + b * 1 = a * 24 + b by omega, gridL_set ha24 hb24 ha' hb' hno, take_succ' hx]
    · have hlt' : ¬ (i : Int) < (rs.length : Int) := by omega
      rw [List.take_of_length_le (by omega)] at g3
      have l3 : ldnV h3 576 (.p h1.next 0) = some (.agg (ints (gridL rs))) := blk_ldn g3 (by rw [ints_len, gridL_len])
      have g1' := e3.get hb1 g1
      have st1 := st_all (k := 576) (c := ints (gridL rs)) g1' (by rw [List.length_replicate, ints_len, gridL_len]) (by rw [ints_len, gridL_len]) ints_one
      have g5 : (h3.put h0.next (.cells (ints (gridL rs)))).get h0.next = some (.cells (ints (gridL rs))) := by rw [H.get_put, if_pos rfl]
      simp only [go_sem, ↓reduceIte, r97_3, r97_7, tl, t2, t3, t7, t8, t9, hlt', l3, st1]
      rw [res_cellk (b := h0.next) (by simp only [go_sem, ↓reduceIte, t2]) g5 (by rw [ints_len, gridL_len])]
      simp only [go_sem, ↓reduceIte]
      exact (e0.trans (e1.trans e3)).put e0.nx _
  · refine ⟨0, by omega, by omega, ?_⟩
    simp only [go_sem, ↓reduceIte]
    exact ⟨e2, hb2, g2⟩
end Go.Air
set_option maxRecDepth 100000
namespace Go.Air
open Go.Air.Try
def off (rs : List Arw) (xs : List Int) : Int := sumW (slS xs rs)
def NoB (rs : List Arw) (xs : List Int) (i : Nat) : Prop := ∀ (j : Nat) (x y : Int), j < i → xs[j]? = some x → xs[j + 1]? = some y → wt y x rs ≤ wt x y rs
def swp (xs : List Int) (i : Nat) (a b : Int) : List Int := (xs.set i b).set (i + 1) a
inductive Srt (rs : List Arw) : List Int → List Int → Prop
  | done {xs : List Int} (h : NoB rs xs xs.length) : Srt rs xs xs
  | step {xs ys : List Int} {i : Nat} {a b : Int} (h : NoB rs xs i) (ha : xs[i]? = some a) (hb : xs[i + 1]? = some b) (hlt : wt a b rs < wt b a rs) (s : Srt rs (swp xs i a b) ys) : Srt rs xs ys
def offT (rs : List Arw) (g : Arw → Int) : Int := (rs.map g).sum
def one (a b : Int) (r : Arw) : Int := if r.f = a ∧ r.t = b then r.w else 0
theorem offT_one (a b : Int) : ∀ rs : List Arw, rs.Pairwise ltA → offT rs (one a b) = wt a b rs
  | [], _ => rfl
  | r :: rs, hp => by
    obtain ⟨h1, h2⟩ := List.pairwise_cons.1 hp
    have ih := offT_one a b rs h2
    simp only [offT, List.map_cons, List.sum_cons] at *
    rw [ih, one, wt]
    split
    · rename_i h
      rw [wt_none]
      · omega
      · rintro x hx ⟨e1, e2⟩
        have := h1 x hx
        unfold ltA at this
        omega
    · omega
theorem offT_congr {f g : Arw → Int} : ∀ {rs : List Arw}, (∀ r ∈ rs, f r = g r) → offT rs f = offT rs g
  | [], _ => rfl
  | r :: rs, h => by
    have ih := offT_congr (rs := rs) fun x hx => h x (by simp [hx])
    simp only [offT, List.map_cons, List.sum_cons] at *
    rw [ih, h r (by simp)]
end Go.Air
set_option maxRecDepth 100000
namespace Go.Air
open Go.Air.Try
end Go.Air
set_option maxRecDepth 100000
namespace Go.Air
open Go.Air.Try
end Go.Air
set_option maxRecDepth 100000
namespace Go.Air
open Go.Air.Try
theorem get_new_lt {h : H} {b : Nat} {x : Blk} (hb : b < h.next) : (h.new x).get b = h.get b := by rw [H.get_new, if_neg (by omega)]
theorem get_new_eq {h : H} {b : Nat} {x : Blk} (hb : b = h.next) : (h.new x).get b = some x := by rw [H.get_new, if_pos hb]
theorem updAll_two (t : List V) (p q : Nat) (a b : V) : updAll t [p, q] [a, b] = upd (upd t p a) q b := rfl
theorem yld_roundL {tbl : Nat → Option FI} {l : Nat} {t : List V} {ps : List Nat} {asg body : C} {args : List V} {h : H} {S : V → H → Prop} {L Lb : Loop} (hg : h.get l = some (.loop L)) (hL : L = ⟨.ready, none, t, ps, asg, body⟩) (hLb : Lb = ⟨.busy, none, t, ps, asg, body⟩) (ha : args.length = ps.length)
    (hb : W tbl asg (updAll t ps args) h fun o t1 h1 => o = .norm ∧ h1 = h ∧ W tbl body t1 (h.put l (.loop Lb)) fun o _ h2 => o = .norm ∧ h2.get l = some (.loop Lb) ∧ S (.b true) (h2.put l (.loop L))) : WC tbl (.yld l) args h S := by
  subst hL hLb
  exact yld_round hg ha hb
theorem W_rangeL {tbl : Nat → Option FI} {f : X} {ps : List Nat} {asg body : C} {g : Nat} {a c t : List V} {h : H} {Q : Out → List V → H → Prop} (hf : f.ev t = .fn g a c)
    (hw : ∀ L Lo : Loop, L = ⟨.ready, none, t, ps, asg, body⟩ → WC tbl (.fn g a c) [.yld h.next] (h.new (.loop L)) fun _ h' => h'.get h.next = some (.loop L) ∧ Q .norm t (h'.put h.next (.loop Lo))) :
    W tbl (.rangeF f ps asg body) t h Q := W_rangeN hf (hw _ _ rfl)
theorem t122 : tblA 122 = some a122 := by kernel_rfl
@[go_sem ↓] theorem fn_members {h : H} {s m : Int} {S : V → H → Prop} : WC tblA (.fn 122 [] []) [.i .i64 s, .i .i64 m] h S ↔ S (.fn 133 [] [.p (h.next + 1) 0, .p h.next 0]) ((h.new (.cells [.i .i64 s])).new (.cells [.i .i64 m])) := by
  rw [WC_in t122]
  simp only [go_sem, ↓reduceIte, r122_0, r122_1, H.next_new]
  rw [show (V.i .i64 s).cells = [.i .i64 s] from rfl, show (V.i .i64 m).cells = [.i .i64 m] from rfl]
theorem t133 : tblA 133 = some a133 := by kernel_rfl
theorem fn_members1 {h : H} {b1 b2 l m s : Nat} (hm : m ≤ 24) (hs : s < 1000000000) (J : Nat → H → Prop) (K : H → Prop)
    (hJ : ∀ i h', J i h' → h'.get b1 = some (.cells [.i .i64 (m : Int)]) ∧ h'.get b2 = some (.cells [.i .i64 (s : Int)]))
    (hstep : ∀ i h', J i h' → i < m → s.testBit i = true → WC tblA (.yld l) [.i .i64 (i : Int), .i .i64 ((2 ^ i : Nat) : Int)] h' (fun r h'' => (r = .b true ∧ J (i + 1) h'') ∨ (r = .b false ∧ K h'')))
    (hskip : ∀ i h', J i h' → i < m → s.testBit i = false → J (i + 1) h') (h0 : J 0 h) : WC tblA (.fn 133 [] [.p b1 0, .p b2 0]) [.yld l] h fun _ h' => J m h' ∨ K h' := by
  refine (WC_cl t133).2 ?_
  refine W_gen (fun t => t.length = 24 ∧ nth t 0 = .yld l ∧ nth t 1 = .p b1 0 ∧ nth t 2 = .p b2 0) ⟨rfl, rfl, rfl, rfl⟩ ?_
  rintro t ⟨tl, t0, t1, t2⟩
  have lm := blk_ld (i := 0) (hJ 0 h h0).1 rfl
  simp only [go_sem, ↓reduceIte, r133_0, tl, t1, lm]
  refine W_while (fun k t h' => ∃ i, k = m - i ∧ i ≤ m ∧ t.length = 24 ∧ nth t 0 = .yld l ∧ nth t 2 = .p b2 0 ∧ nth t 6 = .i .i64 (m : Int) ∧ nth t 7 = .i .i64 (i : Int) ∧ J i h') ?_ m ?_
  · rintro k t h' ⟨i, rfl, hi, tl, t0, t2, t6, t7, hj⟩
    unfold b133_0
    by_cases hlt : i < m
    · have hltI : (i : Int) < (m : Int) := by omega
      have ls := blk_ld (i := 0) (hJ i h' hj).2 rfl
      have hp := pow_lt (show i < 62 by omega)
      have ha := bin_and (a := s) (b := 2 ^ i) (by omega) hp
      cases hb : s.testBit i
      · have hz : (((s &&& 2 ^ i : Nat) : Int) = 0) := by
          have := and_bit s i
          rw [hb] at this
          have : s &&& 2 ^ i = 0 := by
            rcases Nat.eq_zero_or_pos (s &&& 2 ^ i) with q | q
            · exact q
            · exact absurd (this.1 (by omega)) (by simp)
          omega
        simp only [go_sem, ↓reduceIte, r133_1, r133_2, r133_3, r133_4, r133_5, tl, t0, t2, t6, t7, hltI, bin_shl1 (kd := .i64) (show i < 62 by omega), ls, ha, hz, wrap_succ (show i < 1000000000 by omega)]
        exact ⟨m - (i + 1), by omega, i + 1, rfl, hlt, rfl, hskip i h' hj hlt hb⟩
      · have hz : ¬ (((s &&& 2 ^ i : Nat) : Int) = 0) := by
          have := (and_bit s i).2 hb
          omega
        simp only [go_sem, ↓reduceIte, r133_1, r133_2, r133_3, r133_4, tl, t0, t2, t6, t7, hltI, bin_shl1 (kd := .i64) (show i < 62 by omega), ls, ha, hz]
        refine (hstep i h' hj hlt hb).mono ?_
        rintro r h2 (⟨rfl, hj2⟩ | ⟨rfl, hk⟩)
        · simp only [go_sem, ↓reduceIte, r133_5, tl, t0, t2, t6, t7, wrap_succ (show i < 1000000000 by omega)]
          exact ⟨m - (i + 1), by omega, i + 1, rfl, hlt, rfl, hj2⟩
        · simp only [go_sem, ↓reduceIte, tl]
          exact .inr hk
    · have hltI : ¬ (i : Int) < (m : Int) := by omega
      obtain rfl : i = m := by omega
      simp only [go_sem, ↓reduceIte, r133_1, tl, t0, t2, t6, t7, hltI]
      exact .inl hj
  · refine ⟨0, by omega, by omega, ?_⟩
    simp only [go_sem, ↓reduceIte, tl, t0, t2]
    exact h0
def bhK (rs : List Arw) (c : List Int) (i s : Nat) : Nat → Int
  | 0 => 0
  | k + 1 => bhK rs c i s k + if s.testBit k = true then wt (c.getD i 0) (c.getD k 0) rs else 0
def Wok (rs : List Arw) : Prop := ∀ a b : Int, 0 ≤ wt a b rs ∧ wt a b rs ≤ 1000
theorem wok_of {N : Int} : ∀ {rs : List Arw}, (∀ r ∈ rs, OkA N r) → Wok rs
  | [], _ => fun a b => by simp [wt]
  | r :: l, h => fun a b => by
    have ih := wok_of (N := N) (rs := l) (fun x hx => h x (by simp [hx])) a b
    have := h r (by simp)
    unfold OkA at this
    simp only [wt]
    split
    · omega
    · exact ih
theorem bhK_bound {rs : List Arw} (hw : Wok rs) (c : List Int) (i s : Nat) : ∀ k, 0 ≤ bhK rs c i s k ∧ bhK rs c i s k ≤ 1000 * k
  | 0 => by simp [bhK]
  | k + 1 => by
    have ih := bhK_bound hw c i s k
    have := hw (c.getD i 0) (c.getD k 0)
    simp only [bhK]
    split <;> omega
def Grid (h : H) (gb : Nat) (rs : List Arw) : Prop := gb < h.next ∧ ∃ cs, h.get gb = some (.cells cs) ∧ ∀ a b : Nat, a < 24 → b < 24 → cs[0 + a * 24 + b * 1]? = some (.i .i64 (wt (a : Int) (b : Int) rs))
theorem Grid.ext {h h' : H} {gb : Nat} {rs : List Arw} (g : Grid h gb rs) (e : Ext h h') : Grid h' gb rs := by
  obtain ⟨hb, cs, q, r⟩ := g
  exact ⟨Nat.lt_of_lt_of_le hb e.nx, cs, e.get hb q, r⟩
theorem Grid.extX {X : Nat → Prop} {h h' : H} {gb : Nat} {rs : List Arw} (g : Grid h gb rs) (e : ExtX X h h') (hX : ¬ X gb) : Grid h' gb rs := by
  obtain ⟨hb, cs, q, r⟩ := g
  exact ⟨Nat.lt_of_lt_of_le hb e.nx, cs, e.get hb hX q, r⟩
theorem Grid.ld {h : H} {gb a b : Nat} {rs : List Arw} (g : Grid h gb rs) (ha : a < 24) (hb : b < 24) : ldV h (.p gb (0 + a * 24 + b * 1)) = some (.i .i64 (wt (a : Int) (b : Int) rs)) := by
  obtain ⟨_, cs, q, r⟩ := g
  exact blk_ld q (r a b ha hb)
def Gst (c : List Int) : Prop := ∀ y ∈ c, ∃ j : Nat, y = (j : Int) ∧ j < 24
theorem Gst.at {c : List Int} (h : Gst c) {i : Nat} (hi : i < c.length) : ∃ j : Nat, c[i]? = some (j : Int) ∧ j < 24 ∧ c.getD i 0 = (j : Int) := by
  obtain ⟨j, e, hj⟩ := h c[i] (List.getElem_mem hi)
  exact ⟨j, by rw [List.getElem?_eq_getElem hi, e], hj, by rw [List.getD_eq_getElem?_getD, List.getElem?_eq_getElem hi, e]; rfl⟩
theorem t123 : tblA 123 = some a123 := by kernel_rfl
theorem fn_behind {h : H} {gb i s m : Nat} {v : V} {rs : List Arw} {c : List Int} (hg : Grid h gb rs) (hc : Ints h v c) (hl : c.length = m) (hm : m ≤ 24) (hin : Gst c) (hi : i < m) (hs : s < 1000000000) (hw : Wok rs) :
    WC tblA (.fn 123 [] []) [.p gb 0, v, .i .i64 (i : Int), .i .i64 (s : Int)] h fun u h' => Ext h h' ∧ u = .i .i64 (bhK rs c i s m) := by
  refine (WC_in t123).2 ?_
  simp only [go_sem, ↓reduceIte, r123_0, H.next_new]
  rw [show (V.i .i64 (i : Int)).cells = [.i .i64 (i : Int)] from rfl, hc.one.1]
  have e1 : Ext h (((h.new (.cells [.p gb 0])).new (.cells [v])).new (.cells [.i .i64 (i : Int)])) := (((Ext.refl h).new _).new _).new _
  have g4 : (((h.new (.cells [.p gb 0])).new (.cells [v])).new (.cells [.i .i64 (i : Int)])).get h.next = some (.cells [.p gb 0]) := by rw [get_new_lt (by simp; omega), get_new_lt (by simp), get_new_eq rfl]
  have g5 : (((h.new (.cells [.p gb 0])).new (.cells [v])).new (.cells [.i .i64 (i : Int)])).get (h.next + 1) = some (.cells [v]) := by rw [get_new_lt (by simp), get_new_eq (by simp)]
  have g6 : (((h.new (.cells [.p gb 0])).new (.cells [v])).new (.cells [.i .i64 (i : Int)])).get (h.next + 1 + 1) = some (.cells [.i .i64 (i : Int)]) := by rw [get_new_eq (by simp)]
  have n1 : (((h.new (.cells [.p gb 0])).new (.cells [v])).new (.cells [.i .i64 (i : Int)])).next = h.next + 1 + 1 + 1 := by simp
  generalize (((h.new (.cells [.p gb 0])).new (.cells [v])).new (.cells [.i .i64 (i : Int)])) = h1 at *
  obtain ⟨h2, s2, e2, g9, n2⟩ := st_newK h1 [.i .i64 0] [.i .i64 0] rfl (by intro u hu; simp at hu; subst hu; rfl)
  have s2' : stV (h1.new (.cells [.i .i64 0])) 1 (.p h1.next 0) (.i .i64 0) = some h2 := s2
  simp only [go_sem, ↓reduceIte, r123_1, s2']
  have g4' := e2.get (by omega) g4
  have g5' := e2.get (by omega) g5
  have g6' := e2.get (by omega) g6
  have l5 : ldV h2 (.p (h.next + 1) 0) = some v := blk_ld g5' rfl
  have hc2 := hc.ext (e1.trans e2)
  simp only [go_sem, ↓reduceIte, r123_2, l5, hc2.len, hl]
  have e3 : Ext h2 ((h2.new (.cells [.i .i64 (s : Int)])).new (.cells [.i .i64 (m : Int)])) := ((Ext.refl h2).new _).new _
  have gs : ((h2.new (.cells [.i .i64 (s : Int)])).new (.cells [.i .i64 (m : Int)])).get h2.next = some (.cells [.i .i64 (s : Int)]) := by rw [get_new_lt (by simp), get_new_eq rfl]
  have gm : ((h2.new (.cells [.i .i64 (s : Int)])).new (.cells [.i .i64 (m : Int)])).get (h2.next + 1) = some (.cells [.i .i64 (m : Int)]) := by rw [get_new_eq (by simp)]
  have n3 : ((h2.new (.cells [.i .i64 (s : Int)])).new (.cells [.i .i64 (m : Int)])).next = h2.next + 1 + 1 := by simp
  generalize ((h2.new (.cells [.i .i64 (s : Int)])).new (.cells [.i .i64 (m : Int)])) = h3 at *
  refine W_gen (fun t => t.length = 33 ∧ nth t 4 = .p h.next 0 ∧ nth t 5 = .p (h.next + 1) 0 ∧ nth t 6 = .p (h.next + 1 + 1) 0 ∧ nth t 9 = .p h1.next 0 ∧ nth t 14 = .fn 133 [] [.p (h2.next + 1) 0, .p h2.next 0]) ⟨by simp only [go_sem], by simp only [go_sem, ↓reduceIte], by simp only [go_sem, ↓reduceIte], by simp only [go_sem, ↓reduceIte], by simp only [go_sem, ↓reduceIte], by simp only [go_sem, ↓reduceIte]⟩ ?_
  rintro t ⟨tl, t4, t5, t6, t9, t14⟩
  refine W_rangeL (show (X.t 14).ev t = _ from t14) ?_
  intro L Lo hLdef
  obtain ⟨Lb, hLb⟩ : ∃ Lb : Loop, Lb = ⟨.busy, none, t, [15, 16], .ops r123_3, b123_0⟩ := ⟨_, rfl⟩
  have eL : Ext h3 (h3.new (.loop L)) := (Ext.refl h3).new _
  have gL : (h3.new (.loop L)).get h3.next = some (.loop L) := get_new_eq rfl
  have nL : (h3.new (.loop L)).next = h3.next + 1 := by simp
  generalize h3.new (.loop L) = hL at *
  have eAll : Ext h hL := e1.trans (e2.trans (e3.trans eL))
  have n2e := e2.nx
  have g4L := eL.get (by omega) (e3.get (by omega) g4')
  have g5L := eL.get (by omega) (e3.get (by omega) g5')
  have g6L := eL.get (by omega) (e3.get (by omega) g6')
  have g9L := eL.get (by omega) (e3.get (by omega) g9)
  have gsL := eL.get (by omega) gs
  have gmL := eL.get (by omega) gm
  have hgL := hg.ext eAll
  have hcL := hc.ext eAll
  have hgb := hg.1
  refine (fn_members1 hm hs (fun k h' => ExtX (fun b => b = h1.next ∨ b = h3.next) hL h' ∧ h'.get h1.next = some (.cells [.i .i64 (bhK rs c i s k)]) ∧ h'.get h3.next = some (.loop L)) (fun _ => False) ?_ ?_ ?_ ⟨.refl _ _, g9L, gL⟩).mono ?_
  · rintro k h' ⟨x, _, _⟩
    exact ⟨x.get (by omega) (by omega) gmL, x.get (by omega) (by omega) gsL⟩
  · rintro k h' ⟨x, g9, gl⟩ hk hb
    refine yld_roundL gl hLdef hLb rfl ?_
    rw [updAll_two]
    obtain ⟨a, ha, ha24, haD⟩ := hin.at (i := i) (by omega)
    obtain ⟨b, hb', hb24, hbD⟩ := hin.at (i := k) (by omega)
    have hcv : v = .sn ∨ (∃ a, v = .se a) ∨ ¬ (blkV v = h1.next ∨ blkV v = h3.next) := by
      rcases hc with ⟨_, _, q | q⟩ | ⟨b, off, cap, g, bl, rfl, hb, _⟩
      · exact .inl q
      · exact .inr (.inl q)
      · exact .inr (.inr (show ¬ (b = h1.next ∨ b = h3.next) by omega))
    have hc' : Ints h' v c := Sl.keepX hcL x hcv
    have hg' := hgL.extX x (by omega)
    simp only [go_sem, ↓reduceIte, r123_3, tl]
    have x1 : ExtX (fun b => b = h1.next ∨ b = h3.next) hL (h'.put h3.next (.loop Lb)) := x.put (.inr (.inr rfl)) _
    have gq : (h'.put h3.next (.loop Lb)).get h3.next = some (.loop Lb) := by rw [H.get_put, if_pos rfl]
    have g9' : (h'.put h3.next (.loop Lb)).get h1.next = some (.cells [.i .i64 (bhK rs c i s k)]) := by rw [H.get_put, if_neg (by omega)]; exact g9
    have hc1 : Ints (h'.put h3.next (.loop Lb)) v c := Sl.keepX hcL x1 hcv
    have hg1 := hgL.extX x1 (by omega)
    generalize h'.put h3.next (.loop Lb) = hX at *
    have q4 : ldV hX (.p h.next 0) = some (.p gb 0) := blk_ld (x1.get (by omega) (by omega) g4L) rfl
    have q5 : ldV hX (.p (h.next + 1) 0) = some v := blk_ld (x1.get (by omega) (by omega) g5L) rfl
    have q6 : ldV hX (.p (h.next + 1 + 1) 0) = some (.i .i64 (i : Int)) := blk_ld (x1.get (by omega) (by omega) g6L) rfl
    have q9 : ldV hX (.p h1.next 0) = some (.i .i64 (bhK rs c i s k)) := blk_ld g9' rfl
    have hbd := bhK_bound hw c i s k
    have hwb := hw (a : Int) (b : Int)
    have hsum : IntKind.i64.wrap (bhK rs c i s k + wt (a : Int) (b : Int) rs) = bhK rs c i s (k + 1) := by
      rw [wrap_in (by omega) (by omega)]
      simp only [bhK, hb, if_true, haD, hbD]
    have hst := st_k (h := hX.bare) (k := 0) (x := bhK rs c i s (k + 1)) (kd := .i64) g9' (by simp)
    have hnx := x1.nx
    have hbk := back_put (h := hX) (b := h1.next) (by omega)
    simp only [go_sem, ↓reduceIte, b123_0, r123_4, tl, t4, t5, t6, t9, q4, q5, q6, q9, hc1.ix (show i < c.length by omega), hc1.ix (show k < c.length by omega), hc1.ld ha, hc1.ld hb', ix24r ha24, ixA_ok (esz := 1) hb24, hg1.ld ha24 hb24, hsum, hst, hbk]
    refine ⟨?_, .inl ⟨(x1.put (.inr (.inl rfl)) _).put (.inr (.inr rfl)) _, ?_, ?_⟩⟩
    · rw [H.get_put, if_neg (by omega)]; exact gq
    · rw [H.get_put, if_neg (by omega), H.get_put, if_pos rfl]; rfl
    · rw [H.get_put, if_pos rfl]
  · rintro k h' ⟨x, g9, gl⟩ hk hb
    refine ⟨x, ?_, gl⟩
    rw [g9]
    simp [bhK, hb]
  · rintro _ h' (⟨x, g9, gl⟩ | hf)
    case inr => exact hf.elim
    refine ⟨gl, ?_⟩
    have l9 : ldV (h'.put h3.next (.loop Lo)) (.p h1.next 0) = some (.i .i64 (bhK rs c i s m)) := blk_ld (by rw [H.get_put, if_neg (by omega)]; exact g9) rfl
    simp only [go_sem, ↓reduceIte, r123_5, tl, t9, l9]
    refine (x.put (.inr (.inr rfl)) _).ext eAll (fun b hb => ?_)
    omega
end Go.Air
set_option maxRecDepth 100000
namespace Go.Air
open Go.Air.Try
def never : Int := 1099511627776
def costS (rs : List Arw) (c : List Int) (sp : Int) (m i r : Nat) : Int := if c.getD i 0 = sp ∧ 0 < bhK rs c i r m then never else bhK rs c i r m
def tmin (rs : List Arw) (c : List Int) (sp : Int) (m : Nat) (L : List Int) (s : Nat) : Nat → Int
  | 0 => never
  | i + 1 => if s.testBit i = true then (if L.getD (s - 2 ^ i) 0 + costS rs c sp m i (s - 2 ^ i) < tmin rs c sp m L s i then L.getD (s - 2 ^ i) 0 + costS rs c sp m i (s - 2 ^ i) else tmin rs c sp m L s i) else tmin rs c sp m L s i
def tval (rs : List Arw) (c : List Int) (sp : Int) (m : Nat) (L : List Int) (s : Nat) : Int := if s = 0 then 0 else tmin rs c sp m L s m
def tabL (rs : List Arw) (c : List Int) (sp : Int) (m : Nat) : Nat → List Int
  | 0 => []
  | s + 1 => tabL rs c sp m s ++ [tval rs c sp m (tabL rs c sp m s) s]
theorem ints_at {xs : List Int} {j : Nat} {x : Int} (h : xs[j]? = some x) : (ints xs)[j]? = some (.i .i64 x) := by rw [ints_get, h]; rfl
end Go.Air
set_option maxRecDepth 100000
namespace Go.Air
open Go.Air.Try
theorem cells576_eg {m : Nat → Nat → Bool} {a b : Nat} (ha : a < 24) (hb : b < 24) : (cells576 m)[0 + a * 24 + b * 1]? = some (.b (m a b)) := by
  obtain ⟨h1, h2⟩ := divmod24 (a := a) hb
  rw [show 0 + a * 24 + b * 1 = a * 24 + b by omega, cells576_get (by omega), h1, h2]
theorem cells576_set {m : Nat → Nat → Bool} {a b : Nat} (ha : a < 24) (hb : b < 24) : (cells576 m).set (0 + a * 24 + b * 1) (.b true) = cells576 (eset m a b) := by
  apply List.ext_getElem?
  intro i
  rw [List.getElem?_set]
  by_cases hi : i < 576
  · rw [cells576_get hi, cells576_get hi]
    by_cases h : a * 24 + b = i
    · subst h
      obtain ⟨d1, d2⟩ := divmod24 (a := a) hb
      rw [if_pos (by omega), if_pos (by rw [cells576_len]; omega), d1, d2]
      simp [eset]
    · rw [if_neg (by omega)]
      have : ¬ (i / 24 = a ∧ i % 24 = b) := by omega
      simp only [eset, if_neg this]
  · rw [List.getElem?_eq_none (l := cells576 (eset m a b)) (by rw [cells576_len]; omega), List.getElem?_eq_none (l := cells576 m) (by rw [cells576_len]; omega), if_neg (by omega)]
theorem cells576_zero : List.replicate 576 (V.b false) = cells576 (fun _ _ => false) := by
  apply List.ext_getElem?
  intro i
  by_cases hi : i < 576
  · rw [cells576_get hi, List.getElem?_replicate, if_pos hi]
  · rw [List.getElem?_eq_none (by rw [List.length_replicate]; omega), List.getElem?_eq_none (by rw [cells576_len]; omega)]
theorem ld576 {h : H} {q a b : Nat} {m : Nat → Nat → Bool} (g : h.get q = some (.cells (cells576 m))) (ha : a < 24) (hb : b < 24) : ldV h (.p q (0 + a * 24 + b * 1)) = some (.b (m a b)) := blk_ld g (cells576_eg ha hb)
theorem st576 {h : H} {q a b : Nat} {m : Nat → Nat → Bool} (g : h.get q = some (.cells (cells576 m))) (ha : a < 24) (hb : b < 24) : stV h 1 (.p q (0 + a * 24 + b * 1)) (.b true) = some (h.put q (.cells (cells576 (eset m a b)))) := by
  rw [st_b (k := 0 + a * 24 + b * 1) g (by rw [cells576_len]; omega), cells576_set ha hb]
theorem t135 : tblA 135 = some a135 := by kernel_rfl
theorem fn_steps {h : H} {n : Nat} {v : V} {rs : List Arw} (hr : Arrs h v rs) (hrn : rs.length ≤ 1000000) (hn : n ≤ 24) (gr : GoodR (n : Int) rs) : WC tblA (.fn 135 [] []) [.agg [.i .i64 (n : Int), v]] h fun u h' => Ext h h' ∧ u = .agg (cells576 (eA rs)) := by
  refine (WC_in t135).2 ?_
  simp only [go_sem, ↓reduceIte, r135_0, r135_1, r135_2, H.next_new, cells576_zero]
  have e1 : Ext h (((h.new (.cells [.i .i64 (n : Int), v])).new (.cells (cells576 fun _ _ => false))).new (.cells (cells576 fun _ _ => false))) := (((Ext.refl h).new _).new _).new _
  have g1 : (((h.new (.cells [.i .i64 (n : Int), v])).new (.cells (cells576 fun _ _ => false))).new (.cells (cells576 fun _ _ => false))).get h.next = some (.cells [.i .i64 (n : Int), v]) := by
    rw [H.get_new, if_neg (by simp <;> omega), H.get_new, if_neg (by simp <;> omega), H.get_new, if_pos rfl]
  have g2 : (((h.new (.cells [.i .i64 (n : Int), v])).new (.cells (cells576 fun _ _ => false))).new (.cells (cells576 fun _ _ => false))).get (h.next + 1) = some (.cells (cells576 fun _ _ => false)) := by
    rw [H.get_new, if_neg (by simp <;> omega), H.get_new, if_pos (by simp)]
  have g3 : (((h.new (.cells [.i .i64 (n : Int), v])).new (.cells (cells576 fun _ _ => false))).new (.cells (cells576 fun _ _ => false))).get (h.next + 1 + 1) = some (.cells (cells576 fun _ _ => false)) := by
    rw [H.get_new, if_pos (by simp)]
  have nx : (((h.new (.cells [.i .i64 (n : Int), v])).new (.cells (cells576 fun _ _ => false))).new (.cells (cells576 fun _ _ => false))).next = h.next + 1 + 1 + 1 := by simp
  generalize (((h.new (.cells [.i .i64 (n : Int), v])).new (.cells (cells576 fun _ _ => false))).new (.cells (cells576 fun _ _ => false))) = h1 at *
  refine W_while (fun k t h' => ∃ i, k = rs.length - i ∧ i ≤ rs.length ∧ t.length = 27 ∧ nth t 1 = .p h.next 0 ∧ nth t 2 = .p (h.next + 1) 0 ∧ nth t 3 = .p (h.next + 1 + 1) 0 ∧ nth t 4 = .i .i64 (i : Int) ∧ Ext h h' ∧ h.next + 1 + 1 < h'.next ∧ h'.get h.next = some (.cells [.i .i64 (n : Int), v]) ∧ h'.get (h.next + 1) = some (.cells (cells576 fun _ _ => false)) ∧ h'.get (h.next + 1 + 1) = some (.cells (cells576 (eA (rs.take i))))) ?_ rs.length ?_
  · rintro k t h' ⟨i, rfl, hi, tl, t1, t2, t3, t4, e', n', g1', g2', g3'⟩
    unfold b135_0
    have hr' := hr.ext e'
    have l1 : ldV h' (.p h.next 1) = some v := blk_ld g1' rfl
    by_cases hlt : i < rs.length
    · have hltI : (i : Int) < (rs.length : Int) := by omega
      obtain ⟨a, hx⟩ : ∃ a, rs[i]? = some a := ⟨_, List.getElem?_eq_getElem hlt⟩
      have hok := gr.1 a (List.mem_of_getElem? hx)
      unfold OkA at hok
      obtain ⟨f, hf⟩ := Int.eq_ofNat_of_zero_le (a := a.f) (by omega)
      obtain ⟨g, hg⟩ := Int.eq_ofNat_of_zero_le (a := a.t) (by omega)
      have hf24 : f < 24 := by omega
      have hg24 : g < 24 := by omega
      have x0 := hr'.ld (j := 0) hx (by omega)
      have x1 := hr'.ld (j := 1) hx (by omega)
      simp only [arw, List.getElem?_cons_zero, List.getElem?_cons_succ, hf, hg] at x0 x1
      have st3 := st576 (h := h'.bare) g3' hf24 hg24
      have hbk := back_put (h := h') (b := h.next + 1 + 1) n'
      simp only [go_sem, ↓reduceIte, r135_3, r135_4, r135_5, tl, t1, t2, t3, t4, l1, hr'.len, hltI, hr'.ix hlt, x0, x1, ix24r hf24, ixA_ok (esz := 1) hg24, st3, hbk, wrap_succ (show i < 1000000000 by omega)]
      refine ⟨rs.length - (i + 1), by omega, i + 1, rfl, hlt, rfl, e'.put (by omega) _, by simpa using n', ?_, ?_, ?_⟩
      · rw [H.get_put, if_neg (by omega)]; exact g1'
      · rw [H.get_put, if_neg (by omega)]; exact g2'
      · rw [H.get_put, if_pos rfl, eA_step hx hf hg]
    · have hltI : ¬ (i : Int) < (rs.length : Int) := by omega
      rw [List.take_of_length_le (by omega)] at g3'
      have l5 : ldnV h' 576 (.p (h.next + 1 + 1) 0) = some (.agg (cells576 (eA rs))) := blk_ldn g3' (cells576_len _)
      have s5 := st_whole g2' (cells576_len (eA rs)) (cells576_len _) (cells576_one _)
      simp only [go_sem, ↓reduceIte, r135_3, r135_6, tl, t1, t2, t3, t4, l1, hr'.len, hltI, l5, s5]
      rw [rescell (b := h.next + 1) (cs := cells576 (eA rs)) (by simp only [go_sem, ↓reduceIte, tl, t2]) (by rw [H.get_put, if_pos rfl]) (cut_all (cells576_len _))]
      simp only [go_sem]
      exact e'.put (by omega) _
  · refine ⟨0, by omega, by omega, ?_⟩
    simp only [go_sem, ↓reduceIte, List.take_zero, eA_nil]
    exact ⟨e1, by omega, g1, g2, g3⟩
theorem Pk_col {e : Nat → Nat → Bool} (k a : Nat) : Pk e (k + 1) a k = Pk e k a k := by
  simp only [Pk]
  cases Pk e k a k <;> simp
theorem Pk_row {e : Nat → Nat → Bool} (k b : Nat) : Pk e (k + 1) k b = Pk e k k b := by
  simp only [Pk]
  cases Pk e k k b <;> simp
theorem Pk_bnd {n : Nat} {e : Nat → Nat → Bool} (hb : Bnd n e) {k a b : Nat} (h : Pk e k a b = true) : a < n ∧ b < n := (Pk_tc k a b h).bnd hb
theorem Pk_rch {n : Nat} {e : Nat → Nat → Bool} (hb : Bnd n e) : Pk e n = rch e := by
  funext a b
  rw [Bool.eq_iff_iff, rch_iff]
  exact ⟨Pk_tc n a b, tc_Pk hb⟩
def mix (e : Nat → Nat → Bool) (k a b x y : Nat) : Bool := if x < a ∨ (x = a ∧ y < b) then Pk e (k + 1) x y else Pk e k x y
theorem mix_zero (e : Nat → Nat → Bool) (k : Nat) : mix e k 0 0 = Pk e k := by
  funext x y
  simp only [mix]
  rw [if_neg (by omega)]
theorem mix_row {n : Nat} {e : Nat → Nat → Bool} (hb : Bnd n e) (k a : Nat) : mix e k a n = mix e k (a + 1) 0 := by
  funext x y
  simp only [mix]
  by_cases h : x < a ∨ (x = a ∧ y < n)
  · rw [if_pos h, if_pos (by omega)]
  · rw [if_neg h]
    by_cases h2 : x = a
    · rw [if_pos (by omega), Bool.eq_iff_iff]
      constructor
      · exact Pk_succ
      · intro q
        have := (Pk_bnd hb q).2
        omega
    · rw [if_neg (by omega)]
theorem mix_all {n : Nat} {e : Nat → Nat → Bool} (hb : Bnd n e) (k : Nat) : mix e k n 0 = Pk e (k + 1) := by
  funext x y
  simp only [mix]
  by_cases h : x < n ∨ (x = n ∧ y < 0)
  · rw [if_pos h]
  · rw [if_neg h, Bool.eq_iff_iff]
    constructor
    · exact Pk_succ
    · intro q
      have := (Pk_bnd hb q).1
      omega
theorem mix_k {e : Nat → Nat → Bool} (k a b x : Nat) : mix e k a b x k = Pk e k x k := by
  simp only [mix, Pk_col]
  split <;> rfl
theorem mix_kr {e : Nat → Nat → Bool} (k a b y : Nat) : mix e k a b k y = Pk e k k y := by
  simp only [mix, Pk_row]
  split <;> rfl
theorem mix_no {e : Nat → Nat → Bool} {k a b : Nat} (h : (Pk e k a k && Pk e k k b) = false) : mix e k a b = mix e k a (b + 1) := by
  funext x y
  simp only [mix]
  by_cases q : x = a ∧ y = b
  · obtain ⟨rfl, rfl⟩ := q
    rw [if_neg (by omega), if_pos (by omega), Pk, h, Bool.or_false]
  · by_cases q2 : x < a ∨ (x = a ∧ y < b)
    · rw [if_pos q2, if_pos (by omega)]
    · rw [if_neg q2, if_neg (by omega)]
theorem mix_yes {e : Nat → Nat → Bool} {k a b : Nat} (h : (Pk e k a k && Pk e k k b) = true) : eset (mix e k a b) a b = mix e k a (b + 1) := by
  funext x y
  simp only [mix, eset]
  by_cases q : x = a ∧ y = b
  · obtain ⟨rfl, rfl⟩ := q
    rw [if_pos ⟨rfl, rfl⟩, if_pos (by omega), Pk, h, Bool.or_true]
  · rw [if_neg q]
    by_cases q2 : x < a ∨ (x = a ∧ y < b)
    · rw [if_pos q2, if_pos (by omega)]
    · rw [if_neg q2, if_neg (by omega)]
theorem t126 : tblA 126 = some a126 := by kernel_rfl
theorem fn_Reach {h : H} {n : Nat} {v : V} {rs : List Arw} (hr : Arrs h v rs) (hrn : rs.length ≤ 1000000) (hn : n ≤ 24) (gr : GoodR (n : Int) rs) : WC tblA (.fn 126 [] []) [.agg [.i .i64 (n : Int), v]] h fun u h' => Ext h h' ∧ u = .agg (cells576 (rch (eA rs))) := by
  refine (WC_in t126).2 ?_
  simp only [go_sem, ↓reduceIte, r126_0, H.next_new, cells576_zero]
  have e1 : Ext h ((h.new (.cells [.i .i64 (n : Int), v])).new (.cells (cells576 fun _ _ => false))) := ((Ext.refl h).new _).new _
  have g1 : ((h.new (.cells [.i .i64 (n : Int), v])).new (.cells (cells576 fun _ _ => false))).get h.next = some (.cells [.i .i64 (n : Int), v]) := by
    rw [H.get_new, if_neg (by simp <;> omega), H.get_new, if_pos rfl]
  have g2 : ((h.new (.cells [.i .i64 (n : Int), v])).new (.cells (cells576 fun _ _ => false))).get (h.next + 1) = some (.cells (cells576 fun _ _ => false)) := by
    rw [H.get_new, if_pos (by simp)]
  have nx : ((h.new (.cells [.i .i64 (n : Int), v])).new (.cells (cells576 fun _ _ => false))).next = h.next + 1 + 1 := by simp
  generalize ((h.new (.cells [.i .i64 (n : Int), v])).new (.cells (cells576 fun _ _ => false))) = h1 at *
  have l1 : ldnV h1 2 (.p h.next 0) = some (.agg [.i .i64 (n : Int), v]) := blk_ldn g1 rfl
  simp only [go_sem, ↓reduceIte, r126_1, l1, cells576_zero]
  refine (fn_steps (hr.ext e1) hrn hn gr).mono ?_
  rintro _ h2 ⟨e2, rfl⟩
  have n2 := e2.nx
  replace g1 := e2.get (by omega) g1
  replace g2 := e2.get (by omega) g2
  have hb := eA_bnd gr
  generalize eA rs = e at *
  obtain ⟨h3, s3, e3, g3, n3⟩ := st_newK h2 (cells576 fun _ _ => false) (cells576 e) (by simp [cells576_len]) (cells576_one _)
  rw [cells576_len] at s3
  replace g1 := e3.get (by omega) g1
  replace g2 := e3.get (by omega) g2
  have e4 : Ext h h3 := e1.trans (e2.trans e3)
  simp only [go_sem, ↓reduceIte, r126_2, s3]
  generalize hq : h2.next = q at *
  refine W_while (fun kk t h' => ∃ k, kk = n - k ∧ k ≤ n ∧ t.length = 44 ∧ nth t 1 = .p h.next 0 ∧ nth t 2 = .p (h.next + 1) 0 ∧ nth t 3 = .p q 0 ∧ nth t 4 = .i .i64 (k : Int) ∧ Ext h h' ∧ h.next + 1 < q ∧ q < h'.next ∧ h'.get h.next = some (.cells [.i .i64 (n : Int), v]) ∧ h'.get (h.next + 1) = some (.cells (cells576 fun _ _ => false)) ∧ h'.get q = some (.cells (cells576 (Pk e k)))) ?_ n ?_
  · rintro kk t h' ⟨k, rfl, hk, tl, t1, t2, t3, t4, e', nq, n', g1', g2', g3'⟩
    unfold b126_2
    have ln : ldV h' (.p h.next 0) = some (.i .i64 (n : Int)) := blk_ld g1' rfl
    by_cases hlt : k < n
    · have hltI : (k : Int) < (n : Int) := by omega
      have hk24 : k < 24 := by omega
      simp only [go_sem, ↓reduceIte, r126_3, r126_5, tl, t1, t2, t3, t4, ln, hltI]
      refine W_while (fun kk t h' => ∃ a, kk = n - a ∧ a ≤ n ∧ t.length = 44 ∧ nth t 1 = .p h.next 0 ∧ nth t 2 = .p (h.next + 1) 0 ∧ nth t 3 = .p q 0 ∧ nth t 4 = .i .i64 (k : Int) ∧ nth t 5 = .i .i64 (a : Int) ∧ Ext h h' ∧ q < h'.next ∧ h'.get h.next = some (.cells [.i .i64 (n : Int), v]) ∧ h'.get (h.next + 1) = some (.cells (cells576 fun _ _ => false)) ∧ h'.get q = some (.cells (cells576 (mix e k a 0)))) ?_ n ?_
      · rintro kk t h' ⟨a, rfl, ha, tl, t1, t2, t3, t4, t5, e', n', g1', g2', g3'⟩
        unfold b126_1
        have ln : ldV h' (.p h.next 0) = some (.i .i64 (n : Int)) := blk_ld g1' rfl
        by_cases hlta : a < n
        · have hltaI : (a : Int) < (n : Int) := by omega
          have ha24 : a < 24 := by omega
          simp only [go_sem, ↓reduceIte, r126_6, r126_8, tl, t1, t2, t3, t4, t5, ln, hltaI]
          refine W_while (fun kk t h' => ∃ b, kk = n - b ∧ b ≤ n ∧ t.length = 44 ∧ nth t 1 = .p h.next 0 ∧ nth t 2 = .p (h.next + 1) 0 ∧ nth t 3 = .p q 0 ∧ nth t 4 = .i .i64 (k : Int) ∧ nth t 5 = .i .i64 (a : Int) ∧ nth t 6 = .i .i64 (b : Int) ∧ Ext h h' ∧ q < h'.next ∧ h'.get h.next = some (.cells [.i .i64 (n : Int), v]) ∧ h'.get (h.next + 1) = some (.cells (cells576 fun _ _ => false)) ∧ h'.get q = some (.cells (cells576 (mix e k a b)))) ?_ n ?_
          · rintro kk t h' ⟨b, rfl, hb', tl, t1, t2, t3, t4, t5, t6, e', n', g1', g2', g3'⟩
            unfold b126_0
            have ln : ldV h' (.p h.next 0) = some (.i .i64 (n : Int)) := blk_ld g1' rfl
            by_cases hltb : b < n
            · have hltbI : (b : Int) < (n : Int) := by omega
              have hb24 : b < 24 := by omega
              have la := ld576 g3' ha24 hk24
              have lb := ld576 g3' hk24 hb24
              rw [mix_k] at la
              rw [mix_kr] at lb
              have st := st576 g3' ha24 hb24
              cases c1 : Pk e k a k
              · have hm := mix_no (e := e) (k := k) (a := a) (b := b) (by rw [c1]; rfl)
                simp only [go_sem, ↓reduceIte, r126_9, r126_10, r126_11, tl, t1, t2, t3, t4, t5, t6, ln, hltbI, ix24r ha24, ixA_ok (esz := 1) hk24, la, c1, wrap_succ (show b < 1000000000 by omega)]
                exact ⟨n - (b + 1), by omega, b + 1, rfl, hltb, rfl, e', n', g1', g2', by rw [← hm]; exact g3'⟩
              · cases c2 : Pk e k k b
                · have hm := mix_no (e := e) (k := k) (a := a) (b := b) (by rw [c2, Bool.and_false])
                  simp only [go_sem, ↓reduceIte, r126_9, r126_10, r126_11, tl, t1, t2, t3, t4, t5, t6, ln, hltbI, ix24r ha24, ix24r hk24, ixA_ok (esz := 1) hk24, ixA_ok (esz := 1) hb24, la, lb, c1, c2, wrap_succ (show b < 1000000000 by omega)]
                  exact ⟨n - (b + 1), by omega, b + 1, rfl, hltb, rfl, e', n', g1', g2', by rw [← hm]; exact g3'⟩
                · have hm := mix_yes (e := e) (k := k) (a := a) (b := b) (by rw [c1, c2]; rfl)
                  simp only [go_sem, ↓reduceIte, r126_9, r126_10, r126_11, r126_12, tl, t1, t2, t3, t4, t5, t6, ln, hltbI, ix24r ha24, ix24r hk24, ixA_ok (esz := 1) hk24, ixA_ok (esz := 1) hb24, la, lb, c1, c2, st, wrap_succ (show b < 1000000000 by omega)]
                  refine ⟨n - (b + 1), by omega, b + 1, rfl, hltb, rfl, e'.put (by omega) _, by simpa using n', ?_, ?_, ?_⟩
                  · rw [H.get_put, if_neg (by omega)]; exact g1'
                  · rw [H.get_put, if_neg (by omega)]; exact g2'
                  · rw [H.get_put, if_pos rfl, hm]
            · have hltbI : ¬ (b : Int) < (n : Int) := by omega
              obtain rfl : b = n := by omega
              rw [mix_row hb] at g3'
              simp only [go_sem, ↓reduceIte, r126_9, r126_7, tl, t1, t2, t3, t4, t5, t6, ln, hltbI, wrap_succ (show a < 1000000000 by omega)]
              exact ⟨b - (a + 1), by omega, a + 1, rfl, hlta, rfl, e', n', g1', g2', g3'⟩
          · refine ⟨0, by omega, by omega, ?_⟩
            simp only [go_sem, ↓reduceIte, tl, t1, t2, t3, t4, t5]
            exact ⟨e', n', g1', g2', g3'⟩
        · have hltaI : ¬ (a : Int) < (n : Int) := by omega
          obtain rfl : a = n := by omega
          rw [mix_all hb] at g3'
          simp only [go_sem, ↓reduceIte, r126_6, r126_4, tl, t1, t2, t3, t4, t5, ln, hltaI, wrap_succ (show k < 1000000000 by omega)]
          exact ⟨a - (k + 1), by omega, k + 1, rfl, hlt, rfl, e', nq, n', g1', g2', g3'⟩
      · refine ⟨0, by omega, by omega, ?_⟩
        rw [mix_zero]
        simp only [go_sem, ↓reduceIte, tl, t1, t2, t3, t4]
        exact ⟨e', n', g1', g2', g3'⟩
    · have hltI : ¬ (k : Int) < (n : Int) := by omega
      obtain rfl : k = n := by omega
      rw [Pk_rch hb] at g3'
      have l5 : ldnV h' 576 (.p q 0) = some (.agg (cells576 (rch e))) := blk_ldn g3' (cells576_len _)
      have s5 := st_whole g2' (cells576_len (rch e)) (cells576_len _) (cells576_one _)
      simp only [go_sem, ↓reduceIte, r126_3, r126_13, tl, t1, t2, t3, t4, ln, hltI, l5, s5]
      rw [rescell (b := h.next + 1) (cs := cells576 (rch e)) (by simp only [go_sem, ↓reduceIte, tl, t2]) (by rw [H.get_put, if_pos rfl]) (cut_all (cells576_len _))]
      simp only [go_sem]
      exact e'.put (by omega) _
  · refine ⟨0, by omega, by omega, ?_⟩
    simp only [go_sem, ↓reduceIte, Pk]
    exact ⟨e4, by omega, by omega, g1, g2, g3⟩
theorem mate_at {R : Nat → Nat → Bool} {n a b : Nat} (hb : b < n) : mate R n a b = (decide (a = b) || (R a b && R b a)) := by simp [mate, hb]
theorem t127 : tblA 127 = some a127 := by kernel_rfl
theorem fn_mates {h : H} {n a : Nat} {R : Nat → Nat → Bool} (hn : n ≤ 24) (ha : a < 24) : WC tblA (.fn 127 [] []) [.agg (cells576 R), .i .i64 (n : Int), .i .i64 (a : Int)] h fun u h' => Ext h h' ∧ Own h 1 h' u (setL n (mate R n a)).length (ints (setL n (mate R n a))) := by
  refine (WC_in t127).2 ?_
  have e0 : Ext h (h.new (.cells (cells576 R))) := (Ext.refl h).new _
  have g0 : (h.new (.cells (cells576 R))).get h.next = some (.cells (cells576 R)) := by rw [H.get_new, if_pos rfl]
  have n0 : (h.new (.cells (cells576 R))).next = h.next + 1 := by simp
  simp only [go_sem, ↓reduceIte, r127_0, r127_1, r127_2]
  generalize h.new (.cells (cells576 R)) = h0 at *
  generalize hs : mate R n a = s
  refine W_while (fun k t h' => ∃ (i : Nat) (w : V), k = n - i ∧ i ≤ n ∧ t.length = 36 ∧ nth t 1 = .i .i64 (n : Int) ∧ nth t 2 = .i .i64 (a : Int) ∧ nth t 3 = .p h.next 0 ∧ nth t 7 = w ∧ nth t 8 = .i .i64 (i : Int) ∧ Ext h0 h' ∧ Own h0 1 h' w (setL i s).length (ints (setL i s))) ?_ n ?_
  · rintro k t h' ⟨i, w, rfl, hi, tl, t1, t2, t3, t7, t8, e1, o1⟩
    unfold b127_0
    have hle := setL_len i s
    by_cases hlt : i < n
    · have hltI : (i : Int) < (n : Int) := by omega
      have hi24 : i < 24 := by omega
      have hsu := setL_succ s i
      have g1 := e1.get (by omega) g0
      have la := ld576 g1 ha hi24
      have lb := ld576 g1 hi24 ha
      have hm : s i = (decide (a = i) || (R a i && R i a)) := by rw [← hs, mate_at hlt]
      have yes : s i = true → ∃ w' h5, appendV 1 8 (h'.new (.cells [.i .i64 (i : Int)])) w (.sl h'.next 0 1 1 none) = .ok w' h5 ∧ Ext h0 h5 ∧ Own h0 1 h5 w' (setL (i + 1) s).length (ints (setL (i + 1) s)) := by
        intro hb
        rw [if_pos hb] at hsu
        obtain ⟨w', h5, r1, r2, r3⟩ := app_int (i : Int) o1 e1 (by omega)
        refine ⟨w', h5, r1, r2, ?_⟩
        rw [hsu, List.length_append]
        exact r3
      have no : s i = false → Own h0 1 h' w (setL (i + 1) s).length (ints (setL (i + 1) s)) := by
        intro hb
        rw [if_neg (by rw [hb]; simp), List.append_nil] at hsu
        rw [hsu]; exact o1
      by_cases c1 : a = i
      · obtain ⟨w', h5, r1, r2, r3⟩ := yes (by rw [hm]; simp [c1])
        simp only [go_sem, ↓reduceIte, r127_3, r127_4, r127_5, r127_6, tl, t1, t2, t3, t7, t8, hltI, nat_int_eq, c1, r1, wrap_succ (show i < 1000000000 by omega)]
        exact ⟨n - (i + 1), by omega, i + 1, w', rfl, hlt, rfl, rfl, r2, r3⟩
      · cases c2 : R a i
        · have hno := no (by rw [hm]; simp [c1, c2])
          simp only [go_sem, ↓reduceIte, r127_3, r127_4, r127_5, tl, t1, t2, t3, t7, t8, hltI, nat_int_eq, c1, ix24r ha, ixA_ok (esz := 1) hi24, la, c2, wrap_succ (show i < 1000000000 by omega)]
          exact ⟨n - (i + 1), by omega, i + 1, w, rfl, hlt, rfl, rfl, e1, hno⟩
        · cases c3 : R i a
          · have hno := no (by rw [hm]; simp [c1, c3])
            simp only [go_sem, ↓reduceIte, r127_3, r127_4, r127_5, tl, t1, t2, t3, t7, t8, hltI, nat_int_eq, c1, ix24r ha, ix24r hi24, ixA_ok (esz := 1) hi24, ixA_ok (esz := 1) ha, la, lb, c2, c3, wrap_succ (show i < 1000000000 by omega)]
            exact ⟨n - (i + 1), by omega, i + 1, w, rfl, hlt, rfl, rfl, e1, hno⟩
          · obtain ⟨w', h5, r1, r2, r3⟩ := yes (by rw [hm]; simp [c2, c3])
            simp only [go_sem, ↓reduceIte, r127_3, r127_4, r127_5, r127_6, tl, t1, t2, t3, t7, t8, hltI, nat_int_eq, c1, ix24r ha, ix24r hi24, ixA_ok (esz := 1) hi24, ixA_ok (esz := 1) ha, la, lb, c2, c3, r1, wrap_succ (show i < 1000000000 by omega)]
            exact ⟨n - (i + 1), by omega, i + 1, w', rfl, hlt, rfl, rfl, r2, r3⟩
    · have hltI : ¬ (i : Int) < (n : Int) := by omega
      obtain rfl : i = n := by omega
      simp only [go_sem, ↓reduceIte, r127_3, r127_7, tl, t1, t2, t3, t7, t8, hltI]
      exact ⟨e0.trans e1, o1.mono e0.nx⟩
  · refine ⟨0, .sn, by omega, by omega, ?_⟩
    simp only [go_sem, ↓reduceIte]
    exact ⟨.refl _, .nil⟩
end Go.Air
set_option maxRecDepth 100000
namespace Go.Air
open Go.Air.Try
def frK (R : Nat → Nat → Bool) (d : Nat → Bool) (a k : Nat) : Bool := !d a && (List.range k).all fun b => !(R b a && !R a b && !d b)
theorem frK_zero (R : Nat → Nat → Bool) (d : Nat → Bool) (a : Nat) : frK R d a 0 = !d a := by simp [frK]
theorem frK_succ (R : Nat → Nat → Bool) (d : Nat → Bool) (a k : Nat) : frK R d a (k + 1) = (frK R d a k && !(R k a && !R a k && !d k)) := by
  simp only [frK, List.range_succ, List.all_append, List.all_cons, List.all_nil, Bool.and_true, Bool.and_assoc]
theorem frK_all (R : Nat → Nat → Bool) (d : Nat → Bool) (n a : Nat) : frK R d a n = freeG R n d a := rfl
def NxtF (R : Nat → Nat → Bool) (n : Nat) (d : Nat → Bool) (i : Nat) (z : Int) : Prop :=
  (z = -1 ∧ ∀ a, i ≤ a → a < n → freeG R n d a = false) ∨ ∃ a : Nat, z = (a : Int) ∧ i ≤ a ∧ a < n ∧ freeG R n d a = true ∧ ∀ b, i ≤ b → b < a → freeG R n d b = false
theorem NxtF.start (R : Nat → Nat → Bool) (n : Nat) (d : Nat → Bool) : NxtF R n d n (-1) := .inl ⟨rfl, fun a h1 h2 => by omega⟩
theorem NxtF.no {R : Nat → Nat → Bool} {n j : Nat} {d : Nat → Bool} {z : Int} (h : NxtF R n d (j + 1) z) (hf : freeG R n d j = false) : NxtF R n d j z := by
  rcases h with ⟨rfl, h⟩ | ⟨a, rfl, h1, h2, h3, h4⟩
  · refine .inl ⟨rfl, fun a q1 q2 => ?_⟩
    by_cases q : a = j
    · subst q; exact hf
    · exact h a (by omega) q2
  · refine .inr ⟨a, rfl, by omega, h2, h3, fun b q1 q2 => ?_⟩
    by_cases q : b = j
    · subst q; exact hf
    · exact h4 b (by omega) q2
theorem NxtF.yes {R : Nat → Nat → Bool} {n j : Nat} {d : Nat → Bool} (hj : j < n) (hf : freeG R n d j = true) : NxtF R n d j (j : Int) := .inr ⟨j, rfl, Nat.le_refl _, hj, hf, fun b q1 q2 => by omega⟩
theorem t114 : tblA 114 = some a114 := by kernel_rfl
theorem fn_refComponents {h : H} {N : Int} {v : V} {rs : List Arw} (hr : Arrs h v rs) (hrn : rs.length ≤ 1000000) : WC tblA (.fn 114 [] []) [.agg [.i .i64 N, v]] h fun u h' => Ext h h' ∧ Rows h h' u (compsR N rs) := by
  refine (WC_in t114).2 ?_
  obtain ⟨e0, g0⟩ := rel_blk h N v
  simp only [go_sem, ↓reduceIte, r114_0]
  have hr0 := hr.ext e0
  have n0 : (h.new (.cells [.i .i64 N, v])).next = h.next + 1 := by simp
  generalize hh : h.new (.cells [.i .i64 N, v]) = h0 at *
  have l0 : ldnV h0 2 (.p h.next 0) = some (.agg [.i .i64 N, v]) := blk_ldn g0 rfl
  simp only [go_sem, ↓reduceIte, r114_1, l0]
  refine (fn_refCheck hr0 hrn).mono ?_
  rintro _ h1 ⟨e1, rfl⟩
  have n1 := e1.nx
  by_cases hc : checkS N rs = 0
  case neg =>
    simp only [go_sem, ↓reduceIte, r114_2, hc]
    refine ⟨e0.trans e1, ?_⟩
    rw [compsR, if_neg hc]
    exact .nil
  obtain ⟨n, rfl, hn, gr⟩ := check_ok hc
  rw [show compsR (n : Int) rs = comps (rch (eA rs)) n n noneD by rw [compsR, if_pos hc]; simp]
  have g1 := e1.get (by omega) g0
  have l1 : ldnV h1 2 (.p h.next 0) = some (.agg [.i .i64 (n : Int), v]) := blk_ldn g1 rfl
  simp only [go_sem, ↓reduceIte, r114_3, hc, l1, cells576_zero]
  refine (fn_Reach (hr0.ext e1) hrn hn gr).mono ?_
  rintro _ h2 ⟨e2, rfl⟩
  have n2 := e2.nx
  generalize rch (eA rs) = R at *
  obtain ⟨h3, s3, e3, g3, n3⟩ := st_newK h2 (cells576 fun _ _ => false) (cells576 R) (by simp [cells576_len]) (cells576_one _)
  rw [cells576_len] at s3
  have g2 := e3.get (by omega) (e2.get (by omega) g1)
  have e4 : Ext h (h3.new (.cells (List.replicate 24 (.b false)))) := (e0.trans (e1.trans (e2.trans e3))).new _
  have g4 : (h3.new (.cells (List.replicate 24 (.b false)))).get h.next = some (.cells [.i .i64 (n : Int), v]) := by rw [H.get_new, if_neg (by omega)]; exact g2
  have g5 : (h3.new (.cells (List.replicate 24 (.b false)))).get h2.next = some (.cells (cells576 R)) := by rw [H.get_new, if_neg (by omega)]; exact g3
  have g6 : (h3.new (.cells (List.replicate 24 (.b false)))).get (h2.next + 1) = some (.cells (cells24 noneD)) := by rw [H.get_new, if_pos n3.symm, cells24_zero]
  have n4 : (h3.new (.cells (List.replicate 24 (.b false)))).next = h2.next + 1 + 1 := by simp [n3]
  simp only [go_sem, ↓reduceIte, r114_4, r114_5, s3, n3]
  generalize h3.new (.cells (List.replicate 24 (.b false))) = hB at *
  clear s3
  have hq : h.next < h2.next := by omega
  generalize h2.next = q at *
  refine W_while (fun kk t h' => ∃ (xss : List (List Int)) (w : V) (d : Nat → Bool), kk = n - xss.length ∧ xss.length ≤ n ∧ t.length = 84 ∧ nth t 1 = .p h.next 0 ∧ nth t 3 = .p q 0 ∧ nth t 4 = .p (q + 1) 0 ∧ nth t 5 = w ∧ ExtX (· = q + 1) hB h' ∧ h'.get (q + 1) = some (.cells (cells24 d)) ∧ Rows hB h' w xss ∧
      undone n d ≤ n - xss.length ∧ comps R n n noneD = xss ++ comps R n (n - xss.length) d) ?_ n ?_
  · rintro kk t h' ⟨xss, w, d, rfl, hx, tl, t1, t3, t4, t5, x', gd, r', hu, hcs⟩
    unfold b114_3
    have gN := x'.get (by omega) (by omega) g4
    have gR := x'.get (by omega) (by omega) g5
    have lN : ldV h' (.p h.next 0) = some (.i .i64 (n : Int)) := blk_ld gN rfl
    have nx' := x'.nx
    have fin : Ext h h' := x'.ext e4 (fun b hb => by omega)
    by_cases hlt : xss.length < n
    · have hltI : (xss.length : Int) < (n : Int) := by omega
      have hwn : IntKind.i64.wrap ((n : Int) - 1) = (n : Int) - 1 := wrap_in (by omega) (by omega)
      simp only [go_sem, ↓reduceIte, r114_6, r114_7, r114_8, tl, t1, t3, t4, t5, r'.ll.len, lN, hltI, hwn]
      refine W_while (fun kk t hh => ∃ (i : Nat) (z : Int), kk = i ∧ i ≤ n ∧ t.length = 84 ∧ nth t 1 = .p h.next 0 ∧ nth t 3 = .p q 0 ∧ nth t 4 = .p (q + 1) 0 ∧ nth t 5 = w ∧ nth t 6 = .i .i64 z ∧ nth t 7 = .i .i64 ((i : Int) - 1) ∧ h' = hh ∧ NxtF R n d i z) ?_ n ?_
      · rintro kk t _ ⟨i, z, rfl, hi, tl, t1, t3, t4, t5, t6, t7, rfl, hz⟩
        unfold b114_1
        cases kk with
        | succ j =>
          replace t7 : nth t 7 = .i .i64 (j : Int) := by rw [t7]; congr 1; omega
          have hj0 : (0 : Int) ≤ (j : Int) := by omega
          have hj24 : j < 24 := by omega
          have ldd := ld24 gd hj24
          simp only [go_sem, ↓reduceIte, r114_9, r114_11, r114_12, tl, t1, t3, t4, t5, t6, t7, hj0, ix24 hj24, ldd]
          refine W_while (fun kk t hh => ∃ b, kk = n - b ∧ b ≤ n ∧ t.length = 84 ∧ nth t 1 = .p h.next 0 ∧ nth t 3 = .p q 0 ∧ nth t 4 = .p (q + 1) 0 ∧ nth t 5 = w ∧ nth t 6 = .i .i64 z ∧ nth t 7 = .i .i64 (j : Int) ∧ nth t 8 = .b (frK R d j b) ∧ nth t 9 = .i .i64 (b : Int) ∧ h' = hh) ?_ n ?_
          · rintro kk t _ ⟨b, rfl, hb, tl, t1, t3, t4, t5, t6, t7, t8, t9, rfl⟩
            unfold b114_0
            by_cases hltb : b < n
            · have hltbI : (b : Int) < (n : Int) := by omega
              have hb24 : b < 24 := by omega
              have la := ld576 gR hb24 hj24
              have lb := ld576 gR hj24 hb24
              have lc := ld24 gd hb24
              have hs := frK_succ R d j b
              cases c1 : R b j
              · rw [c1] at hs
                simp only [Bool.false_and, Bool.not_false, Bool.and_true] at hs
                simp only [go_sem, ↓reduceIte, r114_13, r114_14, r114_15, tl, t1, t3, t4, t5, t6, t7, t8, t9, lN, hltbI, ix24r hb24, ixA_ok (esz := 1) hj24, la, c1, wrap_succ (show b < 1000000000 by omega)]
                exact ⟨n - (b + 1), by omega, b + 1, rfl, hltb, by rw [hs], rfl⟩
              · cases c2 : R j b
                · cases c3 : d b
                  · rw [c1, c2, c3] at hs
                    simp only [Bool.not_false, Bool.and_true, Bool.not_true, Bool.and_false] at hs
                    simp only [go_sem, ↓reduceIte, r114_13, r114_14, r114_15, r114_16, tl, t1, t3, t4, t5, t6, t7, t8, t9, lN, hltbI, ix24 hb24, ix24r hb24, ix24r hj24, ixA_ok (esz := 1) hj24, ixA_ok (esz := 1) hb24, la, lb, lc, c1, c2, c3, wrap_succ (show b < 1000000000 by omega)]
                    exact ⟨n - (b + 1), by omega, b + 1, rfl, hltb, by rw [hs], rfl⟩
                  · rw [c1, c2, c3] at hs
                    simp only [Bool.not_false, Bool.and_true, Bool.not_true, Bool.and_false] at hs
                    simp only [go_sem, ↓reduceIte, r114_13, r114_14, r114_15, tl, t1, t3, t4, t5, t6, t7, t8, t9, lN, hltbI, ix24 hb24, ix24r hb24, ix24r hj24, ixA_ok (esz := 1) hj24, ixA_ok (esz := 1) hb24, la, lb, lc, c1, c2, c3, wrap_succ (show b < 1000000000 by omega)]
                    exact ⟨n - (b + 1), by omega, b + 1, rfl, hltb, by rw [hs], rfl⟩
                · rw [c1, c2] at hs
                  simp only [Bool.not_false, Bool.and_true, Bool.not_true, Bool.and_false, Bool.false_and] at hs
                  simp only [go_sem, ↓reduceIte, r114_13, r114_14, r114_15, tl, t1, t3, t4, t5, t6, t7, t8, t9, lN, hltbI, ix24 hb24, ix24r hb24, ix24r hj24, ixA_ok (esz := 1) hj24, ixA_ok (esz := 1) hb24, la, lb, c1, c2, wrap_succ (show b < 1000000000 by omega)]
                  exact ⟨n - (b + 1), by omega, b + 1, rfl, hltb, by rw [hs], rfl⟩
            · have hltbI : ¬ (b : Int) < (n : Int) := by omega
              obtain rfl : b = n := by omega
              rw [frK_all] at t8
              have hwj : IntKind.i64.wrap ((j : Int) - 1) = (j : Int) - 1 := wrap_in (by omega) (by omega)
              cases hf : freeG R b d j
              · rw [hf] at t8
                simp only [go_sem, ↓reduceIte, r114_13, r114_17, r114_10, tl, t1, t3, t4, t5, t6, t7, t8, t9, lN, hltbI, hwj]
                exact ⟨j, by omega, j, z, rfl, by omega, rfl, rfl, hz.no hf⟩
              · rw [hf] at t8
                simp only [go_sem, ↓reduceIte, r114_13, r114_17, r114_18, r114_10, tl, t1, t3, t4, t5, t6, t7, t8, t9, lN, hltbI, hwj]
                exact ⟨j, by omega, j, (j : Int), rfl, by omega, rfl, rfl, .yes (by omega) hf⟩
          · refine ⟨0, by omega, by omega, ?_⟩
            rw [frK_zero]
            simp only [go_sem, ↓reduceIte, tl, t1, t3, t4, t5, t6, t7]
        | zero =>
          replace t7 : nth t 7 = .i .i64 (-1) := by rw [t7]; congr 1
          have hm1 : ¬ (0 : Int) ≤ -1 := by omega
          rcases hz with ⟨rfl, hnone⟩ | ⟨a, rfl, _, ha, hf, hbe⟩
          · have hco : comps R n (n - xss.length) d = [] := by
              obtain ⟨m, hm⟩ : ∃ m, n - xss.length = m + 1 := ⟨n - xss.length - 1, by omega⟩
              rw [hm, comps, find_range_none (fun b hb => hnone b (Nat.zero_le _) hb)]
            rw [hco, List.append_nil] at hcs
            simp only [go_sem, ↓reduceIte, r114_9, r114_19, r114_20, tl, t1, t3, t4, t5, t6, t7, hm1]
            refine ⟨fin, ?_⟩
            rw [hcs]
            exact r'.mono (by omega)
          · obtain ⟨m, hm⟩ : ∃ m, n - xss.length = m + 1 := ⟨n - xss.length - 1, by omega⟩
            have hco : comps R n (m + 1) d = setL n (mate R n a) :: comps R n m (addS d (mate R n a)) := by
              rw [comps, find_range ha hf (fun b hb => hbe b (Nat.zero_le _) hb)]
            have hneg : ¬ (a : Int) < 0 := by omega
            have lR : ldnV h' 576 (.p q 0) = some (.agg (cells576 R)) := blk_ldn gR (cells576_len _)
            simp only [go_sem, ↓reduceIte, r114_9, r114_19, r114_21, tl, t1, t3, t4, t5, t6, t7, hm1, hneg, lN, lR]
            refine (fn_mates hn (by omega)).mono ?_
            rintro u h5 ⟨e5, o5⟩
            have x5 := x'.trans (.of e5)
            have n5 := e5.nx
            have gd5 := e5.get (by omega) gd
            have r5 := r'.ext e5
            have hl24 : (setL n (mate R n a)).length ≤ 24 := Nat.le_trans (setL_len _ _) hn
            have hmk : markS d (setL n (mate R n a)) = addS d (mate R n a) := markS_all fun x hx => mate_lt hx
            have hxs : ∀ y ∈ setL n (mate R n a), ∃ j : Nat, y = (j : Int) ∧ j < 24 := by
              intro y hy
              obtain ⟨j, rfl, hj, _⟩ := setL_mem.1 hy
              exact ⟨j, rfl, by omega⟩
            have hu' : undone n (addS d (mate R n a)) ≤ m := by
              have := undone_lt ha hf
              omega
            rw [hm, hco] at hcs
            have hne : 0 < (setL n (mate R n a)).length := by
              have : (a : Int) ∈ setL n (mate R n a) := setL_mem.2 ⟨a, rfl, ha, mate_self ha⟩
              exact List.length_pos_of_mem this
            generalize setL n (mate R n a) = xs at *
            simp only [go_sem, ↓reduceIte, r114_22, tl]
            refine W_while (fun k' t h' => ∃ j, k' = xs.length - j ∧ j ≤ xs.length ∧ t.length = 84 ∧ nth t 1 = .p h.next 0 ∧ nth t 3 = .p q 0 ∧ nth t 4 = .p (q + 1) 0 ∧ nth t 5 = w ∧ nth t 10 = u ∧ nth t 11 = .i .i64 (j : Int) ∧ ExtX (· = q + 1) hB h' ∧ ExtX (· = q + 1) h5 h' ∧ h'.get (q + 1) = some (.cells (cells24 (markS d (xs.take j))))) ?_ xs.length ?_
            · rintro k' t h6 ⟨j, rfl, hj, tl, t1, t3, t4, t5, t10, t11, x6, y6, gd6⟩
              unfold b114_2
              have o6 := o5.keepX y6 (fun b hb => by omega)
              have s6 := o6.ints
              by_cases hlt2 : j < xs.length
              · have hltI2 : (j : Int) < (xs.length : Int) := by omega
                obtain ⟨y, hy⟩ : ∃ y, xs[j]? = some y := ⟨_, List.getElem?_eq_getElem hlt2⟩
                obtain ⟨b, rfl, hb24⟩ := hxs y (List.mem_of_getElem? hy)
                simp only [go_sem, ↓reduceIte, r114_23, r114_24, r114_25, tl, t1, t3, t4, t5, t10, t11, s6.len, hltI2, s6.ix hlt2, s6.ld hy, ix24 hb24, st24 gd6 hb24, wrap_succ (show j < 1000000000 by omega)]
                refine ⟨xs.length - (j + 1), by omega, j + 1, rfl, hlt2, rfl, x6.put (.inr rfl) _, y6.put (.inr rfl) _, ?_⟩
                rw [H.get_put, if_pos rfl, markS_step hy]
              · have hltI2 : ¬ (j : Int) < (xs.length : Int) := by omega
                rw [List.take_of_length_le (by omega), hmk] at gd6
                have r6 : Rows hB h6 w xss := r5.keep y6.nx (fun b h1 h2 => y6.same b h2 (by omega))
                have hone := o6.one
                have hp := o6.pos hne
                have hwl := r5.wlt
                have nx6 := x6.nx
                have rT : Rows (trunc hB.next h6) h6 w xss := r6
                have hp2 := o5.pos hne
                have hwl' := r'.wlt
                obtain ⟨w', h7, q1, q2, q3, q4⟩ := rT.app (trunc_ext (by omega)) s6 hone.2 (show hB.next ≤ blkV u by omega) hp.2.2 (by
                  rcases hwl' with z | z
                  · exact .inl z
                  · exact .inr (by omega)) (by omega)
                have x7 := x6.tr q2
                have gd7 := (q2.same (q + 1) (show q + 1 < hB.next by omega)).trans gd6
                simp only [go_sem, ↓reduceIte, r114_23, r114_26, tl, t1, t3, t4, t5, t10, t11, s6.len, hltI2, fill1_of hone.1, q1]
                refine ⟨n - (xss.length + 1), by omega, xss ++ [xs], w', addS d (mate R n a), by simp, by simp; omega, rfl, x7, gd7, q3, by simp; omega, ?_⟩
                rw [hcs]
                have : n - (xss ++ [xs]).length = m := by simp; omega
                rw [this]; simp
            · refine ⟨0, by omega, by omega, ?_⟩
              simp only [go_sem, ↓reduceIte, tl, t1, t3, t4, t5, List.take_zero, markS_nil]
              exact ⟨x5, .refl _ _, gd5⟩
      · refine ⟨n, -1, by omega, by omega, ?_⟩
        simp only [go_sem, ↓reduceIte, tl, t1, t3, t4, t5]
        exact NxtF.start R n d
    · have hltI : ¬ (xss.length : Int) < (n : Int) := by omega
      have h0 : n - xss.length = 0 := by omega
      rw [h0, comps, List.append_nil] at hcs
      simp only [go_sem, ↓reduceIte, r114_6, r114_27, tl, t1, t3, t4, t5, r'.ll.len, lN, hltI]
      refine ⟨fin, ?_⟩
      rw [hcs]
      exact r'.mono (by omega)
  · refine ⟨[], .sn, noneD, by simp, by simp, ?_⟩
    simp only [go_sem, ↓reduceIte, List.length_nil, List.nil_append, undone_none, Nat.sub_zero, Nat.le_refl]
    exact ⟨.refl _ _, g6, .nil⟩
end Go.Air
set_option maxRecDepth 100000
namespace Go.Air
open Go.Air.Try
def Refs (h1 h : H) (w : V) (xss : List (List Int)) : Prop := ∃ cs, Own h1 1 h w xss.length cs ∧ ∀ (j : Nat) (xs : List Int), xss[j]? = some xs → ∃ c, cs[j]? = some c ∧ Ints h1 c xs
theorem Refs.nil {h1 h : H} : Refs h1 h .sn [] := ⟨[], .nil, fun j xs hj => by simp at hj⟩
theorem Refs.ll {h1 h : H} {w : V} {xss : List (List Int)} (r : Refs h1 h w xss) (e : Ext h1 h) : LL h w xss := by
  obtain ⟨cs, o, hc⟩ := r
  refine ⟨cs, by simpa using o.sl, fun j xs hj => ?_⟩
  obtain ⟨c, q1, q2⟩ := hc j xs hj
  exact ⟨c, q1, q2.ext e⟩
theorem Refs.app {h1 h : H} {w u : V} {xss : List (List Int)} {xs : List Int} (r : Refs h1 h w xss) (e : Ext h1 h) (iu : Ints h1 u xs) (hn : xss.length ≤ 1000000) :
    ∃ w' h', appendV 1 24 (h.new (.cells [u])) w (.sl h.next 0 1 1 none) = .ok w' h' ∧ Ext h1 h' ∧ Refs h1 h' w' (xss ++ [xs]) := by
  obtain ⟨cs, o, hc⟩ := r
  obtain ⟨w', h', r1, r2, r3, r4, r5, r6⟩ := app_ref (u := u) o e iu.one.2 hn
  have hl : cs.length = xss.length := by simpa using o.len
  refine ⟨w', h', r1, r2, cs ++ [u], by simpa using r3, fun j ys hj => ?_⟩
  by_cases hjl : j < xss.length
  · rw [List.getElem?_append_left hjl] at hj
    obtain ⟨c, q1, q2⟩ := hc j ys hj
    exact ⟨c, by rw [List.getElem?_append_left (by omega)]; exact q1, q2⟩
  · have hlt := (List.getElem?_eq_some_iff.1 hj).1
    simp at hlt
    obtain rfl : j = xss.length := by omega
    rw [List.getElem?_append_right (by omega)] at hj
    simp at hj
    subst hj
    exact ⟨u, by rw [List.getElem?_append_right (by omega)]; simp [hl], iu⟩
theorem filter_step {xss : List (List Int)} {i : Nat} {xs : List Int} (hx : xss[i]? = some xs) : (xss.take (i + 1)).filter big = (xss.take i).filter big ++ if big xs = true then [xs] else [] := by
  rw [take_succ' hx, List.filter_append]
  congr 1
  cases h : big xs <;> simp [h]
theorem t74 : tblA 74 = some a74 := by kernel_rfl
theorem fn_refCircles {h : H} {N : Int} {v : V} {rs : List Arw} (hr : Arrs h v rs) (hrn : rs.length ≤ 1000000) : WC tblA (.fn 74 [] []) [.agg [.i .i64 N, v]] h fun u h' => Ext h h' ∧ LL h' u (circR N rs) := by
  refine (WC_in t74).2 ?_
  obtain ⟨e0, g0⟩ := rel_blk h N v
  simp only [go_sem, ↓reduceIte, r74_0]
  have hr0 := hr.ext e0
  generalize hh : h.new (.cells [.i .i64 N, v]) = h0 at *
  have l0 : ldnV h0 2 (.p h.next 0) = some (.agg [.i .i64 N, v]) := blk_ldn g0 rfl
  simp only [go_sem, ↓reduceIte, r74_1, l0]
  refine (fn_refComponents hr0 hrn).mono ?_
  rintro u h1 ⟨e1, r1⟩
  have s1 := r1.ll
  have hlen := (compsR_len (N := N) (rs := rs)).1
  unfold circR
  generalize compsR N rs = xss at *
  simp only [go_sem, ↓reduceIte, r74_2, r74_3]
  refine W_while (fun k t h' => ∃ (i : Nat) (w : V), k = xss.length - i ∧ i ≤ xss.length ∧ t.length = 28 ∧ nth t 3 = u ∧ nth t 4 = w ∧ nth t 5 = .i .i64 (i : Int) ∧ Ext h1 h' ∧ Refs h1 h' w ((xss.take i).filter big)) ?_ xss.length ?_
  · rintro k t h' ⟨i, w, rfl, hi, tl, t3, t4, t5, e', r'⟩
    unfold b74_0
    have s' := s1.ext e'
    by_cases hlt : i < xss.length
    · have hltI : (i : Int) < (xss.length : Int) := by omega
      obtain ⟨xs, hx⟩ : ∃ xs, xss[i]? = some xs := ⟨_, List.getElem?_eq_getElem hlt⟩
      obtain ⟨c, hl, hi1⟩ := s1.ld hx
      obtain ⟨c', hl', hi1'⟩ := s'.ld hx
      have hcc : c' = c := by
        have : ldV h' (.p (blkV u) (offV u + i * 1)) = ldV h1 (.p (blkV u) (offV u + i * 1)) := by
          obtain ⟨cs, q, _⟩ := s1
          have hb := q.lt (by omega)
          simp only [ldV, e'.same _ hb]
        rw [this, hl] at hl'
        cases hl'; rfl
      subst hcc
      have hst := filter_step hx
      have hbI : (decide ((1 : Int) < (xs.length : Int))) = big xs := by
        unfold big
        rw [Bool.eq_iff_iff]
        simp
        omega
      cases hb : big xs
      · rw [hb] at hst hbI
        simp only [Bool.false_eq_true, if_false, List.append_nil] at hst
        simp only [go_sem, ↓reduceIte, r74_4, r74_5, r74_6, tl, t3, t4, t5, s'.len, hltI, s'.ix hlt, hl', hi1'.len, hbI, wrap_succ (show i < 1000000000 by omega)]
        exact ⟨xss.length - (i + 1), by omega, i + 1, w, rfl, hlt, rfl, rfl, e', by rw [hst]; exact r'⟩
      · rw [hb] at hst hbI
        simp only [if_true] at hst
        obtain ⟨w', h5, q1, q2, q3⟩ := r'.app e' hi1 (by
          have := List.length_filter_le big (xss.take i)
          simp at this; omega)
        simp only [go_sem, ↓reduceIte, r74_4, r74_5, r74_6, r74_7, tl, t3, t4, t5, s'.len, hltI, s'.ix hlt, hl', hi1'.len, hbI, fill1_of hi1.one.1, q1, wrap_succ (show i < 1000000000 by omega)]
        exact ⟨xss.length - (i + 1), by omega, i + 1, w', rfl, hlt, rfl, rfl, q2, by rw [hst]; exact q3⟩
    · have hltI : ¬ (i : Int) < (xss.length : Int) := by omega
      simp only [go_sem, ↓reduceIte, r74_4, r74_8, tl, t3, t4, t5, s'.len, hltI]
      rw [List.take_of_length_le (by omega)] at r'
      exact ⟨e0.trans (e1.trans e'), r'.ll e'⟩
  · refine ⟨0, .sn, by omega, by omega, ?_⟩
    simp only [go_sem, ↓reduceIte, List.take_zero, List.filter_nil]
    exact ⟨.refl _, .nil⟩
noncomputable def circledS (N : Int) (rs : List Arw) : Int := if checkS N rs ≠ 0 then checkS N rs else circE (circR N rs)
theorem t71 : tblA 71 = some a71 := by kernel_rfl
theorem fn_circled {h : H} {N : Int} {v : V} {rs : List Arw} (hr : Arrs h v rs) (hrn : rs.length ≤ 1000000) : WC tblA (.fn 71 [] []) [.agg [.i .i64 N, v]] h fun u h' => Ext h h' ∧ u = .i .i64 (circledS N rs) := by
  refine (WC_in t71).2 ?_
  obtain ⟨e0, g0⟩ := rel_blk h N v
  simp only [go_sem, ↓reduceIte, r71_0]
  have hr0 := hr.ext e0
  have hb0 : h.next < (h.new (.cells [.i .i64 N, v])).next := by simp
  generalize hh : h.new (.cells [.i .i64 N, v]) = h0 at *
  have l0 : ldnV h0 2 (.p h.next 0) = some (.agg [.i .i64 N, v]) := blk_ldn g0 rfl
  simp only [go_sem, ↓reduceIte, r71_1, l0]
  refine (fn_refCheck hr0 hrn).mono ?_
  rintro _ h1 ⟨e1, rfl⟩
  by_cases hc : checkS N rs = 0
  case neg =>
    simp only [go_sem, ↓reduceIte, r71_2, r71_3, hc]
    exact ⟨e0.trans e1, by rw [circledS, if_pos hc]⟩
  have l1 : ldnV h1 2 (.p h.next 0) = some (.agg [.i .i64 N, v]) := blk_ldn (e1.get hb0 g0) rfl
  simp only [go_sem, ↓reduceIte, r71_2, r71_4, hc, l1]
  refine (fn_refCircles (hr0.ext e1) hrn).mono ?_
  rintro u h2 ⟨e2, s2⟩
  have hlen := circR_len (N := N) (rs := rs)
  have hcs : circledS N rs = circE (circR N rs) := by rw [circledS, if_neg (by simp [hc])]
  rw [hcs]
  generalize circR N rs = xss at *
  simp only [go_sem, ↓reduceIte, r71_5]
  refine W_while (fun k t h' => ∃ i, k = xss.length - i ∧ i ≤ xss.length ∧ t.length = 25 ∧ nth t 4 = u ∧ nth t 5 = .i .i64 (i : Int) ∧ h2 = h' ∧ ∀ c ∈ xss.take i, ¬ 10 < c.length) ?_ xss.length ?_
  · rintro k t _ ⟨i, rfl, hi, tl, t4, t5, rfl, ha⟩
    unfold b71_0
    by_cases hlt : i < xss.length
    · have hltI : (i : Int) < (xss.length : Int) := by omega
      obtain ⟨xs, hx⟩ : ∃ xs, xss[i]? = some xs := ⟨_, List.getElem?_eq_getElem hlt⟩
      obtain ⟨c, hl, hi1⟩ := s2.ld hx
      by_cases hb : 10 < xs.length
      · have hbI : (10 : Int) < (xs.length : Int) := by omega
        simp only [go_sem, ↓reduceIte, r71_6, r71_8, r71_9, tl, t4, t5, s2.len, hltI, s2.ix hlt, hl, hi1.len, hbI]
        have : circE xss = 40 := by rw [circE, if_pos ⟨xs, List.mem_of_getElem? hx, hb⟩]
        rw [this]
        exact ⟨e0.trans (e1.trans e2), rfl⟩
      · have hbI : ¬ (10 : Int) < (xs.length : Int) := by omega
        simp only [go_sem, ↓reduceIte, r71_6, r71_7, r71_8, tl, t4, t5, s2.len, hltI, s2.ix hlt, hl, hi1.len, hbI, wrap_succ (show i < 1000000000 by omega)]
        refine ⟨xss.length - (i + 1), by omega, i + 1, rfl, hlt, rfl, ?_⟩
        rw [take_succ' hx]
        intro ys hy
        rcases List.mem_append.1 hy with hy | hy
        · exact ha ys hy
        · simp at hy; subst hy; exact hb
    · have hltI : ¬ (i : Int) < (xss.length : Int) := by omega
      simp only [go_sem, ↓reduceIte, r71_6, r71_10, tl, t4, t5, s2.len, hltI]
      rw [List.take_of_length_le (by omega)] at ha
      have : circE xss = 0 := by rw [circE, if_neg]; rintro ⟨c, h1, h2⟩; exact ha c h1 h2
      rw [this]
      exact ⟨e0.trans (e1.trans e2), rfl⟩
  · refine ⟨0, by omega, by omega, ?_⟩
    simp only [go_sem, ↓reduceIte, List.take_zero]
    simp
end Go.Air
set_option maxRecDepth 100000
namespace Go.Air
open Go.Air.Try
def subL (c : List Int) (s : Nat) : Nat → List Int
  | 0 => []
  | k + 1 => subL c s k ++ if s.testBit k = true then [c.getD k 0] else []
theorem subL_len (c : List Int) (s : Nat) : ∀ k, (subL c s k).length ≤ k
  | 0 => by simp [subL]
  | k + 1 => by
    have := subL_len c s k
    simp only [subL, List.length_append]
    split <;> simp <;> omega
theorem t116 : tblA 116 = some a116 := by kernel_rfl
theorem fn_subset {h : H} {m s : Nat} {v : V} {c : List Int} (hc : Ints h v c) (hl : c.length = m) (hm : m ≤ 24) (hs : s < 1000000000) :
    WC tblA (.fn 116 [] []) [v, .i .i64 (s : Int)] h fun u h' => Ext h h' ∧ Own h 1 h' u (subL c s m).length (ints (subL c s m)) := by
  refine (WC_in t116).2 ?_
  simp only [go_sem, ↓reduceIte, r116_0, r116_1, r116_2]
  refine W_while (fun k t h' => ∃ (i : Nat) (w : V), k = m - i ∧ i ≤ m ∧ t.length = 27 ∧ nth t 0 = v ∧ nth t 1 = .i .i64 (s : Int) ∧ nth t 5 = w ∧ nth t 6 = .i .i64 (i : Int) ∧ Ext h h' ∧ Own h 1 h' w (subL c s i).length (ints (subL c s i))) ?_ m ?_
  · rintro k t h' ⟨i, w, rfl, hi, tl, t0, t1, t5, t6, e', o'⟩
    unfold b116_0
    have hc' := hc.ext e'
    by_cases hlt : i < m
    · have hltI : (i : Int) < (m : Int) := by omega
      obtain ⟨x, hx⟩ : ∃ x, c[i]? = some x := ⟨_, List.getElem?_eq_getElem (by omega)⟩
      have hxD : c.getD i 0 = x := by rw [List.getD_eq_getElem?_getD, hx]; rfl
      have hsh := bin_shr (s := s) (k := i) (kd := .u64) (by omega)
      have hsmall : s / 2 ^ i < 4611686018427387904 := Nat.lt_of_le_of_lt (Nat.div_le_self _ _) (by omega)
      have hand := bin_and (a := s / 2 ^ i) (b := 1) hsmall (by omega)
      rw [shr_and] at hand
      have hst : subL c s (i + 1) = subL c s i ++ if s.testBit i = true then [x] else [] := by rw [subL, hxD]
      cases hb : s.testBit i
      · rw [hb] at hand hst
        simp only [Bool.false_eq_true, if_false, List.append_nil, Int.natCast_zero, Int.natCast_one] at hand hst
        simp only [go_sem, ↓reduceIte, r116_3, r116_4, r116_5, tl, t0, t1, t5, t6, hc'.len, hl, hltI, conv_u64 (show i < 4611686018427387904 by omega), hsh, hand, wrap_succ (show i < 1000000000 by omega)]
        exact ⟨m - (i + 1), by omega, i + 1, w, rfl, hlt, rfl, rfl, e', by rw [hst]; exact o'⟩
      · rw [hb] at hand hst
        simp only [if_true, Int.natCast_one] at hand hst
        have hlen := subL_len c s i
        obtain ⟨w', h5, r1, r2, r3⟩ := app_int x o' e' (by omega)
        simp only [go_sem, ↓reduceIte, r116_3, r116_4, r116_5, r116_6, tl, t0, t1, t5, t6, hc'.len, hl, hltI, conv_u64 (show i < 4611686018427387904 by omega), hsh, hand, hc'.ix (show i < c.length by omega), hc'.ld hx, r1, wrap_succ (show i < 1000000000 by omega)]
        refine ⟨m - (i + 1), by omega, i + 1, w', rfl, hlt, rfl, rfl, r2, ?_⟩
        rw [hst, List.length_append]
        exact r3
    · have hltI : ¬ (i : Int) < (m : Int) := by omega
      obtain rfl : i = m := by omega
      simp only [go_sem, ↓reduceIte, r116_3, r116_7, tl, t0, t1, t5, t6, hc'.len, hl, hltI]
      exact ⟨e', o'⟩
  · refine ⟨0, .sn, by omega, by omega, ?_⟩
    simp only [go_sem, ↓reduceIte]
    exact ⟨.refl _, .nil⟩
def hit (x : Int) (l : List Int) (r : Arw) : Int := if r.f = x ∧ r.t ∈ l then r.w else 0
theorem offT_take {rs : List Arw} {g : Arw → Int} {i : Nat} {a : Arw} (hx : rs[i]? = some a) : offT (rs.take (i + 1)) g = offT (rs.take i) g + g a := by
  rw [take_succ' hx]
  simp [offT]
theorem offT_bound {N : Int} {g : Arw → Int} (hg : ∀ r : Arw, 0 ≤ r.w → 0 ≤ g r ∧ g r ≤ r.w) : ∀ {rs : List Arw}, (∀ r ∈ rs, OkA N r) → 0 ≤ offT rs g ∧ offT rs g ≤ 1000 * rs.length
  | [], _ => by simp [offT]
  | r :: rs, h => by
    have ih := offT_bound (N := N) hg (rs := rs) fun x hx => h x (by simp [hx])
    have h1 := h r (by simp)
    unfold OkA at h1
    have h2 := hg r (by omega)
    simp only [offT, List.map_cons, List.sum_cons, List.length_cons] at *
    omega
theorem hit_range (x : Int) (l : List Int) (r : Arw) (h : 0 ≤ r.w) : 0 ≤ hit x l r ∧ hit x l r ≤ r.w := by
  unfold hit; split <;> omega
theorem t115 : tblA 115 = some a115 := by kernel_rfl
theorem fn_refBehind {h : H} {N x : Int} {v o : V} {rs : List Arw} {l : List Int} (hr : Arrs h v rs) (hrn : rs.length ≤ 1000000) (gr : GoodR N rs) (hs : Ints h o l) (hn : l.length ≤ 1000000) :
    WC tblA (.fn 115 [] []) [.agg [.i .i64 N, v], .i .i64 x, o] h fun u h' => Ext h h' ∧ u = .i .i64 (offT rs (hit x l)) := by
  refine (WC_in t115).2 ?_
  obtain ⟨e0, g0⟩ := rel_blk h N v
  simp only [go_sem, ↓reduceIte, r115_0]
  have hb0 : h.next < (h.new (.cells [.i .i64 N, v])).next := by simp
  generalize hh : h.new (.cells [.i .i64 N, v]) = h0 at *
  have hr0 := hr.ext e0
  have hs0 := hs.ext e0
  have l1 : ldV h0 (.p h.next 1) = some v := blk_ld g0 rfl
  simp only [go_sem, ↓reduceIte, r115_1, r115_2]
  refine W_while (fun k t h' => ∃ (i : Nat), k = rs.length - i ∧ i ≤ rs.length ∧ t.length = 44 ∧ nth t 1 = .i .i64 x ∧ nth t 2 = o ∧ nth t 3 = .p h.next 0 ∧ nth t 7 = .i .i64 (offT (rs.take i) (hit x l)) ∧ nth t 8 = .i .i64 (i : Int) ∧ h0 = h') ?_ rs.length ?_
  · rintro k t _ ⟨i, rfl, hi, tl, t1, t2, t3, t7, t8, rfl⟩
    unfold b115_0
    by_cases hlt : i < rs.length
    · have hltI : (i : Int) < (rs.length : Int) := by omega
      obtain ⟨a, hx⟩ : ∃ a, rs[i]? = some a := ⟨_, List.getElem?_eq_getElem hlt⟩
      have x0 := hr0.ld (j := 0) hx (by omega)
      have x1 := hr0.ld (j := 1) hx (by omega)
      have x3 := hr0.ld (j := 3) hx (by omega)
      simp only [arw, List.getElem?_cons_zero, List.getElem?_cons_succ] at x0 x1 x3
      have hst := offT_take (g := hit x l) hx
      by_cases c1 : a.f = x
      · simp only [go_sem, ↓reduceIte, r115_3, r115_5, tl, t1, t2, t3, t7, t8, l1, hr0.len, hltI, hr0.ix hlt, x0, x1, c1]
        refine (fn_place hs0 hn).mono ?_
        rintro _ _ ⟨r, rfl, hr', rfl⟩
        obtain ⟨m1, p1⟩ := hr'.mem
        by_cases c2 : 0 ≤ r
        · have hm := m1.1 c2
          have hw : IntKind.i64.wrap (offT (rs.take i) (hit x l) + a.w) = offT (rs.take (i + 1)) (hit x l) := by
            have b1 := offT_bound (N := N) (g := hit x l) (hit_range x l) (rs := rs.take i) fun r hr => gr.1 r (List.mem_of_mem_take hr)
            have b2 := gr.1 a (List.mem_of_getElem? hx)
            unfold OkA at b2
            simp only [List.length_take] at b1
            rw [wrap_in (by omega) (by omega), hst, hit, if_pos ⟨c1, hm⟩]
          simp only [go_sem, ↓reduceIte, r115_4, r115_6, tl, t1, t2, t3, t7, t8, l1, hr0.ix hlt, x3, c2, hw, wrap_succ (show i < 1000000000 by omega)]
          exact ⟨rs.length - (i + 1), by omega, i + 1, rfl, hlt, rfl, rfl⟩
        · have hm : a.t ∉ l := fun z => c2 (m1.2 z)
          simp only [go_sem, ↓reduceIte, r115_4, tl, t1, t2, t3, t7, t8, c2, wrap_succ (show i < 1000000000 by omega)]
          refine ⟨rs.length - (i + 1), by omega, i + 1, rfl, hlt, ?_, rfl⟩
          rw [hst, hit, if_neg (fun z => hm z.2), Int.add_zero]
      · simp only [go_sem, ↓reduceIte, r115_3, r115_4, r115_5, tl, t1, t2, t3, t7, t8, l1, hr0.len, hltI, hr0.ix hlt, x0, c1, wrap_succ (show i < 1000000000 by omega)]
        refine ⟨rs.length - (i + 1), by omega, i + 1, rfl, hlt, ?_, rfl⟩
        rw [hst, hit, if_neg (fun z => c1 z.1), Int.add_zero]
    · have hltI : ¬ (i : Int) < (rs.length : Int) := by omega
      rw [List.take_of_length_le (by omega)] at t7
      simp only [go_sem, ↓reduceIte, r115_3, r115_7, tl, t1, t2, t3, t7, t8, l1, hr0.len, hltI]
      exact e0
  · refine ⟨0, by omega, by omega, ?_⟩
    simp only [go_sem, ↓reduceIte, List.take_zero]
    simp [offT]
theorem offT_sum (f g : Arw → Int) : ∀ rs : List Arw, offT rs (fun r => f r + g r) = offT rs f + offT rs g
  | [] => rfl
  | r :: rs => by
    have ih := offT_sum f g rs
    simp only [offT, List.map_cons, List.sum_cons] at *
    omega
theorem hit_snoc {rs : List Arw} {N x y : Int} {l : List Int} (gr : GoodR N rs) (hy : y ∉ l) : offT rs (hit x (l ++ [y])) = offT rs (hit x l) + wt x y rs := by
  rw [← offT_one x y rs gr.2, ← offT_sum]
  refine offT_congr fun r _ => ?_
  simp only [hit, one, List.mem_append, List.mem_singleton]
  by_cases h1 : r.f = x
  · by_cases h2 : r.t = y
    · have : r.t ∉ l := by rw [h2]; exact hy
      simp [h1, h2, hy]
    · simp [h1, h2]
  · simp [h1]
theorem hit_nil {rs : List Arw} {x : Int} : offT rs (hit x []) = 0 := by
  have : offT rs (hit x []) = offT rs (fun _ => 0) := offT_congr fun r _ => by simp [hit]
  rw [this]
  clear this
  induction rs with
  | nil => rfl
  | cons r l ih => simp only [offT, List.map_cons, List.sum_cons] at *; omega
theorem subL_mem {c : List Int} {s : Nat} {y : Int} : ∀ {k : Nat}, y ∈ subL c s k → ∃ j, j < k ∧ c.getD j 0 = y
  | 0, h => by simp [subL] at h
  | k + 1, h => by
    simp only [subL, List.mem_append] at h
    rcases h with h | h
    · obtain ⟨j, h1, h2⟩ := subL_mem h
      exact ⟨j, by omega, h2⟩
    · split at h
      · simp at h; exact ⟨k, by omega, h.symm⟩
      · simp at h
theorem getD_injI {c : List Int} (hd : c.Nodup) {i j : Nat} (hi : i < c.length) (hj : j < c.length) (h : c.getD i 0 = c.getD j 0) : i = j := by
  rw [List.getD_eq_getElem?_getD, List.getD_eq_getElem?_getD, List.getElem?_eq_getElem hi, List.getElem?_eq_getElem hj] at h
  simp only [Option.getD_some] at h
  exact (List.getElem_inj hd).1 h
theorem hit_bh {rs : List Arw} {N : Int} {c : List Int} (gr : GoodR N rs) (hd : c.Nodup) (i s : Nat) : ∀ k, k ≤ c.length → offT rs (hit (c.getD i 0) (subL c s k)) = bhK rs c i s k
  | 0, _ => by simp [subL, bhK, hit_nil]
  | k + 1, h => by
    have ih := hit_bh gr hd i s k (by omega)
    simp only [subL, bhK]
    split
    · rw [hit_snoc gr, ih]
      intro hm
      obtain ⟨j, h1, h2⟩ := subL_mem hm
      have := getD_injI hd (by omega) (by omega) h2
      omega
    · rw [List.append_nil, ih, Int.add_zero]
def SmallL (L : List Int) : Prop := ∀ (j : Nat) (x : Int), L[j]? = some x → 0 ≤ x ∧ x ≤ 24000 * j
theorem SmallL.getD {L : List Int} (h : SmallL L) (j : Nat) : 0 ≤ L.getD j 0 ∧ L.getD j 0 ≤ 24000 * j := by
  rw [List.getD_eq_getElem?_getD]
  cases q : L[j]? with
  | none => simp; omega
  | some x => exact h j x q
end Go.Air
set_option maxRecDepth 100000
namespace Go.Air
open Go.Air.Try
def tabF (rs : List Arw) (sp : Int) (c : List Int) : List Int := tabL rs c sp c.length (2 ^ c.length)
def Okc (n : Nat) (xss : List (List Int)) : Prop := ∀ c ∈ xss, c.length ≤ 10 ∧ c.Nodup ∧ ∀ y ∈ c, ∃ j : Nat, y = (j : Int) ∧ j < n
theorem Okc.gst {n : Nat} {xss : List (List Int)} (h : Okc n xss) (hn : n ≤ 24) {c : List Int} (hc : c ∈ xss) : Gst c := by
  intro y hy
  obtain ⟨j, e, hj⟩ := (h c hc).2.2 y hy
  exact ⟨j, e, by omega⟩
structure Srch (h : H) (sb n : Nat) (rs : List Arw) (xss : List (List Int)) (sp : Int) (cv vv : V) : Prop where
  lt : sb < h.next
  g : h.get sb = some (.cells (ints (gridL rs) ++ [.i .i64 (n : Int), cv, vv, .i .i64 sp]))
  lc : LL h cv xss
  lv : LL h vv (xss.map (tabF rs sp))
theorem Srch.ext {h h' : H} {sb n : Nat} {rs : List Arw} {xss : List (List Int)} {sp : Int} {cv vv : V} (s : Srch h sb n rs xss sp cv vv) (e : Ext h h') : Srch h' sb n rs xss sp cv vv :=
  ⟨Nat.lt_of_lt_of_le s.lt e.nx, e.get s.lt s.g, s.lc.ext e, s.lv.ext e⟩
section
variable {h : H} {sb n : Nat} {rs : List Arw} {xss : List (List Int)} {sp : Int} {cv vv : V}
theorem Srch.tail (s : Srch h sb n rs xss sp cv vv) {k : Nat} {x : V} (hx : ([.i .i64 (n : Int), cv, vv, .i .i64 sp] : List V)[k]? = some x) : ldV h (.p sb (576 + k)) = some x := by
  refine blk_ld s.g ?_
  rw [List.getElem?_append_right (by rw [ints_len, gridL_len]; omega), ints_len, gridL_len, Nat.add_sub_cancel_left]
  exact hx
theorem Srch.ln (s : Srch h sb n rs xss sp cv vv) : ldV h (.p sb 576) = some (.i .i64 (n : Int)) := s.tail (k := 0) rfl
end
def hurt (rs : List Arw) (sp : Int) (d : Nat → Bool) (x y : Nat) : Prop := d y = true ∧ y ≠ x ∧ (y : Int) = sp ∧ 0 < wt (y : Int) (x : Int) rs
instance (rs : List Arw) (sp : Int) (d : Nat → Bool) (x y : Nat) : Decidable (hurt rs sp d x y) := by unfold hurt; infer_instance
end Go.Air
set_option maxRecDepth 100000
namespace Go.Air
open Go.Air.Try
def RowsO (h0 h : H) (w : V) (xss : List (List Int)) : Prop := ∃ cs, Own h0 1 h w xss.length cs ∧ ∀ (j : Nat) (xs : List Int), xss[j]? = some xs → ∃ c, cs[j]? = some c ∧ Own h0 1 h c xs.length (ints xs) ∧ (w = .sn ∨ c = .sn ∨ blkV c ≠ blkV w)
theorem RowsO.nil {h0 h : H} : RowsO h0 h .sn [] := ⟨[], .nil, fun j xs hj => by simp at hj⟩
theorem RowsO.ll {h0 h : H} {w : V} {xss : List (List Int)} (r : RowsO h0 h w xss) : LL h w xss := by
  obtain ⟨cs, o, hc⟩ := r
  refine ⟨cs, by simpa using o.sl, fun j xs hj => ?_⟩
  obtain ⟨c, q1, q2, _⟩ := hc j xs hj
  exact ⟨c, q1, q2.ints⟩
theorem RowsO.mono {h0 h1 h : H} {w : V} {xss : List (List Int)} (r : RowsO h1 h w xss) (hn : h0.next ≤ h1.next) : RowsO h0 h w xss := by
  obtain ⟨cs, o, hc⟩ := r
  refine ⟨cs, o.mono hn, fun j xs hj => ?_⟩
  obtain ⟨c, q1, q2, q3⟩ := hc j xs hj
  exact ⟨c, q1, q2.mono hn, q3⟩
theorem RowsO.keepX {X : Nat → Prop} {h0 h h' : H} {w : V} {xss : List (List Int)} (r : RowsO h0 h w xss) (e : ExtX X h h') (hX : ∀ b, X b → b < h0.next) : RowsO h0 h' w xss := by
  obtain ⟨cs, o, hc⟩ := r
  refine ⟨cs, o.keepX e hX, fun j xs hj => ?_⟩
  obtain ⟨c, q1, q2, q3⟩ := hc j xs hj
  exact ⟨c, q1, q2.keepX e hX, q3⟩
theorem RowsO.ext {h0 h h' : H} {w : V} {xss : List (List Int)} (r : RowsO h0 h w xss) (e : Ext h h') : RowsO h0 h' w xss := r.keepX (X := fun _ => False) (.of e) (fun _ hb => hb.elim)
theorem Own.keepB {esz n : Nat} {h0 h h' : H} {v w : V} {cs : List V} (o : Own h0 esz h v n cs) (hn : h.next ≤ h'.next) (k : ∀ b, b < h.next → (w = .sn ∨ b ≠ blkV w) → h'.get b = h.get b) (hv : w = .sn ∨ v = .sn ∨ blkV v ≠ blkV w) : Own h0 esz h' v n cs := by
  obtain ⟨hl, o | ⟨b, g, rfl, hg, h1, h2, hb⟩⟩ := o
  · exact ⟨hl, .inl o⟩
  · refine ⟨hl, .inr ⟨b, g, rfl, hg, h1, by omega, ?_⟩⟩
    rw [k b h2]
    · exact hb
    · rcases hv with z | z | z
      · exact .inl z
      · cases z
      · exact .inr z
theorem Own.wlt' {h0 h : H} {v : V} {n esz : Nat} {cs : List V} (o : Own h0 esz h v n cs) : v = .sn ∨ (h0.next ≤ blkV v ∧ blkV v < h.next) := by
  obtain ⟨hl, ⟨_, rfl⟩ | ⟨b, g, rfl, hg, h1, h2, hb⟩⟩ := o
  · exact .inl rfl
  · exact .inr ⟨h1, h2⟩
theorem RowsO.step {h0 h g : H} {w w' u : V} {xss : List (List Int)} {xs : List Int} {cs : List V} (hc : ∀ (j : Nat) (xs : List Int), xss[j]? = some xs → ∃ c, cs[j]? = some c ∧ Own h0 1 h c xs.length (ints xs) ∧ (w = .sn ∨ c = .sn ∨ blkV c ≠ blkV w))
    (hl : cs.length = xss.length) (iu : Own h0 1 h u xs.length (ints xs)) (u3 : w = .sn ∨ u = .sn ∨ blkV u ≠ blkV w)
    (o : Own h0 1 g w' (xss.length + 1) (cs ++ [u])) (n : h.next < g.next) (k : ∀ b, b < h.next → (w = .sn ∨ b ≠ blkV w) → g.get b = h.get b) (hb : h.next < blkV w') : RowsO h0 g w' (xss ++ [xs]) := by
  refine ⟨cs ++ [u], by simpa using o, fun j ys hj => ?_⟩
  by_cases hjl : j < xss.length
  · rw [List.getElem?_append_left hjl] at hj
    obtain ⟨c, q1, q2, q3⟩ := hc j ys hj
    refine ⟨c, by rw [List.getElem?_append_left (by omega)]; exact q1, q2.keepB (Nat.le_of_lt n) k q3, ?_⟩
    rcases q2.wlt' with z | z
    · exact .inr (.inl z)
    · exact .inr (.inr (by omega))
  · have hlt := (List.getElem?_eq_some_iff.1 hj).1
    simp at hlt
    obtain rfl : j = xss.length := by omega
    rw [List.getElem?_append_right (by omega)] at hj
    simp at hj
    subst hj
    refine ⟨u, by rw [List.getElem?_append_right (by omega)]; simp [hl], iu.keepB (Nat.le_of_lt n) k u3, ?_⟩
    rcases iu.wlt' with z | z
    · exact .inr (.inl z)
    · exact .inr (.inr (by omega))
def Z580 : List V := List.replicate 577 (.i .i64 0) ++ [.sn, .sn] ++ [.i .i64 0]
def fillS (x y z u : V) : Option (List V) := fill [x, y, z, u] Z580 [(0, 576, .t 0), (576, 1, .t 1), (577, 1, .t 2), (579, 1, .t 3)]
@[go_sem] theorem fill_search {t : List V} {x y z u : X} : fill t (List.replicate 577 (.i .i64 0) ++ [.sn, .sn] ++ [.i .i64 0]) [(0, 576, x), (576, 1, y), (577, 1, z), (579, 1, u)] = fillS (x.ev t) (y.ev t) (z.ev t) (u.ev t) := rfl
theorem LL.one {h : H} {v : V} {xss : List (List Int)} (s : LL h v xss) : v.cells = [v] ∧ v.oneCell = true := by
  obtain ⟨cs, q, _⟩ := s
  exact arg_cells q
end Go.Air
set_option maxRecDepth 100000
namespace Go.Air
open Go.Air.Try
theorem setL_nodup (n : Nat) (s : Nat → Bool) : (setL n s).Nodup := by
  unfold setL
  refine List.Pairwise.map _ ?_ (List.Pairwise.filter _ List.nodup_range)
  intro a b h
  omega
theorem comps_mem {R : Nat → Nat → Bool} {n : Nat} {c : List Int} : ∀ {k : Nat} {d : Nat → Bool}, c ∈ comps R n k d → ∃ a, a < n ∧ freeG R n d a = true ∧ c = setL n (mate R n a) ∨ ∃ a d', a < n ∧ freeG R n d' a = true ∧ c = setL n (mate R n a)
  | 0, d, h => by simp [comps] at h
  | k + 1, d, h => by
    rw [comps] at h
    split at h
    · simp at h
    · rename_i a hf
      obtain ⟨ha, hfr⟩ := free_find hf
      rcases List.mem_cons.1 h with rfl | h
      · exact ⟨a, .inl ⟨ha, hfr, rfl⟩⟩
      · obtain ⟨b, q⟩ := comps_mem h
        refine ⟨b, .inr ?_⟩
        rcases q with ⟨q1, q2, q3⟩ | q
        · exact ⟨b, _, q1, q2, q3⟩
        · exact q
theorem circ_mem {N : Int} {rs : List Arw} {c : List Int} (h : c ∈ circR N rs) : ∃ n a : Nat, N = (n : Int) ∧ n ≤ 24 ∧ a < n ∧ c = setL n (mate (rch (eA rs)) n a) ∧ 2 ≤ c.length := by
  obtain ⟨h1, h2⟩ := List.mem_filter.1 h
  unfold compsR at h1
  split at h1
  · rename_i hc
    obtain ⟨n, rfl, hn, _⟩ := check_ok hc
    obtain ⟨a, q⟩ := comps_mem h1
    simp only [Int.toNat_natCast] at q
    rcases q with ⟨q1, _, q3⟩ | ⟨b, _, q1, _, q3⟩
    · exact ⟨n, a, rfl, hn, q1, q3, by simpa [big] using h2⟩
    · exact ⟨n, b, rfl, hn, q1, q3, by simpa [big] using h2⟩
  · simp at h1
theorem circ_ok {n : Nat} {rs : List Arw} (h : circE (circR (n : Int) rs) = 0) : Okc n (circR (n : Int) rs) := by
  intro c hc
  obtain ⟨n', a, hn', _, _, rfl, _⟩ := circ_mem hc
  obtain rfl : n' = n := by omega
  refine ⟨?_, setL_nodup _ _, fun y hy => ?_⟩
  · unfold circE at h
    split at h
    · omega
    · rename_i hno
      have : ¬ 10 < (setL n' (mate (rch (eA rs)) n' a)).length := fun q => hno ⟨_, hc, q⟩
      omega
  · obtain ⟨j, rfl, hj, _⟩ := setL_mem.1 hy
    exact ⟨j, rfl, hj⟩
def TBx (hA hv h : H) (v : V) (tb : List (List Int × List Int)) : Prop := ∃ cs, Own hv 2 h v tb.length cs ∧ ∀ (j : Nat) (g vals : List Int), tb[j]? = some (g, vals) → ∃ c1 c2, cs[j * 2]? = some c1 ∧ cs[j * 2 + 1]? = some c2 ∧
  Own hA 1 h c1 g.length (ints g) ∧ Own hA 1 h c2 vals.length (ints vals) ∧ (v = .sn ∨ c1 = .sn ∨ blkV c1 ≠ blkV v) ∧ (v = .sn ∨ c2 = .sn ∨ blkV c2 ≠ blkV v)
def TBo (h0 h : H) (v : V) (tb : List (List Int × List Int)) : Prop := TBx h0 h0 h v tb
def TB (h : H) (v : V) (tb : List (List Int × List Int)) : Prop := ∃ cs, Sl 2 h v tb.length cs ∧ ∀ (j : Nat) (g vals : List Int), tb[j]? = some (g, vals) → ∃ c1 c2, cs[j * 2]? = some c1 ∧ cs[j * 2 + 1]? = some c2 ∧ Ints h c1 g ∧ Ints h c2 vals
section
variable {hA hv h h' : H} {v : V} {tb : List (List Int × List Int)}
theorem TBx.nil : TBx hA hv h .sn [] := ⟨[], .nil, fun j g vals hj => by simp at hj⟩
theorem TBx.rd (r : TBx hA hv h v tb) : TB h v tb := by
  obtain ⟨cs, o, hc⟩ := r
  refine ⟨cs, o.sl, fun j g vals hj => ?_⟩
  obtain ⟨c1, c2, q1, q2, q3, q4, _⟩ := hc j g vals hj
  exact ⟨c1, c2, q1, q2, q3.ints, q4.ints⟩
theorem TB.ext (r : TB h v tb) (e : Ext h h') : TB h' v tb := by
  obtain ⟨cs, s, hc⟩ := r
  refine ⟨cs, s.ext e, fun j g vals hj => ?_⟩
  obtain ⟨c1, c2, q1, q2, q3, q4⟩ := hc j g vals hj
  exact ⟨c1, c2, q1, q2, q3.ext e, q4.ext e⟩
theorem TBx.ext (r : TBx hA hv h v tb) (e : Ext h h') : TBx hA hv h' v tb := by
  obtain ⟨cs, o, hc⟩ := r
  refine ⟨cs, o.ext e, fun j g vals hj => ?_⟩
  obtain ⟨c1, c2, q1, q2, q3, q4, q5⟩ := hc j g vals hj
  exact ⟨c1, c2, q1, q2, q3.ext e, q4.ext e, q5⟩
theorem TBx.mono {hA' hv' : H} (r : TBx hA hv h v tb) (h1 : hA'.next ≤ hA.next) (h2 : hv'.next ≤ hv.next) : TBx hA' hv' h v tb := by
  obtain ⟨cs, o, hc⟩ := r
  refine ⟨cs, o.mono h2, fun j g vals hj => ?_⟩
  obtain ⟨c1, c2, q1, q2, q3, q4, q5⟩ := hc j g vals hj
  exact ⟨c1, c2, q1, q2, q3.mono h1, q4.mono h1, q5⟩
theorem TBx.step {g : H} {w w' u1 u2 : V} {gs vs : List Int} {cs : List V} (hc : ∀ (j : Nat) (g vals : List Int), tb[j]? = some (g, vals) → ∃ c1 c2, cs[j * 2]? = some c1 ∧ cs[j * 2 + 1]? = some c2 ∧
      Own hA 1 h c1 g.length (ints g) ∧ Own hA 1 h c2 vals.length (ints vals) ∧ (w = .sn ∨ c1 = .sn ∨ blkV c1 ≠ blkV w) ∧ (w = .sn ∨ c2 = .sn ∨ blkV c2 ≠ blkV w))
    (hl : cs.length = tb.length * 2) (i1 : Own hA 1 h u1 gs.length (ints gs)) (i2 : Own hA 1 h u2 vs.length (ints vs)) (n1 : w = .sn ∨ u1 = .sn ∨ blkV u1 ≠ blkV w) (n2 : w = .sn ∨ u2 = .sn ∨ blkV u2 ≠ blkV w)
    (o : Own hv 2 g w' (tb.length + 1) (cs ++ [u1, u2])) (n : h.next < g.next) (k : ∀ b, b < h.next → (w = .sn ∨ b ≠ blkV w) → g.get b = h.get b) (hb : h.next < blkV w') : TBx hA hv g w' (tb ++ [(gs, vs)]) := by
  have far : ∀ {u : V} {m : Nat} {ds : List V}, Own hA 1 h u m ds → (w' = .sn ∨ u = .sn ∨ blkV u ≠ blkV w') := by
    intro u m ds q
    rcases q.wlt' with z | z
    · exact .inr (.inl z)
    · exact .inr (.inr (by omega))
  refine ⟨cs ++ [u1, u2], by simpa using o, fun j a b hj => ?_⟩
  by_cases hjl : j < tb.length
  · rw [List.getElem?_append_left hjl] at hj
    obtain ⟨c1, c2, q1, q2, q3, q4, q5, q6⟩ := hc j a b hj
    exact ⟨c1, c2, by rw [List.getElem?_append_left (by omega)]; exact q1, by rw [List.getElem?_append_left (by omega)]; exact q2, q3.keepB (Nat.le_of_lt n) k q5, q4.keepB (Nat.le_of_lt n) k q6, far q3, far q4⟩
  · have hlt := (List.getElem?_eq_some_iff.1 hj).1
    simp at hlt
    obtain rfl : j = tb.length := by omega
    rw [List.getElem?_append_right (by omega)] at hj
    simp at hj
    obtain ⟨rfl, rfl⟩ := hj
    exact ⟨u1, u2, by rw [List.getElem?_append_right (by omega), hl]; simp, by rw [List.getElem?_append_right (by omega), hl]; simp, i1.keepB (Nat.le_of_lt n) k n1, i2.keepB (Nat.le_of_lt n) k n2, far i1, far i2⟩
end
theorem RowsO.ld {h0 h : H} {w : V} {xss : List (List Int)} (r : RowsO h0 h w xss) {i : Nat} {xs : List Int} (hx : xss[i]? = some xs) : ∃ c, ixV 1 w (.i .i64 (i : Int)) = some (.p (blkV w) (offV w + i * 1)) ∧ ldV h (.p (blkV w) (offV w + i * 1)) = some c ∧ Own h0 1 h c xs.length (ints xs) := by
  obtain ⟨cs, o, hc⟩ := r
  obtain ⟨c, q1, q2, _⟩ := hc i xs hx
  have hi := (List.getElem?_eq_some_iff.1 hx).1
  exact ⟨c, o.sl.ix hi, by rw [o.sl.ld1 hi, q1], q2⟩
structure PlanS where
  order : List Int
  off : Int
  tabs : List (List Int × List Int)
def PlanO (h0 h : H) (p : V) (P : PlanS) : Prop := ∃ ov tv, p = .agg [ov, .i .i64 P.off, tv] ∧ Own h0 1 h ov P.order.length (ints P.order) ∧ TBo h0 h tv P.tabs
theorem PlanO.none {h0 h : H} : PlanO h0 h (.agg [.sn, .i .i64 0, .sn]) ⟨[], 0, []⟩ := ⟨.sn, .sn, rfl, .nil, TBx.nil⟩
end Go.Air
set_option maxRecDepth 100000
namespace Go.Air
open Go.Air.Try
theorem t21 : tblA 21 = some a21 := by kernel_rfl
theorem fn_Few {h : H} {N k : Int} {v : V} {rs : List Arw} (hr : Arrs h v rs) (h0 : 0 ≤ k) (h1 : k ≤ 100) : WC tblA (.fn 21 [] []) [.agg [.i .i64 N, v], .i .i64 k] h fun u h' => Ext h h' ∧ u = .b (decide (N ≤ k ∧ (rs.length : Int) ≤ 2 * k * k)) := by
  refine (WC_in t21).2 ?_
  obtain ⟨e0, g0⟩ := rel_blk h N v
  simp only [go_sem, ↓reduceIte, r21_0]
  have hr0 := hr.ext e0
  generalize hh : h.new (.cells [.i .i64 N, v]) = hB at *
  have l0 : ldV hB (.p h.next 0) = some (.i .i64 N) := blk_ld g0 rfl
  have l1 : ldV hB (.p h.next 1) = some v := blk_ld g0 rfl
  have hb : k * k ≤ 100 * 100 := Int.mul_le_mul h1 h1 h0 (by omega)
  have hb0 : 0 ≤ k * k := Int.mul_nonneg h0 h0
  have w1 : IntKind.i64.wrap (2 * k) = 2 * k := wrap_in (by omega) (by omega)
  have w2 : IntKind.i64.wrap (2 * k * k) = 2 * k * k := by rw [Int.mul_assoc]; exact wrap_in (by omega) (by omega)
  by_cases c1 : N ≤ k
  · by_cases c2 : (rs.length : Int) ≤ 2 * k * k
    · simp only [go_sem, ↓reduceIte, r21_1, l0, l1, hr0.len, w1, w2, c1, c2]
      exact e0
    · simp only [go_sem, ↓reduceIte, r21_1, l0, l1, hr0.len, w1, w2, c1, c2]
      exact e0
  · simp only [go_sem, ↓reduceIte, r21_1, l0, l1, hr0.len, w1, w2, c1]
    exact ⟨e0, by simp⟩
theorem circled_ok {N : Int} {rs : List Arw} (h : circledS N rs = 0) : checkS N rs = 0 ∧ circE (circR N rs) = 0 := by
  unfold circledS at h
  split at h
  · rename_i hc; exact absurd h hc
  · rename_i hc; exact ⟨Classical.not_not.1 hc, h⟩
end Go.Air
set_option maxRecDepth 100000
namespace Go.Air
open Go.Air.Try
theorem yld_roundR {tbl : Nat → Option FI} {l : Nat} {t : List V} {ps : List Nat} {asg body : C} {args : List V} {h : H} {S : V → H → Prop} {L Lb Ld : Loop} (hg : h.get l = some (.loop L)) (hL : L = ⟨.ready, none, t, ps, asg, body⟩) (hLb : Lb = ⟨.busy, none, t, ps, asg, body⟩) (hLd : Ld = ⟨.done, some .ret, t, ps, asg, body⟩) (ha : args.length = ps.length)
    (hb : W tbl asg (updAll t ps args) h fun o t1 h1 => o = .norm ∧ h1 = h ∧ W tbl body t1 (h.put l (.loop Lb)) fun o _ h2 => h2.get l = some (.loop Lb) ∧ ((o = .norm ∧ S (.b true) (h2.put l (.loop L))) ∨ (o = .ret ∧ S (.b false) (h2.put l (.loop Ld))))) : WC tbl (.yld l) args h S := by
  subst hL hLb hLd
  refine (WC_yld hg ha).2 (hb.mono ?_)
  rintro o t1 h1 ⟨rfl, rfl, hw⟩
  simp only [hg, loopOut]
  refine ⟨trivial, hw.mono ?_⟩
  rintro o t2 h2 ⟨g2, ⟨rfl, hs⟩ | ⟨rfl, hs⟩⟩
  · simp only [g2]
    exact ⟨trivial, hs⟩
  · simp only [g2]
    exact ⟨trivial, hs⟩
theorem W_rangeR {tbl : Nat → Option FI} {f : X} {ps : List Nat} {asg body : C} {g : Nat} {a c t : List V} {h : H} {Q : Out → List V → H → Prop} (hf : f.ev t = .fn g a c)
    (hw : ∀ L Ld Lo Lq : Loop, L = ⟨.ready, none, t, ps, asg, body⟩ → Ld = ⟨.done, some .ret, t, ps, asg, body⟩ → WC tbl (.fn g a c) [.yld h.next] (h.new (.loop L)) fun _ h' => (h'.get h.next = some (.loop L) ∧ Q .norm t (h'.put h.next (.loop Lo))) ∨ (h'.get h.next = some (.loop Ld) ∧ Q .ret t (h'.put h.next (.loop Lq)))) :
    W tbl (.rangeF f ps asg body) t h Q := by
  refine (W_range hf).2 ((hw _ _ ⟨.over, none, t, ps, asg, body⟩ ⟨.over, some .ret, t, ps, asg, body⟩ rfl rfl).mono ?_)
  rintro _ h' (⟨g', q⟩ | ⟨g', q⟩)
  · simp only [g', loopOut]
    exact ⟨by simp, q⟩
  · simp only [g', loopOut]
    exact ⟨by simp, q⟩
theorem res_cell1 {t : List V} {h : H} {n b : Nat} {cs : List V} {x : V} (hn : nth t n = .p b 0) (g : h.get b = some (.cells cs)) (hc : cs[0]? = some x) : resultsOf t h [.cell n none] = some [x] := by
  simp [resultsOf, resultOf, hn, g, nth?_eq, hc]
def rowOk (rs : List Arw) (c vals : List Int) (s : Nat) : Prop := 0 ≤ vals.getD s 0 ∧ vals.getD s 0 ≤ 1000000 ∧ ∀ i, i < c.length → s.testBit i = true → vals.getD s 0 ≤ vals.getD (s - 2 ^ i) 0 + bhK rs c i (s - 2 ^ i) c.length
def tabOk (rs : List Arw) (c vals : List Int) : Prop := vals.length = 2 ^ c.length ∧ vals.getD 0 0 = 0 ∧ ∀ s, 1 ≤ s → s < 2 ^ c.length → rowOk rs c vals s
noncomputable def boolP (p : Prop) : Bool := @decide p (Classical.propDecidable p)
theorem boolP_true {p : Prop} (h : p) : boolP p = true := by unfold boolP; exact @decide_eq_true p (Classical.propDecidable p) h
theorem boolP_false {p : Prop} (h : ¬ p) : boolP p = false := by unfold boolP; exact @decide_eq_false p (Classical.propDecidable p) h
theorem row_zero {rs : List Arw} {c vals : List Int} (h : vals.getD 0 0 = 0) : rowOk rs c vals 0 := ⟨by omega, by omega, fun i _ hb => by simp at hb⟩
theorem getD_at {xs : List Int} {j : Nat} (hj : j < xs.length) : xs[j]? = some (xs.getD j 0) := by
  rw [List.getD_eq_getElem?_getD]
  obtain ⟨x, hx⟩ : ∃ x, xs[j]? = some x := ⟨_, List.getElem?_eq_getElem hj⟩
  rw [hx]; rfl
theorem t106 : tblA 106 = some a106 := by kernel_rfl
theorem fn_right {h : H} {gb : Nat} {cv w1 w2 : V} {rs : List Arw} {c gs vals : List Int} (hg : Grid h gb rs) (hc : Ints h cv c) (hm : c.length ≤ 10) (hin : Gst c) (hw : Wok rs) (h1 : Ints h w1 gs) (h2 : Ints h w2 vals) (hgn : gs.length ≤ 1000000) :
    WC tblA (.fn 106 [] []) [.p gb 0, cv, .agg [w1, w2]] h fun u h' => Ext h h' ∧ u = .b (boolP (gs = c ∧ tabOk rs c vals)) := by
  refine (WC_in t106).2 ?_
  have hBt := @boolP_true (gs = c ∧ tabOk rs c vals)
  have hBf := @boolP_false (gs = c ∧ tabOk rs c vals)
  generalize boolP (gs = c ∧ tabOk rs c vals) = B at *
  simp only [go_sem, ↓reduceIte, r106_0, H.next_new, hc.one.1]
  have e0 : Ext h ((((h.new (.cells [.p gb 0])).new (.cells [cv])).new (.cells [w1, w2])).new (.cells [.b false])) := ((((Ext.refl h).new _).new _).new _).new _
  have g3 : ((((h.new (.cells [.p gb 0])).new (.cells [cv])).new (.cells [w1, w2])).new (.cells [.b false])).get h.next = some (.cells [.p gb 0]) := by rw [get_new_lt (by simp <;> omega), get_new_lt (by simp <;> omega), get_new_lt (by simp), get_new_eq rfl]
  have g4 : ((((h.new (.cells [.p gb 0])).new (.cells [cv])).new (.cells [w1, w2])).new (.cells [.b false])).get (h.next + 1) = some (.cells [cv]) := by rw [get_new_lt (by simp <;> omega), get_new_lt (by simp), get_new_eq (by simp)]
  have g5 : ((((h.new (.cells [.p gb 0])).new (.cells [cv])).new (.cells [w1, w2])).new (.cells [.b false])).get (h.next + 1 + 1) = some (.cells [w1, w2]) := by rw [get_new_lt (by simp), get_new_eq (by simp)]
  have g6 : ((((h.new (.cells [.p gb 0])).new (.cells [cv])).new (.cells [w1, w2])).new (.cells [.b false])).get (h.next + 1 + 1 + 1) = some (.cells [.b false]) := by rw [get_new_eq (by simp)]
  have n0 : ((((h.new (.cells [.p gb 0])).new (.cells [cv])).new (.cells [w1, w2])).new (.cells [.b false])).next = h.next + 1 + 1 + 1 + 1 := by simp
  generalize ((((h.new (.cells [.p gb 0])).new (.cells [cv])).new (.cells [w1, w2])).new (.cells [.b false])) = hB at *
  have hcB := hc.ext e0
  have hgB := hg.ext e0
  have i1 := h1.ext e0
  have i2 := h2.ext e0
  have l4 : ldV hB (.p (h.next + 1) 0) = some cv := blk_ld g4 rfl
  have l50 : ldV hB (.p (h.next + 1 + 1) 0) = some w1 := blk_ld g5 rfl
  have l51 : ldV hB (.p (h.next + 1 + 1) 1) = some w2 := blk_ld g5 rfl
  have hM : 2 ^ c.length ≤ 1024 := by
    have := Nat.pow_le_pow_right (n := 2) (by omega) hm
    simpa using this
  have hM1 : 1 ≤ 2 ^ c.length := Nat.one_le_two_pow
  have hshl := bin_shl1 (k := c.length) (kd := .i64) (by omega)
  have htl : tabOk rs c vals → vals.length = 2 ^ c.length := fun q => q.1
  have hMc : 2 ^ c.length = 2 ^ c.length := rfl
  generalize hMM : 2 ^ c.length = M at hM hM1 hshl htl
  have stf : ∀ (hh : H) (x : Bool), hh.get (h.next + 1 + 1 + 1) = some (.cells [.b false]) → stV hh 1 (.p (h.next + 1 + 1 + 1) 0) (.b x) = some (hh.put (h.next + 1 + 1 + 1) (.cells [.b x])) := fun hh x gg => st_ref gg rfl rfl
  simp only [go_sem, ↓reduceIte, r106_1, l4, l50]
  refine (fn_Equal (h := hB.bare) (Sl.bare i1) (Sl.bare hcB) hgn).mono ?_
  rintro _ _ ⟨rfl, rfl⟩
  by_cases d1 : gs = c
  case neg =>
    simp only [go_sem, ↓reduceIte, r106_2, d1, stf hB false g6]
    rw [res_cell1 (b := h.next + 1 + 1 + 1) (cs := [.b false]) (x := .b false) (by simp only [go_sem, ↓reduceIte]) (by rw [H.get_put, if_pos rfl]) rfl]
    simp only [go_sem]
    exact ⟨Ext.put e0 (by omega) _, by rw [hBf (fun q => d1 q.1)]⟩
  subst d1
  by_cases d2 : (vals.length : Int) = (M : Int)
  case neg =>
    simp only [go_sem, ↓reduceIte, r106_2, l4, l51, i2.len, hcB.len, hshl, d2, stf hB false g6]
    rw [res_cell1 (b := h.next + 1 + 1 + 1) (cs := [.b false]) (x := .b false) (by simp only [go_sem, ↓reduceIte]) (by rw [H.get_put, if_pos rfl]) rfl]
    simp only [go_sem]
    exact ⟨Ext.put e0 (by omega) _, by rw [hBf (fun q => d2 (by have := htl q.2; omega))]⟩
  have d2' : vals.length = M := by omega
  have hv0 := getD_at (xs := vals) (j := 0) (by omega)
  have hix0 : ixV 1 w2 (.i .i64 0) = some (.p (blkV w2) (offV w2 + 0 * 1)) := i2.ix (i := 0) (by omega)
  have hld0 := i2.ld hv0
  by_cases d3 : vals.getD 0 0 = 0
  case neg =>
    simp only [go_sem, ↓reduceIte, r106_2, l4, l51, i2.len, hcB.len, hshl, d2, hix0, hld0, d3, stf hB false g6]
    rw [res_cell1 (b := h.next + 1 + 1 + 1) (cs := [.b false]) (x := .b false) (by simp only [go_sem, ↓reduceIte]) (by rw [H.get_put, if_pos rfl]) rfl]
    simp only [go_sem]
    exact ⟨Ext.put e0 (by omega) _, by rw [hBf (fun q => d3 q.2.2.1)]⟩
  simp only [go_sem, ↓reduceIte, r106_3, l4, l51, i2.len, hcB.len, hshl, d2, hix0, hld0, d3]
  have hcv : cv = .sn ∨ (∃ a, cv = .se a) ∨ blkV cv < h.next := by
    rcases hc with ⟨_, _, q | q⟩ | ⟨b, off, cap, g, bl, rfl, hb, _⟩
    · exact .inl q
    · exact .inr (.inl q)
    · exact .inr (.inr hb)
  have hwv : w2 = .sn ∨ (∃ a, w2 = .se a) ∨ blkV w2 < h.next := by
    rcases h2 with ⟨_, _, q | q⟩ | ⟨b, off, cap, g, bl, rfl, hb, _⟩
    · exact .inl q
    · exact .inr (.inl q)
    · exact .inr (.inr hb)
  have hgb := hg.1
  refine W_while (fun k t h' => ∃ (s : Nat), k = M - s ∧ s ≤ M ∧ t.length = 74 ∧ nth t 3 = .p h.next 0 ∧ nth t 4 = .p (h.next + 1) 0 ∧ nth t 5 = .p (h.next + 1 + 1) 0 ∧ nth t 6 = .p (h.next + 1 + 1 + 1) 0 ∧ nth t 33 = w2 ∧ nth t 34 = .i .i64 (M : Int) ∧ nth t 35 = .i .i64 (s : Int) ∧ Ext hB h' ∧ ∀ s', s' < s → rowOk rs gs vals s') ?_ M ?_
  · rintro k t h' ⟨s, rfl, hsM, tl, t3, t4, t5, t6, t33, t34, t35, e', hrows⟩
    unfold b106_1
    have j2 := i2.ext e'
    have g6' := e'.get (by omega) g6
    have nx' := e'.nx
    by_cases hlt : s < M
    · have hltI : (s : Int) < (M : Int) := by omega
      have hvs := getD_at (xs := vals) (j := s) (by omega)
      obtain ⟨h3, s3, e3, g7, n3⟩ : ∃ h3, stV (h'.new (.cells [.i .i64 0])) 1 (.p h'.next 0) (.i .i64 (s : Int)) = some h3 ∧ Ext h' h3 ∧ h3.get h'.next = some (.cells [.i .i64 (s : Int)]) ∧ h3.next = h'.next + 1 := st_newK h' [.i .i64 0] [.i .i64 (s : Int)] rfl (by intro u hu; simp at hu; subst hu; rfl)
      have e3B := e'.trans e3
      have g63 := e3B.get (by omega) g6
      have bad : ¬ rowOk rs gs vals s → ¬ (gs = gs ∧ tabOk rs gs vals) := by
        intro hn q
        by_cases q0 : s = 0
        · subst q0; exact hn (row_zero d3)
        · exact hn (q.2.2.2 s (by omega) (by omega))
      by_cases d4 : vals.getD s 0 < 0
      · simp only [go_sem, ↓reduceIte, r106_4, r106_5, r106_6, r106_7, tl, t3, t4, t5, t6, t33, t34, t35, hltI, j2.ix (show s < vals.length by omega), j2.ld hvs, s3, d4, stf h3 false g63]
        rw [res_cell1 (b := h.next + 1 + 1 + 1) (cs := [.b false]) (x := .b false) (by simp only [go_sem, ↓reduceIte, tl, t6]) (by rw [H.get_put, if_pos rfl]) rfl]
        simp only [go_sem]
        exact ⟨Ext.put (e0.trans e3B) (by omega) _, by rw [hBf (bad fun q => by have := q.1; omega)]⟩
      by_cases d5 : 1000000 < vals.getD s 0
      · simp only [go_sem, ↓reduceIte, r106_4, r106_5, r106_6, r106_7, tl, t3, t4, t5, t6, t33, t34, t35, hltI, j2.ix (show s < vals.length by omega), j2.ld hvs, s3, d4, d5, stf h3 false g63]
        rw [res_cell1 (b := h.next + 1 + 1 + 1) (cs := [.b false]) (x := .b false) (by simp only [go_sem, ↓reduceIte, tl, t6]) (by rw [H.get_put, if_pos rfl]) rfl]
        simp only [go_sem]
        exact ⟨Ext.put (e0.trans e3B) (by omega) _, by rw [hBf (bad fun q => by have := q.2.1; omega)]⟩
      have l73 : ldV h3 (.p h'.next 0) = some (.i .i64 (s : Int)) := blk_ld g7 rfl
      have g43 := e3B.get (by omega) g4
      have l43 : ldV h3 (.p (h.next + 1) 0) = some cv := blk_ld g43 rfl
      have hc3 := hcB.ext e3B
      simp only [go_sem, ↓reduceIte, r106_4, r106_5, r106_6, r106_8, tl, t3, t4, t5, t6, t33, t34, t35, hltI, j2.ix (show s < vals.length by omega), j2.ld hvs, s3, d4, d5, l73, l43, hc3.len]
      have e5 : Ext h3 ((h3.new (.cells [.i .i64 (s : Int)])).new (.cells [.i .i64 (gs.length : Int)])) := ((Ext.refl h3).new _).new _
      have gsx : ((h3.new (.cells [.i .i64 (s : Int)])).new (.cells [.i .i64 (gs.length : Int)])).get h3.next = some (.cells [.i .i64 (s : Int)]) := by rw [get_new_lt (by simp), get_new_eq rfl]
      have gmx : ((h3.new (.cells [.i .i64 (s : Int)])).new (.cells [.i .i64 (gs.length : Int)])).get (h3.next + 1) = some (.cells [.i .i64 (gs.length : Int)]) := by rw [get_new_eq (by simp)]
      have n5 : ((h3.new (.cells [.i .i64 (s : Int)])).new (.cells [.i .i64 (gs.length : Int)])).next = h3.next + 1 + 1 := by simp
      generalize ((h3.new (.cells [.i .i64 (s : Int)])).new (.cells [.i .i64 (gs.length : Int)])) = h5 at *
      refine W_gen (fun t => t.length = 74 ∧ nth t 3 = .p h.next 0 ∧ nth t 4 = .p (h.next + 1) 0 ∧ nth t 5 = .p (h.next + 1 + 1) 0 ∧ nth t 6 = .p (h.next + 1 + 1 + 1) 0 ∧ nth t 7 = .p h'.next 0 ∧ nth t 33 = w2 ∧ nth t 34 = .i .i64 (M : Int) ∧ nth t 35 = .i .i64 (s : Int) ∧ nth t 49 = .fn 133 [] [.p (h3.next + 1) 0, .p h3.next 0]) ⟨by simp only [go_sem, tl], by simp only [go_sem, ↓reduceIte, tl, t3], by simp only [go_sem, ↓reduceIte, tl, t4], by simp only [go_sem, ↓reduceIte, tl, t5], by simp only [go_sem, ↓reduceIte, tl, t6], by simp only [go_sem, ↓reduceIte, tl], by simp only [go_sem, ↓reduceIte, tl, t33], by simp only [go_sem, ↓reduceIte, tl, t34], by simp only [go_sem, ↓reduceIte, tl, t35], by simp only [go_sem, ↓reduceIte, tl]⟩ ?_
      clear tl t3 t4 t5 t6 t33 t34 t35
      rintro t ⟨tl, t3, t4, t5, t6, t7, t33, t34, t35, t49⟩
      refine W_rangeR (show (X.t 49).ev t = _ from t49) ?_
      intro L Ld Lo Lq hLdef hLddef
      obtain ⟨Lb, hLb⟩ : ∃ Lb : Loop, Lb = ⟨.busy, none, t, [50, 51], .seq (.ops r106_9) (.ops r106_10), b106_0⟩ := ⟨_, rfl⟩
      have eL : Ext h5 (h5.new (.loop L)) := (Ext.refl h5).new _
      have gL : (h5.new (.loop L)).get h5.next = some (.loop L) := get_new_eq rfl
      have nL : (h5.new (.loop L)).next = h5.next + 1 := by simp
      generalize h5.new (.loop L) = hL at *
      have e3L := e5.trans eL
      have eBL := e3B.trans e3L
      have gsL := eL.get (by omega) gsx
      have gmL := eL.get (by omega) gmx
      have g3L := eBL.get (by omega) g3
      have g4L := eBL.get (by omega) g4
      have g5L := eBL.get (by omega) g5
      have g6L := eBL.get (by omega) g6
      have g7L := e3L.get (by omega) g7
      have hgL := hgB.ext eBL
      have hcL := hcB.ext eBL
      have hwL := i2.ext eBL
      refine (fn_members1 (show gs.length ≤ 24 by omega) (show s < 1000000000 by omega)
        (fun i h' => ExtX (· = h5.next) hL h' ∧ h'.get h5.next = some (.loop L) ∧ ∀ i', i' < i → s.testBit i' = true → vals.getD s 0 ≤ vals.getD (s - 2 ^ i') 0 + bhK rs gs i' (s - 2 ^ i') gs.length)
        (fun h' => ExtX (fun b => b = h5.next ∨ b = h.next + 1 + 1 + 1) hL h' ∧ h'.get (h.next + 1 + 1 + 1) = some (.cells [.b false]) ∧ h'.get h5.next = some (.loop Ld) ∧ ¬ rowOk rs gs vals s) ?_ ?_ ?_ ⟨.refl _ _, gL, fun i' hi' => by omega⟩).mono ?_
      · rintro i h' ⟨x, _, _⟩
        exact ⟨x.get (by omega) (by omega) gmL, x.get (by omega) (by omega) gsL⟩
      · rintro i hi ⟨x', gl, hall⟩ hil hbit
        refine yld_roundR gl hLdef hLb hLddef rfl ?_
        rw [updAll_two]
        simp only [go_sem, ↓reduceIte, r106_9, r106_10, tl]
        have x2 : ExtX (· = h5.next) hL (hi.put h5.next (.loop Lb)) := x'.put (.inr rfl) _
        have gl2 : (hi.put h5.next (.loop Lb)).get h5.next = some (.loop Lb) := by rw [H.get_put, if_pos rfl]
        generalize hi.put h5.next (.loop Lb) = h6 at *
        have nx6 := x2.nx
        have hg6 := hgL.extX x2 (by omega)
        have hc6 : Ints h6 cv gs := Sl.keepX hcL x2 (by
          rcases hcv with z | z | z
          · exact .inl z
          · exact .inr (.inl z)
          · exact .inr (.inr (by omega)))
        have hw6 : Ints h6 w2 vals := Sl.keepX hwL x2 (by
          rcases hwv with z | z | z
          · exact .inl z
          · exact .inr (.inl z)
          · exact .inr (.inr (by omega)))
        have q3 : ldV h6 (.p h.next 0) = some (.p gb 0) := blk_ld (x2.get (by omega) (by omega) g3L) rfl
        have q4 : ldV h6 (.p (h.next + 1) 0) = some cv := blk_ld (x2.get (by omega) (by omega) g4L) rfl
        have q5 : ldV h6 (.p (h.next + 1 + 1) 1) = some w2 := blk_ld (x2.get (by omega) (by omega) g5L) rfl
        have q7 : ldV h6 (.p h'.next 0) = some (.i .i64 (s : Int)) := blk_ld (x2.get (by omega) (by omega) g7L) rfl
        have hand := bin_andNot (show s < 4611686018427387904 by omega) hbit
        have hble := bit_le hbit
        have hpp : 0 < 2 ^ i := Nat.two_pow_pos i
        have hvr := getD_at (xs := vals) (j := s - 2 ^ i) (by omega)
        simp only [b106_0]
        simp only [go_sem, ↓reduceIte]
        apply W_pure (by simp [r106_11])
        simp only [go_sem, ↓reduceIte, r106_11, tl, t3, t4, t5, t6, t7, q3, q4, q5, q7, hand, hw6.ix (show s < vals.length by omega), hw6.ix (show s - 2 ^ i < vals.length by omega), hw6.ld hvs, hw6.ld hvr]
        refine (fn_behind (h := h6.bare) hg6 (Sl.bare hc6) rfl (by omega) hin hil (show s - 2 ^ i < 1000000000 by omega) hw).mono ?_
        rintro _ h7 ⟨e7, rfl⟩
        have hold := e7.old
        replace e7 := e7.back
        have hrow := hrows (s - 2 ^ i) (by omega)
        have hbb := bhK_bound hw gs i (s - 2 ^ i) gs.length
        have hsum : IntKind.i64.wrap (vals.getD (s - 2 ^ i) 0 + bhK rs gs i (s - 2 ^ i) gs.length) = vals.getD (s - 2 ^ i) 0 + bhK rs gs i (s - 2 ^ i) gs.length := by
          have := hrow.1
          have := hrow.2.1
          exact wrap_in (by omega) (by omega)
        simp only [go_sem, ↓reduceIte, hold, hsum, tl]
        generalize h6.back h7 = h8 at *
        have x8 := x2.trans (.of e7)
        have gl8 := e7.get (by omega) gl2
        have g68 := x8.get (by omega) (by omega) g6L
        by_cases d6 : vals.getD (s - 2 ^ i) 0 + bhK rs gs i (s - 2 ^ i) gs.length < vals.getD s 0
        · simp only [go_sem, ↓reduceIte, r106_12, d6, tl, t6, stf h8 false g68]
          refine ⟨by rw [H.get_put, if_neg (by omega)]; exact gl8, .inr (.inr ⟨((x8.mono fun b hb => .inl hb).put (.inr (.inr rfl)) _).put (.inr (.inl rfl)) _, ?_, ?_, ?_⟩)⟩
          · rw [H.get_put, if_neg (by omega), H.get_put, if_pos rfl]
          · rw [H.get_put, if_pos rfl]
          · intro q
            have := q.2.2 i hil hbit
            omega
        · simp only [go_sem, ↓reduceIte, d6]
          refine ⟨gl8, .inl (.inl ⟨x8.put (.inr rfl) _, ?_, ?_⟩)⟩
          · rw [H.get_put, if_pos rfl]
          · intro i' hi' hb'
            by_cases q : i' = i
            · subst q; omega
            · exact hall i' (by omega) hb'
      · rintro i hi ⟨x', gl, hall⟩ hil hbit
        refine ⟨x', gl, fun i' hi' hb' => ?_⟩
        by_cases q : i' = i
        · subst q; rw [hbit] at hb'; cases hb'
        · exact hall i' (by omega) hb'
      · rintro _ h6 (⟨x', gl, hall⟩ | ⟨x', g6i, gl, hnr⟩)
        · refine .inl ⟨gl, ?_⟩
          have x8 : ExtX (· = h5.next) hL (h6.put h5.next (.loop Lo)) := x'.put (.inr rfl) _
          generalize h6.put h5.next (.loop Lo) = h8 at *
          simp only [go_sem, ↓reduceIte, r106_13, tl, t3, t4, t5, t6, t33, t34, t35, wrap_succ (show s < 1000000000 by omega)]
          refine ⟨M - (s + 1), by omega, s + 1, rfl, hlt, rfl, x8.ext eBL (fun b hb => by omega), fun s' hs' => ?_⟩
          by_cases q : s' = s
          · subst q
            exact ⟨by omega, by omega, fun i hi hb => hall i hi hb⟩
          · exact hrows s' (by omega)
        · refine .inr ⟨gl, ?_⟩
          have x8 : ExtX (fun b => b = h5.next ∨ b = h.next + 1 + 1 + 1) hL (h6.put h5.next (.loop Lq)) := x'.put (.inr (.inl rfl)) _
          have g68 : (h6.put h5.next (.loop Lq)).get (h.next + 1 + 1 + 1) = some (.cells [.b false]) := by rw [H.get_put, if_neg (by omega)]; exact g6i
          generalize h6.put h5.next (.loop Lq) = h8 at *
          simp only [go_sem, ↓reduceIte]
          rw [res_cell1 (x := .b false) t6 g68 rfl]
          simp only [go_sem]
          exact ⟨x8.ext (e0.trans eBL) (fun b hb => by omega), by rw [hBf (bad hnr)]⟩
    · have hltI : ¬ (s : Int) < (M : Int) := by omega
      have hok : gs = gs ∧ tabOk rs gs vals := ⟨rfl, by rw [hMM]; exact d2', d3, fun s' _ hs' => hrows s' (by omega)⟩
      simp only [go_sem, ↓reduceIte, r106_4, r106_14, tl, t3, t4, t5, t6, t33, t34, t35, hltI, stf h' true g6']
      rw [res_cell1 (x := .b true) (b := h.next + 1 + 1 + 1) (cs := [.b true]) (by simp only [go_sem, ↓reduceIte, tl, t6]) (by rw [H.get_put, if_pos rfl]) rfl]
      simp only [go_sem]
      exact ⟨(e0.trans e').put (by omega) _, by rw [hBt hok]⟩
  · refine ⟨0, by omega, by omega, ?_⟩
    simp only [go_sem, ↓reduceIte]
    exact ⟨.refl _, fun s' hs' => by omega⟩
end Go.Air
set_option maxRecDepth 100000
namespace Go.Air
open Go.Air.Try
theorem t107 : tblA 107 = some a107 := by kernel_rfl
theorem fn_bounds {h : H} {N : Int} {v w1 w2 : V} {rs : List Arw} {c vals : List Int} (hr : Arrs h v rs) (hrn : rs.length ≤ 1000000) (gr : GoodR N rs) (h1 : Ints h w1 c) (h2 : Ints h w2 vals) (hm : c.length ≤ 10) (hin : Gst c) (hd : c.Nodup) :
    WC tblA (.fn 107 [] []) [.agg [.i .i64 N, v], .agg [w1, w2]] h fun u h' => Ext h h' ∧ u = .b (boolP (tabOk rs c vals)) := by
  refine (WC_in t107).2 ?_
  have hw : Wok rs := wok_of gr.1
  have hBt := @boolP_true (tabOk rs c vals)
  have hBf := @boolP_false (tabOk rs c vals)
  generalize boolP (tabOk rs c vals) = B at *
  simp only [go_sem, ↓reduceIte, r107_0, H.next_new]
  have e0 : Ext h ((h.new (.cells [.i .i64 N, v])).new (.cells [w1, w2])) := ((Ext.refl h).new _).new _
  have g0 : ((h.new (.cells [.i .i64 N, v])).new (.cells [w1, w2])).get h.next = some (.cells [.i .i64 N, v]) := by rw [get_new_lt (by simp), get_new_eq rfl]
  have g5 : ((h.new (.cells [.i .i64 N, v])).new (.cells [w1, w2])).get (h.next + 1) = some (.cells [w1, w2]) := by rw [get_new_eq (by simp)]
  have n0 : ((h.new (.cells [.i .i64 N, v])).new (.cells [w1, w2])).next = h.next + 1 + 1 := by simp
  generalize ((h.new (.cells [.i .i64 N, v])).new (.cells [w1, w2])) = hB at *
  have hrB := hr.ext e0
  have i1 := h1.ext e0
  have i2 := h2.ext e0
  have hM : 2 ^ c.length ≤ 1024 := by
    have := Nat.pow_le_pow_right (n := 2) (by omega) hm
    simpa using this
  have hM1 : 1 ≤ 2 ^ c.length := Nat.one_le_two_pow
  have hshl := bin_shl1 (k := c.length) (kd := .u64) (by omega)
  have hcvm := conv_u64 (show c.length < 4611686018427387904 by omega)
  have htl : tabOk rs c vals → vals.length = 2 ^ c.length := fun q => q.1
  have htl2 : vals.length = 2 ^ c.length → vals.getD 0 0 = 0 → (∀ s, 1 ≤ s → s < vals.length → rowOk rs c vals s) → tabOk rs c vals := fun q0 q1 q2 => ⟨q0, q1, fun s a b => q2 s a (by omega)⟩
  generalize hMM : 2 ^ c.length = M at hM hM1 hshl htl htl2
  have l50 : ∀ {h'}, Ext hB h' → ldV h' (.p (h.next + 1) 0) = some w1 := fun e => blk_ld (e.get (by omega) g5) rfl
  have l51 : ∀ {h'}, Ext hB h' → ldV h' (.p (h.next + 1) 1) = some w2 := fun e => blk_ld (e.get (by omega) g5) rfl
  by_cases d2 : (vals.length : Int) = (M : Int)
  case neg =>
    simp only [go_sem, ↓reduceIte, r107_1, r107_2, l50 (.refl _), l51 (.refl _), i2.len, i1.len, hcvm, hshl, d2]
    exact ⟨e0, by rw [hBf fun q => d2 (by have := htl q; omega)]⟩
  have d2' : vals.length = M := by omega
  have hv0 := getD_at (xs := vals) (j := 0) (by omega)
  have hix0 : ixV 1 w2 (.i .i64 0) = some (.p (blkV w2) (offV w2 + 0 * 1)) := i2.ix (i := 0) (by omega)
  have hld0 := i2.ld hv0
  by_cases d3 : vals.getD 0 0 = 0
  case neg =>
    simp only [go_sem, ↓reduceIte, r107_1, r107_2, l50 (.refl _), l51 (.refl _), i2.len, i1.len, hcvm, hshl, d2, hix0, hld0, d3]
    exact ⟨e0, by rw [hBf fun q => d3 q.2.1]⟩
  simp only [go_sem, ↓reduceIte, r107_1, r107_3, l50 (.refl _), l51 (.refl _), i2.len, i1.len, hcvm, hshl, d2, hix0, hld0, d3]
  refine W_while (fun k t h' => ∃ (s : Nat), k = M - s ∧ 1 ≤ s ∧ s ≤ M ∧ t.length = 88 ∧ nth t 2 = .p h.next 0 ∧ nth t 3 = .p (h.next + 1) 0 ∧ nth t 5 = .i .i64 (s : Int) ∧ Ext hB h' ∧ ∀ s', s' < s → rowOk rs c vals s') ?_ (M - 1) ?_
  · rintro k t h' ⟨s, rfl, hs1, hsM, tl, t2, t3, t5, e', hrows⟩
    unfold b107_1
    have j2 := i2.ext e'
    have j1 := i1.ext e'
    by_cases hlt : s < M
    · have hltI : (s : Int) < (M : Int) := by omega
      have hvs := getD_at (xs := vals) (j := s) (by omega)
      have bad : ¬ rowOk rs c vals s → ¬ tabOk rs c vals := fun hn q => hn (q.2.2 s hs1 (by omega))
      by_cases d4 : vals.getD s 0 < 0
      · simp only [go_sem, ↓reduceIte, r107_4, r107_6, r107_7, tl, t2, t3, t5, l51 e', j2.len, d2, hltI, j2.ix (show s < vals.length by omega), j2.ld hvs, d4]
        exact ⟨e0.trans e', by rw [hBf (bad fun q => by have := q.1; omega)]⟩
      by_cases d5 : 1000000 < vals.getD s 0
      · simp only [go_sem, ↓reduceIte, r107_4, r107_6, r107_7, tl, t2, t3, t5, l51 e', j2.len, d2, hltI, j2.ix (show s < vals.length by omega), j2.ld hvs, d4, d5]
        exact ⟨e0.trans e', by rw [hBf (bad fun q => by have := q.2.1; omega)]⟩
      simp only [go_sem, ↓reduceIte, r107_4, r107_6, r107_8, tl, t2, t3, t5, l51 e', j2.len, d2, hltI, j2.ix (show s < vals.length by omega), j2.ld hvs, d4, d5]
      refine W_while (fun k t h' => ∃ (i : Nat), k = c.length - i ∧ i ≤ c.length ∧ t.length = 88 ∧ nth t 2 = .p h.next 0 ∧ nth t 3 = .p (h.next + 1) 0 ∧ nth t 5 = .i .i64 (s : Int) ∧ nth t 6 = .i .i64 (i : Int) ∧ Ext hB h' ∧ ∀ i', i' < i → s.testBit i' = true → vals.getD s 0 ≤ vals.getD (s - 2 ^ i') 0 + bhK rs c i' (s - 2 ^ i') c.length) ?_ c.length ?_
      · rintro k t h' ⟨i, rfl, hi, tl, t2, t3, t5, t6, e', hall⟩
        unfold b107_0
        have j2 := i2.ext e'
        have j1 := i1.ext e'
        by_cases hlti : i < c.length
        · have hltiI : (i : Int) < (c.length : Int) := by omega
          obtain ⟨x, hx⟩ : ∃ x, c[i]? = some x := ⟨_, List.getElem?_eq_getElem hlti⟩
          have hxD : c.getD i 0 = x := by rw [List.getD_eq_getElem?_getD, hx]; rfl
          have hsh := bin_shr (s := s) (k := i) (kd := .u64) (by omega)
          have hsmall : s / 2 ^ i < 4611686018427387904 := Nat.lt_of_le_of_lt (Nat.div_le_self _ _) (by omega)
          have hand := bin_and (a := s / 2 ^ i) (b := 1) hsmall (by omega)
          rw [shr_and] at hand
          have hcv := conv_u64 (show i < 4611686018427387904 by omega)
          cases hb : s.testBit i
          · rw [hb] at hand
            simp only [Bool.false_eq_true, if_false, Int.natCast_zero, Int.natCast_one] at hand
            simp only [go_sem, ↓reduceIte, r107_9, r107_10, r107_11, tl, t2, t3, t5, t6, l50 e', j1.len, hltiI, hcv, hsh, hand, wrap_succ (show i < 1000000000 by omega)]
            refine ⟨c.length - (i + 1), by omega, i + 1, rfl, hlti, rfl, e', fun i' hi' hb' => ?_⟩
            by_cases q : i' = i
            · subst q; rw [hb] at hb'; cases hb'
            · exact hall i' (by omega) hb'
          · rw [hb] at hand
            simp only [if_true, Int.natCast_one] at hand
            have hble := bit_le hb
            have hpp : 0 < 2 ^ i := Nat.two_pow_pos i
            have hsub : IntKind.i64.wrap ((s : Int) - ((2 ^ i : Nat) : Int)) = ((s - 2 ^ i : Nat) : Int) := by rw [wrap_in (by omega) (by omega)]; omega
            simp only [go_sem, ↓reduceIte, r107_9, r107_11, r107_12, tl, t2, t3, t5, t6, l50 e', j1.len, hltiI, hcv, hsh, hand, bin_shl1 (kd := .u64) (show i < 62 by omega), hsub]
            have l2 : ldnV h' 2 (.p h.next 0) = some (.agg [.i .i64 N, v]) := blk_ldn (e'.get (by omega) g0) rfl
            apply W_pure (by simp [r107_13])
            simp only [go_sem, ↓reduceIte, r107_13, tl, t2, t3, t5, t6, l2, l50 e', j1.ix hlti, j1.ld hx]
            refine (fn_subset (h := h'.bare) (Sl.bare j1) rfl (by omega) (show s - 2 ^ i < 1000000000 by omega)).mono ?_
            rintro u h3 ⟨e3, o3⟩
            have hold := e3.old
            replace e3 := e3.back
            have o3' : Own h' 1 (h'.back h3) u (subL c (s - 2 ^ i) c.length).length (ints (subL c (s - 2 ^ i) c.length)) := o3
            simp only [go_sem, ↓reduceIte, hold, tl, t2, t3, t5, t6]
            generalize h'.back h3 = h4 at *
            have hlen := subL_len c (s - 2 ^ i) c.length
            refine (fn_refBehind (h := h4.bare) (N := N) (Sl.bare ((hrB.ext e').ext e3)) hrn gr (Sl.bare o3'.ints) (by omega)).mono ?_
            rintro _ h5 ⟨e5, rfl⟩
            have hold5 := e5.old
            replace e5 := e5.back
            have hbh : offT rs (hit x (subL c (s - 2 ^ i) c.length)) = bhK rs c i (s - 2 ^ i) c.length := by rw [← hxD]; exact hit_bh gr hd i _ c.length (by omega)
            have b2 := bhK_bound hw c i (s - 2 ^ i) c.length
            have hrow := hrows (s - 2 ^ i) (by omega)
            have hsum : IntKind.i64.wrap (vals.getD (s - 2 ^ i) 0 + bhK rs c i (s - 2 ^ i) c.length) = vals.getD (s - 2 ^ i) 0 + bhK rs c i (s - 2 ^ i) c.length := by
              have := hrow.1
              have := hrow.2.1
              exact wrap_in (by omega) (by omega)
            simp only [go_sem, ↓reduceIte, hold5, hbh, tl, t2, t3, t5, t6]
            generalize h4.back h5 = h6 at *
            have e6 := (e'.trans e3).trans e5
            have j6 := i2.ext e6
            have hvr := getD_at (xs := vals) (j := s - 2 ^ i) (by omega)
            by_cases d6 : vals.getD (s - 2 ^ i) 0 + bhK rs c i (s - 2 ^ i) c.length < vals.getD s 0
            · simp only [go_sem, ↓reduceIte, r107_14, r107_15, tl, t2, t3, t5, t6, l51 e6, j6.ix (show s < vals.length by omega), j6.ix (show s - 2 ^ i < vals.length by omega), j6.ld hvs, j6.ld hvr, hsum, d6]
              exact ⟨e0.trans e6, by rw [hBf (bad fun q => by have := q.2.2 i hlti hb; omega)]⟩
            · simp only [go_sem, ↓reduceIte, r107_10, r107_14, tl, t2, t3, t5, t6, l51 e6, j6.ix (show s < vals.length by omega), j6.ix (show s - 2 ^ i < vals.length by omega), j6.ld hvs, j6.ld hvr, hsum, d6, wrap_succ (show i < 1000000000 by omega)]
              refine ⟨c.length - (i + 1), by omega, i + 1, rfl, hlti, rfl, e6, fun i' hi' hb' => ?_⟩
              by_cases q : i' = i
              · subst q; omega
              · exact hall i' (by omega) hb'
        · have hltiI : ¬ (i : Int) < (c.length : Int) := by omega
          simp only [go_sem, ↓reduceIte, r107_9, r107_5, tl, t2, t3, t5, t6, l50 e', j1.len, hltiI, wrap_succ (show s < 1000000000 by omega)]
          refine ⟨M - (s + 1), by omega, s + 1, rfl, by omega, hlt, rfl, e', fun s' hs' => ?_⟩
          by_cases q : s' = s
          · subst q
            exact ⟨by omega, by omega, fun i' hi' hb' => hall i' (by omega) hb'⟩
          · exact hrows s' (by omega)
      · refine ⟨0, by omega, by omega, ?_⟩
        simp only [go_sem, ↓reduceIte, tl, t2, t3, t5]
        exact ⟨e', fun i' hi' => by omega⟩
    · have hltI : ¬ (s : Int) < (M : Int) := by omega
      simp only [go_sem, ↓reduceIte, r107_4, r107_16, tl, t2, t3, t5, l51 e', j2.len, d2, hltI]
      exact ⟨e0.trans e', by rw [hBt (htl2 d2' d3 fun s' _ hs' => hrows s' (by omega))]⟩
  · refine ⟨1, by omega, by omega, by omega, ?_⟩
    simp only [go_sem, ↓reduceIte]
    refine ⟨rfl, .refl _, fun s' hs' => ?_⟩
    obtain rfl : s' = 0 := by omega
    exact row_zero d3
def slimP (P : PlanS) : Prop := P.tabs.length ≤ 12 ∧ P.order.length ≤ 60 ∧ ∀ p ∈ P.tabs, p.1.length ≤ 10 ∧ p.2.length ≤ 1100
def PlanR (h : H) (p : V) (P : PlanS) : Prop := ∃ ov tv, p = .agg [ov, .i .i64 P.off, tv] ∧ Ints h ov P.order ∧ TB h tv P.tabs
theorem PlanR.ext {h h' : H} {p : V} {P : PlanS} (r : PlanR h p P) (e : Ext h h') : PlanR h' p P := by
  obtain ⟨ov, tv, q, o, t⟩ := r
  exact ⟨ov, tv, q, o.ext e, t.ext e⟩
theorem PlanO.rd {h0 h : H} {p : V} {P : PlanS} (r : PlanO h0 h p P) : PlanR h p P := by
  obtain ⟨ov, tv, q, o, t⟩ := r
  exact ⟨ov, tv, q, o.ints, TBx.rd t⟩
theorem TB.len {h : H} {v : V} {tb : List (List Int × List Int)} (r : TB h v tb) : lenV v = some tb.length := let ⟨_, s, _⟩ := r; s.len
theorem TB.ix {h : H} {v : V} {tb : List (List Int × List Int)} (r : TB h v tb) {i : Nat} (hi : i < tb.length) : ixV 2 v (.i .i64 (i : Int)) = some (.p (blkV v) (offV v + i * 2)) := let ⟨_, s, _⟩ := r; s.ix hi
theorem TB.one {h : H} {v : V} {tb : List (List Int × List Int)} (r : TB h v tb) : v.cells = [v] ∧ v.oneCell = true := by
  obtain ⟨cs, s, _⟩ := r
  rcases s with ⟨_, _, rfl | ⟨a, rfl⟩⟩ | ⟨b, off, cap, g, bl, rfl, _⟩ <;> exact ⟨rfl, rfl⟩
theorem TB.at {h : H} {v : V} {tb : List (List Int × List Int)} (r : TB h v tb) {i : Nat} {g vals : List Int} (hx : tb[i]? = some (g, vals)) : ∃ c1 c2, ldnV h 2 (.p (blkV v) (offV v + i * 2)) = some (.agg [c1, c2]) ∧ ldV h (.p (blkV v) (offV v + i * 2 + 1)) = some c2 ∧ Ints h c1 g ∧ Ints h c2 vals := by
  obtain ⟨cs, s, hc⟩ := r
  obtain ⟨c1, c2, q1, q2, q3, q4⟩ := hc i g vals hx
  have hi := (List.getElem?_eq_some_iff.1 hx).1
  refine ⟨c1, c2, ?_, by rw [s.ld hi (by omega), q2], q3, q4⟩
  rw [s.ldn hi]
  congr 2
  have hl := s.length
  apply List.ext_getElem?
  intro k
  by_cases hk : k < 2
  · rw [List.getElem?_take_of_lt hk, List.getElem?_drop]
    rcases Nat.lt_or_ge k 1 with z | z
    · obtain rfl : k = 0 := by omega
      simpa using q1
    · obtain rfl : k = 1 := by omega
      simpa using q2
  · rw [List.getElem?_eq_none (by simp; omega), List.getElem?_eq_none (by simp; omega)]
theorem t62 : tblA 62 = some a62 := by kernel_rfl
theorem fn_slim {h : H} {p : V} {P : PlanS} (hp : PlanR h p P) : WC tblA (.fn 62 [] []) [p] h fun u h' => Ext h h' ∧ u = .b (boolP (slimP P)) := by
  refine (WC_in t62).2 ?_
  obtain ⟨ov, tv, rfl, ho, ht⟩ := hp
  have hBt := @boolP_true (slimP P)
  have hBf := @boolP_false (slimP P)
  generalize boolP (slimP P) = B at *
  simp only [go_sem, ↓reduceIte, r62_0]
  have e0 : Ext h (h.new (.cells [ov, .i .i64 P.off, tv])) := (Ext.refl h).new _
  have g0 : (h.new (.cells [ov, .i .i64 P.off, tv])).get h.next = some (.cells [ov, .i .i64 P.off, tv]) := get_new_eq rfl
  generalize h.new (.cells [ov, .i .i64 P.off, tv]) = hB at *
  have oB := ho.ext e0
  have tB := ht.ext e0
  have l0 : ldV hB (.p h.next 0) = some ov := blk_ld g0 rfl
  have l2 : ldV hB (.p h.next 2) = some tv := blk_ld g0 rfl
  by_cases d1 : (12 : Int) < (P.tabs.length : Int)
  · simp only [go_sem, ↓reduceIte, r62_1, r62_2, l2, tB.len, d1]
    exact ⟨e0, by rw [hBf fun q => by have := q.1; omega]⟩
  by_cases d2 : (60 : Int) < (P.order.length : Int)
  · simp only [go_sem, ↓reduceIte, r62_1, r62_2, l2, l0, tB.len, oB.len, d1, d2]
    exact ⟨e0, by rw [hBf fun q => by have := q.2.1; omega]⟩
  simp only [go_sem, ↓reduceIte, r62_1, r62_3, l2, l0, tB.len, oB.len, d1, d2]
  refine W_while (fun k t h' => ∃ (i : Nat), k = P.tabs.length - i ∧ i ≤ P.tabs.length ∧ t.length = 33 ∧ nth t 16 = tv ∧ nth t 17 = .i .i64 (P.tabs.length : Int) ∧ nth t 18 = .i .i64 (i : Int) ∧ Ext hB h' ∧ ∀ p ∈ P.tabs.take i, p.1.length ≤ 10 ∧ p.2.length ≤ 1100) ?_ P.tabs.length ?_
  · rintro k t h' ⟨i, rfl, hi, tl, t16, t17, t18, e', hall⟩
    unfold b62_0
    have t' := tB.ext e'
    by_cases hlt : i < P.tabs.length
    · have hltI : (i : Int) < (P.tabs.length : Int) := by omega
      obtain ⟨⟨g, vals⟩, hx⟩ : ∃ p, P.tabs[i]? = some p := ⟨_, List.getElem?_eq_getElem hlt⟩
      have hmem := List.mem_of_getElem? hx
      obtain ⟨c1, c2, q1, _, i1, i2⟩ := t'.at hx
      obtain ⟨h3, s3, e3, g3, n3⟩ := st_newK h' [.sn, .sn] [c1, c2] rfl (by
        intro y hy
        simp at hy
        rcases hy with rfl | rfl
        · exact i1.one.2
        · exact i2.one.2)
      have s3' : stV (h'.new (.cells [.sn, .sn])) 2 (.p h'.next 0) (.agg [c1, c2]) = some h3 := s3
      have l30 : ldV h3 (.p h'.next 0) = some c1 := blk_ld g3 rfl
      have l31 : ldV h3 (.p h'.next 1) = some c2 := blk_ld g3 rfl
      have k1 := (i1.ext e3).len
      have k2 := (i2.ext e3).len
      by_cases d3 : (10 : Int) < (g.length : Int)
      · simp only [go_sem, ↓reduceIte, r62_4, r62_5, r62_6, r62_7, tl, t16, t17, t18, hltI, t'.ix hlt, q1, s3', l30, k1, d3]
        exact ⟨e0.trans (e'.trans e3), by rw [hBf fun q => by have := (q.2.2 _ hmem).1; simp at this; omega]⟩
      by_cases d4 : (1100 : Int) < (vals.length : Int)
      · simp only [go_sem, ↓reduceIte, r62_4, r62_5, r62_6, r62_7, tl, t16, t17, t18, hltI, t'.ix hlt, q1, s3', l30, l31, k1, k2, d3, d4]
        exact ⟨e0.trans (e'.trans e3), by rw [hBf fun q => by have := (q.2.2 _ hmem).2; simp at this; omega]⟩
      simp only [go_sem, ↓reduceIte, r62_4, r62_5, r62_6, r62_8, tl, t16, t17, t18, hltI, t'.ix hlt, q1, s3', l30, l31, k1, k2, d3, d4, wrap_succ (show i < 1000000000 by omega)]
      refine ⟨P.tabs.length - (i + 1), by omega, i + 1, rfl, hlt, rfl, e'.trans e3, ?_⟩
      rw [take_succ' hx]
      intro p hp
      rcases List.mem_append.1 hp with hp | hp
      · exact hall p hp
      · simp at hp; subst hp; exact ⟨by simp; omega, by simp; omega⟩
    · have hltI : ¬ (i : Int) < (P.tabs.length : Int) := by omega
      rw [List.take_of_length_le (by omega)] at hall
      simp only [go_sem, ↓reduceIte, r62_4, r62_9, tl, t16, t17, t18, hltI]
      exact ⟨e0.trans e', by rw [hBt ⟨by omega, by omega, hall⟩]⟩
  · refine ⟨0, by omega, by omega, ?_⟩
    simp only [go_sem, ↓reduceIte, List.take_zero]
    exact ⟨.refl _, fun p hp => by simp at hp⟩
end Go.Air
set_option maxRecDepth 100000
namespace Go.Air
open Go.Air.Try
def lastV (vals : List Int) : Int := vals.getD (vals.length - 1) 0
def lastSum : List (List Int × List Int) → Int
  | [] => 0
  | p :: l => lastV p.2 + lastSum l
theorem lastSum_append : ∀ a b : List (List Int × List Int), lastSum (a ++ b) = lastSum a + lastSum b
  | [], b => by simp [lastSum]
  | p :: a, b => by simp only [List.cons_append, lastSum, lastSum_append a b]; omega
def pairsOk (rs : List Arw) (xss : List (List Int)) (tb : List (List Int × List Int)) (k : Nat) : Prop := ∀ (i : Nat) (c g v : List Int), i < k → xss[i]? = some c → tb[i]? = some (g, v) → g = c ∧ tabOk rs c v
def planGood (N : Int) (rs : List Arw) (xss : List (List Int)) (P : PlanS) : Prop := orderS N P.order = 0 ∧ sumW (slS P.order rs) = P.off ∧ P.tabs.length = xss.length ∧ pairsOk rs xss P.tabs xss.length ∧ lastSum P.tabs = P.off
noncomputable def cpS (N : Int) (rs : List Arw) (P : PlanS) : Bool × Int := if circledS N rs ≠ 0 then (false, circledS N rs) else (boolP (planGood N rs (circR N rs) P), 0)
theorem last_bound {rs : List Arw} {c v : List Int} (h : tabOk rs c v) : 0 ≤ lastV v ∧ lastV v ≤ 1000000 := by
  unfold lastV
  by_cases q : v.length - 1 = 0
  · rw [q, h.2.1]; omega
  · have hp : 0 < 2 ^ c.length := Nat.two_pow_pos _
    have := h.2.2 (v.length - 1) (by omega) (by have := h.1; omega)
    exact ⟨this.1, this.2.1⟩
theorem lastSum_bound {rs : List Arw} {xss : List (List Int)} {tb : List (List Int × List Int)} (hl : tb.length = xss.length) : ∀ k, k ≤ xss.length → pairsOk rs xss tb k → 0 ≤ lastSum (tb.take k) ∧ lastSum (tb.take k) ≤ 1000000 * k
  | 0, _, _ => by simp [lastSum]
  | k + 1, hk, hp => by
    have ih := lastSum_bound hl k (by omega) fun i c g v hi => hp i c g v (by omega)
    obtain ⟨p, hx⟩ : ∃ p, tb[k]? = some p := ⟨_, List.getElem?_eq_getElem (by omega)⟩
    obtain ⟨c, hc⟩ : ∃ c, xss[k]? = some c := ⟨_, List.getElem?_eq_getElem (by omega)⟩
    have hb := last_bound (hp k c p.1 p.2 (by omega) hc hx).2
    rw [take_succ' hx, lastSum_append]
    simp only [lastSum]
    omega
theorem pairs_step {rs : List Arw} {xss : List (List Int)} {tb : List (List Int × List Int)} {k : Nat} {c g v : List Int} (h : pairsOk rs xss tb k) (hc : xss[k]? = some c) (hx : tb[k]? = some (g, v)) (ok : g = c ∧ tabOk rs c v) : pairsOk rs xss tb (k + 1) := by
  intro i c' g' v' hi h1 h2
  by_cases q : i = k
  · subst q
    rw [hc] at h1; rw [hx] at h2
    cases h1; cases h2
    exact ok
  · exact h i c' g' v' (by omega) h1 h2
theorem order_good {N : Int} {xs : List Int} (h : orderS N xs = 0) : GoodO N xs := by
  unfold orderS at h
  split at h
  · assumption
  · omega
theorem t63 : tblA 63 = some a63 := by kernel_rfl
theorem fn_CheckPlan {h : H} {N : Int} {v p : V} {rs : List Arw} {P : PlanS} (hr : Arrs h v rs) (hrn : rs.length ≤ 1000000) (hp : PlanR h p P) (hon : P.order.length ≤ 1000) (hgn : ∀ x ∈ P.tabs, x.1.length ≤ 1000) :
    WC tblA (.fn 63 [] []) [.agg [.i .i64 N, v], p] h fun u h' => Ext h h' ∧ u = .tup [.b (cpS N rs P).1, .i .i64 (cpS N rs P).2] := by
  refine (WC_in t63).2 ?_
  obtain ⟨ov, tv, rfl, ho, ht⟩ := hp
  simp only [go_sem, ↓reduceIte, r63_0, H.next_new]
  have e0 : Ext h ((h.new (.cells [.i .i64 N, v])).new (.cells [ov, .i .i64 P.off, tv])) := ((Ext.refl h).new _).new _
  have g0 : ((h.new (.cells [.i .i64 N, v])).new (.cells [ov, .i .i64 P.off, tv])).get h.next = some (.cells [.i .i64 N, v]) := by rw [get_new_lt (by simp), get_new_eq rfl]
  have g3 : ((h.new (.cells [.i .i64 N, v])).new (.cells [ov, .i .i64 P.off, tv])).get (h.next + 1) = some (.cells [ov, .i .i64 P.off, tv]) := by rw [get_new_eq (by simp)]
  have n0 : ((h.new (.cells [.i .i64 N, v])).new (.cells [ov, .i .i64 P.off, tv])).next = h.next + 1 + 1 := by simp
  generalize ((h.new (.cells [.i .i64 N, v])).new (.cells [ov, .i .i64 P.off, tv])) = hB at *
  have hrB := hr.ext e0
  have oB := ho.ext e0
  have tB := ht.ext e0
  have lr : ∀ {h'}, Ext hB h' → ldnV h' 2 (.p h.next 0) = some (.agg [.i .i64 N, v]) := fun e => blk_ldn (e.get (by omega) g0) rfl
  have lN : ∀ {h'}, Ext hB h' → ldV h' (.p h.next 0) = some (.i .i64 N) := fun e => blk_ld (e.get (by omega) g0) rfl
  have l0 : ∀ {h'}, Ext hB h' → ldV h' (.p (h.next + 1) 0) = some ov := fun e => blk_ld (e.get (by omega) g3) rfl
  have l1 : ∀ {h'}, Ext hB h' → ldV h' (.p (h.next + 1) 1) = some (.i .i64 P.off) := fun e => blk_ld (e.get (by omega) g3) rfl
  have l2 : ∀ {h'}, Ext hB h' → ldV h' (.p (h.next + 1) 2) = some tv := fun e => blk_ld (e.get (by omega) g3) rfl
  simp only [go_sem, ↓reduceIte, r63_1, lr (.refl _)]
  refine (fn_Check hrB hrn).mono ?_
  rintro _ h1 ⟨e1, rfl⟩
  by_cases hc : checkS N rs = 0
  case neg =>
    have hcp : cpS N rs P = (false, checkS N rs) := by
      have : circledS N rs = checkS N rs := by rw [circledS, if_pos hc]
      rw [cpS, this, if_pos hc]
    rw [hcp]
    simp only [go_sem, ↓reduceIte, r63_2, r63_3, hc]
    exact e0.trans e1
  have hcd : circledS N rs = circE (circR N rs) := by rw [circledS, if_neg (by simp [hc])]
  obtain ⟨n, rfl, hn, gr⟩ := check_ok hc
  have hw : Wok rs := wok_of gr.1
  simp only [go_sem, ↓reduceIte, r63_2, r63_4, hc, lr e1]
  refine (fn_circles (hrB.ext e1) hrn).mono ?_
  rintro _ h2 ⟨e2, cw, rfl, hLL⟩
  have e12 := e1.trans e2
  by_cases hce : circE (circR (n : Int) rs) = 0
  case neg =>
    have hcp : cpS (n : Int) rs P = (false, circE (circR (n : Int) rs)) := by rw [cpS, hcd, if_pos hce]
    rw [hcp]
    simp only [go_sem, ↓reduceIte, r63_5, r63_6, hce]
    exact e0.trans e12
  have hcp : cpS (n : Int) rs P = (boolP (planGood (n : Int) rs (circR (n : Int) rs) P), 0) := by rw [cpS, hcd, if_neg (by simp [hce])]
  rw [hcp]
  have ok := circ_ok hce
  have sc := hLL hce
  have hxl := (circR_len (N := (n : Int)) (rs := rs)).1
  rw [hce]
  clear hLL hcp hcd
  generalize circR (n : Int) rs = xss at *
  have hBt := @boolP_true (planGood (n : Int) rs xss P)
  have hBf := @boolP_false (planGood (n : Int) rs xss P)
  generalize boolP (planGood (n : Int) rs xss P) = B at *
  simp only [go_sem, ↓reduceIte, r63_5, hce]
  apply W_pure (by simp [r63_7])
  simp only [go_sem, ↓reduceIte, r63_7, lN e12, l0 e12]
  refine (fn_CheckOrder (h := h2.bare) (Sl.bare (oB.ext e12)) (by omega)).mono ?_
  rintro _ h3 ⟨e3, rfl⟩
  have hold3 := e3.old
  replace e3 := e3.back
  by_cases d1 : orderS (n : Int) P.order = 0
  case neg =>
    simp only [go_sem, ↓reduceIte, r63_8, hold3, d1]
    exact ⟨e0.trans (e12.trans e3), by rw [hBf fun q => d1 q.1]⟩
  have go := order_good d1
  have e13 := e12.trans e3
  have lr13 := lr e13
  have l013 := l0 e13
  simp only [go_sem, ↓reduceIte, hold3, d1, lr13, l013]
  refine (fn_offence (h := (h2.back h3).bare) (Sl.bare (hrB.ext e13)) hrn (Sl.bare (oB.ext e13)) (by omega) gr go).mono ?_
  rintro _ h4 ⟨e4, rfl⟩
  have hold4 := e4.old
  replace e4 := e4.back
  have e14 := e13.trans e4
  have l114 := l1 e14
  have l214 := l2 e14
  have tB4 := tB.ext e14
  have sc4 := (sc.ext e3).ext e4
  by_cases d2 : sumW (slS P.order rs) = P.off
  case neg =>
    simp only [go_sem, ↓reduceIte, r63_8, hold4, l114, d2]
    exact ⟨e0.trans e14, by rw [hBf fun q => d2 q.2.1]⟩
  by_cases d3 : (P.tabs.length : Int) = (xss.length : Int)
  case neg =>
    simp only [go_sem, ↓reduceIte, r63_8, hold4, l114, l214, d2, tB4.len, sc4.len, d3]
    exact ⟨e0.trans e14, by rw [hBf fun q => d3 (by have := q.2.2.1; omega)]⟩
  have d3' : P.tabs.length = xss.length := by omega
  have lr14 := lr e14
  simp only [go_sem, ↓reduceIte, r63_9, hold4, l114, l214, d2, tB4.len, sc4.len, d3, lr14]
  generalize (h2.back h3).back h4 = h5 at *
  refine (fn_weigh (hrB.ext e14) hrn gr (by omega)).mono ?_
  rintro _ h6 ⟨e6, rfl⟩
  have hgl : (ints (gridL rs)).length = 576 := by rw [ints_len, gridL_len]
  obtain ⟨h7, s7, e7, g7, n7⟩ := st_newK h6 (List.replicate 576 (.i .i64 0)) (ints (gridL rs)) (by rw [hgl]; simp) ints_one
  rw [hgl] at s7
  have e17 := (e14.trans e6).trans e7
  have hgr : Grid h7 h6.next rs := ⟨by omega, _, g7, fun a b ha hb => ints_at (by rw [show 0 + a * 24 + b * 1 = a * 24 + b by omega]; exact gridL_get ha hb)⟩
  have sc7 := (sc4.ext e6).ext e7
  simp only [go_sem, ↓reduceIte, r63_10, r63_11, s7, sc7.len]
  refine W_while (fun k t h' => ∃ (i : Nat), k = xss.length - i ∧ i ≤ xss.length ∧ t.length = 89 ∧ nth t 3 = .p (h.next + 1) 0 ∧ nth t 9 = .p h6.next 0 ∧ nth t 10 = .i .i64 (lastSum (P.tabs.take i)) ∧ nth t 51 = cw ∧ nth t 52 = .i .i64 (xss.length : Int) ∧ nth t 53 = .i .i64 (i : Int) ∧ Ext h7 h' ∧ pairsOk rs xss P.tabs i) ?_ xss.length ?_
  · rintro k t h' ⟨i, rfl, hi, tl, t3, t9, t10, t51, t52, t53, e', hpr⟩
    unfold b63_0
    have eA := e17.trans e'
    have sc' := sc7.ext e'
    have tB' := tB.ext eA
    by_cases hlt : i < xss.length
    · have hltI : (i : Int) < (xss.length : Int) := by omega
      obtain ⟨c, hx⟩ : ∃ c, xss[i]? = some c := ⟨_, List.getElem?_eq_getElem hlt⟩
      obtain ⟨⟨g, vals⟩, hxt⟩ : ∃ p, P.tabs[i]? = some p := ⟨_, List.getElem?_eq_getElem (by omega)⟩
      have hg := hgn _ (List.mem_of_getElem? hxt)
      obtain ⟨hc10, hcd, _⟩ := ok c (List.mem_of_getElem? hx)
      have hgst := ok.gst hn (List.mem_of_getElem? hx)
      obtain ⟨u, hl, hi1⟩ := sc'.ld hx
      obtain ⟨c1, c2, q1, _, i1, i2⟩ := tB'.at hxt
      simp only [go_sem, ↓reduceIte, r63_12, r63_13, r63_14, tl, t3, t9, t10, t51, t52, t53, hltI, sc'.ix hlt, hl, l2 eA, tB'.ix (show i < P.tabs.length by omega), q1]
      refine (fn_right (hgr.ext e') hi1 hc10 hgst hw i1 i2 (by simp at hg; omega)).mono ?_
      rintro _ h8 ⟨e8, rfl⟩
      by_cases d4 : g = c ∧ tabOk rs c vals
      case neg =>
        rw [boolP_false d4]
        simp only [go_sem, ↓reduceIte, r63_15, tl]
        exact ⟨e0.trans (eA.trans e8), by rw [hBf fun q => d4 (q.2.2.2.1 i c g vals hlt hx hxt)]⟩
      rw [boolP_true d4]
      have eA8 := eA.trans e8
      have tB8 := tB.ext eA8
      obtain ⟨c1', c2', _, q2, _, j2⟩ := tB8.at hxt
      have hp : 0 < 2 ^ c.length := Nat.two_pow_pos _
      have hp2 := Nat.pow_le_pow_right (n := 2) (by omega) hc10
      have hvl := d4.2.1
      have hsub : IntKind.i64.wrap ((vals.length : Int) - 1) = ((vals.length - 1 : Nat) : Int) := by rw [wrap_in (by omega) (by omega)]; omega
      have hval := getD_at (xs := vals) (j := vals.length - 1) (by omega)
      have hpr' := pairs_step hpr hx hxt d4
      have b1 := lastSum_bound d3' i (by omega) hpr
      have b2 := last_bound d4.2
      have hst : lastSum (P.tabs.take (i + 1)) = lastSum (P.tabs.take i) + vals.getD (vals.length - 1) 0 := by
        rw [take_succ' hxt, lastSum_append]; simp [lastSum, lastV]
      have hsum : IntKind.i64.wrap (lastSum (P.tabs.take i) + vals.getD (vals.length - 1) 0) = lastSum (P.tabs.take (i + 1)) := by
        rw [hst]
        unfold lastV at b2
        exact wrap_in (by omega) (by omega)
      simp only [go_sem, ↓reduceIte, r63_16, r63_17, tl, t3, t9, t10, t51, t52, t53, l2 eA8, tB8.ix (show i < P.tabs.length by omega), q2, j2.len, hsub, j2.ix (show vals.length - 1 < vals.length by omega), j2.ld hval, hsum, wrap_succ (show i < 1000000000 by omega)]
      exact ⟨xss.length - (i + 1), by omega, i + 1, rfl, hlt, rfl, rfl, e'.trans e8, hpr'⟩
    · have hltI : ¬ (i : Int) < (xss.length : Int) := by omega
      obtain rfl : i = xss.length := by omega
      rw [List.take_of_length_le (by omega)] at t10
      by_cases d5 : lastSum P.tabs = P.off
      · simp only [go_sem, ↓reduceIte, r63_12, r63_18, tl, t3, t9, t10, t51, t52, t53, hltI, l1 eA, d5]
        exact ⟨e0.trans eA, by rw [hBt ⟨d1, d2, d3', hpr, d5⟩]⟩
      · simp only [go_sem, ↓reduceIte, r63_12, r63_18, tl, t3, t9, t10, t51, t52, t53, hltI, l1 eA, d5]
        exact ⟨e0.trans eA, by rw [hBf fun q => d5 q.2.2.2.2]⟩
  · refine ⟨0, by omega, by omega, ?_⟩
    simp only [go_sem, ↓reduceIte, List.take_zero]
    refine ⟨?_, .refl _, fun i c g v hi => by omega⟩
    simp [lastSum]
theorem t64 : tblA 64 = some a64 := by kernel_rfl
theorem fn_refCheckPlan {h : H} {N : Int} {v p : V} {rs : List Arw} {P : PlanS} (hr : Arrs h v rs) (hrn : rs.length ≤ 1000000) (hp : PlanR h p P) (hon : P.order.length ≤ 1000) (hgn : ∀ x ∈ P.tabs, x.1.length ≤ 1000) :
    WC tblA (.fn 64 [] []) [.agg [.i .i64 N, v], p] h fun u h' => Ext h h' ∧ u = .tup [.b (cpS N rs P).1, .i .i64 (cpS N rs P).2] := by
  refine (WC_in t64).2 ?_
  obtain ⟨ov, tv, rfl, ho, ht⟩ := hp
  simp only [go_sem, ↓reduceIte, r64_0, H.next_new]
  have e0 : Ext h ((h.new (.cells [.i .i64 N, v])).new (.cells [ov, .i .i64 P.off, tv])) := ((Ext.refl h).new _).new _
  have g0 : ((h.new (.cells [.i .i64 N, v])).new (.cells [ov, .i .i64 P.off, tv])).get h.next = some (.cells [.i .i64 N, v]) := by rw [get_new_lt (by simp), get_new_eq rfl]
  have g3 : ((h.new (.cells [.i .i64 N, v])).new (.cells [ov, .i .i64 P.off, tv])).get (h.next + 1) = some (.cells [ov, .i .i64 P.off, tv]) := by rw [get_new_eq (by simp)]
  have n0 : ((h.new (.cells [.i .i64 N, v])).new (.cells [ov, .i .i64 P.off, tv])).next = h.next + 1 + 1 := by simp
  generalize ((h.new (.cells [.i .i64 N, v])).new (.cells [ov, .i .i64 P.off, tv])) = hB at *
  have hrB := hr.ext e0
  have oB := ho.ext e0
  have tB := ht.ext e0
  have lr : ∀ {h'}, Ext hB h' → ldnV h' 2 (.p h.next 0) = some (.agg [.i .i64 N, v]) := fun e => blk_ldn (e.get (by omega) g0) rfl
  have lN : ∀ {h'}, Ext hB h' → ldV h' (.p h.next 0) = some (.i .i64 N) := fun e => blk_ld (e.get (by omega) g0) rfl
  have l0 : ∀ {h'}, Ext hB h' → ldV h' (.p (h.next + 1) 0) = some ov := fun e => blk_ld (e.get (by omega) g3) rfl
  have l1 : ∀ {h'}, Ext hB h' → ldV h' (.p (h.next + 1) 1) = some (.i .i64 P.off) := fun e => blk_ld (e.get (by omega) g3) rfl
  have l2 : ∀ {h'}, Ext hB h' → ldV h' (.p (h.next + 1) 2) = some tv := fun e => blk_ld (e.get (by omega) g3) rfl
  simp only [go_sem, ↓reduceIte, r64_1, lr (.refl _)]
  refine (fn_circled hrB hrn).mono ?_
  rintro _ h1 ⟨e1, rfl⟩
  by_cases hcd : circledS N rs = 0
  case neg =>
    have hcp : cpS N rs P = (false, circledS N rs) := by rw [cpS, if_pos hcd]
    rw [hcp]
    simp only [go_sem, ↓reduceIte, r64_2, r64_3, hcd]
    exact e0.trans e1
  obtain ⟨hc, hce⟩ := circled_ok hcd
  obtain ⟨n, rfl, hn, gr⟩ := check_ok hc
  have hcp : cpS (n : Int) rs P = (boolP (planGood (n : Int) rs (circR (n : Int) rs) P), 0) := by rw [cpS, if_neg (by simp [hcd])]
  rw [hcp]
  simp only [go_sem, ↓reduceIte, r64_2, r64_4, hcd, lr e1]
  refine (fn_refCircles (hrB.ext e1) hrn).mono ?_
  rintro cw h2 ⟨e2, sc⟩
  have e12 := e1.trans e2
  have ok := circ_ok hce
  have hxl := (circR_len (N := (n : Int)) (rs := rs)).1
  clear hcp hcd
  generalize circR (n : Int) rs = xss at *
  have hBt := @boolP_true (planGood (n : Int) rs xss P)
  have hBf := @boolP_false (planGood (n : Int) rs xss P)
  generalize boolP (planGood (n : Int) rs xss P) = B at *
  simp only [go_sem, ↓reduceIte]
  apply W_pure (by simp [r64_5])
  simp only [go_sem, ↓reduceIte, r64_5, lN e12, l0 e12]
  refine (fn_refCheckOrder (h := h2.bare) (Sl.bare (oB.ext e12)) (by omega)).mono ?_
  rintro _ h3 ⟨e3, rfl⟩
  have hold3 := e3.old
  replace e3 := e3.back
  by_cases d1 : orderS (n : Int) P.order = 0
  case neg =>
    simp only [go_sem, ↓reduceIte, r64_6, hold3, d1]
    exact ⟨e0.trans (e12.trans e3), by rw [hBf fun q => d1 q.1]⟩
  have go := order_good d1
  have e13 := e12.trans e3
  have lr13 := lr e13
  have l013 := l0 e13
  simp only [go_sem, ↓reduceIte, hold3, d1, lr13, l013]
  refine (fn_Inner (h := (h2.back h3).bare) (Sl.bare (hrB.ext e13)) hrn (Sl.bare (oB.ext e13)) (by omega) gr go).mono ?_
  rintro _ h4 ⟨e4, rfl⟩
  have hold4 := e4.old
  replace e4 := e4.back
  have e14 := e13.trans e4
  have l114 := l1 e14
  have l214 := l2 e14
  have tB4 := tB.ext e14
  have sc4 := (sc.ext e3).ext e4
  by_cases d2 : sumW (slS P.order rs) = P.off
  case neg =>
    simp only [go_sem, ↓reduceIte, r64_6, hold4, l114, d2]
    exact ⟨e0.trans e14, by rw [hBf fun q => d2 q.2.1]⟩
  by_cases d3 : (P.tabs.length : Int) = (xss.length : Int)
  case neg =>
    simp only [go_sem, ↓reduceIte, r64_6, hold4, l114, l214, d2, tB4.len, sc4.len, d3]
    exact ⟨e0.trans e14, by rw [hBf fun q => d3 (by have := q.2.2.1; omega)]⟩
  have d3' : P.tabs.length = xss.length := by omega
  simp only [go_sem, ↓reduceIte, r64_7, r64_8, hold4, l114, l214, d2, tB4.len, sc4.len, d3]
  generalize (h2.back h3).back h4 = h7 at *
  refine W_while (fun k t h' => ∃ (i : Nat), k = xss.length - i ∧ i ≤ xss.length ∧ t.length = 82 ∧ nth t 2 = .p h.next 0 ∧ nth t 3 = .p (h.next + 1) 0 ∧ nth t 7 = cw ∧ nth t 8 = .i .i64 (lastSum (P.tabs.take i)) ∧ nth t 9 = .i .i64 (i : Int) ∧ Ext h7 h' ∧ pairsOk rs xss P.tabs i) ?_ xss.length ?_
  · rintro k t h' ⟨i, rfl, hi, tl, t2, t3, t7, t8, t9, e', hpr⟩
    unfold b64_0
    have eA := e14.trans e'
    have sc' := sc4.ext e'
    have tB' := tB.ext eA
    by_cases hlt : i < xss.length
    · have hltI : (i : Int) < (xss.length : Int) := by omega
      obtain ⟨c, hx⟩ : ∃ c, xss[i]? = some c := ⟨_, List.getElem?_eq_getElem hlt⟩
      obtain ⟨⟨g, vals⟩, hxt⟩ : ∃ p, P.tabs[i]? = some p := ⟨_, List.getElem?_eq_getElem (by omega)⟩
      have hg := hgn _ (List.mem_of_getElem? hxt)
      obtain ⟨hc10, hcd, _⟩ := ok c (List.mem_of_getElem? hx)
      have hgst := ok.gst hn (List.mem_of_getElem? hx)
      obtain ⟨c1, c2, q1, _, i1, i2⟩ := tB'.at hxt
      obtain ⟨h5, s5, e5, g5, n5⟩ := st_newK h' [.sn, .sn] [c1, c2] rfl (by
        intro y hy
        simp at hy
        rcases hy with rfl | rfl
        · exact i1.one.2
        · exact i2.one.2)
      have s5' : stV (h'.new (.cells [.sn, .sn])) 2 (.p h'.next 0) (.agg [c1, c2]) = some h5 := s5
      have l50 : ldV h5 (.p h'.next 0) = some c1 := blk_ld g5 rfl
      have sc5 := sc'.ext e5
      obtain ⟨u, hl, hi1⟩ := sc5.ld hx
      simp only [go_sem, ↓reduceIte, r64_9, r64_11, r64_12, tl, t2, t3, t7, t8, t9, sc'.len, hltI, l2 eA, tB'.ix (show i < P.tabs.length by omega), q1, s5', l50, sc5.ix hlt, hl]
      refine (fn_SameInts (h := h5.bare) (Sl.bare (i1.ext e5)) (Sl.bare hi1) (by simp at hg; omega)).mono ?_
      rintro _ _ ⟨rfl, rfl⟩
      by_cases d4 : g = c
      case neg =>
        simp only [go_sem, ↓reduceIte, r64_13, r64_14, tl, d4]
        exact ⟨e0.trans (eA.trans e5), by rw [hBf fun q => d4 (q.2.2.2.1 i c g vals hlt hx hxt).1]⟩
      subst d4
      have lr5 := lr (eA.trans e5)
      have l5n : ldnV h5 2 (.p h'.next 0) = some (.agg [c1, c2]) := blk_ldn g5 rfl
      simp only [go_sem, ↓reduceIte, r64_13, r64_15, tl, t2, t3, t7, t8, t9, lr5, l5n]
      refine (fn_bounds (hrB.ext (eA.trans e5)) hrn gr (i1.ext e5) (i2.ext e5) hc10 hgst hcd).mono ?_
      rintro _ h8 ⟨e8, rfl⟩
      by_cases d5 : tabOk rs g vals
      case neg =>
        rw [boolP_false d5]
        simp only [go_sem, ↓reduceIte, r64_16, r64_17, tl]
        exact ⟨e0.trans ((eA.trans e5).trans e8), by rw [hBf fun q => d5 (q.2.2.2.1 i g g vals hlt hx hxt).2]⟩
      rw [boolP_true d5]
      have l81 : ldV h8 (.p h'.next 1) = some c2 := blk_ld (e8.get (by omega) g5) rfl
      have j2 := (i2.ext e5).ext e8
      have hp : 0 < 2 ^ g.length := Nat.two_pow_pos _
      have hp2 := Nat.pow_le_pow_right (n := 2) (by omega) hc10
      have hvl := d5.1
      have hsub : IntKind.i64.wrap ((vals.length : Int) - 1) = ((vals.length - 1 : Nat) : Int) := by rw [wrap_in (by omega) (by omega)]; omega
      have hval := getD_at (xs := vals) (j := vals.length - 1) (by omega)
      have hpr' := pairs_step hpr hx hxt ⟨rfl, d5⟩
      have b1 := lastSum_bound d3' i (by omega) hpr
      have b2 := last_bound d5
      have hst : lastSum (P.tabs.take (i + 1)) = lastSum (P.tabs.take i) + vals.getD (vals.length - 1) 0 := by
        rw [take_succ' hxt, lastSum_append]; simp [lastSum, lastV]
      have hsum : IntKind.i64.wrap (lastSum (P.tabs.take i) + vals.getD (vals.length - 1) 0) = lastSum (P.tabs.take (i + 1)) := by
        rw [hst]
        unfold lastV at b2
        exact wrap_in (by omega) (by omega)
      simp only [go_sem, ↓reduceIte, r64_10, r64_16, r64_18, tl, t2, t3, t7, t8, t9, l81, j2.len, hsub, j2.ix (show vals.length - 1 < vals.length by omega), j2.ld hval, hsum, wrap_succ (show i < 1000000000 by omega)]
      exact ⟨xss.length - (i + 1), by omega, i + 1, rfl, hlt, rfl, rfl, (e'.trans e5).trans e8, hpr'⟩
    · have hltI : ¬ (i : Int) < (xss.length : Int) := by omega
      obtain rfl : i = xss.length := by omega
      rw [List.take_of_length_le (by omega)] at t8
      by_cases d5 : lastSum P.tabs = P.off
      · simp only [go_sem, ↓reduceIte, r64_9, r64_19, tl, t2, t3, t7, t8, t9, sc'.len, hltI, l1 eA, d5]
        exact ⟨e0.trans eA, by rw [hBt ⟨d1, d2, d3', hpr, d5⟩]⟩
      · simp only [go_sem, ↓reduceIte, r64_9, r64_19, tl, t2, t3, t7, t8, t9, sc'.len, hltI, l1 eA, d5]
        exact ⟨e0.trans eA, by rw [hBf fun q => d5 q.2.2.2.2]⟩
  · refine ⟨0, by omega, by omega, ?_⟩
    simp only [go_sem, ↓reduceIte, List.take_zero]
    refine ⟨?_, .refl _, fun i c g v hi => by omega⟩
    simp [lastSum]
theorem t18 : tblA 18 = some a18 := by kernel_rfl
theorem law_checks {h : H} {N : Int} {v p : V} {rs : List Arw} {P : PlanS} (hr : Arrs h v rs) (hp : PlanR h p P) : WC tblA (.fn 18 [] []) [.agg [.i .i64 N, v], p] h fun u h' => u = .b true ∧ Ext h h' := by
  refine (WC_in t18).2 ?_
  obtain ⟨ov, tv, rfl, ho, ht⟩ := hp
  simp only [go_sem, ↓reduceIte, r18_0, H.next_new]
  have e0 : Ext h ((h.new (.cells [.i .i64 N, v])).new (.cells [ov, .i .i64 P.off, tv])) := ((Ext.refl h).new _).new _
  have g0 : ((h.new (.cells [.i .i64 N, v])).new (.cells [ov, .i .i64 P.off, tv])).get h.next = some (.cells [.i .i64 N, v]) := by rw [get_new_lt (by simp), get_new_eq rfl]
  have g3 : ((h.new (.cells [.i .i64 N, v])).new (.cells [ov, .i .i64 P.off, tv])).get (h.next + 1) = some (.cells [ov, .i .i64 P.off, tv]) := by rw [get_new_eq (by simp)]
  have n0 : ((h.new (.cells [.i .i64 N, v])).new (.cells [ov, .i .i64 P.off, tv])).next = h.next + 1 + 1 := by simp
  generalize ((h.new (.cells [.i .i64 N, v])).new (.cells [ov, .i .i64 P.off, tv])) = hB at *
  have hrB := hr.ext e0
  have hpB : PlanR hB (.agg [ov, .i .i64 P.off, tv]) P := ⟨ov, tv, rfl, ho.ext e0, ht.ext e0⟩
  have lr : ∀ {h'}, Ext hB h' → ldnV h' 2 (.p h.next 0) = some (.agg [.i .i64 N, v]) := fun e => blk_ldn (e.get (by omega) g0) rfl
  have lp : ∀ {h'}, Ext hB h' → ldnV h' 3 (.p (h.next + 1) 0) = some (.agg [ov, .i .i64 P.off, tv]) := fun e => blk_ldn (e.get (by omega) g3) rfl
  simp only [go_sem, ↓reduceIte, r18_1, lr (.refl _)]
  refine (fn_Few hrB (by omega) (by omega)).mono ?_
  rintro _ h1 ⟨e1, rfl⟩
  by_cases c1 : N ≤ 8 ∧ (rs.length : Int) ≤ 128
  case neg =>
    simp only [go_sem, ↓reduceIte, r18_2, c1]
    exact e0.trans e1
  simp only [go_sem, ↓reduceIte, c1, lp e1]
  refine (fn_slim (hpB.ext e1)).mono ?_
  rintro _ h2 ⟨e2, rfl⟩
  have e12 := e1.trans e2
  by_cases c2 : slimP P
  case neg =>
    rw [boolP_false c2]
    simp only [go_sem, ↓reduceIte, r18_2]
    exact e0.trans e12
  rw [boolP_true c2]
  simp only [go_sem, ↓reduceIte, r18_3, lr e12, lp e12]
  refine (fn_CheckPlan (hrB.ext e12) (by omega) (hpB.ext e12) (by have := c2.2.1; omega) (fun x hx => by have := (c2.2.2 x hx).1; omega)).mono ?_
  rintro _ h3 ⟨e3, rfl⟩
  have e13 := e12.trans e3
  simp only [go_sem, ↓reduceIte, r18_4, lr e13, lp e13]
  refine (fn_refCheckPlan (hrB.ext e13) (by omega) (hpB.ext e13) (by have := c2.2.1; omega) (fun x hx => by have := (c2.2.2 x hx).1; omega)).mono ?_
  rintro _ h4 ⟨e4, rfl⟩
  have hbb : ((cpS N rs P).1 == (cpS N rs P).1) = true := by simp
  simp only [go_sem, ↓reduceIte, r18_5, hbb]
  exact e0.trans (e13.trans e4)
end Go.Air
set_option maxRecDepth 100000
namespace Go.Air
open Go.ChangeShapes Go.WideShapes Go.ChangeAt Go.RowKit
def absV (n : Nat) : Value → Option V
  | .int k i => some (.i k i)
  | .bool b => some (.b b)
  | .slice none 0 0 => some .sn
  | .slice (some ⟨b, o, none⟩) l c => if b < n ∧ l ≤ c ∧ 0 < c then some (.sl b o l c none) else if l = 0 ∧ c = 0 then some (.se ⟨b, o, none⟩) else none
  | .slice (some ⟨b, o, some s⟩) l c => if l = 0 ∧ c = 0 then some (.se ⟨b, o, some s⟩) else none
  | _ => none
def R0 (w : World) : Emb := fun b => if b < w.heap.size then some (b, 0) else none
theorem absV_conc {w : World} {v : Value} {u : V} (h : absV w.heap.size v = some u) : conc (R0 w) u = some v := by
  unfold absV at h
  split at h
  · cases h; simp [conc]
  · cases h; simp [conc]
  · cases h; simp [conc]
  · split at h
    · rename_i hc
      cases h
      simp [conc, R0, hc.1]
    · split at h <;> try cases h
      rename_i hc
      obtain ⟨rfl, rfl⟩ := hc
      simp [conc]
  · split at h <;> try cases h
    rename_i hc
    obtain ⟨rfl, rfl⟩ := hc
    simp [conc]
  · cases h
def mkT (f : Nat → Option Blk) : Nat → T Blk
  | 0 => .e
  | n + 1 => (mkT f n).set n (f n)
theorem mkT_get (f : Nat → Option Blk) : ∀ (n b : Nat), (mkT f n).get b = if b < n then f b else none
  | 0, b => by cases b <;> simp [mkT, T.get]
  | n + 1, b => by
    simp only [mkT, T.get_set, mkT_get f n b]
    by_cases h : b = n
    · subst h; simp
    · simp only [if_neg h]
      by_cases h2 : b < n
      · rw [if_pos h2, if_pos (by omega)]
      · rw [if_neg h2, if_neg (by omega)]
def roOf (n : Nat) : Option Obj → Option Blk
  | some (.cells arr _ _) => some (.ro (arr.toList.map (absV n)))
  | _ => none
def h0 (w : World) : H := ⟨w.heap.size, mkT (fun b => roOf w.heap.size w.heap[b]?) w.heap.size, []⟩
theorem h0_get (w : World) (b : Nat) : (h0 w).get b = if b < w.heap.size then roOf w.heap.size w.heap[b]? else none := mkT_get _ _ _
theorem h0_sim (P : Program) (w : World) : Sim P allB (R0 w) (h0 w).get w := by
  refine ⟨?_, ?_, ?_⟩
  · intro b c sz x _ hb hx
    simp only [R0] at hb
    split at hb <;> simp only [Option.some.injEq, Prod.mk.injEq, reduceCtorEq] at hb
    rename_i hlt
    obtain ⟨rfl, rfl⟩ := hb
    rw [h0_get, if_pos hlt] at hx
    unfold roOf at hx
    split at hx <;> simp only [Option.some.injEq, reduceCtorEq] at hx
    rename_i arr e f ho
    subst hx
    refine ⟨arr, e, f, ho, by simp, fun i v hi => ?_⟩
    rw [List.getElem?_map, Option.map_eq_some_iff] at hi
    obtain ⟨y, h1, h2⟩ := hi
    exact ⟨y, h1, absV_conc h2⟩
  · intro b b' c sz sz' x x' _ _ hb hb' _ _
    simp only [R0] at hb hb'
    split at hb <;> simp only [Option.some.injEq, Prod.mk.injEq, reduceCtorEq] at hb
    split at hb' <;> simp only [Option.some.injEq, Prod.mk.injEq, reduceCtorEq] at hb'
    omega
  · intro b c sz hb
    simp only [R0] at hb
    split at hb <;> simp only [Option.some.injEq, Prod.mk.injEq, reduceCtorEq] at hb
    omega
theorem h0_wf (w : World) : WF (h0 w) := by
  refine ⟨fun b hb => ?_, fun _ hb => by simp [h0] at hb⟩
  have hb : w.heap.size ≤ b := hb
  rw [h0_get, if_neg (by omega)]
theorem lift_true {g : Nat} {args : List V} {vs : List Value} {W : World} (hargs : concL (R0 W) args = some vs)
    (hrun : WC Try.tblA (.fn g [] []) args (h0 W) fun v h' => v = .b true ∧ Ext (h0 W) h') :
    Calls Go.Proofs.Try.prog g vs.toArray W fun e W' => e = .returned (.bool true) ∧ Below W.heap.size W W' := by
  obtain ⟨k, v, h', he, rfl, hx⟩ := hrun
  have hfr : Fresh (R0 W) (h0 W) h' := fun b hb _ => by
    have hb : W.heap.size ≤ b := hb
    simp only [R0]
    rw [if_neg (by omega)]
  have h1 := (air_fn Try.mixed Try.okA he (h0_sim _ W) hfr (h0_wf W) hargs).2 none 0
  have h2 : CallsIn Fence.wide 0 Go.Proofs.Try.prog g vs.toArray W _ := h1
  refine (callsIn_wide.1 h2).mono ?_
  intro e W' q
  cases e with
  | returned x =>
    obtain ⟨R', l, f, _, hc⟩ := q
    refine ⟨by simp [conc] at hc; rw [hc], f.io.1, f.io.2.1, f.io.2.2, f.size, fun c hlt => f.frame c hlt fun b sz hb hl => ?_⟩
    obtain ⟨l', e1, e2⟩ := hx.log
    have e3 := f.log
    rw [e1] at e3
    have : l' = l := List.append_cancel_right e3
    subst this
    have := e2 b hl
    have hn : (h0 W).next = W.heap.size := rfl
    simp only [R0] at hb
    split at hb <;> simp only [Option.some.injEq, Prod.mk.injEq, reduceCtorEq] at hb
    omega
  | _ => exact q.elim
theorem own : ownKnob Go.Proofs.Try.prog.godebug = none := by kernel_rfl
theorem laid : laidOutB Go.Proofs.Try.prog = true := by kernel_rfl
theorem trodAll_stays {H : Type} {enc : TypeId × Value → H} {P : Program} {base : Nat} (hl : laidOutB P = true) {W W' : World} {sp : Nat → Bool} : ∀ {ts : List TypeId} {vs : List Value} {ds : List (DataW H)} {ps : List MemPlace},
    (∀ t ∈ ts, P.readableRec t = true ∧ t < P.types.size) → DataW.TrodAll enc P W base (fun _ => true) true ts vs ds ps → (∀ p ∈ ps, W.sameAt W' p) → (∀ p ∈ ps, sp p.block = true) → DataW.TrodAll enc P W' base sp true ts vs ds ps
  | [], _, _, _, _, h, _, _ => by
    obtain ⟨rfl, rfl, rfl⟩ := trodAll_nil h
    exact h
  | t :: ts, _, _, _, ht, h, h1, h2 => by
    obtain ⟨v, vs1, d, ds1, a, b, rfl, rfl, rfl, q1, q2⟩ := trodAll_cons h
    have := ht t (by simp)
    exact ⟨a, b, WideElems.Trod_stays hl this.1 this.2 q1 (fun p hp => h1 p (List.mem_append_left _ hp)) (fun p hp => h2 p (List.mem_append_left _ hp)),
      trodAll_stays hl (fun t ht' => ht t (by simp [ht'])) q2 (fun p hp => h1 p (List.mem_append_right _ hp)) (fun p hp => h2 p (List.mem_append_right _ hp)), rfl⟩
theorem trodAll_length {H : Type} {enc : TypeId × Value → H} {P : Program} {w : World} {base : Nat} {spare : Nat → Bool} {held : Bool} : ∀ {ts : List TypeId} {vs : List Value} {ds : List (DataW H)} {ps : List MemPlace},
    DataW.TrodAll enc P w base spare held ts vs ds ps → ds.length = ts.length
  | [], _, _, _, h => by
    obtain ⟨_, rfl, _⟩ := trodAll_nil h
    rfl
  | t :: ts, _, _, _, h => by
    obtain ⟨v, vs1, d, ds1, a, b, rfl, rfl, rfl, q1, q2⟩ := trodAll_cons h
    simp [trodAll_length q2]
noncomputable def readable (l : List TypeId) : Bool := l.all fun t => Go.Proofs.Try.prog.readableRec t && decide (t < Go.Proofs.Try.prog.types.size)
theorem post_true {H : Type} {enc : TypeId × Value → H} {f : Func} {s : ChangeSpec} {W W' : World} {args : Array Value} {bt : TypeId} {ds gs : List (DataW H)} {before : List MemPlace}
    (hW : DataW.Whole enc Go.Proofs.Try.prog f.params.toList s.vars false W args.toList ds gs before) (hv : s.vars = []) (hs : s.fn H ds = { results := [.lit (.bool true)], args := ds })
    (hr : f.resultTypes = #[bt]) (hbt : Go.Proofs.Try.prog.underlying bt = some .bool) (hp : readable f.params.toList = true) (hb : Below W.heap.size W W') :
    s.post enc Go.Proofs.Try.prog f false true false false W args (.bool true) W' := by
  have hlt := hW.lt
  have hW' := hW
  obtain ⟨p, q, hA, hV, rfl, hfz, hnd⟩ := hW
  rw [hv] at hV
  have hV0 := hV
  obtain ⟨rfl, rfl⟩ := trodVars_none hV
  have hread : ∀ t ∈ f.params.toList, Go.Proofs.Try.prog.readableRec t = true ∧ t < Go.Proofs.Try.prog.types.size := by
    intro t ht
    have := List.all_eq_true.1 hp t ht
    simpa using this
  have hlt' : ∀ x ∈ p, x.block < W.heap.size := fun x hx => hlt x (by simp [hx])
  have e : s.fn H (ds ++ []) = { results := [.lit (.bool true)], args := ds } := by simpa using hs
  refine ⟨ds, [], p ++ [], [], p, [], hW', ?_, ?_, ?_, hb.frame _, fun ha => by cases ha⟩
  · rw [e, hr]
    exact trodAll_mk1 (shut_bool hbt true)
  · rw [e]
    exact trodAll_stays laid hread hA (fun x hx => hb.same (hlt' x hx)) (fun x hx => by simpa using hlt' x hx)
  · rw [e, hv]
    exact hV0
theorem row_true {g : Nat} {fn : Func} {s : ChangeSpec} {bt : TypeId} (hfn : Go.Proofs.Try.prog.funcs[g]? = some fn) (hv : s.vars = [])
    (hs : ∀ (H : Type) (ds : List (DataW H)), ds.length = fn.params.size → s.fn H ds = { results := [.lit (.bool true)], args := ds })
    (hr : fn.resultTypes = #[bt]) (hbt : Go.Proofs.Try.prog.underlying bt = some .bool) (hp : readable fn.params.toList = true) (hni : Go.Proofs.Try.checked.prog.inits.idxOf? g = none)
    (os : Os) (started : os.Started) (H : Type) (enc : TypeId × Value → H)
    (witness : ∃ (w : World) (tape : Tape) (i : Input), w.os = os ∧ (w.forCall tape i).Shaped Go.Proofs.Try.checked.prog ∧ i.vars = [] ∧ Input.okWide Go.Proofs.Try.checked.prog (w.forCall tape i) .any w.heap.size g i ∧
      s.pre6 enc Go.Proofs.Try.checked.prog fn [] false (w.forCall tape i).memory i.args ∧ Assume.holds {} Go.Proofs.Try.checked.prog (lone (Frame.enter Go.Proofs.Try.checked.prog g i.args .normal) [] (w.forCall tape i)))
    (hrun : ∀ (W : World) (args : List Value) (ds : List (DataW H)) (ps : List MemPlace) (base : Nat), (∀ (j : Nat) t v, fn.params[j]? = some t → args[j]? = some v → Value.okWide Go.Proofs.Try.prog W .any base t v) →
      DataW.TrodAll enc Go.Proofs.Try.prog W 0 (fun _ => true) true fn.params.toList args ds ps →
      (DataW.weightsEach Go.Proofs.Try.prog fn.params.toList ds).all (· ≤ reachBytes) = true →
      ∃ us, concL (R0 W) us = some args ∧ WC Try.tblA (.fn g [] []) us (h0 W) fun v h' => v = .b true ∧ Ext (h0 W) h') :
    ReturnsInHanded {} Go.Proofs.Try.checked os g .any (s.pre6 enc Go.Proofs.Try.checked.prog fn [] false) (s.post enc Go.Proofs.Try.checked.prog fn false true false false) := by
  refine returnsInHanded_of_change_shaped (C := Go.Proofs.Try.checked) own started hni hfn witness ?_
  intro W base args ds gs before hval hW _ hwt _ _
  have hW' := hW
  obtain ⟨p, q, hA, hV, rfl, hfz, hnd⟩ := hW
  rw [hv] at hV
  obtain ⟨rfl, rfl⟩ := trodVars_none hV
  have hw2 : (DataW.weightsEach Go.Proofs.Try.prog fn.params.toList ds).all (· ≤ reachBytes) = true := by
    have e : s.plain.varTypes Go.Proofs.Try.checked.prog = [] := by simp [DataSpec.varTypes, ChangeSpec.plain, hv]
    have h := hwt
    rw [e, List.append_nil, List.append_nil] at h
    exact h
  obtain ⟨us, h1, h2⟩ := hrun W args.toList ds p base (fun j t v h1 h2 => hval j t v h1 (by simpa using h2)) hA hw2
  have hcall := lift_true h1 h2
  rw [Array.toArray_toList] at hcall
  refine hcall.mono ?_
  rintro e W' ⟨rfl, hb⟩
  exact ⟨_, rfl, post_true hW' hv (hs H ds (by simpa using trodAll_length hA)) hr hbt hp hb⟩
end Go.Air
set_option maxRecDepth 100000
namespace Go.Air
open Go.ChangeShapes Go.WideShapes Go.ChangeAt Go.RowKit Go.Air.Try
theorem cutO_of : ∀ {cs : List (Option V)} {o n : Nat} {l : List V}, l.length = n → (∀ (i : Nat) (v : V), l[i]? = some v → cs[o + i]? = some (some v)) → o + n ≤ cs.length → cutO cs o n = some l
  | [], 0, 0, l, hl, _, _ => by
    obtain rfl := List.eq_nil_of_length_eq_zero hl
    rfl
  | _ :: _, 0, 0, l, hl, _, _ => by
    obtain rfl := List.eq_nil_of_length_eq_zero hl
    rfl
  | [], 0, n + 1, _, _, _, h => by simp at h
  | [], o + 1, n, _, _, _, h => by simp at h
  | x :: cs, 0, n + 1, l, hl, h, hle => by
    cases l with
    | nil => simp at hl
    | cons v l =>
      have h0 := h 0 v rfl
      simp only [Nat.add_zero, List.getElem?_cons_zero, Option.some.injEq] at h0
      subst h0
      have ih := cutO_of (cs := cs) (o := 0) (n := n) (l := l) (by simpa using hl) (fun i v hi => by
        have := h (i + 1) v (by simpa using hi)
        rw [show 0 + (i + 1) = (0 + i) + 1 by omega] at this
        simpa using this) (by simp at hle ⊢; omega)
      simp only [cutO, ih, Option.map_some]
  | x :: cs, o + 1, n, l, hl, h, hle => by
    simp only [cutO]
    refine cutO_of (o := o) hl (fun i v hi => ?_) (by simp at hle; omega)
    have := h i v hi
    rw [show o + 1 + i = (o + i) + 1 by omega] at this
    simpa using this
variable {W : World}
theorem cell_inv {a : Addr} {x : Value} (h : W.cell? a = some x) : a.spot = none ∧ ∃ arr e f, W.heap[a.block]? = some (.cells arr e f) ∧ arr.toList[a.off]? = some x := by
  unfold World.cell? at h
  split at h <;> try simp at h
  rename_i arr e f ho
  exact ⟨h.1, arr, e, f, ho, by simpa using h.2⟩
theorem arg_of {a : Addr} {len cap esz : Nat} {cs : List V} (hlen : cs.length = len * esz) (hc : 0 < cap) (hz : 0 < esz) (hle : len ≤ cap) {x0 : Value} (hx0 : W.cell? (a.add 0) = some x0)
    (hcell : ∀ i u, cs[i]? = some u → ∃ x, W.cell? (a.add i) = some x ∧ absV W.heap.size x = some u) :
    ∃ v, absV W.heap.size (.slice (some a) len cap) = some v ∧ conc (R0 W) v = some (.slice (some a) len cap) ∧ Arg esz (h0 W) v len cs := by
  obtain ⟨b, o, s⟩ := a
  obtain ⟨hs, arr, e, f, ho, _⟩ := cell_inv hx0
  obtain rfl : s = none := by simpa [Addr.add] using hs
  simp only [add_spot] at hcell ho
  have hb : b < W.heap.size := by
    rcases Nat.lt_or_ge b W.heap.size with h | h
    · exact h
    · rw [Array.getElem?_eq_none h] at ho; cases ho
  have hv : absV W.heap.size (.slice (some ⟨b, o, none⟩) len cap) = some (.sl b o len cap none) := by
    simp only [absV]
    rw [if_pos ⟨hb, hle, hc⟩]
  refine ⟨_, hv, absV_conc hv, .inr ⟨b, o, cap, _, rfl, hle, hb, by rw [h0_get, if_pos hb, ho]; rfl, ?_⟩⟩
  have hcell' : ∀ (i : Nat) (u : V), cs[i]? = some u → ∃ x, arr.toList[o + i]? = some x ∧ absV W.heap.size x = some u := by
    intro i u hi
    obtain ⟨x, h1, h2⟩ := hcell i u hi
    obtain ⟨_, arr', e', f', q1, q2⟩ := cell_inv h1
    simp only at q1 q2
    rw [ho] at q1
    cases q1
    exact ⟨x, q2, h2⟩
  simp only [Blk.rd]
  refine cutO_of hlen (fun i u hi => ?_) ?_
  · obtain ⟨x, h1, h2⟩ := hcell' i u hi
    rw [List.getElem?_map, h1, Option.map_some, h2]
  · by_cases h0 : len * esz = 0
    · have hx : o ≤ arr.toList.length := by
        obtain ⟨_, arr', e', f', q1, q2⟩ := cell_inv hx0
        simp only [add_spot] at q1 q2
        rw [ho] at q1
        cases q1
        have := (List.getElem?_eq_some_iff.1 q2).1
        simp only [Nat.add_zero] at this
        omega
      simp only [List.length_map]; omega
    · have hlt : len * esz - 1 < cs.length := by omega
      obtain ⟨x, h1, _⟩ := hcell' (len * esz - 1) cs[len * esz - 1] (List.getElem?_eq_getElem hlt)
      have := (List.getElem?_eq_some_iff.1 h1).1
      simp only [List.length_map]; omega
end Go.Air
set_option maxRecDepth 100000
namespace Go.Air
open Go.ChangeShapes Go.WideShapes Go.ChangeAt Go.RowKit Go.Air.Try Go.Deep
variable {W : World}
theorem trod_struct4 {H : Type} {enc : TypeId × Value → H} {P : Program} {w : World} {base : Nat} {spare : Nat → Bool} {held : Bool} {t : TypeId} {f0 f1 f2 f3 : Field} {fuel : Nat} {cs : List Value} {x : DataW H × List MemPlace} (ht : P.underlying t = some (.struct #[f0, f1, f2, f3])) (h : DataW.trod enc P w base spare held fuel t cs = some x) :
    ∃ y0 y1 y2 y3 n, cs.length = P.cellsOf t ∧ DataW.trod enc P w base spare held n f0.type ((cs.drop f0.offset).take (P.cellsOf f0.type)) = some y0 ∧
      DataW.trod enc P w base spare held n f1.type ((cs.drop f1.offset).take (P.cellsOf f1.type)) = some y1 ∧ DataW.trod enc P w base spare held n f2.type ((cs.drop f2.offset).take (P.cellsOf f2.type)) = some y2 ∧
      DataW.trod enc P w base spare held n f3.type ((cs.drop f3.offset).take (P.cellsOf f3.type)) = some y3 := by
  obtain ⟨xs, n, _, rfl, hl, hlen, hf⟩ := DataW.trod_struct ht h
  match xs, hlen with
  | [y0, y1, y2, y3], _ => exact ⟨y0, y1, y2, y3, n, hl, by simpa using hf 0 f0 rfl, by simpa using hf 1 f1 rfl, by simpa using hf 2 f2 rfl, by simpa using hf 3 f3 rfl⟩
theorem open_arrowsA {H : Type} {enc : TypeId × Value → H} {fuel : Nat} {cs : List Value} {x : DataW H × List MemPlace}
    (h : DataW.trod enc Go.Proofs.Try.prog W 0 (fun _ => true) true fuel 22 cs = some x) :
    ∃ v u rs, cs = [v] ∧ absV W.heap.size v = some u ∧ conc (R0 W) u = some v ∧ Arrs (h0 W) u rs := by
  have c23 : Go.Proofs.Try.prog.cellsOf 41 = 4 := by kernel_rfl
  have c3 : Go.Proofs.Try.prog.cellsOf 3 = 1 := by kernel_rfl
  rcases open_slice Go.Proofs.Try.underlying22 h with ⟨hcs, _⟩ | ⟨a, len, cap, m, n, D, Pl, hcs, _, hl, hm, hmm, _, hx⟩
  · subst hcs
    exact ⟨_, .sn, [], rfl, rfl, by simp [conc], .inl ⟨rfl, rfl, .inl rfl⟩⟩
  · subst hcs
    simp only [if_true] at hmm
    subst hmm
    by_cases h0' : m = 0
    · subst h0'
      obtain rfl : len = 0 := by omega
      obtain ⟨b, o, s⟩ := a
      refine ⟨_, .se ⟨b, o, s⟩, [], rfl, ?_, by simp [conc], .inl ⟨rfl, rfl, .inr ⟨_, rfl⟩⟩⟩
      cases s <;> simp [absV]
    · have hz : ∀ i, ∃ q : Arw, i < m → ∀ (j : Nat) (u : V), (arw q)[j]? = some u → ∃ x, W.cell? (a.add (i * 4 + j)) = some x ∧ absV W.heap.size x = some u := by
        intro i
        by_cases hi : ¬ i < m
        · exact ⟨⟨0, 0, 0, 0⟩, fun h => absurd h hi⟩
        replace hi := Classical.not_not.1 hi
        obtain ⟨cs', h1, h2⟩ := hx i hi
        rw [c23] at h1
        obtain ⟨_, hlen, hcell⟩ := World.cells?_some h1
        obtain ⟨y0, y1, y2, y3, k, _, g0, g1, g2, g3⟩ := trod_struct4 Go.Proofs.Try.underlying41 h2
        rw [c3] at g0 g1 g2 g3
        match cs', hlen with
        | [v0, v1, v2, v3], _ =>
          obtain ⟨z0, e0, _⟩ := DataW.trod_int Go.Proofs.Try.underlying3 g0
          obtain ⟨z1, e1, _⟩ := DataW.trod_int Go.Proofs.Try.underlying3 g1
          obtain ⟨z2, e2, _⟩ := DataW.trod_int Go.Proofs.Try.underlying3 g2
          obtain ⟨z3, e3, _⟩ := DataW.trod_int Go.Proofs.Try.underlying3 g3
          simp at e0 e1 e2 e3
          subst e0 e1 e2 e3
          refine ⟨⟨z0, z1, z2, z3⟩, fun _ j u hj => ?_⟩
          have hj4 : j < 4 := (List.getElem?_eq_some_iff.1 hj).1
          have hc := hcell j hj4
          rw [add_add] at hc
          match j, hj4, hj, hc with
          | 0, _, hj, hc => simp [arw] at hj; subst hj; exact ⟨_, hc, rfl⟩
          | 1, _, hj, hc => simp [arw] at hj; subst hj; exact ⟨_, hc, rfl⟩
          | 2, _, hj, hc => simp [arw] at hj; subst hj; exact ⟨_, hc, rfl⟩
          | 3, _, hj, hc => simp [arw] at hj; subst hj; exact ⟨_, hc, rfl⟩
      obtain ⟨f, hf⟩ := Classical.axiomOfChoice hz
      have hget : ∀ i, i < len → ((List.range len).map f)[i]? = some (f i) := by intro i hi; simp [hi]
      have hrl := recs_len arw_len ((List.range len).map f)
      obtain ⟨x0, hx0, _⟩ := hf 0 (by omega) 0 _ rfl
      obtain ⟨u, q1, q2, q3⟩ := arg_of (W := W) (a := a) (len := len) (cap := m) (esz := 4) (cs := recs arw ((List.range len).map f)) (by rw [hrl]; simp) (by omega) (by omega) hl (x0 := x0) (by simpa using hx0) (by
        intro i u hi
        have hlt : i < len * 4 := by
          have := (List.getElem?_eq_some_iff.1 hi).1
          rw [hrl] at this
          simpa using this
        have hjl : i / 4 < len := by omega
        have hi' : i = i / 4 * 4 + i % 4 := by omega
        rw [hi'] at hi ⊢
        rw [recs_get arw_len (hget _ hjl) (by omega)] at hi
        exact hf (i / 4) (by omega) (i % 4) u hi)
      refine ⟨_, u, (List.range len).map f, rfl, q1, q2, ?_⟩
      have := q3.sl
      unfold Arrs
      simpa using this
theorem open_relA {H : Type} {enc : TypeId × Value → H} {base : Nat} {v : Value} {d : DataW H} {p : List MemPlace} (hval : Value.okWide Go.Proofs.Try.prog W .any base 24 v)
    (hd : DataW.Trod enc Go.Proofs.Try.prog W 0 (fun _ => true) true 24 v d p) : ∃ (N : Int) (u : V) (rs : List Arw), conc (R0 W) (.agg [.i .i64 N, u]) = some v ∧ Arrs (h0 W) u rs := by
  have c3 : Go.Proofs.Try.prog.cellsOf 3 = 1 := by kernel_rfl
  have c22 : Go.Proofs.Try.prog.cellsOf 22 = 1 := by kernel_rfl
  have c24 : Go.Proofs.Try.prog.cellsOf 24 = 2 := by kernel_rfl
  obtain ⟨cs, rfl, hsz⟩ := okWide_struct Go.Proofs.Try.underlying24 hval
  obtain ⟨fuel, hf⟩ := hd
  obtain ⟨y0, y1, n, _, hl, q0, q1⟩ := trod_struct2 Go.Proofs.Try.underlying24 hf
  rw [c24] at hsz
  obtain ⟨l⟩ := cs
  simp only [Value.cells, List.size_toArray] at hsz q0 q1
  match l, hsz with
  | [x, y], _ =>
    rw [c3] at q0
    rw [c22] at q1
    obtain ⟨N, e1, _⟩ := DataW.trod_int Go.Proofs.Try.underlying3 q0
    obtain ⟨v, u, rs, e2, r1, r2, r3⟩ := open_arrowsA q1
    simp at e1 e2
    subst e1 e2
    exact ⟨N, u, rs, by simp [conc, concL, r2], r3⟩
end Go.Air
set_option maxRecDepth 100000
namespace Go.Air
open Go.ChangeShapes Go.WideShapes Go.ChangeAt Go.RowKit Go.Air.Try Go.Deep
variable {W : World}
theorem slice_ints {a : Option Addr} {len cap : Nat} {zs : List Int} (hl : len ≤ cap) (hz : zs.length = cap) (hn : a = none → cap = 0) (hcell : ∀ a', a = some a' → ∀ i, i < cap → W.cell? (a'.add i) = some (.int .i64 (zs.getD i 0))) :
    ∃ u, absV W.heap.size (.slice a len cap) = some u ∧ conc (R0 W) u = some (.slice a len cap) ∧ Arg 1 (h0 W) u len (ints (zs.take len)) := by
  cases a with
  | none =>
    obtain rfl := hn rfl
    obtain rfl : len = 0 := by omega
    exact ⟨.sn, rfl, by simp [conc], .inl ⟨rfl, by simp [ints], .inl rfl⟩⟩
  | some a =>
    by_cases h0 : cap = 0
    · subst h0
      obtain rfl : len = 0 := by omega
      obtain ⟨b, o, s⟩ := a
      refine ⟨.se ⟨b, o, s⟩, ?_, by simp [conc], .inl ⟨rfl, by simp [ints], .inr ⟨_, rfl⟩⟩⟩
      cases s <;> simp [absV]
    · have hc := hcell a rfl
      exact arg_of (W := W) (a := a) (len := len) (cap := cap) (esz := 1) (cs := ints (zs.take len)) (by simp [ints]; omega) (by omega) (by omega) hl (hc 0 (by omega)) (by
        intro i u hi
        rw [ints_get, Option.map_eq_some_iff] at hi
        obtain ⟨x, h1, rfl⟩ := hi
        have hlt := (List.getElem?_eq_some_iff.1 h1).1
        simp at hlt
        refine ⟨_, hc i (by omega), ?_⟩
        have : zs.getD i 0 = x := by
          rw [List.getElem?_take_of_lt (by omega)] at h1
          rw [List.getD_eq_getElem?_getD, h1]; rfl
        rw [this]
        rfl)
end Go.Air
set_option maxRecDepth 100000
namespace Go.Air
open Go.ChangeShapes Go.WideShapes Go.ChangeAt Go.RowKit Go.Air.Try Go.Deep
variable {W : World}
theorem trod_struct3 {H : Type} {enc : TypeId × Value → H} {P : Program} {w : World} {base : Nat} {spare : Nat → Bool} {held : Bool} {t : TypeId} {f0 f1 f2 : Field} {fuel : Nat} {cs : List Value} {x : DataW H × List MemPlace} (ht : P.underlying t = some (.struct #[f0, f1, f2])) (h : DataW.trod enc P w base spare held fuel t cs = some x) :
    ∃ y0 y1 y2 n, cs.length = P.cellsOf t ∧ DataW.trod enc P w base spare held n f0.type ((cs.drop f0.offset).take (P.cellsOf f0.type)) = some y0 ∧
      DataW.trod enc P w base spare held n f1.type ((cs.drop f1.offset).take (P.cellsOf f1.type)) = some y1 ∧ DataW.trod enc P w base spare held n f2.type ((cs.drop f2.offset).take (P.cellsOf f2.type)) = some y2 := by
  obtain ⟨xs, n, _, rfl, hl, hlen, hf⟩ := DataW.trod_struct ht h
  match xs, hlen with
  | [y0, y1, y2], _ => exact ⟨y0, y1, y2, n, hl, by simpa using hf 0 f0 rfl, by simpa using hf 1 f1 rfl, by simpa using hf 2 f2 rfl⟩
theorem open_cellI {H : Type} {enc : TypeId × Value → H} {fuel : Nat} {v : Value} {x : DataW H × List MemPlace} (h : DataW.trod enc Go.Proofs.Try.prog W 0 (fun _ => true) true fuel 27 [v] = some x) :
    ∃ u xs, absV W.heap.size v = some u ∧ conc (R0 W) u = some v ∧ Ints (h0 W) u xs := by
  rcases open_ints Go.Proofs.Try.underlying27 Go.Proofs.Try.underlying3 (by kernel_rfl) h with ⟨hcs, _⟩ | ⟨a, len, cap, zs, hcs, _, hl, hm, hz, hx, hcell, hw⟩
  · simp at hcs
    subst hcs
    exact ⟨.sn, [], rfl, by simp [conc], .nil⟩
  · simp at hcs
    subst hcs
    simp only [if_true] at hz
    obtain ⟨u, q1, q2, q3⟩ := slice_ints (W := W) (a := some a) hl hz (fun q => by cases q) (fun a' ha i hi => by
      cases ha
      exact hcell i (by omega))
    exact ⟨u, zs.take len, q1, q2, (Ints.of q3.sl).1⟩
theorem open_tablesA {H : Type} {enc : TypeId × Value → H} {fuel : Nat} {v : Value} {x : DataW H × List MemPlace} (hf : DataW.trod enc Go.Proofs.Try.prog W 0 (fun _ => true) true fuel 28 [v] = some x) :
    ∃ u tb, absV W.heap.size v = some u ∧ conc (R0 W) u = some v ∧ TB (h0 W) u tb := by
  rcases open_slice_pairs Go.Proofs.Try.underlying28 Go.Proofs.Try.underlying91 (by kernel_rfl) rfl rfl (by kernel_rfl) (by kernel_rfl) hf with ⟨hcs, _⟩ | ⟨a, len, cap, m, k, V0, V1, D0, D1, P0, P1, hcs, _, hl, hm, hmm, _, hall⟩
  · simp at hcs
    subst hcs
    exact ⟨.sn, [], rfl, by simp [conc], [], .inl ⟨rfl, rfl, .inl rfl⟩, fun j g vals hj => by simp at hj⟩
  · simp at hcs
    subst hcs
    simp only [if_true] at hmm
    subst hmm
    by_cases h0' : m = 0
    · subst h0'
      obtain rfl : len = 0 := by omega
      obtain ⟨b, o, s⟩ := a
      refine ⟨.se ⟨b, o, s⟩, [], ?_, by simp [conc], [], .inl ⟨rfl, rfl, .inr ⟨_, rfl⟩⟩, fun j g vals hj => by simp at hj⟩
      cases s <;> simp [absV]
    · have each : ∀ i, ∃ q : (V × List Int) × (V × List Int), i < m → absV W.heap.size (V0 i) = some q.1.1 ∧ Ints (h0 W) q.1.1 q.1.2 ∧ absV W.heap.size (V1 i) = some q.2.1 ∧ Ints (h0 W) q.2.1 q.2.2 := by
        intro i
        by_cases hi : i < m
        · obtain ⟨_, _, q1, q2⟩ := hall i hi
          obtain ⟨u1, x1, r1, _, s1⟩ := open_cellI q1
          obtain ⟨u2, x2, r2, _, s2⟩ := open_cellI q2
          exact ⟨((u1, x1), (u2, x2)), fun _ => ⟨r1, s1, r2, s2⟩⟩
        · exact ⟨((.sn, []), (.sn, [])), fun h => absurd h hi⟩
      obtain ⟨f, hf'⟩ := Classical.axiomOfChoice each
      let pr : (V × List Int) × (V × List Int) → List V := fun q => [q.1.1, q.2.1]
      have hpr : ∀ q, (pr q).length = 2 := fun q => rfl
      have hget : ∀ i, i < len → ((List.range len).map f)[i]? = some (f i) := by intro i hi; simp [hi]
      have hrl := recs_len hpr ((List.range len).map f)
      obtain ⟨u, q1, q2, q3⟩ := arg_of (W := W) (a := a) (len := len) (cap := m) (esz := 2) (cs := recs pr ((List.range len).map f)) (by rw [hrl]; simp) (by omega) (by omega) hl (x0 := V0 0) (by simpa using (hall 0 (by omega)).1) (by
        intro i u hi
        have hlt : i < len * 2 := by
          have := (List.getElem?_eq_some_iff.1 hi).1
          rw [hrl] at this
          simpa using this
        have hjl : i / 2 < len := by omega
        have hi' : i = i / 2 * 2 + i % 2 := by omega
        rw [hi'] at hi ⊢
        rw [recs_get hpr (hget _ hjl) (by omega)] at hi
        obtain ⟨x1, x2, _, _⟩ := hall (i / 2) (by omega)
        obtain ⟨y1, _, y2, _⟩ := hf' (i / 2) (by omega)
        rcases Nat.lt_or_ge (i % 2) 1 with z | z
        · rw [show i % 2 = 0 by omega] at hi ⊢
          simp [pr] at hi
          subst hi
          exact ⟨_, by simpa using x1, y1⟩
        · rw [show i % 2 = 1 by omega] at hi ⊢
          simp [pr] at hi
          subst hi
          exact ⟨_, x2, y2⟩)
      refine ⟨u, ((List.range len).map f).map fun q => (q.1.2, q.2.2), q1, q2, recs pr ((List.range len).map f), by simpa using q3.sl, fun j g vals hj => ?_⟩
      have hlt := (List.getElem?_eq_some_iff.1 hj).1
      simp at hlt
      rw [List.getElem?_map, hget j hlt] at hj
      simp at hj
      obtain ⟨rfl, rfl⟩ := hj
      obtain ⟨_, s1, _, s2⟩ := hf' j (by omega)
      exact ⟨(f j).1.1, (f j).2.1, by have := recs_get hpr (hget j hlt) (j := 0) (by omega); simpa [pr] using this, by have := recs_get hpr (hget j hlt) (j := 1) (by omega); simpa [pr] using this, s1, s2⟩
theorem open_planA {H : Type} {enc : TypeId × Value → H} {base : Nat} {v : Value} {d : DataW H} {p : List MemPlace} (hval : Value.okWide Go.Proofs.Try.prog W .any base 30 v)
    (hd : DataW.Trod enc Go.Proofs.Try.prog W 0 (fun _ => true) true 30 v d p) : ∃ (q : V) (P : PlanS), conc (R0 W) q = some v ∧ PlanR (h0 W) q P := by
  have c3 : Go.Proofs.Try.prog.cellsOf 3 = 1 := by kernel_rfl
  have c27 : Go.Proofs.Try.prog.cellsOf 27 = 1 := by kernel_rfl
  have c28 : Go.Proofs.Try.prog.cellsOf 28 = 1 := by kernel_rfl
  have c30 : Go.Proofs.Try.prog.cellsOf 30 = 3 := by kernel_rfl
  obtain ⟨cs, rfl, hsz⟩ := okWide_struct Go.Proofs.Try.underlying30 hval
  obtain ⟨fuel, hf⟩ := hd
  obtain ⟨y0, y1, y2, n, hl, q0, q1, q2⟩ := trod_struct3 Go.Proofs.Try.underlying30 hf
  rw [c30] at hsz
  obtain ⟨l⟩ := cs
  simp only [Value.cells, List.size_toArray] at hsz q0 q1 q2
  match l, hsz with
  | [x, y, z], _ =>
    rw [c27] at q0
    rw [c3] at q1
    rw [c28] at q2
    obtain ⟨u, xs, _, r2, r3⟩ := open_cellI (by simpa using q0)
    obtain ⟨N, e1, _⟩ := DataW.trod_int Go.Proofs.Try.underlying3 q1
    simp at e1
    subst e1
    obtain ⟨w, tb, _, s2, s3⟩ := open_tablesA (by simpa using q2)
    exact ⟨.agg [u, .i .i64 N, w], ⟨xs, N, tb⟩, by simp [conc, concL, r2, s2], u, w, rfl, r3, s3⟩
end Go.Air
