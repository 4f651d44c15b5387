/-
  A part of the proof of: The row RowsSpares, from the law in Air.
-/
import Derived.Test.YtlldpmkdjpmlpaaSpF
set_option linter.unusedSectionVars false
set_option linter.unusedVariables false
set_option linter.unusedSimpArgs false
set_option maxRecDepth 100000
namespace Go.Air
open Go.Air.Try
theorem Rows.mono {h0 h1 h : H} {w : V} {xss : List (List Int)} (r : Rows h1 h w xss) (hn : h0.next ≤ h1.next) : Rows h0 h w xss := by
  obtain ⟨cs, o, hc⟩ := r
  refine ⟨cs, o.mono hn, fun j xs hj => ?_⟩
  obtain ⟨c, q1, q2, q3, q4⟩ := hc j xs hj
  exact ⟨c, q1, q2, by omega, q4⟩
theorem t120 : tblA 120 = some a120 := by kernel_rfl
theorem fn_components {h : H} {wb n : Nat} {e r : Nat → Nat → Bool} (hn : n ≤ 24) (hw : wb < h.next) (g : h.get wb = some (.cells (webC (n : Int) e r))) :
    WC tblA (.fn 120 [] []) [.p wb 0] h fun u h' => Ext h h' ∧ Rows h h' u (comps r n n noneD) := by
  refine (WC_in t120).2 ?_
  simp only [go_sem, ↓reduceIte, r120_0, r120_1, r120_2, r120_3, r120_4, H.next_new]
  have e1 : Ext h ((((h.new (.cells [.p wb 0])).new (.cells [.sn])).new (.cells (List.replicate 24 (.b false)))).new (.cells [.fnil])) := ((((Ext.refl h).new _).new _).new _).new _
  have g1 : ((((h.new (.cells [.p wb 0])).new (.cells [.sn])).new (.cells (List.replicate 24 (.b false)))).new (.cells [.fnil])).get h.next = some (.cells [.p wb 0]) := by
    rw [H.get_new, if_neg (by simp <;> omega), H.get_new, if_neg (by simp <;> omega), H.get_new, if_neg (by simp <;> omega), H.get_new, if_pos rfl]
  have g2 : ((((h.new (.cells [.p wb 0])).new (.cells [.sn])).new (.cells (List.replicate 24 (.b false)))).new (.cells [.fnil])).get (h.next + 1) = some (.cells [.sn]) := by
    rw [H.get_new, if_neg (by simp <;> omega), H.get_new, if_neg (by simp <;> omega), H.get_new, if_pos (by simp)]
  have g3 : ((((h.new (.cells [.p wb 0])).new (.cells [.sn])).new (.cells (List.replicate 24 (.b false)))).new (.cells [.fnil])).get (h.next + 1 + 1) = some (.cells (cells24 noneD)) := by
    rw [H.get_new, if_neg (by simp <;> omega), H.get_new, if_pos (by simp), cells24_zero]
  have g4 : ((((h.new (.cells [.p wb 0])).new (.cells [.sn])).new (.cells (List.replicate 24 (.b false)))).new (.cells [.fnil])).get (h.next + 1 + 1 + 1) = some (.cells [.fnil]) := by
    rw [H.get_new, if_pos (by simp)]
  have nx : ((((h.new (.cells [.p wb 0])).new (.cells [.sn])).new (.cells (List.replicate 24 (.b false)))).new (.cells [.fnil])).next = h.next + 1 + 1 + 1 + 1 := by simp
  generalize ((((h.new (.cells [.p wb 0])).new (.cells [.sn])).new (.cells (List.replicate 24 (.b false)))).new (.cells [.fnil])) = h1 at *
  have hst := st_ref (v := .fn 129 [] [.p h.next 0, .p (h.next + 1 + 1) 0, .p (h.next + 1) 0, .p (h.next + 1 + 1 + 1) 0]) g4 rfl rfl
  simp only [go_sem, ↓reduceIte, hst]
  have x2 : ExtX (· = h.next + 1 + 1 + 1) h1 (h1.put (h.next + 1 + 1 + 1) (.cells [.fn 129 [] [.p h.next 0, .p (h.next + 1 + 1) 0, .p (h.next + 1) 0, .p (h.next + 1 + 1 + 1) 0]])) := (ExtX.refl (· = h.next + 1 + 1 + 1) h1).put (.inr rfl) _
  have e2 : Ext h (h1.put (h.next + 1 + 1 + 1) (.cells [.fn 129 [] [.p h.next 0, .p (h.next + 1 + 1) 0, .p (h.next + 1) 0, .p (h.next + 1 + 1 + 1) 0]])) := e1.put (by omega) _
  have g4' : (h1.put (h.next + 1 + 1 + 1) (.cells [.fn 129 [] [.p h.next 0, .p (h.next + 1 + 1) 0, .p (h.next + 1) 0, .p (h.next + 1 + 1 + 1) 0]])).get (h.next + 1 + 1 + 1) = some (.cells [.fn 129 [] [.p h.next 0, .p (h.next + 1 + 1) 0, .p (h.next + 1) 0, .p (h.next + 1 + 1 + 1) 0]]) := by rw [H.get_put, if_pos rfl]
  have n2 : (h1.put (h.next + 1 + 1 + 1) (.cells [.fn 129 [] [.p h.next 0, .p (h.next + 1 + 1) 0, .p (h.next + 1) 0, .p (h.next + 1 + 1 + 1) 0]])).next = h1.next := by simp
  replace g1 := x2.get (by omega) (by omega) g1
  replace g2 := x2.get (by omega) (by omega) g2
  replace g3 := x2.get (by omega) (by omega) g3
  have g5 := e2.get hw g
  generalize h1.put (h.next + 1 + 1 + 1) (.cells [.fn 129 [] [.p h.next 0, .p (h.next + 1 + 1) 0, .p (h.next + 1) 0, .p (h.next + 1 + 1 + 1) 0]]) = h2 at *
  have lf : ldV h2 (.p (h.next + 1 + 1 + 1) 0) = some (.fn 129 [] [.p h.next 0, .p (h.next + 1 + 1) 0, .p (h.next + 1) 0, .p (h.next + 1 + 1 + 1) 0]) := blk_ld g4' rfl
  simp only [go_sem, ↓reduceIte, r120_5, lf]
  have p : NPre h2 h.next (h.next + 1 + 1) (h.next + 1) (h.next + 1 + 1 + 1) wb n e r := ⟨by omega, by omega, by omega, by omega, by omega, by omega, by omega, by omega, by omega, g1, g4', g5⟩
  refine (fn_next129 hn p n h2 noneD .sn [] (by rw [undone_none]; exact Nat.le_refl _) (.refl _ _) g3 g2 .nil (by simp; omega)).mono ?_
  rintro _ h3 ⟨x3, w, g3', r3⟩
  have e3 : Ext h h3 := x3.ext e2 (fun b hb => by omega)
  have l3 : ldV h3 (.p (h.next + 1) 0) = some w := blk_ld g3' rfl
  simp only [go_sem, ↓reduceIte, r120_6, l3]
  exact ⟨e3, r3.mono (by omega)⟩
noncomputable def compsR (N : Int) (rs : List Arw) : List (List Int) := if checkS N rs = 0 then comps (rch (eA rs)) N.toNat N.toNat noneD else []
def big (l : List Int) : Bool := decide (2 ≤ l.length)
noncomputable def circR (N : Int) (rs : List Arw) : List (List Int) := (compsR N rs).filter big
theorem t87 : tblA 87 = some a87 := by kernel_rfl
theorem fn_Components {h : H} {N : Int} {v : V} {rs : List Arw} (hr : Arrs h v rs) (hrn : rs.length ≤ 1000000) : WC tblA (.fn 87 [] []) [.agg [.i .i64 N, v]] h fun u h' => Ext h h' ∧ Rows h h' u (compsR N rs) := by
  refine (WC_in t87).2 ?_
  obtain ⟨e0, g0⟩ := rel_blk h N v
  simp only [go_sem, ↓reduceIte, r87_0]
  have hr0 := hr.ext e0
  have n0 := e0.nx
  generalize hh : h.new (.cells [.i .i64 N, v]) = h0 at *
  have l0 : ldnV h0 2 (.p h.next 0) = some (.agg [.i .i64 N, v]) := blk_ldn g0 rfl
  simp only [go_sem, ↓reduceIte, r87_1, l0]
  refine (fn_open hr0 hrn).mono ?_
  rintro u h1 ⟨e1, hu⟩
  by_cases hc : checkS N rs = 0
  · rw [if_pos hc] at hu
    obtain ⟨wb, n, rfl, rfl, hw1, hw2, gw⟩ := hu
    obtain ⟨n', hn', hn24, _⟩ := check_ok hc
    have hn : n ≤ 24 := by omega
    simp only [go_sem, ↓reduceIte, r87_2, r87_4]
    refine (fn_components hn hw2 gw).mono ?_
    rintro u h2 ⟨e2, r2⟩
    simp only [go_sem, ↓reduceIte]
    refine ⟨e0.trans (e1.trans e2), ?_⟩
    rw [compsR, if_pos hc]
    exact r2.mono (e0.trans e1).nx
  · rw [if_neg hc] at hu
    subst hu
    simp only [go_sem, ↓reduceIte, r87_2, r87_3]
    refine ⟨e0.trans e1, ?_⟩
    rw [compsR, if_neg hc]
    exact .nil
theorem t88 : tblA 88 = some a88 := by kernel_rfl
theorem fn_small {h : H} {v : V} {xs : List Int} (hs : Ints h v xs) : WC tblA (.fn 88 [] []) [v] h fun u h' => h' = h ∧ u = .b (!big xs) := by
  refine (WC_in t88).2 ?_
  have hb : (decide ((xs.length : Int) < 2)) = !big xs := by
    unfold big
    rw [Bool.eq_iff_iff]
    simp
    omega
  simp only [go_sem, ↓reduceIte, r88_0, r88_1, hs.len, hb]
theorem t118 : tblA 118 = some a118 := by kernel_rfl
theorem fn_IndexSmall {h : H} {v : V} {xss : List (List Int)} (hs : LL h v xss) (hn : xss.length ≤ 1000000) : WC tblA (.fn 118 [] []) [v, .fn 88 [] []] h fun u h' => h' = h ∧
    ((u = .i .i64 (-1) ∧ ∀ xs ∈ xss, big xs = true) ∨ ∃ i : Nat, u = .i .i64 (i : Int) ∧ i < xss.length ∧ (∀ xs ∈ xss.take i, big xs = true) ∧ ∃ xs, xss[i]? = some xs ∧ big xs = false) := by
  refine (WC_in t118).2 ?_
  simp only [go_sem, ↓reduceIte, r118_0, r118_1, hs.len]
  refine W_while (fun k t h' => ∃ i, k = xss.length - i ∧ i ≤ xss.length ∧ t.length = 19 ∧ nth t 0 = v ∧ nth t 1 = .fn 88 [] [] ∧ nth t 7 = .i .i64 (xss.length : Int) ∧ nth t 8 = .i .i64 (i : Int) ∧ h' = h ∧ ∀ xs ∈ xss.take i, big xs = true) ?_ xss.length ?_
  · rintro k t _ ⟨i, rfl, hi, tl, t0, t1, t7, t8, rfl, ha⟩
    unfold b118_0
    by_cases hlt : i < xss.length
    · have hltI : (i : Int) < (xss.length : Int) := by omega
      obtain ⟨xs, hx⟩ : ∃ xs, xss[i]? = some xs := ⟨_, List.getElem?_eq_getElem hlt⟩
      obtain ⟨c, hl, hi1⟩ := hs.ld hx
      simp only [go_sem, ↓reduceIte, r118_2, r118_3, r118_4, tl, t0, t1, t7, t8, hltI, hs.ix hlt, hl]
      refine (fn_small hi1).mono ?_
      rintro _ _ ⟨rfl, rfl⟩
      cases hb : big xs
      · simp only [go_sem, ↓reduceIte, r118_5, tl]
        exact .inr ⟨i, rfl, hlt, ha, xs, hx, hb⟩
      · simp only [go_sem, ↓reduceIte, r118_6, tl, t0, t1, t7, t8, wrap_succ (show i < 1000000000 by omega)]
        refine ⟨xss.length - (i + 1), by omega, i + 1, rfl, hlt, rfl, ?_⟩
        rw [take_succ' hx]
        intro ys hy
        rcases List.mem_append.1 hy with hy | hy
        · exact ha ys hy
        · simp at hy; subst hy; exact hb
    · have hltI : ¬ (i : Int) < (xss.length : Int) := by omega
      simp only [go_sem, ↓reduceIte, r118_2, r118_7, tl, t0, t1, t7, t8, hltI]
      rw [List.take_of_length_le (by omega)] at ha
      exact .inl ha
  · refine ⟨0, by omega, by omega, ?_⟩
    simp only [go_sem, ↓reduceIte, List.take_zero]
    simp
def clrR (h : H) (z : List V) : V → RO
  | .sn => .ok .undef h
  | .sl b o n _ _ => if Nat.beq n 0 then .ok .undef h else match storeAt h b o (rep z n) with
      | some h' => .ok .undef h'
      | none => .fail
  | _ => .fail
@[go_sem ↓] theorem wa_clr {tbl : Nat → Option FI} {z : List V} {x : X} {t : List V} {h : H} {S : V → H → Prop} : WA tbl (.clr z x) t h S ↔ ROk (clrR h z (x.ev t)) S := by
  refine WA_of rfl ?_
  simp only [evA, clrR]
  cases x.ev t <;> rfl
theorem slLo_sm {b n i : Nat} {g : Option Nat} (hg : g = none ∨ g = some 1) (hi : i < n) : slLo 1 (.sl b 0 n n g) (.i .i64 (i : Int)) = some (.sl b (0 + i * 1) (n - i) (n - i) g) := by
  have hb : bounds [V.i .i64 (i : Int)] n n (some (.t 0)) none = some (i, n) := bounds_lo rfl (Nat.le_refl _) (by omega)
  have h1 : Nat.beq i n = false := beq_ne (by omega)
  have h2 : Nat.blt i n = true := by rw [Nat.blt_eq]; exact hi
  rcases hg with rfl | rfl
  · simp only [slLo, sliceV, hb, h1, Bool.false_eq_true, if_false]
  · simp only [slLo, sliceV, hb, h2]
    simp
theorem slHi_sm {b n i : Nat} {g : Option Nat} (hg : g = none ∨ g = some 1) (hi : i < n) : slHi 1 (.sl b 0 n n g) (.i .i64 (i : Int)) = some (.sl b 0 i n g) := by
  have hb : bounds [V.i .i64 (i : Int)] n n none (some (.t 0)) = some (0, i) := bounds_hi rfl (by omega)
  have h1 : Nat.beq 0 n = false := beq_ne (by omega)
  have h2 : Nat.blt 0 n = true := by rw [Nat.blt_eq]; omega
  rcases hg with rfl | rfl
  · simp only [slHi, sliceV, hb, h1, Bool.false_eq_true, if_false]
    simp
  · simp only [slHi, sliceV, hb, h2]
    simp
def stay (cs : List V) (xss : List (List Int)) (j : Nat) : List (V × List Int) := ((cs.zip xss).take j).filter fun p => big p.2
theorem stay_snd {cs : List V} {xss : List (List Int)} (hl : cs.length = xss.length) : (stay cs xss xss.length).map Prod.snd = xss.filter big := by
  unfold stay
  rw [List.take_of_length_le (by simp; omega)]
  have : (fun p : V × List Int => big p.2) = big ∘ Prod.snd := rfl
  rw [this, ← List.filter_map, List.map_snd_zip (by omega)]
theorem stay_succ {cs : List V} {xss : List (List Int)} {j : Nat} {c : V} {xs : List Int} (hc : cs[j]? = some c) (hx : xss[j]? = some xs) : stay cs xss (j + 1) = stay cs xss j ++ if big xs = true then [(c, xs)] else [] := by
  unfold stay
  have : (cs.zip xss)[j]? = some (c, xs) := by rw [List.getElem?_zip_eq_some]; exact ⟨hc, hx⟩
  rw [take_succ' this, List.filter_append]
  congr 1
  cases h : big xs <;> simp [h]
theorem stay_first {cs : List V} {xss : List (List Int)} {i : Nat} (hl : cs.length = xss.length) (hi : i ≤ xss.length) (h : ∀ xs ∈ xss.take i, big xs = true) : stay cs xss i = (cs.zip xss).take i := by
  unfold stay
  rw [List.filter_eq_self]
  intro p hp
  refine h p.2 ?_
  rw [← List.map_snd_zip (l₁ := cs) (l₂ := xss) (by omega), ← List.map_take]
  exact List.mem_map.2 ⟨p, hp, rfl⟩
theorem st_any {h : H} {b k : Nat} {cs : List V} {x : V} (hg : h.get b = some (.cells cs)) (h1 : x.cells = [x]) (h2 : x.oneCell = true) (hk : k < cs.length) : stV h 1 (.p b (0 + k * 1)) x = some (h.put b (.cells (cs.set k x))) := by
  have hl := lay_one cs k x hk
  simp [stV, h1, storeAt, hg, hl, h2]
theorem Ints.one {h : H} {v : V} {xs : List Int} (s : Ints h v xs) : v.cells = [v] ∧ v.oneCell = true := arg_cells s
theorem t86 : tblA 86 = some a86 := by kernel_rfl
theorem fn_DeleteSmall {h0 h : H} {v : V} {xss : List (List Int)} (hs : Rows h0 h v xss) (e0 : Ext h0 h) (hn : xss.length ≤ 1000) : WC tblA (.fn 86 [] []) [v, .fn 88 [] []] h fun u h' => Ext h0 h' ∧ LL h' u (xss.filter big) := by
  refine (WC_in t86).2 ?_
  simp only [go_sem, ↓reduceIte, r86_0, r86_1]
  refine (fn_IndexSmall hs.ll (by omega)).mono ?_
  rintro u h' ⟨hh, hu⟩
  obtain rfl : h = h' := hh.symm
  rcases hu with ⟨rfl, hall⟩ | ⟨i0, rfl, hi0, hall, xs0, hx0, hb0⟩
  · simp only [go_sem, ↓reduceIte, r86_2, r86_3]
    refine ⟨e0, ?_⟩
    rw [List.filter_eq_self.2 hall]
    exact hs.ll
  obtain ⟨cs, ⟨hl, ⟨hz, _⟩ | ⟨b, g, rfl, hg, hb1, hb2, gb⟩⟩, hc⟩ := hs
  · omega
  have hneg : ¬ (i0 : Int) = -1 := by omega
  have hcl : cs.length = xss.length := by omega
  simp only [go_sem, ↓reduceIte, r86_2, r86_4, hneg, wrap_succ (show i0 < 1000000000 by omega)]
  refine W_while (fun k t h' => ∃ (i j : Nat) (ds : List V), k = xss.length - j ∧ j ≤ xss.length ∧ i < j ∧ t.length = 42 ∧ nth t 0 = .sl b 0 xss.length xss.length g ∧ nth t 1 = .fn 88 [] [] ∧ nth t 5 = .i .i64 (i : Int) ∧ nth t 6 = .i .i64 (j : Int) ∧ ExtX (· = b) h h' ∧ h'.get b = some (.cells ds) ∧
      ds.length = xss.length ∧ i = (stay cs xss j).length ∧ ds.take i = (stay cs xss j).map Prod.fst ∧ ∀ m, j ≤ m → ds[m]? = cs[m]?) ?_ (xss.length - (i0 + 1)) ?_
  · rintro k t h' ⟨i, j, ds, rfl, hj, hij, tl, t0, t1, t5, t6, x', g', hdl, hi, htk, hds⟩
    unfold b86_0
    by_cases hlt : j < xss.length
    · have hltI : (j : Int) < (xss.length : Int) := by omega
      obtain ⟨xs, hx⟩ : ∃ xs, xss[j]? = some xs := ⟨_, List.getElem?_eq_getElem hlt⟩
      obtain ⟨c, hcj, ic, c1, c2, c3⟩ := hc j xs hx
      have hcb : blkV c ≠ b := by
        rcases c3 with q | q
        · cases q
        · exact q
      have ic' : Ints h' c xs := Sl.keepX (X := (· = b)) ic x' (.inr (.inr hcb))
      have hld : ldV h' (.p b (0 + j * 1)) = some c := blk_ld g' (by rw [show 0 + j * 1 = j by omega, hds j (Nat.le_refl _), hcj])
      simp only [go_sem, ↓reduceIte, r86_5, r86_7, r86_8, tl, t0, t1, t5, t6, hltI, ix_own hlt, hld]
      refine (fn_small ic').mono ?_
      rintro _ _ ⟨rfl, rfl⟩
      have hst := stay_succ hcj hx
      cases hb : big xs
      · rw [hb] at hst
        simp only [Bool.false_eq_true, if_false, List.append_nil] at hst
        simp only [go_sem, ↓reduceIte, r86_6, tl, t0, t1, t5, t6, wrap_succ (show j < 1000000000 by omega)]
        exact ⟨xss.length - (j + 1), by omega, i, j + 1, ds, rfl, hlt, by omega, rfl, rfl, x', g', hdl, by rw [hst]; exact hi, by rw [hst]; exact htk, fun m hm => hds m (by omega)⟩
      · rw [hb, if_pos rfl] at hst
        have hone := ic'.one
        have hsv := st_any (k := i) g' hone.1 hone.2 (by omega)
        simp only [go_sem, ↓reduceIte, r86_6, r86_9, r86_10, tl, t0, t1, t5, t6, ix_own (show i < xss.length by omega), hsv, wrap_succ (show j < 1000000000 by omega), wrap_succ (show i < 1000000000 by omega)]
        refine ⟨xss.length - (j + 1), by omega, i + 1, j + 1, ds.set i c, rfl, hlt, by omega, rfl, rfl, x'.put (.inr rfl) _, by rw [H.get_put, if_pos rfl], by simpa using hdl, by rw [hst]; simp [hi], ?_, fun m hm => ?_⟩
        · rw [hst, List.map_append, ← htk, take_succ' (x := c) (by rw [List.getElem?_set]; simp; omega)]
          congr 1
          rw [List.take_set_of_le (Nat.le_refl _)]
        · rw [List.getElem?_set, if_neg (by omega)]
          exact hds m (by omega)
    · have hltI : ¬ (j : Int) < (xss.length : Int) := by omega
      obtain rfl : j = xss.length := by omega
      have hin : i < xss.length := by omega
      have hrep : rep [V.sn] (xss.length - i) = List.replicate (xss.length - i) .sn := rep_one _ _
      have hlay : lay ds (0 + i * 1) (rep [V.sn] (xss.length - i)) = some (ds.take i ++ List.replicate (xss.length - i) .sn) := by
        rw [hrep]
        refine lay_of (by simp; omega) (by simp; omega) (fun m hm => ?_)
        by_cases hmi : m < i
        · rw [List.getElem?_append_left (by simp; omega), List.getElem?_take_of_lt hmi, if_neg (by omega)]
        · rw [List.getElem?_append_right (by simp; omega), if_pos (by simp; omega)]
          congr 1
          simp; omega
      have hb0' : Nat.beq (xss.length - i) 0 = false := beq_ne (by omega)
      have hclr : clrR h' [V.sn] (.sl b (0 + i * 1) (xss.length - i) (xss.length - i) g) = .ok .undef (h'.put b (.cells (ds.take i ++ List.replicate (xss.length - i) .sn))) := by
        have hall1 : (rep [V.sn] (xss.length - i)).all V.oneCell = true := by rw [hrep]; simp [V.oneCell]
        simp only [clrR, hb0', Bool.false_eq_true, if_false, storeAt, g', hlay, hall1, if_true]
      simp only [go_sem, ↓reduceIte, r86_5, r86_11, r86_12, tl, t0, t1, t5, t6, hltI, slLo_sm hg hin, slHi_sm hg hin, hclr]
      have xf : ExtX (· = b) h (h'.put b (.cells (ds.take i ++ List.replicate (xss.length - i) .sn))) := x'.put (.inr rfl) _
      refine ⟨xf.ext e0 (fun q hq => by subst hq; exact hb1), (stay cs xss xss.length).map Prod.fst, ?_, ?_⟩
      · rw [← stay_snd hcl, List.length_map, ← hi]
        refine .inr ⟨b, 0, _, g, .cells (ds.take i ++ List.replicate (xss.length - i) .sn), rfl, Nat.lt_of_lt_of_le hb2 xf.nx, by rw [H.get_put, if_pos rfl], ?_⟩
        refine cut_eq.2 ⟨by simp; omega, ?_⟩
        rw [← htk, List.drop_zero, Nat.mul_one, List.take_append_of_le_length (by simp; omega), List.take_take]
        simp
      · intro m xs hm
        rw [← stay_snd hcl, List.getElem?_map] at hm
        obtain ⟨p, hp, hpx⟩ := Option.map_eq_some_iff.1 hm
        refine ⟨p.1, by rw [List.getElem?_map, hp]; rfl, ?_⟩
        have hmem : p ∈ cs.zip xss := by
          have := List.mem_of_getElem? hp
          unfold stay at this
          exact List.mem_of_mem_take (List.mem_filter.1 this).1
        obtain ⟨q, hq⟩ := List.getElem?_of_mem hmem
        have hq2 : cs[q]? = some p.1 ∧ xss[q]? = some p.2 := by
          rw [← List.getElem?_zip_eq_some]; exact hq
        obtain ⟨c, hcq, ic, _, _, c3⟩ := hc q p.2 hq2.2
        rw [hq2.1] at hcq
        cases hcq
        rw [← hpx]
        refine Sl.keepX (X := (· = b)) ic xf (.inr (.inr ?_))
        rcases c3 with z | z
        · cases z
        · exact z
  · have hf := stay_first (cs := cs) hcl (by omega) hall
    have hcs0 : ∃ c0, cs[i0]? = some c0 := ⟨_, List.getElem?_eq_getElem (by omega)⟩
    obtain ⟨c0, hc0⟩ := hcs0
    have hs1 := stay_succ hc0 hx0
    rw [hb0] at hs1
    simp only [Bool.false_eq_true, if_false, List.append_nil] at hs1
    have hlen : ((cs.zip xss).take i0).length = i0 := by simp; omega
    refine ⟨i0, i0 + 1, cs, rfl, by omega, by omega, ?_⟩
    simp only [go_sem, ↓reduceIte, hs1, hf, hlen]
    refine ⟨.refl _ _, gb, hcl, ?_, fun m hm => trivial⟩
    rw [List.map_take, List.map_fst_zip (by omega)]
theorem compsR_len {N : Int} {rs : List Arw} : (compsR N rs).length ≤ 24 ∧ ∀ l ∈ compsR N rs, l.length ≤ 24 := by
  unfold compsR
  split
  · rename_i hc
    obtain ⟨n, rfl, hn, _⟩ := check_ok hc
    have : ∀ (k : Nat) (d : Nat → Bool), (comps (rch (eA rs)) n k d).length ≤ k ∧ ∀ l ∈ comps (rch (eA rs)) n k d, l.length ≤ n := by
      intro k
      induction k with
      | zero => intro d; simp [comps]
      | succ k ih =>
        intro d
        rw [comps]
        split
        · simp
        · rename_i a _
          obtain ⟨h1, h2⟩ := ih (addS d (mate (rch (eA rs)) n a))
          refine ⟨by simp; exact h1, fun l hl => ?_⟩
          rcases List.mem_cons.1 hl with rfl | hl
          · exact setL_len _ _
          · exact h2 l hl
    have := this n noneD
    simp only [Int.toNat_natCast]
    exact ⟨by omega, fun l hl => by have := this.2 l hl; omega⟩
  · simp
theorem circR_len {N : Int} {rs : List Arw} : (circR N rs).length ≤ 24 ∧ ∀ l ∈ circR N rs, l.length ≤ 24 :=
  ⟨Nat.le_trans (List.length_filter_le _ _) compsR_len.1, fun l hl => compsR_len.2 l (List.mem_filter.1 hl).1⟩
theorem t39 : tblA 39 = some a39 := by kernel_rfl
theorem fn_Circles {h : H} {N : Int} {v : V} {rs : List Arw} (hr : Arrs h v rs) (hrn : rs.length ≤ 1000000) : WC tblA (.fn 39 [] []) [.agg [.i .i64 N, v]] h fun u h' => Ext h h' ∧ LL h' u (circR N rs) := by
  refine (WC_in t39).2 ?_
  obtain ⟨e0, g0⟩ := rel_blk h N v
  simp only [go_sem, ↓reduceIte, r39_0]
  have hr0 := hr.ext e0
  generalize hh : h.new (.cells [.i .i64 N, v]) = h0 at *
  have l0 : ldnV h0 2 (.p h.next 0) = some (.agg [.i .i64 N, v]) := blk_ldn g0 rfl
  simp only [go_sem, ↓reduceIte, r39_1, l0]
  refine (fn_Components hr0 hrn).mono ?_
  rintro u h1 ⟨e1, r1⟩
  simp only [go_sem, ↓reduceIte]
  refine (fn_DeleteSmall r1 e1 (by have := (compsR_len (N := N) (rs := rs)).1; omega)).mono ?_
  rintro u2 h2 ⟨e2, s2⟩
  simp only [go_sem, ↓reduceIte]
  exact ⟨e0.trans e2, s2⟩
def circE (l : List (List Int)) : Int := if ∃ c ∈ l, 10 < c.length then 40 else 0
theorem t67 : tblA 67 = some a67 := by kernel_rfl
theorem fn_circles {h : H} {N : Int} {v : V} {rs : List Arw} (hr : Arrs h v rs) (hrn : rs.length ≤ 1000000) : WC tblA (.fn 67 [] []) [.agg [.i .i64 N, v]] h fun u h' => Ext h h' ∧ ∃ w, u = .tup [w, .i .i64 (circE (circR N rs))] ∧ (circE (circR N rs) = 0 → LL h' w (circR N rs)) := by
  refine (WC_in t67).2 ?_
  obtain ⟨e0, g0⟩ := rel_blk h N v
  simp only [go_sem, ↓reduceIte, r67_0]
  have hr0 := hr.ext e0
  generalize hh : h.new (.cells [.i .i64 N, v]) = h0 at *
  have l0 : ldnV h0 2 (.p h.next 0) = some (.agg [.i .i64 N, v]) := blk_ldn g0 rfl
  simp only [go_sem, ↓reduceIte, r67_1, l0]
  refine (fn_Circles hr0 hrn).mono ?_
  rintro u h1 ⟨e1, s1⟩
  have hlen := circR_len (N := N) (rs := rs)
  generalize circR N rs = xss at *
  simp only [go_sem, ↓reduceIte, r67_2, s1.len]
  refine W_while (fun k t h' => ∃ i, k = xss.length - i ∧ i ≤ xss.length ∧ t.length = 20 ∧ nth t 4 = u ∧ nth t 9 = u ∧ nth t 10 = .i .i64 (xss.length : Int) ∧ nth t 11 = .i .i64 (i : Int) ∧ h' = h1 ∧ ∀ c ∈ xss.take i, ¬ 10 < c.length) ?_ xss.length ?_
  · rintro k t _ ⟨i, rfl, hi, tl, t4, t9, t10, t11, rfl, ha⟩
    unfold b67_0
    by_cases hlt : i < xss.length
    · have hltI : (i : Int) < (xss.length : Int) := by omega
      obtain ⟨xs, hx⟩ : ∃ xs, xss[i]? = some xs := ⟨_, List.getElem?_eq_getElem hlt⟩
      obtain ⟨c, hl, hi1⟩ := s1.ld hx
      by_cases hb : 10 < xs.length
      · have hbI : (10 : Int) < (xs.length : Int) := by omega
        simp only [go_sem, ↓reduceIte, r67_3, r67_4, r67_5, r67_6, tl, t4, t9, t10, t11, hltI, s1.ix hlt, hl, hi1.len, hbI]
        have : circE xss = 40 := by rw [circE, if_pos ⟨xs, List.mem_of_getElem? hx, hb⟩]
        rw [this]
        exact ⟨e0.trans e1, .sn, rfl, fun q => by omega⟩
      · have hbI : ¬ (10 : Int) < (xs.length : Int) := by omega
        simp only [go_sem, ↓reduceIte, r67_3, r67_4, r67_5, r67_7, tl, t4, t9, t10, t11, hltI, s1.ix hlt, hl, hi1.len, hbI, wrap_succ (show i < 1000000000 by omega)]
        refine ⟨xss.length - (i + 1), by omega, i + 1, rfl, hlt, rfl, ?_⟩
        rw [take_succ' hx]
        intro ys hy
        rcases List.mem_append.1 hy with hy | hy
        · exact ha ys hy
        · simp at hy; subst hy; exact hb
    · have hltI : ¬ (i : Int) < (xss.length : Int) := by omega
      simp only [go_sem, ↓reduceIte, r67_3, r67_8, tl, t4, t9, t10, t11, hltI]
      rw [List.take_of_length_le (by omega)] at ha
      have : circE xss = 0 := by rw [circE, if_neg]; rintro ⟨c, h1, h2⟩; exact ha c h1 h2
      rw [this]
      exact ⟨e0.trans e1, u, rfl, fun _ => s1⟩
  · refine ⟨0, by omega, by omega, ?_⟩
    simp only [go_sem, ↓reduceIte, List.take_zero]
    simp
end Go.Air
set_option maxRecDepth 100000
namespace Go.Air
open Go.Air.Try
def GoodO (n : Int) (xs : List Int) : Prop := (xs.length : Int) = n ∧ (∀ x ∈ xs, 0 ≤ x ∧ x < n) ∧ xs.Nodup
instance (n : Int) (xs : List Int) : Decidable (GoodO n xs) := inferInstanceAs (Decidable (_ ∧ _ ∧ _))
theorem t37 : tblA 37 = some a37 := by kernel_rfl
def posN (g : Int) : List Int → Nat
  | [] => 0
  | x :: l => if x = g then 0 else posN g l + 1
theorem posN_eq {g : Int} : ∀ {xs : List Int} {i : Nat}, xs[i]? = some g → g ∉ xs.take i → posN g xs = i
  | [], i, h, _ => by simp at h
  | x :: l, 0, h, _ => by simp at h; subst h; simp [posN]
  | x :: l, i + 1, h, hn => by
    simp only [List.take_succ_cons, List.mem_cons, not_or] at hn
    simp only [posN, if_neg (Ne.symm hn.1)]
    rw [posN_eq (by simpa using h) hn.2]
theorem perm_mem : ∀ (m : Nat) (l : List Int), l.length = m → (∀ x ∈ l, 0 ≤ x ∧ x < (m : Int)) → l.Nodup → ∀ x : Int, 0 ≤ x → x < (m : Int) → x ∈ l
  | 0, l, hl, hr, hd, x, h0, h1 => by omega
  | m + 1, l, hl, hr, hd, x, h0, h1 => by
    by_cases hm : (m : Int) ∈ l
    · have hd' := (List.nodup_cons.1 ((List.perm_cons_erase hm).nodup_iff.1 hd))
      have ih := perm_mem m (l.erase (m : Int)) (by rw [List.length_erase_of_mem hm]; omega) (fun y hy => by
        have := hr y (List.mem_of_mem_erase hy)
        have : y ≠ (m : Int) := by rintro rfl; exact hd'.1 hy
        omega) hd'.2
      by_cases hx : x = (m : Int)
      · subst hx; exact hm
      · exact List.mem_of_mem_erase (ih x h0 (by omega))
    · exfalso
      match l, hl with
      | [], hl => simp at hl
      | y :: l', hl =>
        have hl : l'.length = m := by simpa using hl
        have hd' := List.nodup_cons.1 hd
        have hr' : ∀ z ∈ y :: l', 0 ≤ z ∧ z < (m : Int) := fun z hz => by
          have := hr z hz
          have : z ≠ (m : Int) := by rintro rfl; exact hm hz
          omega
        have := perm_mem m l' hl (fun z hz => hr' z (List.mem_cons_of_mem _ hz)) hd'.2 y (hr' y (by simp)).1 (hr' y (by simp)).2
        exact hd'.1 this
theorem goodO_mem {n : Int} {xs : List Int} (g : GoodO n xs) {x : Int} (h0 : 0 ≤ x) (h1 : x < n) : x ∈ xs := by
  obtain ⟨hl, hr, hd⟩ := g
  exact perm_mem xs.length xs rfl (by rw [hl]; exact hr) hd x h0 (by omega)
end Go.Air
set_option maxRecDepth 100000
namespace Go.Air
open Go.Air.Try
theorem ints_rep (n : Nat) : ints (List.replicate n 0) = List.replicate n (.i .i64 0) := by simp [ints]
def slt (s : Int × Int × Int) : List V := [.i .i64 s.1, .i .i64 s.2.1, .i .i64 s.2.2]
theorem slt_len (s : Int × Int × Int) : (slt s).length = 3 := rfl
def Slts (h : H) (v : V) (L : List (Int × Int × Int)) : Prop := Sl 3 h v L.length (recs slt L)
theorem Slts.ext {h h' : H} {v : V} {L : List (Int × Int × Int)} (s : Slts h v L) (e : Ext h h') : Slts h' v L := Sl.ext s e
theorem Slts.nil {h : H} : Slts h .sn [] := .inl ⟨rfl, rfl, .inl rfl⟩
theorem Slts.len {h : H} {v : V} {L : List (Int × Int × Int)} (s : Slts h v L) : lenV v = some L.length := Sl.len s
theorem Slts.ix {h : H} {v : V} {L : List (Int × Int × Int)} (s : Slts h v L) {i : Nat} (hi : i < L.length) : ixV 3 v (.i .i64 (i : Int)) = some (.p (blkV v) (offV v + i * 3)) := Sl.ix s hi
theorem Slts.ldn {h : H} {v : V} {L : List (Int × Int × Int)} (s : Slts h v L) {i : Nat} {a : Int × Int × Int} (hx : L[i]? = some a) : ldnV h 3 (.p (blkV v) (offV v + i * 3)) = some (.agg [.i .i64 a.1, .i .i64 a.2.1, .i .i64 a.2.2]) := by
  rw [Sl.ldn s (List.getElem?_eq_some_iff.1 hx).1, recs_at slt_len L i a hx]; rfl
theorem Slts.of {h : H} {v : V} {n : Nat} {L : List (Int × Int × Int)} (s : Sl 3 h v n (recs slt L)) : Slts h v L ∧ L.length = n := by
  have : L.length = n := by have := s.length; rw [recs_len slt_len] at this; omega
  subst this
  exact ⟨s, rfl⟩
def slS (xs : List Int) (rs : List Arw) : List (Int × Int × Int) := rs.flatMap fun a => if posN a.t xs < posN a.f xs then [(a.f, a.t, a.w)] else []
theorem slS_step {xs : List Int} {rs : List Arw} {i : Nat} {a : Arw} (hx : rs[i]? = some a) : slS xs (rs.take (i + 1)) = slS xs (rs.take i) ++ if posN a.t xs < posN a.f xs then [(a.f, a.t, a.w)] else [] := by
  rw [take_succ' hx]; simp [slS]
theorem slS_le (xs : List Int) : ∀ rs : List Arw, (slS xs rs).length ≤ rs.length
  | [] => by simp [slS]
  | a :: rs => by
    have := slS_le xs rs
    simp only [slS, List.flatMap_cons, List.length_append] at *
    split <;> simp only [List.length_cons, List.length_nil] <;> omega
def sumW (L : List (Int × Int × Int)) : Int := (L.map fun s => s.2.2).sum
theorem sumW_append (a b : List (Int × Int × Int)) : sumW (a ++ b) = sumW a + sumW b := by simp [sumW]
theorem sumW_one (s : Int × Int × Int) : sumW [s] = s.2.2 := by simp [sumW]
theorem sumW_range {L : List (Int × Int × Int)} (h : ∀ s ∈ L, 0 ≤ s.2.2 ∧ s.2.2 ≤ 1000) : 0 ≤ sumW L ∧ sumW L ≤ 1000 * L.length := by
  induction L with
  | nil => simp [sumW]
  | cons s L ih =>
    have h1 := h s (by simp)
    have h2 := ih fun x hx => h x (by simp [hx])
    simp only [sumW, List.map_cons, List.sum_cons, List.length_cons] at *
    omega
theorem slS_range {N : Int} {xs : List Int} {rs : List Arw} (g : GoodR N rs) : ∀ s ∈ slS xs rs, 0 ≤ s.2.2 ∧ s.2.2 ≤ 1000 := by
  intro s hs
  obtain ⟨a, ha, hs⟩ := List.mem_flatMap.1 hs
  have := g.1 a ha
  unfold OkA at this
  split at hs
  · simp at hs; subst hs; simp only []; omega
  · simp at hs
theorem t85 : tblA 85 = some a85 := by kernel_rfl
theorem Idx.mem {xs : List Int} {g r : Int} (i : Idx xs g r) : (0 ≤ r ↔ g ∈ xs) ∧ (g ∈ xs → r = posN g xs) := by
  rcases i with ⟨rfl, h⟩ | ⟨i, rfl, hx, hn⟩
  · exact ⟨⟨fun z => by omega, fun z => absurd z h⟩, fun z => absurd z h⟩
  · exact ⟨⟨fun _ => List.mem_of_getElem? hx, fun _ => by omega⟩, fun _ => by rw [posN_eq hx hn]⟩
theorem fn_offended {h : H} {a : Arw} {o : V} {xs : List Int} (hs : Ints h o xs) (hn : xs.length ≤ 1000000) :
    WC tblA (.fn 85 [] []) [.agg [.i .i64 a.f, .i .i64 a.t, .i .i64 a.r, .i .i64 a.w], o] h fun u h' => Ext h h' ∧ u = .b (decide (a.f ∈ xs ∧ a.t ∈ xs ∧ posN a.t xs < posN a.f xs)) := by
  refine (WC_in t85).2 ?_
  have e0 : Ext h (h.new (.cells (arw a))) := (Ext.refl h).new _
  have g0 : (h.new (.cells (arw a))).get h.next = some (.cells (arw a)) := by rw [H.get_new, if_pos rfl]
  simp only [go_sem, ↓reduceIte, r85_0]
  unfold arw at e0 g0
  generalize hh : h.new (.cells [.i .i64 a.f, .i .i64 a.t, .i .i64 a.r, .i .i64 a.w]) = h0 at *
  obtain ⟨x0, x1, _, _, _⟩ := arw_lds (a := a) g0
  simp only [go_sem, ↓reduceIte, r85_1, x0]
  refine (fn_place (hs.ext e0) hn).mono ?_
  rintro _ _ ⟨r, rfl, hr, rfl⟩
  simp only [go_sem, ↓reduceIte, r85_2, x1]
  refine (fn_place (hs.ext e0) hn).mono ?_
  rintro _ _ ⟨r', rfl, hr', rfl⟩
  obtain ⟨m1, p1⟩ := hr.mem
  obtain ⟨m2, p2⟩ := hr'.mem
  by_cases c1 : 0 ≤ r
  · by_cases c2 : 0 ≤ r'
    · have q1 := p1 (m1.1 c1)
      have q2 := p2 (m2.1 c2)
      have mm1 := m1.1 c1
      have mm2 := m2.1 c2
      by_cases c3 : r' < r
      · simp only [go_sem, ↓reduceIte, r85_3, c1, c2, c3]
        exact ⟨e0, by simp [mm1, mm2]; omega⟩
      · simp only [go_sem, ↓reduceIte, r85_3, c1, c2, c3]
        exact ⟨e0, by simp [mm1, mm2]; omega⟩
    · have mm2 : a.t ∉ xs := fun z => c2 (m2.2 z)
      simp only [go_sem, ↓reduceIte, r85_3, c1, c2]
      exact ⟨e0, by simp [mm2]⟩
  · have mm1 : a.f ∉ xs := fun z => c1 (m1.2 z)
    simp only [go_sem, ↓reduceIte, r85_3, c1]
    exact ⟨e0, by simp [mm1]⟩
theorem off_good {N : Int} {rs : List Arw} {xs : List Int} {i : Nat} {a : Arw} (gr : GoodR N rs) (go : GoodO N xs) (hx : rs[i]? = some a) : decide (a.f ∈ xs ∧ a.t ∈ xs ∧ posN a.t xs < posN a.f xs) = decide (posN a.t xs < posN a.f xs) := by
  have hok := gr.1 a (List.mem_of_getElem? hx)
  unfold OkA at hok
  rw [decide_eq_decide]
  simp only [goodO_mem go hok.1 hok.2.1, goodO_mem go hok.2.2.1 hok.2.2.2.1, true_and]
end Go.Air
set_option maxRecDepth 100000
namespace Go.Air
open Go.Air.Try
theorem t83 : tblA 83 = some a83 := by kernel_rfl
theorem fn_Inner {h : H} {N : Int} {v o : V} {rs : List Arw} {xs : List Int} (hr : Arrs h v rs) (hrn : rs.length ≤ 1000000) (hs : Ints h o xs) (hn : xs.length ≤ 1000000) (gr : GoodR N rs) (go : GoodO N xs) :
    WC tblA (.fn 83 [] []) [.agg [.i .i64 N, v], o] h fun u h' => Ext h h' ∧ u = .i .i64 (sumW (slS xs rs)) := by
  refine (WC_in t83).2 ?_
  obtain ⟨e0, g0⟩ := rel_blk h N v
  simp only [go_sem, ↓reduceIte, r83_0]
  have hb0 : h.next < (h.new (.cells [.i .i64 N, v])).next := by simp
  generalize hh : h.new (.cells [.i .i64 N, v]) = h0 at *
  simp only [go_sem, ↓reduceIte, r83_1, r83_2]
  refine W_while (fun k t h' => ∃ (i : Nat), k = rs.length - i ∧ i ≤ rs.length ∧ t.length = 32 ∧ nth t 1 = o ∧ nth t 2 = .p h.next 0 ∧ nth t 5 = .i .i64 (sumW (slS xs (rs.take i))) ∧ nth t 6 = .i .i64 (i : Int) ∧ Ext h0 h') ?_ rs.length ?_
  · rintro k t h2 ⟨i, rfl, hi, tl, t1, t2, t5, t6, e2⟩
    unfold b83_0
    have l2 : ldV h2 (.p h.next 1) = some v := blk_ld (e2.get hb0 g0) rfl
    have s2 := (hr.ext e0).ext e2
    by_cases hlt : i < rs.length
    · have hlt' : (i : Int) < (rs.length : Int) := by omega
      obtain ⟨a, hx⟩ : ∃ a, rs[i]? = some a := ⟨_, List.getElem?_eq_getElem hlt⟩
      simp only [go_sem, ↓reduceIte, r83_3, r83_5, tl, t1, t2, t5, t6, l2, s2.len, hlt', s2.ix hlt, s2.ldn hx]
      refine (fn_offended ((hs.ext e0).ext e2) hn).mono ?_
      rintro _ h3 ⟨e3, rfl⟩
      rw [off_good gr go hx]
      have hst := slS_step (xs := xs) hx
      have l3 : ldV h3 (.p h.next 1) = some v := blk_ld ((e2.trans e3).get hb0 g0) rfl
      have s3 := s2.ext e3
      have lw := s3.ld (j := 3) hx (by omega)
      rw [show (arw a)[3]? = some (.i .i64 a.w) from rfl] at lw
      by_cases hb : posN a.t xs < posN a.f xs
      · rw [if_pos hb] at hst
        have hs1 : sumW (slS xs (rs.take (i + 1))) = sumW (slS xs (rs.take i)) + a.w := by rw [hst, sumW_append, sumW_one]
        have b1 := sumW_range (L := slS xs (rs.take (i + 1))) fun x hm => slS_range (xs := xs) gr x (by
          obtain ⟨y, hy, hm⟩ := List.mem_flatMap.1 hm
          exact List.mem_flatMap.2 ⟨y, List.mem_of_mem_take hy, hm⟩)
        have b2 := slS_le xs (rs.take (i + 1))
        have b3 : (rs.take (i + 1)).length ≤ i + 1 := by simp; omega
        have hw : IntKind.i64.wrap (sumW (slS xs (rs.take i)) + a.w) = sumW (slS xs (rs.take (i + 1))) := by rw [← hs1]; exact wrap_in (by omega) (by omega)
        simp only [go_sem, ↓reduceIte, r83_4, r83_6, r83_7, tl, t1, t2, t5, t6, hb, l3, s3.ix hlt, lw, hw, wrap_succ (show i < 1000000000 by omega)]
        exact ⟨rs.length - (i + 1), by omega, i + 1, rfl, hlt, rfl, rfl, e2.trans e3⟩
      · rw [if_neg hb, List.append_nil] at hst
        simp only [go_sem, ↓reduceIte, r83_4, r83_6, tl, t1, t2, t5, t6, hb, wrap_succ (show i < 1000000000 by omega)]
        exact ⟨rs.length - (i + 1), by omega, i + 1, rfl, hlt, by rw [hst], rfl, e2.trans e3⟩
    · have hlt' : ¬ (i : Int) < (rs.length : Int) := by omega
      simp only [go_sem, ↓reduceIte, r83_3, r83_8, tl, t1, t2, t5, t6, l2, s2.len, hlt']
      rw [List.take_of_length_le (by omega)]
      exact ⟨e0.trans e2, rfl⟩
  · refine ⟨0, by omega, by omega, ?_⟩
    simp only [go_sem, ↓reduceIte]
    exact ⟨rfl, .refl h0⟩
end Go.Air
set_option maxRecDepth 100000
namespace Go.Air
open Go.Air.Try
def wt (a b : Int) : List Arw → Int
  | [] => 0
  | r :: l => if r.f = a ∧ r.t = b then r.w else wt a b l
theorem wt_none {a b : Int} : ∀ {l : List Arw}, (∀ r ∈ l, ¬ (r.f = a ∧ r.t = b)) → wt a b l = 0
  | [], _ => rfl
  | r :: l, h => by rw [wt, if_neg (h r (by simp)), wt_none fun x hx => h x (by simp [hx])]
theorem wt_append {a b : Int} : ∀ {l m : List Arw}, (∀ r ∈ l, ¬ (r.f = a ∧ r.t = b)) → wt a b (l ++ m) = wt a b m
  | [], m, _ => rfl
  | r :: l, m, h => by rw [List.cons_append, wt, if_neg (h r (by simp)), wt_append fun x hx => h x (by simp [hx])]
theorem wt_keep {a b : Int} {r : Arw} (hr : ¬ (r.f = a ∧ r.t = b)) : ∀ {l : List Arw}, wt a b (l ++ [r]) = wt a b l
  | [] => by simp [wt, hr]
  | x :: l => by rw [List.cons_append, wt, wt, wt_keep hr]
def gridL (rs : List Arw) : List Int := (List.range 576).map fun (c : Nat) => wt ((c / 24 : Nat) : Int) ((c % 24 : Nat) : Int) rs
theorem gridL_len (rs : List Arw) : (gridL rs).length = 576 := by simp [gridL]
theorem gridL_get {rs : List Arw} {a b : Nat} (ha : a < 24) (hb : b < 24) : (gridL rs)[a * 24 + b]? = some (wt (a : Int) (b : Int) rs) := by
  have hc : a * 24 + b < 576 := by omega
  have h1 : (a * 24 + b) / 24 = a := by omega
  have h2 : (a * 24 + b) % 24 = b := by omega
  simp only [gridL, List.getElem?_map, List.getElem?_range hc, Option.map_some, h1, h2]
theorem gridL_nil : gridL [] = List.replicate 576 0 := by
  apply List.ext_getElem?
  intro i
  by_cases hi : i < 576
  · simp only [gridL, List.getElem?_map, List.getElem?_range hi, Option.map_some, wt, List.getElem?_replicate, if_pos hi]
  · rw [List.getElem?_eq_none (by rw [gridL_len]; omega), List.getElem?_eq_none (by rw [List.length_replicate]; omega)]
theorem gridL_set {rs : List Arw} {r : Arw} {a b : Nat} (ha : a < 24) (hb : b < 24) (ea : r.f = (a : Int)) (eb : r.t = (b : Int)) (hn : ∀ x ∈ rs, ¬ (x.f = r.f ∧ x.t = r.t)) : (gridL rs).set (a * 24 + b) r.w = gridL (rs ++ [r]) := by
  apply List.ext_getElem?
  intro i
  rw [List.getElem?_set]
  by_cases hi : i < 576
  · have hri : i = i / 24 * 24 + i % 24 := by omega
    by_cases h : a * 24 + b = i
    · subst h
      rw [if_pos rfl, if_pos (by rw [gridL_len]; omega), gridL_get ha hb, ← ea, ← eb, wt_append hn]
      simp [wt]
    · rw [if_neg h]
      simp only [gridL, List.getElem?_map, List.getElem?_range hi, Option.map_some]
      rw [wt_keep]
      rintro ⟨h1, h2⟩
      rw [ea] at h1
      rw [eb] at h2
      omega
  · rw [List.getElem?_eq_none (l := gridL (rs ++ [r])) (by rw [gridL_len]; omega), List.getElem?_eq_none (l := gridL rs) (by rw [gridL_len]; omega)]
    have : a * 24 + b ≠ i := by omega
    simp [this]
theorem st_all {h : H} {b k : Nat} {z c : List V} (hg : h.get b = some (.cells z)) (hl : z.length = c.length) (hk : c.length = k) (hone : ∀ u ∈ c, u.oneCell = true) : stV h k (.p b 0) (.agg c) = some (h.put b (.cells c)) := by
  subst hk
  have hall : c.all V.oneCell = true := List.all_eq_true.2 hone
  simp [stV, V.cells, storeAt, hg, lay_all z c hl]
  exact fun u hu => hone u hu
theorem grid_nil : List.replicate 576 (V.i .i64 0) = ints (gridL []) := by rw [gridL_nil, ints_rep]
theorem res_cellk {h : H} {t : List V} {n k b : Nat} {c : List V} {l : List ResV} (ht : nth t n = .p b 0) (g : h.get b = some (.cells c)) (hk : c.length = k) : resultsOf t h (.cell n (some k) :: l) = (resultsOf t h l).map (V.agg c :: ·) := by
  subst hk
  have : cut c 0 c.length = some c := cut_eq.2 ⟨by simp, by simp⟩
  simp [resultsOf, resultOf, ht, g, this]
theorem t97 : tblA 97 = some a97 := by kernel_rfl
theorem fn_weigh {h : H} {N : Int} {v : V} {rs : List Arw} (hr : Arrs h v rs) (hrn : rs.length ≤ 1000000) (gr : GoodR N rs) (hN : N ≤ 24) :
    WC tblA (.fn 97 [] []) [.agg [.i .i64 N, v]] h fun u h' => Ext h h' ∧ u = .agg (ints (gridL rs)) := by
  refine (WC_in t97).2 ?_
  obtain ⟨e0, g0⟩ := rel_blk h N v
  simp only [go_sem, ↓reduceIte, r97_0]
  have hb0 : h.next < (h.new (.cells [.i .i64 N, v])).next := by simp
  generalize hh : h.new (.cells [.i .i64 N, v]) = h0 at *
  have e1 : Ext h0 (h0.new (.cells (List.replicate 576 (.i .i64 0)))) := (Ext.refl h0).new _
  have g1 : (h0.new (.cells (List.replicate 576 (.i .i64 0)))).get h0.next = some (.cells (List.replicate 576 (.i .i64 0))) := by rw [H.get_new, if_pos rfl]
  have hb1 : h0.next < (h0.new (.cells (List.replicate 576 (.i .i64 0)))).next := by simp
  generalize hh1 : h0.new (.cells (List.replicate 576 (.i .i64 0))) = h1 at *
  simp only [go_sem, ↓reduceIte, r97_1]
  have e2 : Ext h1 (h1.new (.cells (List.replicate 576 (.i .i64 0)))) := (Ext.refl h1).new _
  have g2 : (h1.new (.cells (List.replicate 576 (.i .i64 0)))).get h1.next = some (.cells (ints (gridL []))) := by rw [H.get_new, if_pos rfl, grid_nil]
  have hb2 : h1.next < (h1.new (.cells (List.replicate 576 (.i .i64 0)))).next := by simp
  generalize hh2 : h1.new (.cells (List.replicate 576 (.i .i64 0))) = h2 at *
  have l2 : ldV h2 (.p h.next 1) = some v := blk_ld ((e1.trans e2).get hb0 g0) rfl
  have hr1 := hr.ext (e0.trans e1)
  simp only [go_sem, ↓reduceIte, r97_2, l2, hr1.len]
  refine W_while (fun k t h' => ∃ i, k = rs.length - i ∧ i ≤ rs.length ∧ t.length = 23 ∧ nth t 2 = .p h0.next 0 ∧ nth t 3 = .p h1.next 0 ∧ nth t 7 = v ∧ nth t 8 = .i .i64 (rs.length : Int) ∧ nth t 9 = .i .i64 (i : Int) ∧ Ext h1 h' ∧ h1.next < h'.next ∧ h'.get h1.next = some (.cells (ints (gridL (rs.take i))))) ?_ rs.length ?_
  · rintro k t h3 ⟨i, rfl, hi, tl, t2, t3, t7, t8, t9, e3, n3, g3⟩
    unfold b97_0
    by_cases hlt : i < rs.length
    · have hlt' : (i : Int) < (rs.length : Int) := by omega
      obtain ⟨r, hx⟩ : ∃ r, rs[i]? = some r := ⟨_, List.getElem?_eq_getElem hlt⟩
      have hok := gr.1 r (List.mem_of_getElem? hx)
      unfold OkA at hok
      have s3 := hr1.ext e3
      obtain ⟨h4, q4, e4, g4, n4⟩ := st_arw h3 (.i .i64 0) (.i .i64 0) (.i .i64 0) (.i .i64 0) r
      obtain ⟨x0, x1, _, x3, _⟩ := arw_lds g4
      obtain ⟨a, ha⟩ := Int.eq_ofNat_of_zero_le hok.1
      obtain ⟨b, hb⟩ := Int.eq_ofNat_of_zero_le hok.2.2.1
      have ha' : r.f = (a : Int) := ha
      have hb' : r.t = (b : Int) := hb
      have ha24 : a < 24 := by omega
      have hb24 : b < 24 := by omega
      rw [ha'] at x0
      rw [hb'] at x1
      have g3' := e4.get n3 g3
      have hn4 := e4.nx
      have n3' : h1.next < h4.next := Nat.lt_of_lt_of_le n3 e4.nx
      have st1 := st_k (h := h4.bare) (k := 0 + a * 24 + b * 1) (kd := .i64) (x := r.w) g3' (by rw [ints_len, gridL_len]; omega)
      have bk := back_put n3' (.cells ((ints (gridL (rs.take i))).set (0 + a * 24 + b * 1) (.i .i64 r.w)))
      have hno : ∀ x ∈ rs.take i, ¬ (x.f = r.f ∧ x.t = r.t) := by
        intro x hm
        have hg : GoodR N (rs.take (i + 1)) := ⟨fun y hy => gr.1 y (List.mem_of_mem_take hy), gr.2.sublist (List.take_sublist _ _)⟩
        rw [take_succ' hx] at hg
        have := (List.pairwise_append.1 hg.2).2.2 x hm r (by simp)
        unfold ltA at this
        omega
      simp only [go_sem, ↓reduceIte, r97_3, r97_4, r97_5, r97_6, tl, t2, t3, t7, t8, t9, hlt', s3.ix hlt, s3.ldn hx, q4, x0, x1, x3, ixA_ok ha24, ixA_ok hb24, st1, bk, wrap_succ (show i < 1000000000 by omega)]
      refine ⟨rs.length - (i + 1), by omega, i + 1, rfl, hlt, rfl, (e3.trans e4).put (Nat.le_refl _) _, n3', ?_⟩
      rw [H.get_put, if_pos rfl, ints_set, show 0 + a * 24 + b * 1 = a * 24 + b by omega, gridL_set ha24 hb24 ha' hb' hno, take_succ' hx]
    · have hlt' : ¬ (i : Int) < (rs.length : Int) := by omega
      rw [List.take_of_length_le (by omega)] at g3
      have l3 : ldnV h3 576 (.p h1.next 0) = some (.agg (ints (gridL rs))) := blk_ldn g3 (by rw [ints_len, gridL_len])
      have g1' := e3.get hb1 g1
      have st1 := st_all (k := 576) (c := ints (gridL rs)) g1' (by rw [List.length_replicate, ints_len, gridL_len]) (by rw [ints_len, gridL_len]) ints_one
      have g5 : (h3.put h0.next (.cells (ints (gridL rs)))).get h0.next = some (.cells (ints (gridL rs))) := by rw [H.get_put, if_pos rfl]
      simp only [go_sem, ↓reduceIte, r97_3, r97_7, tl, t2, t3, t7, t8, t9, hlt', l3, st1]
      rw [res_cellk (b := h0.next) (by simp only [go_sem, ↓reduceIte, t2]) g5 (by rw [ints_len, gridL_len])]
      simp only [go_sem, ↓reduceIte]
      exact (e0.trans (e1.trans e3)).put e0.nx _
  · refine ⟨0, by omega, by omega, ?_⟩
    simp only [go_sem, ↓reduceIte]
    exact ⟨e2, hb2, g2⟩
end Go.Air
set_option maxRecDepth 100000
namespace Go.Air
open Go.Air.Try
def off (rs : List Arw) (xs : List Int) : Int := sumW (slS xs rs)
def NoB (rs : List Arw) (xs : List Int) (i : Nat) : Prop := ∀ (j : Nat) (x y : Int), j < i → xs[j]? = some x → xs[j + 1]? = some y → wt y x rs ≤ wt x y rs
def swp (xs : List Int) (i : Nat) (a b : Int) : List Int := (xs.set i b).set (i + 1) a
inductive Srt (rs : List Arw) : List Int → List Int → Prop
  | done {xs : List Int} (h : NoB rs xs xs.length) : Srt rs xs xs
  | step {xs ys : List Int} {i : Nat} {a b : Int} (h : NoB rs xs i) (ha : xs[i]? = some a) (hb : xs[i + 1]? = some b) (hlt : wt a b rs < wt b a rs) (s : Srt rs (swp xs i a b) ys) : Srt rs xs ys
def term (xs : List Int) (r : Arw) : Int := if posN r.t xs < posN r.f xs then r.w else 0
def offT (rs : List Arw) (g : Arw → Int) : Int := (rs.map g).sum
theorem off_eq (xs : List Int) : ∀ rs : List Arw, off rs xs = offT rs (term xs)
  | [] => rfl
  | r :: rs => by
    have ih := off_eq xs rs
    simp only [off, offT, List.map_cons, List.sum_cons] at *
    rw [← ih]
    have : slS xs (r :: rs) = (if posN r.t xs < posN r.f xs then [(r.f, r.t, r.w)] else []) ++ slS xs rs := rfl
    rw [this, sumW_append]
    unfold term
    split
    · rw [sumW_one]
    · rfl
def one (a b : Int) (r : Arw) : Int := if r.f = a ∧ r.t = b then r.w else 0
theorem offT_one (a b : Int) : ∀ rs : List Arw, rs.Pairwise ltA → offT rs (one a b) = wt a b rs
  | [], _ => rfl
  | r :: rs, hp => by
    obtain ⟨h1, h2⟩ := List.pairwise_cons.1 hp
    have ih := offT_one a b rs h2
    simp only [offT, List.map_cons, List.sum_cons] at *
    rw [ih, one, wt]
    split
    · rename_i h
      rw [wt_none]
      · omega
      · rintro x hx ⟨e1, e2⟩
        have := h1 x hx
        unfold ltA at this
        omega
    · omega
theorem offT_congr {f g : Arw → Int} : ∀ {rs : List Arw}, (∀ r ∈ rs, f r = g r) → offT rs f = offT rs g
  | [], _ => rfl
  | r :: rs, h => by
    have ih := offT_congr (rs := rs) fun x hx => h x (by simp [hx])
    simp only [offT, List.map_cons, List.sum_cons] at *
    rw [ih, h r (by simp)]
end Go.Air
set_option maxRecDepth 100000
namespace Go.Air
open Go.Air.Try
end Go.Air
set_option maxRecDepth 100000
namespace Go.Air
open Go.Air.Try
end Go.Air
set_option maxRecDepth 100000
namespace Go.Air
open Go.Air.Try
theorem get_new_lt {h : H} {b : Nat} {x : Blk} (hb : b < h.next) : (h.new x).get b = h.get b := by rw [H.get_new, if_neg (by omega)]
theorem get_new_eq {h : H} {b : Nat} {x : Blk} (hb : b = h.next) : (h.new x).get b = some x := by rw [H.get_new, if_pos hb]
theorem updAll_two (t : List V) (p q : Nat) (a b : V) : updAll t [p, q] [a, b] = upd (upd t p a) q b := rfl
theorem yld_roundL {tbl : Nat → Option FI} {l : Nat} {t : List V} {ps : List Nat} {asg body : C} {args : List V} {h : H} {S : V → H → Prop} {L Lb : Loop} (hg : h.get l = some (.loop L)) (hL : L = ⟨.ready, none, t, ps, asg, body⟩) (hLb : Lb = ⟨.busy, none, t, ps, asg, body⟩) (ha : args.length = ps.length)
    (hb : W tbl asg (updAll t ps args) h fun o t1 h1 => o = .norm ∧ h1 = h ∧ W tbl body t1 (h.put l (.loop Lb)) fun o _ h2 => o = .norm ∧ h2.get l = some (.loop Lb) ∧ S (.b true) (h2.put l (.loop L))) : WC tbl (.yld l) args h S := by
  subst hL hLb
  exact yld_round hg ha hb
theorem W_rangeL {tbl : Nat → Option FI} {f : X} {ps : List Nat} {asg body : C} {g : Nat} {a c t : List V} {h : H} {Q : Out → List V → H → Prop} (hf : f.ev t = .fn g a c)
    (hw : ∀ L Lo : Loop, L = ⟨.ready, none, t, ps, asg, body⟩ → WC tbl (.fn g a c) [.yld h.next] (h.new (.loop L)) fun _ h' => h'.get h.next = some (.loop L) ∧ Q .norm t (h'.put h.next (.loop Lo))) :
    W tbl (.rangeF f ps asg body) t h Q := W_rangeN hf (hw _ _ rfl)
theorem t122 : tblA 122 = some a122 := by kernel_rfl
@[go_sem ↓] theorem fn_members {h : H} {s m : Int} {S : V → H → Prop} : WC tblA (.fn 122 [] []) [.i .i64 s, .i .i64 m] h S ↔ S (.fn 133 [] [.p (h.next + 1) 0, .p h.next 0]) ((h.new (.cells [.i .i64 s])).new (.cells [.i .i64 m])) := by
  rw [WC_in t122]
  simp only [go_sem, ↓reduceIte, r122_0, r122_1, H.next_new]
  rw [show (V.i .i64 s).cells = [.i .i64 s] from rfl, show (V.i .i64 m).cells = [.i .i64 m] from rfl]
theorem t133 : tblA 133 = some a133 := by kernel_rfl
theorem fn_members1 {h : H} {b1 b2 l m s : Nat} (hm : m ≤ 24) (hs : s < 1000000000) (J : Nat → H → Prop) (K : H → Prop)
    (hJ : ∀ i h', J i h' → h'.get b1 = some (.cells [.i .i64 (m : Int)]) ∧ h'.get b2 = some (.cells [.i .i64 (s : Int)]))
    (hstep : ∀ i h', J i h' → i < m → s.testBit i = true → WC tblA (.yld l) [.i .i64 (i : Int), .i .i64 ((2 ^ i : Nat) : Int)] h' (fun r h'' => (r = .b true ∧ J (i + 1) h'') ∨ (r = .b false ∧ K h'')))
    (hskip : ∀ i h', J i h' → i < m → s.testBit i = false → J (i + 1) h') (h0 : J 0 h) : WC tblA (.fn 133 [] [.p b1 0, .p b2 0]) [.yld l] h fun _ h' => J m h' ∨ K h' := by
  refine (WC_cl t133).2 ?_
  refine W_gen (fun t => t.length = 24 ∧ nth t 0 = .yld l ∧ nth t 1 = .p b1 0 ∧ nth t 2 = .p b2 0) ⟨rfl, rfl, rfl, rfl⟩ ?_
  rintro t ⟨tl, t0, t1, t2⟩
  have lm := blk_ld (i := 0) (hJ 0 h h0).1 rfl
  simp only [go_sem, ↓reduceIte, r133_0, tl, t1, lm]
  refine W_while (fun k t h' => ∃ i, k = m - i ∧ i ≤ m ∧ t.length = 24 ∧ nth t 0 = .yld l ∧ nth t 2 = .p b2 0 ∧ nth t 6 = .i .i64 (m : Int) ∧ nth t 7 = .i .i64 (i : Int) ∧ J i h') ?_ m ?_
  · rintro k t h' ⟨i, rfl, hi, tl, t0, t2, t6, t7, hj⟩
    unfold b133_0
    by_cases hlt : i < m
    · have hltI : (i : Int) < (m : Int) := by omega
      have ls := blk_ld (i := 0) (hJ i h' hj).2 rfl
      have hp := pow_lt (show i < 62 by omega)
      have ha := bin_and (a := s) (b := 2 ^ i) (by omega) hp
      cases hb : s.testBit i
      · have hz : (((s &&& 2 ^ i : Nat) : Int) = 0) := by
          have := and_bit s i
          rw [hb] at this
          have : s &&& 2 ^ i = 0 := by
            rcases Nat.eq_zero_or_pos (s &&& 2 ^ i) with q | q
            · exact q
            · exact absurd (this.1 (by omega)) (by simp)
          omega
        simp only [go_sem, ↓reduceIte, r133_1, r133_2, r133_3, r133_4, r133_5, tl, t0, t2, t6, t7, hltI, bin_shl1 (kd := .i64) (show i < 62 by omega), ls, ha, hz, wrap_succ (show i < 1000000000 by omega)]
        exact ⟨m - (i + 1), by omega, i + 1, rfl, hlt, rfl, hskip i h' hj hlt hb⟩
      · have hz : ¬ (((s &&& 2 ^ i : Nat) : Int) = 0) := by
          have := (and_bit s i).2 hb
          omega
        simp only [go_sem, ↓reduceIte, r133_1, r133_2, r133_3, r133_4, tl, t0, t2, t6, t7, hltI, bin_shl1 (kd := .i64) (show i < 62 by omega), ls, ha, hz]
        refine (hstep i h' hj hlt hb).mono ?_
        rintro r h2 (⟨rfl, hj2⟩ | ⟨rfl, hk⟩)
        · simp only [go_sem, ↓reduceIte, r133_5, tl, t0, t2, t6, t7, wrap_succ (show i < 1000000000 by omega)]
          exact ⟨m - (i + 1), by omega, i + 1, rfl, hlt, rfl, hj2⟩
        · simp only [go_sem, ↓reduceIte, tl]
          exact .inr hk
    · have hltI : ¬ (i : Int) < (m : Int) := by omega
      obtain rfl : i = m := by omega
      simp only [go_sem, ↓reduceIte, r133_1, tl, t0, t2, t6, t7, hltI]
      exact .inl hj
  · refine ⟨0, by omega, by omega, ?_⟩
    simp only [go_sem, ↓reduceIte, tl, t0, t2]
    exact h0
def bhK (rs : List Arw) (c : List Int) (i s : Nat) : Nat → Int
  | 0 => 0
  | k + 1 => bhK rs c i s k + if s.testBit k = true then wt (c.getD i 0) (c.getD k 0) rs else 0
def Wok (rs : List Arw) : Prop := ∀ a b : Int, 0 ≤ wt a b rs ∧ wt a b rs ≤ 1000
theorem wok_of {N : Int} : ∀ {rs : List Arw}, (∀ r ∈ rs, OkA N r) → Wok rs
  | [], _ => fun a b => by simp [wt]
  | r :: l, h => fun a b => by
    have ih := wok_of (N := N) (rs := l) (fun x hx => h x (by simp [hx])) a b
    have := h r (by simp)
    unfold OkA at this
    simp only [wt]
    split
    · omega
    · exact ih
theorem bhK_bound {rs : List Arw} (hw : Wok rs) (c : List Int) (i s : Nat) : ∀ k, 0 ≤ bhK rs c i s k ∧ bhK rs c i s k ≤ 1000 * k
  | 0 => by simp [bhK]
  | k + 1 => by
    have ih := bhK_bound hw c i s k
    have := hw (c.getD i 0) (c.getD k 0)
    simp only [bhK]
    split <;> omega
def Grid (h : H) (gb : Nat) (rs : List Arw) : Prop := gb < h.next ∧ ∃ cs, h.get gb = some (.cells cs) ∧ ∀ a b : Nat, a < 24 → b < 24 → cs[0 + a * 24 + b * 1]? = some (.i .i64 (wt (a : Int) (b : Int) rs))
theorem Grid.ext {h h' : H} {gb : Nat} {rs : List Arw} (g : Grid h gb rs) (e : Ext h h') : Grid h' gb rs := by
  obtain ⟨hb, cs, q, r⟩ := g
  exact ⟨Nat.lt_of_lt_of_le hb e.nx, cs, e.get hb q, r⟩
theorem Grid.extX {X : Nat → Prop} {h h' : H} {gb : Nat} {rs : List Arw} (g : Grid h gb rs) (e : ExtX X h h') (hX : ¬ X gb) : Grid h' gb rs := by
  obtain ⟨hb, cs, q, r⟩ := g
  exact ⟨Nat.lt_of_lt_of_le hb e.nx, cs, e.get hb hX q, r⟩
theorem Grid.ld {h : H} {gb a b : Nat} {rs : List Arw} (g : Grid h gb rs) (ha : a < 24) (hb : b < 24) : ldV h (.p gb (0 + a * 24 + b * 1)) = some (.i .i64 (wt (a : Int) (b : Int) rs)) := by
  obtain ⟨_, cs, q, r⟩ := g
  exact blk_ld q (r a b ha hb)
def Gst (c : List Int) : Prop := ∀ y ∈ c, ∃ j : Nat, y = (j : Int) ∧ j < 24
theorem Gst.at {c : List Int} (h : Gst c) {i : Nat} (hi : i < c.length) : ∃ j : Nat, c[i]? = some (j : Int) ∧ j < 24 ∧ c.getD i 0 = (j : Int) := by
  obtain ⟨j, e, hj⟩ := h c[i] (List.getElem_mem hi)
  exact ⟨j, by rw [List.getElem?_eq_getElem hi, e], hj, by rw [List.getD_eq_getElem?_getD, List.getElem?_eq_getElem hi, e]; rfl⟩
theorem t123 : tblA 123 = some a123 := by kernel_rfl
theorem fn_behind {h : H} {gb i s m : Nat} {v : V} {rs : List Arw} {c : List Int} (hg : Grid h gb rs) (hc : Ints h v c) (hl : c.length = m) (hm : m ≤ 24) (hin : Gst c) (hi : i < m) (hs : s < 1000000000) (hw : Wok rs) :
    WC tblA (.fn 123 [] []) [.p gb 0, v, .i .i64 (i : Int), .i .i64 (s : Int)] h fun u h' => Ext h h' ∧ u = .i .i64 (bhK rs c i s m) := by
  refine (WC_in t123).2 ?_
  simp only [go_sem, ↓reduceIte, r123_0, H.next_new]
  rw [show (V.i .i64 (i : Int)).cells = [.i .i64 (i : Int)] from rfl, hc.one.1]
  have e1 : Ext h (((h.new (.cells [.p gb 0])).new (.cells [v])).new (.cells [.i .i64 (i : Int)])) := (((Ext.refl h).new _).new _).new _
  have g4 : (((h.new (.cells [.p gb 0])).new (.cells [v])).new (.cells [.i .i64 (i : Int)])).get h.next = some (.cells [.p gb 0]) := by rw [get_new_lt (by simp; omega), get_new_lt (by simp), get_new_eq rfl]
  have g5 : (((h.new (.cells [.p gb 0])).new (.cells [v])).new (.cells [.i .i64 (i : Int)])).get (h.next + 1) = some (.cells [v]) := by rw [get_new_lt (by simp), get_new_eq (by simp)]
  have g6 : (((h.new (.cells [.p gb 0])).new (.cells [v])).new (.cells [.i .i64 (i : Int)])).get (h.next + 1 + 1) = some (.cells [.i .i64 (i : Int)]) := by rw [get_new_eq (by simp)]
  have n1 : (((h.new (.cells [.p gb 0])).new (.cells [v])).new (.cells [.i .i64 (i : Int)])).next = h.next + 1 + 1 + 1 := by simp
  generalize (((h.new (.cells [.p gb 0])).new (.cells [v])).new (.cells [.i .i64 (i : Int)])) = h1 at *
  obtain ⟨h2, s2, e2, g9, n2⟩ := st_newK h1 [.i .i64 0] [.i .i64 0] rfl (by intro u hu; simp at hu; subst hu; rfl)
  have s2' : stV (h1.new (.cells [.i .i64 0])) 1 (.p h1.next 0) (.i .i64 0) = some h2 := s2
  simp only [go_sem, ↓reduceIte, r123_1, s2']
  have g4' := e2.get (by omega) g4
  have g5' := e2.get (by omega) g5
  have g6' := e2.get (by omega) g6
  have l5 : ldV h2 (.p (h.next + 1) 0) = some v := blk_ld g5' rfl
  have hc2 := hc.ext (e1.trans e2)
  simp only [go_sem, ↓reduceIte, r123_2, l5, hc2.len, hl]
  have e3 : Ext h2 ((h2.new (.cells [.i .i64 (s : Int)])).new (.cells [.i .i64 (m : Int)])) := ((Ext.refl h2).new _).new _
  have gs : ((h2.new (.cells [.i .i64 (s : Int)])).new (.cells [.i .i64 (m : Int)])).get h2.next = some (.cells [.i .i64 (s : Int)]) := by rw [get_new_lt (by simp), get_new_eq rfl]
  have gm : ((h2.new (.cells [.i .i64 (s : Int)])).new (.cells [.i .i64 (m : Int)])).get (h2.next + 1) = some (.cells [.i .i64 (m : Int)]) := by rw [get_new_eq (by simp)]
  have n3 : ((h2.new (.cells [.i .i64 (s : Int)])).new (.cells [.i .i64 (m : Int)])).next = h2.next + 1 + 1 := by simp
  generalize ((h2.new (.cells [.i .i64 (s : Int)])).new (.cells [.i .i64 (m : Int)])) = h3 at *
  refine W_gen (fun t => t.length = 33 ∧ nth t 4 = .p h.next 0 ∧ nth t 5 = .p (h.next + 1) 0 ∧ nth t 6 = .p (h.next + 1 + 1) 0 ∧ nth t 9 = .p h1.next 0 ∧ nth t 14 = .fn 133 [] [.p (h2.next + 1) 0, .p h2.next 0]) ⟨by simp only [go_sem], by simp only [go_sem, ↓reduceIte], by simp only [go_sem, ↓reduceIte], by simp only [go_sem, ↓reduceIte], by simp only [go_sem, ↓reduceIte], by simp only [go_sem, ↓reduceIte]⟩ ?_
  rintro t ⟨tl, t4, t5, t6, t9, t14⟩
  refine W_rangeL (show (X.t 14).ev t = _ from t14) ?_
  intro L Lo hLdef
  obtain ⟨Lb, hLb⟩ : ∃ Lb : Loop, Lb = ⟨.busy, none, t, [15, 16], .ops r123_3, b123_0⟩ := ⟨_, rfl⟩
  have eL : Ext h3 (h3.new (.loop L)) := (Ext.refl h3).new _
  have gL : (h3.new (.loop L)).get h3.next = some (.loop L) := get_new_eq rfl
  have nL : (h3.new (.loop L)).next = h3.next + 1 := by simp
  generalize h3.new (.loop L) = hL at *
  have eAll : Ext h hL := e1.trans (e2.trans (e3.trans eL))
  have n2e := e2.nx
  have g4L := eL.get (by omega) (e3.get (by omega) g4')
  have g5L := eL.get (by omega) (e3.get (by omega) g5')
  have g6L := eL.get (by omega) (e3.get (by omega) g6')
  have g9L := eL.get (by omega) (e3.get (by omega) g9)
  have gsL := eL.get (by omega) gs
  have gmL := eL.get (by omega) gm
  have hgL := hg.ext eAll
  have hcL := hc.ext eAll
  have hgb := hg.1
  refine (fn_members1 hm hs (fun k h' => ExtX (fun b => b = h1.next ∨ b = h3.next) hL h' ∧ h'.get h1.next = some (.cells [.i .i64 (bhK rs c i s k)]) ∧ h'.get h3.next = some (.loop L)) (fun _ => False) ?_ ?_ ?_ ⟨.refl _ _, g9L, gL⟩).mono ?_
  · rintro k h' ⟨x, _, _⟩
    exact ⟨x.get (by omega) (by omega) gmL, x.get (by omega) (by omega) gsL⟩
  · rintro k h' ⟨x, g9, gl⟩ hk hb
    refine yld_roundL gl hLdef hLb rfl ?_
    rw [updAll_two]
    obtain ⟨a, ha, ha24, haD⟩ := hin.at (i := i) (by omega)
    obtain ⟨b, hb', hb24, hbD⟩ := hin.at (i := k) (by omega)
    have hcv : v = .sn ∨ (∃ a, v = .se a) ∨ ¬ (blkV v = h1.next ∨ blkV v = h3.next) := by
      rcases hc with ⟨_, _, q | q⟩ | ⟨b, off, cap, g, bl, rfl, hb, _⟩
      · exact .inl q
      · exact .inr (.inl q)
      · exact .inr (.inr (show ¬ (b = h1.next ∨ b = h3.next) by omega))
    have hc' : Ints h' v c := Sl.keepX hcL x hcv
    have hg' := hgL.extX x (by omega)
    simp only [go_sem, ↓reduceIte, r123_3, tl]
    have x1 : ExtX (fun b => b = h1.next ∨ b = h3.next) hL (h'.put h3.next (.loop Lb)) := x.put (.inr (.inr rfl)) _
    have gq : (h'.put h3.next (.loop Lb)).get h3.next = some (.loop Lb) := by rw [H.get_put, if_pos rfl]
    have g9' : (h'.put h3.next (.loop Lb)).get h1.next = some (.cells [.i .i64 (bhK rs c i s k)]) := by rw [H.get_put, if_neg (by omega)]; exact g9
    have hc1 : Ints (h'.put h3.next (.loop Lb)) v c := Sl.keepX hcL x1 hcv
    have hg1 := hgL.extX x1 (by omega)
    generalize h'.put h3.next (.loop Lb) = hX at *
    have q4 : ldV hX (.p h.next 0) = some (.p gb 0) := blk_ld (x1.get (by omega) (by omega) g4L) rfl
    have q5 : ldV hX (.p (h.next + 1) 0) = some v := blk_ld (x1.get (by omega) (by omega) g5L) rfl
    have q6 : ldV hX (.p (h.next + 1 + 1) 0) = some (.i .i64 (i : Int)) := blk_ld (x1.get (by omega) (by omega) g6L) rfl
    have q9 : ldV hX (.p h1.next 0) = some (.i .i64 (bhK rs c i s k)) := blk_ld g9' rfl
    have hbd := bhK_bound hw c i s k
    have hwb := hw (a : Int) (b : Int)
    have hsum : IntKind.i64.wrap (bhK rs c i s k + wt (a : Int) (b : Int) rs) = bhK rs c i s (k + 1) := by
      rw [wrap_in (by omega) (by omega)]
      simp only [bhK, hb, if_true, haD, hbD]
    have hst := st_k (h := hX.bare) (k := 0) (x := bhK rs c i s (k + 1)) (kd := .i64) g9' (by simp)
    have hnx := x1.nx
    have hbk := back_put (h := hX) (b := h1.next) (by omega)
    simp only [go_sem, ↓reduceIte, b123_0, r123_4, tl, t4, t5, t6, t9, q4, q5, q6, q9, hc1.ix (show i < c.length by omega), hc1.ix (show k < c.length by omega), hc1.ld ha, hc1.ld hb', ix24r ha24, ixA_ok (esz := 1) hb24, hg1.ld ha24 hb24, hsum, hst, hbk]
    refine ⟨?_, .inl ⟨(x1.put (.inr (.inl rfl)) _).put (.inr (.inr rfl)) _, ?_, ?_⟩⟩
    · rw [H.get_put, if_neg (by omega)]; exact gq
    · rw [H.get_put, if_neg (by omega), H.get_put, if_pos rfl]; rfl
    · rw [H.get_put, if_pos rfl]
  · rintro k h' ⟨x, g9, gl⟩ hk hb
    refine ⟨x, ?_, gl⟩
    rw [g9]
    simp [bhK, hb]
  · rintro _ h' (⟨x, g9, gl⟩ | hf)
    case inr => exact hf.elim
    refine ⟨gl, ?_⟩
    have l9 : ldV (h'.put h3.next (.loop Lo)) (.p h1.next 0) = some (.i .i64 (bhK rs c i s m)) := blk_ld (by rw [H.get_put, if_neg (by omega)]; exact g9) rfl
    simp only [go_sem, ↓reduceIte, r123_5, tl, t9, l9]
    refine (x.put (.inr (.inr rfl)) _).ext eAll (fun b hb => ?_)
    omega
end Go.Air
set_option maxRecDepth 100000
namespace Go.Air
open Go.Air.Try
def never : Int := 1099511627776
def costS (rs : List Arw) (c : List Int) (sp : Int) (m i r : Nat) : Int := if c.getD i 0 = sp ∧ 0 < bhK rs c i r m then never else bhK rs c i r m
def tmin (rs : List Arw) (c : List Int) (sp : Int) (m : Nat) (L : List Int) (s : Nat) : Nat → Int
  | 0 => never
  | i + 1 => if s.testBit i = true then (if L.getD (s - 2 ^ i) 0 + costS rs c sp m i (s - 2 ^ i) < tmin rs c sp m L s i then L.getD (s - 2 ^ i) 0 + costS rs c sp m i (s - 2 ^ i) else tmin rs c sp m L s i) else tmin rs c sp m L s i
def tval (rs : List Arw) (c : List Int) (sp : Int) (m : Nat) (L : List Int) (s : Nat) : Int := if s = 0 then 0 else tmin rs c sp m L s m
def tabL (rs : List Arw) (c : List Int) (sp : Int) (m : Nat) : Nat → List Int
  | 0 => []
  | s + 1 => tabL rs c sp m s ++ [tval rs c sp m (tabL rs c sp m s) s]
section
variable {rs : List Arw} {c : List Int} {sp : Int} {m : Nat}
theorem costS_bound (hw : Wok rs) (hm : m ≤ 24) (i r : Nat) : 0 ≤ costS rs c sp m i r ∧ costS rs c sp m i r ≤ never := by
  have := bhK_bound hw c i r m
  unfold costS never
  split <;> omega
theorem tabL_len : ∀ s, (tabL rs c sp m s).length = s
  | 0 => rfl
  | s + 1 => by simp [tabL, tabL_len s]
theorem getD_in {L : List Int} (h : ∀ x ∈ L, 0 ≤ x ∧ x ≤ never) (j : Nat) : 0 ≤ L.getD j 0 ∧ L.getD j 0 ≤ never := by
  rw [List.getD_eq_getElem?_getD]
  cases q : L[j]? with
  | none => simp [never]
  | some x => exact h x (List.mem_of_getElem? q)
theorem tmin_bound (hw : Wok rs) (hm : m ≤ 24) {L : List Int} (h : ∀ x ∈ L, 0 ≤ x ∧ x ≤ never) (s : Nat) : ∀ i, 0 ≤ tmin rs c sp m L s i ∧ tmin rs c sp m L s i ≤ never
  | 0 => by simp [tmin, never]
  | i + 1 => by
    have ih := tmin_bound hw hm h s i
    have h1 := getD_in h (s - 2 ^ i)
    have h2 := costS_bound (c := c) (sp := sp) hw hm i (s - 2 ^ i)
    simp only [tmin]
    repeat' split
    all_goals omega
theorem tabL_bound (hw : Wok rs) (hm : m ≤ 24) : ∀ s, ∀ x ∈ tabL rs c sp m s, 0 ≤ x ∧ x ≤ never
  | 0, x, h => by simp [tabL] at h
  | s + 1, x, h => by
    simp only [tabL, List.mem_append, List.mem_singleton] at h
    rcases h with h | rfl
    · exact tabL_bound hw hm s x h
    · unfold tval
      split
      · simp [never]
      · exact tmin_bound hw hm (tabL_bound hw hm s) s m
theorem tabL_prefix : ∀ {s n : Nat}, s ≤ n → (tabL rs c sp m n).take s = tabL rs c sp m s
  | s, 0, h => by
    obtain rfl : s = 0 := by omega
    rfl
  | s, n + 1, h => by
    by_cases q : s = n + 1
    · subst q; rw [List.take_of_length_le (by rw [tabL_len]; omega)]
    · rw [tabL, List.take_append_of_le_length (by rw [tabL_len]; omega)]
      exact tabL_prefix (by omega)
end
theorem take_set_same {xs : List Int} {s : Nat} {x : Int} : (xs.set s x).take s = xs.take s := List.take_set_of_le (Nat.le_refl _)
theorem ints_at {xs : List Int} {j : Nat} {x : Int} (h : xs[j]? = some x) : (ints xs)[j]? = some (.i .i64 x) := by rw [ints_get, h]; rfl
theorem t110 : tblA 110 = some a110 := by kernel_rfl
theorem fn_table {h : H} {gb m : Nat} {sp : Int} {v : V} {rs : List Arw} {c : List Int} (hg : Grid h gb rs) (hc : Ints h v c) (hl : c.length = m) (hm : m ≤ 10) (hin : Gst c) (hw : Wok rs) :
    WC tblA (.fn 110 [] []) [.p gb 0, v, .i .i64 sp] h fun u h' => Ext h h' ∧ Own h 1 h' u (2 ^ m) (ints (tabL rs c sp m (2 ^ m))) := by
  refine (WC_in t110).2 ?_
  simp only [go_sem, ↓reduceIte, r110_0, H.next_new]
  rw [show (V.i .i64 sp).cells = [.i .i64 sp] from rfl, hc.one.1]
  have e1 : Ext h (((h.new (.cells [.p gb 0])).new (.cells [v])).new (.cells [.i .i64 sp])) := (((Ext.refl h).new _).new _).new _
  have g3 : (((h.new (.cells [.p gb 0])).new (.cells [v])).new (.cells [.i .i64 sp])).get h.next = some (.cells [.p gb 0]) := by rw [get_new_lt (by simp; omega), get_new_lt (by simp), get_new_eq rfl]
  have g4 : (((h.new (.cells [.p gb 0])).new (.cells [v])).new (.cells [.i .i64 sp])).get (h.next + 1) = some (.cells [v]) := by rw [get_new_lt (by simp), get_new_eq (by simp)]
  have g5 : (((h.new (.cells [.p gb 0])).new (.cells [v])).new (.cells [.i .i64 sp])).get (h.next + 1 + 1) = some (.cells [.i .i64 sp]) := by rw [get_new_eq (by simp)]
  have n1 : (((h.new (.cells [.p gb 0])).new (.cells [v])).new (.cells [.i .i64 sp])).next = h.next + 1 + 1 + 1 := by simp
  generalize (((h.new (.cells [.p gb 0])).new (.cells [v])).new (.cells [.i .i64 sp])) = h1 at *
  have hM : 2 ^ m ≤ 1024 := by
    have := Nat.pow_le_pow_right (n := 2) (by omega) hm
    simpa using this
  have hM1 : 1 ≤ 2 ^ m := Nat.one_le_two_pow
  have l4 : ldV h1 (.p (h.next + 1) 0) = some v := blk_ld g4 rfl
  have hc1 := hc.ext e1
  have hshl := bin_shl1 (k := m) (kd := .i64) (by omega)
  have hgb := hg.1
  generalize hMM : 2 ^ m = M at *
  simp only [go_sem, ↓reduceIte, r110_1, l4, hc1.len, hl, hshl, mkSl_ok (h := h1) (c := [.i .i64 0]) (bytes := 8) (n := M) (by omega) (by omega), rep_one]
  have e2 : Ext h1 ((h1.new (.cells (List.replicate M (.i .i64 0)))).new (.cells [.sn])) := ((Ext.refl h1).new _).new _
  have gv : ((h1.new (.cells (List.replicate M (.i .i64 0)))).new (.cells [.sn])).get h1.next = some (.cells (ints (List.replicate M 0))) := by rw [get_new_lt (by simp), get_new_eq rfl]; simp [ints]
  have g7 : ((h1.new (.cells (List.replicate M (.i .i64 0)))).new (.cells [.sn])).get (h1.next + 1) = some (.cells [.sn]) := by rw [get_new_eq (by simp)]
  have n2 : ((h1.new (.cells (List.replicate M (.i .i64 0)))).new (.cells [.sn])).next = h1.next + 1 + 1 := by simp
  simp only [H.next_new]
  generalize ((h1.new (.cells (List.replicate M (.i .i64 0)))).new (.cells [.sn])) = h2 at *
  have st7 := st_ref (v := .sl h1.next 0 M M none) g7 rfl rfl
  simp only [go_sem, ↓reduceIte, st7]
  have eB : Ext h (h2.put (h1.next + 1) (.cells [.sl h1.next 0 M M none])) := (e1.trans e2).put (by omega) _
  have e2' : ExtX (· = h1.next + 1) h2 (h2.put (h1.next + 1) (.cells [.sl h1.next 0 M M none])) := (ExtX.refl (· = h1.next + 1) h2).put (.inr rfl) _
  have n2e := e2.nx
  have B3 := e2'.get (by omega) (by omega) (e2.get (by omega) g3)
  have B4 := e2'.get (by omega) (by omega) (e2.get (by omega) g4)
  have B5 := e2'.get (by omega) (by omega) (e2.get (by omega) g5)
  have Bv := e2'.get (by omega) (by omega) gv
  have B7 : (h2.put (h1.next + 1) (.cells [.sl h1.next 0 M M none])).get (h1.next + 1) = some (.cells [.sl h1.next 0 M M none]) := by rw [H.get_put, if_pos rfl]
  have nB : (h2.put (h1.next + 1) (.cells [.sl h1.next 0 M M none])).next = h1.next + 1 + 1 := by simpa using n2
  generalize h2.put (h1.next + 1) (.cells [.sl h1.next 0 M M none]) = hB at *
  have hgB := hg.ext eB
  have hcB := hc.ext eB
  have stp (hh : H) : ∃ h3, stV (hh.new (.cells [.i .i64 0])) 1 (.p hh.next 0) (.i .i64 1) = some h3 ∧ Ext hh h3 ∧ h3.get hh.next = some (.cells [.i .i64 1]) ∧ h3.next = hh.next + 1 := st_newK hh [.i .i64 0] [.i .i64 1] rfl (by intro u hu; simp at hu; subst hu; rfl)
  obtain ⟨h3, s3, e3, g8, n3⟩ := stp hB
  simp only [go_sem, ↓reduceIte, r110_2, s3]
  have hcv : v = .sn ∨ (∃ a, v = .se a) ∨ blkV v < h.next := by
    rcases hc with ⟨_, _, q | q⟩ | ⟨b, off, cap, g, bl, rfl, hb, _⟩
    · exact .inl q
    · exact .inr (.inl q)
    · exact .inr (.inr hb)
  refine W_while (fun k t h' => ∃ (s q : Nat) (xs : List Int), k = M - s ∧ 1 ≤ s ∧ s ≤ M ∧ t.length = 66 ∧ nth t 3 = .p h.next 0 ∧ nth t 4 = .p (h.next + 1) 0 ∧ nth t 5 = .p (h.next + 1 + 1) 0 ∧ nth t 7 = .p (h1.next + 1) 0 ∧ nth t 8 = .p q 0 ∧ hB.next ≤ q ∧ q < h'.next ∧ ExtX (· = h1.next) hB h' ∧ h'.get q = some (.cells [.i .i64 (s : Int)]) ∧
      h'.get h1.next = some (.cells (ints xs)) ∧ xs.length = M ∧ xs.take s = tabL rs c sp m s) ?_ (M - 1) ?_
  · rintro k t h' ⟨s, q, xs, rfl, hs1, hsM, tl, t3, t4, t5, t7, t8, hq1, hq2, x, gq, gx, hxl, hxt⟩
    unfold b110_1
    have l8 : ldV h' (.p q 0) = some (.i .i64 (s : Int)) := blk_ld gq rfl
    have l7 : ldV h' (.p (h1.next + 1) 0) = some (.sl h1.next 0 M M none) := blk_ld (x.get (by omega) (by omega) B7) rfl
    by_cases hlt : s < M
    · have hltI : (s : Int) < (M : Int) := by omega
      have stv := st_one (h := h') (kd := .i64) (x := never) gx (show s < (ints xs).length by rw [ints_len]; omega)
      rw [ints_set] at stv
      simp only [go_sem, ↓reduceIte, r110_3, r110_5, tl, t3, t4, t5, t7, t8, l8, l7, hltI, ix_own hlt]
      rw [show (1099511627776 : Int) = never from rfl]
      simp only [go_sem, ↓reduceIte, stv]
      have x1 : ExtX (· = h1.next) hB (h'.put h1.next (.cells (ints (xs.set s never)))) := x.put (.inr rfl) _
      have gq1 : (h'.put h1.next (.cells (ints (xs.set s never)))).get q = some (.cells [.i .i64 (s : Int)]) := by rw [H.get_put, if_neg (by omega)]; exact gq
      have gx1 : (h'.put h1.next (.cells (ints (xs.set s never)))).get h1.next = some (.cells (ints (xs.set s never))) := by rw [H.get_put, if_pos rfl]
      have nx1 : (h'.put h1.next (.cells (ints (xs.set s never)))).next = h'.next := by simp
      generalize h'.put h1.next (.cells (ints (xs.set s never))) = h4 at *
      have l8' : ldV h4 (.p q 0) = some (.i .i64 (s : Int)) := blk_ld gq1 rfl
      have l4' : ldV h4 (.p (h.next + 1) 0) = some v := blk_ld (x1.get (by omega) (by omega) B4) rfl
      have hc4 : Ints h4 v c := Sl.keepX hcB x1 (by
        rcases hcv with z | z | z
        · exact .inl z
        · exact .inr (.inl z)
        · exact .inr (.inr (by omega)))
      simp only [go_sem, ↓reduceIte, r110_6, tl, t3, t4, t5, t7, t8, l8', l4', hc4.len, hl]
      have e5 : Ext h4 ((h4.new (.cells [.i .i64 (s : Int)])).new (.cells [.i .i64 (m : Int)])) := ((Ext.refl h4).new _).new _
      have gs : ((h4.new (.cells [.i .i64 (s : Int)])).new (.cells [.i .i64 (m : Int)])).get h4.next = some (.cells [.i .i64 (s : Int)]) := by rw [get_new_lt (by simp), get_new_eq rfl]
      have gm : ((h4.new (.cells [.i .i64 (s : Int)])).new (.cells [.i .i64 (m : Int)])).get (h4.next + 1) = some (.cells [.i .i64 (m : Int)]) := by rw [get_new_eq (by simp)]
      have n5 : ((h4.new (.cells [.i .i64 (s : Int)])).new (.cells [.i .i64 (m : Int)])).next = h4.next + 1 + 1 := by simp
      generalize ((h4.new (.cells [.i .i64 (s : Int)])).new (.cells [.i .i64 (m : Int)])) = h5 at *
      refine W_gen (fun t => t.length = 66 ∧ nth t 3 = .p h.next 0 ∧ nth t 4 = .p (h.next + 1) 0 ∧ nth t 5 = .p (h.next + 1 + 1) 0 ∧ nth t 7 = .p (h1.next + 1) 0 ∧ nth t 8 = .p q 0 ∧ nth t 28 = .fn 133 [] [.p (h4.next + 1) 0, .p h4.next 0]) ⟨by simp only [go_sem, tl], by simp only [go_sem, ↓reduceIte, tl, t3], by simp only [go_sem, ↓reduceIte, tl, t4], by simp only [go_sem, ↓reduceIte, tl, t5], by simp only [go_sem, ↓reduceIte, tl, t7], by simp only [go_sem, ↓reduceIte, tl, t8], by simp only [go_sem, ↓reduceIte, tl]⟩ ?_
      clear tl t3 t4 t5 t7 t8
      rintro t ⟨tl, t3, t4, t5, t7, t8, t28⟩
      refine W_rangeL (show (X.t 28).ev t = _ from t28) ?_
      intro L Lo hLdef
      obtain ⟨Lb, hLb⟩ : ∃ Lb : Loop, Lb = ⟨.busy, none, t, [29, 30], .seq (.ops r110_7) (.ops r110_8), b110_0⟩ := ⟨_, rfl⟩
      have eL : Ext h5 (h5.new (.loop L)) := (Ext.refl h5).new _
      have gL : (h5.new (.loop L)).get h5.next = some (.loop L) := get_new_eq rfl
      have nL : (h5.new (.loop L)).next = h5.next + 1 := by simp
      generalize h5.new (.loop L) = hL at *
      have e4L := e5.trans eL
      have xL : ExtX (· = h1.next) hB hL := x1.trans (.of e4L)
      have gqL := e4L.get (by omega) gq1
      have gxL := e4L.get (by omega) gx1
      have gsL := eL.get (by omega) gs
      have gmL := eL.get (by omega) gm
      have hgL := hgB.extX xL (by omega)
      have hcL := hc4.ext e4L
      have hTb := tabL_bound (rs := rs) (c := c) (sp := sp) (m := m) hw (by omega) s
      have nx0 := x.nx
      refine (fn_members1 (show m ≤ 24 by omega) (show s < 1000000000 by omega) (fun i h' => ExtX (fun b => b = h1.next ∨ b = h5.next) hL h' ∧ h'.get h1.next = some (.cells (ints (xs.set s (tmin rs c sp m (tabL rs c sp m s) s i)))) ∧ h'.get h5.next = some (.loop L)) (fun _ => False) ?_ ?_ ?_ ⟨.refl _ _, gxL, gL⟩).mono ?_
      · rintro i h' ⟨x, _, _⟩
        exact ⟨x.get (by omega) (by omega) gmL, x.get (by omega) (by omega) gsL⟩
      · rintro i h' ⟨x', gx', gl⟩ hi hbit
        refine yld_roundL gl hLdef hLb rfl ?_
        rw [updAll_two]
        obtain ⟨a, ha, ha24, haD⟩ := hin.at (i := i) (by omega)
        simp only [go_sem, ↓reduceIte, r110_7, r110_8, tl]
        have x2 : ExtX (fun b => b = h1.next ∨ b = h5.next) hL (h'.put h5.next (.loop Lb)) := x'.put (.inr (.inr rfl)) _
        have gl2 : (h'.put h5.next (.loop Lb)).get h5.next = some (.loop Lb) := by rw [H.get_put, if_pos rfl]
        have gx2 : (h'.put h5.next (.loop Lb)).get h1.next = some (.cells (ints (xs.set s (tmin rs c sp m (tabL rs c sp m s) s i)))) := by rw [H.get_put, if_neg (by omega)]; exact gx'
        generalize h'.put h5.next (.loop Lb) = h6 at *
        have hg6 := hgL.extX x2 (by omega)
        have hc6 : Ints h6 v c := Sl.keepX hcL x2 (by
          rcases hcv with z | z | z
          · exact .inl z
          · exact .inr (.inl z)
          · exact .inr (.inr (by omega)))
        have q3 : ldV h6 (.p h.next 0) = some (.p gb 0) := blk_ld (x2.get (by omega) (by omega) (xL.get (by omega) (by omega) B3)) rfl
        have g46 := x2.get (by omega) (by omega) (xL.get (by omega) (by omega) B4)
        have g56 := x2.get (by omega) (by omega) (xL.get (by omega) (by omega) B5)
        have g76 := x2.get (by omega) (by omega) (xL.get (by omega) (by omega) B7)
        have gq6 := x2.get (by omega) (by omega) gqL
        have q4 : ldV h6 (.p (h.next + 1) 0) = some v := blk_ld g46 rfl
        have q8 : ldV h6 (.p q 0) = some (.i .i64 (s : Int)) := blk_ld gq6 rfl
        have hble := bit_le hbit
        have hpp : 0 < 2 ^ i := Nat.two_pow_pos i
        simp only [b110_0]
        simp only [go_sem, ↓reduceIte, r110_9, tl, t3, t4, t5, t7, t8, q3, q4, q8, bin_andNot (show s < 4611686018427387904 by omega) hbit]
        refine (fn_behind hg6 hc6 hl (by omega) hin hi (show s - 2 ^ i < 1000000000 by omega) hw).mono ?_
        rintro _ h7 ⟨e7, rfl⟩
        have n6 := x2.nx
        have nx7 := e7.nx
        have hg7 := hg6.ext e7
        have hc7 := hc6.ext e7
        have q47 : ldV h7 (.p (h.next + 1) 0) = some v := blk_ld (e7.get (by omega) g46) rfl
        have q57 : ldV h7 (.p (h.next + 1 + 1) 0) = some (.i .i64 sp) := blk_ld (e7.get (by omega) g56) rfl
        have q77 : ldV h7 (.p (h1.next + 1) 0) = some (.sl h1.next 0 M M none) := blk_ld (e7.get (by omega) g76) rfl
        have q87 : ldV h7 (.p q 0) = some (.i .i64 (s : Int)) := blk_ld (e7.get (by omega) gq6) rfl
        have gl7 := e7.get (by omega) gl2
        have gx7 := e7.get (by omega) gx2
        have hcost : costS rs c sp m i (s - 2 ^ i) = if c.getD i 0 = sp ∧ 0 < bhK rs c i (s - 2 ^ i) m then never else bhK rs c i (s - 2 ^ i) m := rfl
        have hcb := costS_bound (c := c) (sp := sp) hw (show m ≤ 24 by omega) i (s - 2 ^ i)
        have hlb := getD_in hTb (s - 2 ^ i)
        have htb := tmin_bound (c := c) (sp := sp) hw (show m ≤ 24 by omega) hTb s i
        have hlt2 : s - 2 ^ i < M := by omega
        have lds : ldV h7 (.p h1.next (0 + s * 1)) = some (.i .i64 (tmin rs c sp m (tabL rs c sp m s) s i)) := by
          refine blk_ld gx7 (ints_at ?_)
          rw [show 0 + s * 1 = s by omega, List.getElem?_set]
          simp [hxl, hlt]
        have ldr : ldV h7 (.p h1.next (0 + (s - 2 ^ i) * 1)) = some (.i .i64 ((tabL rs c sp m s).getD (s - 2 ^ i) 0)) := by
          refine blk_ld gx7 (ints_at ?_)
          rw [show 0 + (s - 2 ^ i) * 1 = s - 2 ^ i by omega, List.getElem?_set, if_neg (by omega), ← hxt, List.getD_eq_getElem?_getD, List.getElem?_take_of_lt (by omega)]
          obtain ⟨y, hy⟩ : ∃ y, xs[s - 2 ^ i]? = some y := ⟨_, List.getElem?_eq_getElem (by omega)⟩
          rw [hy]; rfl
        have hsum : IntKind.i64.wrap ((tabL rs c sp m s).getD (s - 2 ^ i) 0 + costS rs c sp m i (s - 2 ^ i)) = (tabL rs c sp m s).getD (s - 2 ^ i) 0 + costS rs c sp m i (s - 2 ^ i) := by
          unfold never at *
          exact wrap_in (by omega) (by omega)
        have hand := bin_andNot (show s < 4611686018427387904 by omega) hbit
        have htm : tmin rs c sp m (tabL rs c sp m s) s (i + 1) = if (tabL rs c sp m s).getD (s - 2 ^ i) 0 + costS rs c sp m i (s - 2 ^ i) < tmin rs c sp m (tabL rs c sp m s) s i then (tabL rs c sp m s).getD (s - 2 ^ i) 0 + costS rs c sp m i (s - 2 ^ i) else tmin rs c sp m (tabL rs c sp m s) s i := by
          simp only [tmin, hbit, if_true]
        have st7 := st_one (h := h7.bare) (kd := .i64) (x := tmin rs c sp m (tabL rs c sp m s) s (i + 1)) gx7 (show s < (ints (xs.set s (tmin rs c sp m (tabL rs c sp m s) s i))).length by rw [ints_len]; simp; omega)
        rw [ints_set, List.set_set] at st7
        have hbk := back_put (h := h7) (b := h1.next) (by omega)
        have x7 : ExtX (fun b => b = h1.next ∨ b = h5.next) hL h7 := x2.trans (.of e7)
        have fin : (h7.put h1.next (.cells (ints (xs.set s (tmin rs c sp m (tabL rs c sp m s) s (i + 1)))))).get h5.next = some (.loop Lb) ∧
            ((V.b true = .b true ∧ ExtX (fun b => b = h1.next ∨ b = h5.next) hL ((h7.put h1.next (.cells (ints (xs.set s (tmin rs c sp m (tabL rs c sp m s) s (i + 1)))))).put h5.next (.loop L)) ∧ ((h7.put h1.next (.cells (ints (xs.set s (tmin rs c sp m (tabL rs c sp m s) s (i + 1)))))).put h5.next (.loop L)).get h1.next = some (.cells (ints (xs.set s (tmin rs c sp m (tabL rs c sp m s) s (i + 1))))) ∧ ((h7.put h1.next (.cells (ints (xs.set s (tmin rs c sp m (tabL rs c sp m s) s (i + 1)))))).put h5.next (.loop L)).get h5.next = some (.loop L)) ∨ (V.b true = .b false ∧ False)) := by
          refine ⟨by rw [H.get_put, if_neg (by omega)]; exact gl7, .inl ⟨rfl, (x7.put (.inr (.inl rfl)) _).put (.inr (.inr rfl)) _, ?_, ?_⟩⟩
          · rw [H.get_put, if_neg (by omega), H.get_put, if_pos rfl]
          · rw [H.get_put, if_pos rfl]
        by_cases d1 : c.getD i 0 = sp ∧ 0 < bhK rs c i (s - 2 ^ i) m
        · rw [if_pos d1] at hcost
          have d2 : (a : Int) = sp := by rw [← haD]; exact d1.1
          simp only [go_sem, ↓reduceIte, r110_10, r110_11, tl, t3, t4, t5, t7, t8, q47, q57, hc7.ix (show i < c.length by omega), hc7.ld ha, d2, d1.2]
          rw [show (1099511627776 : Int) = never from rfl, ← hcost]
          simp only [go_sem, ↓reduceIte, r110_12, tl, t3, t4, t5, t7, t8, q77, q87, ix_own hlt, ix_own hlt2, hand, lds, ldr, hsum, minL_2, ← htm, st7, hbk]
          simpa using fin
        · rw [if_neg d1] at hcost
          by_cases d2 : (a : Int) = sp
          · have d3 : ¬ 0 < bhK rs c i (s - 2 ^ i) m := fun z => d1 ⟨by rw [haD]; exact d2, z⟩
            simp only [go_sem, ↓reduceIte, r110_10, tl, t3, t4, t5, t7, t8, q47, q57, hc7.ix (show i < c.length by omega), hc7.ld ha, d2, d3]
            rw [← hcost]
            simp only [go_sem, ↓reduceIte, r110_12, tl, t3, t4, t5, t7, t8, q77, q87, ix_own hlt, ix_own hlt2, hand, lds, ldr, hsum, minL_2, ← htm, st7, hbk]
            simpa using fin
          · simp only [go_sem, ↓reduceIte, r110_10, tl, t3, t4, t5, t7, t8, q47, q57, hc7.ix (show i < c.length by omega), hc7.ld ha, d2]
            rw [← hcost]
            simp only [go_sem, ↓reduceIte, r110_12, tl, t3, t4, t5, t7, t8, q77, q87, ix_own hlt, ix_own hlt2, hand, lds, ldr, hsum, minL_2, ← htm, st7, hbk]
            simpa using fin
      · rintro i h' ⟨x', gx', gl⟩ hi hbit
        refine ⟨x', ?_, gl⟩
        rw [gx']
        simp [tmin, hbit]
      · rintro _ h' (⟨x', gx', gl⟩ | hf)
        case inr => exact hf.elim
        refine ⟨gl, ?_⟩
        have x8 : ExtX (fun b => b = h1.next ∨ b = h5.next) hL (h'.put h5.next (.loop Lo)) := x'.put (.inr (.inr rfl)) _
        have gx8 : (h'.put h5.next (.loop Lo)).get h1.next = some (.cells (ints (xs.set s (tmin rs c sp m (tabL rs c sp m s) s m)))) := by rw [H.get_put, if_neg (by omega)]; exact gx'
        generalize h'.put h5.next (.loop Lo) = h8 at *
        have gq8 := x8.get (by omega) (by omega) gqL
        have n8 := x8.nx
        have l88 : ldV h8 (.p q 0) = some (.i .i64 (s : Int)) := blk_ld gq8 rfl
        obtain ⟨h9, s9, e9, g9, n9⟩ : ∃ h9, stV (h8.new (.cells [.i .i64 0])) 1 (.p h8.next 0) (.i .i64 (s : Int)) = some h9 ∧ Ext h8 h9 ∧ h9.get h8.next = some (.cells [.i .i64 (s : Int)]) ∧ h9.next = h8.next + 1 := st_newK h8 [.i .i64 0] [.i .i64 (s : Int)] rfl (by intro u hu; simp at hu; subst hu; rfl)
        have l99 : ldV h9 (.p h8.next 0) = some (.i .i64 (s : Int)) := blk_ld g9 rfl
        have stA : stV h9 1 (.p h8.next 0) (.i .i64 ((s + 1 : Nat) : Int)) = some (h9.put h8.next (.cells [.i .i64 ((s + 1 : Nat) : Int)])) := st_ref g9 rfl rfl
        simp only [go_sem, ↓reduceIte, r110_13, r110_14, r110_4, tl, t3, t4, t5, t7, t8, l88, s9, l99, wrap_succ (show s < 1000000000 by omega), stA]
        have xf : ExtX (· = h1.next) hB (h9.put h8.next (.cells [.i .i64 ((s + 1 : Nat) : Int)])) := by
          have y1 : ExtX (fun b => b = h1.next ∨ b = h5.next) hL h9 := x8.trans (.of e9)
          have y2 : ExtX (fun b => b = h1.next ∨ b = h5.next ∨ b = h8.next) hL (h9.put h8.next (.cells [.i .i64 ((s + 1 : Nat) : Int)])) := (y1.mono (fun b hb => hb.elim .inl fun z => .inr (.inl z))).put (.inr (.inr (.inr rfl))) _
          refine ⟨Nat.le_trans xL.nx y2.nx, fun b hb hne => ?_, ?_⟩
          · rw [y2.same b (by omega) (by omega)]
            exact xL.same b hb hne
          · obtain ⟨l1, p1, p2⟩ := xL.log
            obtain ⟨l2, p3, p4⟩ := y2.log
            refine ⟨l2 ++ l1, by rw [p3, p1, List.append_assoc], fun b hb => ?_⟩
            rcases List.mem_append.1 hb with hb | hb
            · rcases p4 b hb with z | z | z | z
              · exact .inl (by omega)
              · exact .inr z
              · exact .inl (by omega)
              · exact .inl (by omega)
            · exact p2 b hb
        refine ⟨M - (s + 1), by omega, s + 1, h8.next, xs.set s (tmin rs c sp m (tabL rs c sp m s) s m), rfl, by omega, by omega, rfl, by omega, by simp; omega, xf, by rw [H.get_put, if_pos rfl], ?_, by simpa using hxl, ?_⟩
        · rw [H.get_put, if_neg (by omega)]
          exact e9.get (by omega) gx8
        · rw [tabL, take_succ' (x := tmin rs c sp m (tabL rs c sp m s) s m) (by rw [List.getElem?_set]; simp [hxl, hlt]), take_set_same, hxt]
          congr 2
          rw [tval, if_neg (by omega)]
    · have hltI : ¬ (s : Int) < (M : Int) := by omega
      obtain rfl : s = M := by omega
      simp only [go_sem, ↓reduceIte, r110_3, r110_15, tl, t3, t4, t5, t7, t8, l8, l7, hltI]
      rw [List.take_of_length_le (by omega)] at hxt
      subst hxt
      refine ⟨x.ext eB (fun b hb => by omega), by rw [ints_len, hxl]; simp, .inr ⟨h1.next, none, rfl, .inl rfl, by omega, by have := x.nx; omega, gx⟩⟩
  · refine ⟨1, hB.next, List.replicate M 0, rfl, by omega, by omega, ?_⟩
    simp only [go_sem, ↓reduceIte]
    refine ⟨by omega, by omega, .of e3, g8, e3.get (by omega) Bv, by simp, ?_⟩
    obtain ⟨M', rfl⟩ : ∃ M', M = M' + 1 := ⟨M - 1, by omega⟩
    simp [tabL, tval, List.replicate_succ]
end Go.Air
set_option maxRecDepth 100000
namespace Go.Air
open Go.Air.Try
theorem cells576_eg {m : Nat → Nat → Bool} {a b : Nat} (ha : a < 24) (hb : b < 24) : (cells576 m)[0 + a * 24 + b * 1]? = some (.b (m a b)) := by
  obtain ⟨h1, h2⟩ := divmod24 (a := a) hb
  rw [show 0 + a * 24 + b * 1 = a * 24 + b by omega, cells576_get (by omega), h1, h2]
theorem cells576_set {m : Nat → Nat → Bool} {a b : Nat} (ha : a < 24) (hb : b < 24) : (cells576 m).set (0 + a * 24 + b * 1) (.b true) = cells576 (eset m a b) := by
  apply List.ext_getElem?
  intro i
  rw [List.getElem?_set]
  by_cases hi : i < 576
  · rw [cells576_get hi, cells576_get hi]
    by_cases h : a * 24 + b = i
    · subst h
      obtain ⟨d1, d2⟩ := divmod24 (a := a) hb
      rw [if_pos (by omega), if_pos (by rw [cells576_len]; omega), d1, d2]
      simp [eset]
    · rw [if_neg (by omega)]
      have : ¬ (i / 24 = a ∧ i % 24 = b) := by omega
      simp only [eset, if_neg this]
  · rw [List.getElem?_eq_none (l := cells576 (eset m a b)) (by rw [cells576_len]; omega), List.getElem?_eq_none (l := cells576 m) (by rw [cells576_len]; omega), if_neg (by omega)]
theorem cells576_zero : List.replicate 576 (V.b false) = cells576 (fun _ _ => false) := by
  apply List.ext_getElem?
  intro i
  by_cases hi : i < 576
  · rw [cells576_get hi, List.getElem?_replicate, if_pos hi]
  · rw [List.getElem?_eq_none (by rw [List.length_replicate]; omega), List.getElem?_eq_none (by rw [cells576_len]; omega)]
theorem ld576 {h : H} {q a b : Nat} {m : Nat → Nat → Bool} (g : h.get q = some (.cells (cells576 m))) (ha : a < 24) (hb : b < 24) : ldV h (.p q (0 + a * 24 + b * 1)) = some (.b (m a b)) := blk_ld g (cells576_eg ha hb)
theorem st576 {h : H} {q a b : Nat} {m : Nat → Nat → Bool} (g : h.get q = some (.cells (cells576 m))) (ha : a < 24) (hb : b < 24) : stV h 1 (.p q (0 + a * 24 + b * 1)) (.b true) = some (h.put q (.cells (cells576 (eset m a b)))) := by
  rw [st_b (k := 0 + a * 24 + b * 1) g (by rw [cells576_len]; omega), cells576_set ha hb]
theorem t135 : tblA 135 = some a135 := by kernel_rfl
theorem fn_steps {h : H} {n : Nat} {v : V} {rs : List Arw} (hr : Arrs h v rs) (hrn : rs.length ≤ 1000000) (hn : n ≤ 24) (gr : GoodR (n : Int) rs) : WC tblA (.fn 135 [] []) [.agg [.i .i64 (n : Int), v]] h fun u h' => Ext h h' ∧ u = .agg (cells576 (eA rs)) := by
  refine (WC_in t135).2 ?_
  simp only [go_sem, ↓reduceIte, r135_0, r135_1, r135_2, H.next_new, cells576_zero]
  have e1 : Ext h (((h.new (.cells [.i .i64 (n : Int), v])).new (.cells (cells576 fun _ _ => false))).new (.cells (cells576 fun _ _ => false))) := (((Ext.refl h).new _).new _).new _
  have g1 : (((h.new (.cells [.i .i64 (n : Int), v])).new (.cells (cells576 fun _ _ => false))).new (.cells (cells576 fun _ _ => false))).get h.next = some (.cells [.i .i64 (n : Int), v]) := by
    rw [H.get_new, if_neg (by simp <;> omega), H.get_new, if_neg (by simp <;> omega), H.get_new, if_pos rfl]
  have g2 : (((h.new (.cells [.i .i64 (n : Int), v])).new (.cells (cells576 fun _ _ => false))).new (.cells (cells576 fun _ _ => false))).get (h.next + 1) = some (.cells (cells576 fun _ _ => false)) := by
    rw [H.get_new, if_neg (by simp <;> omega), H.get_new, if_pos (by simp)]
  have g3 : (((h.new (.cells [.i .i64 (n : Int), v])).new (.cells (cells576 fun _ _ => false))).new (.cells (cells576 fun _ _ => false))).get (h.next + 1 + 1) = some (.cells (cells576 fun _ _ => false)) := by
    rw [H.get_new, if_pos (by simp)]
  have nx : (((h.new (.cells [.i .i64 (n : Int), v])).new (.cells (cells576 fun _ _ => false))).new (.cells (cells576 fun _ _ => false))).next = h.next + 1 + 1 + 1 := by simp
  generalize (((h.new (.cells [.i .i64 (n : Int), v])).new (.cells (cells576 fun _ _ => false))).new (.cells (cells576 fun _ _ => false))) = h1 at *
  refine W_while (fun k t h' => ∃ i, k = rs.length - i ∧ i ≤ rs.length ∧ t.length = 27 ∧ nth t 1 = .p h.next 0 ∧ nth t 2 = .p (h.next + 1) 0 ∧ nth t 3 = .p (h.next + 1 + 1) 0 ∧ nth t 4 = .i .i64 (i : Int) ∧ Ext h h' ∧ h.next + 1 + 1 < h'.next ∧ h'.get h.next = some (.cells [.i .i64 (n : Int), v]) ∧ h'.get (h.next + 1) = some (.cells (cells576 fun _ _ => false)) ∧ h'.get (h.next + 1 + 1) = some (.cells (cells576 (eA (rs.take i))))) ?_ rs.length ?_
  · rintro k t h' ⟨i, rfl, hi, tl, t1, t2, t3, t4, e', n', g1', g2', g3'⟩
    unfold b135_0
    have hr' := hr.ext e'
    have l1 : ldV h' (.p h.next 1) = some v := blk_ld g1' rfl
    by_cases hlt : i < rs.length
    · have hltI : (i : Int) < (rs.length : Int) := by omega
      obtain ⟨a, hx⟩ : ∃ a, rs[i]? = some a := ⟨_, List.getElem?_eq_getElem hlt⟩
      have hok := gr.1 a (List.mem_of_getElem? hx)
      unfold OkA at hok
      obtain ⟨f, hf⟩ := Int.eq_ofNat_of_zero_le (a := a.f) (by omega)
      obtain ⟨g, hg⟩ := Int.eq_ofNat_of_zero_le (a := a.t) (by omega)
      have hf24 : f < 24 := by omega
      have hg24 : g < 24 := by omega
      have x0 := hr'.ld (j := 0) hx (by omega)
      have x1 := hr'.ld (j := 1) hx (by omega)
      simp only [arw, List.getElem?_cons_zero, List.getElem?_cons_succ, hf, hg] at x0 x1
      have st3 := st576 (h := h'.bare) g3' hf24 hg24
      have hbk := back_put (h := h') (b := h.next + 1 + 1) n'
      simp only [go_sem, ↓reduceIte, r135_3, r135_4, r135_5, tl, t1, t2, t3, t4, l1, hr'.len, hltI, hr'.ix hlt, x0, x1, ix24r hf24, ixA_ok (esz := 1) hg24, st3, hbk, wrap_succ (show i < 1000000000 by omega)]
      refine ⟨rs.length - (i + 1), by omega, i + 1, rfl, hlt, rfl, e'.put (by omega) _, by simpa using n', ?_, ?_, ?_⟩
      · rw [H.get_put, if_neg (by omega)]; exact g1'
      · rw [H.get_put, if_neg (by omega)]; exact g2'
      · rw [H.get_put, if_pos rfl, eA_step hx hf hg]
    · have hltI : ¬ (i : Int) < (rs.length : Int) := by omega
      rw [List.take_of_length_le (by omega)] at g3'
      have l5 : ldnV h' 576 (.p (h.next + 1 + 1) 0) = some (.agg (cells576 (eA rs))) := blk_ldn g3' (cells576_len _)
      have s5 := st_whole g2' (cells576_len (eA rs)) (cells576_len _) (cells576_one _)
      simp only [go_sem, ↓reduceIte, r135_3, r135_6, tl, t1, t2, t3, t4, l1, hr'.len, hltI, l5, s5]
      rw [rescell (b := h.next + 1) (cs := cells576 (eA rs)) (by simp only [go_sem, ↓reduceIte, tl, t2]) (by rw [H.get_put, if_pos rfl]) (cut_all (cells576_len _))]
      simp only [go_sem]
      exact e'.put (by omega) _
  · refine ⟨0, by omega, by omega, ?_⟩
    simp only [go_sem, ↓reduceIte, List.take_zero, eA_nil]
    exact ⟨e1, by omega, g1, g2, g3⟩
theorem Pk_col {e : Nat → Nat → Bool} (k a : Nat) : Pk e (k + 1) a k = Pk e k a k := by
  simp only [Pk]
  cases Pk e k a k <;> simp
theorem Pk_row {e : Nat → Nat → Bool} (k b : Nat) : Pk e (k + 1) k b = Pk e k k b := by
  simp only [Pk]
  cases Pk e k k b <;> simp
theorem Pk_bnd {n : Nat} {e : Nat → Nat → Bool} (hb : Bnd n e) {k a b : Nat} (h : Pk e k a b = true) : a < n ∧ b < n := (Pk_tc k a b h).bnd hb
theorem Pk_rch {n : Nat} {e : Nat → Nat → Bool} (hb : Bnd n e) : Pk e n = rch e := by
  funext a b
  rw [Bool.eq_iff_iff, rch_iff]
  exact ⟨Pk_tc n a b, tc_Pk hb⟩
def mix (e : Nat → Nat → Bool) (k a b x y : Nat) : Bool := if x < a ∨ (x = a ∧ y < b) then Pk e (k + 1) x y else Pk e k x y
theorem mix_zero (e : Nat → Nat → Bool) (k : Nat) : mix e k 0 0 = Pk e k := by
  funext x y
  simp only [mix]
  rw [if_neg (by omega)]
theorem mix_row {n : Nat} {e : Nat → Nat → Bool} (hb : Bnd n e) (k a : Nat) : mix e k a n = mix e k (a + 1) 0 := by
  funext x y
  simp only [mix]
  by_cases h : x < a ∨ (x = a ∧ y < n)
  · rw [if_pos h, if_pos (by omega)]
  · rw [if_neg h]
    by_cases h2 : x = a
    · rw [if_pos (by omega), Bool.eq_iff_iff]
      constructor
      · exact Pk_succ
      · intro q
        have := (Pk_bnd hb q).2
        omega
    · rw [if_neg (by omega)]
theorem mix_all {n : Nat} {e : Nat → Nat → Bool} (hb : Bnd n e) (k : Nat) : mix e k n 0 = Pk e (k + 1) := by
  funext x y
  simp only [mix]
  by_cases h : x < n ∨ (x = n ∧ y < 0)
  · rw [if_pos h]
  · rw [if_neg h, Bool.eq_iff_iff]
    constructor
    · exact Pk_succ
    · intro q
      have := (Pk_bnd hb q).1
      omega
theorem mix_k {e : Nat → Nat → Bool} (k a b x : Nat) : mix e k a b x k = Pk e k x k := by
  simp only [mix, Pk_col]
  split <;> rfl
theorem mix_kr {e : Nat → Nat → Bool} (k a b y : Nat) : mix e k a b k y = Pk e k k y := by
  simp only [mix, Pk_row]
  split <;> rfl
theorem mix_no {e : Nat → Nat → Bool} {k a b : Nat} (h : (Pk e k a k && Pk e k k b) = false) : mix e k a b = mix e k a (b + 1) := by
  funext x y
  simp only [mix]
  by_cases q : x = a ∧ y = b
  · obtain ⟨rfl, rfl⟩ := q
    rw [if_neg (by omega), if_pos (by omega), Pk, h, Bool.or_false]
  · by_cases q2 : x < a ∨ (x = a ∧ y < b)
    · rw [if_pos q2, if_pos (by omega)]
    · rw [if_neg q2, if_neg (by omega)]
theorem mix_yes {e : Nat → Nat → Bool} {k a b : Nat} (h : (Pk e k a k && Pk e k k b) = true) : eset (mix e k a b) a b = mix e k a (b + 1) := by
  funext x y
  simp only [mix, eset]
  by_cases q : x = a ∧ y = b
  · obtain ⟨rfl, rfl⟩ := q
    rw [if_pos ⟨rfl, rfl⟩, if_pos (by omega), Pk, h, Bool.or_true]
  · rw [if_neg q]
    by_cases q2 : x < a ∨ (x = a ∧ y < b)
    · rw [if_pos q2, if_pos (by omega)]
    · rw [if_neg q2, if_neg (by omega)]
theorem t126 : tblA 126 = some a126 := by kernel_rfl
theorem fn_Reach {h : H} {n : Nat} {v : V} {rs : List Arw} (hr : Arrs h v rs) (hrn : rs.length ≤ 1000000) (hn : n ≤ 24) (gr : GoodR (n : Int) rs) : WC tblA (.fn 126 [] []) [.agg [.i .i64 (n : Int), v]] h fun u h' => Ext h h' ∧ u = .agg (cells576 (rch (eA rs))) := by
  refine (WC_in t126).2 ?_
  simp only [go_sem, ↓reduceIte, r126_0, H.next_new, cells576_zero]
  have e1 : Ext h ((h.new (.cells [.i .i64 (n : Int), v])).new (.cells (cells576 fun _ _ => false))) := ((Ext.refl h).new _).new _
  have g1 : ((h.new (.cells [.i .i64 (n : Int), v])).new (.cells (cells576 fun _ _ => false))).get h.next = some (.cells [.i .i64 (n : Int), v]) := by
    rw [H.get_new, if_neg (by simp <;> omega), H.get_new, if_pos rfl]
  have g2 : ((h.new (.cells [.i .i64 (n : Int), v])).new (.cells (cells576 fun _ _ => false))).get (h.next + 1) = some (.cells (cells576 fun _ _ => false)) := by
    rw [H.get_new, if_pos (by simp)]
  have nx : ((h.new (.cells [.i .i64 (n : Int), v])).new (.cells (cells576 fun _ _ => false))).next = h.next + 1 + 1 := by simp
  generalize ((h.new (.cells [.i .i64 (n : Int), v])).new (.cells (cells576 fun _ _ => false))) = h1 at *
  have l1 : ldnV h1 2 (.p h.next 0) = some (.agg [.i .i64 (n : Int), v]) := blk_ldn g1 rfl
  simp only [go_sem, ↓reduceIte, r126_1, l1, cells576_zero]
  refine (fn_steps (hr.ext e1) hrn hn gr).mono ?_
  rintro _ h2 ⟨e2, rfl⟩
  have n2 := e2.nx
  replace g1 := e2.get (by omega) g1
  replace g2 := e2.get (by omega) g2
  have hb := eA_bnd gr
  generalize eA rs = e at *
  obtain ⟨h3, s3, e3, g3, n3⟩ := st_newK h2 (cells576 fun _ _ => false) (cells576 e) (by simp [cells576_len]) (cells576_one _)
  rw [cells576_len] at s3
  replace g1 := e3.get (by omega) g1
  replace g2 := e3.get (by omega) g2
  have e4 : Ext h h3 := e1.trans (e2.trans e3)
  simp only [go_sem, ↓reduceIte, r126_2, s3]
  generalize hq : h2.next = q at *
  refine W_while (fun kk t h' => ∃ k, kk = n - k ∧ k ≤ n ∧ t.length = 44 ∧ nth t 1 = .p h.next 0 ∧ nth t 2 = .p (h.next + 1) 0 ∧ nth t 3 = .p q 0 ∧ nth t 4 = .i .i64 (k : Int) ∧ Ext h h' ∧ h.next + 1 < q ∧ q < h'.next ∧ h'.get h.next = some (.cells [.i .i64 (n : Int), v]) ∧ h'.get (h.next + 1) = some (.cells (cells576 fun _ _ => false)) ∧ h'.get q = some (.cells (cells576 (Pk e k)))) ?_ n ?_
  · rintro kk t h' ⟨k, rfl, hk, tl, t1, t2, t3, t4, e', nq, n', g1', g2', g3'⟩
    unfold b126_2
    have ln : ldV h' (.p h.next 0) = some (.i .i64 (n : Int)) := blk_ld g1' rfl
    by_cases hlt : k < n
    · have hltI : (k : Int) < (n : Int) := by omega
      have hk24 : k < 24 := by omega
      simp only [go_sem, ↓reduceIte, r126_3, r126_5, tl, t1, t2, t3, t4, ln, hltI]
      refine W_while (fun kk t h' => ∃ a, kk = n - a ∧ a ≤ n ∧ t.length = 44 ∧ nth t 1 = .p h.next 0 ∧ nth t 2 = .p (h.next + 1) 0 ∧ nth t 3 = .p q 0 ∧ nth t 4 = .i .i64 (k : Int) ∧ nth t 5 = .i .i64 (a : Int) ∧ Ext h h' ∧ q < h'.next ∧ h'.get h.next = some (.cells [.i .i64 (n : Int), v]) ∧ h'.get (h.next + 1) = some (.cells (cells576 fun _ _ => false)) ∧ h'.get q = some (.cells (cells576 (mix e k a 0)))) ?_ n ?_
      · rintro kk t h' ⟨a, rfl, ha, tl, t1, t2, t3, t4, t5, e', n', g1', g2', g3'⟩
        unfold b126_1
        have ln : ldV h' (.p h.next 0) = some (.i .i64 (n : Int)) := blk_ld g1' rfl
        by_cases hlta : a < n
        · have hltaI : (a : Int) < (n : Int) := by omega
          have ha24 : a < 24 := by omega
          simp only [go_sem, ↓reduceIte, r126_6, r126_8, tl, t1, t2, t3, t4, t5, ln, hltaI]
          refine W_while (fun kk t h' => ∃ b, kk = n - b ∧ b ≤ n ∧ t.length = 44 ∧ nth t 1 = .p h.next 0 ∧ nth t 2 = .p (h.next + 1) 0 ∧ nth t 3 = .p q 0 ∧ nth t 4 = .i .i64 (k : Int) ∧ nth t 5 = .i .i64 (a : Int) ∧ nth t 6 = .i .i64 (b : Int) ∧ Ext h h' ∧ q < h'.next ∧ h'.get h.next = some (.cells [.i .i64 (n : Int), v]) ∧ h'.get (h.next + 1) = some (.cells (cells576 fun _ _ => false)) ∧ h'.get q = some (.cells (cells576 (mix e k a b)))) ?_ n ?_
          · rintro kk t h' ⟨b, rfl, hb', tl, t1, t2, t3, t4, t5, t6, e', n', g1', g2', g3'⟩
            unfold b126_0
            have ln : ldV h' (.p h.next 0) = some (.i .i64 (n : Int)) := blk_ld g1' rfl
            by_cases hltb : b < n
            · have hltbI : (b : Int) < (n : Int) := by omega
              have hb24 : b < 24 := by omega
              have la := ld576 g3' ha24 hk24
              have lb := ld576 g3' hk24 hb24
              rw [mix_k] at la
              rw [mix_kr] at lb
              have st := st576 g3' ha24 hb24
              cases c1 : Pk e k a k
              · have hm := mix_no (e := e) (k := k) (a := a) (b := b) (by rw [c1]; rfl)
                simp only [go_sem, ↓reduceIte, r126_9, r126_10, r126_11, tl, t1, t2, t3, t4, t5, t6, ln, hltbI, ix24r ha24, ixA_ok (esz := 1) hk24, la, c1, wrap_succ (show b < 1000000000 by omega)]
                exact ⟨n - (b + 1), by omega, b + 1, rfl, hltb, rfl, e', n', g1', g2', by rw [← hm]; exact g3'⟩
              · cases c2 : Pk e k k b
                · have hm := mix_no (e := e) (k := k) (a := a) (b := b) (by rw [c2, Bool.and_false])
                  simp only [go_sem, ↓reduceIte, r126_9, r126_10, r126_11, tl, t1, t2, t3, t4, t5, t6, ln, hltbI, ix24r ha24, ix24r hk24, ixA_ok (esz := 1) hk24, ixA_ok (esz := 1) hb24, la, lb, c1, c2, wrap_succ (show b < 1000000000 by omega)]
                  exact ⟨n - (b + 1), by omega, b + 1, rfl, hltb, rfl, e', n', g1', g2', by rw [← hm]; exact g3'⟩
                · have hm := mix_yes (e := e) (k := k) (a := a) (b := b) (by rw [c1, c2]; rfl)
                  simp only [go_sem, ↓reduceIte, r126_9, r126_10, r126_11, r126_12, tl, t1, t2, t3, t4, t5, t6, ln, hltbI, ix24r ha24, ix24r hk24, ixA_ok (esz := 1) hk24, ixA_ok (esz := 1) hb24, la, lb, c1, c2, st, wrap_succ (show b < 1000000000 by omega)]
                  refine ⟨n - (b + 1), by omega, b + 1, rfl, hltb, rfl, e'.put (by omega) _, by simpa using n', ?_, ?_, ?_⟩
                  · rw [H.get_put, if_neg (by omega)]; exact g1'
                  · rw [H.get_put, if_neg (by omega)]; exact g2'
                  · rw [H.get_put, if_pos rfl, hm]
            · have hltbI : ¬ (b : Int) < (n : Int) := by omega
              obtain rfl : b = n := by omega
              rw [mix_row hb] at g3'
              simp only [go_sem, ↓reduceIte, r126_9, r126_7, tl, t1, t2, t3, t4, t5, t6, ln, hltbI, wrap_succ (show a < 1000000000 by omega)]
              exact ⟨b - (a + 1), by omega, a + 1, rfl, hlta, rfl, e', n', g1', g2', g3'⟩
          · refine ⟨0, by omega, by omega, ?_⟩
            simp only [go_sem, ↓reduceIte, tl, t1, t2, t3, t4, t5]
            exact ⟨e', n', g1', g2', g3'⟩
        · have hltaI : ¬ (a : Int) < (n : Int) := by omega
          obtain rfl : a = n := by omega
          rw [mix_all hb] at g3'
          simp only [go_sem, ↓reduceIte, r126_6, r126_4, tl, t1, t2, t3, t4, t5, ln, hltaI, wrap_succ (show k < 1000000000 by omega)]
          exact ⟨a - (k + 1), by omega, k + 1, rfl, hlt, rfl, e', nq, n', g1', g2', g3'⟩
      · refine ⟨0, by omega, by omega, ?_⟩
        rw [mix_zero]
        simp only [go_sem, ↓reduceIte, tl, t1, t2, t3, t4]
        exact ⟨e', n', g1', g2', g3'⟩
    · have hltI : ¬ (k : Int) < (n : Int) := by omega
      obtain rfl : k = n := by omega
      rw [Pk_rch hb] at g3'
      have l5 : ldnV h' 576 (.p q 0) = some (.agg (cells576 (rch e))) := blk_ldn g3' (cells576_len _)
      have s5 := st_whole g2' (cells576_len (rch e)) (cells576_len _) (cells576_one _)
      simp only [go_sem, ↓reduceIte, r126_3, r126_13, tl, t1, t2, t3, t4, ln, hltI, l5, s5]
      rw [rescell (b := h.next + 1) (cs := cells576 (rch e)) (by simp only [go_sem, ↓reduceIte, tl, t2]) (by rw [H.get_put, if_pos rfl]) (cut_all (cells576_len _))]
      simp only [go_sem]
      exact e'.put (by omega) _
  · refine ⟨0, by omega, by omega, ?_⟩
    simp only [go_sem, ↓reduceIte, Pk]
    exact ⟨e4, by omega, by omega, g1, g2, g3⟩
theorem mate_at {R : Nat → Nat → Bool} {n a b : Nat} (hb : b < n) : mate R n a b = (decide (a = b) || (R a b && R b a)) := by simp [mate, hb]
theorem t127 : tblA 127 = some a127 := by kernel_rfl
theorem fn_mates {h : H} {n a : Nat} {R : Nat → Nat → Bool} (hn : n ≤ 24) (ha : a < 24) : WC tblA (.fn 127 [] []) [.agg (cells576 R), .i .i64 (n : Int), .i .i64 (a : Int)] h fun u h' => Ext h h' ∧ Own h 1 h' u (setL n (mate R n a)).length (ints (setL n (mate R n a))) := by
  refine (WC_in t127).2 ?_
  have e0 : Ext h (h.new (.cells (cells576 R))) := (Ext.refl h).new _
  have g0 : (h.new (.cells (cells576 R))).get h.next = some (.cells (cells576 R)) := by rw [H.get_new, if_pos rfl]
  have n0 : (h.new (.cells (cells576 R))).next = h.next + 1 := by simp
  simp only [go_sem, ↓reduceIte, r127_0, r127_1, r127_2]
  generalize h.new (.cells (cells576 R)) = h0 at *
  generalize hs : mate R n a = s
  refine W_while (fun k t h' => ∃ (i : Nat) (w : V), k = n - i ∧ i ≤ n ∧ t.length = 36 ∧ nth t 1 = .i .i64 (n : Int) ∧ nth t 2 = .i .i64 (a : Int) ∧ nth t 3 = .p h.next 0 ∧ nth t 7 = w ∧ nth t 8 = .i .i64 (i : Int) ∧ Ext h0 h' ∧ Own h0 1 h' w (setL i s).length (ints (setL i s))) ?_ n ?_
  · rintro k t h' ⟨i, w, rfl, hi, tl, t1, t2, t3, t7, t8, e1, o1⟩
    unfold b127_0
    have hle := setL_len i s
    by_cases hlt : i < n
    · have hltI : (i : Int) < (n : Int) := by omega
      have hi24 : i < 24 := by omega
      have hsu := setL_succ s i
      have g1 := e1.get (by omega) g0
      have la := ld576 g1 ha hi24
      have lb := ld576 g1 hi24 ha
      have hm : s i = (decide (a = i) || (R a i && R i a)) := by rw [← hs, mate_at hlt]
      have yes : s i = true → ∃ w' h5, appendV 1 8 (h'.new (.cells [.i .i64 (i : Int)])) w (.sl h'.next 0 1 1 none) = .ok w' h5 ∧ Ext h0 h5 ∧ Own h0 1 h5 w' (setL (i + 1) s).length (ints (setL (i + 1) s)) := by
        intro hb
        rw [if_pos hb] at hsu
        obtain ⟨w', h5, r1, r2, r3⟩ := app_int (i : Int) o1 e1 (by omega)
        refine ⟨w', h5, r1, r2, ?_⟩
        rw [hsu, List.length_append]
        exact r3
      have no : s i = false → Own h0 1 h' w (setL (i + 1) s).length (ints (setL (i + 1) s)) := by
        intro hb
        rw [if_neg (by rw [hb]; simp), List.append_nil] at hsu
        rw [hsu]; exact o1
      by_cases c1 : a = i
      · obtain ⟨w', h5, r1, r2, r3⟩ := yes (by rw [hm]; simp [c1])
        simp only [go_sem, ↓reduceIte, r127_3, r127_4, r127_5, r127_6, tl, t1, t2, t3, t7, t8, hltI, nat_int_eq, c1, r1, wrap_succ (show i < 1000000000 by omega)]
        exact ⟨n - (i + 1), by omega, i + 1, w', rfl, hlt, rfl, rfl, r2, r3⟩
      · cases c2 : R a i
        · have hno := no (by rw [hm]; simp [c1, c2])
          simp only [go_sem, ↓reduceIte, r127_3, r127_4, r127_5, tl, t1, t2, t3, t7, t8, hltI, nat_int_eq, c1, ix24r ha, ixA_ok (esz := 1) hi24, la, c2, wrap_succ (show i < 1000000000 by omega)]
          exact ⟨n - (i + 1), by omega, i + 1, w, rfl, hlt, rfl, rfl, e1, hno⟩
        · cases c3 : R i a
          · have hno := no (by rw [hm]; simp [c1, c3])
            simp only [go_sem, ↓reduceIte, r127_3, r127_4, r127_5, tl, t1, t2, t3, t7, t8, hltI, nat_int_eq, c1, ix24r ha, ix24r hi24, ixA_ok (esz := 1) hi24, ixA_ok (esz := 1) ha, la, lb, c2, c3, wrap_succ (show i < 1000000000 by omega)]
            exact ⟨n - (i + 1), by omega, i + 1, w, rfl, hlt, rfl, rfl, e1, hno⟩
          · obtain ⟨w', h5, r1, r2, r3⟩ := yes (by rw [hm]; simp [c2, c3])
            simp only [go_sem, ↓reduceIte, r127_3, r127_4, r127_5, r127_6, tl, t1, t2, t3, t7, t8, hltI, nat_int_eq, c1, ix24r ha, ix24r hi24, ixA_ok (esz := 1) hi24, ixA_ok (esz := 1) ha, la, lb, c2, c3, r1, wrap_succ (show i < 1000000000 by omega)]
            exact ⟨n - (i + 1), by omega, i + 1, w', rfl, hlt, rfl, rfl, r2, r3⟩
    · have hltI : ¬ (i : Int) < (n : Int) := by omega
      obtain rfl : i = n := by omega
      simp only [go_sem, ↓reduceIte, r127_3, r127_7, tl, t1, t2, t3, t7, t8, hltI]
      exact ⟨e0.trans e1, o1.mono e0.nx⟩
  · refine ⟨0, .sn, by omega, by omega, ?_⟩
    simp only [go_sem, ↓reduceIte]
    exact ⟨.refl _, .nil⟩
end Go.Air
set_option maxRecDepth 100000
namespace Go.Air
open Go.Air.Try
def frK (R : Nat → Nat → Bool) (d : Nat → Bool) (a k : Nat) : Bool := !d a && (List.range k).all fun b => !(R b a && !R a b && !d b)
theorem frK_zero (R : Nat → Nat → Bool) (d : Nat → Bool) (a : Nat) : frK R d a 0 = !d a := by simp [frK]
theorem frK_succ (R : Nat → Nat → Bool) (d : Nat → Bool) (a k : Nat) : frK R d a (k + 1) = (frK R d a k && !(R k a && !R a k && !d k)) := by
  simp only [frK, List.range_succ, List.all_append, List.all_cons, List.all_nil, Bool.and_true, Bool.and_assoc]
theorem frK_all (R : Nat → Nat → Bool) (d : Nat → Bool) (n a : Nat) : frK R d a n = freeG R n d a := rfl
def NxtF (R : Nat → Nat → Bool) (n : Nat) (d : Nat → Bool) (i : Nat) (z : Int) : Prop :=
  (z = -1 ∧ ∀ a, i ≤ a → a < n → freeG R n d a = false) ∨ ∃ a : Nat, z = (a : Int) ∧ i ≤ a ∧ a < n ∧ freeG R n d a = true ∧ ∀ b, i ≤ b → b < a → freeG R n d b = false
theorem NxtF.start (R : Nat → Nat → Bool) (n : Nat) (d : Nat → Bool) : NxtF R n d n (-1) := .inl ⟨rfl, fun a h1 h2 => by omega⟩
theorem NxtF.no {R : Nat → Nat → Bool} {n j : Nat} {d : Nat → Bool} {z : Int} (h : NxtF R n d (j + 1) z) (hf : freeG R n d j = false) : NxtF R n d j z := by
  rcases h with ⟨rfl, h⟩ | ⟨a, rfl, h1, h2, h3, h4⟩
  · refine .inl ⟨rfl, fun a q1 q2 => ?_⟩
    by_cases q : a = j
    · subst q; exact hf
    · exact h a (by omega) q2
  · refine .inr ⟨a, rfl, by omega, h2, h3, fun b q1 q2 => ?_⟩
    by_cases q : b = j
    · subst q; exact hf
    · exact h4 b (by omega) q2
theorem NxtF.yes {R : Nat → Nat → Bool} {n j : Nat} {d : Nat → Bool} (hj : j < n) (hf : freeG R n d j = true) : NxtF R n d j (j : Int) := .inr ⟨j, rfl, Nat.le_refl _, hj, hf, fun b q1 q2 => by omega⟩
theorem t114 : tblA 114 = some a114 := by kernel_rfl
theorem fn_refComponents {h : H} {N : Int} {v : V} {rs : List Arw} (hr : Arrs h v rs) (hrn : rs.length ≤ 1000000) : WC tblA (.fn 114 [] []) [.agg [.i .i64 N, v]] h fun u h' => Ext h h' ∧ Rows h h' u (compsR N rs) := by
  refine (WC_in t114).2 ?_
  obtain ⟨e0, g0⟩ := rel_blk h N v
  simp only [go_sem, ↓reduceIte, r114_0]
  have hr0 := hr.ext e0
  have n0 : (h.new (.cells [.i .i64 N, v])).next = h.next + 1 := by simp
  generalize hh : h.new (.cells [.i .i64 N, v]) = h0 at *
  have l0 : ldnV h0 2 (.p h.next 0) = some (.agg [.i .i64 N, v]) := blk_ldn g0 rfl
  simp only [go_sem, ↓reduceIte, r114_1, l0]
  refine (fn_refCheck hr0 hrn).mono ?_
  rintro _ h1 ⟨e1, rfl⟩
  have n1 := e1.nx
  by_cases hc : checkS N rs = 0
  case neg =>
    simp only [go_sem, ↓reduceIte, r114_2, hc]
    refine ⟨e0.trans e1, ?_⟩
    rw [compsR, if_neg hc]
    exact .nil
  obtain ⟨n, rfl, hn, gr⟩ := check_ok hc
  rw [show compsR (n : Int) rs = comps (rch (eA rs)) n n noneD by rw [compsR, if_pos hc]; simp]
  have g1 := e1.get (by omega) g0
  have l1 : ldnV h1 2 (.p h.next 0) = some (.agg [.i .i64 (n : Int), v]) := blk_ldn g1 rfl
  simp only [go_sem, ↓reduceIte, r114_3, hc, l1, cells576_zero]
  refine (fn_Reach (hr0.ext e1) hrn hn gr).mono ?_
  rintro _ h2 ⟨e2, rfl⟩
  have n2 := e2.nx
  generalize rch (eA rs) = R at *
  obtain ⟨h3, s3, e3, g3, n3⟩ := st_newK h2 (cells576 fun _ _ => false) (cells576 R) (by simp [cells576_len]) (cells576_one _)
  rw [cells576_len] at s3
  have g2 := e3.get (by omega) (e2.get (by omega) g1)
  have e4 : Ext h (h3.new (.cells (List.replicate 24 (.b false)))) := (e0.trans (e1.trans (e2.trans e3))).new _
  have g4 : (h3.new (.cells (List.replicate 24 (.b false)))).get h.next = some (.cells [.i .i64 (n : Int), v]) := by rw [H.get_new, if_neg (by omega)]; exact g2
  have g5 : (h3.new (.cells (List.replicate 24 (.b false)))).get h2.next = some (.cells (cells576 R)) := by rw [H.get_new, if_neg (by omega)]; exact g3
  have g6 : (h3.new (.cells (List.replicate 24 (.b false)))).get (h2.next + 1) = some (.cells (cells24 noneD)) := by rw [H.get_new, if_pos n3.symm, cells24_zero]
  have n4 : (h3.new (.cells (List.replicate 24 (.b false)))).next = h2.next + 1 + 1 := by simp [n3]
  simp only [go_sem, ↓reduceIte, r114_4, r114_5, s3, n3]
  generalize h3.new (.cells (List.replicate 24 (.b false))) = hB at *
  clear s3
  have hq : h.next < h2.next := by omega
  generalize h2.next = q at *
  refine W_while (fun kk t h' => ∃ (xss : List (List Int)) (w : V) (d : Nat → Bool), kk = n - xss.length ∧ xss.length ≤ n ∧ t.length = 84 ∧ nth t 1 = .p h.next 0 ∧ nth t 3 = .p q 0 ∧ nth t 4 = .p (q + 1) 0 ∧ nth t 5 = w ∧ ExtX (· = q + 1) hB h' ∧ h'.get (q + 1) = some (.cells (cells24 d)) ∧ Rows hB h' w xss ∧
      undone n d ≤ n - xss.length ∧ comps R n n noneD = xss ++ comps R n (n - xss.length) d) ?_ n ?_
  · rintro kk t h' ⟨xss, w, d, rfl, hx, tl, t1, t3, t4, t5, x', gd, r', hu, hcs⟩
    unfold b114_3
    have gN := x'.get (by omega) (by omega) g4
    have gR := x'.get (by omega) (by omega) g5
    have lN : ldV h' (.p h.next 0) = some (.i .i64 (n : Int)) := blk_ld gN rfl
    have nx' := x'.nx
    have fin : Ext h h' := x'.ext e4 (fun b hb => by omega)
    by_cases hlt : xss.length < n
    · have hltI : (xss.length : Int) < (n : Int) := by omega
      have hwn : IntKind.i64.wrap ((n : Int) - 1) = (n : Int) - 1 := wrap_in (by omega) (by omega)
      simp only [go_sem, ↓reduceIte, r114_6, r114_7, r114_8, tl, t1, t3, t4, t5, r'.ll.len, lN, hltI, hwn]
      refine W_while (fun kk t hh => ∃ (i : Nat) (z : Int), kk = i ∧ i ≤ n ∧ t.length = 84 ∧ nth t 1 = .p h.next 0 ∧ nth t 3 = .p q 0 ∧ nth t 4 = .p (q + 1) 0 ∧ nth t 5 = w ∧ nth t 6 = .i .i64 z ∧ nth t 7 = .i .i64 ((i : Int) - 1) ∧ h' = hh ∧ NxtF R n d i z) ?_ n ?_
      · rintro kk t _ ⟨i, z, rfl, hi, tl, t1, t3, t4, t5, t6, t7, rfl, hz⟩
        unfold b114_1
        cases kk with
        | succ j =>
          replace t7 : nth t 7 = .i .i64 (j : Int) := by rw [t7]; congr 1; omega
          have hj0 : (0 : Int) ≤ (j : Int) := by omega
          have hj24 : j < 24 := by omega
          have ldd := ld24 gd hj24
          simp only [go_sem, ↓reduceIte, r114_9, r114_11, r114_12, tl, t1, t3, t4, t5, t6, t7, hj0, ix24 hj24, ldd]
          refine W_while (fun kk t hh => ∃ b, kk = n - b ∧ b ≤ n ∧ t.length = 84 ∧ nth t 1 = .p h.next 0 ∧ nth t 3 = .p q 0 ∧ nth t 4 = .p (q + 1) 0 ∧ nth t 5 = w ∧ nth t 6 = .i .i64 z ∧ nth t 7 = .i .i64 (j : Int) ∧ nth t 8 = .b (frK R d j b) ∧ nth t 9 = .i .i64 (b : Int) ∧ h' = hh) ?_ n ?_
          · rintro kk t _ ⟨b, rfl, hb, tl, t1, t3, t4, t5, t6, t7, t8, t9, rfl⟩
            unfold b114_0
            by_cases hltb : b < n
            · have hltbI : (b : Int) < (n : Int) := by omega
              have hb24 : b < 24 := by omega
              have la := ld576 gR hb24 hj24
              have lb := ld576 gR hj24 hb24
              have lc := ld24 gd hb24
              have hs := frK_succ R d j b
              cases c1 : R b j
              · rw [c1] at hs
                simp only [Bool.false_and, Bool.not_false, Bool.and_true] at hs
                simp only [go_sem, ↓reduceIte, r114_13, r114_14, r114_15, tl, t1, t3, t4, t5, t6, t7, t8, t9, lN, hltbI, ix24r hb24, ixA_ok (esz := 1) hj24, la, c1, wrap_succ (show b < 1000000000 by omega)]
                exact ⟨n - (b + 1), by omega, b + 1, rfl, hltb, by rw [hs], rfl⟩
              · cases c2 : R j b
                · cases c3 : d b
                  · rw [c1, c2, c3] at hs
                    simp only [Bool.not_false, Bool.and_true, Bool.not_true, Bool.and_false] at hs
                    simp only [go_sem, ↓reduceIte, r114_13, r114_14, r114_15, r114_16, tl, t1, t3, t4, t5, t6, t7, t8, t9, lN, hltbI, ix24 hb24, ix24r hb24, ix24r hj24, ixA_ok (esz := 1) hj24, ixA_ok (esz := 1) hb24, la, lb, lc, c1, c2, c3, wrap_succ (show b < 1000000000 by omega)]
                    exact ⟨n - (b + 1), by omega, b + 1, rfl, hltb, by rw [hs], rfl⟩
                  · rw [c1, c2, c3] at hs
                    simp only [Bool.not_false, Bool.and_true, Bool.not_true, Bool.and_false] at hs
                    simp only [go_sem, ↓reduceIte, r114_13, r114_14, r114_15, tl, t1, t3, t4, t5, t6, t7, t8, t9, lN, hltbI, ix24 hb24, ix24r hb24, ix24r hj24, ixA_ok (esz := 1) hj24, ixA_ok (esz := 1) hb24, la, lb, lc, c1, c2, c3, wrap_succ (show b < 1000000000 by omega)]
                    exact ⟨n - (b + 1), by omega, b + 1, rfl, hltb, by rw [hs], rfl⟩
                · rw [c1, c2] at hs
                  simp only [Bool.not_false, Bool.and_true, Bool.not_true, Bool.and_false, Bool.false_and] at hs
                  simp only [go_sem, ↓reduceIte, r114_13, r114_14, r114_15, tl, t1, t3, t4, t5, t6, t7, t8, t9, lN, hltbI, ix24 hb24, ix24r hb24, ix24r hj24, ixA_ok (esz := 1) hj24, ixA_ok (esz := 1) hb24, la, lb, c1, c2, wrap_succ (show b < 1000000000 by omega)]
                  exact ⟨n - (b + 1), by omega, b + 1, rfl, hltb, by rw [hs], rfl⟩
            · have hltbI : ¬ (b : Int) < (n : Int) := by omega
              obtain rfl : b = n := by omega
              rw [frK_all] at t8
              have hwj : IntKind.i64.wrap ((j : Int) - 1) = (j : Int) - 1 := wrap_in (by omega) (by omega)
              cases hf : freeG R b d j
              · rw [hf] at t8
                simp only [go_sem, ↓reduceIte, r114_13, r114_17, r114_10, tl, t1, t3, t4, t5, t6, t7, t8, t9, lN, hltbI, hwj]
                exact ⟨j, by omega, j, z, rfl, by omega, rfl, rfl, hz.no hf⟩
              · rw [hf] at t8
                simp only [go_sem, ↓reduceIte, r114_13, r114_17, r114_18, r114_10, tl, t1, t3, t4, t5, t6, t7, t8, t9, lN, hltbI, hwj]
                exact ⟨j, by omega, j, (j : Int), rfl, by omega, rfl, rfl, .yes (by omega) hf⟩
          · refine ⟨0, by omega, by omega, ?_⟩
            rw [frK_zero]
            simp only [go_sem, ↓reduceIte, tl, t1, t3, t4, t5, t6, t7]
        | zero =>
          replace t7 : nth t 7 = .i .i64 (-1) := by rw [t7]; congr 1
          have hm1 : ¬ (0 : Int) ≤ -1 := by omega
          rcases hz with ⟨rfl, hnone⟩ | ⟨a, rfl, _, ha, hf, hbe⟩
          · have hco : comps R n (n - xss.length) d = [] := by
              obtain ⟨m, hm⟩ : ∃ m, n - xss.length = m + 1 := ⟨n - xss.length - 1, by omega⟩
              rw [hm, comps, find_range_none (fun b hb => hnone b (Nat.zero_le _) hb)]
            rw [hco, List.append_nil] at hcs
            simp only [go_sem, ↓reduceIte, r114_9, r114_19, r114_20, tl, t1, t3, t4, t5, t6, t7, hm1]
            refine ⟨fin, ?_⟩
            rw [hcs]
            exact r'.mono (by omega)
          · obtain ⟨m, hm⟩ : ∃ m, n - xss.length = m + 1 := ⟨n - xss.length - 1, by omega⟩
            have hco : comps R n (m + 1) d = setL n (mate R n a) :: comps R n m (addS d (mate R n a)) := by
              rw [comps, find_range ha hf (fun b hb => hbe b (Nat.zero_le _) hb)]
            have hneg : ¬ (a : Int) < 0 := by omega
            have lR : ldnV h' 576 (.p q 0) = some (.agg (cells576 R)) := blk_ldn gR (cells576_len _)
            simp only [go_sem, ↓reduceIte, r114_9, r114_19, r114_21, tl, t1, t3, t4, t5, t6, t7, hm1, hneg, lN, lR]
            refine (fn_mates hn (by omega)).mono ?_
            rintro u h5 ⟨e5, o5⟩
            have x5 := x'.trans (.of e5)
            have n5 := e5.nx
            have gd5 := e5.get (by omega) gd
            have r5 := r'.ext e5
            have hl24 : (setL n (mate R n a)).length ≤ 24 := Nat.le_trans (setL_len _ _) hn
            have hmk : markS d (setL n (mate R n a)) = addS d (mate R n a) := markS_all fun x hx => mate_lt hx
            have hxs : ∀ y ∈ setL n (mate R n a), ∃ j : Nat, y = (j : Int) ∧ j < 24 := by
              intro y hy
              obtain ⟨j, rfl, hj, _⟩ := setL_mem.1 hy
              exact ⟨j, rfl, by omega⟩
            have hu' : undone n (addS d (mate R n a)) ≤ m := by
              have := undone_lt ha hf
              omega
            rw [hm, hco] at hcs
            have hne : 0 < (setL n (mate R n a)).length := by
              have : (a : Int) ∈ setL n (mate R n a) := setL_mem.2 ⟨a, rfl, ha, mate_self ha⟩
              exact List.length_pos_of_mem this
            generalize setL n (mate R n a) = xs at *
            simp only [go_sem, ↓reduceIte, r114_22, tl]
            refine W_while (fun k' t h' => ∃ j, k' = xs.length - j ∧ j ≤ xs.length ∧ t.length = 84 ∧ nth t 1 = .p h.next 0 ∧ nth t 3 = .p q 0 ∧ nth t 4 = .p (q + 1) 0 ∧ nth t 5 = w ∧ nth t 10 = u ∧ nth t 11 = .i .i64 (j : Int) ∧ ExtX (· = q + 1) hB h' ∧ ExtX (· = q + 1) h5 h' ∧ h'.get (q + 1) = some (.cells (cells24 (markS d (xs.take j))))) ?_ xs.length ?_
            · rintro k' t h6 ⟨j, rfl, hj, tl, t1, t3, t4, t5, t10, t11, x6, y6, gd6⟩
              unfold b114_2
              have o6 := o5.keepX y6 (fun b hb => by omega)
              have s6 := o6.ints
              by_cases hlt2 : j < xs.length
              · have hltI2 : (j : Int) < (xs.length : Int) := by omega
                obtain ⟨y, hy⟩ : ∃ y, xs[j]? = some y := ⟨_, List.getElem?_eq_getElem hlt2⟩
                obtain ⟨b, rfl, hb24⟩ := hxs y (List.mem_of_getElem? hy)
                simp only [go_sem, ↓reduceIte, r114_23, r114_24, r114_25, tl, t1, t3, t4, t5, t10, t11, s6.len, hltI2, s6.ix hlt2, s6.ld hy, ix24 hb24, st24 gd6 hb24, wrap_succ (show j < 1000000000 by omega)]
                refine ⟨xs.length - (j + 1), by omega, j + 1, rfl, hlt2, rfl, x6.put (.inr rfl) _, y6.put (.inr rfl) _, ?_⟩
                rw [H.get_put, if_pos rfl, markS_step hy]
              · have hltI2 : ¬ (j : Int) < (xs.length : Int) := by omega
                rw [List.take_of_length_le (by omega), hmk] at gd6
                have r6 : Rows hB h6 w xss := r5.keep y6.nx (fun b h1 h2 => y6.same b h2 (by omega))
                have hone := o6.one
                have hp := o6.pos hne
                have hwl := r5.wlt
                have nx6 := x6.nx
                have rT : Rows (trunc hB.next h6) h6 w xss := r6
                have hp2 := o5.pos hne
                have hwl' := r'.wlt
                obtain ⟨w', h7, q1, q2, q3, q4⟩ := rT.app (trunc_ext (by omega)) s6 hone.2 (show hB.next ≤ blkV u by omega) hp.2.2 (by
                  rcases hwl' with z | z
                  · exact .inl z
                  · exact .inr (by omega)) (by omega)
                have x7 := x6.tr q2
                have gd7 := (q2.same (q + 1) (show q + 1 < hB.next by omega)).trans gd6
                simp only [go_sem, ↓reduceIte, r114_23, r114_26, tl, t1, t3, t4, t5, t10, t11, s6.len, hltI2, fill1_of hone.1, q1]
                refine ⟨n - (xss.length + 1), by omega, xss ++ [xs], w', addS d (mate R n a), by simp, by simp; omega, rfl, x7, gd7, q3, by simp; omega, ?_⟩
                rw [hcs]
                have : n - (xss ++ [xs]).length = m := by simp; omega
                rw [this]; simp
            · refine ⟨0, by omega, by omega, ?_⟩
              simp only [go_sem, ↓reduceIte, tl, t1, t3, t4, t5, List.take_zero, markS_nil]
              exact ⟨x5, .refl _ _, gd5⟩
      · refine ⟨n, -1, by omega, by omega, ?_⟩
        simp only [go_sem, ↓reduceIte, tl, t1, t3, t4, t5]
        exact NxtF.start R n d
    · have hltI : ¬ (xss.length : Int) < (n : Int) := by omega
      have h0 : n - xss.length = 0 := by omega
      rw [h0, comps, List.append_nil] at hcs
      simp only [go_sem, ↓reduceIte, r114_6, r114_27, tl, t1, t3, t4, t5, r'.ll.len, lN, hltI]
      refine ⟨fin, ?_⟩
      rw [hcs]
      exact r'.mono (by omega)
  · refine ⟨[], .sn, noneD, by simp, by simp, ?_⟩
    simp only [go_sem, ↓reduceIte, List.length_nil, List.nil_append, undone_none, Nat.sub_zero, Nat.le_refl]
    exact ⟨.refl _ _, g6, .nil⟩
end Go.Air
set_option maxRecDepth 100000
namespace Go.Air
open Go.Air.Try
def Refs (hA h1 h : H) (w : V) (xss : List (List Int)) : Prop := ∃ cs, Own h1 1 h w xss.length cs ∧ ∀ (j : Nat) (xs : List Int), xss[j]? = some xs → ∃ c, cs[j]? = some c ∧ Ints h1 c xs ∧ hA.next ≤ blkV c
def LLa (hA h : H) (v : V) (xss : List (List Int)) : Prop := ∃ cs, Sl 1 h v xss.length cs ∧ (v = .sn ∨ hA.next ≤ blkV v) ∧ ∀ (j : Nat) (xs : List Int), xss[j]? = some xs → ∃ c, cs[j]? = some c ∧ Ints h c xs ∧ hA.next ≤ blkV c
theorem LLa.ll {hA h : H} {v : V} {xss : List (List Int)} (r : LLa hA h v xss) : LL h v xss := by
  obtain ⟨cs, s, _, hc⟩ := r
  exact ⟨cs, s, fun j xs hj => let ⟨c, q1, q2, _⟩ := hc j xs hj; ⟨c, q1, q2⟩⟩
theorem LLa.keepX {X : Nat → Prop} {hA h h' : H} {v : V} {xss : List (List Int)} (r : LLa hA h v xss) (e : ExtX X h h') (hX : ∀ b, X b → b < hA.next) : LLa hA h' v xss := by
  obtain ⟨cs, s, q, hc⟩ := r
  have far : ∀ {b : Nat}, hA.next ≤ b → ¬ X b := fun hb x => by have := hX _ x; omega
  refine ⟨cs, s.keepX e (q.imp id fun z => .inr (far z)), q, fun j xs hj => ?_⟩
  obtain ⟨c, q1, q2, q3⟩ := hc j xs hj
  exact ⟨c, q1, Sl.keepX q2 e (.inr (.inr (far q3))), q3⟩
theorem LLa.ext {hA h h' : H} {v : V} {xss : List (List Int)} (r : LLa hA h v xss) (e : Ext h h') : LLa hA h' v xss := r.keepX (X := fun _ => False) (.of e) (fun _ z => z.elim)
theorem LLa.mono {hA hB h : H} {v : V} {xss : List (List Int)} (r : LLa hA h v xss) (e : hB.next ≤ hA.next) : LLa hB h v xss := by
  obtain ⟨cs, s, q, hc⟩ := r
  exact ⟨cs, s, q.imp id fun z => Nat.le_trans e z, fun j xs hj => let ⟨c, q1, q2, q3⟩ := hc j xs hj; ⟨c, q1, q2, Nat.le_trans e q3⟩⟩
theorem Refs.nil {hA h1 h : H} : Refs hA h1 h .sn [] := ⟨[], .nil, fun j xs hj => by simp at hj⟩
theorem Refs.ll {hA h1 h : H} {w : V} {xss : List (List Int)} (r : Refs hA h1 h w xss) (e : Ext h1 h) (hn : hA.next ≤ h1.next) : LLa hA h w xss := by
  obtain ⟨cs, o, hc⟩ := r
  refine ⟨cs, by simpa using o.sl, ?_, fun j xs hj => ?_⟩
  · rcases o.2 with ⟨_, z⟩ | ⟨b, g, z, _, q, _⟩
    · exact .inl z
    · exact .inr (by subst z; exact Nat.le_trans hn q)
  · obtain ⟨c, q1, q2, q3⟩ := hc j xs hj
    exact ⟨c, q1, q2.ext e, q3⟩
theorem Refs.app {hA h1 h : H} {w u : V} {xss : List (List Int)} {xs : List Int} (r : Refs hA h1 h w xss) (e : Ext h1 h) (iu : Ints h1 u xs) (ub : hA.next ≤ blkV u) (hn : xss.length ≤ 1000000) :
    ∃ w' h', appendV 1 24 (h.new (.cells [u])) w (.sl h.next 0 1 1 none) = .ok w' h' ∧ Ext h1 h' ∧ Refs hA h1 h' w' (xss ++ [xs]) := by
  obtain ⟨cs, o, hc⟩ := r
  obtain ⟨w', h', r1, r2, r3, r4, r5, r6⟩ := app_ref (u := u) o e iu.one.2 hn
  have hl : cs.length = xss.length := by simpa using o.len
  refine ⟨w', h', r1, r2, cs ++ [u], by simpa using r3, fun j ys hj => ?_⟩
  by_cases hjl : j < xss.length
  · rw [List.getElem?_append_left hjl] at hj
    obtain ⟨c, q1, q2⟩ := hc j ys hj
    exact ⟨c, by rw [List.getElem?_append_left (by omega)]; exact q1, q2⟩
  · have hlt := (List.getElem?_eq_some_iff.1 hj).1
    simp at hlt
    obtain rfl : j = xss.length := by omega
    rw [List.getElem?_append_right (by omega)] at hj
    simp at hj
    subst hj
    exact ⟨u, by rw [List.getElem?_append_right (by omega)]; simp [hl], iu, ub⟩
theorem Rows.ld {h0 h : H} {w : V} {xss : List (List Int)} (r : Rows h0 h w xss) {i : Nat} {xs : List Int} (hx : xss[i]? = some xs) : ∃ c, ldV h (.p (blkV w) (offV w + i * 1)) = some c ∧ Ints h c xs ∧ h0.next ≤ blkV c := by
  obtain ⟨cs, o, hc⟩ := r
  obtain ⟨c, q1, q2, q3, _⟩ := hc i xs hx
  have hi := (List.getElem?_eq_some_iff.1 hx).1
  have s : Sl 1 h w xss.length cs := by simpa using o.sl
  exact ⟨c, by rw [s.ld1 hi, q1], q2, q3⟩
theorem filter_step {xss : List (List Int)} {i : Nat} {xs : List Int} (hx : xss[i]? = some xs) : (xss.take (i + 1)).filter big = (xss.take i).filter big ++ if big xs = true then [xs] else [] := by
  rw [take_succ' hx, List.filter_append]
  congr 1
  cases h : big xs <;> simp [h]
theorem t74 : tblA 74 = some a74 := by kernel_rfl
theorem fn_refCirclesA {h : H} {N : Int} {v : V} {rs : List Arw} (hr : Arrs h v rs) (hrn : rs.length ≤ 1000000) : WC tblA (.fn 74 [] []) [.agg [.i .i64 N, v]] h fun u h' => Ext h h' ∧ LLa h h' u (circR N rs) := by
  refine (WC_in t74).2 ?_
  obtain ⟨e0, g0⟩ := rel_blk h N v
  simp only [go_sem, ↓reduceIte, r74_0]
  have hr0 := hr.ext e0
  have nn0 : (h.new (.cells [.i .i64 N, v])).next = h.next + 1 := by simp
  generalize hh : h.new (.cells [.i .i64 N, v]) = h0 at *
  have l0 : ldnV h0 2 (.p h.next 0) = some (.agg [.i .i64 N, v]) := blk_ldn g0 rfl
  simp only [go_sem, ↓reduceIte, r74_1, l0]
  refine (fn_refComponents hr0 hrn).mono ?_
  rintro u h1 ⟨e1, r1⟩
  have s1 := r1.ll
  have hlen := (compsR_len (N := N) (rs := rs)).1
  unfold circR
  generalize compsR N rs = xss at *
  simp only [go_sem, ↓reduceIte, r74_2, r74_3]
  refine W_while (fun k t h' => ∃ (i : Nat) (w : V), k = xss.length - i ∧ i ≤ xss.length ∧ t.length = 28 ∧ nth t 3 = u ∧ nth t 4 = w ∧ nth t 5 = .i .i64 (i : Int) ∧ Ext h1 h' ∧ Refs h0 h1 h' w ((xss.take i).filter big)) ?_ xss.length ?_
  · rintro k t h' ⟨i, w, rfl, hi, tl, t3, t4, t5, e', r'⟩
    unfold b74_0
    have s' := s1.ext e'
    by_cases hlt : i < xss.length
    · have hltI : (i : Int) < (xss.length : Int) := by omega
      obtain ⟨xs, hx⟩ : ∃ xs, xss[i]? = some xs := ⟨_, List.getElem?_eq_getElem hlt⟩
      obtain ⟨c, hl, hi1, hbc⟩ := r1.ld hx
      obtain ⟨c', hl', hi1'⟩ := s'.ld hx
      have hcc : c' = c := by
        have : ldV h' (.p (blkV u) (offV u + i * 1)) = ldV h1 (.p (blkV u) (offV u + i * 1)) := by
          obtain ⟨cs, q, _⟩ := s1
          have hb := q.lt (by omega)
          simp only [ldV, e'.same _ hb]
        rw [this, hl] at hl'
        cases hl'; rfl
      subst hcc
      have hst := filter_step hx
      have hbI : (decide ((1 : Int) < (xs.length : Int))) = big xs := by
        unfold big
        rw [Bool.eq_iff_iff]
        simp
        omega
      cases hb : big xs
      · rw [hb] at hst hbI
        simp only [Bool.false_eq_true, if_false, List.append_nil] at hst
        simp only [go_sem, ↓reduceIte, r74_4, r74_5, r74_6, tl, t3, t4, t5, s'.len, hltI, s'.ix hlt, hl', hi1'.len, hbI, wrap_succ (show i < 1000000000 by omega)]
        exact ⟨xss.length - (i + 1), by omega, i + 1, w, rfl, hlt, rfl, rfl, e', by rw [hst]; exact r'⟩
      · rw [hb] at hst hbI
        simp only [if_true] at hst
        obtain ⟨w', h5, q1, q2, q3⟩ := r'.app e' hi1 hbc (by
          have := List.length_filter_le big (xss.take i)
          simp at this; omega)
        simp only [go_sem, ↓reduceIte, r74_4, r74_5, r74_6, r74_7, tl, t3, t4, t5, s'.len, hltI, s'.ix hlt, hl', hi1'.len, hbI, fill1_of hi1.one.1, q1, wrap_succ (show i < 1000000000 by omega)]
        exact ⟨xss.length - (i + 1), by omega, i + 1, w', rfl, hlt, rfl, rfl, q2, by rw [hst]; exact q3⟩
    · have hltI : ¬ (i : Int) < (xss.length : Int) := by omega
      simp only [go_sem, ↓reduceIte, r74_4, r74_8, tl, t3, t4, t5, s'.len, hltI]
      rw [List.take_of_length_le (by omega)] at r'
      exact ⟨e0.trans (e1.trans e'), (r'.ll e' e1.nx).mono (by omega)⟩
  · refine ⟨0, .sn, by omega, by omega, ?_⟩
    simp only [go_sem, ↓reduceIte, List.take_zero, List.filter_nil]
    exact ⟨.refl _, .nil⟩
theorem fn_refCircles {h : H} {N : Int} {v : V} {rs : List Arw} (hr : Arrs h v rs) (hrn : rs.length ≤ 1000000) : WC tblA (.fn 74 [] []) [.agg [.i .i64 N, v]] h fun u h' => Ext h h' ∧ LL h' u (circR N rs) :=
  (fn_refCirclesA hr hrn).mono fun _ _ ⟨e, r⟩ => ⟨e, r.ll⟩
noncomputable def circledS (N : Int) (rs : List Arw) : Int := if checkS N rs ≠ 0 then checkS N rs else circE (circR N rs)
theorem t71 : tblA 71 = some a71 := by kernel_rfl
theorem fn_circled {h : H} {N : Int} {v : V} {rs : List Arw} (hr : Arrs h v rs) (hrn : rs.length ≤ 1000000) : WC tblA (.fn 71 [] []) [.agg [.i .i64 N, v]] h fun u h' => Ext h h' ∧ u = .i .i64 (circledS N rs) := by
  refine (WC_in t71).2 ?_
  obtain ⟨e0, g0⟩ := rel_blk h N v
  simp only [go_sem, ↓reduceIte, r71_0]
  have hr0 := hr.ext e0
  have hb0 : h.next < (h.new (.cells [.i .i64 N, v])).next := by simp
  generalize hh : h.new (.cells [.i .i64 N, v]) = h0 at *
  have l0 : ldnV h0 2 (.p h.next 0) = some (.agg [.i .i64 N, v]) := blk_ldn g0 rfl
  simp only [go_sem, ↓reduceIte, r71_1, l0]
  refine (fn_refCheck hr0 hrn).mono ?_
  rintro _ h1 ⟨e1, rfl⟩
  by_cases hc : checkS N rs = 0
  case neg =>
    simp only [go_sem, ↓reduceIte, r71_2, r71_3, hc]
    exact ⟨e0.trans e1, by rw [circledS, if_pos hc]⟩
  have l1 : ldnV h1 2 (.p h.next 0) = some (.agg [.i .i64 N, v]) := blk_ldn (e1.get hb0 g0) rfl
  simp only [go_sem, ↓reduceIte, r71_2, r71_4, hc, l1]
  refine (fn_refCircles (hr0.ext e1) hrn).mono ?_
  rintro u h2 ⟨e2, s2⟩
  have hlen := circR_len (N := N) (rs := rs)
  have hcs : circledS N rs = circE (circR N rs) := by rw [circledS, if_neg (by simp [hc])]
  rw [hcs]
  generalize circR N rs = xss at *
  simp only [go_sem, ↓reduceIte, r71_5]
  refine W_while (fun k t h' => ∃ i, k = xss.length - i ∧ i ≤ xss.length ∧ t.length = 25 ∧ nth t 4 = u ∧ nth t 5 = .i .i64 (i : Int) ∧ h2 = h' ∧ ∀ c ∈ xss.take i, ¬ 10 < c.length) ?_ xss.length ?_
  · rintro k t _ ⟨i, rfl, hi, tl, t4, t5, rfl, ha⟩
    unfold b71_0
    by_cases hlt : i < xss.length
    · have hltI : (i : Int) < (xss.length : Int) := by omega
      obtain ⟨xs, hx⟩ : ∃ xs, xss[i]? = some xs := ⟨_, List.getElem?_eq_getElem hlt⟩
      obtain ⟨c, hl, hi1⟩ := s2.ld hx
      by_cases hb : 10 < xs.length
      · have hbI : (10 : Int) < (xs.length : Int) := by omega
        simp only [go_sem, ↓reduceIte, r71_6, r71_8, r71_9, tl, t4, t5, s2.len, hltI, s2.ix hlt, hl, hi1.len, hbI]
        have : circE xss = 40 := by rw [circE, if_pos ⟨xs, List.mem_of_getElem? hx, hb⟩]
        rw [this]
        exact ⟨e0.trans (e1.trans e2), rfl⟩
      · have hbI : ¬ (10 : Int) < (xs.length : Int) := by omega
        simp only [go_sem, ↓reduceIte, r71_6, r71_7, r71_8, tl, t4, t5, s2.len, hltI, s2.ix hlt, hl, hi1.len, hbI, wrap_succ (show i < 1000000000 by omega)]
        refine ⟨xss.length - (i + 1), by omega, i + 1, rfl, hlt, rfl, ?_⟩
        rw [take_succ' hx]
        intro ys hy
        rcases List.mem_append.1 hy with hy | hy
        · exact ha ys hy
        · simp at hy; subst hy; exact hb
    · have hltI : ¬ (i : Int) < (xss.length : Int) := by omega
      simp only [go_sem, ↓reduceIte, r71_6, r71_10, tl, t4, t5, s2.len, hltI]
      rw [List.take_of_length_le (by omega)] at ha
      have : circE xss = 0 := by rw [circE, if_neg]; rintro ⟨c, h1, h2⟩; exact ha c h1 h2
      rw [this]
      exact ⟨e0.trans (e1.trans e2), rfl⟩
  · refine ⟨0, by omega, by omega, ?_⟩
    simp only [go_sem, ↓reduceIte, List.take_zero]
    simp
end Go.Air
set_option maxRecDepth 100000
namespace Go.Air
open Go.Air.Try
def subL (c : List Int) (s : Nat) : Nat → List Int
  | 0 => []
  | k + 1 => subL c s k ++ if s.testBit k = true then [c.getD k 0] else []
theorem subL_len (c : List Int) (s : Nat) : ∀ k, (subL c s k).length ≤ k
  | 0 => by simp [subL]
  | k + 1 => by
    have := subL_len c s k
    simp only [subL, List.length_append]
    split <;> simp <;> omega
theorem t116 : tblA 116 = some a116 := by kernel_rfl
theorem fn_subset {h : H} {m s : Nat} {v : V} {c : List Int} (hc : Ints h v c) (hl : c.length = m) (hm : m ≤ 24) (hs : s < 1000000000) :
    WC tblA (.fn 116 [] []) [v, .i .i64 (s : Int)] h fun u h' => Ext h h' ∧ Own h 1 h' u (subL c s m).length (ints (subL c s m)) := by
  refine (WC_in t116).2 ?_
  simp only [go_sem, ↓reduceIte, r116_0, r116_1, r116_2]
  refine W_while (fun k t h' => ∃ (i : Nat) (w : V), k = m - i ∧ i ≤ m ∧ t.length = 27 ∧ nth t 0 = v ∧ nth t 1 = .i .i64 (s : Int) ∧ nth t 5 = w ∧ nth t 6 = .i .i64 (i : Int) ∧ Ext h h' ∧ Own h 1 h' w (subL c s i).length (ints (subL c s i))) ?_ m ?_
  · rintro k t h' ⟨i, w, rfl, hi, tl, t0, t1, t5, t6, e', o'⟩
    unfold b116_0
    have hc' := hc.ext e'
    by_cases hlt : i < m
    · have hltI : (i : Int) < (m : Int) := by omega
      obtain ⟨x, hx⟩ : ∃ x, c[i]? = some x := ⟨_, List.getElem?_eq_getElem (by omega)⟩
      have hxD : c.getD i 0 = x := by rw [List.getD_eq_getElem?_getD, hx]; rfl
      have hsh := bin_shr (s := s) (k := i) (kd := .u64) (by omega)
      have hsmall : s / 2 ^ i < 4611686018427387904 := Nat.lt_of_le_of_lt (Nat.div_le_self _ _) (by omega)
      have hand := bin_and (a := s / 2 ^ i) (b := 1) hsmall (by omega)
      rw [shr_and] at hand
      have hst : subL c s (i + 1) = subL c s i ++ if s.testBit i = true then [x] else [] := by rw [subL, hxD]
      cases hb : s.testBit i
      · rw [hb] at hand hst
        simp only [Bool.false_eq_true, if_false, List.append_nil, Int.natCast_zero, Int.natCast_one] at hand hst
        simp only [go_sem, ↓reduceIte, r116_3, r116_4, r116_5, tl, t0, t1, t5, t6, hc'.len, hl, hltI, conv_u64 (show i < 4611686018427387904 by omega), hsh, hand, wrap_succ (show i < 1000000000 by omega)]
        exact ⟨m - (i + 1), by omega, i + 1, w, rfl, hlt, rfl, rfl, e', by rw [hst]; exact o'⟩
      · rw [hb] at hand hst
        simp only [if_true, Int.natCast_one] at hand hst
        have hlen := subL_len c s i
        obtain ⟨w', h5, r1, r2, r3⟩ := app_int x o' e' (by omega)
        simp only [go_sem, ↓reduceIte, r116_3, r116_4, r116_5, r116_6, tl, t0, t1, t5, t6, hc'.len, hl, hltI, conv_u64 (show i < 4611686018427387904 by omega), hsh, hand, hc'.ix (show i < c.length by omega), hc'.ld hx, r1, wrap_succ (show i < 1000000000 by omega)]
        refine ⟨m - (i + 1), by omega, i + 1, w', rfl, hlt, rfl, rfl, r2, ?_⟩
        rw [hst, List.length_append]
        exact r3
    · have hltI : ¬ (i : Int) < (m : Int) := by omega
      obtain rfl : i = m := by omega
      simp only [go_sem, ↓reduceIte, r116_3, r116_7, tl, t0, t1, t5, t6, hc'.len, hl, hltI]
      exact ⟨e', o'⟩
  · refine ⟨0, .sn, by omega, by omega, ?_⟩
    simp only [go_sem, ↓reduceIte]
    exact ⟨.refl _, .nil⟩
def hit (x : Int) (l : List Int) (r : Arw) : Int := if r.f = x ∧ r.t ∈ l then r.w else 0
theorem offT_take {rs : List Arw} {g : Arw → Int} {i : Nat} {a : Arw} (hx : rs[i]? = some a) : offT (rs.take (i + 1)) g = offT (rs.take i) g + g a := by
  rw [take_succ' hx]
  simp [offT]
theorem offT_bound {N : Int} {g : Arw → Int} (hg : ∀ r : Arw, 0 ≤ r.w → 0 ≤ g r ∧ g r ≤ r.w) : ∀ {rs : List Arw}, (∀ r ∈ rs, OkA N r) → 0 ≤ offT rs g ∧ offT rs g ≤ 1000 * rs.length
  | [], _ => by simp [offT]
  | r :: rs, h => by
    have ih := offT_bound (N := N) hg (rs := rs) fun x hx => h x (by simp [hx])
    have h1 := h r (by simp)
    unfold OkA at h1
    have h2 := hg r (by omega)
    simp only [offT, List.map_cons, List.sum_cons, List.length_cons] at *
    omega
theorem hit_range (x : Int) (l : List Int) (r : Arw) (h : 0 ≤ r.w) : 0 ≤ hit x l r ∧ hit x l r ≤ r.w := by
  unfold hit; split <;> omega
theorem t115 : tblA 115 = some a115 := by kernel_rfl
theorem fn_refBehind {h : H} {N x : Int} {v o : V} {rs : List Arw} {l : List Int} (hr : Arrs h v rs) (hrn : rs.length ≤ 1000000) (gr : GoodR N rs) (hs : Ints h o l) (hn : l.length ≤ 1000000) :
    WC tblA (.fn 115 [] []) [.agg [.i .i64 N, v], .i .i64 x, o] h fun u h' => Ext h h' ∧ u = .i .i64 (offT rs (hit x l)) := by
  refine (WC_in t115).2 ?_
  obtain ⟨e0, g0⟩ := rel_blk h N v
  simp only [go_sem, ↓reduceIte, r115_0]
  have hb0 : h.next < (h.new (.cells [.i .i64 N, v])).next := by simp
  generalize hh : h.new (.cells [.i .i64 N, v]) = h0 at *
  have hr0 := hr.ext e0
  have hs0 := hs.ext e0
  have l1 : ldV h0 (.p h.next 1) = some v := blk_ld g0 rfl
  simp only [go_sem, ↓reduceIte, r115_1, r115_2]
  refine W_while (fun k t h' => ∃ (i : Nat), k = rs.length - i ∧ i ≤ rs.length ∧ t.length = 44 ∧ nth t 1 = .i .i64 x ∧ nth t 2 = o ∧ nth t 3 = .p h.next 0 ∧ nth t 7 = .i .i64 (offT (rs.take i) (hit x l)) ∧ nth t 8 = .i .i64 (i : Int) ∧ h0 = h') ?_ rs.length ?_
  · rintro k t _ ⟨i, rfl, hi, tl, t1, t2, t3, t7, t8, rfl⟩
    unfold b115_0
    by_cases hlt : i < rs.length
    · have hltI : (i : Int) < (rs.length : Int) := by omega
      obtain ⟨a, hx⟩ : ∃ a, rs[i]? = some a := ⟨_, List.getElem?_eq_getElem hlt⟩
      have x0 := hr0.ld (j := 0) hx (by omega)
      have x1 := hr0.ld (j := 1) hx (by omega)
      have x3 := hr0.ld (j := 3) hx (by omega)
      simp only [arw, List.getElem?_cons_zero, List.getElem?_cons_succ] at x0 x1 x3
      have hst := offT_take (g := hit x l) hx
      by_cases c1 : a.f = x
      · simp only [go_sem, ↓reduceIte, r115_3, r115_5, tl, t1, t2, t3, t7, t8, l1, hr0.len, hltI, hr0.ix hlt, x0, x1, c1]
        refine (fn_place hs0 hn).mono ?_
        rintro _ _ ⟨r, rfl, hr', rfl⟩
        obtain ⟨m1, p1⟩ := hr'.mem
        by_cases c2 : 0 ≤ r
        · have hm := m1.1 c2
          have hw : IntKind.i64.wrap (offT (rs.take i) (hit x l) + a.w) = offT (rs.take (i + 1)) (hit x l) := by
            have b1 := offT_bound (N := N) (g := hit x l) (hit_range x l) (rs := rs.take i) fun r hr => gr.1 r (List.mem_of_mem_take hr)
            have b2 := gr.1 a (List.mem_of_getElem? hx)
            unfold OkA at b2
            simp only [List.length_take] at b1
            rw [wrap_in (by omega) (by omega), hst, hit, if_pos ⟨c1, hm⟩]
          simp only [go_sem, ↓reduceIte, r115_4, r115_6, tl, t1, t2, t3, t7, t8, l1, hr0.ix hlt, x3, c2, hw, wrap_succ (show i < 1000000000 by omega)]
          exact ⟨rs.length - (i + 1), by omega, i + 1, rfl, hlt, rfl, rfl⟩
        · have hm : a.t ∉ l := fun z => c2 (m1.2 z)
          simp only [go_sem, ↓reduceIte, r115_4, tl, t1, t2, t3, t7, t8, c2, wrap_succ (show i < 1000000000 by omega)]
          refine ⟨rs.length - (i + 1), by omega, i + 1, rfl, hlt, ?_, rfl⟩
          rw [hst, hit, if_neg (fun z => hm z.2), Int.add_zero]
      · simp only [go_sem, ↓reduceIte, r115_3, r115_4, r115_5, tl, t1, t2, t3, t7, t8, l1, hr0.len, hltI, hr0.ix hlt, x0, c1, wrap_succ (show i < 1000000000 by omega)]
        refine ⟨rs.length - (i + 1), by omega, i + 1, rfl, hlt, ?_, rfl⟩
        rw [hst, hit, if_neg (fun z => c1 z.1), Int.add_zero]
    · have hltI : ¬ (i : Int) < (rs.length : Int) := by omega
      rw [List.take_of_length_le (by omega)] at t7
      simp only [go_sem, ↓reduceIte, r115_3, r115_7, tl, t1, t2, t3, t7, t8, l1, hr0.len, hltI]
      exact e0
  · refine ⟨0, by omega, by omega, ?_⟩
    simp only [go_sem, ↓reduceIte, List.take_zero]
    simp [offT]
theorem offT_sum (f g : Arw → Int) : ∀ rs : List Arw, offT rs (fun r => f r + g r) = offT rs f + offT rs g
  | [] => rfl
  | r :: rs => by
    have ih := offT_sum f g rs
    simp only [offT, List.map_cons, List.sum_cons] at *
    omega
theorem hit_snoc {rs : List Arw} {N x y : Int} {l : List Int} (gr : GoodR N rs) (hy : y ∉ l) : offT rs (hit x (l ++ [y])) = offT rs (hit x l) + wt x y rs := by
  rw [← offT_one x y rs gr.2, ← offT_sum]
  refine offT_congr fun r _ => ?_
  simp only [hit, one, List.mem_append, List.mem_singleton]
  by_cases h1 : r.f = x
  · by_cases h2 : r.t = y
    · have : r.t ∉ l := by rw [h2]; exact hy
      simp [h1, h2, hy]
    · simp [h1, h2]
  · simp [h1]
theorem hit_nil {rs : List Arw} {x : Int} : offT rs (hit x []) = 0 := by
  have : offT rs (hit x []) = offT rs (fun _ => 0) := offT_congr fun r _ => by simp [hit]
  rw [this]
  clear this
  induction rs with
  | nil => rfl
  | cons r l ih => simp only [offT, List.map_cons, List.sum_cons] at *; omega
theorem subL_mem {c : List Int} {s : Nat} {y : Int} : ∀ {k : Nat}, y ∈ subL c s k → ∃ j, j < k ∧ c.getD j 0 = y
  | 0, h => by simp [subL] at h
  | k + 1, h => by
    simp only [subL, List.mem_append] at h
    rcases h with h | h
    · obtain ⟨j, h1, h2⟩ := subL_mem h
      exact ⟨j, by omega, h2⟩
    · split at h
      · simp at h; exact ⟨k, by omega, h.symm⟩
      · simp at h
theorem getD_injI {c : List Int} (hd : c.Nodup) {i j : Nat} (hi : i < c.length) (hj : j < c.length) (h : c.getD i 0 = c.getD j 0) : i = j := by
  rw [List.getD_eq_getElem?_getD, List.getD_eq_getElem?_getD, List.getElem?_eq_getElem hi, List.getElem?_eq_getElem hj] at h
  simp only [Option.getD_some] at h
  exact (List.getElem_inj hd).1 h
theorem hit_bh {rs : List Arw} {N : Int} {c : List Int} (gr : GoodR N rs) (hd : c.Nodup) (i s : Nat) : ∀ k, k ≤ c.length → offT rs (hit (c.getD i 0) (subL c s k)) = bhK rs c i s k
  | 0, _ => by simp [subL, bhK, hit_nil]
  | k + 1, h => by
    have ih := hit_bh gr hd i s k (by omega)
    simp only [subL, bhK]
    split
    · rw [hit_snoc gr, ih]
      intro hm
      obtain ⟨j, h1, h2⟩ := subL_mem hm
      have := getD_injI hd (by omega) (by omega) h2
      omega
    · rw [List.append_nil, ih, Int.add_zero]
def rmin (rs : List Arw) (c : List Int) (m : Nat) (L : List Int) (s : Nat) : Nat → Int
  | 0 => -1
  | i + 1 => if s.testBit i = true then (if rmin rs c m L s i < 0 ∨ L.getD (s - 2 ^ i) 0 + bhK rs c i (s - 2 ^ i) m < rmin rs c m L s i then L.getD (s - 2 ^ i) 0 + bhK rs c i (s - 2 ^ i) m else rmin rs c m L s i) else rmin rs c m L s i
theorem cost_none {rs : List Arw} {c : List Int} {m i r : Nat} (hin : Gst c) (hi : i < c.length) : costS rs c (-1) m i r = bhK rs c i r m := by
  obtain ⟨j, _, _, hj⟩ := hin.at hi
  rw [costS, if_neg]
  rintro ⟨h, _⟩
  omega
def SmallL (L : List Int) : Prop := ∀ (j : Nat) (x : Int), L[j]? = some x → 0 ≤ x ∧ x ≤ 24000 * j
theorem SmallL.getD {L : List Int} (h : SmallL L) (j : Nat) : 0 ≤ L.getD j 0 ∧ L.getD j 0 ≤ 24000 * j := by
  rw [List.getD_eq_getElem?_getD]
  cases q : L[j]? with
  | none => simp; omega
  | some x => exact h j x q
section
variable {rs : List Arw} {c : List Int} {m : Nat}
theorem rmin_tmin (hw : Wok rs) (hin : Gst c) (hl : c.length = m) (hm : m ≤ 24) {L : List Int} (hL : SmallL L) {s : Nat} (hs : s < 1000000) : ∀ i, i ≤ m →
    (rmin rs c m L s i = -1 ∧ tmin rs c (-1) m L s i = never ∧ ∀ j, j < i → s.testBit j = false) ∨ (0 ≤ rmin rs c m L s i ∧ rmin rs c m L s i ≤ 24000 * s ∧ tmin rs c (-1) m L s i = rmin rs c m L s i)
  | 0, _ => .inl ⟨rfl, rfl, fun j hj => by omega⟩
  | i + 1, hi => by
    have ih := rmin_tmin hw hin hl hm hL hs i (by omega)
    have hc := cost_none (rs := rs) (m := m) (r := s - 2 ^ i) hin (show i < c.length by omega)
    have h1 := hL.getD (s - 2 ^ i)
    have h2 := bhK_bound hw c i (s - 2 ^ i) m
    simp only [rmin, tmin, hc]
    cases hb : s.testBit i
    · simp only [Bool.false_eq_true, if_false]
      rcases ih with ⟨a, b, d⟩ | ih
      · refine .inl ⟨a, b, fun j hj => ?_⟩
        by_cases q : j = i
        · subst q; exact hb
        · exact d j (by omega)
      · exact .inr ih
    · have hle := bit_le hb
      have hp : 0 < 2 ^ i := Nat.two_pow_pos i
      simp only [if_true]
      rcases ih with ⟨a, b, d⟩ | ⟨a, b, d⟩
      · rw [a, b]
        unfold never
        rw [if_pos (by omega), if_pos (by omega)]
        exact .inr ⟨by omega, by omega, rfl⟩
      · rw [d]
        by_cases q : L.getD (s - 2 ^ i) 0 + bhK rs c i (s - 2 ^ i) m < rmin rs c m L s i
        · rw [if_pos (.inr q), if_pos q]
          exact .inr ⟨by omega, by omega, rfl⟩
        · rw [if_neg (by omega), if_neg q]
          exact .inr ⟨a, b, rfl⟩
theorem some_bit {s m : Nat} (h0 : s ≠ 0) (hs : s < 2 ^ m) : ∃ j, j < m ∧ s.testBit j = true := by
  obtain ⟨j, hj⟩ := Nat.exists_testBit_of_ne_zero h0
  exact ⟨j, bit_lt hs hj, hj⟩
theorem rmin_val (hw : Wok rs) (hin : Gst c) (hl : c.length = m) (hm : m ≤ 24) {L : List Int} (hL : SmallL L) {s : Nat} (h0 : s ≠ 0) (hs1 : s < 1000000) (hs : s < 2 ^ m) :
    0 ≤ rmin rs c m L s m ∧ rmin rs c m L s m ≤ 24000 * s ∧ tmin rs c (-1) m L s m = rmin rs c m L s m := by
  rcases rmin_tmin hw hin hl hm hL hs1 m (Nat.le_refl _) with ⟨_, _, h⟩ | h
  · obtain ⟨j, h1, h2⟩ := some_bit h0 hs
    rw [h j h1] at h2
    cases h2
  · exact h
theorem tabL_small (hw : Wok rs) (hin : Gst c) (hl : c.length = m) (hm : m ≤ 10) : ∀ s, s ≤ 2 ^ m → SmallL (tabL rs c (-1) m s)
  | 0, _ => fun j x h => by simp [tabL] at h
  | s + 1, hs => fun j x h => by
    have ih := tabL_small hw hin hl hm s (by omega)
    have hM : 2 ^ m ≤ 1024 := by
      have := Nat.pow_le_pow_right (n := 2) (by omega) hm
      simpa using this
    rw [tabL] at h
    by_cases q : j < s
    · rw [List.getElem?_append_left (by rw [tabL_len]; exact q)] at h
      exact ih j x h
    · have hlt := (List.getElem?_eq_some_iff.1 h).1
      simp [tabL_len] at hlt
      obtain rfl : j = s := by omega
      rw [List.getElem?_append_right (by rw [tabL_len]; omega), tabL_len] at h
      simp at h
      subst h
      unfold tval
      split
      · omega
      · rename_i h0
        have := rmin_val hw hin hl (by omega) ih h0 (by omega) (by omega)
        rw [this.2.2]
        exact ⟨this.1, this.2.1⟩
end
end Go.Air
set_option maxRecDepth 100000
namespace Go.Air
open Go.Air.Try
theorem tabL_getD {rs : List Arw} {c : List Int} {sp : Int} {m s j : Nat} (hj : j < s) : (tabL rs c sp m s)[j]? = some ((tabL rs c sp m s).getD j 0) := by
  rw [List.getD_eq_getElem?_getD]
  obtain ⟨x, hx⟩ : ∃ x, (tabL rs c sp m s)[j]? = some x := ⟨_, List.getElem?_eq_getElem (by rw [tabL_len]; exact hj)⟩
  rw [hx]; rfl
theorem t75 : tblA 75 = some a75 := by kernel_rfl
theorem fn_refTableO {h : H} {N : Int} {m : Nat} {v o : V} {rs : List Arw} {c : List Int} (hr : Arrs h v rs) (hrn : rs.length ≤ 1000000) (gr : GoodR N rs) (hc : Ints h o c) (hl : c.length = m) (hm : m ≤ 10) (hin : Gst c) (hd : c.Nodup) :
    WC tblA (.fn 75 [] []) [.agg [.i .i64 N, v], o] h fun u h' => Ext h h' ∧ ∃ w1 w2, u = .agg [w1, w2] ∧ Own h 1 h' w1 c.length (ints c) ∧ Own h 1 h' w2 (2 ^ m) (ints (tabL rs c (-1) m (2 ^ m))) := by
  refine (WC_in t75).2 ?_
  have hw : Wok rs := wok_of gr.1
  simp only [go_sem, ↓reduceIte, r75_0, H.next_new]
  have e0 : Ext h ((h.new (.cells [.i .i64 N, v])).new (.cells [.sn, .sn])) := ((Ext.refl h).new _).new _
  have g0 : ((h.new (.cells [.i .i64 N, v])).new (.cells [.sn, .sn])).get h.next = some (.cells [.i .i64 N, v]) := by rw [get_new_lt (by simp), get_new_eq rfl]
  have g4 : ((h.new (.cells [.i .i64 N, v])).new (.cells [.sn, .sn])).get (h.next + 1) = some (.cells [.sn, .sn]) := by rw [get_new_eq (by simp)]
  have n0 : ((h.new (.cells [.i .i64 N, v])).new (.cells [.sn, .sn])).next = h.next + 1 + 1 := by simp
  generalize ((h.new (.cells [.i .i64 N, v])).new (.cells [.sn, .sn])) = hB at *
  have hM : 2 ^ m ≤ 1024 := by
    have := Nat.pow_le_pow_right (n := 2) (by omega) hm
    simpa using this
  have hM1 : 1 ≤ 2 ^ m := Nat.one_le_two_pow
  have hshl := bin_shl1 (k := m) (kd := .u64) (by omega)
  obtain ⟨oL, xL⟩ := Own.lit (esz := 1) (Ext.refl hB) (ints [0]) 1 rfl
  have hrB := hr.ext e0
  have hcB := hc.ext e0
  simp only [go_sem, ↓reduceIte, r75_1, r75_2]
  refine W_while (fun k t h' => ∃ (s : Nat) (w : V), k = 2 ^ m - s ∧ 1 ≤ s ∧ s ≤ 2 ^ m ∧ t.length = 68 ∧ nth t 1 = o ∧ nth t 2 = .p h.next 0 ∧ nth t 4 = .p (h.next + 1) 0 ∧ nth t 5 = w ∧ nth t 6 = .i .i64 (s : Int) ∧ Ext hB h' ∧ Own hB 1 h' w s (ints (tabL rs c (-1) m s))) ?_ (2 ^ m - 1) ?_
  · rintro k t h' ⟨s, w, rfl, hs1, hsM, tl, t1, t2, t4, t5, t6, e', o'⟩
    unfold b75_1
    have hc' := hcB.ext e'
    by_cases hlt : s < 2 ^ m
    · have hltI : (s : Int) < ((2 ^ m : Nat) : Int) := by omega
      have hL := tabL_small hw hin hl hm s (by omega)
      simp only [go_sem, ↓reduceIte, r75_3, r75_5, r75_6, tl, t1, t2, t4, t5, t6, hc'.len, hl, conv_u64 (show m < 4611686018427387904 by omega), hshl, hltI]
      refine W_while (fun k t h' => ∃ (i : Nat), k = m - i ∧ i ≤ m ∧ t.length = 68 ∧ nth t 1 = o ∧ nth t 2 = .p h.next 0 ∧ nth t 4 = .p (h.next + 1) 0 ∧ nth t 5 = w ∧ nth t 6 = .i .i64 (s : Int) ∧ nth t 7 = .i .i64 (rmin rs c m (tabL rs c (-1) m s) s i) ∧ nth t 8 = .i .i64 (i : Int) ∧ Ext hB h' ∧ Own hB 1 h' w s (ints (tabL rs c (-1) m s))) ?_ m ?_
      · rintro k t h' ⟨i, rfl, hi, tl, t1, t2, t4, t5, t6, t7, t8, e', o'⟩
        unfold b75_0
        have hc' := hcB.ext e'
        by_cases hlti : i < m
        · have hltiI : (i : Int) < (m : Int) := by omega
          obtain ⟨x, hx⟩ : ∃ x, c[i]? = some x := ⟨_, List.getElem?_eq_getElem (by omega)⟩
          have hxD : c.getD i 0 = x := by rw [List.getD_eq_getElem?_getD, hx]; rfl
          have hsh := bin_shr (s := s) (k := i) (kd := .u64) (by omega)
          have hsmall : s / 2 ^ i < 4611686018427387904 := Nat.lt_of_le_of_lt (Nat.div_le_self _ _) (by omega)
          have hand := bin_and (a := s / 2 ^ i) (b := 1) hsmall (by omega)
          rw [shr_and] at hand
          have hcv := conv_u64 (show i < 4611686018427387904 by omega)
          cases hb : s.testBit i
          · rw [hb] at hand
            simp only [Bool.false_eq_true, if_false, Int.natCast_zero, Int.natCast_one] at hand
            simp only [go_sem, ↓reduceIte, r75_7, r75_8, r75_9, tl, t1, t2, t4, t5, t6, t7, t8, hc'.len, hl, hltiI, hcv, hsh, hand, wrap_succ (show i < 1000000000 by omega)]
            refine ⟨m - (i + 1), by omega, i + 1, rfl, hlti, ?_, rfl, e', o'⟩
            simp [rmin, hb]
          · rw [hb] at hand
            simp only [if_true, Int.natCast_one] at hand
            have hble := bit_le hb
            have hpp : 0 < 2 ^ i := Nat.two_pow_pos i
            have hsub : IntKind.i64.wrap ((s : Int) - ((2 ^ i : Nat) : Int)) = ((s - 2 ^ i : Nat) : Int) := by rw [wrap_in (by omega) (by omega)]; omega
            simp only [go_sem, ↓reduceIte, r75_7, r75_9, r75_10, tl, t1, t2, t4, t5, t6, t7, t8, hc'.len, hl, hltiI, hcv, hsh, hand, bin_shl1 (kd := .u64) (show i < 62 by omega), hsub]
            have g0' := e'.get (by omega) g0
            have l2 : ldnV h' 2 (.p h.next 0) = some (.agg [.i .i64 N, v]) := blk_ldn g0' rfl
            have s' := o'.sl
            have lr : ldV h' (.p (blkV w) (offV w + (s - 2 ^ i) * 1)) = some (.i .i64 ((tabL rs c (-1) m s).getD (s - 2 ^ i) 0)) := by
              rw [s'.ld1 (show s - 2 ^ i < s by omega)]
              exact ints_at (tabL_getD (by omega))
            apply W_pure (by simp [r75_11])
            simp only [go_sem, ↓reduceIte, r75_11, tl, t1, t2, t4, t5, t6, t7, t8, s'.ix (show s - 2 ^ i < s by omega), lr, l2, hc'.ix (show i < c.length by omega), hc'.ld hx]
            refine (fn_subset (h := h'.bare) hc' hl (by omega) (show s - 2 ^ i < 1000000000 by omega)).mono ?_
            rintro u h3 ⟨e3, o3⟩
            have hold := e3.old
            replace e3 := e3.back
            have o3' : Own h' 1 (h'.back h3) u (subL c (s - 2 ^ i) m).length (ints (subL c (s - 2 ^ i) m)) := o3
            simp only [go_sem, ↓reduceIte, hold, tl, t1, t2, t4, t5, t6, t7, t8]
            generalize h'.back h3 = h4 at *
            have hlen := subL_len c (s - 2 ^ i) m
            refine (fn_refBehind (h := h4.bare) (N := N) (show Arrs h4.bare v rs from Sl.bare ((hrB.ext e').ext e3)) hrn gr o3'.ints (by omega)).mono ?_
            rintro _ h5 ⟨e5, rfl⟩
            have hold5 := e5.old
            replace e5 := e5.back
            have hbh : offT rs (hit x (subL c (s - 2 ^ i) m)) = bhK rs c i (s - 2 ^ i) m := by rw [← hxD]; exact hit_bh gr hd i _ m (by omega)
            have b1 := hL.getD (s - 2 ^ i)
            have b2 := bhK_bound hw c i (s - 2 ^ i) m
            have hsum : IntKind.i64.wrap ((tabL rs c (-1) m s).getD (s - 2 ^ i) 0 + bhK rs c i (s - 2 ^ i) m) = (tabL rs c (-1) m s).getD (s - 2 ^ i) 0 + bhK rs c i (s - 2 ^ i) m := wrap_in (by omega) (by omega)
            simp only [go_sem, ↓reduceIte, hold5, hbh, hsum, tl, t1, t2, t4, t5, t6, t7, t8]
            generalize h4.back h5 = h6 at *
            have e6 := (e'.trans e3).trans e5
            have o6 := (o'.ext e3).ext e5
            have hrm : rmin rs c m (tabL rs c (-1) m s) s (i + 1) = if rmin rs c m (tabL rs c (-1) m s) s i < 0 ∨ (tabL rs c (-1) m s).getD (s - 2 ^ i) 0 + bhK rs c i (s - 2 ^ i) m < rmin rs c m (tabL rs c (-1) m s) s i then (tabL rs c (-1) m s).getD (s - 2 ^ i) 0 + bhK rs c i (s - 2 ^ i) m else rmin rs c m (tabL rs c (-1) m s) s i := by simp only [rmin, hb, if_true]
            generalize rmin rs c m (tabL rs c (-1) m s) s i = best at *
            generalize (tabL rs c (-1) m s).getD (s - 2 ^ i) 0 + bhK rs c i (s - 2 ^ i) m = nn at *
            by_cases d1 : best < 0
            · rw [if_pos (.inl d1)] at hrm
              simp only [go_sem, ↓reduceIte, r75_8, r75_12, r75_13, tl, t1, t2, t4, t5, t6, t7, t8, d1, wrap_succ (show i < 1000000000 by omega)]
              exact ⟨m - (i + 1), by omega, i + 1, rfl, hlti, by rw [hrm], rfl, e6, o6⟩
            · by_cases d2 : nn < best
              · rw [if_pos (.inr d2)] at hrm
                simp only [go_sem, ↓reduceIte, r75_8, r75_12, r75_13, tl, t1, t2, t4, t5, t6, t7, t8, d1, d2, wrap_succ (show i < 1000000000 by omega)]
                exact ⟨m - (i + 1), by omega, i + 1, rfl, hlti, by rw [hrm], rfl, e6, o6⟩
              · rw [if_neg (by omega)] at hrm
                simp only [go_sem, ↓reduceIte, r75_8, r75_12, tl, t1, t2, t4, t5, t6, t7, t8, d1, d2, wrap_succ (show i < 1000000000 by omega)]
                exact ⟨m - (i + 1), by omega, i + 1, rfl, hlti, by rw [hrm], rfl, e6, o6⟩
        · have hltiI : ¬ (i : Int) < (m : Int) := by omega
          obtain rfl : i = m := by omega
          have hval := rmin_val hw hin hl (by omega) hL (show s ≠ 0 by omega) (by omega) hlt
          obtain ⟨w', h5, r1, r2, r3⟩ := app_int (rmin rs c i (tabL rs c (-1) i s) s i) o' e' (by omega)
          simp only [go_sem, ↓reduceIte, r75_7, r75_14, r75_4, tl, t1, t2, t4, t5, t6, t7, t8, hc'.len, hl, hltiI, r1, wrap_succ (show s < 1000000000 by omega)]
          refine ⟨2 ^ i - (s + 1), by omega, s + 1, w', rfl, by omega, hlt, rfl, rfl, r2, ?_⟩
          rw [tabL, tval, if_neg (by omega), hval.2.2]
          exact r3
      · refine ⟨0, by omega, by omega, ?_⟩
        simp only [go_sem, ↓reduceIte, tl, t1, t2, t4, t5, t6]
        exact ⟨rfl, e', o'⟩
    · have hltI : ¬ (s : Int) < ((2 ^ m : Nat) : Int) := by omega
      obtain rfl : s = 2 ^ m := by omega
      obtain ⟨w1, h5, r1, r2, r3⟩ := app_all hc' (by omega)
      have ho := hc'.one
      have hw1 := r3.one
      have hw2 := o'.one
      have g4' := r2.get (by have := e'.nx; omega) (e'.get (by omega) g4)
      have stA := st_whole (k := 2) (c := [w1, w]) g4' rfl rfl (by
        intro u hu
        simp at hu
        rcases hu with rfl | rfl
        · exact hw1.2
        · exact hw2.2)
      simp only [go_sem, ↓reduceIte, r75_3, r75_15, tl, t1, t2, t4, t5, t6, hc'.len, hl, conv_u64 (show m < 4611686018427387904 by omega), hshl, hltI, r1, fill2_of hw1.1 hw2.1, stA]
      rw [rescell (k := 2) (r := [w1, w]) (b := h.next + 1) (cs := [w1, w]) (by simp only [go_sem, ↓reduceIte, tl, t4]) (by rw [H.get_put, if_pos rfl]) (cut_all rfl)]
      simp only [go_sem]
      have o2 : Own h' 1 (h5.put (h.next + 1) (.cells [w1, w])) w1 c.length (ints c) := r3.keepX (X := (· = h.next + 1)) ((ExtX.refl (· = h.next + 1) h5).put (.inr rfl) _) (fun b hb => by have := e'.nx; omega)
      have o3 : Own hB 1 (h5.put (h.next + 1) (.cells [w1, w])) w (2 ^ m) (ints (tabL rs c (-1) m (2 ^ m))) := (o'.ext r2).keepX (X := (· = h.next + 1)) ((ExtX.refl (· = h.next + 1) h5).put (.inr rfl) _) (fun b hb => by omega)
      rw [hl] at o2
      exact ⟨(e0.trans (e'.trans r2)).put (by omega) _, w1, w, rfl, o2.mono (e0.trans e').nx, o3.mono e0.nx⟩
  · refine ⟨1, .sl hB.next 0 1 1 none, rfl, by omega, by omega, ?_⟩
    simp only [go_sem, ↓reduceIte]
    exact ⟨rfl, xL, oL⟩
theorem fn_refTable {h : H} {N : Int} {m : Nat} {v o : V} {rs : List Arw} {c : List Int} (hr : Arrs h v rs) (hrn : rs.length ≤ 1000000) (gr : GoodR N rs) (hc : Ints h o c) (hl : c.length = m) (hm : m ≤ 10) (hin : Gst c) (hd : c.Nodup) :
    WC tblA (.fn 75 [] []) [.agg [.i .i64 N, v], o] h fun u h' => Ext h h' ∧ ∃ w1 w2, u = .agg [w1, w2] ∧ Ints h' w1 c ∧ Ints h' w2 (tabL rs c (-1) m (2 ^ m)) :=
  (fn_refTableO hr hrn gr hc hl hm hin hd).mono fun _ _ ⟨e, w1, w2, q, o1, o2⟩ => ⟨e, w1, w2, q, o1.ints, (Ints.of o2.sl).1⟩
end Go.Air
set_option maxRecDepth 100000
namespace Go.Air
open Go.Air.Try
def bools (n : Nat) (d : Nat → Bool) : List V := (List.range n).map fun j => .b (d j)
theorem bools_len (n : Nat) (d : Nat → Bool) : (bools n d).length = n := by simp [bools]
theorem bools_get {n j : Nat} {d : Nat → Bool} (hj : j < n) : (bools n d)[j]? = some (.b (d j)) := by simp [bools, hj]
theorem bools_set {n j : Nat} {d : Nat → Bool} {v : Bool} : (bools n d).set j (.b v) = bools n (sput d j v) := by
  apply List.ext_getElem?
  intro i
  rw [List.getElem?_set]
  by_cases hi : i < n
  · rw [bools_get hi, bools_get hi]
    by_cases h : j = i
    · subst h
      rw [if_pos rfl, if_pos (by rw [bools_len]; exact hi)]
      simp [sput]
    · rw [if_neg h]
      simp [sput, Ne.symm h]
  · rw [List.getElem?_eq_none (l := bools n (sput d j v)) (by rw [bools_len]; omega), List.getElem?_eq_none (l := bools n d) (by rw [bools_len]; omega)]
    split
    · rw [if_neg (by rw [bools_len]; omega)]
    · rfl
theorem ldb {h : H} {b n j : Nat} {d : Nat → Bool} (g : h.get b = some (.cells (bools n d))) (hj : j < n) : ldV h (.p b (0 + j * 1)) = some (.b (d j)) := blk_ld g (by rw [show 0 + j * 1 = j by omega]; exact bools_get hj)
theorem stb {h : H} {b n j : Nat} {d : Nat → Bool} {v : Bool} (g : h.get b = some (.cells (bools n d))) (hj : j < n) : stV h 1 (.p b (0 + j * 1)) (.b v) = some (h.put b (.cells (bools n (sput d j v)))) := by
  rw [st_b (k := 0 + j * 1) g (by rw [bools_len]; omega), show 0 + j * 1 = j by omega, bools_set]
def tabF (rs : List Arw) (sp : Int) (c : List Int) : List Int := tabL rs c sp c.length (2 ^ c.length)
theorem tabF_len (rs : List Arw) (sp : Int) (c : List Int) : (tabF rs sp c).length = 2 ^ c.length := tabL_len _
def Okc (n : Nat) (xss : List (List Int)) : Prop := ∀ c ∈ xss, c.length ≤ 10 ∧ c.Nodup ∧ ∀ y ∈ c, ∃ j : Nat, y = (j : Int) ∧ j < n
theorem Okc.gst {n : Nat} {xss : List (List Int)} (h : Okc n xss) (hn : n ≤ 24) {c : List Int} (hc : c ∈ xss) : Gst c := by
  intro y hy
  obtain ⟨j, e, hj⟩ := (h c hc).2.2 y hy
  exact ⟨j, e, by omega⟩
structure Srch (h : H) (sb n : Nat) (rs : List Arw) (xss : List (List Int)) (sp : Int) (cv vv : V) : Prop where
  lt : sb < h.next
  g : h.get sb = some (.cells (ints (gridL rs) ++ [.i .i64 (n : Int), cv, vv, .i .i64 sp]))
  lc : LL h cv xss
  lv : LL h vv (xss.map (tabF rs sp))
theorem Srch.ext {h h' : H} {sb n : Nat} {rs : List Arw} {xss : List (List Int)} {sp : Int} {cv vv : V} (s : Srch h sb n rs xss sp cv vv) (e : Ext h h') : Srch h' sb n rs xss sp cv vv :=
  ⟨Nat.lt_of_lt_of_le s.lt e.nx, e.get s.lt s.g, s.lc.ext e, s.lv.ext e⟩
section
variable {h : H} {sb n : Nat} {rs : List Arw} {xss : List (List Int)} {sp : Int} {cv vv : V}
theorem Srch.grid (s : Srch h sb n rs xss sp cv vv) : Grid h sb rs := by
  refine ⟨s.lt, _, s.g, fun a b ha hb => ?_⟩
  rw [List.getElem?_append_left (by rw [ints_len, gridL_len]; omega)]
  exact ints_at (by rw [show 0 + a * 24 + b * 1 = a * 24 + b by omega]; exact gridL_get ha hb)
theorem Srch.tail (s : Srch h sb n rs xss sp cv vv) {k : Nat} {x : V} (hx : ([.i .i64 (n : Int), cv, vv, .i .i64 sp] : List V)[k]? = some x) : ldV h (.p sb (576 + k)) = some x := by
  refine blk_ld s.g ?_
  rw [List.getElem?_append_right (by rw [ints_len, gridL_len]; omega), ints_len, gridL_len, Nat.add_sub_cancel_left]
  exact hx
theorem Srch.ln (s : Srch h sb n rs xss sp cv vv) : ldV h (.p sb 576) = some (.i .i64 (n : Int)) := s.tail (k := 0) rfl
theorem Srch.lcv (s : Srch h sb n rs xss sp cv vv) : ldV h (.p sb 577) = some cv := s.tail (k := 1) rfl
theorem Srch.lvv (s : Srch h sb n rs xss sp cv vv) : ldV h (.p sb 578) = some vv := s.tail (k := 2) rfl
theorem Srch.lsp (s : Srch h sb n rs xss sp cv vv) : ldV h (.p sb 579) = some (.i .i64 sp) := s.tail (k := 3) rfl
end
def setOf (c : List Int) (d : Nat → Bool) : Nat → Nat
  | 0 => 0
  | i + 1 => if d (c.getD i 0).toNat = true then setOf c d i ||| 2 ^ i else setOf c d i
theorem setOf_lt (c : List Int) (d : Nat → Bool) : ∀ k, setOf c d k < 2 ^ k
  | 0 => by simp [setOf]
  | k + 1 => by
    have ih := setOf_lt c d k
    have h1 : 2 ^ k < 2 ^ (k + 1) := Nat.pow_lt_pow_right (by omega) (by omega)
    simp only [setOf]
    split
    · exact Nat.or_lt_two_pow (by omega) h1
    · omega
def leftS (rs : List Arw) (sp : Int) (d : Nat → Bool) : List (List Int) → Int
  | [] => 0
  | c :: l => (tabF rs sp c).getD (setOf c d c.length) 0 + leftS rs sp d l
theorem leftS_append (rs : List Arw) (sp : Int) (d : Nat → Bool) : ∀ a b : List (List Int), leftS rs sp d (a ++ b) = leftS rs sp d a + leftS rs sp d b
  | [], b => by simp [leftS]
  | c :: a, b => by simp only [List.cons_append, leftS, leftS_append rs sp d a b]; omega
theorem tabF_getD {rs : List Arw} {sp : Int} {c : List Int} (hw : Wok rs) (hl : c.length ≤ 24) (j : Nat) : 0 ≤ (tabF rs sp c).getD j 0 ∧ (tabF rs sp c).getD j 0 ≤ never := getD_in (tabL_bound hw hl _) j
theorem leftS_bound {rs : List Arw} {sp : Int} {d : Nat → Bool} (hw : Wok rs) : ∀ l : List (List Int), (∀ c ∈ l, c.length ≤ 24) → 0 ≤ leftS rs sp d l ∧ leftS rs sp d l ≤ never * l.length
  | [], _ => by simp [leftS]
  | c :: l, h => by
    have ih := leftS_bound hw (sp := sp) (d := d) l fun x hx => h x (by simp [hx])
    have h1 := tabF_getD (sp := sp) hw (h c (by simp)) (setOf c d c.length)
    simp only [leftS, List.length_cons]
    have : never * ((l.length + 1 : Nat) : Int) = never * l.length + never := by rw [Int.natCast_add, Int.mul_add]; simp
    omega
theorem t111 : tblA 111 = some a111 := by kernel_rfl
theorem fn_left {h : H} {sb n ib : Nat} {rs : List Arw} {xss : List (List Int)} {sp : Int} {cv vv : V} {d : Nat → Bool} (s : Srch h sb n rs xss sp cv vv) (ok : Okc n xss) (hn : n ≤ 24) (hxl : xss.length ≤ 24) (hw : Wok rs) (gi : h.get ib = some (.cells (bools n d))) :
    WC tblA (.fn 111 [] []) [.p sb 0, .sl ib 0 n n none] h fun u h' => h' = h ∧ u = .i .i64 (leftS rs sp d xss) := by
  refine (WC_in t111).2 ?_
  simp only [go_sem, ↓reduceIte, r111_0, r111_1, r111_2, s.lcv, s.lc.len]
  refine W_while (fun k t h' => ∃ i, k = xss.length - i ∧ i ≤ xss.length ∧ t.length = 51 ∧ nth t 0 = .p sb 0 ∧ nth t 1 = .sl ib 0 n n none ∧ nth t 5 = .i .i64 (leftS rs sp d (xss.take i)) ∧ nth t 14 = cv ∧ nth t 15 = .i .i64 (xss.length : Int) ∧ nth t 16 = .i .i64 (i : Int) ∧ h = h') ?_ xss.length ?_
  · rintro k t _ ⟨i, rfl, hi, tl, t0, t1, t5, t14, t15, t16, rfl⟩
    unfold b111_1
    by_cases hlt : i < xss.length
    · have hltI : (i : Int) < (xss.length : Int) := by omega
      obtain ⟨c, hx⟩ : ∃ c, xss[i]? = some c := ⟨_, List.getElem?_eq_getElem hlt⟩
      have hcm := List.mem_of_getElem? hx
      obtain ⟨hc10, hcd, hcin⟩ := ok c hcm
      obtain ⟨w, hl, hi1⟩ := s.lc.ld hx
      have hvx : (xss.map (tabF rs sp))[i]? = some (tabF rs sp c) := by rw [List.getElem?_map, hx]; rfl
      obtain ⟨w2, hl2, hi2⟩ := s.lv.ld hvx
      simp only [go_sem, ↓reduceIte, r111_3, r111_4, r111_5, r111_6, tl, t0, t1, t5, t14, t15, t16, hltI, s.lc.ix hlt, hl, hi1.len]
      refine W_while (fun k t h' => ∃ j, k = c.length - j ∧ j ≤ c.length ∧ t.length = 51 ∧ nth t 0 = .p sb 0 ∧ nth t 1 = .sl ib 0 n n none ∧ nth t 5 = .i .i64 (leftS rs sp d (xss.take i)) ∧ nth t 6 = .i .i64 (i : Int) ∧ nth t 8 = .i .i64 ((setOf c d j : Nat) : Int) ∧ nth t 14 = cv ∧ nth t 15 = .i .i64 (xss.length : Int) ∧ nth t 16 = .i .i64 (i : Int) ∧ nth t 21 = w ∧ nth t 22 = .i .i64 (c.length : Int) ∧ nth t 23 = .i .i64 (j : Int) ∧ h = h') ?_ c.length ?_
      · rintro k t _ ⟨j, rfl, hj, tl, t0, t1, t5, t6, t8, t14, t15, t16, t21, t22, t23, rfl⟩
        unfold b111_0
        by_cases hltj : j < c.length
        · have hltjI : (j : Int) < (c.length : Int) := by omega
          obtain ⟨x, hxj⟩ : ∃ x, c[j]? = some x := ⟨_, List.getElem?_eq_getElem hltj⟩
          obtain ⟨g, hxg, hg⟩ := hcin x (List.mem_of_getElem? hxj)
          have hgD : (c.getD j 0).toNat = g := by rw [List.getD_eq_getElem?_getD, hxj, hxg]; rfl
          rw [hxg] at hxj
          have hsl := setOf_lt c d j
          have hp := Nat.pow_le_pow_right (n := 2) (by omega) (show j ≤ 10 by omega)
          have hst : setOf c d (j + 1) = if d g = true then setOf c d j ||| 2 ^ j else setOf c d j := by rw [setOf, hgD]
          have hor := bin_or (a := setOf c d j) (b := 2 ^ j) (by omega) (by omega)
          cases hb : d g
          · rw [hb] at hst
            simp only [Bool.false_eq_true, if_false] at hst
            simp only [go_sem, ↓reduceIte, r111_7, r111_8, r111_9, r111_11, tl, t0, t1, t5, t6, t8, t14, t15, t16, t21, t22, t23, hltjI, hi1.ix hltj, hi1.ld hxj, ix_own hg, ldb gi hg, hb, wrap_succ (show j < 1000000000 by omega)]
            exact ⟨c.length - (j + 1), by omega, j + 1, rfl, hltj, by rw [hst], rfl⟩
          · rw [hb] at hst
            simp only [if_true] at hst
            simp only [go_sem, ↓reduceIte, r111_7, r111_8, r111_9, r111_10, r111_11, tl, t0, t1, t5, t6, t8, t14, t15, t16, t21, t22, t23, hltjI, hi1.ix hltj, hi1.ld hxj, ix_own hg, ldb gi hg, hb, bin_shl1 (kd := .i64) (show j < 62 by omega), hor, wrap_succ (show j < 1000000000 by omega)]
            exact ⟨c.length - (j + 1), by omega, j + 1, rfl, hltj, by rw [hst], rfl⟩
        · have hltjI : ¬ (j : Int) < (c.length : Int) := by omega
          obtain rfl : j = c.length := by omega
          have hsl := setOf_lt c d c.length
          have hltv : i < (xss.map (tabF rs sp)).length := by simpa using hlt
          have hidx : setOf c d c.length < (tabF rs sp c).length := by rw [tabF_len]; exact hsl
          have hval : (tabF rs sp c)[setOf c d c.length]? = some ((tabF rs sp c).getD (setOf c d c.length) 0) := by
            rw [List.getD_eq_getElem?_getD]
            obtain ⟨x, hx⟩ : ∃ x, (tabF rs sp c)[setOf c d c.length]? = some x := ⟨_, List.getElem?_eq_getElem hidx⟩
            rw [hx]; rfl
          have b1 := leftS_bound (sp := sp) (d := d) hw (xss.take i) fun x hx => by have := (ok x (List.mem_of_mem_take hx)).1; omega
          have b2 := tabF_getD (sp := sp) hw (show c.length ≤ 24 by omega) (setOf c d c.length)
          have hst : leftS rs sp d (xss.take (i + 1)) = leftS rs sp d (xss.take i) + (tabF rs sp c).getD (setOf c d c.length) 0 := by
            rw [take_succ' hx, leftS_append]; simp [leftS]
          have hsum : IntKind.i64.wrap (leftS rs sp d (xss.take i) + (tabF rs sp c).getD (setOf c d c.length) 0) = leftS rs sp d (xss.take (i + 1)) := by
            rw [hst]
            simp only [List.length_take] at b1
            unfold never at b1 b2
            exact wrap_in (by omega) (by omega)
          simp only [go_sem, ↓reduceIte, r111_7, r111_12, r111_13, tl, t0, t1, t5, t6, t8, t14, t15, t16, t21, t22, t23, hltjI, s.lvv, s.lv.ix hltv, hl2, hi2.ix hidx, hi2.ld hval, hsum, wrap_succ (show i < 1000000000 by omega)]
          exact ⟨xss.length - (i + 1), by omega, i + 1, rfl, hlt, rfl, rfl⟩
      · refine ⟨0, by omega, by omega, ?_⟩
        simp only [go_sem, ↓reduceIte, tl, t0, t1, t5, t14, t15, t16]
        simp [setOf]
    · have hltI : ¬ (i : Int) < (xss.length : Int) := by omega
      rw [List.take_of_length_le (by omega)] at t5
      simp only [go_sem, ↓reduceIte, r111_3, r111_14, tl, t0, t1, t5, t14, t15, t16, hltI]
  · refine ⟨0, by omega, by omega, ?_⟩
    simp only [go_sem, ↓reduceIte]
    simp [leftS]
def nextK (rs : List Arw) (d : Nat → Bool) (x : Nat) : Nat → Int
  | 0 => 0
  | y + 1 => if d y = true ∧ y ≠ x then nextK rs d x y + wt (y : Int) (x : Int) rs else nextK rs d x y
def hurt (rs : List Arw) (sp : Int) (d : Nat → Bool) (x y : Nat) : Prop := d y = true ∧ y ≠ x ∧ (y : Int) = sp ∧ 0 < wt (y : Int) (x : Int) rs
instance (rs : List Arw) (sp : Int) (d : Nat → Bool) (x y : Nat) : Decidable (hurt rs sp d x y) := by unfold hurt; infer_instance
def nextS (rs : List Arw) (sp : Int) (n : Nat) (d : Nat → Bool) (x : Nat) : Int := if ∃ y, y < n ∧ hurt rs sp d x y then never else nextK rs d x n
theorem nextK_bound {rs : List Arw} {d : Nat → Bool} {x : Nat} (hw : Wok rs) : ∀ k, 0 ≤ nextK rs d x k ∧ nextK rs d x k ≤ 1000 * k
  | 0 => by simp [nextK]
  | k + 1 => by
    have ih := nextK_bound (d := d) (x := x) hw k
    have := hw (k : Int) (x : Int)
    simp only [nextK]
    split <;> omega
theorem nextS_bound {rs : List Arw} {sp : Int} {n : Nat} {d : Nat → Bool} {x : Nat} (hw : Wok rs) (hn : n ≤ 24) : 0 ≤ nextS rs sp n d x ∧ nextS rs sp n d x ≤ never := by
  have := nextK_bound (d := d) (x := x) hw n
  unfold nextS never
  split <;> omega
theorem t112 : tblA 112 = some a112 := by kernel_rfl
theorem fn_nextS {h : H} {sb n ib x : Nat} {rs : List Arw} {xss : List (List Int)} {sp : Int} {cv vv : V} {d : Nat → Bool} (s : Srch h sb n rs xss sp cv vv) (hn : n ≤ 24) (hx : x < n) (hw : Wok rs) (gi : h.get ib = some (.cells (bools n d))) :
    WC tblA (.fn 112 [] []) [.p sb 0, .sl ib 0 n n none, .i .i64 (x : Int)] h fun u h' => h' = h ∧ u = .i .i64 (nextS rs sp n d x) := by
  refine (WC_in t112).2 ?_
  simp only [go_sem, ↓reduceIte, r112_0, r112_1, r112_2]
  refine W_while (fun k t h' => ∃ y, k = n - y ∧ y ≤ n ∧ t.length = 52 ∧ nth t 0 = .p sb 0 ∧ nth t 2 = .i .i64 (x : Int) ∧ nth t 7 = .i .i64 (nextK rs d x y) ∧ nth t 10 = .sl ib 0 n n none ∧ nth t 11 = .i .i64 (n : Int) ∧ nth t 12 = .i .i64 (y : Int) ∧ h = h' ∧ ∀ z, z < y → ¬ hurt rs sp d x z) ?_ n ?_
  · rintro k t _ ⟨y, rfl, hy, tl, t0, t2, t7, t10, t11, t12, rfl, hno⟩
    unfold b112_0
    by_cases hlt : y < n
    · have hltI : (y : Int) < (n : Int) := by omega
      have hgl := s.grid.ld (show y < 24 by omega) (show x < 24 by omega)
      have hkeep : ¬ hurt rs sp d x y → ∀ z, z < y + 1 → ¬ hurt rs sp d x z := by
        intro h z hz
        by_cases q : z = y
        · subst q; exact h
        · exact hno z (by omega)
      cases hd : d y
      · have hn1 : nextK rs d x (y + 1) = nextK rs d x y := by simp [nextK, hd]
        simp only [go_sem, ↓reduceIte, r112_3, r112_4, r112_5, r112_9, tl, t0, t2, t7, t10, t11, t12, hltI, ix_own hlt, ldb gi hlt, hd, wrap_succ (show y < 1000000000 by omega)]
        exact ⟨n - (y + 1), by omega, y + 1, rfl, hlt, by rw [hn1], rfl, hkeep fun h => by unfold hurt at h; rw [hd] at h; exact absurd h.1 (by simp)⟩
      · by_cases hyx : y = x
        · subst hyx
          have hn1 : nextK rs d y (y + 1) = nextK rs d y y := by simp [nextK]
          simp only [go_sem, ↓reduceIte, r112_3, r112_4, r112_5, r112_9, tl, t0, t2, t7, t10, t11, t12, hltI, ix_own hlt, ldb gi hlt, hd, wrap_succ (show y < 1000000000 by omega)]
          exact ⟨n - (y + 1), by omega, y + 1, rfl, hlt, by rw [hn1], rfl, hkeep fun h => h.2.1 rfl⟩
        · have hn1 : nextK rs d x (y + 1) = nextK rs d x y + wt (y : Int) (x : Int) rs := by simp [nextK, hyx, hd]
          have hb := nextK_bound (d := d) (x := x) hw y
          have hb2 := hw (y : Int) (x : Int)
          have hsum : IntKind.i64.wrap (nextK rs d x y + wt (y : Int) (x : Int) rs) = nextK rs d x (y + 1) := by
            rw [hn1]; exact wrap_in (by omega) (by omega)
          simp only [go_sem, ↓reduceIte, r112_3, r112_4, r112_5, r112_6, tl, t0, t2, t7, t10, t11, t12, hltI, ix_own hlt, ldb gi hlt, hd, nat_int_eq, hyx, ix24r (show y < 24 by omega), ixA_ok (esz := 1) (show x < 24 by omega), hgl, hsum]
          by_cases hsp : (y : Int) = sp
          · by_cases hpos : 0 < wt (y : Int) (x : Int) rs
            · have hh : hurt rs sp d x y := ⟨hd, hyx, hsp, hpos⟩
              simp only [go_sem, ↓reduceIte, r112_7, r112_8, tl, t0, t2, s.lsp, hsp, ix24r (show y < 24 by omega), ixA_ok (esz := 1) (show x < 24 by omega)]
              rw [← hsp]
              simp only [go_sem, ↓reduceIte, ix24r (show y < 24 by omega), ixA_ok (esz := 1) (show x < 24 by omega), hgl, hpos, tl]
              rw [nextS, if_pos ⟨y, hlt, by rw [hsp]; exact hh⟩]
              rfl
            · simp only [go_sem, ↓reduceIte, r112_7, tl, t0, t2, t10, t11, s.lsp, hsp]
              rw [← hsp]
              simp only [go_sem, ↓reduceIte, r112_9, tl, t0, t2, t10, t11, t12, ix24r (show y < 24 by omega), ixA_ok (esz := 1) (show x < 24 by omega), hgl, hpos, wrap_succ (show y < 1000000000 by omega)]
              exact ⟨n - (y + 1), by omega, y + 1, rfl, hlt, rfl, rfl, by rw [hsp]; exact hkeep fun h => hpos h.2.2.2⟩
          · simp only [go_sem, ↓reduceIte, r112_7, r112_9, tl, t0, t2, t10, t11, t12, s.lsp, hsp, wrap_succ (show y < 1000000000 by omega)]
            exact ⟨n - (y + 1), by omega, y + 1, rfl, hlt, rfl, rfl, hkeep fun h => hsp h.2.2.1⟩
    · have hltI : ¬ (y : Int) < (n : Int) := by omega
      obtain rfl : y = n := by omega
      simp only [go_sem, ↓reduceIte, r112_3, r112_10, tl, t0, t2, t7, t10, t11, t12, hltI]
      rw [nextS, if_neg]
      rintro ⟨z, hz, hh⟩
      exact hno z hz hh
  · refine ⟨0, by omega, by omega, ?_⟩
    simp only [go_sem, ↓reduceIte]
    simp [nextK]
end Go.Air
set_option maxRecDepth 100000
namespace Go.Air
open Go.Air.Try
def pickc (rs : List Arw) (sp : Int) (n : Nat) (xss : List (List Int)) (d : Nat → Bool) (rest : Int) (x : Nat) : Bool := d x && (decide (nextS rs sp n d x < never) && decide (nextS rs sp n d x + leftS rs sp (sput d x false) xss = rest))
def firstK (rs : List Arw) (sp : Int) (n : Nat) (xss : List (List Int)) : Nat → (Nat → Bool) → Int → List Int
  | 0, _, _ => []
  | k + 1, d, rest => match (List.range n).find? (pickc rs sp n xss d rest) with
    | none => firstK rs sp n xss k d rest
    | some x => (x : Int) :: firstK rs sp n xss k (sput d x false) (leftS rs sp (sput d x false) xss)
theorem firstK_len {rs : List Arw} {sp : Int} {n : Nat} {xss : List (List Int)} : ∀ (k : Nat) (d : Nat → Bool) (rest : Int), (firstK rs sp n xss k d rest).length ≤ k
  | 0, _, _ => by simp [firstK]
  | k + 1, d, rest => by
    rw [firstK]
    split
    · have := firstK_len (rs := rs) (sp := sp) (n := n) (xss := xss) k d rest; omega
    · rename_i x _
      have := firstK_len (rs := rs) (sp := sp) (n := n) (xss := xss) k (sput d x false) (leftS rs sp (sput d x false) xss)
      simp only [List.length_cons]; omega
def allT (_ : Nat) : Bool := true
def firstS (rs : List Arw) (sp : Int) (n : Nat) (xss : List (List Int)) : List Int := firstK rs sp n xss n allT (leftS rs sp allT xss)
theorem bools_congr {n : Nat} {d d' : Nat → Bool} (h : ∀ j, j < n → d j = d' j) : bools n d = bools n d' := by
  unfold bools
  refine List.map_congr_left fun j hj => ?_
  rw [h j (List.mem_range.1 hj)]
theorem sput_back {d : Nat → Bool} {x : Nat} (h : d x = true) : sput (sput d x false) x true = d := by
  funext y
  simp only [sput]
  split
  · rename_i q; subst q; rw [h]
  · rfl
theorem sput_upto {i : Nat} : sput (upto i allT) i true = upto (i + 1) allT := upto_succ allT i
theorem t69 : tblA 69 = some a69 := by kernel_rfl
theorem fn_first {h : H} {sb n : Nat} {rs : List Arw} {xss : List (List Int)} {sp : Int} {cv vv : V} (s : Srch h sb n rs xss sp cv vv) (ok : Okc n xss) (hn : n ≤ 24) (hxl : xss.length ≤ 24) (hw : Wok rs) :
    WC tblA (.fn 69 [] []) [.p sb 0] h fun u h' => Ext h h' ∧ ∃ ov, u = .tup [ov, .i .i64 (leftS rs sp allT xss)] ∧ Own h 1 h' ov (firstS rs sp n xss).length (ints (firstS rs sp n xss)) := by
  refine (WC_in t69).2 ?_
  simp only [go_sem, ↓reduceIte, r69_0, r69_1, r69_2, s.ln, mkSl_ok (h := h) (c := [.b false]) (bytes := 1) (n := n) (by omega) (by omega), rep_one]
  have e1 : Ext h (h.new (.cells (List.replicate n (.b false)))) := (Ext.refl h).new _
  have g1 : (h.new (.cells (List.replicate n (.b false)))).get h.next = some (.cells (bools n (upto 0 allT))) := by
    rw [get_new_eq rfl]
    congr 2
    apply List.ext_getElem?
    intro j
    by_cases hj : j < n
    · rw [bools_get hj, List.getElem?_replicate, if_pos hj]; simp [upto]
    · rw [List.getElem?_eq_none (by rw [List.length_replicate]; omega), List.getElem?_eq_none (by rw [bools_len]; omega)]
  have n1 : (h.new (.cells (List.replicate n (.b false)))).next = h.next + 1 := by simp
  generalize h.new (.cells (List.replicate n (.b false))) = h1 at *
  refine W_while (fun k t h' => ∃ i, k = n - i ∧ i ≤ n ∧ t.length = 77 ∧ nth t 0 = .p sb 0 ∧ nth t 4 = .sl h.next 0 n n none ∧ nth t 18 = .i .i64 (n : Int) ∧ nth t 19 = .i .i64 (i : Int) ∧ Ext h h' ∧ h.next < h'.next ∧ h'.get h.next = some (.cells (bools n (upto i allT)))) ?_ n ?_
  · rintro k t h2 ⟨i, rfl, hi, tl, t0, t4, t18, t19, e2, n2, g2⟩
    unfold b69_0
    by_cases hlt : i < n
    · have hltI : (i : Int) < (n : Int) := by omega
      simp only [go_sem, ↓reduceIte, r69_3, r69_4, r69_5, r69_6, tl, t0, t4, t18, t19, hltI, ix_own hlt, stb g2 hlt, wrap_succ (show i < 1000000000 by omega)]
      refine ⟨n - (i + 1), by omega, i + 1, rfl, hlt, rfl, e2.put (Nat.le_refl _) _, by simpa using n2, ?_⟩
      rw [H.get_put, if_pos rfl, sput_upto]
    · have hltI : ¬ (i : Int) < (n : Int) := by omega
      obtain rfl : i = n := by omega
      have g2' : h2.get h.next = some (.cells (bools i allT)) := by rw [g2, bools_congr (d' := allT)]; intro j hj; simp [upto, hj]
      simp only [go_sem, ↓reduceIte, r69_3, r69_7, tl, t0, t4, t18, t19, hltI]
      refine (fn_left (s.ext e2) ok hn hxl hw g2').mono ?_
      rintro _ h3 ⟨hh, rfl⟩
      obtain rfl : h2 = h3 := hh.symm
      have s2 := s.ext e2
      simp only [go_sem, ↓reduceIte, r69_8, r69_9, r69_10, tl, t0, t4, s2.ln]
      generalize hlst : leftS rs sp allT xss = least
      refine W_while (fun k t h' => ∃ (j : Nat) (d : Nat → Bool) (rest : Int) (L : List Int) (w : V), k = i - j ∧ j ≤ i ∧ t.length = 77 ∧ nth t 0 = .p sb 0 ∧ nth t 4 = .sl h.next 0 i i none ∧ nth t 6 = .i .i64 least ∧ nth t 7 = w ∧ nth t 8 = .i .i64 rest ∧ nth t 33 = .i .i64 (i : Int) ∧ nth t 34 = .i .i64 (j : Int) ∧ Ext h h' ∧ h.next < h'.next ∧ h'.get h.next = some (.cells (bools i d)) ∧
          Own h 1 h' w L.length (ints L) ∧ (w = .sn ∨ h.next ≠ blkV w) ∧ L.length ≤ j ∧ firstS rs sp i xss = L ++ firstK rs sp i xss (i - j) d rest) ?_ i ?_
      · rintro k t h' ⟨j, d, rest, L, w, rfl, hj, tl, t0, t4, t6, t7, t8, t33, t34, e', n', g', o', hwn, hLj, hF⟩
        unfold b69_2
        have s' := s.ext e'
        by_cases hltj : j < i
        · have hltjI : (j : Int) < (i : Int) := by omega
          obtain ⟨m, hm⟩ : ∃ m, i - j = m + 1 := ⟨i - j - 1, by omega⟩
          rw [hm, firstK] at hF
          simp only [go_sem, ↓reduceIte, r69_11, r69_12, tl, t0, t4, t6, t7, t8, t33, t34, hltjI, s'.ln]
          refine W_while (fun k t h' => ∃ (x : Nat), k = i - x ∧ x ≤ i ∧ t.length = 77 ∧ nth t 0 = .p sb 0 ∧ nth t 4 = .sl h.next 0 i i none ∧ nth t 6 = .i .i64 least ∧ nth t 7 = w ∧ nth t 8 = .i .i64 rest ∧ nth t 33 = .i .i64 (i : Int) ∧ nth t 34 = .i .i64 (j : Int) ∧ nth t 39 = .i .i64 (i : Int) ∧ nth t 40 = .i .i64 (x : Int) ∧ Ext h h' ∧ h.next < h'.next ∧ h'.get h.next = some (.cells (bools i d)) ∧ Own h 1 h' w L.length (ints L) ∧ ∀ y, y < x → pickc rs sp i xss d rest y = false) ?_ i ?_
          · rintro k t h' ⟨x, rfl, hx, tl, t0, t4, t6, t7, t8, t33, t34, t39, t40, e', n', g', o', hno⟩
            unfold b69_1
            have s' := s.ext e'
            by_cases hltx : x < i
            · have hltxI : (x : Int) < (i : Int) := by omega
              have hkeep : pickc rs sp i xss d rest x = false → ∀ y, y < x + 1 → pickc rs sp i xss d rest y = false := by
                intro hp y hy
                by_cases q : y = x
                · subst q; exact hp
                · exact hno y (by omega)
              cases hd : d x
              · simp only [go_sem, ↓reduceIte, r69_13, r69_14, r69_15, r69_24, tl, t0, t4, t6, t7, t8, t33, t34, t39, t40, hltxI, ix_own hltx, ldb g' hltx, hd, wrap_succ (show x < 1000000000 by omega)]
                exact ⟨i - (x + 1), by omega, x + 1, rfl, hltx, rfl, e', n', g', o', hkeep (by simp [pickc, hd])⟩
              · simp only [go_sem, ↓reduceIte, r69_13, r69_14, r69_15, r69_16, tl, t0, t4, t6, t7, t8, t33, t34, t39, t40, hltxI, ix_own hltx, ldb g' hltx, hd]
                refine (fn_nextS s' hn hltx hw g').mono ?_
                rintro _ h4 ⟨hh, rfl⟩
                obtain rfl : h' = h4 := hh.symm
                by_cases hnv : never ≤ nextS rs sp i d x
                · rw [show (r69_17 : List O) = [⟨some 52, none, .mov (.t 10)⟩, ⟨some 53, none, .bin .geq (.t 52) (.c (.i .i64 never))⟩] from rfl]
                  simp only [go_sem, ↓reduceIte, r69_24, tl, t0, t4, t6, t7, t8, t33, t34, t39, t40, hnv, wrap_succ (show x < 1000000000 by omega)]
                  refine ⟨i - (x + 1), by omega, x + 1, rfl, hltx, rfl, e', n', g', o', hkeep ?_⟩
                  have : ¬ nextS rs sp i d x < never := by omega
                  simp [pickc, this]
                · have hlt2 : nextS rs sp i d x < never := by omega
                  rw [show (r69_17 : List O) = [⟨some 52, none, .mov (.t 10)⟩, ⟨some 53, none, .bin .geq (.t 52) (.c (.i .i64 never))⟩] from rfl]
                  simp only [go_sem, ↓reduceIte, r69_18, r69_19, tl, t0, t4, t6, t7, t8, t33, t34, t39, t40, hnv, ix_own hltx, stb g' hltx]
                  have e5 : Ext h (h'.put h.next (.cells (bools i (sput d x false)))) := e'.put (Nat.le_refl _) _
                  have g5 : (h'.put h.next (.cells (bools i (sput d x false)))).get h.next = some (.cells (bools i (sput d x false))) := by rw [H.get_put, if_pos rfl]
                  have n5 : h.next < (h'.put h.next (.cells (bools i (sput d x false)))).next := by simpa using n'
                  have o5 : Own h 1 (h'.put h.next (.cells (bools i (sput d x false)))) w L.length (ints L) := by
                    obtain ⟨hl, o | ⟨b, g, rfl, hv, q1, q2, q3⟩⟩ := o'
                    · exact ⟨hl, .inl o⟩
                    · refine ⟨hl, .inr ⟨b, g, rfl, hv, q1, by simpa using q2, ?_⟩⟩
                      rw [H.get_put, if_neg]
                      · exact q3
                      · rcases hwn with z | z
                        · cases z
                        · exact fun q => z q.symm
                  generalize h'.put h.next (.cells (bools i (sput d x false))) = h5 at *
                  have s5 := s.ext e5
                  refine (fn_left s5 ok hn hxl hw g5).mono ?_
                  rintro _ h6 ⟨hh, rfl⟩
                  obtain rfl : h5 = h6 := hh.symm
                  have b1 := nextS_bound (sp := sp) (d := d) (x := x) hw hn
                  have b2 := leftS_bound (sp := sp) (d := sput d x false) hw xss fun c hc => by have := (ok c hc).1; omega
                  have hsum : IntKind.i64.wrap (nextS rs sp i d x + leftS rs sp (sput d x false) xss) = nextS rs sp i d x + leftS rs sp (sput d x false) xss := by
                    unfold never at b1 b2
                    exact wrap_in (by omega) (by omega)
                  by_cases heq : nextS rs sp i d x + leftS rs sp (sput d x false) xss = rest
                  · have hpick : pickc rs sp i xss d rest x = true := by simp [pickc, hd, hlt2, heq]
                    rw [find_range hltx hpick hno] at hF
                    obtain ⟨w', h7, r1, r2, r3, r4, r5, r6⟩ := app_int' (x : Int) o5 e5 (by omega)
                    have g7 : h7.get h.next = some (.cells (bools i (sput d x false))) := (r5 h.next n5 hwn).trans g5
                    simp only [go_sem, ↓reduceIte, r69_20, tl, t0, t4, t6, t7, t8, t33, t34, t39, t40, hsum]
                    simp only [go_sem, ↓reduceIte, r69_21, r69_22, r69_25, tl, t0, t4, t6, t7, t8, t33, t34, t39, t40, heq, r1, wrap_succ (show j < 1000000000 by omega)]
                    refine ⟨i - (j + 1), by omega, j + 1, sput d x false, leftS rs sp (sput d x false) xss, L ++ [(x : Int)], w', rfl, hltj, rfl, rfl, rfl, r2, by omega, g7, by rw [List.length_append]; exact r3, .inr (by omega), by simp; omega, ?_⟩
                    rw [hF, show i - (j + 1) = m by omega]
                    simp
                  · have hback := sput_back hd
                    have hst := stb (v := true) g5 hltx
                    rw [hback] at hst
                    have o7 : Own h 1 (h5.put h.next (.cells (bools i d))) w L.length (ints L) := by
                      obtain ⟨hl, o | ⟨b, g, rfl, hv, q1, q2, q3⟩⟩ := o5
                      · exact ⟨hl, .inl o⟩
                      · refine ⟨hl, .inr ⟨b, g, rfl, hv, q1, by simpa using q2, ?_⟩⟩
                        rw [H.get_put, if_neg]
                        · exact q3
                        · rcases hwn with z | z
                          · cases z
                          · exact fun q => z q.symm
                    simp only [go_sem, ↓reduceIte, r69_20, tl, t0, t4, t6, t7, t8, t33, t34, t39, t40, hsum]
                    simp only [go_sem, ↓reduceIte, r69_23, r69_24, tl, t0, t4, t6, t7, t8, t33, t34, t39, t40, heq, ix_own hltx, hst, wrap_succ (show x < 1000000000 by omega)]
                    exact ⟨i - (x + 1), by omega, x + 1, rfl, hltx, rfl, e5.put (Nat.le_refl _) _, by simpa using n5, by rw [H.get_put, if_pos rfl], o7, hkeep (by simp [pickc, heq])⟩
            · have hltxI : ¬ (x : Int) < (i : Int) := by omega
              obtain rfl : x = i := by omega
              rw [find_range_none hno] at hF
              simp only [go_sem, ↓reduceIte, r69_13, r69_25, tl, t0, t4, t6, t7, t8, t33, t34, t39, t40, hltxI, wrap_succ (show j < 1000000000 by omega)]
              refine ⟨x - (j + 1), by omega, j + 1, d, rest, L, w, rfl, hltj, rfl, rfl, rfl, e', n', g', o', hwn, by omega, ?_⟩
              rw [hF, show x - (j + 1) = m by omega]
          · refine ⟨0, by omega, by omega, ?_⟩
            simp only [go_sem, ↓reduceIte, tl, t0, t4, t6, t7, t8, t33, t34]
            exact ⟨e', n', g', o', fun y hy => by omega⟩
        · have hltjI : ¬ (j : Int) < (i : Int) := by omega
          rw [show i - j = 0 by omega, firstK, List.append_nil] at hF
          simp only [go_sem, ↓reduceIte, r69_11, r69_26, tl, t0, t4, t6, t7, t8, t33, t34, hltjI]
          rw [hF]
          exact ⟨e', w, rfl, o'⟩
      · refine ⟨0, allT, least, [], .sn, by omega, by omega, ?_⟩
        simp only [go_sem, ↓reduceIte, tl, t0, t4]
        refine ⟨e2, n2, g2', .nil, .inl trivial, Nat.le_refl _, ?_⟩
        rw [firstS, hlst, List.nil_append, Nat.sub_zero]
  · refine ⟨0, by omega, by omega, ?_⟩
    simp only [go_sem, ↓reduceIte]
    exact ⟨e1, by omega, g1⟩
end Go.Air
set_option maxRecDepth 100000
namespace Go.Air
open Go.Air.Try
def RowsO (h0 h : H) (w : V) (xss : List (List Int)) : Prop := ∃ cs, Own h0 1 h w xss.length cs ∧ ∀ (j : Nat) (xs : List Int), xss[j]? = some xs → ∃ c, cs[j]? = some c ∧ Own h0 1 h c xs.length (ints xs) ∧ (w = .sn ∨ c = .sn ∨ blkV c ≠ blkV w)
theorem RowsO.nil {h0 h : H} : RowsO h0 h .sn [] := ⟨[], .nil, fun j xs hj => by simp at hj⟩
theorem RowsO.ll {h0 h : H} {w : V} {xss : List (List Int)} (r : RowsO h0 h w xss) : LL h w xss := by
  obtain ⟨cs, o, hc⟩ := r
  refine ⟨cs, by simpa using o.sl, fun j xs hj => ?_⟩
  obtain ⟨c, q1, q2, _⟩ := hc j xs hj
  exact ⟨c, q1, q2.ints⟩
theorem RowsO.mono {h0 h1 h : H} {w : V} {xss : List (List Int)} (r : RowsO h1 h w xss) (hn : h0.next ≤ h1.next) : RowsO h0 h w xss := by
  obtain ⟨cs, o, hc⟩ := r
  refine ⟨cs, o.mono hn, fun j xs hj => ?_⟩
  obtain ⟨c, q1, q2, q3⟩ := hc j xs hj
  exact ⟨c, q1, q2.mono hn, q3⟩
theorem RowsO.keepX {X : Nat → Prop} {h0 h h' : H} {w : V} {xss : List (List Int)} (r : RowsO h0 h w xss) (e : ExtX X h h') (hX : ∀ b, X b → b < h0.next) : RowsO h0 h' w xss := by
  obtain ⟨cs, o, hc⟩ := r
  refine ⟨cs, o.keepX e hX, fun j xs hj => ?_⟩
  obtain ⟨c, q1, q2, q3⟩ := hc j xs hj
  exact ⟨c, q1, q2.keepX e hX, q3⟩
theorem RowsO.ext {h0 h h' : H} {w : V} {xss : List (List Int)} (r : RowsO h0 h w xss) (e : Ext h h') : RowsO h0 h' w xss := r.keepX (X := fun _ => False) (.of e) (fun _ hb => hb.elim)
theorem Own.keepB {esz n : Nat} {h0 h h' : H} {v w : V} {cs : List V} (o : Own h0 esz h v n cs) (hn : h.next ≤ h'.next) (k : ∀ b, b < h.next → (w = .sn ∨ b ≠ blkV w) → h'.get b = h.get b) (hv : w = .sn ∨ v = .sn ∨ blkV v ≠ blkV w) : Own h0 esz h' v n cs := by
  obtain ⟨hl, o | ⟨b, g, rfl, hg, h1, h2, hb⟩⟩ := o
  · exact ⟨hl, .inl o⟩
  · refine ⟨hl, .inr ⟨b, g, rfl, hg, h1, by omega, ?_⟩⟩
    rw [k b h2]
    · exact hb
    · rcases hv with z | z | z
      · exact .inl z
      · cases z
      · exact .inr z
theorem Own.wlt' {h0 h : H} {v : V} {n esz : Nat} {cs : List V} (o : Own h0 esz h v n cs) : v = .sn ∨ (h0.next ≤ blkV v ∧ blkV v < h.next) := by
  obtain ⟨hl, ⟨_, rfl⟩ | ⟨b, g, rfl, hg, h1, h2, hb⟩⟩ := o
  · exact .inl rfl
  · exact .inr ⟨h1, h2⟩
theorem RowsO.step {h0 h g : H} {w w' u : V} {xss : List (List Int)} {xs : List Int} {cs : List V} (hc : ∀ (j : Nat) (xs : List Int), xss[j]? = some xs → ∃ c, cs[j]? = some c ∧ Own h0 1 h c xs.length (ints xs) ∧ (w = .sn ∨ c = .sn ∨ blkV c ≠ blkV w))
    (hl : cs.length = xss.length) (iu : Own h0 1 h u xs.length (ints xs)) (u3 : w = .sn ∨ u = .sn ∨ blkV u ≠ blkV w)
    (o : Own h0 1 g w' (xss.length + 1) (cs ++ [u])) (n : h.next < g.next) (k : ∀ b, b < h.next → (w = .sn ∨ b ≠ blkV w) → g.get b = h.get b) (hb : h.next < blkV w') : RowsO h0 g w' (xss ++ [xs]) := by
  refine ⟨cs ++ [u], by simpa using o, fun j ys hj => ?_⟩
  by_cases hjl : j < xss.length
  · rw [List.getElem?_append_left hjl] at hj
    obtain ⟨c, q1, q2, q3⟩ := hc j ys hj
    refine ⟨c, by rw [List.getElem?_append_left (by omega)]; exact q1, q2.keepB (Nat.le_of_lt n) k q3, ?_⟩
    rcases q2.wlt' with z | z
    · exact .inr (.inl z)
    · exact .inr (.inr (by omega))
  · have hlt := (List.getElem?_eq_some_iff.1 hj).1
    simp at hlt
    obtain rfl : j = xss.length := by omega
    rw [List.getElem?_append_right (by omega)] at hj
    simp at hj
    subst hj
    refine ⟨u, by rw [List.getElem?_append_right (by omega)]; simp [hl], iu.keepB (Nat.le_of_lt n) k u3, ?_⟩
    rcases iu.wlt' with z | z
    · exact .inr (.inl z)
    · exact .inr (.inr (by omega))
def Z580 : List V := List.replicate 577 (.i .i64 0) ++ [.sn, .sn] ++ [.i .i64 0]
def fillS (x y z u : V) : Option (List V) := fill [x, y, z, u] Z580 [(0, 576, .t 0), (576, 1, .t 1), (577, 1, .t 2), (579, 1, .t 3)]
@[go_sem] theorem fill_search {t : List V} {x y z u : X} : fill t (List.replicate 577 (.i .i64 0) ++ [.sn, .sn] ++ [.i .i64 0]) [(0, 576, x), (576, 1, y), (577, 1, z), (579, 1, u)] = fillS (x.ev t) (y.ev t) (z.ev t) (u.ev t) := rfl
theorem fillS_eq {g : List V} {a b c : V} (hg : g.length = 576) (ha : a.cells = [a]) (hb : b.cells = [b]) (hc : c.cells = [c]) : fillS (.agg g) a b c = some (g ++ [a, b, .sn, c]) := by
  have hZ : Z580 = List.replicate 576 (.i .i64 0) ++ [.i .i64 0, .sn, .sn, .i .i64 0] := by
    unfold Z580
    rw [show 577 = 576 + 1 by rfl, List.replicate_succ']
    simp only [List.append_assoc]; rfl
  have l0 : lay Z580 0 g = some (g ++ [.i .i64 0, .sn, .sn, .i .i64 0]) := by
    rw [hZ]
    refine lay_eq.2 ⟨by simp [hg], ?_⟩
    simp [hg]
  have l1 : lay (g ++ [.i .i64 0, .sn, .sn, .i .i64 0]) 576 [a] = some (g ++ [a, .sn, .sn, .i .i64 0]) := by
    refine lay_eq.2 ⟨by simp [hg], ?_⟩
    rw [← hg, List.take_left, show g.length + [a].length = (g ++ [V.i .i64 0]).length by simp, show g ++ [V.i .i64 0, .sn, .sn, .i .i64 0] = (g ++ [V.i .i64 0]) ++ [.sn, .sn, .i .i64 0] by simp, List.drop_left]
    simp
  have l2 : lay (g ++ [a, .sn, .sn, .i .i64 0]) 577 [b] = some (g ++ [a, b, .sn, .i .i64 0]) := by
    refine lay_eq.2 ⟨by simp [hg], ?_⟩
    have h577 : 577 = (g ++ [a]).length := by simp [hg]
    rw [show g ++ [a, .sn, .sn, V.i .i64 0] = (g ++ [a]) ++ [.sn, .sn, .i .i64 0] by simp, h577, List.take_left, show (g ++ [a]).length + [b].length = ((g ++ [a]) ++ [V.sn]).length by simp, show (g ++ [a]) ++ [.sn, .sn, V.i .i64 0] = ((g ++ [a]) ++ [V.sn]) ++ [.sn, .i .i64 0] by simp, List.drop_left]
    simp
  have l3 : lay (g ++ [a, b, .sn, .i .i64 0]) 579 [c] = some (g ++ [a, b, .sn, c]) := by
    refine lay_eq.2 ⟨by simp [hg], ?_⟩
    have h579 : 579 = (g ++ [a, b, .sn]).length := by simp [hg]
    rw [show g ++ [a, b, .sn, V.i .i64 0] = (g ++ [a, b, .sn]) ++ [.i .i64 0] by simp, h579, List.take_left, List.drop_of_length_le (by simp)]
    simp
  have s0 : Nat.beq g.length 576 = true := by rw [hg]; rfl
  simp only [fillS, fill, ev_t, nth_0, nth_1, nth_2, nth_3, agg_cells, s0, l0, ha, hb, hc, l1, l2, l3, if_true, List.length_cons, List.length_nil, Nat.zero_add, beq_self']
theorem st_any0 {h : H} {b k : Nat} {cs : List V} {x : V} (hg : h.get b = some (.cells cs)) (h1 : x.cells = [x]) (h2 : x.oneCell = true) (hk : k < cs.length) : stV h 1 (.p b k) x = some (h.put b (.cells (cs.set k x))) := by
  have := st_any (k := k) hg h1 h2 hk
  rwa [show 0 + k * 1 = k by omega] at this
theorem LL.one {h : H} {v : V} {xss : List (List Int)} (s : LL h v xss) : v.cells = [v] ∧ v.oneCell = true := by
  obtain ⟨cs, q, _⟩ := s
  exact arg_cells q
def s68_5a : List O := [⟨some 24, none, .mov (.t 7)⟩, ⟨some 25, none, .mov (.t 7)⟩, ⟨some 26, none, .nilck (.t 25)⟩, ⟨some 27, none, .fld 578 (.t 26)⟩, ⟨some 28, none, .ld (.t 27)⟩, ⟨some 29, none, .mov (.t 7)⟩,
  ⟨some 30, none, .nilck (.t 29)⟩, ⟨some 31, none, .fld 0 (.t 30)⟩, ⟨some 32, none, .mov (.t 9)⟩, ⟨some 33, none, .mov (.t 2)⟩, ⟨some 34, none, .call (.f 110) [(.t 31), (.t 32), (.t 33)]⟩]
def s68_5b : List O := [⟨some 35, none, .buildSl [.sn] 1 [(0, 1, (.t 34))]⟩, ⟨some 36, none, .app 1 24 (.t 28) (.t 35)⟩, ⟨some 37, none, .nilck (.t 24)⟩, ⟨some 38, none, .fld 578 (.t 37)⟩, ⟨none, none, .st 1 (.t 38) (.t 36)⟩]
theorem r68_5_eq : r68_5 = s68_5a ++ s68_5b := rfl
def srchC (rs : List Arw) (n : Nat) (cv w : V) (sp : Int) : List V := ints (gridL rs) ++ [.i .i64 (n : Int), cv, w, .i .i64 sp]
theorem srchC_len {rs : List Arw} {n : Nat} {cv w : V} {sp : Int} : (srchC rs n cv w sp).length = 580 := by simp [srchC, ints_len, gridL_len]
theorem srchC_set {rs : List Arw} {n : Nat} {cv w w' : V} {sp : Int} : (srchC rs n cv w sp).set 578 w' = srchC rs n cv w' sp := by
  unfold srchC
  rw [List.set_append_right _ _ (by rw [ints_len, gridL_len]; omega), ints_len, gridL_len]
  rfl
theorem srchC_at {rs : List Arw} {n : Nat} {cv w : V} {sp : Int} {k : Nat} {x : V} (hx : ([.i .i64 (n : Int), cv, w, .i .i64 sp] : List V)[k]? = some x) : (srchC rs n cv w sp)[576 + k]? = some x := by
  unfold srchC
  rw [List.getElem?_append_right (by rw [ints_len, gridL_len]; omega), ints_len, gridL_len, Nat.add_sub_cancel_left]
  exact hx
theorem srchC_grid {h : H} {sb n : Nat} {rs : List Arw} {cv w : V} {sp : Int} (hb : sb < h.next) (g : h.get sb = some (.cells (srchC rs n cv w sp))) : Grid h sb rs := by
  refine ⟨hb, _, g, fun a b ha hb => ?_⟩
  unfold srchC
  rw [List.getElem?_append_left (by rw [ints_len, gridL_len]; omega)]
  exact ints_at (by rw [show 0 + a * 24 + b * 1 = a * 24 + b by omega]; exact gridL_get ha hb)
theorem t68 : tblA 68 = some a68 := by kernel_rfl
theorem fn_begin {h : H} {n : Nat} {v cv : V} {rs : List Arw} {xss : List (List Int)} {sp : Int} (hr : Arrs h v rs) (hrn : rs.length ≤ 1000000) (gr : GoodR (n : Int) rs) (hn : n ≤ 24) (hc : LL h cv xss) (ok : Okc n xss) (hxl : xss.length ≤ 24) :
    WC tblA (.fn 68 [] []) [.agg [.i .i64 (n : Int), v], cv, .i .i64 sp] h fun u h' => Ext h h' ∧ ∃ sb vv, u = .p sb 0 ∧ h.next ≤ sb ∧ Srch h' sb n rs xss sp cv vv ∧ RowsO h h' vv (xss.map (tabF rs sp)) := by
  refine (WC_in t68).2 ?_
  have hw : Wok rs := wok_of gr.1
  obtain ⟨e0, g0⟩ := rel_blk h (n : Int) v
  simp only [go_sem, ↓reduceIte, r68_0]
  have hr0 := hr.ext e0
  have n0 : (h.new (.cells [.i .i64 (n : Int), v])).next = h.next + 1 := by simp
  generalize hh : h.new (.cells [.i .i64 (n : Int), v]) = h0 at *
  have l0 : ldnV h0 2 (.p h.next 0) = some (.agg [.i .i64 (n : Int), v]) := blk_ldn g0 rfl
  apply W_pure (by simp [r68_1])
  simp only [go_sem, ↓reduceIte, r68_1, l0]
  refine (fn_weigh (h := h0.bare) (Sl.bare hr0) hrn gr (by omega)).mono ?_
  rintro _ h1 ⟨e1, rfl⟩
  have hold := e1.old
  replace e1 := e1.back
  simp only [go_sem, ↓reduceIte, hold]
  generalize h0.back h1 = h2 at *
  have l1 : ldV h2 (.p h.next 0) = some (.i .i64 (n : Int)) := blk_ld (e1.get (by omega) g0) rfl
  have hcone := hc.one
  have hfs := fillS_eq (g := ints (gridL rs)) (a := .i .i64 (n : Int)) (b := cv) (c := .i .i64 sp) (by rw [ints_len, gridL_len]) rfl hcone.1 rfl
  simp only [go_sem, ↓reduceIte, l1, hfs]
  have eB : Ext h (h2.new (.cells (srchC rs n cv .sn sp))) := (e0.trans e1).new _
  have gB : (h2.new (.cells (srchC rs n cv .sn sp))).get h2.next = some (.cells (srchC rs n cv .sn sp)) := get_new_eq rfl
  have nB : (h2.new (.cells (srchC rs n cv .sn sp))).next = h2.next + 1 := by simp
  have hsb : h.next ≤ h2.next := (e0.trans e1).nx
  rw [show ints (gridL rs) ++ [.i .i64 (n : Int), cv, .sn, .i .i64 sp] = srchC rs n cv .sn sp from rfl]
  generalize h2.next = sb at *
  generalize h2.new (.cells (srchC rs n cv .sn sp)) = hB at *
  have hcB := hc.ext eB
  have hLs : ∀ (h' : H) (w : V), ExtX (· = sb) hB h' → LL h' cv xss := by
    intro h' w x
    obtain ⟨cs, s1, s2⟩ := hc
    have kX : ∀ {esz n : Nat} {u : V} {ds : List V}, Sl esz h u n ds → Sl esz h' u n ds := by
      intro esz n u ds q
      have q' := q.ext eB
      refine q'.keepX x ?_
      rcases q with ⟨_, _, z | z⟩ | ⟨b, off, cap, g, bl, rfl, hb, _⟩
      · exact .inl z
      · exact .inr (.inl z)
      · exact .inr (.inr (show ¬ b = sb by omega))
    exact ⟨cs, kX s1, fun j xs hj => let ⟨c, q1, q2⟩ := s2 j xs hj; ⟨c, q1, kX q2⟩⟩
  simp only [go_sem, ↓reduceIte, r68_2, hcB.len]
  refine W_while (fun k t h' => ∃ (i : Nat) (w : V), k = xss.length - i ∧ i ≤ xss.length ∧ t.length = 41 ∧ nth t 2 = .i .i64 sp ∧ nth t 7 = .p sb 0 ∧ nth t 18 = cv ∧ nth t 19 = .i .i64 (xss.length : Int) ∧ nth t 20 = .i .i64 (i : Int) ∧ ExtX (· = sb) hB h' ∧ h'.get sb = some (.cells (srchC rs n cv w sp)) ∧ RowsO hB h' w ((xss.take i).map (tabF rs sp))) ?_ xss.length ?_
  · rintro k t h' ⟨i, w, rfl, hi, tl, t2, t7, t18, t19, t20, x', g', r'⟩
    unfold b68_0
    have hc' := hLs h' w x'
    have nx' := x'.nx
    by_cases hlt : i < xss.length
    · have hltI : (i : Int) < (xss.length : Int) := by omega
      obtain ⟨c, hx⟩ : ∃ c, xss[i]? = some c := ⟨_, List.getElem?_eq_getElem hlt⟩
      obtain ⟨hc10, hcd, _⟩ := ok c (List.mem_of_getElem? hx)
      have hgst := ok.gst hn (List.mem_of_getElem? hx)
      obtain ⟨u, hl, hi1⟩ := hc'.ld hx
      simp only [go_sem, ↓reduceIte, r68_3, r68_4, tl, t2, t7, t18, t19, t20, hltI, hc'.ix hlt, hl]
      rw [r68_5_eq]
      apply W_crit (by simp [s68_5a])
      have lw : ldV h' (.p sb 578) = some w := blk_ld g' (srchC_at (k := 2) rfl)
      simp only [go_sem, ↓reduceIte, s68_5a, tl, t2, t7, t18, t19, t20, lw]
      refine (fn_table (h := h'.bare) (show Grid h'.bare sb rs from srchC_grid (h := h') (by omega) g') (Sl.bare hi1) rfl hc10 hgst hw).mono ?_
      rintro tv h3 ⟨e3, o3⟩
      have hold3 := e3.old
      replace e3 := e3.back
      have o3' : Own h' 1 (h'.back h3) tv (tabF rs sp c).length (ints (tabF rs sp c)) := by rw [tabF_len]; exact o3
      simp only [go_sem, ↓reduceIte, hold3, tl]
      generalize h'.back h3 = h4 at *
      have n4 := e3.nx
      have r4 := r'.ext e3
      have hone := o3'.one
      obtain ⟨cs, o, hcs⟩ := r4
      have rT : Own (trunc hB.next h4) 1 h4 w ((xss.take i).map (tabF rs sp)).length cs := o
      have hp := o3'.pos (by rw [tabF_len]; exact Nat.two_pow_pos _)
      obtain ⟨w', hb, g4, q0, q1, q2, q3, q4, q5, q6⟩ := app_refB (u := tv) rT (trunc_ext (by omega)) hone.2 (by simp; omega)
      have hwl : w = .sn ∨ blkV w < h'.next := by
        obtain ⟨cs', o', _⟩ := r'
        exact o'.wlt
      have rows' : RowsO hB g4 w' ((xss.take i).map (tabF rs sp) ++ [tabF rs sp c]) := RowsO.step hcs (by simpa using o.len) (o3'.mono (by omega)) (by
        rcases hwl with z | z
        · exact .inl z
        · exact .inr (.inr (by omega))) q3 q4 q5 q6
      have x4 : ExtX (· = sb) hB g4 := (x'.trans (.of e3)).tr q2
      have gsb : g4.get sb = some (.cells (srchC rs n cv w sp)) := by
        rw [q2.same sb (show sb < hB.next by omega)]
        exact e3.get (by omega) g'
      have hw1 : w'.cells = [w'] ∧ w'.oneCell = true := q3.one
      have hst := st_any0 (h := g4.bare) (k := 578) (x := w') gsb hw1.1 hw1.2 (by rw [srchC_len]; omega)
      rw [srchC_set] at hst
      have hbk := back_put (h := g4) (b := sb) (by have := x4.nx; omega)
      simp only [go_sem, ↓reduceIte, s68_5b, r68_6, tl, t2, t7, t18, t19, t20, fill1_of hone.1, q0, q1, hst, hbk, wrap_succ (show i < 1000000000 by omega)]
      refine ⟨xss.length - (i + 1), by omega, i + 1, w', rfl, hlt, rfl, x4.put (.inr rfl) _, by rw [H.get_put, if_pos rfl], ?_⟩
      rw [take_succ' hx, List.map_append]
      exact rows'.keepX (X := (· = sb)) ((ExtX.refl (· = sb) g4).put (.inr rfl) _) (fun b hb => by omega)
    · have hltI : ¬ (i : Int) < (xss.length : Int) := by omega
      simp only [go_sem, ↓reduceIte, r68_3, r68_7, tl, t2, t7, t18, t19, t20, hltI]
      rw [List.take_of_length_le (by omega)] at r'
      exact ⟨x'.ext eB (fun b hb => by omega), sb, w, rfl, hsb, ⟨by omega, g', hc', r'.ll⟩, r'.mono eB.nx⟩
  · refine ⟨0, .sn, by omega, by omega, ?_⟩
    simp only [go_sem, ↓reduceIte, List.take_zero, List.map_nil]
    exact ⟨.refl _ _, gB, .nil⟩
end Go.Air
set_option maxRecDepth 100000
namespace Go.Air
open Go.Air.Try
theorem setL_nodup (n : Nat) (s : Nat → Bool) : (setL n s).Nodup := by
  unfold setL
  refine List.Pairwise.map _ ?_ (List.Pairwise.filter _ List.nodup_range)
  intro a b h
  omega
theorem comps_mem {R : Nat → Nat → Bool} {n : Nat} {c : List Int} : ∀ {k : Nat} {d : Nat → Bool}, c ∈ comps R n k d → ∃ a, a < n ∧ freeG R n d a = true ∧ c = setL n (mate R n a) ∨ ∃ a d', a < n ∧ freeG R n d' a = true ∧ c = setL n (mate R n a)
  | 0, d, h => by simp [comps] at h
  | k + 1, d, h => by
    rw [comps] at h
    split at h
    · simp at h
    · rename_i a hf
      obtain ⟨ha, hfr⟩ := free_find hf
      rcases List.mem_cons.1 h with rfl | h
      · exact ⟨a, .inl ⟨ha, hfr, rfl⟩⟩
      · obtain ⟨b, q⟩ := comps_mem h
        refine ⟨b, .inr ?_⟩
        rcases q with ⟨q1, q2, q3⟩ | q
        · exact ⟨b, _, q1, q2, q3⟩
        · exact q
theorem circ_mem {N : Int} {rs : List Arw} {c : List Int} (h : c ∈ circR N rs) : ∃ n a : Nat, N = (n : Int) ∧ n ≤ 24 ∧ a < n ∧ c = setL n (mate (rch (eA rs)) n a) ∧ 2 ≤ c.length := by
  obtain ⟨h1, h2⟩ := List.mem_filter.1 h
  unfold compsR at h1
  split at h1
  · rename_i hc
    obtain ⟨n, rfl, hn, _⟩ := check_ok hc
    obtain ⟨a, q⟩ := comps_mem h1
    simp only [Int.toNat_natCast] at q
    rcases q with ⟨q1, _, q3⟩ | ⟨b, _, q1, _, q3⟩
    · exact ⟨n, a, rfl, hn, q1, q3, by simpa [big] using h2⟩
    · exact ⟨n, b, rfl, hn, q1, q3, by simpa [big] using h2⟩
  · simp at h1
theorem circ_ok {n : Nat} {rs : List Arw} (h : circE (circR (n : Int) rs) = 0) : Okc n (circR (n : Int) rs) := by
  intro c hc
  obtain ⟨n', a, hn', _, _, rfl, _⟩ := circ_mem hc
  obtain rfl : n' = n := by omega
  refine ⟨?_, setL_nodup _ _, fun y hy => ?_⟩
  · unfold circE at h
    split at h
    · omega
    · rename_i hno
      have : ¬ 10 < (setL n' (mate (rch (eA rs)) n' a)).length := fun q => hno ⟨_, hc, q⟩
      omega
  · obtain ⟨j, rfl, hj, _⟩ := setL_mem.1 hy
    exact ⟨j, rfl, hj⟩
def TBx (hA hv h : H) (v : V) (tb : List (List Int × List Int)) : Prop := ∃ cs, Own hv 2 h v tb.length cs ∧ ∀ (j : Nat) (g vals : List Int), tb[j]? = some (g, vals) → ∃ c1 c2, cs[j * 2]? = some c1 ∧ cs[j * 2 + 1]? = some c2 ∧
  Own hA 1 h c1 g.length (ints g) ∧ Own hA 1 h c2 vals.length (ints vals) ∧ (v = .sn ∨ c1 = .sn ∨ blkV c1 ≠ blkV v) ∧ (v = .sn ∨ c2 = .sn ∨ blkV c2 ≠ blkV v)
def TBo (h0 h : H) (v : V) (tb : List (List Int × List Int)) : Prop := TBx h0 h0 h v tb
def TB (h : H) (v : V) (tb : List (List Int × List Int)) : Prop := ∃ cs, Sl 2 h v tb.length cs ∧ ∀ (j : Nat) (g vals : List Int), tb[j]? = some (g, vals) → ∃ c1 c2, cs[j * 2]? = some c1 ∧ cs[j * 2 + 1]? = some c2 ∧ Ints h c1 g ∧ Ints h c2 vals
section
variable {hA hv h h' : H} {v : V} {tb : List (List Int × List Int)}
theorem TBx.nil : TBx hA hv h .sn [] := ⟨[], .nil, fun j g vals hj => by simp at hj⟩
theorem TBx.rd (r : TBx hA hv h v tb) : TB h v tb := by
  obtain ⟨cs, o, hc⟩ := r
  refine ⟨cs, o.sl, fun j g vals hj => ?_⟩
  obtain ⟨c1, c2, q1, q2, q3, q4, _⟩ := hc j g vals hj
  exact ⟨c1, c2, q1, q2, q3.ints, q4.ints⟩
theorem TB.ext (r : TB h v tb) (e : Ext h h') : TB h' v tb := by
  obtain ⟨cs, s, hc⟩ := r
  refine ⟨cs, s.ext e, fun j g vals hj => ?_⟩
  obtain ⟨c1, c2, q1, q2, q3, q4⟩ := hc j g vals hj
  exact ⟨c1, c2, q1, q2, q3.ext e, q4.ext e⟩
theorem TBx.ext (r : TBx hA hv h v tb) (e : Ext h h') : TBx hA hv h' v tb := by
  obtain ⟨cs, o, hc⟩ := r
  refine ⟨cs, o.ext e, fun j g vals hj => ?_⟩
  obtain ⟨c1, c2, q1, q2, q3, q4, q5⟩ := hc j g vals hj
  exact ⟨c1, c2, q1, q2, q3.ext e, q4.ext e, q5⟩
theorem TBx.mono {hA' hv' : H} (r : TBx hA hv h v tb) (h1 : hA'.next ≤ hA.next) (h2 : hv'.next ≤ hv.next) : TBx hA' hv' h v tb := by
  obtain ⟨cs, o, hc⟩ := r
  refine ⟨cs, o.mono h2, fun j g vals hj => ?_⟩
  obtain ⟨c1, c2, q1, q2, q3, q4, q5⟩ := hc j g vals hj
  exact ⟨c1, c2, q1, q2, q3.mono h1, q4.mono h1, q5⟩
theorem Own.keepN {esz n p : Nat} {h0 h h' : H} {v : V} {cs : List V} (o : Own h0 esz h v n cs) (x : ExtX (· = p) h h') (hv : v = .sn ∨ blkV v ≠ p) : Own h0 esz h' v n cs := by
  obtain ⟨hl, o | ⟨b, g, rfl, hg, h1, h2, hb⟩⟩ := o
  · exact ⟨hl, .inl o⟩
  · refine ⟨hl, .inr ⟨b, g, rfl, hg, h1, Nat.lt_of_lt_of_le h2 x.nx, ?_⟩⟩
    rw [x.same b h2]
    · exact hb
    · rcases hv with z | z
      · cases z
      · exact z
theorem app_twoB {h0 h : H} {w u1 u2 : V} {cs : List V} {n : Nat} (o : Own h0 2 h w n cs) (e : Ext h0 h) (hu1 : u1.oneCell = true) (hu2 : u2.oneCell = true) (hn : n ≤ 1000000) :
    ∃ w' hb g, appendV 2 48 (h.new (.cells [u1, u2])).bare w (.sl h.next 0 1 1 none) = .ok w' hb ∧ (h.new (.cells [u1, u2])).back hb = g ∧ Ext h0 g ∧ Own h0 2 g w' (n + 1) (cs ++ [u1, u2]) ∧ h.next < g.next ∧ (∀ b, b < h.next → (w = .sn ∨ b ≠ blkV w) → g.get b = h.get b) ∧ h.next < blkV w' := by
  obtain ⟨o3, x3⟩ := Own.lit (esz := 2) (Ext.refl h) [u1, u2] 1 rfl
  obtain ⟨w', hb, g, r1, r2, r3, r4, r5, r6, r7⟩ := Own.appB (bytes := 48) (o.ext x3) (e.trans x3) o3.sl (by
    intro y hy
    simp at hy
    rcases hy with rfl | rfl
    · exact hu1
    · exact hu2) (by omega) (by omega) (by omega)
  refine ⟨w', hb, g, r1, r2, r3, r4, by simp at r5; omega, fun b hb hw => ?_, by rw [r7 (by omega)]; simp⟩
  rw [r6 b (by simp; omega) hw, H.get_new, if_neg (by omega)]
theorem TBx.step {g : H} {w w' u1 u2 : V} {gs vs : List Int} {cs : List V} (hc : ∀ (j : Nat) (g vals : List Int), tb[j]? = some (g, vals) → ∃ c1 c2, cs[j * 2]? = some c1 ∧ cs[j * 2 + 1]? = some c2 ∧
      Own hA 1 h c1 g.length (ints g) ∧ Own hA 1 h c2 vals.length (ints vals) ∧ (w = .sn ∨ c1 = .sn ∨ blkV c1 ≠ blkV w) ∧ (w = .sn ∨ c2 = .sn ∨ blkV c2 ≠ blkV w))
    (hl : cs.length = tb.length * 2) (i1 : Own hA 1 h u1 gs.length (ints gs)) (i2 : Own hA 1 h u2 vs.length (ints vs)) (n1 : w = .sn ∨ u1 = .sn ∨ blkV u1 ≠ blkV w) (n2 : w = .sn ∨ u2 = .sn ∨ blkV u2 ≠ blkV w)
    (o : Own hv 2 g w' (tb.length + 1) (cs ++ [u1, u2])) (n : h.next < g.next) (k : ∀ b, b < h.next → (w = .sn ∨ b ≠ blkV w) → g.get b = h.get b) (hb : h.next < blkV w') : TBx hA hv g w' (tb ++ [(gs, vs)]) := by
  have far : ∀ {u : V} {m : Nat} {ds : List V}, Own hA 1 h u m ds → (w' = .sn ∨ u = .sn ∨ blkV u ≠ blkV w') := by
    intro u m ds q
    rcases q.wlt' with z | z
    · exact .inr (.inl z)
    · exact .inr (.inr (by omega))
  refine ⟨cs ++ [u1, u2], by simpa using o, fun j a b hj => ?_⟩
  by_cases hjl : j < tb.length
  · rw [List.getElem?_append_left hjl] at hj
    obtain ⟨c1, c2, q1, q2, q3, q4, q5, q6⟩ := hc j a b hj
    exact ⟨c1, c2, by rw [List.getElem?_append_left (by omega)]; exact q1, by rw [List.getElem?_append_left (by omega)]; exact q2, q3.keepB (Nat.le_of_lt n) k q5, q4.keepB (Nat.le_of_lt n) k q6, far q3, far q4⟩
  · have hlt := (List.getElem?_eq_some_iff.1 hj).1
    simp at hlt
    obtain rfl : j = tb.length := by omega
    rw [List.getElem?_append_right (by omega)] at hj
    simp at hj
    obtain ⟨rfl, rfl⟩ := hj
    exact ⟨u1, u2, by rw [List.getElem?_append_right (by omega), hl]; simp, by rw [List.getElem?_append_right (by omega), hl]; simp, i1.keepB (Nat.le_of_lt n) k n1, i2.keepB (Nat.le_of_lt n) k n2, far i1, far i2⟩
end
theorem RowsO.ld {h0 h : H} {w : V} {xss : List (List Int)} (r : RowsO h0 h w xss) {i : Nat} {xs : List Int} (hx : xss[i]? = some xs) : ∃ c, ixV 1 w (.i .i64 (i : Int)) = some (.p (blkV w) (offV w + i * 1)) ∧ ldV h (.p (blkV w) (offV w + i * 1)) = some c ∧ Own h0 1 h c xs.length (ints xs) := by
  obtain ⟨cs, o, hc⟩ := r
  obtain ⟨c, q1, q2, _⟩ := hc i xs hx
  have hi := (List.getElem?_eq_some_iff.1 hx).1
  exact ⟨c, o.sl.ix hi, by rw [o.sl.ld1 hi, q1], q2⟩
theorem own_ne {h0 h : H} {y z : V} {m p : Nat} {xs : List Int} {ds : List V} (o : Own h0 1 h y m (ints xs)) (g : h.get p = some (.cells (z :: ds))) (hz : ∀ k n, z ≠ .i k n) : y = .sn ∨ blkV y ≠ p := by
  obtain ⟨hl, ⟨_, rfl⟩ | ⟨b, g', rfl, hg, h1, h2, hb⟩⟩ := o
  · exact .inl rfl
  · refine .inr fun q => ?_
    have q' : b = p := q
    subst q'
    rw [g] at hb
    cases xs with
    | nil => simp [ints] at hb
    | cons x l =>
      simp [ints] at hb
      exact hz _ _ hb.1
theorem Own.noti {h0 h : H} {v : V} {esz n : Nat} {cs : List V} (o : Own h0 esz h v n cs) : ∀ k m, v ≠ .i k m := by
  obtain ⟨hl, ⟨_, rfl⟩ | ⟨b, g', rfl, _⟩⟩ := o
  · intro k m q; cases q
  · intro k m q; cases q
structure PlanS where
  order : List Int
  off : Int
  tabs : List (List Int × List Int)
def PlanO (h0 h : H) (p : V) (P : PlanS) : Prop := ∃ ov tv, p = .agg [ov, .i .i64 P.off, tv] ∧ Own h0 1 h ov P.order.length (ints P.order) ∧ TBo h0 h tv P.tabs
noncomputable def leastP (N : Int) (rs : List Arw) : PlanS :=
  if circledS N rs = 0 then ⟨firstS rs (-1) N.toNat (circR N rs), leftS rs (-1) allT (circR N rs), (circR N rs).map fun c => (c, tabF rs (-1) c)⟩ else ⟨[], 0, []⟩
theorem PlanO.none {h0 h : H} : PlanO h0 h (.agg [.sn, .i .i64 0, .sn]) ⟨[], 0, []⟩ := ⟨.sn, .sn, rfl, .nil, TBx.nil⟩
def s23_13a : List O := [⟨some 43, none, .fld 2 (.t 8)⟩, ⟨some 44, none, .ld (.t 43)⟩, ⟨some 45, none, .mov (.t 10)⟩, ⟨some 46, none, .call (.f 70) [(.t 45)]⟩, ⟨some 47, none, .mov (.t 7)⟩, ⟨some 48, none, .nilck (.t 47)⟩, ⟨some 49, none, .fld 578 (.t 48)⟩,
  ⟨some 50, none, .ld (.t 49)⟩, ⟨some 51, none, .mov (.t 9)⟩, ⟨some 52, none, .ixS 1 (.t 50) (.t 51)⟩, ⟨some 53, none, .ld (.t 52)⟩]
def s23_13b : List O := [⟨some 54, none, .build [.sn, .sn] [(0, 1, (.t 46)), (1, 1, (.t 53))]⟩, ⟨some 55, none, .buildSl [.sn, .sn] 1 [(0, 2, (.t 54))]⟩, ⟨some 56, none, .app 2 48 (.t 44) (.t 55)⟩, ⟨some 57, none, .fld 2 (.t 8)⟩, ⟨none, none, .st 1 (.t 57) (.t 56)⟩]
theorem r23_13_eq : r23_13 = s23_13a ++ s23_13b := rfl
theorem res_pair {t : List V} {h : H} {n k b m : Nat} {cs r : List V} (hn : nth t n = .p b 0) (g : h.get b = some (.cells cs)) (hc : cut cs 0 k = some r) : resultsOf t h [.cell n (some k), .tmp m] = some [.agg r, nth t m] := by
  simp [resultsOf, resultOf, hn, g, hc]
theorem t23 : tblA 23 = some a23 := by kernel_rfl
theorem fn_Least {h : H} {N : Int} {v : V} {rs : List Arw} (hr : Arrs h v rs) (hrn : rs.length ≤ 1000000) : WC tblA (.fn 23 [] []) [.agg [.i .i64 N, v]] h fun u h' => Ext h h' ∧ ∃ p, u = .tup [p, .i .i64 (circledS N rs)] ∧ PlanO h h' p (leastP N rs) := by
  refine (WC_in t23).2 ?_
  simp only [go_sem, ↓reduceIte, r23_0, H.next_new]
  have e0 : Ext h ((h.new (.cells [.i .i64 N, v])).new (.cells [.sn, .i .i64 0, .sn])) := ((Ext.refl h).new _).new _
  have g0 : ((h.new (.cells [.i .i64 N, v])).new (.cells [.sn, .i .i64 0, .sn])).get h.next = some (.cells [.i .i64 N, v]) := by rw [get_new_lt (by simp), get_new_eq rfl]
  have g2 : ((h.new (.cells [.i .i64 N, v])).new (.cells [.sn, .i .i64 0, .sn])).get (h.next + 1) = some (.cells [.sn, .i .i64 0, .sn]) := by rw [get_new_eq (by simp)]
  have n0 : ((h.new (.cells [.i .i64 N, v])).new (.cells [.sn, .i .i64 0, .sn])).next = h.next + 1 + 1 := by simp
  generalize ((h.new (.cells [.i .i64 N, v])).new (.cells [.sn, .i .i64 0, .sn])) = h0 at *
  have hr0 := hr.ext e0
  have l0 : ldnV h0 2 (.p h.next 0) = some (.agg [.i .i64 N, v]) := blk_ldn g0 rfl
  simp only [go_sem, ↓reduceIte, r23_1, l0]
  refine (fn_Check hr0 hrn).mono ?_
  rintro _ h1 ⟨e1, rfl⟩
  have n1 := e1.nx
  have g01 := e1.get (by omega) g0
  have g21 := e1.get (by omega) g2
  have stz : ∀ hh : H, hh.get (h.next + 1) = some (.cells [.sn, .i .i64 0, .sn]) → stV hh 3 (.p (h.next + 1) 0) (.agg [.sn, .i .i64 0, .sn]) = some (hh.put (h.next + 1) (.cells [.sn, .i .i64 0, .sn])) := fun hh gg => st_whole gg rfl rfl (by
    intro u hu
    simp at hu
    rcases hu with rfl | rfl | rfl <;> rfl)
  by_cases hc : checkS N rs = 0
  case neg =>
    have hcd : circledS N rs = checkS N rs := by rw [circledS, if_pos hc]
    have hlp : leastP N rs = ⟨[], 0, []⟩ := by rw [leastP, if_neg (by rw [hcd]; exact hc)]
    simp only [go_sem, ↓reduceIte, r23_2, r23_3, hc, stz h1 g21]
    rw [res_pair (k := 3) (r := [.sn, .i .i64 0, .sn]) (b := h.next + 1) (cs := [.sn, .i .i64 0, .sn]) (by simp only [go_sem, ↓reduceIte]) (by rw [H.get_put, if_pos rfl]) (cut_all rfl)]
    simp only [go_sem, ↓reduceIte]
    rw [hcd, hlp]
    exact ⟨(e0.trans e1).put (by omega) _, _, rfl, .none⟩
  obtain ⟨n, rfl, hn, gr⟩ := check_ok hc
  have hw : Wok rs := wok_of gr.1
  have hcd : circledS (n : Int) rs = circE (circR (n : Int) rs) := by rw [circledS, if_neg (by simp [hc])]
  have l1 : ldnV h1 2 (.p h.next 0) = some (.agg [.i .i64 (n : Int), v]) := blk_ldn g01 rfl
  simp only [go_sem, ↓reduceIte, r23_2, r23_4, hc, l1]
  refine (fn_circles (hr0.ext e1) hrn).mono ?_
  rintro _ h2 ⟨e2, cw, rfl, hLL⟩
  have n2 := e2.nx
  by_cases hce : circE (circR (n : Int) rs) = 0
  case neg =>
    have hlp : leastP (n : Int) rs = ⟨[], 0, []⟩ := by rw [leastP, if_neg (by rw [hcd]; exact hce)]
    simp only [go_sem, ↓reduceIte, r23_5, r23_6, hce, stz h2 (e2.get (by omega) g21)]
    rw [res_pair (k := 3) (r := [.sn, .i .i64 0, .sn]) (b := h.next + 1) (cs := [.sn, .i .i64 0, .sn]) (by simp only [go_sem, ↓reduceIte]) (by rw [H.get_put, if_pos rfl]) (cut_all rfl)]
    simp only [go_sem, ↓reduceIte]
    rw [hcd, hlp]
    exact ⟨(e0.trans (e1.trans e2)).put (by omega) _, _, rfl, .none⟩
  have hlp : leastP (n : Int) rs = ⟨firstS rs (-1) n (circR (n : Int) rs), leftS rs (-1) allT (circR (n : Int) rs), (circR (n : Int) rs).map fun c => (c, tabF rs (-1) c)⟩ := by rw [leastP, if_pos (by rw [hcd]; exact hce)]; simp
  rw [hcd, hlp]
  have ok := circ_ok hce
  have sc := hLL hce
  have hxl := (circR_len (N := (n : Int)) (rs := rs)).1
  rw [hce]
  clear hLL hlp hcd
  generalize circR (n : Int) rs = xss at *
  have g02 := e2.get (by omega) g01
  have l2 : ldnV h2 2 (.p h.next 0) = some (.agg [.i .i64 (n : Int), v]) := blk_ldn g02 rfl
  simp only [go_sem, ↓reduceIte, r23_5, r23_7, hce, l2]
  refine (fn_begin ((hr0.ext e1).ext e2) hrn gr hn sc ok hxl).mono ?_
  rintro _ h6 ⟨e6, sb, vv, rfl, hsb, s6, r6⟩
  have n6 := e6.nx
  have e06 : Ext h h6 := e0.trans (e1.trans (e2.trans e6))
  have r6' : RowsO h h6 vv (xss.map (tabF rs (-1))) := r6.mono (e0.trans (e1.trans e2)).nx
  have g26 := e6.get (by omega) (e2.get (by omega) g21)
  simp only [go_sem, ↓reduceIte, r23_8]
  have e7 : Ext h6 (h6.new (.cells [.sn, .i .i64 0, .sn])) := (Ext.refl h6).new _
  have g7 : (h6.new (.cells [.sn, .i .i64 0, .sn])).get h6.next = some (.cells [.sn, .i .i64 0, .sn]) := get_new_eq rfl
  have n7 : (h6.new (.cells [.sn, .i .i64 0, .sn])).next = h6.next + 1 := by simp
  generalize h6.new (.cells [.sn, .i .i64 0, .sn]) = h7 at *
  generalize hpb : h6.next = pb at *
  simp only [go_sem, ↓reduceIte, r23_9]
  refine (fn_first (s6.ext e7) ok hn hxl hw).mono ?_
  rintro _ h8 ⟨e8, ov, rfl, o8⟩
  have n8 := e8.nx
  have g8 := e8.get (by omega) g7
  have hov := o8.one
  have st0 := st_any0 (k := 0) (x := ov) g8 hov.1 hov.2 (by simp)
  have x9 : ExtX (· = pb) h8 (h8.put pb (.cells [ov, .i .i64 0, .sn])) := (ExtX.refl (· = pb) h8).put (.inr rfl) _
  have g9 : (h8.put pb (.cells [ov, .i .i64 0, .sn])).get pb = some (.cells [ov, .i .i64 0, .sn]) := by rw [H.get_put, if_pos rfl]
  have st0' : stV h8 1 (.p pb 0) ov = some (h8.put pb (.cells [ov, .i .i64 0, .sn])) := st0
  have st1 := st_any0 (k := 1) (x := .i .i64 (leftS rs (-1) allT xss)) g9 rfl rfl (by simp)
  have st1' : stV (h8.put pb (.cells [ov, .i .i64 0, .sn])) 1 (.p pb 1) (.i .i64 (leftS rs (-1) allT xss)) = some ((h8.put pb (.cells [ov, .i .i64 0, .sn])).put pb (.cells [ov, .i .i64 (leftS rs (-1) allT xss), .sn])) := st1
  simp only [go_sem, ↓reduceIte, st0', st1']
  have x10 : ExtX (· = pb) h8 ((h8.put pb (.cells [ov, .i .i64 0, .sn])).put pb (.cells [ov, .i .i64 (leftS rs (-1) allT xss), .sn])) := x9.put (.inr rfl) _
  have g10 : ((h8.put pb (.cells [ov, .i .i64 0, .sn])).put pb (.cells [ov, .i .i64 (leftS rs (-1) allT xss), .sn])).get pb = some (.cells [ov, .i .i64 (leftS rs (-1) allT xss), .sn]) := by rw [H.get_put, if_pos rfl]
  clear st0 st0' st1 st1' x9 g9
  generalize (h8.put pb (.cells [ov, .i .i64 0, .sn])).put pb (.cells [ov, .i .i64 (leftS rs (-1) allT xss), .sn]) = hP at *
  have eP : Ext h6 hP := x10.ext (e7.trans e8) (fun b hb => by omega)
  have nP := x10.nx
  have oP : Own h7 1 hP ov (firstS rs (-1) n xss).length (ints (firstS rs (-1) n xss)) := o8.keepX x10 (fun b hb => by omega)
  have scP := (sc.ext e6).ext eP
  generalize firstS rs (-1) n xss = F at *
  generalize leftS rs (-1) allT xss = least at *
  simp only [go_sem, ↓reduceIte, r23_10, scP.len]
  refine W_while (fun k t h' => ∃ (i : Nat) (w : V), k = xss.length - i ∧ i ≤ xss.length ∧ t.length = 60 ∧ nth t 2 = .p (h.next + 1) 0 ∧ nth t 7 = .p sb 0 ∧ nth t 8 = .p pb 0 ∧ nth t 36 = cw ∧ nth t 37 = .i .i64 (xss.length : Int) ∧ nth t 38 = .i .i64 (i : Int) ∧ Ext h6 h' ∧ ExtX (· = pb) hP h' ∧
      h'.get pb = some (.cells [ov, .i .i64 least, w]) ∧ TBx h hP h' w ((xss.take i).map fun c => (c, tabF rs (-1) c))) ?_ xss.length ?_
  · rintro k t h' ⟨i, w, rfl, hi, tl, t2, t7, t8, t36, t37, t38, e', x', g', r'⟩
    unfold b23_0
    have nx' := x'.nx
    have nx2 := e'.nx
    have sc' := (sc.ext e6).ext e'
    have s' := s6.ext e'
    have rv := r6'.ext e'
    by_cases hlt : i < xss.length
    · have hltI : (i : Int) < (xss.length : Int) := by omega
      obtain ⟨c, hx⟩ : ∃ c, xss[i]? = some c := ⟨_, List.getElem?_eq_getElem hlt⟩
      obtain ⟨hc10, _, _⟩ := ok c (List.mem_of_getElem? hx)
      obtain ⟨u, hl, hi1⟩ := sc'.ld hx
      have hvx : (xss.map (tabF rs (-1)))[i]? = some (tabF rs (-1) c) := by rw [List.getElem?_map, hx]; rfl
      simp only [go_sem, ↓reduceIte, r23_11, r23_12, tl, t2, t7, t8, t36, t37, t38, hltI, sc'.ix hlt, hl]
      rw [r23_13_eq]
      apply W_crit (by simp [s23_13a])
      have lw : ldV h' (.p pb 2) = some w := blk_ld g' rfl
      simp only [go_sem, ↓reduceIte, s23_13a, tl, t2, t7, t8, t36, t37, t38, lw]
      refine (fn_Clone (h := h'.bare) (Sl.bare hi1) (by omega)).mono ?_
      rintro c1 h3 ⟨e3, o3⟩
      have hold3 := e3.old
      replace e3 := e3.back
      have o3' : Own h' 1 (h'.back h3) c1 c.length (ints c) := o3
      have s3 := s'.ext e3
      have rv3 := rv.ext e3
      obtain ⟨c2, ixv, lv, o2⟩ := rv3.ld hvx
      simp only [go_sem, ↓reduceIte, hold3, tl, t7, s3.lvv, ixv, lv]
      have hTB : TBx h hP (h'.back h3) w ((xss.take i).map fun c => (c, tabF rs (-1) c)) := r'.ext e3
      have gpb := e3.get (by omega) g'
      generalize h'.back h3 = h4 at *
      have n4 := e3.nx
      have hone1 := o3'.one
      have hone2 := o2.one
      obtain ⟨cs, o, hcs⟩ := hTB
      have rT : Own (trunc hP.next h4) 2 h4 w ((xss.take i).map fun c => (c, tabF rs (-1) c)).length cs := o
      obtain ⟨w', hb, g4, q0, q1, q2, q3, q4, q5, q6⟩ := app_twoB (u1 := c1) (u2 := c2) rT (trunc_ext (by omega)) hone1.2 hone2.2 (by simp; omega)
      have hwl : w = .sn ∨ (hP.next ≤ blkV w ∧ blkV w < h'.next) := by
        obtain ⟨cs', o', _⟩ := r'
        exact o'.wlt'
      obtain ⟨cs6, o6, hcs6⟩ := r6'
      obtain ⟨c2', z1, z2, _⟩ := hcs6 i _ hvx
      have hc2eq : c2' = c2 := by
        have y1 := (o6.ext (e'.trans e3)).sl.ld1 (show i < (xss.map (tabF rs (-1))).length by simpa using hlt)
        rw [lv, z1] at y1
        cases y1; rfl
      subst hc2eq
      have hc2l : c2' = .sn ∨ blkV c2' < pb := by
        rcases z2.wlt' with z | z
        · exact .inl z
        · exact .inr (by omega)
      have tb' : TBx h hP g4 w' (((xss.take i).map fun c => (c, tabF rs (-1) c)) ++ [(c, tabF rs (-1) c)]) := TBx.step hcs (by simpa using o.len) (o3'.mono (by have := e06.nx; omega)) o2 (by
          rcases hwl with z | z
          · exact .inl z
          · rcases o3'.wlt' with y | y
            · exact .inr (.inl y)
            · exact .inr (.inr (by omega))) (by
          rcases hwl with z | z
          · exact .inl z
          · rcases hc2l with y | y
            · exact .inr (.inl y)
            · exact .inr (.inr (by omega))) q3 q4 q5 q6
      have x4 : ExtX (· = pb) hP g4 := (x'.trans (.of e3)).tr q2
      have gpb4 : g4.get pb = some (.cells [ov, .i .i64 least, w]) := by
        rw [q2.same pb (show pb < hP.next by omega)]
        exact gpb
      have hw1 : w'.cells = [w'] ∧ w'.oneCell = true := q3.one
      have hst := st_any0 (h := g4.bare) (k := 2) (x := w') gpb4 hw1.1 hw1.2 (by simp)
      have hst' : stV g4.bare 1 (.p pb 2) w' = some (g4.bare.put pb (.cells [ov, .i .i64 least, w'])) := hst
      have hbk := back_put (h := g4) (b := pb) (by have := x4.nx; omega)
      have e6g : Ext h6 g4 := x4.ext eP (fun b hb => by omega)
      simp only [go_sem, ↓reduceIte, s23_13b, r23_14, tl, t2, t7, t8, t36, t37, t38, fill2_of hone1.1 hone2.1, q0, q1, hst', hbk, wrap_succ (show i < 1000000000 by omega)]
      refine ⟨xss.length - (i + 1), by omega, i + 1, w', rfl, hlt, rfl, e6g.put (by omega) _, x4.put (.inr rfl) _, by rw [H.get_put, if_pos rfl], ?_⟩
      rw [take_succ' hx, List.map_append]
      have xp : ExtX (· = pb) g4 (g4.put pb (.cells [ov, .i .i64 least, w'])) := (ExtX.refl (· = pb) g4).put (.inr rfl) _
      obtain ⟨ds, d1, d2⟩ := tb'
      have d1l : w' = .sn ∨ blkV w' ≠ pb := by
        rcases d1.wlt' with z | z
        · exact .inl z
        · exact .inr (by omega)
      refine ⟨ds, d1.keepN xp d1l, fun j a b hj => ?_⟩
      obtain ⟨y1, y2, p1, p2, p3, p4, p5, p6⟩ := d2 j a b hj
      have key1 := own_ne p3 gpb4 oP.noti
      have key2 := own_ne p4 gpb4 oP.noti
      exact ⟨y1, y2, p1, p2, p3.keepN xp key1, p4.keepN xp key2, p5, p6⟩
    · have hltI : ¬ (i : Int) < (xss.length : Int) := by omega
      rw [List.take_of_length_le (by omega)] at r'
      have l8 : ldnV h' 3 (.p pb 0) = some (.agg [ov, .i .i64 least, w]) := blk_ldn g' rfl
      have g2' := e'.get (by omega) g26
      have how : w.cells = [w] ∧ w.oneCell = true := by
        obtain ⟨cs, o, _⟩ := r'
        exact o.one
      have stA := st_whole (k := 3) (c := [ov, .i .i64 least, w]) g2' rfl rfl (by
        intro u hu
        simp at hu
        rcases hu with rfl | rfl | rfl
        · exact hov.2
        · rfl
        · exact how.2)
      simp only [go_sem, ↓reduceIte, r23_11, r23_15, tl, t2, t7, t8, t36, t37, t38, hltI, l8, stA]
      rw [res_pair (k := 3) (r := [ov, .i .i64 least, w]) (b := h.next + 1) (cs := [ov, .i .i64 least, w]) (by simp only [go_sem, ↓reduceIte, tl, t2]) (by rw [H.get_put, if_pos rfl]) (cut_all rfl)]
      simp only [go_sem, ↓reduceIte, tl]
      have xf : ExtX (· = h.next + 1) h' (h'.put (h.next + 1) (.cells [ov, .i .i64 least, w])) := (ExtX.refl (· = h.next + 1) h').put (.inr rfl) _
      have o1 : Own h7 1 h' ov F.length (ints F) := oP.keepX x' (fun b hb => by omega)
      have hne : ∀ k n, (V.sn) ≠ .i k n := fun k n q => by cases q
      obtain ⟨ds, d1, d2⟩ := r'
      have d1l : w = .sn ∨ blkV w ≠ h.next + 1 := by
        rcases d1.wlt' with z | z
        · exact .inl z
        · exact .inr (by omega)
      refine ⟨(e06.trans e').put (by omega) _, _, rfl, ov, w, rfl, (o1.keepN xf (own_ne o1 g2' hne)).mono (by have := e06.nx; omega), ds, (d1.keepN xf d1l).mono (by have := e06.nx; omega), fun j a b hj => ?_⟩
      obtain ⟨y1, y2, p1, p2, p3, p4, p5, p6⟩ := d2 j a b hj
      exact ⟨y1, y2, p1, p2, p3.keepN xf (own_ne p3 g2' hne), p4.keepN xf (own_ne p4 g2' hne), p5, p6⟩
  · refine ⟨0, .sn, by omega, by omega, ?_⟩
    simp only [go_sem, ↓reduceIte, List.take_zero, List.map_nil]
    exact ⟨eP, .refl _ _, g10, .nil⟩
end Go.Air
set_option maxRecDepth 100000
namespace Go.Air
open Go.Air.Try
theorem t21 : tblA 21 = some a21 := by kernel_rfl
theorem fn_Few {h : H} {N k : Int} {v : V} {rs : List Arw} (hr : Arrs h v rs) (h0 : 0 ≤ k) (h1 : k ≤ 100) : WC tblA (.fn 21 [] []) [.agg [.i .i64 N, v], .i .i64 k] h fun u h' => Ext h h' ∧ u = .b (decide (N ≤ k ∧ (rs.length : Int) ≤ 2 * k * k)) := by
  refine (WC_in t21).2 ?_
  obtain ⟨e0, g0⟩ := rel_blk h N v
  simp only [go_sem, ↓reduceIte, r21_0]
  have hr0 := hr.ext e0
  generalize hh : h.new (.cells [.i .i64 N, v]) = hB at *
  have l0 : ldV hB (.p h.next 0) = some (.i .i64 N) := blk_ld g0 rfl
  have l1 : ldV hB (.p h.next 1) = some v := blk_ld g0 rfl
  have hb : k * k ≤ 100 * 100 := Int.mul_le_mul h1 h1 h0 (by omega)
  have hb0 : 0 ≤ k * k := Int.mul_nonneg h0 h0
  have w1 : IntKind.i64.wrap (2 * k) = 2 * k := wrap_in (by omega) (by omega)
  have w2 : IntKind.i64.wrap (2 * k * k) = 2 * k * k := by rw [Int.mul_assoc]; exact wrap_in (by omega) (by omega)
  by_cases c1 : N ≤ k
  · by_cases c2 : (rs.length : Int) ≤ 2 * k * k
    · simp only [go_sem, ↓reduceIte, r21_1, l0, l1, hr0.len, w1, w2, c1, c2]
      exact e0
    · simp only [go_sem, ↓reduceIte, r21_1, l0, l1, hr0.len, w1, w2, c1, c2]
      exact e0
  · simp only [go_sem, ↓reduceIte, r21_1, l0, l1, hr0.len, w1, w2, c1]
    exact ⟨e0, by simp⟩
theorem setOf_all (c : List Int) : ∀ k, setOf c allT k = 2 ^ k - 1
  | 0 => rfl
  | k + 1 => by
    have h1 : 0 < 2 ^ k := Nat.two_pow_pos k
    simp only [setOf, allT, if_true, setOf_all c k]
    have h2 := Nat.two_pow_add_eq_or_of_lt (show 2 ^ k - 1 < 2 ^ k by omega) 1
    rw [Nat.mul_one] at h2
    rw [Nat.or_comm, ← h2, Nat.pow_succ]
    omega
theorem st_newB (h : H) (z c : List V) (hl : z.length = c.length) (hone : ∀ u ∈ c, u.oneCell = true) :
    ∃ hb h2, stV (h.new (.cells z)).bare c.length (.p h.next 0) (.agg c) = some hb ∧ (h.new (.cells z)).back hb = h2 ∧ Ext h h2 ∧ h2.get h.next = some (.cells c) ∧ h2.next = h.next + 1 := by
  have g : (h.new (.cells z)).bare.get h.next = some (.cells z) := get_new_eq rfl
  refine ⟨_, _, st_whole (k := c.length) g rfl hl hone, rfl, ?_⟩
  rw [back_put (h := h.new (.cells z)) (by simp)]
  exact ⟨((Ext.refl h).new _).put (Nat.le_refl _) _, by rw [H.get_put, if_pos rfl], by simp⟩
theorem t77 : tblA 77 = some a77 := by kernel_rfl
theorem fn_least {h : H} {n : Nat} {v : V} {rs : List Arw} (hr : Arrs h v rs) (hrn : rs.length ≤ 1000000) (hck : checkS (n : Int) rs = 0) (hce : circE (circR (n : Int) rs) = 0) : WC tblA (.fn 77 [] []) [.agg [.i .i64 (n : Int), v]] h fun u h' => Ext h h' ∧ u = .i .i64 (leftS rs (-1) allT (circR (n : Int) rs)) := by
  refine (WC_in t77).2 ?_
  obtain ⟨n', hn', hn, gr⟩ := check_ok hck
  obtain rfl : n = n' := by omega
  have hw : Wok rs := wok_of gr.1
  obtain ⟨e0, g0⟩ := rel_blk h (n : Int) v
  simp only [go_sem, ↓reduceIte, r77_0]
  have hr0 := hr.ext e0
  have n0 : (h.new (.cells [.i .i64 (n : Int), v])).next = h.next + 1 := by simp
  generalize hh : h.new (.cells [.i .i64 (n : Int), v]) = h0 at *
  have l0 : ldnV h0 2 (.p h.next 0) = some (.agg [.i .i64 (n : Int), v]) := blk_ldn g0 rfl
  simp only [go_sem, ↓reduceIte, r77_1, l0]
  refine (fn_refCircles hr0 hrn).mono ?_
  rintro cv h1 ⟨e1, s1⟩
  have ok := circ_ok hce
  have hxl := (circR_len (N := (n : Int)) (rs := rs)).1
  have n1 := e1.nx
  generalize circR (n : Int) rs = xss at *
  simp only [go_sem, ↓reduceIte, r77_2, r77_3]
  refine W_while (fun k t h' => ∃ (i : Nat), k = xss.length - i ∧ i ≤ xss.length ∧ t.length = 32 ∧ nth t 1 = .p h.next 0 ∧ nth t 3 = cv ∧ nth t 4 = .i .i64 (leftS rs (-1) allT (xss.take i)) ∧ nth t 5 = .i .i64 (i : Int) ∧ Ext h1 h') ?_ xss.length ?_
  · rintro k t h' ⟨i, rfl, hi, tl, t1, t3, t4, t5, e'⟩
    unfold b77_0
    have s' := s1.ext e'
    by_cases hlt : i < xss.length
    · have hltI : (i : Int) < (xss.length : Int) := by omega
      obtain ⟨c, hx⟩ : ∃ c, xss[i]? = some c := ⟨_, List.getElem?_eq_getElem hlt⟩
      obtain ⟨hc10, hcd, _⟩ := ok c (List.mem_of_getElem? hx)
      have hgst := ok.gst hn (List.mem_of_getElem? hx)
      obtain ⟨u, hl, hi1⟩ := s'.ld hx
      have lr : ldnV h' 2 (.p h.next 0) = some (.agg [.i .i64 (n : Int), v]) := blk_ldn (e'.get (by omega) (e1.get (by omega) g0)) rfl
      simp only [go_sem, ↓reduceIte, r77_4, r77_6, tl, t1, t3, t4, t5, s'.len, hltI, lr, s'.ix hlt, hl]
      refine (fn_refTable (h := h'.bare) (Sl.bare ((hr0.ext e1).ext e')) hrn gr (Sl.bare hi1) rfl hc10 hgst hcd).mono ?_
      rintro _ h3 ⟨e3, w1, w2, rfl, i1, i2⟩
      replace e3 := e3.back
      have i2' : Ints (h'.back h3) w2 (tabF rs (-1) c) := i2
      have i1' : Ints (h'.back h3) w1 c := i1
      simp only [go_sem, ↓reduceIte, tl]
      generalize h'.back h3 = h4 at *
      obtain ⟨hb, h5, q1, q2, q3, q4, q5⟩ := st_newB h4 [.sn, .sn] [w1, w2] rfl (by
        intro y hy
        simp at hy
        rcases hy with rfl | rfl
        · exact i1'.one.2
        · exact i2'.one.2)
      have q1' : stV (h4.new (.cells [.sn, .sn])).bare 2 (.p h4.next 0) (.agg [w1, w2]) = some hb := q1
      have lt : ldV h5 (.p h4.next 1) = some w2 := blk_ld q4 rfl
      have i5 := i2'.ext q3
      have hset := setOf_all c c.length
      have hp : 0 < 2 ^ c.length := Nat.two_pow_pos _
      have hp2 := Nat.pow_le_pow_right (n := 2) (by omega) hc10
      have hidx : 2 ^ c.length - 1 < (tabF rs (-1) c).length := by rw [tabF_len]; omega
      have hval : (tabF rs (-1) c)[2 ^ c.length - 1]? = some ((tabF rs (-1) c).getD (setOf c allT c.length) 0) := by
        rw [hset, List.getD_eq_getElem?_getD]
        obtain ⟨x, hx⟩ : ∃ x, (tabF rs (-1) c)[2 ^ c.length - 1]? = some x := ⟨_, List.getElem?_eq_getElem hidx⟩
        rw [hx]; rfl
      have hsub : IntKind.i64.wrap (((2 ^ c.length : Nat) : Int) - 1) = ((2 ^ c.length - 1 : Nat) : Int) := by rw [wrap_in (by omega) (by omega)]; omega
      have b1 := leftS_bound (sp := -1) (d := allT) hw (xss.take i) fun x hx => by have := (ok x (List.mem_of_mem_take hx)).1; omega
      have b2 := tabF_getD (sp := -1) hw (show c.length ≤ 24 by omega) (setOf c allT c.length)
      have hst : leftS rs (-1) allT (xss.take (i + 1)) = leftS rs (-1) allT (xss.take i) + (tabF rs (-1) c).getD (setOf c allT c.length) 0 := by
        rw [take_succ' hx, leftS_append]; simp [leftS]
      have hsum : IntKind.i64.wrap (leftS rs (-1) allT (xss.take i) + (tabF rs (-1) c).getD (setOf c allT c.length) 0) = leftS rs (-1) allT (xss.take (i + 1)) := by
        rw [hst]
        simp only [List.length_take] at b1
        unfold never at b1 b2
        exact wrap_in (by omega) (by omega)
      have hlen5 : lenV w2 = some (2 ^ c.length) := by rw [i5.len, tabF_len]
      simp only [go_sem, ↓reduceIte, r77_5, r77_7, tl, t1, t3, t4, t5, q1', q2, lt, hlen5, hsub, i5.ix hidx, i5.ld hval, hsum, wrap_succ (show i < 1000000000 by omega)]
      exact ⟨xss.length - (i + 1), by omega, i + 1, rfl, hlt, rfl, rfl, e'.trans (e3.trans q3)⟩
    · have hltI : ¬ (i : Int) < (xss.length : Int) := by omega
      rw [List.take_of_length_le (by omega)] at t4
      simp only [go_sem, ↓reduceIte, r77_4, r77_8, tl, t1, t3, t4, t5, s'.len, hltI]
      exact e0.trans (e1.trans e')
  · refine ⟨0, by omega, by omega, ?_⟩
    simp only [go_sem, ↓reduceIte, List.take_zero]
    simp only [leftS]
    exact ⟨trivial, .refl _⟩
theorem circled_ok {N : Int} {rs : List Arw} (h : circledS N rs = 0) : checkS N rs = 0 ∧ circE (circR N rs) = 0 := by
  unfold circledS at h
  split at h
  · rename_i hc; exact absurd h hc
  · rename_i hc; exact ⟨Classical.not_not.1 hc, h⟩
end Go.Air
set_option maxRecDepth 100000
namespace Go.Air
def sT (rs : List Arw) (x : Int) : List Int → Int
  | [] => 0
  | y :: l => wt y x rs + sT rs x l
def sF (rs : List Arw) (y : Int) : List Int → Int
  | [] => 0
  | x :: l => wt y x rs + sF rs y l
def inc (rs : List Arw) : List Int → Int
  | [] => 0
  | x :: l => sT rs x l + inc rs l
def feas (rs : List Arw) (sp : Int) : List Int → Prop
  | [] => True
  | x :: l => (∀ y ∈ l, y = sp → wt y x rs = 0) ∧ feas rs sp l
section
variable {rs : List Arw} {sp : Int}
theorem sT_append (x : Int) : ∀ a b : List Int, sT rs x (a ++ b) = sT rs x a + sT rs x b
  | [], b => by simp [sT]
  | y :: a, b => by simp only [List.cons_append, sT, sT_append x a b]; omega
theorem sF_append (y : Int) : ∀ a b : List Int, sF rs y (a ++ b) = sF rs y a + sF rs y b
  | [], b => by simp [sF]
  | x :: a, b => by simp only [List.cons_append, sF, sF_append y a b]; omega
theorem sT_perm (x : Int) {a b : List Int} (h : a.Perm b) : sT rs x a = sT rs x b := by
  induction h with
  | nil => rfl
  | cons y _ ih => simp only [sT, ih]
  | swap y z l => simp only [sT]; omega
  | trans _ _ ih1 ih2 => rw [ih1, ih2]
theorem sF_perm (y : Int) {a b : List Int} (h : a.Perm b) : sF rs y a = sF rs y b := by
  induction h with
  | nil => rfl
  | cons x _ ih => simp only [sF, ih]
  | swap x z l => simp only [sF]; omega
  | trans _ _ ih1 ih2 => rw [ih1, ih2]
theorem sT_nonneg (hw : Wok rs) (x : Int) : ∀ l, 0 ≤ sT rs x l
  | [] => by simp [sT]
  | y :: l => by have := sT_nonneg hw x l; have := (hw y x).1; simp only [sT]; omega
theorem sF_nonneg (hw : Wok rs) (y : Int) : ∀ l, 0 ≤ sF rs y l
  | [] => by simp [sF]
  | x :: l => by have := sF_nonneg hw y l; have := (hw y x).1; simp only [sF]; omega
theorem sT_le (hw : Wok rs) (x : Int) : ∀ l, sT rs x l ≤ 1000 * l.length
  | [] => by simp [sT]
  | y :: l => by have := sT_le hw x l; have := (hw y x).2; simp only [sT, List.length_cons]; omega
theorem inc_nonneg (hw : Wok rs) : ∀ l, 0 ≤ inc rs l
  | [] => by simp [inc]
  | x :: l => by have := inc_nonneg hw l; have := sT_nonneg hw x l; simp only [inc]; omega
theorem sF_zero (hw : Wok rs) (y : Int) : ∀ l, sF rs y l = 0 ↔ ∀ x ∈ l, wt y x rs = 0
  | [] => by simp [sF]
  | x :: l => by
    have ih := sF_zero hw y l
    have h1 := sF_nonneg hw y l
    have h2 := (hw y x).1
    simp only [sF, List.mem_cons, forall_eq_or_imp]
    rw [← ih]
    omega
theorem inc_snoc (y : Int) : ∀ l, inc rs (l ++ [y]) = inc rs l + sF rs y l
  | [] => by simp [inc, sT, sF]
  | x :: l => by
    have ih := inc_snoc y l
    simp only [List.cons_append, inc, sF, sT_append, sT, ih]
    omega
theorem feas_snoc (y : Int) : ∀ l, feas rs sp (l ++ [y]) ↔ feas rs sp l ∧ (y = sp → ∀ x ∈ l, wt y x rs = 0)
  | [] => by simp [feas]
  | x :: l => by
    have ih := feas_snoc y l
    simp only [List.cons_append, feas, ih, List.mem_append, List.mem_cons, List.not_mem_nil, or_false]
    constructor
    · rintro ⟨h1, h2, h3⟩
      exact ⟨⟨fun z hz => h1 z (.inl hz), h2⟩, fun q z hz => by
        rcases hz with rfl | hz
        · exact h1 y (.inr rfl) q
        · exact h3 q z hz⟩
    · rintro ⟨⟨h1, h2⟩, h3⟩
      exact ⟨fun z hz q => by
        rcases hz with hz | rfl
        · exact h1 z hz q
        · exact h3 q x (.inl rfl), h2, fun q z hz => h3 q z (.inr hz)⟩
theorem sT_filter (hw : Wok rs) (x : Int) (p : Int → Bool) : ∀ l, sT rs x (l.filter p) ≤ sT rs x l
  | [] => by simp [sT]
  | y :: l => by
    have ih := sT_filter hw x p l
    have := (hw y x).1
    by_cases h : p y = true
    · rw [List.filter_cons_of_pos h]; simp only [sT]; omega
    · rw [List.filter_cons_of_neg h]; simp only [sT]; omega
theorem inc_split (hw : Wok rs) (p : Int → Bool) : ∀ l, inc rs (l.filter p) + inc rs (l.filter fun x => !p x) ≤ inc rs l
  | [] => by simp [inc]
  | x :: l => by
    have ih := inc_split hw p l
    by_cases h : p x = true
    · rw [List.filter_cons_of_pos h, List.filter_cons_of_neg (by simp [h])]
      have := sT_filter hw x p l
      simp only [inc]; omega
    · rw [List.filter_cons_of_neg h, List.filter_cons_of_pos (by simp [h])]
      have := sT_filter hw x (fun x => !p x) l
      simp only [inc]; omega
theorem feas_filter (p : Int → Bool) : ∀ l, feas rs sp l → feas rs sp (l.filter p)
  | [], _ => trivial
  | x :: l, h => by
    have ih := feas_filter p l h.2
    by_cases hx : p x = true
    · rw [List.filter_cons_of_pos hx]
      exact ⟨fun y hy => h.1 y (List.mem_filter.1 hy).1, ih⟩
    · rw [List.filter_cons_of_neg hx]; exact ih
end
theorem subL_at {c : List Int} {s i k : Nat} (hi : i < k) (hb : s.testBit i = true) : c.getD i 0 ∈ subL c s k := by
  induction k with
  | zero => omega
  | succ k ih =>
    simp only [subL, List.mem_append]
    by_cases q : i = k
    · subst q; right; rw [if_pos hb]; simp
    · left; exact ih (by omega)
theorem subL_iff {c : List Int} {s : Nat} {y : Int} : ∀ {k : Nat}, y ∈ subL c s k ↔ ∃ j, j < k ∧ s.testBit j = true ∧ c.getD j 0 = y
  | 0 => by simp [subL]
  | k + 1 => by
    have ih := @subL_iff c s y k
    simp only [subL, List.mem_append, ih]
    constructor
    · rintro (⟨j, h1, h2, h3⟩ | h)
      · exact ⟨j, by omega, h2, h3⟩
      · split at h
        · rename_i hb
          simp at h
          exact ⟨k, by omega, hb, h.symm⟩
        · simp at h
    · rintro ⟨j, h1, h2, h3⟩
      by_cases q : j = k
      · subst q; right; rw [if_pos h2, List.mem_singleton]; exact h3.symm
      · left; exact ⟨j, by omega, h2, h3⟩
theorem subL_nodup {c : List Int} (hd : c.Nodup) (s : Nat) : ∀ k, k ≤ c.length → (subL c s k).Nodup
  | 0, _ => by simp [subL]
  | k + 1, hk => by
    have ih := subL_nodup hd s k (by omega)
    simp only [subL]
    split
    · refine List.nodup_append.2 ⟨ih, by simp, fun a ha b hb => ?_⟩
      simp at hb
      subst hb
      rintro rfl
      obtain ⟨j, h1, h2⟩ := subL_mem ha
      have := getD_injI hd (by omega) (by omega) h2
      omega
    · simpa using ih
theorem subL_less {c : List Int} (hd : c.Nodup) {s i : Nat} (hs : s < 4611686018427387904) (hi : i < c.length) (hb : s.testBit i = true) : (subL c s c.length).Perm (c.getD i 0 :: subL c (s - 2 ^ i) c.length) := by
  have hn : c.getD i 0 ∉ subL c (s - 2 ^ i) c.length := by
    intro h
    obtain ⟨j, h1, h2, h3⟩ := subL_iff.1 h
    have := getD_injI hd h1 hi h3
    subst this
    rw [bit_sub hs hb] at h2
    simp at h2
  refine (List.perm_ext_iff_of_nodup (subL_nodup hd s _ (Nat.le_refl _)) (List.nodup_cons.2 ⟨hn, subL_nodup hd _ _ (Nat.le_refl _)⟩)).2 fun y => ?_
  rw [List.mem_cons, subL_iff, subL_iff]
  constructor
  · rintro ⟨j, h1, h2, h3⟩
    by_cases q : j = i
    · subst q; exact .inl h3.symm
    · exact .inr ⟨j, h1, by rw [bit_sub hs hb]; simp [q, h2], h3⟩
  · rintro (h | ⟨j, h1, h2, h3⟩)
    · exact ⟨i, hi, hb, h.symm⟩
    · rw [bit_sub hs hb] at h2
      simp at h2
      exact ⟨j, h1, h2.2, h3⟩
theorem bhK_sF (rs : List Arw) (c : List Int) (i s : Nat) : ∀ k, bhK rs c i s k = sF rs (c.getD i 0) (subL c s k)
  | 0 => rfl
  | k + 1 => by
    simp only [bhK, subL, sF_append, bhK_sF rs c i s k]
    split
    · simp [sF]
    · simp [sF]
def tv (rs : List Arw) (sp : Int) (c : List Int) (s : Nat) : Int := (tabF rs sp c).getD s 0
section
variable {rs : List Arw} {sp : Int} {c : List Int}
theorem tv_tab {s j : Nat} (hs : s ≤ 2 ^ c.length) (hj : j < s) : (tabL rs c sp c.length s).getD j 0 = tv rs sp c j := by
  unfold tv tabF
  rw [← tabL_prefix hs, List.getD_eq_getElem?_getD, List.getD_eq_getElem?_getD, List.getElem?_take_of_lt hj]
theorem tv_eq {s : Nat} (hs : s < 2 ^ c.length) : tv rs sp c s = tval rs c sp c.length (tabL rs c sp c.length s) s := by
  have := tv_tab (rs := rs) (sp := sp) (c := c) (s := s + 1) (j := s) hs (by omega)
  rw [← this, tabL, List.getD_eq_getElem?_getD, List.getElem?_append_right (by rw [tabL_len]; omega), tabL_len]
  simp
theorem tv_zero : tv rs sp c 0 = 0 := by
  rw [tv_eq (Nat.two_pow_pos _)]
  simp [tval]
theorem tmin_le {L : List Int} {s : Nat} {m : Nat} : ∀ {k i : Nat}, i < k → s.testBit i = true → tmin rs c sp m L s k ≤ L.getD (s - 2 ^ i) 0 + costS rs c sp m i (s - 2 ^ i)
  | 0, i, h, _ => by omega
  | k + 1, i, h, hb => by
    simp only [tmin]
    by_cases q : i = k
    · subst q
      rw [if_pos hb]
      split <;> omega
    · have ih := tmin_le (L := L) (m := m) (k := k) (i := i) (by omega) hb
      repeat' split
      all_goals omega
theorem tmin_att {L : List Int} {s m : Nat} : ∀ {k : Nat}, tmin rs c sp m L s k < never → ∃ i, i < k ∧ s.testBit i = true ∧ tmin rs c sp m L s k = L.getD (s - 2 ^ i) 0 + costS rs c sp m i (s - 2 ^ i)
  | 0, h => by simp [tmin] at h
  | k + 1, h => by
    simp only [tmin] at h ⊢
    by_cases hb : s.testBit k = true
    · rw [if_pos hb] at h ⊢
      by_cases q : L.getD (s - 2 ^ k) 0 + costS rs c sp m k (s - 2 ^ k) < tmin rs c sp m L s k
      · rw [if_pos q]
        exact ⟨k, by omega, hb, rfl⟩
      · rw [if_neg q] at h ⊢
        obtain ⟨i, h1, h2, h3⟩ := tmin_att h
        exact ⟨i, by omega, h2, h3⟩
    · rw [if_neg hb] at h ⊢
      obtain ⟨i, h1, h2, h3⟩ := tmin_att h
      exact ⟨i, by omega, h2, h3⟩
theorem tv_bound (hw : Wok rs) (hl : c.length ≤ 24) (s : Nat) : 0 ≤ tv rs sp c s ∧ tv rs sp c s ≤ never := tabF_getD hw hl s
theorem tab_low (hw : Wok rs) (hd : c.Nodup) (hl : c.length ≤ 24) : ∀ (s : Nat), s < 2 ^ c.length → ∀ l : List Int, l.Perm (subL c s c.length) → feas rs sp l → tv rs sp c s ≤ inc rs l := by
  have h24 : 2 ^ c.length ≤ 16777216 := by
    have := Nat.pow_le_pow_right (n := 2) (by omega) hl
    simpa using this
  intro s
  induction s using Nat.strongRecOn with
  | ind s ih =>
  intro hs l hp hf
  by_cases h0 : s = 0
  · subst h0
    rw [tv_zero]
    exact inc_nonneg hw l
  rcases List.eq_nil_or_concat l with rfl | ⟨l', y, rfl⟩
  · exfalso
    obtain ⟨j, h1, h2⟩ := some_bit h0 hs
    have := subL_at (c := c) h1 h2
    rw [← hp.mem_iff] at this
    simp at this
  rw [List.concat_eq_append] at hp hf ⊢
  have hy : y ∈ subL c s c.length := by rw [← hp.mem_iff]; simp
  obtain ⟨i, hi, hb, rfl⟩ := subL_iff.1 hy
  have hle := bit_le hb
  have hpp : 0 < 2 ^ i := Nat.two_pow_pos i
  have hp' : l'.Perm (subL c (s - 2 ^ i) c.length) := by
    have h1 : (c.getD i 0 :: l').Perm (l' ++ [c.getD i 0]) := by
      have := List.perm_append_comm (l₁ := [c.getD i 0]) (l₂ := l')
      simpa using this
    exact ((h1.trans hp).trans (subL_less hd (by omega) hi hb)).cons_inv
  obtain ⟨hf1, hf2⟩ := (feas_snoc _ l').1 hf
  have ih' := ih (s - 2 ^ i) (by omega) (by omega) l' hp' hf1
  have hb1 : bhK rs c i (s - 2 ^ i) c.length = sF rs (c.getD i 0) l' := by rw [bhK_sF, sF_perm _ hp']
  have hc : costS rs c sp c.length i (s - 2 ^ i) = sF rs (c.getD i 0) l' := by
    rw [costS, hb1]
    split
    · rename_i q
      have := (sF_zero hw (c.getD i 0) l').2 (hf2 q.1)
      omega
    · rfl
  rw [tv_eq hs, tval, if_neg h0, inc_snoc]
  have := tmin_le (rs := rs) (c := c) (sp := sp) (L := tabL rs c sp c.length s) (m := c.length) hi hb
  rw [tv_tab (by omega) (by omega), hc] at this
  omega
theorem tab_hit (hw : Wok rs) (hd : c.Nodup) (hl : c.length ≤ 24) : ∀ (s : Nat), s < 2 ^ c.length → tv rs sp c s < never → ∃ l : List Int, l.Perm (subL c s c.length) ∧ feas rs sp l ∧ inc rs l = tv rs sp c s := by
  have h24 : 2 ^ c.length ≤ 16777216 := by
    have := Nat.pow_le_pow_right (n := 2) (by omega) hl
    simpa using this
  intro s
  induction s using Nat.strongRecOn with
  | ind s ih =>
  intro hs hlt
  by_cases h0 : s = 0
  · subst h0
    refine ⟨[], ?_, trivial, by rw [tv_zero]; rfl⟩
    have : subL c 0 c.length = [] := by
      rcases hq : subL c 0 c.length with _ | ⟨y, l⟩
      · rfl
      · have : y ∈ subL c 0 c.length := by rw [hq]; simp
        obtain ⟨j, _, h2, _⟩ := subL_iff.1 this
        simp at h2
    rw [this]
  have he := tv_eq (rs := rs) (sp := sp) hs
  rw [tval, if_neg h0] at he
  rw [he] at hlt
  obtain ⟨i, hi, hb, e⟩ := tmin_att hlt
  have hle := bit_le hb
  have hpp : 0 < 2 ^ i := Nat.two_pow_pos i
  rw [tv_tab (by omega) (by omega)] at e
  have b1 := tv_bound (sp := sp) hw hl (s - 2 ^ i)
  have b2 := costS_bound (c := c) (sp := sp) hw hl i (s - 2 ^ i)
  obtain ⟨l', hp', hf', hi'⟩ := ih (s - 2 ^ i) (by omega) (by omega) (by omega)
  have hcl : costS rs c sp c.length i (s - 2 ^ i) < never := by omega
  have hb1 : bhK rs c i (s - 2 ^ i) c.length = sF rs (c.getD i 0) l' := by rw [bhK_sF, sF_perm _ hp']
  have hcs : costS rs c sp c.length i (s - 2 ^ i) = sF rs (c.getD i 0) l' ∧ (c.getD i 0 = sp → sF rs (c.getD i 0) l' = 0) := by
    rw [costS, hb1] at hcl ⊢
    split at hcl
    · omega
    · rename_i q
      rw [if_neg q]
      refine ⟨rfl, fun z => ?_⟩
      have := sF_nonneg hw (c.getD i 0) l'
      rcases Int.lt_or_le 0 (sF rs (c.getD i 0) l') with w | w
      · exact absurd ⟨z, w⟩ q
      · omega
  refine ⟨l' ++ [c.getD i 0], ?_, (feas_snoc _ _).2 ⟨hf', fun z => (sF_zero hw _ _).1 (hcs.2 z)⟩, ?_⟩
  · have h1 : (l' ++ [c.getD i 0]).Perm (c.getD i 0 :: l') := by
      have := List.perm_append_comm (l₁ := l') (l₂ := [c.getD i 0])
      exact this
    exact (h1.trans (hp'.cons _)).trans (subL_less hd (by omega) hi hb).symm
  · rw [inc_snoc, he, e, hi', hcs.1]
end
end Go.Air
set_option maxRecDepth 100000
namespace Go.Air
def down (R : Nat → Nat → Bool) (n a : Nat) : Nat := ((List.range n).filter fun c => R c a || decide (c = a)).length
theorem free_exists {R : Nat → Nat → Bool} {n : Nat} {d : Nat → Bool} (htr : ∀ a b c, R a b = true → R b c = true → R a c = true) : ∀ (k a : Nat), down R n a ≤ k → a < n → d a = false → ∃ b, b < n ∧ freeG R n d b = true := by
  intro k
  induction k with
  | zero =>
    intro a hk ha hd
    exfalso
    have : a ∈ (List.range n).filter fun c => R c a || decide (c = a) := List.mem_filter.2 ⟨List.mem_range.2 ha, by simp⟩
    have := List.length_pos_of_mem this
    unfold down at hk
    omega
  | succ k ih =>
    intro a hk ha hd
    by_cases hf : freeG R n d a = true
    · exact ⟨a, ha, hf⟩
    · obtain ⟨b, hb, h1, h2, h3⟩ : ∃ b, b < n ∧ R b a = true ∧ R a b = false ∧ d b = false := by
        simp only [freeG, hd, Bool.not_false, Bool.true_and, List.all_eq_true, List.mem_range, Bool.not_eq_true', Bool.and_eq_false_iff, Bool.not_eq_false'] at hf
        simp only [Classical.not_forall, not_or, Bool.not_eq_false, Bool.not_eq_true] at hf
        obtain ⟨b, hb, ⟨h1, h2⟩, h3⟩ := hf
        exact ⟨b, hb, h1, h2, h3⟩
      refine ih b ?_ hb h3
      have : down R n b < down R n a := by
        refine filter_lt (a := a) ?_ (List.mem_range.2 ha) ?_ ?_
        · intro x hx
          simp only [Bool.or_eq_true, decide_eq_true_eq] at hx ⊢
          rcases hx with hx | rfl
          · exact .inl (htr _ _ _ hx h1)
          · exact .inl h1
        · simp only [h2, Bool.false_or, decide_eq_false_iff_not]
          rintro rfl
          rw [h1] at h2; cases h2
        · simp
      omega
theorem rch_trans {e : Nat → Nat → Bool} {a b c : Nat} (h1 : rch e a b = true) (h2 : rch e b c = true) : rch e a c = true := rch_iff.2 ((rch_iff.1 h1).trans (rch_iff.1 h2))
structure CInv (R : Nat → Nat → Bool) (n : Nat) (d : Nat → Bool) (l : List (List Int)) : Prop where
  mem : ∀ x : Int, (∃ C ∈ l, x ∈ C) ↔ ∃ a : Nat, x = (a : Int) ∧ a < n ∧ d a = false
  nd : ∀ C ∈ l, C.Nodup
  one : ∀ C ∈ l, ∃ a : Nat, a < n ∧ C = setL n (mate R n a)
  ord : l.Pairwise fun C C' => ∀ a b : Nat, (a : Int) ∈ C → (b : Int) ∈ C' → a ≠ b ∧ R b a = false
def Whole (R : Nat → Nat → Bool) (n : Nat) (d : Nat → Bool) : Prop := ∀ a b, a < n → b < n → R a b = true → R b a = true → d a = true → d b = true
theorem mate_sym {R : Nat → Nat → Bool} {n a b : Nat} (htr : ∀ a b c, R a b = true → R b c = true → R a c = true) (ha : a < n) (h : mate R n a b = true) {c : Nat} (hc : mate R n a c = true) (hne : b ≠ c) : R b c = true := by
  simp only [mate, Bool.and_eq_true, Bool.or_eq_true, decide_eq_true_eq] at h hc
  obtain ⟨_, h⟩ := h
  obtain ⟨_, hc⟩ := hc
  rcases h with rfl | ⟨h1, h2⟩
  · rcases hc with rfl | ⟨h3, h4⟩
    · exact absurd rfl hne
    · exact h3
  · rcases hc with rfl | ⟨h3, h4⟩
    · exact h2
    · exact htr _ _ _ h2 h3
theorem comps_inv {R : Nat → Nat → Bool} {n : Nat} (htr : ∀ a b c, R a b = true → R b c = true → R a c = true) : ∀ (k : Nat) (d : Nat → Bool), undone n d ≤ k → Whole R n d → CInv R n d (comps R n k d) := by
  intro k
  induction k with
  | zero =>
    intro d hu hw
    have hz : (List.range n).filter (fun a => !d a) = [] := List.eq_nil_of_length_eq_zero (Nat.le_zero.1 hu)
    refine ⟨fun x => ⟨by rintro ⟨C, hC, _⟩; simp [comps] at hC, ?_⟩, fun C hC => by simp [comps] at hC, fun C hC => by simp [comps] at hC, by simp [comps]⟩
    rintro ⟨a, _, ha, hd⟩
    have := List.filter_eq_nil_iff.1 hz a (List.mem_range.2 ha)
    rw [hd] at this
    exact absurd rfl this
  | succ k ih =>
    intro d hu hw
    rw [comps]
    split
    · rename_i hnone
      refine ⟨fun x => ⟨by rintro ⟨C, hC, _⟩; simp at hC, ?_⟩, fun C hC => by simp at hC, fun C hC => by simp at hC, by simp⟩
      rintro ⟨a, _, ha, hd⟩
      obtain ⟨b, hb, hf⟩ := free_exists (d := d) htr (down R n a) a (Nat.le_refl _) ha hd
      have := List.find?_eq_none.1 hnone b (List.mem_range.2 hb)
      exact absurd hf this
    · rename_i a hsome
      obtain ⟨ha, hf⟩ := free_find hsome
      have hda : d a = false := by
        simp only [freeG, Bool.and_eq_true, Bool.not_eq_true'] at hf
        exact hf.1
      have hmd : ∀ b, mate R n a b = true → d b = false := by
        intro b hb
        by_cases q : a = b
        · subst q; exact hda
        · have h1 := mate_sym htr ha (mate_self ha) hb q
          have h2 := mate_sym htr ha hb (mate_self ha) (Ne.symm q)
          rcases hq : d b with _ | _
          · rfl
          · rw [hw b a (mate_lt hb) ha h2 h1 hq] at hda; cases hda
      have hw' : Whole R n (addS d (mate R n a)) := by
        intro x y hx hy h1 h2 h3
        simp only [addS, Bool.or_eq_true] at h3 ⊢
        rcases h3 with h3 | h3
        · exact .inl (hw x y hx hy h1 h2 h3)
        · right
          simp only [mate, Bool.and_eq_true, Bool.or_eq_true, decide_eq_true_eq] at h3 ⊢
          refine ⟨hy, ?_⟩
          rcases h3.2 with rfl | ⟨h4, h5⟩
          · exact .inr ⟨h1, h2⟩
          · exact .inr ⟨htr _ _ _ h4 h1, htr _ _ _ h2 h5⟩
      have hul := undone_lt ha hf
      have I := ih (addS d (mate R n a)) (by omega) hw'
      refine ⟨fun x => ?_, fun C hC => ?_, fun C hC => ?_, List.pairwise_cons.2 ⟨fun C' hC' u v hu hv => ?_, I.ord⟩⟩
      · constructor
        · rintro ⟨C, hC, hx⟩
          rcases List.mem_cons.1 hC with rfl | hC
          · obtain ⟨j, rfl, hj, hs⟩ := setL_mem.1 hx
            exact ⟨j, rfl, hj, hmd j hs⟩
          · obtain ⟨j, rfl, hj, hs⟩ := (I.mem x).1 ⟨C, hC, hx⟩
            simp only [addS, Bool.or_eq_false_iff] at hs
            exact ⟨j, rfl, hj, hs.1⟩
        · rintro ⟨j, rfl, hj, hs⟩
          by_cases q : mate R n a j = true
          · exact ⟨_, List.mem_cons_self, setL_mem.2 ⟨j, rfl, hj, q⟩⟩
          · obtain ⟨C, hC, hx⟩ := (I.mem (j : Int)).2 ⟨j, rfl, hj, by simp [addS, hs, q]⟩
            exact ⟨C, List.mem_cons_of_mem _ hC, hx⟩
      · rcases List.mem_cons.1 hC with rfl | hC
        · exact setL_nodup _ _
        · exact I.nd C hC
      · rcases List.mem_cons.1 hC with rfl | hC
        · exact ⟨a, ha, rfl⟩
        · exact I.one C hC
      · obtain ⟨u', e1, _, hmu⟩ := setL_mem.1 hu
        obtain rfl : u = u' := by omega
        obtain ⟨v', e2, hvn, hsv⟩ := (I.mem (v : Int)).1 ⟨C', hC', hv⟩
        obtain rfl : v = v' := by omega
        simp only [addS, Bool.or_eq_false_iff] at hsv
        refine ⟨by rintro rfl; rw [hmu] at hsv; exact absurd hsv.2 (by simp), ?_⟩
        rcases hq : R v u with _ | _
        · rfl
        · exfalso
          have hva : R v a = true := by
            by_cases q : a = u
            · subst q; exact hq
            · exact htr _ _ _ hq (mate_sym htr ha hmu (mate_self ha) (Ne.symm q))
          simp only [freeG, Bool.and_eq_true, Bool.not_eq_true', List.all_eq_true, List.mem_range, Bool.and_eq_false_iff, Bool.not_eq_false'] at hf
          rcases hf.2 v hvn with (h | h) | h
          · rw [hva] at h; cases h
          · have : mate R n a v = true := by simp [mate, hvn, h, hva]
            rw [this] at hsv; exact absurd hsv.2 (by simp)
          · rw [hsv.1] at h; cases h
theorem wt_pos_edge {rs : List Arw} {a b : Nat} (h : wt (a : Int) (b : Int) rs ≠ 0) : eA rs a b = true := by
  rw [eA_iff]
  refine Classical.byContradiction fun hn => h (wt_none fun r hr q => hn ⟨r, hr, q⟩)
theorem cross_zero {rs : List Arw} {a b : Nat} (h : rch (eA rs) b a = false) : wt (b : Int) (a : Int) rs = 0 := by
  refine Classical.byContradiction fun q => ?_
  have := rch_iff.2 (TC.base (wt_pos_edge q))
  rw [this] at h; cases h
theorem comps_all {n : Nat} {rs : List Arw} : CInv (rch (eA rs)) n noneD (comps (rch (eA rs)) n n noneD) :=
  comps_inv (R := rch (eA rs)) (fun _ _ _ => rch_trans) n noneD (by rw [undone_none]; exact Nat.le_refl _) (fun a b _ _ _ _ h => by cases h)
section
variable {rs : List Arw} {sp : Int}
def NoBack (rs : List Arw) (a b : List Int) : Prop := ∀ x ∈ a, ∀ y ∈ b, wt y x rs = 0
theorem sT_none {x : Int} : ∀ {l : List Int}, (∀ y ∈ l, wt y x rs = 0) → sT rs x l = 0
  | [], _ => rfl
  | y :: l, h => by
    simp only [sT, h y (by simp), sT_none (l := l) fun z hz => h z (by simp [hz])]; omega
theorem inc_join : ∀ {a b : List Int}, NoBack rs a b → inc rs (a ++ b) = inc rs a + inc rs b
  | [], b, _ => by simp [inc]
  | x :: a, b, h => by
    have ih := inc_join (a := a) (b := b) fun z hz => h z (by simp [hz])
    simp only [List.cons_append, inc, sT_append, ih, sT_none (h x (by simp))]
    omega
theorem feas_join : ∀ {a b : List Int}, NoBack rs a b → feas rs sp a → feas rs sp b → feas rs sp (a ++ b)
  | [], b, _, _, hb => hb
  | x :: a, b, h, ha, hb => by
    refine ⟨fun y hy q => ?_, feas_join (a := a) (fun z hz => h z (by simp [hz])) ha.2 hb⟩
    rcases List.mem_append.1 hy with hy | hy
    · exact ha.1 y hy q
    · exact h x (by simp) y hy
end
end Go.Air
set_option maxRecDepth 100000
namespace Go.Air
theorem setOf_bit (c : List Int) (d : Nat → Bool) (j : Nat) : ∀ k, (setOf c d k).testBit j = (decide (j < k) && d (c.getD j 0).toNat)
  | 0 => by simp [setOf]
  | k + 1 => by
    have ih := setOf_bit c d j k
    have hlt := setOf_lt c d k
    simp only [setOf]
    by_cases q : j = k
    · subst q
      have h0 : (setOf c d j).testBit j = false := by rw [ih]; simp
      split
      · rename_i h
        rw [Nat.testBit_or, h0, Nat.testBit_two_pow_self, h]; simp
      · rename_i h
        rw [h0]
        have : d (c.getD j 0).toNat = false := by simpa using h
        rw [this]; simp
    · have hjk : (j < k + 1) ↔ (j < k) := by omega
      simp only [hjk]
      split
      · rw [Nat.testBit_or, ih, Nat.testBit_two_pow]
        have : ¬ k = j := fun z => q z.symm
        simp [this]
      · exact ih
def leftOf (d : Nat → Bool) (C : List Int) : List Int := C.filter fun y => d y.toNat
theorem nodup_filter {p : Int → Bool} {l : List Int} (h : l.Nodup) : (l.filter p).Nodup := h.sublist List.filter_sublist
theorem getD_mem {c : List Int} {j : Nat} (hj : j < c.length) : c.getD j 0 ∈ c := by
  rw [List.getD_eq_getElem?_getD, List.getElem?_eq_getElem hj]
  exact List.getElem_mem hj
theorem mem_getD {c : List Int} {y : Int} (h : y ∈ c) : ∃ j, j < c.length ∧ c.getD j 0 = y := by
  obtain ⟨j, hj, e⟩ := List.getElem_of_mem h
  exact ⟨j, hj, by rw [List.getD_eq_getElem?_getD, List.getElem?_eq_getElem hj, e]; rfl⟩
theorem subL_left {c : List Int} (hd : c.Nodup) (d : Nat → Bool) : (subL c (setOf c d c.length) c.length).Perm (leftOf d c) := by
  refine (List.perm_ext_iff_of_nodup (subL_nodup hd _ _ (Nat.le_refl _)) (nodup_filter hd)).2 fun y => ?_
  rw [subL_iff, List.mem_filter]
  constructor
  · rintro ⟨j, h1, h2, rfl⟩
    rw [setOf_bit] at h2
    simp only [h1, decide_true, Bool.true_and] at h2
    exact ⟨getD_mem h1, h2⟩
  · rintro ⟨h1, h2⟩
    obtain ⟨j, h3, rfl⟩ := mem_getD h1
    exact ⟨j, h3, by rw [setOf_bit, h2, decide_eq_true h3]; rfl, rfl⟩
def Disj (xss : List (List Int)) : Prop := xss.Pairwise fun C C' => ∀ x, x ∈ C → x ∉ C'
section
variable {rs : List Arw} {sp : Int} {d : Nat → Bool}
theorem filter_comm' (p q : Int → Bool) (l : List Int) (h : ∀ x, q x = true → p x = true) : (l.filter p).filter q = l.filter q := by
  rw [List.filter_filter]
  refine List.filter_congr fun x _ => ?_
  cases hq : q x
  · simp
  · simp [h x hq]
theorem left_low0 (hw : Wok rs) : ∀ (xss : List (List Int)) (xs : List Int), Disj xss → (∀ c ∈ xss, c.Nodup ∧ c.length ≤ 24) → (∀ c ∈ xss, (xs.filter fun y => decide (y ∈ c)).Perm (leftOf d c)) → feas rs sp xs → leftS rs sp d xss ≤ inc rs xs
  | [], xs, _, _, _, _ => by
    simp only [leftS]; exact inc_nonneg hw xs
  | c :: l, xs, hdj, hc, hp, hf => by
    obtain ⟨hd1, hd2⟩ := List.pairwise_cons.1 hdj
    obtain ⟨hcn, hcl⟩ := hc c (by simp)
    have h1 := tab_low (sp := sp) hw hcn hcl (setOf c d c.length) (setOf_lt _ _ _) _ ((hp c (by simp)).trans (subL_left hcn d).symm) (feas_filter _ xs hf)
    have h2 := left_low0 hw l (xs.filter fun y => !decide (y ∈ c)) hd2 (fun c' h' => hc c' (by simp [h'])) (fun c' h' => by
      rw [filter_comm' _ _ _ (fun x hx => by
        simp only [decide_eq_true_eq, Bool.not_eq_true', decide_eq_false_iff_not] at hx ⊢
        exact fun q => hd1 c' h' x q hx)]
      exact hp c' (by simp [h'])) (feas_filter _ xs hf)
    have h3 := inc_split hw (fun y => decide (y ∈ c)) xs
    simp only [leftS]
    unfold tv at h1
    omega
theorem small_inc {l : List Int} (h : l.length ≤ 1) : inc rs l = 0 ∧ feas rs sp l := by
  match l, h with
  | [], _ => exact ⟨rfl, trivial⟩
  | [x], _ => exact ⟨by simp [inc, sT], by simp [feas]⟩
theorem left_hit0 (hw : Wok rs) : ∀ (CS : List (List Int)), (∀ C ∈ CS, C.Nodup ∧ C.length ≤ 24) → CS.Pairwise (fun C C' => NoBack rs C C') → (∀ C ∈ CS, big C = true → tv rs sp C (setOf C d C.length) < never) →
    ∃ xs : List Int, xs.Perm (CS.flatMap (leftOf d)) ∧ feas rs sp xs ∧ inc rs xs = leftS rs sp d (CS.filter big)
  | [], _, _, _ => ⟨[], by simp, trivial, by simp [inc, leftS]⟩
  | C :: l, hc, hpw, ht => by
    obtain ⟨hp1, hp2⟩ := List.pairwise_cons.1 hpw
    obtain ⟨hcn, hcl⟩ := hc C (by simp)
    obtain ⟨xs, q1, q2, q3⟩ := left_hit0 hw l (fun C' h' => hc C' (by simp [h'])) hp2 (fun C' h' => ht C' (by simp [h']))
    obtain ⟨o, o1, o2, o3⟩ : ∃ o : List Int, o.Perm (leftOf d C) ∧ feas rs sp o ∧ inc rs o = if big C = true then tv rs sp C (setOf C d C.length) else 0 := by
      by_cases hb : big C = true
      · rw [if_pos hb]
        obtain ⟨o, o1, o2, o3⟩ := tab_hit hw hcn hcl (setOf C d C.length) (setOf_lt _ _ _) (ht C (by simp) hb)
        exact ⟨o, o1.trans (subL_left hcn d), o2, o3⟩
      · rw [if_neg hb]
        have hl : (leftOf d C).length ≤ 1 := by
          have := List.length_filter_le (fun y => d y.toNat) C
          unfold big at hb
          simp at hb
          unfold leftOf
          omega
        exact ⟨leftOf d C, .refl _, (small_inc hl).2, (small_inc (sp := sp) hl).1⟩
    have hnb : NoBack rs o xs := by
      intro x hx y hy
      have hx' : x ∈ C := (List.mem_filter.1 (o1.mem_iff.1 hx)).1
      obtain ⟨C', h1, h2⟩ := List.mem_flatMap.1 (q1.mem_iff.1 hy)
      exact hp1 C' h1 x hx' y (List.mem_filter.1 h2).1
    refine ⟨o ++ xs, ?_, feas_join hnb o2 q2, ?_⟩
    · rw [List.flatMap_cons]
      exact o1.append q1
    · rw [inc_join hnb, o3, q3]
      by_cases hb : big C = true
      · rw [if_pos hb, List.filter_cons_of_pos hb]; rfl
      · rw [if_neg hb, List.filter_cons_of_neg hb]; omega
end
structure GoodC (n : Nat) (rs : List Arw) : Prop where
  n24 : n ≤ 24
  gr : GoodR (n : Int) rs
  ck : checkS (n : Int) rs = 0
  ce : circE (circR (n : Int) rs) = 0
theorem goodC_of {N : Int} {rs : List Arw} (h : circledS N rs = 0) : ∃ n : Nat, N = (n : Int) ∧ GoodC n rs := by
  obtain ⟨h1, h2⟩ := circled_ok h
  obtain ⟨n, rfl, hn, gr⟩ := check_ok h1
  exact ⟨n, rfl, hn, gr, h1, h2⟩
theorem GoodC.wok {n : Nat} {rs : List Arw} (g : GoodC n rs) : Wok rs := wok_of g.gr.1
theorem GoodC.comps {n : Nat} {rs : List Arw} (g : GoodC n rs) : circR (n : Int) rs = (comps (rch (eA rs)) n n noneD).filter big := by
  unfold circR compsR
  rw [if_pos g.ck]; simp
section
variable {rs : List Arw} {n : Nat}
theorem comp_len {C : List Int} (h : C ∈ comps (rch (eA rs)) n n noneD) (hn : n ≤ 24) : C.Nodup ∧ C.length ≤ 24 := by
  obtain ⟨a, _, rfl⟩ := comps_all.one C h
  exact ⟨setL_nodup _ _, Nat.le_trans (setL_len _ _) hn⟩
theorem comps_noback : (comps (rch (eA rs)) n n noneD).Pairwise fun C C' => NoBack rs C C' := by
  refine List.Pairwise.imp_of_mem ?_ (comps_all (rs := rs)).ord
  intro C C' hC hC' h x hx y hy
  obtain ⟨a, rfl, _, _⟩ := (comps_all.mem x).1 ⟨C, hC, hx⟩
  obtain ⟨b, rfl, _, _⟩ := (comps_all.mem y).1 ⟨C', hC', hy⟩
  exact cross_zero (h a b hx hy).2
theorem comps_disj : Disj (comps (rch (eA rs)) n n noneD) := by
  refine List.Pairwise.imp_of_mem ?_ (comps_all (rs := rs)).ord
  intro C C' hC hC' h x hx hx'
  obtain ⟨a, rfl, _, _⟩ := (comps_all.mem x).1 ⟨C, hC, hx⟩
  exact (h a a hx hx').1 rfl
theorem nodup_flatMap {d : Nat → Bool} : ∀ {CS : List (List Int)}, Disj CS → (∀ C ∈ CS, C.Nodup) → (CS.flatMap (leftOf d)).Nodup
  | [], _, _ => by simp
  | C :: l, hd, hn => by
    obtain ⟨h1, h2⟩ := List.pairwise_cons.1 hd
    rw [List.flatMap_cons]
    refine List.nodup_append.2 ⟨nodup_filter (hn C (by simp)), nodup_flatMap h2 fun C' h' => hn C' (by simp [h']), fun a ha b hb => ?_⟩
    rintro rfl
    obtain ⟨C', h3, h4⟩ := List.mem_flatMap.1 hb
    exact h1 C' h3 a (List.mem_filter.1 ha).1 (List.mem_filter.1 h4).1
theorem comps_perm (d : Nat → Bool) : ((comps (rch (eA rs)) n n noneD).flatMap (leftOf d)).Perm (setL n d) := by
  refine (List.perm_ext_iff_of_nodup (nodup_flatMap comps_disj fun C h => comps_all.nd C h) (setL_nodup _ _)).2 fun y => ?_
  rw [List.mem_flatMap, setL_mem]
  constructor
  · rintro ⟨C, h1, h2⟩
    obtain ⟨h3, h4⟩ := List.mem_filter.1 h2
    obtain ⟨a, rfl, ha, _⟩ := (comps_all.mem y).1 ⟨C, h1, h3⟩
    exact ⟨a, rfl, ha, h4⟩
  · rintro ⟨j, rfl, hj, hd⟩
    obtain ⟨C, h1, h2⟩ := (comps_all (rs := rs) (n := n).mem (j : Int)).2 ⟨j, rfl, hj, rfl⟩
    exact ⟨C, h1, List.mem_filter.2 ⟨h2, hd⟩⟩
theorem filter_circle {d : Nat → Bool} {c xs : List Int} (hc : c ∈ circR (n : Int) rs) (hx : xs.Perm (setL n d)) : (xs.filter fun y => decide (y ∈ c)).Perm (leftOf d c) := by
  obtain ⟨n', a, hn', _, _, rfl, _⟩ := circ_mem hc
  obtain rfl : n' = n := by omega
  refine (List.perm_ext_iff_of_nodup (nodup_filter ((hx.nodup_iff).2 (setL_nodup _ _))) (nodup_filter (setL_nodup _ _))).2 fun y => ?_
  rw [List.mem_filter, List.mem_filter, hx.mem_iff, setL_mem]
  constructor
  · rintro ⟨⟨j, rfl, hj, hd⟩, h⟩
    exact ⟨by simpa using h, hd⟩
  · rintro ⟨h1, h2⟩
    obtain ⟨j, rfl, hj, _⟩ := setL_mem.1 h1
    exact ⟨⟨j, rfl, hj, h2⟩, by simpa using h1⟩
theorem circR_disj (g : GoodC n rs) : Disj (circR (n : Int) rs) := by
  rw [g.comps]
  exact List.Pairwise.filter _ comps_disj
theorem left_low (g : GoodC n rs) {sp : Int} {d : Nat → Bool} {xs : List Int} (hx : xs.Perm (setL n d)) (hf : feas rs sp xs) : leftS rs sp d (circR (n : Int) rs) ≤ inc rs xs :=
  left_low0 g.wok _ xs (circR_disj g) (fun c hc => ⟨(circ_ok g.ce c hc).2.1, by have := (circ_ok g.ce c hc).1; omega⟩) (fun c hc => filter_circle hc hx) hf
theorem inc_bound (hw : Wok rs) : ∀ l : List Int, inc rs l ≤ 1000 * (l.length * l.length)
  | [] => by simp [inc]
  | x :: l => by
    have ih := inc_bound hw l
    have := sT_le hw x l
    simp only [inc, List.length_cons]
    have e : ((l.length + 1 : Nat) : Int) * ((l.length + 1 : Nat) : Int) = l.length * l.length + 2 * l.length + 1 := by
      push_cast
      rw [Int.add_mul, Int.mul_add, Int.mul_one, Int.one_mul]
      omega
    rw [e]
    omega
theorem feas_some (sp : Int) (l : List Int) (hd : l.Nodup) : ∃ xs : List Int, xs.Perm l ∧ feas rs sp xs := by
  have key : ∀ l : List Int, sp ∉ l → feas rs sp l := by
    intro l
    induction l with
    | nil => intro _; trivial
    | cons x l ih =>
      intro h
      refine ⟨fun y hy q => ?_, ih fun q => h (by simp [q])⟩
      subst q
      exact absurd (List.mem_cons_of_mem _ hy) h
  by_cases hs : sp ∈ l
  · refine ⟨sp :: l.erase sp, (List.perm_cons_erase hs).symm, ?_⟩
    have hn : sp ∉ l.erase sp := by
      have := (List.perm_cons_erase hs).nodup_iff.1 hd
      exact (List.nodup_cons.1 this).1
    exact ⟨fun y hy q => absurd (q ▸ hy) hn, key _ hn⟩
  · exact ⟨l, .refl _, key l hs⟩
theorem left_small (g : GoodC n rs) (sp : Int) (d : Nat → Bool) : leftS rs sp d (circR (n : Int) rs) ≤ 576000 := by
  obtain ⟨xs, h1, h2⟩ := feas_some (rs := rs) sp (setL n d) (setL_nodup _ _)
  have h3 := left_low g h1 h2
  have h4 := inc_bound g.wok xs
  have h5 : xs.length ≤ 24 := by rw [h1.length_eq]; exact Nat.le_trans (setL_len _ _) g.n24
  have h6 : xs.length * xs.length ≤ 24 * 24 := Nat.mul_le_mul h5 h5
  have h7 : ((xs.length : Int) * (xs.length : Int)) ≤ 576 := by
    have : ((xs.length * xs.length : Nat) : Int) ≤ 576 := by omega
    simpa using this
  omega
theorem leftS_each {sp : Int} {d : Nat → Bool} (hw : Wok rs) : ∀ {xss : List (List Int)}, (∀ c ∈ xss, c.length ≤ 24) → ∀ c ∈ xss, tv rs sp c (setOf c d c.length) ≤ leftS rs sp d xss
  | [], _, c, h => by simp at h
  | c' :: l, hl, c, h => by
    have b := leftS_bound hw (sp := sp) (d := d) l fun x hx => hl x (by simp [hx])
    have b2 := tv_bound (sp := sp) hw (hl c' (by simp)) (setOf c' d c'.length)
    simp only [leftS]
    unfold tv at b2 ⊢
    rcases List.mem_cons.1 h with rfl | h
    · omega
    · have := leftS_each (sp := sp) (d := d) hw (xss := l) (fun x hx => hl x (by simp [hx])) c h
      unfold tv at this
      omega
theorem left_hit (g : GoodC n rs) (sp : Int) (d : Nat → Bool) : ∃ xs : List Int, xs.Perm (setL n d) ∧ feas rs sp xs ∧ inc rs xs = leftS rs sp d (circR (n : Int) rs) := by
  have hs := left_small g sp d
  obtain ⟨xs, h1, h2, h3⟩ := left_hit0 (sp := sp) (d := d) g.wok (comps (rch (eA rs)) n n noneD) (fun C h => comp_len h g.n24) comps_noback (fun C hC hb => by
    have hm : C ∈ circR (n : Int) rs := by rw [g.comps]; exact List.mem_filter.2 ⟨hC, hb⟩
    have := leftS_each (sp := sp) (d := d) g.wok (fun c hc => by have := (circ_ok g.ce c hc).1; omega) C hm
    unfold never
    omega)
  exact ⟨xs, h1.trans (comps_perm d), h2, by rw [h3, g.comps]⟩
end
end Go.Air
