/-
  The middle-out order of a row's columns; middle, the program's and the document's, in Air.
-/
import Derived.Test.YtlldpmkdjpmlpaaLists
set_option linter.unusedSectionVars false
set_option linter.unusedVariables false
set_option linter.unusedSimpArgs false
set_option maxRecDepth 100000
namespace Go.Air
open Go.Air.Try

def pick (m : Int) (l : List Int) : List Int := l.filter fun c => decide (0 ≤ c ∧ c < m)
/-- the two columns of a distance, the side's first. -/
def two (at0 side i : Int) : List Int := [at0 + side * i, at0 - side * i]
def midL (m at0 side : Int) : Nat → List Int
  | 0 => [at0]
  | i + 1 => midL m at0 side i ++ pick m (two at0 side ((i : Int) + 1))
def mAt (m : Nat) : Int := (((m - 1) / 2 : Nat) : Int)
def mSide (m : Nat) : Int := if m % 2 = 1 then -1 else 1
def mid (m : Nat) : List Int := if m = 0 then [] else midL (m : Int) (mAt m) (mSide m) m
theorem side_cases (m : Nat) : mSide m = 1 ∨ mSide m = -1 := by unfold mSide; split <;> simp

theorem pick_cons (m c : Int) (l : List Int) : pick m (c :: l) = if 0 ≤ c ∧ c < m then c :: pick m l else pick m l := by
  unfold pick
  by_cases h : 0 ≤ c ∧ c < m
  · rw [List.filter_cons_of_pos (by simpa using h), if_pos h]
  · rw [List.filter_cons_of_neg (by simpa using h), if_neg h]
theorem pick_nil (m : Int) : pick m [] = [] := rfl
theorem midL_len {m : Nat} (hm : 0 < m) {s : Int} (hs : s = 1 ∨ s = -1) : ∀ i : Nat, (midL (m : Int) (mAt m) s i).length = min ((m - 1) / 2 + i) (m - 1) - ((m - 1) / 2 - i) + 1
  | 0 => by simp [midL]; omega
  | i + 1 => by
    have ih := midL_len hm hs i
    simp only [midL, List.length_append, ih, two, pick_cons, pick_nil]
    unfold mAt
    rcases hs with rfl | rfl
    · split <;> split <;> simp <;> omega
    · split <;> split <;> simp <;> omega
theorem midL_le {m : Nat} (hm : 0 < m) {s : Int} (hs : s = 1 ∨ s = -1) (i : Nat) : (midL (m : Int) (mAt m) s i).length ≤ m := by rw [midL_len hm hs]; omega
theorem midL_lt {m : Nat} (hm : 0 < m) {s : Int} (hs : s = 1 ∨ s = -1) {i : Nat} (h : (midL (m : Int) (mAt m) s i).length < m) : i < m := by rw [midL_len hm hs] at h; omega
theorem midL_stop {m : Nat} (hm : 0 < m) {s : Int} (hs : s = 1 ∨ s = -1) {i : Nat} (h : ¬ (midL (m : Int) (mAt m) s i).length < m) : ∀ d, midL (m : Int) (mAt m) s (i + d) = midL (m : Int) (mAt m) s i
  | 0 => rfl
  | d + 1 => by
    have ih := midL_stop hm hs h d
    have h1 := midL_le hm hs (i + d + 1)
    rw [show i + (d + 1) = i + d + 1 by omega]
    simp only [midL, List.length_append] at h1 ⊢
    rw [ih] at h1 ⊢
    have : pick (m : Int) (two (mAt m) s ((i + d : Nat) + 1)) = [] := List.eq_nil_of_length_eq_zero (by omega)
    rw [this, List.append_nil]
theorem mid_stop {m : Nat} (hm : 0 < m) {i : Nat} (hi : i ≤ m) (h : ¬ (midL (m : Int) (mAt m) (mSide m) i).length < m) : midL (m : Int) (mAt m) (mSide m) i = mid m := by
  unfold mid
  rw [if_neg (by omega)]
  have := midL_stop hm (side_cases m) h (m - i)
  rw [show i + (m - i) = m by omega] at this
  exact this.symm
theorem mid_len (m : Nat) : (mid m).length = m := by
  unfold mid
  split
  · simp [*]
  · rw [midL_len (by omega) (side_cases m)]; omega
theorem midL_mem {m : Nat} (hm : 0 < m) {s : Int} : ∀ (i : Nat) (c : Int), c ∈ midL (m : Int) (mAt m) s i → 0 ≤ c ∧ c < m
  | 0, c, h => by
    simp [midL] at h
    subst h
    unfold mAt; omega
  | i + 1, c, h => by
    simp only [midL, List.mem_append] at h
    rcases h with h | h
    · exact midL_mem hm i c h
    · unfold pick at h
      simpa using (List.mem_filter.1 h).2
theorem mid_mem {m : Nat} {c : Int} (h : c ∈ mid m) : 0 ≤ c ∧ c < m := by
  unfold mid at h
  split at h
  · simp at h
  · exact midL_mem (by omega) m c h

section
variable {a b : Int}
@[go_sem] theorem bin_quo2 : binV .quo (.i .i64 a) (.i .i64 2) = some (.i .i64 (IntKind.i64.wrap (a.tdiv 2))) := rfl
@[go_sem] theorem bin_rem2 : binV .rem (.i .i64 a) (.i .i64 2) = some (.i .i64 (a.tmod 2)) := rfl
end
theorem at_eq {m : Nat} (hm : 0 < m) (h : m ≤ 1000000) : IntKind.i64.wrap ((IntKind.i64.wrap ((m : Int) - 1)).tdiv 2) = mAt m := by
  rw [wrap_in (n := (m : Int) - 1) (by omega) (by omega)]
  have e : ((m : Int) - 1) = ((m - 1 : Nat) : Int) := by omega
  rw [e]
  have : ((m - 1 : Nat) : Int).tdiv 2 = (((m - 1) / 2 : Nat) : Int) := rfl
  rw [this, wrap_in (by omega) (by omega)]
  rfl
theorem rem_eq (m : Nat) : ((m : Int).tmod 2) = ((m % 2 : Nat) : Int) := rfl

/-- one column more, if it is one. -/
theorem app_int {h0 h : H} {w : V} {xs : List Int} {n : Nat} (c : Int) (o : Own h0 1 h w n (ints xs)) (e : Ext h0 h) (hn : n ≤ 1000000) :
    ∃ w' h', appendV 1 8 (h.new (.cells [.i .i64 c])) w (.sl h.next 0 1 1 none) = .ok w' h' ∧ Ext h0 h' ∧ Own h0 1 h' w' (n + 1) (ints (xs ++ [c])) := by
  obtain ⟨o3, x3⟩ := Own.lit (esz := 1) (Ext.refl h) [.i .i64 c] 1 rfl
  obtain ⟨w', h5, r1, r2, r3, _⟩ := Own.app (bytes := 8) (o.ext x3) (e.trans x3) o3.sl (by intro u hu; simp at hu; subst hu; rfl) (by omega) (by omega) (by omega)
  exact ⟨w', h5, r1, r2, by simpa [ints] using r3⟩
theorem Own.len1 {h0 h : H} {w : V} {xs : List Int} {n : Nat} (o : Own h0 1 h w n (ints xs)) : xs.length = n := by
  have := o.len
  simpa [ints] using this

theorem t94 : tblA 94 = some a94 := by kernel_rfl
theorem fn_refMiddle {h : H} {m : Nat} (hm : m ≤ 100000) : WC tblA (.fn 94 [] []) [.i .i64 (m : Int)] h fun u h' => Ext h h' ∧ Own h 1 h' u m (ints (mid m)) := by
  refine (WC_in t94).2 ?_
  by_cases h0 : m = 0
  · subst h0
    have h0' : ((0 : Nat) : Int) = 0 := rfl
    simp only [go_sem, ↓reduceIte, r94_0, r94_1, r94_2, r94_3]
    exact ⟨.refl h, .nil⟩
  · have h0' : ¬ (m : Int) = 0 := by omega
    have hpos : 0 < m := by omega
    have hat := at_eq hpos (by omega)
    have hsw : ∀ i : Nat, i ≤ m → IntKind.i64.wrap (mAt m + (i : Int)) = mAt m + i ∧ IntKind.i64.wrap (mAt m - (i : Int)) = mAt m - i := by
      intro i hi
      unfold mAt
      exact ⟨wrap_in (by omega) (by omega), wrap_in (by omega) (by omega)⟩
    obtain ⟨w1, h1, q1, q2, q3⟩ := app_int (xs := []) (n := 0) (mAt m) (Own.nil (h0 := h) (h := h) (esz := 1)) (.refl h) (by omega)
    simp only [go_sem, ↓reduceIte, r94_0, r94_1, r94_2, r94_4, r94_5, r94_6, h0', hat, q1]
    refine W_while (fun k t h2 => ∃ (i n : Nat) (w : V), k = m - i ∧ i ≤ m ∧ t.length = 61 ∧ nth t 0 = .i .i64 (m : Int) ∧ nth t 3 = w ∧ nth t 4 = .i .i64 (mAt m) ∧ nth t 5 = .i .i64 ((i + 1 : Nat) : Int) ∧ Ext h h2 ∧ Own h 1 h2 w n (ints (midL (m : Int) (mAt m) (mSide m) i))) ?_ m ?_
    · rintro k t h2 ⟨i, n, w, rfl, hi, tl, t0, t3, t4, t5, e2, o2⟩
      have hln := o2.len1
      unfold b94_0
      by_cases hlt : n < m
      · have hlt' : (n : Int) < (m : Int) := by omega
        have him := midL_lt hpos (side_cases m) (i := i) (by omega)
        -- what is done with the two columns
        have step : ∀ (c1 c2 : Int) (t : List V), t.length = 61 → nth t 0 = .i .i64 (m : Int) → nth t 3 = w → nth t 4 = .i .i64 (mAt m) → nth t 5 = .i .i64 ((i + 1 : Nat) : Int) → nth t 6 = .i .i64 c1 → nth t 7 = .i .i64 c2 →
            midL (m : Int) (mAt m) (mSide m) (i + 1) = midL (m : Int) (mAt m) (mSide m) i ++ pick m [c1, c2] →
            ∀ Q : Out → List V → H → Prop, (∀ t' w' n' h', t'.length = 61 → nth t' 0 = .i .i64 (m : Int) → nth t' 3 = w' → nth t' 4 = .i .i64 (mAt m) → nth t' 5 = .i .i64 ((i + 1 : Nat) : Int) → Ext h h' → Own h 1 h' w' n' (ints (midL (m : Int) (mAt m) (mSide m) (i + 1))) → Q .norm t' h') →
            W tblA (.seq (.seq (.ops r94_14) (.cond (.t 44) (.ops r94_15) .skip)) (.seq (.ops r94_16) (.cond (.t 55) (.ops r94_17) .skip))) t h2 Q := by
          intro c1 c2 t tl t0 t3 t4 t5 t6 t7 hmid Q hQ
          rw [pick_cons, pick_cons, pick_nil] at hmid
          have second : ∀ (t : List V) (h3 : H) (w : V) (n : Nat) (xs : List Int), t.length = 61 → nth t 0 = .i .i64 (m : Int) → nth t 3 = w → nth t 4 = .i .i64 (mAt m) → nth t 5 = .i .i64 ((i + 1 : Nat) : Int) → nth t 7 = .i .i64 c2 → Ext h h3 → Own h 1 h3 w n (ints xs) → n ≤ 1000000 →
              midL (m : Int) (mAt m) (mSide m) (i + 1) = xs ++ (if 0 ≤ c2 ∧ c2 < (m : Int) then [c2] else []) → W tblA (.seq (.ops r94_16) (.cond (.t 55) (.ops r94_17) .skip)) t h3 Q := by
            intro t h3 w n xs tl t0 t3 t4 t5 t7 e3 o3 hn hx
            by_cases g1 : 0 ≤ c2
            · by_cases g2 : c2 < (m : Int)
              · obtain ⟨w', h4, p1, p2, p3⟩ := app_int c2 o3 e3 hn
                simp only [go_sem, ↓reduceIte, r94_16, r94_17, tl, t0, t3, t4, t5, t7, g1, g2, p1]
                rw [if_pos ⟨g1, g2⟩] at hx
                rw [← hx] at p3
                exact hQ _ w' (n + 1) h4 (by simp only [go_sem, ↓reduceIte, tl]) (by simp only [go_sem, ↓reduceIte, t0]) (by simp only [go_sem, ↓reduceIte, tl]) (by simp only [go_sem, ↓reduceIte, t4]) (by simp only [go_sem, ↓reduceIte, t5]) p2 p3
              · simp only [go_sem, ↓reduceIte, r94_16, tl, t0, t3, t4, t5, t7, g1, g2]
                rw [if_neg (fun x => g2 x.2), List.append_nil] at hx
                rw [← hx] at o3
                exact hQ _ w n h3 (by simp only [go_sem, ↓reduceIte, tl]) (by simp only [go_sem, ↓reduceIte, t0]) (by simp only [go_sem, ↓reduceIte, t3]) (by simp only [go_sem, ↓reduceIte, t4]) (by simp only [go_sem, ↓reduceIte, t5]) e3 o3
            · simp only [go_sem, ↓reduceIte, r94_16, tl, t0, t3, t4, t5, t7, g1]
              rw [if_neg (fun x => g1 x.1), List.append_nil] at hx
              rw [← hx] at o3
              exact hQ _ w n h3 (by simp only [go_sem, ↓reduceIte, tl]) (by simp only [go_sem, ↓reduceIte, t0]) (by simp only [go_sem, ↓reduceIte, t3]) (by simp only [go_sem, ↓reduceIte, t4]) (by simp only [go_sem, ↓reduceIte, t5]) e3 o3
          refine W_seq'.2 (W_seq'.2 ?_)
          by_cases g1 : 0 ≤ c1
          · by_cases g2 : c1 < (m : Int)
            · obtain ⟨w', h4, p1, p2, p3⟩ := app_int c1 o2 e2 (by omega)
              simp only [go_sem, ↓reduceIte, r94_14, r94_15, tl, t0, t3, t4, t5, t6, t7, g1, g2, p1]
              refine W_ops'.1 (W_seq'.1 (second _ h4 w' (n + 1) _ (by simp only [go_sem, ↓reduceIte, tl]) (by simp only [go_sem, ↓reduceIte, t0]) (by simp only [go_sem, ↓reduceIte, tl]) (by simp only [go_sem, ↓reduceIte, t4]) (by simp only [go_sem, ↓reduceIte, t5]) (by simp only [go_sem, ↓reduceIte, t7]) p2 p3 (by omega) ?_))
              rw [hmid, if_pos ⟨g1, g2⟩, List.append_assoc]
              rfl
            · simp only [go_sem, ↓reduceIte, r94_14, tl, t0, t3, t4, t5, t6, t7, g1, g2]
              refine W_ops'.1 (W_seq'.1 (second _ h2 w n _ (by simp only [go_sem, ↓reduceIte, tl]) (by simp only [go_sem, ↓reduceIte, t0]) (by simp only [go_sem, ↓reduceIte, t3]) (by simp only [go_sem, ↓reduceIte, t4]) (by simp only [go_sem, ↓reduceIte, t5]) (by simp only [go_sem, ↓reduceIte, t7]) e2 o2 (by omega) ?_))
              rw [hmid, if_neg (fun x => g2 x.2)]
          · simp only [go_sem, ↓reduceIte, r94_14, tl, t0, t3, t4, t5, t6, t7, g1]
            refine W_ops'.1 (W_seq'.1 (second _ h2 w n _ (by simp only [go_sem, ↓reduceIte, tl]) (by simp only [go_sem, ↓reduceIte, t0]) (by simp only [go_sem, ↓reduceIte, t3]) (by simp only [go_sem, ↓reduceIte, t4]) (by simp only [go_sem, ↓reduceIte, t5]) (by simp only [go_sem, ↓reduceIte, t7]) e2 o2 (by omega) ?_))
            rw [hmid, if_neg (fun x => g1 x.1)]
        obtain ⟨s1, s2⟩ := hsw (i + 1) (by omega)
        by_cases hp : m % 2 = 1
        · have hp' : ((m % 2 : Nat) : Int) = 1 := by omega
          have hs : mSide m = -1 := by unfold mSide; rw [if_pos hp]
          simp only [go_sem, ↓reduceIte, r94_7, r94_9, r94_10, r94_11, r94_12, r94_13, tl, t0, t3, t4, t5, o2.sl.len, hlt', rem_eq, hp', s1, s2]
          refine W_ops'.1 (W_seq'.1 (W_seq'.1 (step (mAt m - ((i + 1 : Nat) : Int)) (mAt m + ((i + 1 : Nat) : Int)) _ (by simp only [go_sem, ↓reduceIte, tl]) (by simp only [go_sem, ↓reduceIte, t0]) (by simp only [go_sem, ↓reduceIte, t3]) (by simp only [go_sem, ↓reduceIte, t4]) (by simp only [go_sem, ↓reduceIte, t5]) (by simp only [go_sem, ↓reduceIte, tl]) (by simp only [go_sem, ↓reduceIte, tl]) ?_ _ ?_)))
          · simp only [midL, two, hs]
            congr 2
            congr 1
            · simp; omega
            · congr 1; simp
          · intro t' w' n' h' tl' u0 u3 u4 u5 e' o'
            simp only [go_sem, ↓reduceIte, r94_8, tl', u0, u3, u4, u5, wrap_succ (show i + 1 < 1000000000 by omega)]
            exact ⟨m - (i + 1), by omega, i + 1, n', w', rfl, him, rfl, rfl, e', o'⟩
        · have hp' : ¬ ((m % 2 : Nat) : Int) = 1 := by omega
          have hs : mSide m = 1 := by unfold mSide; rw [if_neg hp]
          simp only [go_sem, ↓reduceIte, r94_7, r94_9, r94_10, r94_11, tl, t0, t3, t4, t5, o2.sl.len, hlt', rem_eq, hp', s1, s2]
          refine W_ops'.1 (W_seq'.1 (W_seq'.1 (step (mAt m + ((i + 1 : Nat) : Int)) (mAt m - ((i + 1 : Nat) : Int)) _ (by simp only [go_sem, ↓reduceIte, tl]) (by simp only [go_sem, ↓reduceIte, t0]) (by simp only [go_sem, ↓reduceIte, t3]) (by simp only [go_sem, ↓reduceIte, t4]) (by simp only [go_sem, ↓reduceIte, t5]) (by simp only [go_sem, ↓reduceIte, tl]) (by simp only [go_sem, ↓reduceIte, tl]) ?_ _ ?_)))
          · simp only [midL, two, hs]
            congr 2
            congr 1
            · simp
            · simp
          · intro t' w' n' h' tl' u0 u3 u4 u5 e' o'
            simp only [go_sem, ↓reduceIte, r94_8, tl', u0, u3, u4, u5, wrap_succ (show i + 1 < 1000000000 by omega)]
            exact ⟨m - (i + 1), by omega, i + 1, n', w', rfl, him, rfl, rfl, e', o'⟩
      · have hlt' : ¬ (n : Int) < (m : Int) := by omega
        simp only [go_sem, ↓reduceIte, r94_7, r94_18, tl, t0, t3, t4, t5, o2.sl.len, hlt']
        have := mid_stop hpos hi (by omega)
        rw [this] at o2
        have hml := mid_len m
        have : n = m := by have := o2.len1; omega
        subst this
        exact ⟨e2, o2⟩
    · refine ⟨0, 1, w1, by omega, by omega, ?_⟩
      simp only [go_sem, ↓reduceIte]
      exact ⟨rfl, q2, q3⟩
end Go.Air
/-
  middle of the program, in Air.
-/
set_option maxRecDepth 100000
namespace Go.Air
open Go.Air.Try

theorem app_int' {h0 h : H} {w : V} {xs : List Int} {n : Nat} (c : Int) (o : Own h0 1 h w n (ints xs)) (e : Ext h0 h) (hn : n ≤ 1000000) :
    ∃ w' h', appendV 1 8 (h.new (.cells [.i .i64 c])) w (.sl h.next 0 1 1 none) = .ok w' h' ∧ Ext h0 h' ∧ Own h0 1 h' w' (n + 1) (ints (xs ++ [c])) ∧ h.next < h'.next ∧ (∀ b, b < h.next → (w = .sn ∨ b ≠ blkV w) → h'.get b = h.get b) ∧ h.next < blkV w' := by
  obtain ⟨o3, x3⟩ := Own.lit (esz := 1) (Ext.refl h) [.i .i64 c] 1 rfl
  obtain ⟨w', h5, r1, r2, r3, r4, r5, r6⟩ := Own.app (bytes := 8) (o.ext x3) (e.trans x3) o3.sl (by intro u hu; simp at hu; subst hu; rfl) (by omega) (by omega) (by omega)
  refine ⟨w', h5, r1, r2, by simpa [ints] using r3, by simp at r4; omega, fun b hb hw => ?_, by rw [r6 (by omega)]; simp⟩
  rw [r5 b (by simp; omega) hw, H.get_new, if_neg (by omega)]
theorem Own.wlt {h0 h : H} {v : V} {n esz : Nat} {cs : List V} (o : Own h0 esz h v n cs) : v = .sn ∨ blkV v < h.next := by
  obtain ⟨_, ⟨_, rfl⟩ | ⟨_, _, rfl, _, _, hb, _⟩⟩ := o
  · exact .inl rfl
  · exact .inr hb

theorem t91 : tblA 91 = some a91 := by kernel_rfl
theorem fn_middle {h : H} {m : Nat} (hm : m ≤ 100000) : WC tblA (.fn 91 [] []) [.i .i64 (m : Int)] h fun u h' => Ext h h' ∧ Own h 1 h' u m (ints (mid m)) := by
  refine (WC_in t91).2 ?_
  by_cases h0 : m = 0
  · subst h0
    simp only [go_sem, ↓reduceIte, r91_0, r91_1, r91_2, r91_3]
    exact ⟨.refl h, .nil⟩
  · have h0' : ¬ (m : Int) = 0 := by omega
    have hpos : 0 < m := by omega
    have hat := at_eq hpos (by omega)
    have hsw : ∀ i : Nat, i ≤ m → IntKind.i64.wrap (mAt m + IntKind.i64.wrap (mSide m * (i : Int))) = mAt m + mSide m * i ∧ IntKind.i64.wrap (mAt m - IntKind.i64.wrap (mSide m * (i : Int))) = mAt m - mSide m * i := by
      intro i hi
      unfold mAt
      rcases side_cases m with hs | hs <;> rw [hs]
      · rw [wrap_in (n := 1 * (i : Int)) (by omega) (by omega)]
        exact ⟨wrap_in (by omega) (by omega), wrap_in (by omega) (by omega)⟩
      · rw [wrap_in (n := -1 * (i : Int)) (by omega) (by omega)]
        exact ⟨wrap_in (by omega) (by omega), wrap_in (by omega) (by omega)⟩
    obtain ⟨w1, h1, q1, q2, q3⟩ := app_int (xs := []) (n := 0) (mAt m) (Own.nil (h0 := h) (h := h) (esz := 1)) (.refl h) (by omega)
    -- from the side on
    have rest : ∀ t : List V, t.length = 57 → nth t 0 = .i .i64 (m : Int) → nth t 3 = w1 → nth t 4 = .i .i64 (mAt m) → nth t 5 = .i .i64 (mSide m) →
        W tblA (.seq (.seq (.ops r91_9) (.block 0 (.loop b91_1))) (.seq (.ops r91_18) .ret)) t h1 (Kfn [.tmp 2] fun u h' => Ext h h' ∧ Own h 1 h' u m (ints (mid m))) := by
      intro t tl t0 t3 t4 t5
      simp only [go_sem, ↓reduceIte, r91_9]
      refine W_while (fun k t h2 => ∃ (i n : Nat) (w : V), k = m - i ∧ i ≤ m ∧ t.length = 57 ∧ nth t 0 = .i .i64 (m : Int) ∧ nth t 3 = w ∧ nth t 4 = .i .i64 (mAt m) ∧ nth t 5 = .i .i64 (mSide m) ∧ nth t 6 = .i .i64 ((i + 1 : Nat) : Int) ∧ Ext h h2 ∧
        Own h 1 h2 w n (ints (midL (m : Int) (mAt m) (mSide m) i))) ?_ m ?_
      · rintro k t h2 ⟨i, n, w, rfl, hi, tl, t0, t3, t4, t5, t6, e2, o2⟩
        have hln := o2.len1
        unfold b91_1
        by_cases hlt : n < m
        · have hlt' : (n : Int) < (m : Int) := by omega
          have him := midL_lt hpos (side_cases m) (i := i) (by omega)
          obtain ⟨s1, s2⟩ := hsw (i + 1) (by omega)
          simp only [go_sem, ↓reduceIte, r91_10, r91_12, tl, t0, t3, t4, t5, t6, o2.sl.len, hlt', s1, s2]
          generalize hc1 : mAt m + mSide m * ((i + 1 : Nat) : Int) = c1
          generalize hc2 : mAt m - mSide m * ((i + 1 : Nat) : Int) = c2
          refine W_while (fun k t h3 => ∃ (j n : Nat) (w : V), k = 2 - j ∧ j ≤ 2 ∧ t.length = 57 ∧ nth t 0 = .i .i64 (m : Int) ∧ nth t 3 = w ∧ nth t 4 = .i .i64 (mAt m) ∧ nth t 5 = .i .i64 (mSide m) ∧ nth t 6 = .i .i64 ((i + 1 : Nat) : Int) ∧
            nth t 38 = .sl h2.next 0 2 2 none ∧ nth t 39 = .i .i64 ((2 : Nat) : Int) ∧ nth t 40 = .i .i64 (j : Int) ∧ Ext h h3 ∧ Own h 1 h3 w n (ints (midL (m : Int) (mAt m) (mSide m) i ++ pick m ([c1, c2].take j))) ∧ n ≤ i + m + j + 2 ∧
            h2.next < h3.next ∧ h3.get h2.next = some (.cells [.i .i64 c1, .i .i64 c2]) ∧ (w = .sn ∨ h2.next ≠ blkV w)) ?_ 2 ?_
          · rintro k t h3 ⟨j, n3, w3, rfl, hj, tl, t0, t3, t4, t5, t6, t38, t39, t40, e3, o3, hn3, hb3, g3, hw3⟩
            unfold b91_0
            by_cases hlt2 : j < 2
            · have hlt2' : (j : Int) < ((2 : Nat) : Int) := by omega
              obtain ⟨c, hc⟩ : ∃ c, [c1, c2][j]? = some c := ⟨_, List.getElem?_eq_getElem (by simpa using hlt2)⟩
              have hsl : Sl 1 h3 (.sl h2.next 0 2 2 none) 2 (ints [c1, c2]) := .inr ⟨h2.next, 0, 2, none, _, rfl, hb3, g3, by simp [Blk.rd, cut, ints]⟩
              have hld := hsl.ld1 hlt2
              rw [ints_get, hc] at hld
              have htk : pick (m : Int) ([c1, c2].take (j + 1)) = pick m ([c1, c2].take j) ++ (if 0 ≤ c ∧ c < (m : Int) then [c] else []) := by
                rw [take_succ' hc]
                unfold pick
                rw [List.filter_append]
                congr 1
                by_cases q : 0 ≤ c ∧ c < (m : Int)
                · rw [if_pos q, List.filter_cons_of_pos (by simpa using q)]; rfl
                · rw [if_neg q, List.filter_cons_of_neg (by simpa using q)]; rfl
              by_cases g1 : 0 ≤ c
              · by_cases g2 : c < (m : Int)
                · obtain ⟨w', h4, p1, p2, p3, p4, p5, p6⟩ := app_int' c o3 e3 (by omega)
                  simp only [go_sem, ↓reduceIte, r91_13, r91_14, r91_15, r91_16, r91_17, tl, t0, t3, t4, t5, t6, t38, t39, t40, hlt2', hsl.ix hlt2, hld, g1, g2, p1, wrap_succ (show j < 1000000000 by omega)]
                  rw [if_pos ⟨g1, g2⟩] at htk
                  refine ⟨2 - (j + 1), by omega, j + 1, n3 + 1, w', rfl, by omega, rfl, rfl, p2, ?_, by omega, by omega, ?_, .inr (by omega)⟩
                  · rw [htk, ← List.append_assoc]; exact p3
                  · rw [p5 _ hb3 hw3]; exact g3
                · simp only [go_sem, ↓reduceIte, r91_13, r91_14, r91_15, r91_17, tl, t0, t3, t4, t5, t6, t38, t39, t40, hlt2', hsl.ix hlt2, hld, g1, g2, wrap_succ (show j < 1000000000 by omega)]
                  rw [if_neg (fun x => g2 x.2), List.append_nil] at htk
                  exact ⟨2 - (j + 1), by omega, j + 1, n3, w3, rfl, by omega, rfl, rfl, e3, by rw [htk]; exact o3, by omega, hb3, g3, hw3⟩
              · simp only [go_sem, ↓reduceIte, r91_13, r91_14, r91_15, r91_17, tl, t0, t3, t4, t5, t6, t38, t39, t40, hlt2', hsl.ix hlt2, hld, g1, wrap_succ (show j < 1000000000 by omega)]
                rw [if_neg (fun x => g1 x.1), List.append_nil] at htk
                exact ⟨2 - (j + 1), by omega, j + 1, n3, w3, rfl, by omega, rfl, rfl, e3, by rw [htk]; exact o3, by omega, hb3, g3, hw3⟩
            · have hlt2' : ¬ (j : Int) < ((2 : Nat) : Int) := by omega
              obtain rfl : j = 2 := by omega
              simp only [go_sem, ↓reduceIte, r91_11, r91_13, tl, t0, t3, t4, t5, t6, t38, t39, t40, hlt2', wrap_succ (show i + 1 < 1000000000 by omega)]
              refine ⟨m - (i + 1), by omega, i + 1, n3, w3, rfl, him, rfl, rfl, e3, ?_⟩
              have : midL (m : Int) (mAt m) (mSide m) (i + 1) = midL (m : Int) (mAt m) (mSide m) i ++ pick m ([c1, c2].take 2) := by
                simp only [midL, two, List.take_succ_cons, List.take_zero]
                rw [← hc1, ← hc2]
                simp
              rw [this]
              exact o3
          · refine ⟨0, n, w, by omega, by omega, ?_⟩
            simp only [go_sem, ↓reduceIte, tl, t0, t3, t4, t5, t6]
            refine ⟨(e2.new _), ?_, by omega, by simp, by rw [H.get_new, if_pos rfl], ?_⟩
            · simpa [pick] using o2.ext ((Ext.refl h2).new _)
            · rcases o2.wlt with q | q
              · exact .inl q
              · exact .inr (by omega)
        · have hlt' : ¬ (n : Int) < (m : Int) := by omega
          simp only [go_sem, ↓reduceIte, r91_10, r91_18, tl, t0, t3, t4, t5, t6, o2.sl.len, hlt']
          have := mid_stop hpos hi (by omega)
          rw [this] at o2
          have hml := mid_len m
          have : n = m := by have := o2.len1; omega
          subst this
          exact ⟨e2, o2⟩
      · refine ⟨0, 1, w1, by omega, by omega, ?_⟩
        simp only [go_sem, ↓reduceIte, tl, t0, t3, t4, t5]
        exact ⟨rfl, q2, q3⟩
    by_cases hp : m % 2 = 1
    · have hp' : ((m % 2 : Nat) : Int) = 1 := by omega
      have hs : mSide m = -1 := by unfold mSide; rw [if_pos hp]
      simp only [go_sem, ↓reduceIte, r91_0, r91_1, r91_2, r91_4, r91_5, r91_6, r91_7, r91_8, h0', hat, q1, rem_eq, hp']
      exact W_ops'.1 (W_seq'.1 (W_seq'.1 (rest _ (by simp only [go_sem, ↓reduceIte]) (by simp only [go_sem, ↓reduceIte]) (by simp only [go_sem, ↓reduceIte]) (by simp only [go_sem, ↓reduceIte]) (by simp only [go_sem, ↓reduceIte, hs]))))
    · have hp' : ¬ ((m % 2 : Nat) : Int) = 1 := by omega
      have hs : mSide m = 1 := by unfold mSide; rw [if_neg hp]
      simp only [go_sem, ↓reduceIte, r91_0, r91_1, r91_2, r91_4, r91_5, r91_6, r91_7, h0', hat, q1, rem_eq, hp']
      exact W_ops'.1 (W_seq'.1 (W_seq'.1 (rest _ (by simp only [go_sem, ↓reduceIte]) (by simp only [go_sem, ↓reduceIte]) (by simp only [go_sem, ↓reduceIte]) (by simp only [go_sem, ↓reduceIte]) (by simp only [go_sem, ↓reduceIte, hs]))))
end Go.Air
