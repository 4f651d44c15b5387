/-
  The places are different, and a row's columns are all the numbers below its length (no program in sight).
-/
import Derived.Test.YtlldpmkdjpmlpaaSpotsG
set_option linter.unusedSectionVars false
set_option linter.unusedVariables false
set_option linter.unusedSimpArgs false
set_option maxRecDepth 100000
namespace Go.Air
open Go.Air.Try

theorem midL_abs {m : Nat} {s : Int} (hs : s = 1 ∨ s = -1) : ∀ (i : Nat) (c : Int), c ∈ midL (m : Int) (mAt m) s i → mAt m - i ≤ c ∧ c ≤ mAt m + i
  | 0, c, h => by simp [midL] at h; subst h; omega
  | i + 1, c, h => by
    simp only [midL, List.mem_append] at h
    rcases h with h | h
    · have := midL_abs hs i c h; omega
    · have h := (List.mem_filter.1 h).1
      simp only [two, List.mem_cons, List.not_mem_nil, or_false] at h
      rcases hs with rfl | rfl <;> omega
theorem midL_all {m : Nat} {s : Int} (hs : s = 1 ∨ s = -1) : ∀ (i : Nat) (c : Int), mAt m - i ≤ c → c ≤ mAt m + i → 0 ≤ c → c < m → c ∈ midL (m : Int) (mAt m) s i
  | 0, c, h1, h2, _, _ => by simp [midL]; omega
  | i + 1, c, h1, h2, h3, h4 => by
    simp only [midL, List.mem_append]
    by_cases h : mAt m - i ≤ c ∧ c ≤ mAt m + i
    · exact .inl (midL_all hs i c h.1 h.2 h3 h4)
    · refine .inr (List.mem_filter.2 ⟨?_, by simp; omega⟩)
      simp only [two, List.mem_cons, List.not_mem_nil, or_false]
      rcases hs with rfl | rfl <;> omega
theorem midL_nodup {m : Nat} {s : Int} (hs : s = 1 ∨ s = -1) : ∀ i : Nat, (midL (m : Int) (mAt m) s i).Nodup
  | 0 => by simp [midL]
  | i + 1 => by
    simp only [midL]
    refine List.nodup_append.2 ⟨midL_nodup hs i, ?_, ?_⟩
    · refine List.Pairwise.filter _ ?_
      show List.Nodup _
      simp only [two, List.nodup_cons, List.mem_cons, List.not_mem_nil, or_false, not_false_eq_true, List.nodup_nil, and_true]
      rcases hs with rfl | rfl <;> omega
    · intro a ha b hb
      have := midL_abs hs i a ha
      have hb := (List.mem_filter.1 hb).1
      simp only [two, List.mem_cons, List.not_mem_nil, or_false] at hb
      rcases hs with rfl | rfl <;> omega
theorem mid_iff {m : Nat} {c : Int} : c ∈ mid m ↔ 0 ≤ c ∧ c < m := by
  refine ⟨mid_mem, fun h => ?_⟩
  unfold mid
  rw [if_neg (by omega)]
  have : 0 ≤ mAt m ∧ mAt m < m := by unfold mAt; omega
  exact midL_all (side_cases m) m c (by omega) (by omega) h.1 h.2
theorem mid_nodup (m : Nat) : (mid m).Nodup := by
  unfold mid
  split
  · simp
  · exact midL_nodup (side_cases m) m
theorem getD_inj {l : List Int} (hl : l.Nodup) {i j : Nat} (hi : i < l.length) (hj : j < l.length) (h : l.getD i 0 = l.getD j 0) : i = j := by
  rw [List.getD_eq_getElem?_getD, List.getD_eq_getElem?_getD, List.getElem?_eq_getElem hi, List.getElem?_eq_getElem hj] at h
  simp only [Option.getD_some] at h
  have hp := List.pairwise_iff_getElem.1 hl
  rcases Nat.lt_trichotomy i j with q | q | q
  · exact absurd h (hp i j hi hj q)
  · exact q
  · exact absurd h.symm (hp j i hj hi q)
theorem upN_iff {m : Nat} {c : Int} : c ∈ upN m ↔ 0 ≤ c ∧ c < m := by
  simp only [upN, List.mem_map, List.mem_range]
  constructor
  · rintro ⟨a, h, rfl⟩; omega
  · intro h; exact ⟨c.toNat, by omega, by omega⟩
theorem nodup_range_map {α : Type} {g : Nat → α} {n : Nat} (inj : ∀ i j, i < n → j < n → g i = g j → i = j) : ((List.range n).map g).Nodup := by
  refine List.pairwise_map.2 ?_
  refine List.Pairwise.imp_of_mem ?_ (List.nodup_range (n := n))
  intro a b ha hb hne h
  exact hne (inj a b (List.mem_range.1 ha) (List.mem_range.1 hb) h)
theorem upN_nodup (m : Nat) : (upN m).Nodup := nodup_range_map fun i j _ _ h => by have h : (i : Int) = j := h; omega

/-- what the law wants of the places. -/
structure NiceP (kind : Int) (n : Nat) (k : Int) (ps : List Pt) : Prop where
  len : ps.length = n
  nodup : ps.Nodup
  full : ∀ p ∈ ps, 0 ≤ p.1 ∧ ∃ c : Nat, c ≤ n ∧ ∀ x : Int, (p.1, x) ∈ ps ↔ 0 ≤ x ∧ x < c
  proc : kind = 2 → ∀ (i : Nat) (p : Pt), ps[i]? = some p → p.1 = ((i / k.toNat : Nat) : Int) ∧ p.2 < k

theorem nice_row {kind k : Int} {n : Nat} {xs : List Int} (hk : kind ≠ 2) (hl : xs.length = n) (hd : xs.Nodup) (hm : ∀ x, x ∈ xs ↔ 0 ≤ x ∧ x < n) : NiceP kind n k (inRow 0 xs) where
  len := by simp [inRow, hl]
  nodup := by
    refine List.pairwise_map.2 (hd.imp ?_)
    intro a b h e
    exact h (by simpa using e)
  full := by
    intro p hp
    obtain ⟨c, hc, rfl⟩ := List.mem_map.1 hp
    refine ⟨Int.le_refl _, n, Nat.le_refl _, fun x => ?_⟩
    rw [← hm x]
    constructor
    · intro h
      obtain ⟨c', hc', h⟩ := List.mem_map.1 h
      have : c' = x := by simpa using h
      exact this ▸ hc'
    · intro h
      exact List.mem_map.2 ⟨x, h, rfl⟩
  proc := fun h => absurd h hk

/-- a procession's place by its number. -/
def prcG (n k i : Nat) : Pt := (((i / k : Nat) : Int), (mid (min k (n - i / k * k))).getD (i % k) 0)
theorem prc_form {n k : Nat} (hk : 0 < k) : ∀ i : Nat, (i = 0 ∨ (i - 1) * k < n) → (prc n k i).flatten = (List.range (min (i * k) n)).map (prcG n k)
  | 0, _ => by simp [prc]
  | i + 1, h => by
    have hlt : i * k < n := by rcases h with h | h; omega; simpa using h
    have hi : i = 0 ∨ (i - 1) * k < n := by
      rcases Nat.eq_zero_or_pos i with h0 | h0
      · exact .inl h0
      · refine .inr ?_
        have : (i - 1) * k ≤ i * k := Nat.mul_le_mul_right _ (by omega)
        omega
    rw [prc_succ, List.flatten_append, prc_form hk i hi]
    have e1 : min (i * k) n = i * k := by omega
    have e2 : min ((i + 1) * k) n = i * k + min k (n - i * k) := by rw [Nat.succ_mul]; omega
    rw [e1, e2, List.range_add, List.map_append, List.map_map]
    simp only [List.flatten_cons, List.flatten_nil, List.append_nil]
    congr 1
    rw [show rowP n k i = inRow (i : Int) (mid (min k (n - i * k))) from rfl, ← map_mid (min k (n - i * k))]
    simp only [inRow, List.map_map]
    apply List.map_congr_left
    intro j hj
    have hj := List.mem_range.1 hj
    have h1 : (i * k + j) / k = i := by rw [Nat.mul_comm, Nat.mul_add_div hk, Nat.div_eq_of_lt (by omega)]; rfl
    have h2 : (i * k + j) % k = j := by rw [Nat.mul_comm, Nat.mul_add_mod, Nat.mod_eq_of_lt (by omega)]
    simp only [Function.comp, prcG, h1, h2]
theorem prc_all {n k : Nat} (hk : 0 < k) : (prc n k (rowsN n k)).flatten = (List.range n).map (prcG n k) := by
  rw [prc_form hk]
  · congr 2
    have : ¬ rowsN n k * k < n := fun h => by have := (rows_lt hk).1 h; omega
    omega
  · rcases Nat.eq_zero_or_pos (rowsN n k) with h0 | h0
    · exact .inl h0
    · exact .inr ((rows_lt hk).2 (by omega))

theorem prcG_lt {n k i : Nat} (hk : 0 < k) (hi : i < n) : i % k < min k (n - i / k * k) := by
  have h1 := Nat.mod_lt i hk
  have h2 := Nat.div_add_mod i k
  rw [Nat.mul_comm] at h2
  omega
theorem nice_prc {n k : Nat} (hk : 0 < k) : NiceP 2 n (k : Int) (prc n k (rowsN n k)).flatten := by
  rw [prc_all hk]
  refine ⟨by simp, nodup_range_map ?_, ?_, ?_⟩
  · intro i j hi hj h
    simp only [prcG, Prod.mk.injEq] at h
    have hd : i / k = j / k := by omega
    rw [hd] at h
    have hi' := prcG_lt hk hi
    rw [hd] at hi'
    have := getD_inj (mid_nodup _) (by rw [mid_len]; exact hi') (by rw [mid_len]; exact prcG_lt hk hj) h.2
    have h1 := Nat.div_add_mod i k
    have h2 := Nat.div_add_mod j k
    rw [hd, this] at h1
    omega
  · intro p hp
    obtain ⟨i, hi, rfl⟩ := List.mem_map.1 hp
    have hi := List.mem_range.1 hi
    refine ⟨Int.natCast_nonneg _, min k (n - i / k * k), by omega, fun x => ?_⟩
    rw [← mid_iff (m := min k (n - i / k * k))]
    constructor
    · intro h
      obtain ⟨j, hj, h⟩ := List.mem_map.1 h
      have hj := List.mem_range.1 hj
      simp only [prcG, Prod.mk.injEq] at h
      have hd : j / k = i / k := by omega
      rw [hd] at h
      have hj' := prcG_lt hk hj
      rw [hd] at hj'
      rw [← h.2, List.getD_eq_getElem?_getD, List.getElem?_eq_getElem (by rw [mid_len]; exact hj'), Option.getD_some]
      exact List.getElem_mem _
    · intro h
      obtain ⟨j, hj, e⟩ := List.getElem_of_mem h
      rw [mid_len] at hj
      have hjk : j < k := by omega
      have h1 : (k * (i / k) + j) / k = i / k := by rw [Nat.mul_add_div hk, Nat.div_eq_of_lt hjk]; rfl
      have h2 : (k * (i / k) + j) % k = j := by rw [Nat.mul_add_mod, Nat.mod_eq_of_lt hjk]
      refine List.mem_map.2 ⟨k * (i / k) + j, List.mem_range.2 (by rw [Nat.mul_comm]; omega), ?_⟩
      simp only [prcG, h1, h2, Prod.mk.injEq, true_and]
      rw [List.getD_eq_getElem?_getD, List.getElem?_eq_getElem (by rw [mid_len]; exact hj), Option.getD_some]
      exact e
  · intro _ i p hp
    rw [List.getElem?_map] at hp
    by_cases hi : i < n
    · rw [List.getElem?_range hi] at hp
      simp only [Option.map_some, Option.some.injEq] at hp
      subst hp
      refine ⟨rfl, ?_⟩
      have hlt := prcG_lt hk hi
      have : (mid (min k (n - i / k * k))).getD (i % k) 0 ∈ mid (min k (n - i / k * k)) := by
        rw [List.getD_eq_getElem?_getD, List.getElem?_eq_getElem (by rw [mid_len]; exact hlt), Option.getD_some]
        exact List.getElem_mem _
      have := mid_mem this
      simp only [prcG]
      omega
    · rw [List.getElem?_eq_none (by simp; omega)] at hp
      simp at hp

def tblL (n b : Nat) : List Int := if b = 0 then mid (n - n / 2) else mid (n / 2)
theorem tblP_form (n : Nat) : tblP n = (List.range n).map fun i => (((i % 2 : Nat) : Int), (tblL n (i % 2)).getD (i / 2) 0) := rfl
theorem tblL_len (n b : Nat) : (tblL n b).length = if b = 0 then n - n / 2 else n / 2 := by
  unfold tblL; split <;> rw [mid_len]
theorem tblL_nodup (n b : Nat) : (tblL n b).Nodup := by unfold tblL; split <;> exact mid_nodup _
theorem tblL_iff {n b : Nat} {x : Int} : x ∈ tblL n b ↔ 0 ≤ x ∧ x < ((if b = 0 then n - n / 2 else n / 2 : Nat) : Int) := by
  unfold tblL; split <;> exact mid_iff
theorem tbl_lt {n i : Nat} (hi : i < n) : i / 2 < (tblL n (i % 2)).length := by
  rw [tblL_len]; split <;> omega
theorem nice_tbl {kind k : Int} {n : Nat} (hk : kind ≠ 2) : NiceP kind n k (tblP n) := by
  rw [tblP_form]
  refine ⟨by simp, nodup_range_map ?_, ?_, fun h => absurd h hk⟩
  · intro i j hi hj h
    simp only [Prod.mk.injEq] at h
    have hd : i % 2 = j % 2 := by omega
    rw [hd] at h
    have hi' := tbl_lt hi
    rw [hd] at hi'
    have := getD_inj (tblL_nodup _ _) hi' (tbl_lt hj) h.2
    omega
  · intro p hp
    obtain ⟨i, hi, rfl⟩ := List.mem_map.1 hp
    have hi := List.mem_range.1 hi
    refine ⟨by simp only []; omega, (if i % 2 = 0 then n - n / 2 else n / 2), by split <;> omega, fun x => ?_⟩
    rw [← tblL_iff]
    constructor
    · intro h
      obtain ⟨j, hj, h⟩ := List.mem_map.1 h
      have hj := List.mem_range.1 hj
      simp only [Prod.mk.injEq] at h
      have hd : j % 2 = i % 2 := by omega
      have hj' := tbl_lt hj
      rw [← h.2, hd] at *
      rw [List.getD_eq_getElem?_getD, List.getElem?_eq_getElem hj', Option.getD_some]
      exact List.getElem_mem _
    · intro h
      obtain ⟨j, hj, e⟩ := List.getElem_of_mem h
      have hj2 := hj
      rw [tblL_len] at hj2
      have h1 : (2 * j + i % 2) / 2 = j := by omega
      have h2 : (2 * j + i % 2) % 2 = i % 2 := by omega
      refine List.mem_map.2 ⟨2 * j + i % 2, List.mem_range.2 (by split at hj2 <;> omega), ?_⟩
      simp only [h1, h2, Prod.mk.injEq, true_and]
      rw [List.getD_eq_getElem?_getD, List.getElem?_eq_getElem hj, Option.getD_some]
      exact e

theorem nice_spots {kind n k : Int} (he : (spotsS kind n k).2 = 0) : ∃ m : Nat, n = (m : Int) ∧ m ≤ 200 ∧ (kind = 2 → 1 ≤ k ∧ k ≤ 200) ∧ NiceP kind m k (spotsS kind n k).1 := by
  unfold spotsS at *
  split at he
  · simp at he
  · rename_i h
    obtain ⟨m, rfl⟩ := Int.eq_ofNat_of_zero_le (a := n) (by omega)
    rw [if_neg h]
    simp only [Int.ofNat_eq_natCast, Int.toNat_natCast] at *
    refine ⟨m, rfl, by omega, ?_⟩
    unfold spotsN at *
    by_cases c1 : kind = 1 ∧ k = 0
    · rw [if_pos c1]
      exact ⟨fun _ => by omega, nice_row (by omega) (by simp [upN]) (upN_nodup m) (fun x => upN_iff)⟩
    rw [if_neg c1] at *
    by_cases c2 : kind = 2 ∧ 1 ≤ k ∧ k ≤ 200
    · rw [if_pos c2]
      obtain ⟨rfl, c2⟩ := c2
      obtain ⟨q, rfl⟩ := Int.eq_ofNat_of_zero_le (a := k) (by omega)
      simp only [Int.ofNat_eq_natCast, Int.toNat_natCast]
      exact ⟨fun _ => c2, nice_prc (by omega)⟩
    rw [if_neg c2] at *
    by_cases c3 : kind = 3 ∧ k = 0
    · rw [if_pos c3]
      exact ⟨fun _ => by omega, nice_row (by omega) (mid_len m) (mid_nodup m) (fun x => mid_iff)⟩
    rw [if_neg c3] at *
    by_cases c4 : kind = 3 ∧ k = 1
    · rw [if_pos c4]
      exact ⟨fun _ => by omega, nice_row (by omega) (by simp [upN]) (upN_nodup m) (fun x => upN_iff)⟩
    rw [if_neg c4] at *
    by_cases c5 : kind = 3 ∧ k = 2
    · rw [if_pos c5]
      exact ⟨fun _ => by omega, nice_row (by omega) (by simp [upN]) (List.pairwise_reverse.2 ((upN_nodup m).imp Ne.symm)) (fun x => by rw [List.mem_reverse]; exact upN_iff)⟩
    rw [if_neg c5] at *
    by_cases c6 : kind = 4 ∧ k = 0
    · rw [if_pos c6]
      exact ⟨fun _ => by omega, nice_tbl (by omega)⟩
    rw [if_neg c6] at *
    simp at he
theorem nice_mir {kind k : Int} {n : Nat} {ps : List Pt} (h : NiceP kind n k ps) : ∀ p ∈ mir ps, p ∈ ps := by
  intro q hq
  obtain ⟨p, hp, rfl⟩ := List.mem_map.1 hq
  obtain ⟨_, c, hc, hf⟩ := h.full p hp
  have hp2 := (hf p.2).1 hp
  have hlo : IsLow p.1 ps 0 := ⟨⟨(p.1, 0), (hf 0).2 ⟨by omega, by omega⟩, rfl, rfl⟩, fun q hq e => by
    have : (p.1, q.2) ∈ ps := by rw [← e]; exact hq
    exact ((hf q.2).1 this).1⟩
  have hhi : IsHigh p.1 ps (c - 1) := ⟨⟨(p.1, (c : Int) - 1), (hf _).2 ⟨by omega, by omega⟩, rfl, rfl⟩, fun q hq e => by
    have : (p.1, q.2) ∈ ps := by rw [← e]; exact hq
    have := ((hf q.2).1 this).2
    omega⟩
  have e1 := IsLow.uniq (low_is hp) hlo
  have e2 := IsHigh.uniq (high_is hp) hhi
  unfold mir1
  rw [e1, e2]
  exact (hf _).2 ⟨by omega, by omega⟩
end Go.Air
