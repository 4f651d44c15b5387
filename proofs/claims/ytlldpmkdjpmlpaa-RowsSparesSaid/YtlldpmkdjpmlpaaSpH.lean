/-
  A part of the proof of: The row RowsSpares, from the law in Air.
-/
import Derived.Test.YtlldpmkdjpmlpaaRows
import Derived.ProofKit
import Derived.HandedShaped
import Derived.Deep.SlicePairs
import Derived.Test.YtlldpmkdjpmlpaaSpG
set_option linter.unusedSectionVars false
set_option linter.unusedVariables false
set_option linter.unusedSimpArgs false
set_option maxRecDepth 100000
namespace Go.Air
def badR (xs : List Int) (r : Arw) : Prop := r.f ∈ xs ∧ r.t ∈ xs ∧ posN r.t xs < posN r.f xs
instance (xs : List Int) (r : Arw) : Decidable (badR xs r) := by unfold badR; infer_instance
def badW (xs : List Int) (r : Arw) : Int := if badR xs r then r.w else 0
def toX (x : Int) (l : List Int) (r : Arw) : Int := if r.t = x ∧ r.f ∈ l then r.w else 0
section
variable {rs : List Arw}
theorem toX_sT {N : Int} (gr : GoodR N rs) (x : Int) : ∀ {l : List Int}, l.Nodup → offT rs (toX x l) = sT rs x l
  | [], _ => by
    have : offT rs (toX x []) = offT rs (hit x []) := offT_congr fun r _ => by simp [toX, hit]
    rw [this, hit_nil]; rfl
  | y :: l, hd => by
    obtain ⟨h1, h2⟩ := List.nodup_cons.1 hd
    have ih := toX_sT gr x h2
    simp only [sT]
    rw [← ih, ← offT_one y x rs gr.2, ← offT_sum]
    refine offT_congr fun r _ => ?_
    simp only [toX, one, List.mem_cons]
    by_cases a : r.t = x
    · by_cases b : r.f = y
      · have : r.f ∉ l := by rw [b]; exact h1
        simp [a, b, h1]
      · simp [a, b]
    · simp [a]
theorem bad_iff {x : Int} {l : List Int} (hx : x ∉ l) (r : Arw) : (badR (x :: l) r ↔ (r.t = x ∧ r.f ∈ l) ∨ badR l r) ∧ ((r.t = x ∧ r.f ∈ l) → ¬ badR l r) := by
  refine ⟨?_, fun q z => hx (q.1 ▸ z.2.1)⟩
  constructor
  · rintro ⟨h1, h2, h3⟩
    by_cases a : r.t = x
    · left
      refine ⟨a, ?_⟩
      rcases List.mem_cons.1 h1 with h1 | h1
      · simp only [posN] at h3
        rw [if_pos a.symm, if_pos h1.symm] at h3
        omega
      · exact h1
    · right
      have hne : ¬ x = r.t := fun q => a q.symm
      have ht : r.t ∈ l := by
        rcases List.mem_cons.1 h2 with h | h
        · exact absurd h a
        · exact h
      by_cases b : r.f = x
      · simp only [posN] at h3
        rw [if_neg hne, if_pos b.symm] at h3
        omega
      · have hne2 : ¬ x = r.f := fun q => b q.symm
        simp only [posN] at h3
        rw [if_neg hne, if_neg hne2] at h3
        refine ⟨?_, ht, by omega⟩
        rcases List.mem_cons.1 h1 with h | h
        · exact absurd h b
        · exact h
  · rintro (⟨a, b⟩ | ⟨h1, h2, h3⟩)
    · have hne : ¬ x = r.f := fun q => hx (q ▸ b)
      refine ⟨List.mem_cons_of_mem _ b, by rw [a]; simp, ?_⟩
      simp only [posN]
      rw [if_pos a.symm, if_neg hne]; omega
    · have hne : ¬ x = r.t := fun q => hx (q ▸ h2)
      have hne2 : ¬ x = r.f := fun q => hx (q ▸ h1)
      refine ⟨List.mem_cons_of_mem _ h1, List.mem_cons_of_mem _ h2, ?_⟩
      simp only [posN]
      rw [if_neg hne, if_neg hne2]; omega
theorem bad_cons {x : Int} {l : List Int} (hx : x ∉ l) (r : Arw) : badW (x :: l) r = toX x l r + badW l r := by
  obtain ⟨h1, h2⟩ := bad_iff hx r
  unfold badW toX
  by_cases a : r.t = x ∧ r.f ∈ l
  · rw [if_pos (h1.2 (.inl a)), if_pos a, if_neg (h2 a)]; omega
  · rw [if_neg a, Int.zero_add]
    by_cases b : badR l r
    · rw [if_pos (h1.2 (.inr b)), if_pos b]
    · rw [if_neg (fun q => (h1.1 q).elim a b), if_neg b]
theorem bad_inc {N : Int} (gr : GoodR N rs) : ∀ {xs : List Int}, xs.Nodup → offT rs (badW xs) = inc rs xs
  | [], _ => by
    have : offT rs (badW []) = offT rs (hit 0 []) := offT_congr fun r _ => by simp [badW, badR, hit]
    rw [this, hit_nil]; rfl
  | x :: l, hd => by
    obtain ⟨h1, h2⟩ := List.nodup_cons.1 hd
    have ih := bad_inc gr h2
    simp only [inc]
    rw [← ih, ← toX_sT gr x h2, ← offT_sum]
    exact offT_congr fun r _ => bad_cons h1 r
theorem off_inc {N : Int} (gr : GoodR N rs) {xs : List Int} (go : GoodO N xs) : sumW (slS xs rs) = inc rs xs := by
  have : sumW (slS xs rs) = off rs xs := rfl
  rw [this, off_eq, ← bad_inc gr go.2.2]
  refine offT_congr fun r hr => ?_
  have hok := gr.1 r hr
  unfold OkA at hok
  have h1 := goodO_mem go hok.1 hok.2.1
  have h2 := goodO_mem go hok.2.2.1 hok.2.2.2.1
  simp [term, badW, badR, h1, h2]
theorem wt_ge {N : Int} {a b : Int} : ∀ {l : List Arw}, (∀ r ∈ l, OkA N r) → (∃ r ∈ l, r.f = a ∧ r.t = b) → 1 ≤ wt a b l
  | [], _, h => by obtain ⟨r, hr, _⟩ := h; simp at hr
  | r :: l, ok, h => by
    simp only [wt]
    by_cases q : r.f = a ∧ r.t = b
    · rw [if_pos q]
      have := ok r (by simp)
      unfold OkA at this
      omega
    · rw [if_neg q]
      obtain ⟨r', hr', e⟩ := h
      rcases List.mem_cons.1 hr' with rfl | hr'
      · exact absurd e q
      · exact wt_ge (fun x hx => ok x (by simp [hx])) ⟨r', hr', e⟩
theorem wt_iff {N : Int} {a b : Int} (gr : GoodR N rs) : wt a b rs ≠ 0 ↔ ∃ r ∈ rs, r.f = a ∧ r.t = b := by
  constructor
  · intro h
    refine Classical.byContradiction fun q => h (wt_none fun r hr z => q ⟨r, hr, z⟩)
  · intro h
    have := wt_ge gr.1 h
    omega
theorem feas_iff {N sp : Int} (gr : GoodR N rs) : ∀ {xs : List Int}, xs.Nodup → (feas rs sp xs ↔ ¬ ∃ r ∈ rs, r.f = sp ∧ badR xs r)
  | [], _ => by simp [feas, badR]
  | x :: l, hd => by
    obtain ⟨h1, h2⟩ := List.nodup_cons.1 hd
    have ih := feas_iff (sp := sp) gr h2
    simp only [feas, ih]
    have key : ∀ r ∈ rs, (badR (x :: l) r ↔ (r.t = x ∧ r.f ∈ l) ∨ badR l r) := fun r _ => (bad_iff h1 r).1
    constructor
    · rintro ⟨p1, p2⟩ ⟨r, hr, e, hb⟩
      rcases (key r hr).1 hb with ⟨q1, q2⟩ | q
      · have := p1 r.f q2 e
        exact (wt_iff gr).2 ⟨r, hr, rfl, q1⟩ this
      · exact p2 ⟨r, hr, e, q⟩
    · intro hn
      refine ⟨fun y hy q => ?_, fun ⟨r, hr, e, hb⟩ => hn ⟨r, hr, e, (key r hr).2 (.inr hb)⟩⟩
      refine Classical.byContradiction fun z => ?_
      obtain ⟨r, hr, e1, e2⟩ := (wt_iff gr).1 z
      exact hn ⟨r, hr, by rw [e1, q], (key r hr).2 (.inl ⟨e2, by rw [e1]; exact hy⟩)⟩
end
section
variable {rs : List Arw} {n : Nat} {sp : Int} {d : Nat → Bool}
def OptO (n : Nat) (rs : List Arw) (sp : Int) (d : Nat → Bool) (xs : List Int) : Prop := xs.Perm (setL n d) ∧ feas rs sp xs ∧ inc rs xs = leftS rs sp d (circR (n : Int) rs)
theorem setL_less {x : Nat} (hx : x < n) (hd : d x = true) : (setL n d).Perm ((x : Int) :: setL n (sput d x false)) := by
  have hn : (x : Int) ∉ setL n (sput d x false) := by
    intro h
    obtain ⟨j, e, _, h2⟩ := setL_mem.1 h
    obtain rfl : x = j := by omega
    simp [sput] at h2
  refine (List.perm_ext_iff_of_nodup (setL_nodup _ _) (List.nodup_cons.2 ⟨hn, setL_nodup _ _⟩)).2 fun y => ?_
  rw [List.mem_cons, setL_mem, setL_mem]
  constructor
  · rintro ⟨j, rfl, h1, h2⟩
    by_cases q : j = x
    · subst q; exact .inl rfl
    · exact .inr ⟨j, rfl, h1, by simp [sput, q, h2]⟩
  · rintro (h | ⟨j, rfl, h1, h2⟩)
    · exact ⟨x, h, hx, hd⟩
    · refine ⟨j, rfl, h1, ?_⟩
      unfold sput at h2
      split at h2
      · cases h2
      · exact h2
theorem nextK_sT (rs : List Arw) (d : Nat → Bool) (x : Nat) : ∀ k, nextK rs d x k = sT rs (x : Int) (setL k (sput d x false))
  | 0 => rfl
  | k + 1 => by
    rw [nextK, setL_succ, sT_append, nextK_sT rs d x k]
    by_cases q : k = x
    · subst q; simp [sput, sT]
    · have e : sput d x false k = d k := by simp [sput, q]
      rw [e]
      cases h : d k
      · simp [sT]
      · simp [q, sT]
def safe (rs : List Arw) (sp : Int) (n : Nat) (d : Nat → Bool) (x : Nat) : Prop := ∀ y ∈ setL n (sput d x false), y = sp → wt y (x : Int) rs = 0
theorem hurt_iff (hw : Wok rs) {x : Nat} : (∃ y, y < n ∧ hurt rs sp d x y) ↔ ¬ safe rs sp n d x := by
  constructor
  · rintro ⟨y, hy, h1, h2, h3, h4⟩ hs
    have := hs (y : Int) (setL_mem.2 ⟨y, rfl, hy, by simp [sput, h2, h1]⟩) h3
    omega
  · intro hs
    refine Classical.byContradiction fun hn => hs fun y hy q => ?_
    obtain ⟨j, rfl, hj, h2⟩ := setL_mem.1 hy
    have h3 : j ≠ x ∧ d j = true := by
      unfold sput at h2
      split at h2
      · cases h2
      · exact ⟨by assumption, h2⟩
    have := (hw (j : Int) (x : Int)).1
    rcases Int.lt_or_le 0 (wt (j : Int) (x : Int) rs) with z | z
    · exact absurd ⟨j, hj, h3.2, h3.1, q, z⟩ hn
    · omega
theorem nextS_safe (hw : Wok rs) (hn : n ≤ 24) {x : Nat} : (safe rs sp n d x → nextS rs sp n d x = sT rs (x : Int) (setL n (sput d x false))) ∧ (nextS rs sp n d x < never ↔ safe rs sp n d x) := by
  have hb := nextK_bound (d := d) (x := x) hw n
  by_cases h : safe rs sp n d x
  · have : nextS rs sp n d x = nextK rs d x n := by rw [nextS, if_neg fun q => (hurt_iff hw).1 q h]
    rw [this]
    refine ⟨fun _ => nextK_sT rs d x n, fun _ => h, fun _ => ?_⟩
    unfold never; omega
  · have : nextS rs sp n d x = never := by rw [nextS, if_pos ((hurt_iff hw).2 h)]
    rw [this]
    exact ⟨fun q => absurd q h, fun q => by omega, fun q => absurd q h⟩
theorem feas_cons_iff {x : Nat} {l : List Int} (hp : l.Perm (setL n (sput d x false))) : feas rs sp ((x : Int) :: l) ↔ safe rs sp n d x ∧ feas rs sp l := by
  simp only [feas, safe]
  constructor
  · rintro ⟨h1, h2⟩; exact ⟨fun y hy => h1 y (hp.mem_iff.2 hy), h2⟩
  · rintro ⟨h1, h2⟩; exact ⟨fun y hy => h1 y (hp.mem_iff.1 hy), h2⟩
theorem next_ge (g : GoodC n rs) {x : Nat} (hx : x < n) (hd : d x = true) (hs : safe rs sp n d x) : leftS rs sp d (circR (n : Int) rs) ≤ sT rs (x : Int) (setL n (sput d x false)) + leftS rs sp (sput d x false) (circR (n : Int) rs) := by
  obtain ⟨l, h1, h2, h3⟩ := left_hit g sp (sput d x false)
  have := left_low g (d := d) (xs := (x : Int) :: l) ((h1.cons _).trans (setL_less hx hd).symm) ((feas_cons_iff h1).2 ⟨hs, h2⟩)
  simp only [inc] at this
  rw [sT_perm _ h1, h3] at this
  exact this
theorem pick_iff (g : GoodC n rs) {x : Nat} (hx : x < n) (hd : d x = true) : pickc rs sp n (circR (n : Int) rs) d (leftS rs sp d (circR (n : Int) rs)) x = true ↔ safe rs sp n d x ∧ sT rs (x : Int) (setL n (sput d x false)) + leftS rs sp (sput d x false) (circR (n : Int) rs) = leftS rs sp d (circR (n : Int) rs) := by
  obtain ⟨h1, h2⟩ := nextS_safe (sp := sp) (d := d) (x := x) g.wok g.n24
  simp only [pickc, hd, Bool.true_and, Bool.and_eq_true, decide_eq_true_eq, h2]
  constructor
  · rintro ⟨a, b⟩; rw [h1 a] at b; exact ⟨a, b⟩
  · rintro ⟨a, b⟩; rw [h1 a]; exact ⟨a, b⟩
theorem pick_of_opt (g : GoodC n rs) {x : Int} {l : List Int} (h : OptO n rs sp d (x :: l)) : ∃ j : Nat, x = (j : Int) ∧ j < n ∧ d j = true ∧ pickc rs sp n (circR (n : Int) rs) d (leftS rs sp d (circR (n : Int) rs)) j = true ∧ OptO n rs sp (sput d j false) l := by
  obtain ⟨h1, h2, h3⟩ := h
  obtain ⟨j, rfl, hj, hd⟩ := setL_mem.1 (h1.mem_iff.1 List.mem_cons_self)
  have hp : l.Perm (setL n (sput d j false)) := (h1.trans (setL_less hj hd)).cons_inv
  obtain ⟨hs, hf⟩ := (feas_cons_iff hp).1 h2
  have h4 := next_ge g hj hd hs
  have h5 := left_low g hp hf
  simp only [inc] at h3
  rw [sT_perm _ hp] at h3
  exact ⟨j, rfl, hj, hd, (pick_iff g hj hd).2 ⟨hs, by omega⟩, hp, hf, by omega⟩
theorem pickc_d {xss : List (List Int)} {rest : Int} {x : Nat} (h : pickc rs sp n xss d rest x = true) : d x = true := by
  simp only [pickc, Bool.and_eq_true] at h
  exact h.1
theorem pick_exists (g : GoodC n rs) (h : setL n d ≠ []) : ∃ x, x < n ∧ d x = true ∧ pickc rs sp n (circR (n : Int) rs) d (leftS rs sp d (circR (n : Int) rs)) x = true ∧ (List.range n).find? (pickc rs sp n (circR (n : Int) rs) d (leftS rs sp d (circR (n : Int) rs))) = some x := by
  obtain ⟨xs, h1, h2, h3⟩ := left_hit g sp d
  cases xs with
  | nil => exact absurd (h1.symm.eq_nil) h
  | cons x l =>
    obtain ⟨j, _, hj, hd, hp, _⟩ := pick_of_opt g ⟨h1, h2, h3⟩
    cases hf : (List.range n).find? (pickc rs sp n (circR (n : Int) rs) d (leftS rs sp d (circR (n : Int) rs))) with
    | none => exact absurd hp (by have := List.find?_eq_none.1 hf j (List.mem_range.2 hj); simpa using this)
    | some x' =>
      have hx' := List.mem_range.1 (List.mem_of_find?_eq_some hf)
      have hpx : pickc rs sp n (circR (n : Int) rs) d (leftS rs sp d (circR (n : Int) rs)) x' = true := by simpa using List.find?_some hf
      exact ⟨x', hx', pickc_d hpx, hpx, rfl⟩
end
theorem setL_all_len (n : Nat) : (setL n allT).length = n := by
  unfold setL
  have e : (List.range n).filter allT = List.range n := List.filter_eq_self.2 (fun _ _ => rfl)
  rw [List.length_map, e]; simp
theorem good_perm {n : Nat} {xs : List Int} : GoodO (n : Int) xs ↔ xs.Perm (setL n allT) := by
  constructor
  · rintro ⟨h1, h2, h3⟩
    refine (List.perm_ext_iff_of_nodup h3 (setL_nodup _ _)).2 fun y => ?_
    rw [setL_mem]
    constructor
    · intro hy
      obtain ⟨a, b⟩ := h2 y hy
      obtain ⟨j, rfl⟩ := Int.eq_ofNat_of_zero_le a
      exact ⟨j, rfl, by omega, rfl⟩
    · rintro ⟨j, rfl, hj, _⟩
      exact perm_mem n xs (by omega) h2 h3 _ (by omega) (by omega)
  · intro h
    refine ⟨by rw [h.length_eq, setL_all_len], fun x hx => ?_, h.nodup_iff.2 (setL_nodup _ _)⟩
    obtain ⟨j, rfl, hj, _⟩ := setL_mem.1 (h.mem_iff.1 hx)
    omega
end Go.Air
set_option maxRecDepth 100000
namespace Go.Air
structure FR where
  some : Bool
  off : Int
  ord : List Int
def better (f : FR) (o : Int) (l : List Int) : FR := if f.some = true ∧ f.off ≤ o then f else ⟨true, o, l⟩
def slgB (rs : List Arw) (sp : Int) (l : List Int) : Bool := rs.any fun r => decide (badR l r) && decide (r.f = sp)
def srchF (rs : List Arw) (sp : Int) (gs : List Int) : Nat → List Int → FR → FR
  | 0, l, f => if slgB rs sp l = true then f else better f (sumW (slS l rs)) l
  | k + 1, l, f => gs.foldl (fun f g => if g ∈ l then f else srchF rs sp gs k (l ++ [g]) f) f
theorem better_stay {f : FR} {V o : Int} {L l : List Int} (h : V ≤ o) : better (better f V L) o l = better f V L := by
  unfold better
  by_cases q : f.some = true ∧ f.off ≤ V
  · rw [if_pos q, if_pos ⟨q.1, by omega⟩]
  · rw [if_neg q, if_pos ⟨rfl, h⟩]
theorem better_over {f : FR} {V o : Int} {L l : List Int} (h : V < o) : better (better f o l) V L = better f V L := by
  unfold better
  by_cases q : f.some = true ∧ f.off ≤ o
  · rw [if_pos q]
  · rw [if_neg q]
    have h1 : ¬ (f.some = true ∧ f.off ≤ V) := fun z => q ⟨z.1, by omega⟩
    have h2 : ¬ (true = true ∧ o ≤ V) := fun z => by omega
    rw [if_neg h1, if_neg h2]
theorem fold_before {V : Int} {L : List Int} {step : FR → Nat → FR} : ∀ {xs : List Nat}, (∀ x ∈ xs, (∀ F, step F x = F) ∨ ∃ o l, V < o ∧ ∀ F, step F x = better F o l) → ∀ f : FR, better (xs.foldl step f) V L = better f V L
  | [], _, _ => rfl
  | x :: xs, h, f => by
    rw [List.foldl_cons, fold_before (fun y hy => h y (by simp [hy]))]
    rcases h x (by simp) with e | ⟨o, l, ho, e⟩
    · rw [e]
    · rw [e, better_over ho]
theorem fold_after {V : Int} {L : List Int} {step : FR → Nat → FR} {f : FR} : ∀ {xs : List Nat}, (∀ x ∈ xs, (∀ F, step F x = F) ∨ ∃ o l, V ≤ o ∧ ∀ F, step F x = better F o l) → xs.foldl step (better f V L) = better f V L
  | [], _ => rfl
  | x :: xs, h => by
    have e1 : step (better f V L) x = better f V L := by
      rcases h x (by simp) with e | ⟨o, l, ho, e⟩
      · rw [e]
      · rw [e, better_stay ho]
    rw [List.foldl_cons, e1, fold_after (fun y hy => h y (by simp [hy]))]
theorem fold_skip {step : FR → Nat → FR} {f : FR} : ∀ {xs : List Nat}, (∀ x ∈ xs, ∀ F, step F x = F) → xs.foldl step f = f
  | [], _ => rfl
  | x :: xs, h => by rw [List.foldl_cons, h x (by simp), fold_skip (fun y hy => h y (by simp [hy]))]
section
variable {rs : List Arw} {n : Nat} {sp : Int}
def crS (rs : List Arw) (l : List Int) : List Int → Int
  | [] => 0
  | y :: S => sF rs y l + crS rs l S
theorem crS_perm (l : List Int) {a b : List Int} (h : a.Perm b) : crS rs l a = crS rs l b := by
  induction h with
  | nil => rfl
  | cons x _ ih => simp only [crS, ih]
  | swap x y l => simp only [crS]; omega
  | trans _ _ h1 h2 => rw [h1, h2]
theorem crS_snoc (l : List Int) (g : Int) : ∀ S : List Int, crS rs (l ++ [g]) S = crS rs l S + sT rs g S
  | [] => by simp [crS, sT]
  | y :: S => by
    have e : sF rs y [g] = wt y g rs := by simp [sF]
    simp only [crS, sT, crS_snoc l g S, sF_append, e]
    omega
def Xf (rs : List Arw) (sp : Int) (l S : List Int) : Prop := ∀ y ∈ S, y = sp → ∀ x ∈ l, wt y x rs = 0
def Pf (rs : List Arw) (sp : Int) (n : Nat) (l : List Int) (d : Nat → Bool) : Prop := feas rs sp l ∧ Xf rs sp l (setL n d)
theorem Pf_snoc {l : List Int} {d : Nat → Bool} {x : Nat} (hx : x < n) (hd : d x = true) : Pf rs sp n (l ++ [(x : Int)]) (sput d x false) ↔ Pf rs sp n l d ∧ safe rs sp n d x := by
  have hp := setL_less hx hd
  unfold Pf
  rw [feas_snoc]
  constructor
  · rintro ⟨⟨h1, h2⟩, h3⟩
    refine ⟨⟨h1, fun y hy e z hz => ?_⟩, fun y hy e => h3 y hy e _ (by simp)⟩
    rcases List.mem_cons.1 (hp.mem_iff.1 hy) with rfl | hy
    · exact h2 e z hz
    · exact h3 y hy e z (by simp [hz])
  · rintro ⟨⟨h1, h2⟩, h3⟩
    refine ⟨⟨h1, fun e z hz => h2 _ (hp.mem_iff.2 (by simp)) e z hz⟩, fun y hy e z hz => ?_⟩
    rcases List.mem_append.1 hz with hz | hz
    · exact h2 y (hp.mem_iff.2 (by simp [hy])) e z hz
    · obtain rfl := List.mem_singleton.1 hz
      exact h3 y hy e
open Classical in
theorem srchF_eq (g : GoodC n rs) : ∀ (k : Nat) (d : Nat → Bool) (l : List Int) (f : FR), (l ++ setL n d).Perm (setL n allT) → (setL n d).length = k →
    srchF rs sp (setL n allT) k l f = if Pf rs sp n l d then better f (inc rs l + crS rs l (setL n d) + leftS rs sp d (circR (n : Int) rs)) (l ++ firstK rs sp n (circR (n : Int) rs) k d (leftS rs sp d (circR (n : Int) rs))) else f
  | 0, d, l, f, hp, hk => by
    have h0 : setL n d = [] := List.eq_nil_of_length_eq_zero hk
    rw [h0, List.append_nil] at hp
    have go : GoodO (n : Int) l := good_perm.2 hp
    obtain ⟨xs, q1, q2, q3⟩ := left_hit g sp d
    rw [h0] at q1
    obtain rfl := q1.eq_nil
    have hfe : feas rs sp l ↔ ¬ slgB rs sp l = true := by
      rw [feas_iff g.gr go.2.2, slgB, List.any_eq_true]
      constructor
      · rintro hn ⟨r, hr, hb⟩
        simp only [Bool.and_eq_true, decide_eq_true_eq] at hb
        exact hn ⟨r, hr, hb.2, hb.1⟩
      · rintro hn ⟨r, hr, hb⟩
        exact hn ⟨r, hr, by simp [hb.1, hb.2]⟩
    have hP : Pf rs sp n l d ↔ feas rs sp l := by
      unfold Pf; rw [h0]
      exact ⟨fun z => z.1, fun z => ⟨z, fun y hy => by simp at hy⟩⟩
    rw [srchF, off_inc g.gr go, h0, crS, ← q3, inc, firstK, List.append_nil, Int.add_zero, Int.add_zero]
    by_cases c : feas rs sp l
    · rw [if_neg (hfe.1 c), if_pos (hP.2 c)]
    · rw [if_pos (Classical.not_not.1 fun q => c (hfe.2 q)), if_neg fun q => c (hP.1 q)]
  | k + 1, d, l, f, hp, hk => by
    have hnd : (l ++ setL n d).Nodup := hp.nodup_iff.2 (setL_nodup _ _)
    have hin : ∀ x, x < n → ((x : Int) ∈ l ↔ d x = false) := by
      intro x hx
      have hall : (x : Int) ∈ l ++ setL n d := hp.mem_iff.2 (setL_mem.2 ⟨x, rfl, hx, rfl⟩)
      constructor
      · intro hl
        cases hd : d x
        · rfl
        · exact absurd rfl ((List.nodup_append.1 hnd).2.2 _ hl _ (setL_mem.2 ⟨x, rfl, hx, hd⟩))
      · intro hd
        rcases List.mem_append.1 hall with h | h
        · exact h
        · obtain ⟨j, e, _, h2⟩ := setL_mem.1 h
          obtain rfl : x = j := by omega
          rw [hd] at h2; cases h2
    let V := inc rs l + crS rs l (setL n d) + leftS rs sp d (circR (n : Int) rs)
    let step : FR → Nat → FR := fun f x => if (x : Int) ∈ l then f else srchF rs sp (setL n allT) k (l ++ [(x : Int)]) f
    have hfold : srchF rs sp (setL n allT) (k + 1) l f = (List.range n).foldl step f := by
      have e : setL n allT = (List.range n).map fun (j : Nat) => (j : Int) := by
        unfold setL
        have e : (List.range n).filter allT = List.range n := List.filter_eq_self.2 (fun _ _ => rfl)
        rw [e]
      rw [srchF]
      conv => lhs; rw [e]
      rw [List.foldl_map, ← e]
    rw [hfold]
    have hstep : ∀ x, x < n → ∀ F, step F x = if d x = true ∧ safe rs sp n d x ∧ Pf rs sp n l d then better F (inc rs l + crS rs l (setL n d) + (sT rs (x : Int) (setL n (sput d x false)) + leftS rs sp (sput d x false) (circR (n : Int) rs))) (l ++ (x : Int) :: firstK rs sp n (circR (n : Int) rs) k (sput d x false) (leftS rs sp (sput d x false) (circR (n : Int) rs))) else F := by
      intro x hx F
      cases hd : d x
      · rw [if_neg (by simp)]
        show (if (x : Int) ∈ l then F else _) = F
        rw [if_pos ((hin x hx).2 hd)]
      · have hl : (x : Int) ∉ l := fun q => by rw [(hin x hx).1 q] at hd; cases hd
        show (if (x : Int) ∈ l then F else srchF rs sp (setL n allT) k (l ++ [(x : Int)]) F) = _
        rw [if_neg hl]
        have hpx := setL_less hx hd
        rw [srchF_eq g k (sput d x false) (l ++ [(x : Int)]) F (by
          rw [List.append_assoc]
          exact (List.Perm.append_left l hpx.symm).trans hp) (by have := hpx.length_eq; simp at this; omega)]
        by_cases c : safe rs sp n d x ∧ Pf rs sp n l d
        · rw [if_pos ((Pf_snoc hx hd).2 ⟨c.2, c.1⟩), if_pos ⟨rfl, c⟩]
          have e1 : inc rs (l ++ [(x : Int)]) + crS rs (l ++ [(x : Int)]) (setL n (sput d x false)) = inc rs l + crS rs l (setL n d) + sT rs (x : Int) (setL n (sput d x false)) := by
            rw [inc_snoc, crS_snoc, crS_perm l hpx, crS]; omega
          rw [e1, List.append_assoc, Int.add_assoc]
          rfl
        · rw [if_neg fun q => c (((Pf_snoc hx hd).1 q).symm), if_neg fun q => c q.2]
    by_cases c : Pf rs sp n l d
    case neg =>
      rw [if_neg c]
      refine fold_skip fun x hx F => ?_
      rw [hstep x (List.mem_range.1 hx), if_neg fun q => c q.2.2]
    rw [if_pos c]
    obtain ⟨x, hx, hd, hpk, hf⟩ := pick_exists (sp := sp) g (d := d) (by intro q; rw [q] at hk; simp at hk)
    obtain ⟨hs, he⟩ := (pick_iff g hx hd).1 hpk
    obtain ⟨_, us, bs, hsplit, hno⟩ := List.find?_eq_some_iff_append.1 hf
    have hL : firstK rs sp n (circR (n : Int) rs) (k + 1) d (leftS rs sp d (circR (n : Int) rs)) = (x : Int) :: firstK rs sp n (circR (n : Int) rs) k (sput d x false) (leftS rs sp (sput d x false) (circR (n : Int) rs)) := by
      rw [firstK, hf]
    rw [hL, hsplit, List.foldl_append, List.foldl_cons]
    have hlt : ∀ y ∈ us ++ x :: bs, y < n := fun y hy => List.mem_range.1 (hsplit ▸ hy)
    rw [hstep x hx, if_pos ⟨hd, hs, c⟩, he]
    rw [fold_before (fun y hy => ?_), fold_after (fun y hy => ?_)]
    · have hyn := hlt y (by simp [hy])
      by_cases cc : d y = true ∧ safe rs sp n d y ∧ Pf rs sp n l d
      · refine .inr ⟨_, _, ?_, fun F => by rw [hstep y hyn, if_pos cc]⟩
        have := next_ge g hyn cc.1 cc.2.1
        omega
      · exact .inl fun F => by rw [hstep y hyn, if_neg cc]
    · have hyn := hlt y (by simp [hy])
      by_cases cc : d y = true ∧ safe rs sp n d y ∧ Pf rs sp n l d
      · refine .inr ⟨_, _, ?_, fun F => by rw [hstep y hyn, if_pos cc]⟩
        have h1 := next_ge g hyn cc.1 cc.2.1
        have h2 : ¬ (sT rs (y : Int) (setL n (sput d y false)) + leftS rs sp (sput d y false) (circR (n : Int) rs) = leftS rs sp d (circR (n : Int) rs)) := by
          intro q
          have := hno y hy
          rw [(pick_iff g hyn cc.1).2 ⟨cc.2.1, q⟩] at this
          simp at this
        omega
      · exact .inl fun F => by rw [hstep y hyn, if_neg cc]
theorem srch_all (g : GoodC n rs) : srchF rs sp (setL n allT) n [] ⟨false, 0, []⟩ = ⟨true, leftS rs sp allT (circR (n : Int) rs), firstS rs sp n (circR (n : Int) rs)⟩ := by
  have h0 : ∀ S : List Int, crS rs [] S = 0 := by
    intro S
    induction S with
    | nil => rfl
    | cons y S ih => simp [crS, sF, ih]
  rw [srchF_eq g n allT [] _ (by simp) (setL_all_len n), if_pos ⟨trivial, fun y _ _ x hx => by simp at hx⟩, h0]
  simp [better, inc, firstS]
end
end Go.Air
set_option maxRecDepth 100000
namespace Go.Air
open Go.Air.Try
theorem t73 : tblA 73 = some a73 := by kernel_rfl
theorem fn_all {h : H} {n : Nat} {v : V} (hn : n ≤ 24) : WC tblA (.fn 73 [] []) [.agg [.i .i64 (n : Int), v]] h fun u h' => Ext h h' ∧ Own h 1 h' u (setL n allT).length (ints (setL n allT)) := by
  refine (WC_in t73).2 ?_
  obtain ⟨e0, g0⟩ := rel_blk h (n : Int) v
  simp only [go_sem, ↓reduceIte, r73_0]
  have n0 : (h.new (.cells [.i .i64 (n : Int), v])).next = h.next + 1 := by simp
  generalize hh : h.new (.cells [.i .i64 (n : Int), v]) = h0 at *
  simp only [go_sem, ↓reduceIte, r73_1, r73_2]
  refine W_while (fun k t h' => ∃ (i : Nat) (w : V), k = n - i ∧ i ≤ n ∧ t.length = 16 ∧ nth t 1 = .p h.next 0 ∧ nth t 3 = w ∧ nth t 4 = .i .i64 (i : Int) ∧ Ext h0 h' ∧ Own h0 1 h' w (setL i allT).length (ints (setL i allT))) ?_ n ?_
  · rintro k t h' ⟨i, w, rfl, hi, tl, t1, t3, t4, e', o'⟩
    unfold b73_0
    have l1 : ldV h' (.p h.next 0) = some (.i .i64 (n : Int)) := blk_ld (e'.get (by omega) g0) rfl
    by_cases hlt : i < n
    · have hltI : (i : Int) < (n : Int) := by omega
      obtain ⟨w', h5, r1, r2, r3⟩ := app_int (i : Int) o' e' (by rw [setL_all_len]; omega)
      simp only [go_sem, ↓reduceIte, r73_3, r73_4, r73_5, tl, t1, t3, t4, l1, hltI, r1, wrap_succ (show i < 1000000000 by omega)]
      refine ⟨n - (i + 1), by omega, i + 1, w', rfl, hlt, rfl, rfl, r2, ?_⟩
      rw [setL_succ, show (if allT i = true then [(i : Int)] else []) = [(i : Int)] from rfl, List.length_append]
      exact r3
    · have hltI : ¬ (i : Int) < (n : Int) := by omega
      obtain rfl : i = n := by omega
      simp only [go_sem, ↓reduceIte, r73_3, r73_6, tl, t1, t3, t4, l1, hltI]
      exact ⟨e0.trans e', o'.mono (by omega)⟩
  · refine ⟨0, .sn, by omega, by omega, ?_⟩
    simp only [go_sem, ↓reduceIte]
    exact ⟨.refl _, .nil⟩
def FRo (h : H) (v : V) (F : FR) : Prop := ∃ (h0 : H) (w : V), v = .agg [.b F.some, .i .i64 F.off, w] ∧ Own h0 1 h w F.ord.length (ints F.ord)
theorem FRo.ext {h h' : H} {v : V} {F : FR} (r : FRo h v F) (e : Ext h h') : FRo h' v F := by
  obtain ⟨h0, w, q, o⟩ := r
  exact ⟨h0, w, q, o.ext e⟩
theorem FRo.bare {h : H} {v : V} {F : FR} (r : FRo h v F) : FRo h.bare v F := r
theorem fill3_of {x y z : V} (hx : x.cells = [x]) (hy : y.cells = [y]) (hz : z.cells = [z]) : fill3 x y z = some [x, y, z] := by simp [fill3, hx, hy, hz]
theorem t113 : tblA 113 = some a113 := by kernel_rfl
theorem fn_better {h : H} {f o : V} {F : FR} {x : Int} {l : List Int} (hf : FRo h f F) (hs : Ints h o l) (hn : l.length ≤ 1000000) :
    WC tblA (.fn 113 [] []) [f, .i .i64 x, o] h fun u h' => Ext h h' ∧ FRo h' u (better F x l) := by
  refine (WC_in t113).2 ?_
  obtain ⟨hq, w, rfl, ow⟩ := hf
  simp only [go_sem, ↓reduceIte, r113_0, H.next_new]
  have e0 : Ext h ((h.new (.cells [.b F.some, .i .i64 F.off, w])).new (.cells [.b false, .i .i64 0, .sn])) := ((Ext.refl h).new _).new _
  have g0 : ((h.new (.cells [.b F.some, .i .i64 F.off, w])).new (.cells [.b false, .i .i64 0, .sn])).get h.next = some (.cells [.b F.some, .i .i64 F.off, w]) := by rw [get_new_lt (by simp), get_new_eq rfl]
  have g1 : ((h.new (.cells [.b F.some, .i .i64 F.off, w])).new (.cells [.b false, .i .i64 0, .sn])).get (h.next + 1) = some (.cells [.b false, .i .i64 0, .sn]) := by rw [get_new_eq (by simp)]
  have n0 : ((h.new (.cells [.b F.some, .i .i64 F.off, w])).new (.cells [.b false, .i .i64 0, .sn])).next = h.next + 1 + 1 := by simp
  generalize ((h.new (.cells [.b F.some, .i .i64 F.off, w])).new (.cells [.b false, .i .i64 0, .sn])) = h1 at *
  have l0 : ldV h1 (.p h.next 0) = some (.b F.some) := blk_ld g0 rfl
  have l1 : ldV h1 (.p h.next 1) = some (.i .i64 F.off) := blk_ld g0 rfl
  have l3 : ldnV h1 3 (.p h.next 0) = some (.agg [.b F.some, .i .i64 F.off, w]) := blk_ldn g0 rfl
  have hone := ow.one
  have tail : ∀ (h2 : H) (c : List V) (F' : FR), Ext h1 h2 → c.length = 3 → (∀ u ∈ c, u.oneCell = true) → FRo h2 (.agg c) F' → stV h2 3 (.p (h.next + 1) 0) (.agg c) = some (h2.put (h.next + 1) (.cells c)) ∧ Ext h (h2.put (h.next + 1) (.cells c)) ∧ (h2.put (h.next + 1) (.cells c)).get (h.next + 1) = some (.cells c) ∧ FRo (h2.put (h.next + 1) (.cells c)) (.agg c) F' := by
    intro h2 c F' e2 hl h1c hf'
    have g2 := e2.get (by omega) g1
    refine ⟨st_whole g2 hl rfl h1c, (e0.trans e2).put (by omega) _, by rw [H.get_put, if_pos rfl], ?_⟩
    obtain ⟨hq', w', q, o'⟩ := hf'
    exact ⟨hq', w', q, o'.keepN ((ExtX.refl (· = h.next + 1) h2).put (.inr rfl) _) (own_ne o' g2 (fun k n z => by cases z))⟩
  by_cases c1 : F.some = true
  · by_cases c2 : F.off ≤ x
    · obtain ⟨s1, s2, s3, s4⟩ := tail h1 [.b F.some, .i .i64 F.off, w] F (.refl _) rfl (by
        intro y hy
        simp at hy
        rcases hy with rfl | rfl | rfl
        · rfl
        · rfl
        · exact hone.2) ⟨hq, w, rfl, ow.ext e0⟩
      have hb : better F x l = F := by rw [better, if_pos ⟨c1, c2⟩]
      rw [c1] at l0
      simp only [go_sem, ↓reduceIte, r113_1, r113_2, l0, l1, l3, c2, s1]
      rw [rescell (k := 3) (b := h.next + 1) (cs := [.b F.some, .i .i64 F.off, w]) (by simp only [go_sem, ↓reduceIte]) s3 (cut_all rfl)]
      simp only [go_sem, ↓reduceIte]
      rw [hb]
      exact ⟨s2, s4⟩
    · obtain ⟨y, h2, q2, e2, o2⟩ := app_all (hs.ext e0) hn
      have hone2 := o2.one
      obtain ⟨s1, s2, s3, s4⟩ := tail h2 [.b true, .i .i64 x, y] ⟨true, x, l⟩ e2 rfl (by
        intro z hz
        simp at hz
        rcases hz with rfl | rfl | rfl
        · rfl
        · rfl
        · exact hone2.2) ⟨h1, y, rfl, o2⟩
      have hb : better F x l = ⟨true, x, l⟩ := by rw [better, if_neg (fun z => c2 z.2)]
      rw [c1] at l0
      simp only [go_sem, ↓reduceIte, r113_1, r113_3, l0, l1, c2, q2, fill3_of (x := .b true) (y := .i .i64 x) rfl rfl hone2.1, s1]
      rw [rescell (k := 3) (b := h.next + 1) (cs := [.b true, .i .i64 x, y]) (by simp only [go_sem, ↓reduceIte]) s3 (cut_all rfl)]
      simp only [go_sem, ↓reduceIte]
      rw [hb]
      exact ⟨s2, s4⟩
  · have c1' : F.some = false := by simpa using c1
    obtain ⟨y, h2, q2, e2, o2⟩ := app_all (hs.ext e0) hn
    have hone2 := o2.one
    obtain ⟨s1, s2, s3, s4⟩ := tail h2 [.b true, .i .i64 x, y] ⟨true, x, l⟩ e2 rfl (by
      intro z hz
      simp at hz
      rcases hz with rfl | rfl | rfl
      · rfl
      · rfl
      · exact hone2.2) ⟨h1, y, rfl, o2⟩
    have hb : better F x l = ⟨true, x, l⟩ := by rw [better, if_neg (fun z => c1 z.1)]
    rw [c1'] at l0
    simp only [go_sem, ↓reduceIte, r113_1, r113_3, l0, l1, q2, fill3_of (x := .b true) (y := .i .i64 x) rfl rfl hone2.1, s1]
    rw [rescell (k := 3) (b := h.next + 1) (cs := [.b true, .i .i64 x, y]) (by simp only [go_sem, ↓reduceIte]) s3 (cut_all rfl)]
    simp only [go_sem, ↓reduceIte]
    rw [hb]
    exact ⟨s2, s4⟩
theorem app_allB {h : H} {v : V} {xs : List Int} (hs : Ints h v xs) (hn : xs.length ≤ 1000000) : ∃ w hb g, appendV 1 8 (h.new (.cells [])).bare (.sl h.next 0 0 0 none) v = .ok w hb ∧ (h.new (.cells [])).back hb = g ∧ Ext h g ∧ Own h 1 g w xs.length (ints xs) ∧ ∀ b ∈ oldOnes (h.next + 1) hb.log, h.next ≤ b := by
  obtain ⟨o1, x1⟩ := Own.lit (esz := 1) (Ext.refl h) [] 0 rfl
  obtain ⟨w, hb, g, r1, r2, r3, r4, _⟩ := Own.appB (bytes := 8) o1 x1 (hs.ext x1) ints_one (by omega) (by omega) (by omega)
  refine ⟨w, hb, g, r1, r2, r3, by simpa using r4, ?_⟩
  obtain ⟨l, f1, f2⟩ := r3.log
  have e : g.log = oldOnes (h.next + 1) hb.log ++ h.log := by rw [← r2]; simp [H.back, H.new]
  rw [e] at f1
  rw [List.append_cancel_right f1]
  exact f2
theorem app_intB {h0 h : H} {w : V} {xs : List Int} {n : Nat} (c : Int) (o : Own h0 1 h w n (ints xs)) (e : Ext h0 h) (hn : n ≤ 1000001) :
    ∃ w' hb g, appendV 1 8 (h.new (.cells [.i .i64 c])).bare w (.sl h.next 0 1 1 none) = .ok w' hb ∧ (h.new (.cells [.i .i64 c])).back hb = g ∧ Ext h0 g ∧ Own h0 1 g w' (n + 1) (ints (xs ++ [c])) := by
  obtain ⟨o3, x3⟩ := Own.lit (esz := 1) (Ext.refl h) [.i .i64 c] 1 rfl
  obtain ⟨w', hb, g, r1, r2, r3, r4, _⟩ := Own.appB (bytes := 8) (o.ext x3) (e.trans x3) o3.sl (by intro u hu; simp at hu; subst hu; rfl) (by omega) (by omega) (by omega)
  exact ⟨w', hb, g, r1, r2, r3, by simpa [ints] using r4⟩
theorem ints_blk {h : H} {v : V} {xs : List Int} {i : Nat} (hs : Ints h v xs) (hi : i < xs.length) : blkV v < h.next := by
  rcases hs with ⟨h1, h2, _⟩ | ⟨b, off, cap, g, bl, rfl, hb, _⟩
  · omega
  · exact hb
theorem draw72 {h : H} {lv gv : V} {l gs : List Int} {i : Nat} {g : Int} {t : List V} {Q : Out → List V → H → Prop} (tl : t.length = 86) (t1 : nth t 1 = gv) (t2 : nth t 2 = lv) (t14 : nth t 14 = .i .i64 (i : Int)) (hs : Ints h lv l) (hg : Ints h gv gs) (hx : gs[i]? = some g) (hn : l.length ≤ 1000000)
    (hQ : ∀ t' w h', Ext h h' → t'.length = 86 → (∀ j, j < 15 → nth t' j = nth t j) → nth t' 15 = w → Ints h' w (l ++ [g]) → Q .norm t' h') : WD tblA r72_15 t h [] (Kcrit [(2, 6)] Q) := by
  have hi : i < gs.length := (List.getElem?_eq_some_iff.1 hx).1
  obtain ⟨w, hb, g1, q0, q1, q2, q3, q4⟩ := app_allB hs hn
  have hg1 := hg.ext q2
  obtain ⟨w', hb2, g2, s0, s1, s2, s3⟩ := app_intB g q3 q2 (by omega)
  have hbl := ints_blk hg hi
  simp only [go_sem, ↓reduceIte, r72_15, tl, t1, t2, t14, q0, q1, hg1.ix hi, hg1.ld hx, s0, s1]
  refine ⟨?_, hQ _ w' g2 s2 (by simp only [upd_length, tl]) (fun j hj => by simp only [nth_upd]; repeat rw [if_neg (by omega)]) (by simp only [go_sem, ↓reduceIte, tl]) ?_⟩
  · simp only [critOk, reads]
    have e75 : X.ev (upd (upd (upd (upd (upd (upd t 70 (V.sl h.next 0 0 0 none)) 71 lv) 72 w) 73 gv) 74 (V.i IntKind.i64 ↑i)) 75 (V.p (blkV gv) (offV gv + i * 1))) (X.t 75) = V.p (blkV gv) (offV gv + i * 1) := by simp only [go_sem, ↓reduceIte, tl]
    rw [e75]
    have hno : ∀ b ∈ oldOnes (h.next + 1) hb.log, ¬ b = blkV gv := fun b hb' z => by have := q4 b hb'; omega
    simp [apart, blockOf, old_bare]
    exact hno
  · exact (Ints.of s3.sl).1
def frc (F : FR) (w : V) : List V := [.b F.some, .i .i64 F.off, w]
theorem slgB_step {rs : List Arw} {sp : Int} {l : List Int} {i : Nat} {a : Arw} (hx : rs[i]? = some a) : slgB (rs.take (i + 1)) sp l = (slgB (rs.take i) sp l || (decide (badR l a) && decide (a.f = sp))) := by
  rw [slgB, take_succ' hx, List.any_append]; simp [slgB]
def s72_10a : List O := [⟨some 51, none, .ldn 3 (.t 9)⟩, ⟨some 52, none, .ldn 2 (.t 5)⟩, ⟨some 53, none, .mov (.t 2)⟩, ⟨some 54, none, .call (.f 83) [(.t 52), (.t 53)]⟩]
def s72_10b : List O := [⟨some 55, none, .mov (.t 2)⟩, ⟨some 56, none, .call (.f 113) [(.t 51), (.t 54), (.t 55)]⟩, ⟨none, none, .st 3 (.t 10) (.t 56)⟩]
theorem r72_10_eq : r72_10 = s72_10a ++ s72_10b := rfl
theorem frc_one {F : FR} {w : V} (h : w.oneCell = true) : ∀ u ∈ frc F w, u.oneCell = true := by
  intro u hu
  simp [frc] at hu
  rcases hu with rfl | rfl | rfl
  · rfl
  · rfl
  · exact h
theorem t72 : tblA 72 = some a72 := by kernel_rfl
theorem fn_search {n : Nat} {rs : List Arw} {sp : Int} (gr : GoodR (n : Int) rs) (hn : n ≤ 24) (hrn : rs.length ≤ 1000000) : ∀ (k : Nat) (h : H) (v gv lv fv : V) (l : List Int) (F : FR), Arrs h v rs → Ints h gv (setL n allT) → Ints h lv l → FRo h fv F → l.Nodup → (∀ x ∈ l, 0 ≤ x ∧ x < n) → l.length + k = n →
    WC tblA (.fn 72 [] []) [.agg [.i .i64 (n : Int), v], gv, lv, .i .i64 sp, fv] h fun u h' => Ext h h' ∧ FRo h' u (srchF rs sp (setL n allT) k l F) := by
  intro k
  induction k with
  | zero => ?_
  | succ k ih => ?_
  all_goals
    intro h v gv lv fv l F hr hg hl hf hnd hrg hlk
    obtain ⟨hq, w, rfl, ow⟩ := hf
    refine (WC_in t72).2 ?_
    have hone := ow.one
    simp only [go_sem, ↓reduceIte, r72_0, H.next_new]
    have e0 : Ext h (((h.new (.cells [.i .i64 (n : Int), v])).new (.cells (frc F w))).new (.cells [.b false, .i .i64 0, .sn])) := (((Ext.refl h).new _).new _).new _
    have g0 : (((h.new (.cells [.i .i64 (n : Int), v])).new (.cells (frc F w))).new (.cells [.b false, .i .i64 0, .sn])).get h.next = some (.cells [.i .i64 (n : Int), v]) := by rw [get_new_lt (by simp <;> omega), get_new_lt (by simp), get_new_eq rfl]
    have g1 : (((h.new (.cells [.i .i64 (n : Int), v])).new (.cells (frc F w))).new (.cells [.b false, .i .i64 0, .sn])).get (h.next + 1) = some (.cells (frc F w)) := by rw [get_new_lt (by simp), get_new_eq (by simp)]
    have g2 : (((h.new (.cells [.i .i64 (n : Int), v])).new (.cells (frc F w))).new (.cells [.b false, .i .i64 0, .sn])).get (h.next + 1 + 1) = some (.cells [.b false, .i .i64 0, .sn]) := by rw [get_new_eq (by simp)]
    have n0 : (((h.new (.cells [.i .i64 (n : Int), v])).new (.cells (frc F w))).new (.cells [.b false, .i .i64 0, .sn])).next = h.next + 1 + 1 + 1 := by simp
    rw [show (nth [.agg [.i .i64 (n : Int), v], gv, lv, .i .i64 sp, .agg [.b F.some, .i .i64 F.off, w]] 4).cells = frc F w from rfl]
    generalize ((h.new (.cells [.i .i64 (n : Int), v])).new (.cells (frc F w))).new (.cells [.b false, .i .i64 0, .sn]) = hB at *
    have hrB := hr.ext e0
    have hgB := hg.ext e0
    have hlB := hl.ext e0
    have owB := ow.ext e0
    have hlen := setL_all_len n
  · have hll : (l.length : Int) = ((setL n allT).length : Int) := by omega
    simp only [go_sem, ↓reduceIte, r72_1, r72_2, r72_3, hgB.len, hlB.len, hll]
    refine W_while (fun k t h' => ∃ (i : Nat), k = rs.length - i ∧ i ≤ rs.length ∧ t.length = 86 ∧ nth t 2 = lv ∧ nth t 3 = .i .i64 sp ∧ nth t 5 = .p h.next 0 ∧ nth t 9 = .p (h.next + 1) 0 ∧ nth t 10 = .p (h.next + 1 + 1) 0 ∧ nth t 11 = .b (slgB (rs.take i) sp l) ∧ nth t 12 = .i .i64 (i : Int) ∧ Ext hB h') ?_ rs.length ?_
    · rintro k t h' ⟨i, rfl, hi, tl, t2, t3, t5, t9, t10, t11, t12, e'⟩
      unfold b72_0
      have hr' := hrB.ext e'
      have hl' := hlB.ext e'
      have l1 : ldV h' (.p h.next 1) = some v := blk_ld (e'.get (by omega) g0) rfl
      by_cases hlt : i < rs.length
      · have hltI : (i : Int) < (rs.length : Int) := by omega
        obtain ⟨a, hx⟩ : ∃ a, rs[i]? = some a := ⟨_, List.getElem?_eq_getElem hlt⟩
        simp only [go_sem, ↓reduceIte, r72_4, r72_6, tl, t2, t3, t5, t9, t10, t11, t12, l1, hr'.len, hltI, hr'.ix hlt, hr'.ldn hx]
        refine (fn_offended hl' (by omega)).mono ?_
        rintro _ h3 ⟨e3, rfl⟩
        have hst := slgB_step (sp := sp) (l := l) hx
        have hr3 := hr'.ext e3
        have e33 := e'.trans e3
        have l3 : ldV h3 (.p h.next 1) = some v := blk_ld (e33.get (by omega) g0) rfl
        have lf := hr3.ld (j := 0) hx (by omega)
        rw [show (arw a)[0]? = some (.i .i64 a.f) from rfl] at lf
        rw [show decide (a.f ∈ l ∧ a.t ∈ l ∧ posN a.t l < posN a.f l) = decide (badR l a) from rfl]
        generalize slgB (rs.take i) sp l = B at *
        cases B
        · by_cases hb : badR l a
          · by_cases hf : a.f = sp
            · simp only [go_sem, ↓reduceIte, r72_5, r72_7, tl, t2, t3, t5, t9, t10, t11, t12, hb, l3, hr3.ix hlt, lf, hf, wrap_succ (show i < 1000000000 by omega)]
              exact ⟨rs.length - (i + 1), by omega, i + 1, rfl, hlt, by rw [hst]; simp [hb, hf], rfl, e33⟩
            · simp only [go_sem, ↓reduceIte, r72_5, r72_7, tl, t2, t3, t5, t9, t10, t11, t12, hb, l3, hr3.ix hlt, lf, hf, wrap_succ (show i < 1000000000 by omega)]
              exact ⟨rs.length - (i + 1), by omega, i + 1, rfl, hlt, by rw [hst]; simp [hf], rfl, e33⟩
          · simp only [go_sem, ↓reduceIte, r72_5, r72_7, tl, t2, t3, t5, t9, t10, t11, t12, hb, wrap_succ (show i < 1000000000 by omega)]
            exact ⟨rs.length - (i + 1), by omega, i + 1, rfl, hlt, by rw [hst]; simp [hb], rfl, e33⟩
        · simp only [go_sem, ↓reduceIte, r72_5, r72_7, tl, t2, t3, t5, t9, t10, t11, t12, wrap_succ (show i < 1000000000 by omega)]
          exact ⟨rs.length - (i + 1), by omega, i + 1, rfl, hlt, by rw [hst]; simp, rfl, e33⟩
      · have hltI : ¬ (i : Int) < (rs.length : Int) := by omega
        rw [List.take_of_length_le (by omega)] at t11
        simp only [go_sem, ↓reduceIte, r72_4, r72_8, tl, t2, t3, t5, t9, t10, t11, t12, l1, hr'.len, hltI]
        have g1' := e'.get (by omega) g1
        have g2' := e'.get (by omega) g2
        have l9 : ldnV h' 3 (.p (h.next + 1) 0) = some (.agg (frc F w)) := blk_ldn g1' rfl
        have l5 : ldnV h' 2 (.p h.next 0) = some (.agg [.i .i64 (n : Int), v]) := blk_ldn (e'.get (by omega) g0) rfl
        have e00 := e0.trans e'
        have ow' := owB.ext e'
        have tail : ∀ (h2 : H) (c : List V) (F' : FR), Ext h' h2 → c.length = 3 → (∀ u ∈ c, u.oneCell = true) → FRo h2 (.agg c) F' → stV h2 3 (.p (h.next + 1 + 1) 0) (.agg c) = some (h2.put (h.next + 1 + 1) (.cells c)) ∧ Ext h (h2.put (h.next + 1 + 1) (.cells c)) ∧ (h2.put (h.next + 1 + 1) (.cells c)).get (h.next + 1 + 1) = some (.cells c) ∧ FRo (h2.put (h.next + 1 + 1) (.cells c)) (.agg c) F' := by
          intro h2 c F' e2 hl h1c hf'
          have nn := e'.nx
          have g2'' := e2.get (by omega) g2'
          refine ⟨st_whole g2'' hl rfl h1c, (e00.trans e2).put (by omega) _, by rw [H.get_put, if_pos rfl], ?_⟩
          obtain ⟨hq', w', q, o'⟩ := hf'
          exact ⟨hq', w', q, o'.keepN ((ExtX.refl (· = h.next + 1 + 1) h2).put (.inr rfl) _) (own_ne o' g2'' (fun k n z => by cases z))⟩
        by_cases hs : slgB rs sp l = true
        · obtain ⟨s1, s2, s3, s4⟩ := tail h' (frc F w) F (.refl _) rfl (frc_one hone.2) ⟨hq, w, rfl, ow'⟩
          simp only [go_sem, ↓reduceIte, hs, r72_9, l9, tl, t9, t10, s1]
          rw [rescell (k := 3) (b := h.next + 1 + 1) (cs := frc F w) (by simp only [go_sem, ↓reduceIte, tl, t10]) s3 (cut_all rfl)]
          simp only [go_sem, ↓reduceIte, srchF, hs]
          exact ⟨s2, s4⟩
        · have hs' : slgB rs sp l = false := by simpa using hs
          simp only [go_sem, ↓reduceIte, hs']
          rw [r72_10_eq]
          apply W_crit (by simp [s72_10a])
          simp only [go_sem, ↓reduceIte, s72_10a, tl, t2, t5, t9, l9, l5]
          refine (fn_Inner (h := h'.bare) (N := (n : Int)) (Sl.bare hr') hrn (Sl.bare hl') (by omega) gr ⟨by omega, hrg, hnd⟩).mono ?_
          rintro _ h3 ⟨e3, rfl⟩
          have hold := e3.old
          replace e3 := e3.back
          simp only [go_sem, ↓reduceIte, hold, s72_10b, tl, t2, t10]
          generalize h'.back h3 = h4 at *
          refine (fn_better (h := h4.bare) (F := F) (FRo.bare ⟨hq, w, rfl, ow'.ext e3⟩) (Sl.bare (hl'.ext e3)) (by omega)).mono ?_
          rintro _ h5 ⟨e5, hq5, w5, rfl, o5⟩
          replace e5 := e5.back
          have o5' : Own hq5 1 (h4.back h5) w5 (better F (sumW (slS l rs)) l).ord.length (ints (better F (sumW (slS l rs)) l).ord) := o5
          simp only [go_sem, ↓reduceIte, tl, t10]
          generalize h4.back h5 = h6 at *
          have hone5 := o5'.one
          have nn := e'.nx
          have n6 := (e3.trans e5).nx
          obtain ⟨s1, s2, s3, s4⟩ := tail h6 (frc (better F (sumW (slS l rs)) l) w5) _ (e3.trans e5) rfl (frc_one hone5.2) ⟨hq5, w5, rfl, o5'⟩
          have s1' : stV h6.bare 3 (.p (h.next + 1 + 1) 0) (.agg [.b (better F (sumW (slS l rs)) l).some, .i .i64 (better F (sumW (slS l rs)) l).off, w5]) = some (h6.bare.put (h.next + 1 + 1) (.cells (frc (better F (sumW (slS l rs)) l) w5))) := st_whole (h := h6.bare) ((e3.trans e5).get (by omega) g2') rfl rfl (frc_one hone5.2)
          have hbk := back_put (h := h6) (b := h.next + 1 + 1) (by omega) (.cells (frc (better F (sumW (slS l rs)) l) w5))
          simp only [go_sem, ↓reduceIte, tl, t10, s1', hbk]
          rw [rescell (k := 3) (b := h.next + 1 + 1) (cs := frc (better F (sumW (slS l rs)) l) w5) (by simp only [go_sem, ↓reduceIte, tl, t10]) s3 (cut_all rfl)]
          simp only [go_sem, ↓reduceIte, srchF, hs']
          exact ⟨s2, s4⟩
    · refine ⟨0, by omega, by omega, ?_⟩
      simp only [go_sem, ↓reduceIte, List.take_zero]
      exact ⟨rfl, .refl _⟩
  · have hll : ¬ (l.length : Int) = ((setL n allT).length : Int) := by omega
    have hB' : FRo hB (.agg (frc F w)) F := ⟨hq, w, rfl, owB⟩
    simp only [go_sem, ↓reduceIte, r72_1, r72_11, hgB.len, hlB.len, hll]
    refine W_while (fun k' t h' => ∃ (i : Nat) (G : FR) (w' : V) (hq' : H), k' = (setL n allT).length - i ∧ i ≤ (setL n allT).length ∧ t.length = 86 ∧ nth t 1 = gv ∧ nth t 2 = lv ∧ nth t 3 = .i .i64 sp ∧ nth t 5 = .p h.next 0 ∧ nth t 9 = .p (h.next + 1) 0 ∧ nth t 10 = .p (h.next + 1 + 1) 0 ∧ nth t 14 = .i .i64 (i : Int) ∧ Ext h h' ∧ hB.next ≤ h'.next ∧
        h'.get h.next = some (.cells [.i .i64 (n : Int), v]) ∧ h'.get (h.next + 1) = some (.cells (frc G w')) ∧ h'.get (h.next + 1 + 1) = some (.cells [.b false, .i .i64 0, .sn]) ∧ Own hq' 1 h' w' G.ord.length (ints G.ord) ∧
        G = ((setL n allT).take i).foldl (fun f g => if g ∈ l then f else srchF rs sp (setL n allT) k (l ++ [g]) f) F) ?_ (setL n allT).length ?_
    · rintro k' t h' ⟨i, G, w', hq', rfl, hi, tl, t1, t2, t3, t5, t9, t10, t14, e', nx', g0', g1', g2', o', hG⟩
      unfold b72_1
      have hr' := hr.ext e'
      have hl' := hl.ext e'
      have hg' := hg.ext e'
      by_cases hlt : i < (setL n allT).length
      · have hltI : (i : Int) < ((setL n allT).length : Int) := by omega
        obtain ⟨x, hx⟩ : ∃ x, (setL n allT)[i]? = some x := ⟨_, List.getElem?_eq_getElem hlt⟩
        have hfold : ((setL n allT).take (i + 1)).foldl (fun f g => if g ∈ l then f else srchF rs sp (setL n allT) k (l ++ [g]) f) F = if x ∈ l then G else srchF rs sp (setL n allT) k (l ++ [x]) G := by
          rw [take_succ' hx, List.foldl_append, ← hG]; rfl
        simp only [go_sem, ↓reduceIte, r72_12, r72_14, tl, t1, t2, t3, t5, t9, t10, t14, hg'.len, hltI, hg'.ix hlt, hg'.ld hx]
        refine (fn_place hl' (by omega)).mono ?_
        rintro _ _ ⟨r, rfl, hr1, rfl⟩
        obtain ⟨m1, p1⟩ := hr1.mem
        by_cases c : 0 ≤ r
        · have hm := m1.1 c
          rw [if_pos hm] at hfold
          simp only [go_sem, ↓reduceIte, r72_13, tl, t1, t2, t3, t5, t9, t10, t14, c, wrap_succ (show i < 1000000000 by omega)]
          exact ⟨(setL n allT).length - (i + 1), by omega, i + 1, G, w', hq', rfl, hlt, rfl, e', nx', g0', g1', g2', o', hfold.symm⟩
        · have hm : x ∉ l := fun z => c (m1.2 z)
          rw [if_neg hm] at hfold
          simp only [go_sem, ↓reduceIte, tl, c]
          refine draw72 ?_ ?_ ?_ ?_ hl' hg' hx (by omega) ?_
          · simp only [upd_length, tl]
          · simp only [go_sem, ↓reduceIte, t1]
          · simp only [go_sem, ↓reduceIte, t2]
          · simp only [go_sem, ↓reduceIte, t14]
          intro t' y h2 e2 tl' tj t15 il
          have j1 : nth t' 1 = gv := by rw [tj 1 (by omega)]; simp only [go_sem, ↓reduceIte, t1]
          have j2 : nth t' 2 = lv := by rw [tj 2 (by omega)]; simp only [go_sem, ↓reduceIte, t2]
          have j3 : nth t' 3 = .i .i64 sp := by rw [tj 3 (by omega)]; simp only [go_sem, ↓reduceIte, t3]
          have j5 : nth t' 5 = .p h.next 0 := by rw [tj 5 (by omega)]; simp only [go_sem, ↓reduceIte, t5]
          have j9 : nth t' 9 = .p (h.next + 1) 0 := by rw [tj 9 (by omega)]; simp only [go_sem, ↓reduceIte, t9]
          have j10 : nth t' 10 = .p (h.next + 1 + 1) 0 := by rw [tj 10 (by omega)]; simp only [go_sem, ↓reduceIte, t10]
          have j14 : nth t' 14 = .i .i64 (i : Int) := by rw [tj 14 (by omega)]; simp only [go_sem, ↓reduceIte, t14]
          clear tj
          have g02 := e2.get (by omega) g0'
          have g12 := e2.get (by omega) g1'
          have l5 : ldnV h2 2 (.p h.next 0) = some (.agg [.i .i64 (n : Int), v]) := blk_ldn g02 rfl
          have l9 : ldnV h2 3 (.p (h.next + 1) 0) = some (.agg (frc G w')) := blk_ldn g12 rfl
          simp only [go_sem, ↓reduceIte, r72_16, tl', j1, j2, j3, j5, j9, j10, j14, t15, l5, l9]
          have hxm := setL_mem.1 (List.mem_of_getElem? hx)
          refine (ih h2 v gv y (.agg (frc G w')) (l ++ [x]) G (hr'.ext e2) (hg'.ext e2) il ⟨hq', w', rfl, o'.ext e2⟩ ?_ ?_ (by simp; omega)).mono ?_
          · rw [List.nodup_append]
            exact ⟨hnd, by simp, fun a ha b hb => by simp at hb; subst hb; exact fun z => hm (z ▸ ha)⟩
          · intro z hz
            rcases List.mem_append.1 hz with hz | hz
            · exact hrg z hz
            · obtain rfl := List.mem_singleton.1 hz
              obtain ⟨j, rfl, hj, _⟩ := hxm
              omega
          rintro _ h3 ⟨e3, hq3, w3, rfl, o3⟩
          rw [← hfold] at o3
          generalize srchF rs sp (setL n allT) k (l ++ [x]) G = G0 at *
          have g13 := e3.get (by have := e2.nx; omega) g12
          have hone3 := o3.one
          have n3 := (e2.trans e3).nx
          have hst := st_whole (c := frc (((setL n allT).take (i + 1)).foldl (fun f g => if g ∈ l then f else srchF rs sp (setL n allT) k (l ++ [g]) f) F) w3) g13 rfl rfl (frc_one hone3.2)
          rw [← hfold]
          have o3' := o3.keepN ((ExtX.refl (· = h.next + 1) h3).put (.inr rfl) (.cells (frc (((setL n allT).take (i + 1)).foldl (fun f g => if g ∈ l then f else srchF rs sp (setL n allT) k (l ++ [g]) f) F) w3))) (own_ne o3 g13 (fun k n z => by cases z))
          generalize hGG : ((setL n allT).take (i + 1)).foldl (fun f g => if g ∈ l then f else srchF rs sp (setL n allT) k (l ++ [g]) f) F = G2 at *
          have hst' : stV h3 3 (.p (h.next + 1) 0) (.agg [.b G2.some, .i .i64 G2.off, w3]) = some (h3.put (h.next + 1) (.cells (frc G2 w3))) := hst
          simp only [go_sem, ↓reduceIte, r72_13, tl', j1, j2, j3, j5, j9, j10, j14, hst', wrap_succ (show i < 1000000000 by omega)]
          refine ⟨(setL n allT).length - (i + 1), by omega, i + 1, G2, w3, hq3, rfl, hlt, rfl, (e'.trans (e2.trans e3)).put (by omega) _, by simp; omega, ?_, ?_, ?_, o3', hGG.symm⟩
          · rw [H.get_put, if_neg (by omega)]
            exact (e2.trans e3).get (by omega) g0'
          · rw [H.get_put, if_pos rfl]
          · rw [H.get_put, if_neg (by omega)]
            exact (e2.trans e3).get (by omega) g2'
      · have hltI : ¬ (i : Int) < ((setL n allT).length : Int) := by omega
        rw [List.take_of_length_le (by omega)] at hG
        simp only [go_sem, ↓reduceIte, r72_12, tl, t1, t2, t3, t5, t9, t10, t14, hg'.len, hltI]
        have l9 : ldnV h' 3 (.p (h.next + 1) 0) = some (.agg (frc G w')) := blk_ldn g1' rfl
        have hone' := o'.one
        have hst : stV h' 3 (.p (h.next + 1 + 1) 0) (.agg (frc G w')) = some (h'.put (h.next + 1 + 1) (.cells (frc G w'))) := st_whole g2' rfl rfl (frc_one hone'.2)
        have o2' := o'.keepN ((ExtX.refl (· = h.next + 1 + 1) h').put (.inr rfl) (.cells (frc G w'))) (own_ne o' g2' (fun k n z => by cases z))
        simp only [go_sem, ↓reduceIte, r72_17, tl, t9, t10, l9, hst]
        rw [rescell (k := 3) (b := h.next + 1 + 1) (cs := frc G w') (by simp only [go_sem, ↓reduceIte, tl, t10]) (by rw [H.get_put, if_pos rfl]) (cut_all rfl)]
        simp only [go_sem, ↓reduceIte]
        rw [srchF, ← hG]
        exact ⟨e'.put (by omega) _, hq', w', rfl, o2'⟩
    · refine ⟨0, F, w, hq, by omega, by omega, ?_⟩
      simp only [go_sem, ↓reduceIte, List.take_zero]
      exact ⟨e0, Nat.le_refl _, g0, g1, g2, owB, rfl⟩
end Go.Air
set_option maxRecDepth 100000
namespace Go.Air
open Go.Air.Try
def PlanR (h : H) (p : V) (P : PlanS) : Prop := ∃ ov tv, p = .agg [ov, .i .i64 P.off, tv] ∧ Ints h ov P.order ∧ TB h tv P.tabs
theorem PlanR.ext {h h' : H} {p : V} {P : PlanS} (r : PlanR h p P) (e : Ext h h') : PlanR h' p P := by
  obtain ⟨ov, tv, q, o, t⟩ := r
  exact ⟨ov, tv, q, o.ext e, t.ext e⟩
theorem PlanO.rd {h0 h : H} {p : V} {P : PlanS} (r : PlanO h0 h p P) : PlanR h p P := by
  obtain ⟨ov, tv, q, o, t⟩ := r
  exact ⟨ov, tv, q, o.ints, TBx.rd t⟩
theorem TB.len {h : H} {v : V} {tb : List (List Int × List Int)} (r : TB h v tb) : lenV v = some tb.length := let ⟨_, s, _⟩ := r; s.len
theorem TB.ix {h : H} {v : V} {tb : List (List Int × List Int)} (r : TB h v tb) {i : Nat} (hi : i < tb.length) : ixV 2 v (.i .i64 (i : Int)) = some (.p (blkV v) (offV v + i * 2)) := let ⟨_, s, _⟩ := r; s.ix hi
theorem TB.one {h : H} {v : V} {tb : List (List Int × List Int)} (r : TB h v tb) : v.cells = [v] ∧ v.oneCell = true := by
  obtain ⟨cs, s, _⟩ := r
  rcases s with ⟨_, _, rfl | ⟨a, rfl⟩⟩ | ⟨b, off, cap, g, bl, rfl, _⟩ <;> exact ⟨rfl, rfl⟩
theorem TB.at {h : H} {v : V} {tb : List (List Int × List Int)} (r : TB h v tb) {i : Nat} {g vals : List Int} (hx : tb[i]? = some (g, vals)) : ∃ c1 c2, ldnV h 2 (.p (blkV v) (offV v + i * 2)) = some (.agg [c1, c2]) ∧ ldV h (.p (blkV v) (offV v + i * 2 + 1)) = some c2 ∧ Ints h c1 g ∧ Ints h c2 vals := by
  obtain ⟨cs, s, hc⟩ := r
  obtain ⟨c1, c2, q1, q2, q3, q4⟩ := hc i g vals hx
  have hi := (List.getElem?_eq_some_iff.1 hx).1
  refine ⟨c1, c2, ?_, by rw [s.ld hi (by omega), q2], q3, q4⟩
  rw [s.ldn hi]
  congr 2
  have hl := s.length
  apply List.ext_getElem?
  intro k
  by_cases hk : k < 2
  · rw [List.getElem?_take_of_lt hk, List.getElem?_drop]
    rcases Nat.lt_or_ge k 1 with z | z
    · obtain rfl : k = 0 := by omega
      simpa using q1
    · obtain rfl : k = 1 := by omega
      simpa using q2
  · rw [List.getElem?_eq_none (by simp; omega), List.getElem?_eq_none (by simp; omega)]
end Go.Air
set_option maxRecDepth 100000
namespace Go.Air
open Go.Air.Try
def fill23 (z x y : V) : Option (List V) := if Nat.beq x.cells.length 1 && Nat.beq y.cells.length 1 then some (x.cells ++ y.cells ++ [z]) else none
@[go_sem] theorem fill_23 {t : List V} {z0 z1 z2 : V} {x y : X} : fill t [z0, z1, z2] [(0, 1, x), (1, 1, y)] = fill23 z2 (x.ev t) (y.ev t) := by
  simp only [fill, fill23]
  by_cases hl : Nat.beq (x.ev t).cells.length 1 = true
  · rw [if_pos hl]
    obtain ⟨u, hc⟩ : ∃ u, (x.ev t).cells = [u] := by
      rw [Nat.beq_eq] at hl
      exact List.length_eq_one_iff.1 hl
    simp only [hc, lay, Option.map_some]
    by_cases hl2 : Nat.beq (y.ev t).cells.length 1 = true
    · obtain ⟨u2, hc2⟩ : ∃ u, (y.ev t).cells = [u] := by
        rw [Nat.beq_eq] at hl2
        exact List.length_eq_one_iff.1 hl2
      simp [hc2, lay]
    · simp [hl2]
  · simp [hl]
theorem fill23_of {z x y : V} (hx : x.cells = [x]) (hy : y.cells = [y]) : fill23 z x y = some [x, y, z] := by simp [fill23, hx, hy]
theorem frZ {h : H} : FRo h (.agg [.b false, .i .i64 0, .sn]) ⟨false, 0, []⟩ := ⟨h, .sn, rfl, .nil⟩
theorem TB.at2 {h : H} {v : V} {tb : List (List Int × List Int)} (r : TB h v tb) {i : Nat} {g vals : List Int} (hx : tb[i]? = some (g, vals)) : ∃ c1 c2, ldV h (.p (blkV v) (offV v + i * 2 + 0)) = some c1 ∧ ldV h (.p (blkV v) (offV v + i * 2 + 1)) = some c2 ∧ Ints h c1 g ∧ Ints h c2 vals := by
  obtain ⟨cs, s, hc⟩ := r
  obtain ⟨c1, c2, q1, q2, q3, q4⟩ := hc i g vals hx
  have hi := (List.getElem?_eq_some_iff.1 hx).1
  have z := s.ld (k := 0) hi (by omega)
  exact ⟨c1, c2, by rw [z]; exact q1, by rw [s.ld hi (by omega), q2], q3, q4⟩
theorem t25 : tblA 25 = some a25 := by kernel_rfl
theorem fn_SamePlan {h : H} {p q : V} {P : PlanS} (hp : PlanR h p P) (hq : PlanR h q P) (ho : P.order.length ≤ 1000000) (ht : P.tabs.length ≤ 1000000) (hb : ∀ x ∈ P.tabs, x.1.length ≤ 1000000 ∧ x.2.length ≤ 1000000) :
    WC tblA (.fn 25 [] []) [p, q] h fun u h' => Ext h h' ∧ u = .b true := by
  refine (WC_in t25).2 ?_
  obtain ⟨ov, tv, rfl, hov, htv⟩ := hp
  obtain ⟨ow, tw, rfl, how, htw⟩ := hq
  simp only [go_sem, ↓reduceIte, r25_0, H.next_new]
  have e0 : Ext h ((h.new (.cells [ov, .i .i64 P.off, tv])).new (.cells [ow, .i .i64 P.off, tw])) := ((Ext.refl h).new _).new _
  have g0 : ((h.new (.cells [ov, .i .i64 P.off, tv])).new (.cells [ow, .i .i64 P.off, tw])).get h.next = some (.cells [ov, .i .i64 P.off, tv]) := by rw [get_new_lt (by simp), get_new_eq rfl]
  have g1 : ((h.new (.cells [ov, .i .i64 P.off, tv])).new (.cells [ow, .i .i64 P.off, tw])).get (h.next + 1) = some (.cells [ow, .i .i64 P.off, tw]) := by rw [get_new_eq (by simp)]
  generalize ((h.new (.cells [ov, .i .i64 P.off, tv])).new (.cells [ow, .i .i64 P.off, tw])) = hB at *
  have a0 : ldV hB (.p h.next 0) = some ov := blk_ld g0 rfl
  have a1 : ldV hB (.p h.next 1) = some (.i .i64 P.off) := blk_ld g0 rfl
  have a2 : ldV hB (.p h.next 2) = some tv := blk_ld g0 rfl
  have b0 : ldV hB (.p (h.next + 1) 0) = some ow := blk_ld g1 rfl
  have b1 : ldV hB (.p (h.next + 1) 1) = some (.i .i64 P.off) := blk_ld g1 rfl
  have b2 : ldV hB (.p (h.next + 1) 2) = some tw := blk_ld g1 rfl
  have htv' := htv.ext e0
  have htw' := htw.ext e0
  simp only [go_sem, ↓reduceIte, r25_1, a0, b0]
  refine (fn_SameInts (hov.ext e0) (how.ext e0) ho).mono ?_
  rintro _ h' ⟨rfl, hh⟩
  obtain rfl : hB = h' := hh.symm
  clear hh
  simp only [go_sem, ↓reduceIte, r25_2, r25_4, a1, a2, b1, b2, htv'.len, htw'.len]
  refine W_while (fun k t h' => ∃ (i : Nat), k = P.tabs.length - i ∧ i ≤ P.tabs.length ∧ t.length = 71 ∧ nth t 2 = .p h.next 0 ∧ nth t 3 = .p (h.next + 1) 0 ∧ nth t 6 = .i .i64 (i : Int) ∧ hB = h') ?_ P.tabs.length ?_
  · rintro k t _ ⟨i, rfl, hi, tl, t2, t3, t6, rfl⟩
    unfold b25_0
    by_cases hlt : i < P.tabs.length
    · have hltI : (i : Int) < (P.tabs.length : Int) := by omega
      obtain ⟨⟨g, vals⟩, hx⟩ : ∃ c, P.tabs[i]? = some c := ⟨_, List.getElem?_eq_getElem hlt⟩
      obtain ⟨hl1, hl2⟩ := hb _ (List.mem_of_getElem? hx)
      obtain ⟨c1, c2, q1, q2, q3, q4⟩ := htv'.at2 hx
      obtain ⟨d1, d2, z1, z2, z3, z4⟩ := htw'.at2 hx
      simp only [go_sem, ↓reduceIte, r25_5, r25_7, tl, t2, t3, t6, a2, b2, htv'.len, hltI, htv'.ix hlt, htw'.ix hlt, q1, z1]
      refine (fn_SameInts (h := hB.bare) (Sl.bare q3) (Sl.bare z3) hl1).mono ?_
      rintro _ _ ⟨rfl, rfl⟩
      simp only [go_sem, ↓reduceIte, r25_8, tl, t2, t3, t6, a2, b2, htv'.ix hlt, htw'.ix hlt, q2, z2]
      refine (fn_SameInts (h := hB.bare) (Sl.bare q4) (Sl.bare z4) hl2).mono ?_
      rintro _ _ ⟨rfl, rfl⟩
      simp only [go_sem, ↓reduceIte, r25_9, r25_6, tl, t2, t3, t6, wrap_succ (show i < 1000000000 by omega)]
      exact ⟨P.tabs.length - (i + 1), by omega, i + 1, rfl, hlt, rfl⟩
    · have hltI : ¬ (i : Int) < (P.tabs.length : Int) := by omega
      simp only [go_sem, ↓reduceIte, r25_5, r25_11, tl, t2, t3, t6, a2, htv'.len, hltI]
      exact e0
  · refine ⟨0, by omega, by omega, ?_⟩
    simp only [go_sem, ↓reduceIte]
theorem st_plan {h : H} {p : V} {P : PlanS} (hp : PlanR h p P) : ∃ c h2, p = .agg c ∧ c.length = 3 ∧ stV (h.new (.cells [.sn, .i .i64 0, .sn])) 3 (.p h.next 0) (.agg c) = some h2 ∧ Ext h h2 ∧ h2.get h.next = some (.cells c) ∧ h2.next = h.next + 1 := by
  obtain ⟨ov, tv, rfl, hov, htv⟩ := hp
  have h1 := htv.one
  have h2 := hov.one
  obtain ⟨h7, p1, p2, p3, p4⟩ := st_newK h [.sn, .i .i64 0, .sn] [ov, .i .i64 P.off, tv] rfl (by
    intro u hu
    simp at hu
    rcases hu with rfl | rfl | rfl
    · exact h2.2
    · rfl
    · exact h1.2)
  exact ⟨_, h7, rfl, rfl, p1, p2, p3, p4⟩
end Go.Air
set_option maxRecDepth 100000
namespace Go.Air
open Go.Air.Try
noncomputable def spareE (N : Int) (rs : List Arw) (g : Int) : Int := if checkS N rs ≠ 0 then checkS N rs else if g < 0 ∨ N ≤ g then 1 else circE (circR N rs)
noncomputable def spareP (N : Int) (rs : List Arw) (g : Int) : PlanS := if spareE N rs g = 0 then ⟨firstS rs g N.toNat (circR N rs), leftS rs g allT (circR N rs), []⟩ else ⟨[], 0, []⟩
def zP : List V := [.sn, .i .i64 0, .sn]
theorem stP0 {h : H} {b : Nat} (g : h.get b = some (.cells zP)) : stV h 3 (.p b 0) (.agg zP) = some (h.put b (.cells zP)) := st_whole g rfl rfl (by
  intro u hu
  simp [zP] at hu
  rcases hu with rfl | rfl | rfl <;> rfl)
theorem stP1 {h : H} {b : Nat} {ov : V} {x : Int} (g : h.get b = some (.cells zP)) (ho : ov.oneCell = true) : stV h 3 (.p b 0) (.agg [ov, .i .i64 x, .sn]) = some (h.put b (.cells [ov, .i .i64 x, .sn])) := st_whole g rfl rfl (by
  intro u hu
  simp at hu
  rcases hu with rfl | rfl | rfl
  · exact ho
  · rfl
  · rfl)
theorem sn_noti : ∀ k n, (V.sn) ≠ .i k n := fun k n q => by cases q
theorem t26 : tblA 26 = some a26 := by kernel_rfl
set_option maxHeartbeats 400000 in
theorem fn_Spared {h : H} {N g : Int} {v : V} {rs : List Arw} (hr : Arrs h v rs) (hrn : rs.length ≤ 1000000) : WC tblA (.fn 26 [] []) [.agg [.i .i64 N, v], .i .i64 g] h fun u h' => Ext h h' ∧ ∃ p, u = .tup [p, .i .i64 (spareE N rs g)] ∧ PlanO h h' p (spareP N rs g) := by
  refine (WC_in t26).2 ?_
  simp only [go_sem, ↓reduceIte, r26_0, H.next_new]
  have e0 : Ext h ((h.new (.cells [.i .i64 N, v])).new (.cells zP)) := ((Ext.refl h).new _).new _
  have g0 : ((h.new (.cells [.i .i64 N, v])).new (.cells zP)).get h.next = some (.cells [.i .i64 N, v]) := by rw [get_new_lt (by simp), get_new_eq rfl]
  have g2 : ((h.new (.cells [.i .i64 N, v])).new (.cells zP)).get (h.next + 1) = some (.cells zP) := by rw [get_new_eq (by simp)]
  have n0 : ((h.new (.cells [.i .i64 N, v])).new (.cells zP)).next = h.next + 1 + 1 := by simp
  rw [show ([.sn, .i .i64 0, .sn] : List V) = zP from rfl]
  generalize ((h.new (.cells [.i .i64 N, v])).new (.cells zP)) = h0 at *
  have hr0 := hr.ext e0
  have l0 : ∀ {h'}, Ext h0 h' → ldnV h' 2 (.p h.next 0) = some (.agg [.i .i64 N, v]) := fun e => blk_ldn (e.get (by omega) g0) rfl
  have l1 : ∀ {h'}, Ext h0 h' → ldV h' (.p h.next 0) = some (.i .i64 N) := fun e => blk_ld (e.get (by omega) g0) rfl
  have bad : ∀ (h' : H) (e : Int) (t : List V), Ext h0 h' → spareE N rs g = e → e ≠ 0 → nth t 4 = .p (h.next + 1) 0 → nth t 5 = .i .i64 e → resOk (resultsOf t (h'.put (h.next + 1) (.cells zP)) [.cell 4 (some 3), .tmp 5]) (h'.put (h.next + 1) (.cells zP)) fun u h' => Ext h h' ∧ ∃ p, u = .tup [p, .i .i64 (spareE N rs g)] ∧ PlanO h h' p (spareP N rs g) := by
    intro h' e t e' he hne t4 t5
    rw [res_pair (k := 3) (r := zP) (b := h.next + 1) (cs := zP) t4 (by rw [H.get_put, if_pos rfl]) (cut_all rfl)]
    simp only [go_sem, ↓reduceIte, t5]
    have hp : spareP N rs g = ⟨[], 0, []⟩ := by rw [spareP, if_neg (by rw [he]; exact hne)]
    rw [he, hp]
    exact ⟨(e0.trans e').put (by omega) _, _, rfl, .none⟩
  simp only [go_sem, ↓reduceIte, r26_1, l0 (.refl _)]
  refine (fn_Check hr0 hrn).mono ?_
  rintro _ h1 ⟨e1, rfl⟩
  have n1 := e1.nx
  have g21 := e1.get (by omega) g2
  by_cases hc : checkS N rs = 0
  case neg =>
    simp only [go_sem, ↓reduceIte, r26_2, r26_3, hc]
    rw [show ([.sn, .i .i64 0, .sn] : List V) = zP from rfl, stP0 g21]
    simp only [go_sem, ↓reduceIte]
    exact bad h1 _ _ e1 (by rw [spareE, if_pos hc]) hc (by simp only [go_sem, ↓reduceIte]) (by simp only [go_sem, ↓reduceIte])
  by_cases c1 : g < 0
  · simp only [go_sem, ↓reduceIte, r26_2, r26_4, r26_5, hc, c1]
    rw [show ([.sn, .i .i64 0, .sn] : List V) = zP from rfl, stP0 g21]
    simp only [go_sem, ↓reduceIte]
    have hE : spareE N rs g = 1 := by rw [spareE, if_neg (by simp [hc]), if_pos (.inl c1)]
    have bb := fun t => bad h1 1 t e1 hE (by omega)
    refine bb _ ?_ ?_
    · simp only [go_sem, ↓reduceIte]
    · simp only [go_sem, ↓reduceIte]
  by_cases c2 : N ≤ g
  · simp only [go_sem, ↓reduceIte, r26_2, r26_4, r26_5, hc, c1, c2, l1 e1]
    rw [show ([.sn, .i .i64 0, .sn] : List V) = zP from rfl, stP0 g21]
    simp only [go_sem, ↓reduceIte]
    have hE : spareE N rs g = 1 := by rw [spareE, if_neg (by simp [hc]), if_pos (.inr c2)]
    have bb := fun t => bad h1 1 t e1 hE (by omega)
    refine bb _ ?_ ?_
    · simp only [go_sem, ↓reduceIte]
    · simp only [go_sem, ↓reduceIte]
  have hse : spareE N rs g = circE (circR N rs) := by rw [spareE, if_neg (by simp [hc]), if_neg (by omega)]
  obtain ⟨n, rfl, hn, gr⟩ := check_ok hc
  have hw : Wok rs := wok_of gr.1
  simp only [go_sem, ↓reduceIte, r26_2, r26_4, r26_6, hc, c1, c2, l1 e1, l0 e1]
  refine (fn_circles (hr0.ext e1) hrn).mono ?_
  rintro _ h2 ⟨e2, cw, rfl, hLL⟩
  have e02 := e1.trans e2
  have g22 := e2.get (by omega) g21
  by_cases hce : circE (circR (n : Int) rs) = 0
  case neg =>
    simp only [go_sem, ↓reduceIte, r26_7, r26_8, hce]
    rw [show ([.sn, .i .i64 0, .sn] : List V) = zP from rfl, stP0 g22]
    simp only [go_sem, ↓reduceIte]
    have bb := fun t => bad h2 _ t e02 hse hce
    refine bb _ ?_ ?_
    · simp only [go_sem, ↓reduceIte]
    · simp only [go_sem, ↓reduceIte]
  clear bad
  have hsp : spareP (n : Int) rs g = ⟨firstS rs g n (circR (n : Int) rs), leftS rs g allT (circR (n : Int) rs), []⟩ := by rw [spareP, if_pos (by rw [hse]; exact hce)]; simp
  rw [hse, hsp, hce]
  have ok := circ_ok hce
  have sc := hLL hce
  have hxl := (circR_len (N := (n : Int)) (rs := rs)).1
  clear hLL hse hsp
  generalize circR (n : Int) rs = xss at *
  simp only [go_sem, ↓reduceIte, r26_7, r26_9, hce, l0 e02]
  refine (fn_begin (hr0.ext e02) hrn gr hn sc ok hxl).mono ?_
  rintro _ h6 ⟨e6, sb, vv, rfl, hsb, s6, r6⟩
  simp only [go_sem, ↓reduceIte]
  refine (fn_first s6 ok hn hxl hw).mono ?_
  rintro _ h8 ⟨e8, ov, rfl, o8⟩
  have e08 := e02.trans (e6.trans e8)
  have g28 := e08.get (by omega) g2
  have hov := o8.one
  simp only [go_sem, ↓reduceIte, r26_10, fill23_of (z := .sn) (y := .i .i64 (leftS rs g allT xss)) hov.1 rfl, stP1 g28 hov.2]
  rw [res_pair (k := 3) (r := [ov, .i .i64 (leftS rs g allT xss), .sn]) (b := h.next + 1) (cs := [ov, .i .i64 (leftS rs g allT xss), .sn]) (by simp only [go_sem, ↓reduceIte]) (by rw [H.get_put, if_pos rfl]) (cut_all rfl)]
  simp only [go_sem, ↓reduceIte]
  refine ⟨(e0.trans e08).put (by omega) _, _, rfl, ov, .sn, rfl, ?_, TBx.nil⟩
  exact (o8.mono (h0 := h) (by have := (e0.trans (e02.trans e6)).nx; omega)).keepN ((ExtX.refl (· = h.next + 1) h8).put (.inr rfl) _) (own_ne o8 g28 sn_noti)
def s27_9a : List O := [⟨some 29, none, .ldn 2 (.t 2)⟩, ⟨some 30, none, .ldn 2 (.t 2)⟩, ⟨some 31, none, .call (.f 73) [(.t 30)]⟩]
def s27_9b : List O := [⟨some 32, none, .mov (.t 1)⟩, ⟨some 33, none, .build [.b false, .i .i64 0, .sn] []⟩, ⟨some 34, none, .call (.f 72) [(.t 29), (.t 31), (.c (.sn)), (.t 32), (.t 33)]⟩, ⟨some 7, none, .alloc [.b false, .i .i64 0, .sn]⟩, ⟨none, none, .st 3 (.t 7) (.t 34)⟩]
theorem r27_9_eq : r27_9 = s27_9a ++ s27_9b := rfl
theorem t27 : tblA 27 = some a27 := by kernel_rfl
theorem fn_refSpared {h : H} {N g : Int} {v : V} {rs : List Arw} (hr : Arrs h v rs) (hrn : rs.length ≤ 1000000) : WC tblA (.fn 27 [] []) [.agg [.i .i64 N, v], .i .i64 g] h fun u h' => Ext h h' ∧ ∃ p, u = .tup [p, .i .i64 (spareE N rs g)] ∧ PlanR h' p (spareP N rs g) := by
  refine (WC_in t27).2 ?_
  simp only [go_sem, ↓reduceIte, r27_0, H.next_new]
  have e0 : Ext h ((h.new (.cells [.i .i64 N, v])).new (.cells zP)) := ((Ext.refl h).new _).new _
  have g0 : ((h.new (.cells [.i .i64 N, v])).new (.cells zP)).get h.next = some (.cells [.i .i64 N, v]) := by rw [get_new_lt (by simp), get_new_eq rfl]
  have g2 : ((h.new (.cells [.i .i64 N, v])).new (.cells zP)).get (h.next + 1) = some (.cells zP) := by rw [get_new_eq (by simp)]
  have n0 : ((h.new (.cells [.i .i64 N, v])).new (.cells zP)).next = h.next + 1 + 1 := by simp
  rw [show ([.sn, .i .i64 0, .sn] : List V) = zP from rfl]
  generalize ((h.new (.cells [.i .i64 N, v])).new (.cells zP)) = h0 at *
  have hr0 := hr.ext e0
  have l0 : ∀ {h'}, Ext h0 h' → ldnV h' 2 (.p h.next 0) = some (.agg [.i .i64 N, v]) := fun e => blk_ldn (e.get (by omega) g0) rfl
  have l1 : ∀ {h'}, Ext h0 h' → ldV h' (.p h.next 0) = some (.i .i64 N) := fun e => blk_ld (e.get (by omega) g0) rfl
  have bad : ∀ (h' : H) (e : Int) (t : List V), Ext h0 h' → spareE N rs g = e → e ≠ 0 → nth t 4 = .p (h.next + 1) 0 → nth t 5 = .i .i64 e → resOk (resultsOf t (h'.put (h.next + 1) (.cells zP)) [.cell 4 (some 3), .tmp 5]) (h'.put (h.next + 1) (.cells zP)) fun u h' => Ext h h' ∧ ∃ p, u = .tup [p, .i .i64 (spareE N rs g)] ∧ PlanR h' p (spareP N rs g) := by
    intro h' e t e' he hne t4 t5
    rw [res_pair (k := 3) (r := zP) (b := h.next + 1) (cs := zP) t4 (by rw [H.get_put, if_pos rfl]) (cut_all rfl)]
    simp only [go_sem, ↓reduceIte, t5]
    have hp : spareP N rs g = ⟨[], 0, []⟩ := by rw [spareP, if_neg (by rw [he]; exact hne)]
    rw [he, hp]
    exact ⟨(e0.trans e').put (by omega) _, _, rfl, PlanO.none (h0 := h) |>.rd⟩
  simp only [go_sem, ↓reduceIte, r27_1, l0 (.refl _)]
  refine (fn_refCheck hr0 hrn).mono ?_
  rintro _ h1 ⟨e1, rfl⟩
  have n1 := e1.nx
  have g21 := e1.get (by omega) g2
  by_cases hc : checkS N rs = 0
  case neg =>
    simp only [go_sem, ↓reduceIte, r27_2, r27_3, hc]
    rw [show ([.sn, .i .i64 0, .sn] : List V) = zP from rfl, stP0 g21]
    simp only [go_sem, ↓reduceIte]
    have bb := fun t => bad h1 _ t e1 (by rw [spareE, if_pos hc]) hc
    refine bb _ ?_ ?_
    · simp only [go_sem, ↓reduceIte]
    · simp only [go_sem, ↓reduceIte]
  by_cases c1 : g < 0
  · simp only [go_sem, ↓reduceIte, r27_2, r27_4, r27_5, hc, c1]
    rw [show ([.sn, .i .i64 0, .sn] : List V) = zP from rfl, stP0 g21]
    simp only [go_sem, ↓reduceIte]
    have hE : spareE N rs g = 1 := by rw [spareE, if_neg (by simp [hc]), if_pos (.inl c1)]
    have bb := fun t => bad h1 1 t e1 hE (by omega)
    refine bb _ ?_ ?_
    · simp only [go_sem, ↓reduceIte]
    · simp only [go_sem, ↓reduceIte]
  by_cases c2 : N ≤ g
  · simp only [go_sem, ↓reduceIte, r27_2, r27_4, r27_5, hc, c1, c2, l1 e1]
    rw [show ([.sn, .i .i64 0, .sn] : List V) = zP from rfl, stP0 g21]
    simp only [go_sem, ↓reduceIte]
    have hE : spareE N rs g = 1 := by rw [spareE, if_neg (by simp [hc]), if_pos (.inr c2)]
    have bb := fun t => bad h1 1 t e1 hE (by omega)
    refine bb _ ?_ ?_
    · simp only [go_sem, ↓reduceIte]
    · simp only [go_sem, ↓reduceIte]
  have hse : spareE N rs g = circledS N rs := by rw [spareE, if_neg (by simp [hc]), if_neg (by omega), circledS, if_neg (by simp [hc])]
  simp only [go_sem, ↓reduceIte, r27_2, r27_4, r27_6, hc, c1, c2, l1 e1, l0 e1]
  refine (fn_circled (hr0.ext e1) hrn).mono ?_
  rintro _ h2 ⟨e2, rfl⟩
  have e02 := e1.trans e2
  have g22 := e2.get (by omega) g21
  by_cases hce : circledS N rs = 0
  case neg =>
    simp only [go_sem, ↓reduceIte, r27_7, r27_8, hce]
    rw [show ([.sn, .i .i64 0, .sn] : List V) = zP from rfl, stP0 g22]
    simp only [go_sem, ↓reduceIte]
    have bb := fun t => bad h2 _ t e02 hse hce
    refine bb _ ?_ ?_
    · simp only [go_sem, ↓reduceIte]
    · simp only [go_sem, ↓reduceIte]
  clear bad
  obtain ⟨n, rfl, gc⟩ := goodC_of hce
  have gr := gc.gr
  have hn := gc.n24
  have hsr := srch_all (sp := g) gc
  have hsp : spareP (n : Int) rs g = ⟨firstS rs g n (circR (n : Int) rs), leftS rs g allT (circR (n : Int) rs), []⟩ := by rw [spareP, if_pos (by rw [hse]; exact hce)]; simp
  simp only [go_sem, ↓reduceIte, r27_7, hce]
  rw [hse, hsp, hce, r27_9_eq]
  apply W_crit (by simp [s27_9a])
  simp only [go_sem, ↓reduceIte, s27_9a, l0 e02]
  refine (fn_all (h := h2.bare) (n := n) hn).mono ?_
  rintro gv h3 ⟨e3, o3⟩
  have hold := e3.old
  have o3' : Own h2 1 (h2.back h3) gv (setL n allT).length (ints (setL n allT)) := o3
  replace e3 := e3.back
  simp only [go_sem, ↓reduceIte, hold, s27_9b]
  generalize h2.back h3 = h4 at *
  refine (fn_search (sp := g) gr hn hrn n h4.bare v gv .sn _ [] ⟨false, 0, []⟩ (Sl.bare ((hr0.ext e02).ext e3)) (Sl.bare o3'.ints) (show Ints h4.bare .sn [] from .inl ⟨rfl, rfl, .inl rfl⟩) frZ.bare (by simp) (by simp) (by simp)).mono ?_
  rintro _ h5 ⟨e5, hq, ov, rfl, ow⟩
  rw [hsr] at ow ⊢
  replace e5 := e5.back
  have ow' : Own hq 1 (h4.back h5) ov (firstS rs g n (circR (n : Int) rs)).length (ints (firstS rs g n (circR (n : Int) rs))) := ow
  clear ow hsp hsr hse
  generalize leftS rs g allT (circR (n : Int) rs) = least at *
  generalize firstS rs g n (circR (n : Int) rs) = F at *
  simp only [go_sem, ↓reduceIte]
  generalize h4.back h5 = h6 at *
  have hov := ow'.one
  have e06 := e02.trans (e3.trans e5)
  obtain ⟨hb, h7, q1, q2, q3, q4, q5⟩ := st_newB h6 [.b false, .i .i64 0, .sn] [.b true, .i .i64 least, ov] rfl (by
    intro u hu
    simp at hu
    rcases hu with rfl | rfl | rfl
    · rfl
    · rfl
    · exact hov.2)
  have q1' : stV (h6.new (.cells [.b false, .i .i64 0, .sn])).bare 3 (.p h6.next 0) (.agg [.b true, .i .i64 least, ov]) = some hb := q1
  have lo : ldV h7 (.p h6.next 2) = some ov := blk_ld q4 rfl
  have lf : ldV h7 (.p h6.next 1) = some (.i .i64 least) := blk_ld q4 rfl
  have e07 := e06.trans q3
  have g27 := e07.get (by omega) g2
  have o7 := ow'.ext q3
  simp only [go_sem, ↓reduceIte, q1', q2, r27_10, lo, lf, fill23_of (z := .sn) (y := .i .i64 least) hov.1 rfl, stP1 g27 hov.2]
  rw [res_pair (k := 3) (r := [ov, .i .i64 least, .sn]) (b := h.next + 1) (cs := [ov, .i .i64 least, .sn]) (by simp only [go_sem, ↓reduceIte]) (by rw [H.get_put, if_pos rfl]) (cut_all rfl)]
  simp only [go_sem, ↓reduceIte]
  refine ⟨(e0.trans e07).put (by omega) _, _, rfl, ov, .sn, rfl, ?_, TBx.rd (hA := h) (hv := h) TBx.nil⟩
  exact (o7.keepN ((ExtX.refl (· = h.next + 1) h7).put (.inr rfl) _) (own_ne o7 g27 sn_noti)).ints
theorem st_planO {h : H} {p : V} {P : PlanS} (hp : PlanR h p P) : ∃ ov tv h2, p = .agg [ov, .i .i64 P.off, tv] ∧ stV (h.new (.cells [.sn, .i .i64 0, .sn])) 3 (.p h.next 0) (.agg [ov, .i .i64 P.off, tv]) = some h2 ∧ Ext h h2 ∧ h2.get h.next = some (.cells [ov, .i .i64 P.off, tv]) ∧ h2.next = h.next + 1 := by
  obtain ⟨ov, tv, rfl, hov, htv⟩ := hp
  have h1 := htv.one
  have h2 := hov.one
  obtain ⟨h7, p1, p2, p3, p4⟩ := st_newK h [.sn, .i .i64 0, .sn] [ov, .i .i64 P.off, tv] rfl (by
    intro u hu
    simp at hu
    rcases hu with rfl | rfl | rfl
    · exact h2.2
    · rfl
    · exact h1.2)
  exact ⟨ov, tv, h7, rfl, p1, p2, p3, p4⟩
noncomputable def mustB (rs : List Arw) (xss : List (List Int)) (x : Nat) : Bool := decide (leftS rs (-1) allT xss < leftS rs (x : Int) allT xss)
noncomputable def mustL (N : Int) (rs : List Arw) : List Int := if circledS N rs = 0 then setL N.toNat (mustB rs (circR N rs)) else []
theorem setL_le (n : Nat) (d : Nat → Bool) : (setL n d).length ≤ n := by
  unfold setL
  rw [List.length_map]
  exact Nat.le_trans (List.length_filter_le _ _) (by simp)
theorem spare_ok {n : Nat} {rs : List Arw} (hc : circledS (n : Int) rs = 0) {x : Nat} (hx : x < n) : spareE (n : Int) rs x = 0 ∧ spareP (n : Int) rs x = ⟨firstS rs x n (circR (n : Int) rs), leftS rs x allT (circR (n : Int) rs), []⟩ := by
  obtain ⟨hck, hce⟩ := circled_ok hc
  have h1 : spareE (n : Int) rs x = 0 := by rw [spareE, if_neg (by simp [hck]), if_neg (by omega)]; exact hce
  refine ⟨h1, ?_⟩
  rw [spareP, if_pos h1]; simp
theorem t28 : tblA 28 = some a28 := by kernel_rfl
theorem fn_Must {h : H} {N : Int} {v : V} {rs : List Arw} (hr : Arrs h v rs) (hrn : rs.length ≤ 1000000) : WC tblA (.fn 28 [] []) [.agg [.i .i64 N, v]] h fun u h' => Ext h h' ∧ ∃ w, u = .tup [w, .i .i64 (circledS N rs)] ∧ Ints h' w (mustL N rs) := by
  refine (WC_in t28).2 ?_
  obtain ⟨e0, g0⟩ := rel_blk h N v
  simp only [go_sem, ↓reduceIte, r28_0]
  have hr0 := hr.ext e0
  have n0 : (h.new (.cells [.i .i64 N, v])).next = h.next + 1 := by simp
  generalize hh : h.new (.cells [.i .i64 N, v]) = h0 at *
  have l0 : ∀ {h'}, Ext h0 h' → ldnV h' 2 (.p h.next 0) = some (.agg [.i .i64 N, v]) := fun e => blk_ldn (e.get (by omega) g0) rfl
  have l1 : ∀ {h'}, Ext h0 h' → ldV h' (.p h.next 0) = some (.i .i64 N) := fun e => blk_ld (e.get (by omega) g0) rfl
  simp only [go_sem, ↓reduceIte, r28_1, l0 (.refl _)]
  refine (fn_Least hr0 hrn).mono ?_
  rintro _ h1 ⟨e1, p, rfl, hp⟩
  obtain ⟨ov, tv, h2, rfl, p1, p2, p3, p4⟩ := st_planO hp.rd
  have e12 := e1.trans p2
  simp only [go_sem, ↓reduceIte, p1]
  by_cases hc : circledS N rs = 0
  case neg =>
    simp only [go_sem, ↓reduceIte, r28_2, r28_3, hc]
    rw [mustL, if_neg hc]
    exact ⟨e0.trans e12, _, rfl, .inl ⟨rfl, rfl, .inl rfl⟩⟩
  obtain ⟨n, rfl, gc⟩ := goodC_of hc
  have hn := gc.n24
  have hlo : (leastP (n : Int) rs).off = leftS rs (-1) allT (circR (n : Int) rs) := by rw [leastP, if_pos hc]
  have hml : mustL (n : Int) rs = setL n (mustB rs (circR (n : Int) rs)) := by rw [mustL, if_pos hc]; simp
  rw [hlo] at p3
  simp only [go_sem, ↓reduceIte, r28_2, r28_4, r28_5, hc, l1 e12]
  rw [hml]
  have hM : ∀ i, i ≤ n → (setL i (mustB rs (circR (n : Int) rs))).length ≤ i := fun i _ => setL_le i _
  have hSt : ∀ i, setL (i + 1) (mustB rs (circR (n : Int) rs)) = setL i (mustB rs (circR (n : Int) rs)) ++ if leftS rs (-1) allT (circR (n : Int) rs) < leftS rs (i : Int) allT (circR (n : Int) rs) then [(i : Int)] else [] := by
    intro i
    rw [setL_succ]
    congr 1
    simp [mustB]
  clear hlo hml
  generalize mustB rs (circR (n : Int) rs) = B at *
  generalize leftS rs (-1) allT (circR (n : Int) rs) = least at *
  refine W_while (fun k t h' => ∃ (i : Nat) (w : V), k = n - i ∧ i ≤ n ∧ t.length = 40 ∧ nth t 1 = .p h.next 0 ∧ nth t 4 = .p h1.next 0 ∧ nth t 6 = w ∧ nth t 19 = .i .i64 (n : Int) ∧ nth t 20 = .i .i64 (i : Int) ∧ Ext h2 h' ∧ Own h2 1 h' w (setL i B).length (ints (setL i B))) ?_ n ?_
  · rintro k t h' ⟨i, w, rfl, hi, tl, t1, t4, t6, t19, t20, e', o'⟩
    unfold b28_0
    by_cases hlt : i < n
    · have hltI : (i : Int) < (n : Int) := by omega
      simp only [go_sem, ↓reduceIte, r28_6, r28_7, r28_8, tl, t1, t4, t6, t19, t20, hltI, l0 (e12.trans e')]
      refine (fn_Spared (g := (i : Int)) (hr0.ext (e12.trans e')) hrn).mono ?_
      obtain ⟨s1, s2⟩ := spare_ok hc hlt
      rw [s1, s2]
      rintro _ h3 ⟨e3, q, rfl, hq⟩
      obtain ⟨ov3, tv3, h4, rfl, q1, q2, q3, q4⟩ := st_planO hq.rd
      have e34 := e3.trans q2
      have la : ldV h4 (.p h3.next 1) = some (.i .i64 (leftS rs (i : Int) allT (circR (n : Int) rs))) := blk_ld q3 rfl
      have lb : ldV h4 (.p h1.next 1) = some (.i .i64 least) := blk_ld ((e'.trans e34).get (by omega) p3) rfl
      have hst := hSt i
      have o4 := o'.ext e34
      by_cases hb : least < leftS rs (i : Int) allT (circR (n : Int) rs)
      · rw [if_pos hb] at hst
        obtain ⟨w', h5, r1, r2, r3⟩ := app_int (i : Int) o4 (e'.trans e34) (by have := hM i hi; omega)
        simp only [go_sem, ↓reduceIte, q1, r28_9, r28_10, r28_11, tl, t1, t4, t6, t19, t20, la, lb, hb, r1, wrap_succ (show i < 1000000000 by omega)]
        refine ⟨n - (i + 1), by omega, i + 1, w', rfl, hlt, rfl, rfl, r2, ?_⟩
        rw [hst, List.length_append]
        exact r3
      · rw [if_neg hb, List.append_nil] at hst
        simp only [go_sem, ↓reduceIte, q1, r28_9, r28_11, tl, t1, t4, t6, t19, t20, la, lb, hb, wrap_succ (show i < 1000000000 by omega)]
        refine ⟨n - (i + 1), by omega, i + 1, w, rfl, hlt, rfl, rfl, e'.trans e34, ?_⟩
        rw [hst]
        exact o4
    · have hltI : ¬ (i : Int) < (n : Int) := by omega
      obtain rfl : i = n := by omega
      simp only [go_sem, ↓reduceIte, r28_6, r28_12, tl, t1, t4, t6, t19, t20, hltI]
      exact ⟨e0.trans (e12.trans e'), _, rfl, o'.ints⟩
  · refine ⟨0, .sn, by omega, by omega, ?_⟩
    simp only [go_sem, ↓reduceIte]
    exact ⟨.refl _, .nil⟩
end Go.Air
set_option maxRecDepth 100000
namespace Go.Air
open Go.Air.Try
def s29_9a : List O := [⟨some 22, none, .ldn 2 (.t 1)⟩, ⟨some 23, none, .ldn 2 (.t 1)⟩, ⟨some 24, none, .call (.f 73) [(.t 23)]⟩]
def s29_9b : List O := [⟨some 25, none, .mov (.t 7)⟩, ⟨some 26, none, .build [.b false, .i .i64 0, .sn] []⟩, ⟨some 27, none, .call (.f 72) [(.t 22), (.t 24), (.c (.sn)), (.t 25), (.t 26)]⟩, ⟨some 8, none, .alloc [.b false, .i .i64 0, .sn]⟩, ⟨none, none, .st 3 (.t 8) (.t 27)⟩]
theorem r29_9_eq : r29_9 = s29_9a ++ s29_9b := rfl
theorem t29 : tblA 29 = some a29 := by kernel_rfl
theorem fn_refMust {h : H} {N : Int} {v : V} {rs : List Arw} (hr : Arrs h v rs) (hrn : rs.length ≤ 1000000) : WC tblA (.fn 29 [] []) [.agg [.i .i64 N, v]] h fun u h' => Ext h h' ∧ ∃ w, u = .tup [w, .i .i64 (circledS N rs)] ∧ Ints h' w (mustL N rs) := by
  refine (WC_in t29).2 ?_
  obtain ⟨e0, g0⟩ := rel_blk h N v
  simp only [go_sem, ↓reduceIte, r29_0]
  have hr0 := hr.ext e0
  have n0 : (h.new (.cells [.i .i64 N, v])).next = h.next + 1 := by simp
  generalize hh : h.new (.cells [.i .i64 N, v]) = h0 at *
  have l0 : ∀ {h'}, Ext h0 h' → ldnV h' 2 (.p h.next 0) = some (.agg [.i .i64 N, v]) := fun e => blk_ldn (e.get (by omega) g0) rfl
  have l1 : ∀ {h'}, Ext h0 h' → ldV h' (.p h.next 0) = some (.i .i64 N) := fun e => blk_ld (e.get (by omega) g0) rfl
  simp only [go_sem, ↓reduceIte, r29_1, l0 (.refl _)]
  refine (fn_circled hr0 hrn).mono ?_
  rintro _ h1 ⟨e1, rfl⟩
  by_cases hc : circledS N rs = 0
  case neg =>
    simp only [go_sem, ↓reduceIte, r29_2, r29_3, hc]
    rw [mustL, if_neg hc]
    exact ⟨e0.trans e1, _, rfl, .inl ⟨rfl, rfl, .inl rfl⟩⟩
  obtain ⟨n, rfl, gc⟩ := goodC_of hc
  have hn := gc.n24
  have gr := gc.gr
  have hml : mustL (n : Int) rs = setL n (mustB rs (circR (n : Int) rs)) := by rw [mustL, if_pos hc]; simp
  simp only [go_sem, ↓reduceIte, r29_2, r29_4, hc, l0 e1]
  refine (fn_least (hr0.ext e1) hrn gc.ck gc.ce).mono ?_
  rintro _ h2 ⟨e2, rfl⟩
  have e12 := e1.trans e2
  rw [hml]
  simp only [go_sem, ↓reduceIte, r29_5, r29_6]
  have hM : ∀ i, i ≤ n → (setL i (mustB rs (circR (n : Int) rs))).length ≤ i := fun i _ => setL_le i _
  have hSt : ∀ i, setL (i + 1) (mustB rs (circR (n : Int) rs)) = setL i (mustB rs (circR (n : Int) rs)) ++ if leftS rs (-1) allT (circR (n : Int) rs) < leftS rs (i : Int) allT (circR (n : Int) rs) then [(i : Int)] else [] := by
    intro i
    rw [setL_succ]
    congr 1
    simp [mustB]
  clear hml
  generalize mustB rs (circR (n : Int) rs) = B at *
  generalize leftS rs (-1) allT (circR (n : Int) rs) = least at *
  refine W_while (fun k t h' => ∃ (i : Nat) (w : V), k = n - i ∧ i ≤ n ∧ t.length = 37 ∧ nth t 1 = .p h.next 0 ∧ nth t 5 = .i .i64 least ∧ nth t 6 = w ∧ nth t 7 = .i .i64 (i : Int) ∧ Ext h2 h' ∧ Own h2 1 h' w (setL i B).length (ints (setL i B))) ?_ n ?_
  · rintro k t h' ⟨i, w, rfl, hi, tl, t1, t5, t6, t7, e', o'⟩
    unfold b29_0
    have e02 := e12.trans e'
    by_cases hlt : i < n
    · have hltI : (i : Int) < (n : Int) := by omega
      have hsr := srch_all (sp := (i : Int)) gc
      simp only [go_sem, ↓reduceIte, r29_7, tl, t1, t5, t6, t7, l1 e02, hltI]
      rw [r29_9_eq]
      apply W_crit (by simp [s29_9a])
      simp only [go_sem, ↓reduceIte, s29_9a, tl, t1, t5, t6, t7, l0 e02]
      refine (fn_all (h := h'.bare) (n := n) hn).mono ?_
      rintro gv h3 ⟨e3, o3⟩
      have hold := e3.old
      have o3' : Own h' 1 (h'.back h3) gv (setL n allT).length (ints (setL n allT)) := o3
      replace e3 := e3.back
      simp only [go_sem, ↓reduceIte, hold, s29_9b, tl, t7]
      generalize h'.back h3 = h4 at *
      refine (fn_search (sp := (i : Int)) gr hn hrn n h4.bare v gv .sn _ [] ⟨false, 0, []⟩ (Sl.bare ((hr0.ext e02).ext e3)) (Sl.bare o3'.ints) (show Ints h4.bare .sn [] from .inl ⟨rfl, rfl, .inl rfl⟩) frZ.bare (by simp) (by simp) (by simp)).mono ?_
      rintro _ h5 ⟨e5, hq, ov, rfl, ow⟩
      rw [hsr] at ow ⊢
      replace e5 := e5.back
      have hov := ow.one
      clear ow hsr
      simp only [go_sem, ↓reduceIte, tl]
      generalize h4.back h5 = h6 at *
      obtain ⟨hb, h7, q1, q2, q3, q4, q5⟩ := st_newB h6 [.b false, .i .i64 0, .sn] [.b true, .i .i64 (leftS rs (i : Int) allT (circR (n : Int) rs)), ov] rfl (by
        intro u hu
        simp at hu
        rcases hu with rfl | rfl | rfl
        · rfl
        · rfl
        · exact hov.2)
      have q1' : stV (h6.new (.cells [.b false, .i .i64 0, .sn])).bare 3 (.p h6.next 0) (.agg [.b true, .i .i64 (leftS rs (i : Int) allT (circR (n : Int) rs)), ov]) = some hb := q1
      have lf : ldV h7 (.p h6.next 1) = some (.i .i64 (leftS rs (i : Int) allT (circR (n : Int) rs))) := blk_ld q4 rfl
      have e37 := e3.trans (e5.trans q3)
      have hst := hSt i
      have o4 := o'.ext e37
      by_cases hb : least < leftS rs (i : Int) allT (circR (n : Int) rs)
      · rw [if_pos hb] at hst
        obtain ⟨w', h8, r1, r2, r3⟩ := app_int (i : Int) o4 (e'.trans e37) (by have := hM i hi; omega)
        simp only [go_sem, ↓reduceIte, q1', q2, r29_10, r29_11, r29_8, tl, t1, t5, t6, t7, lf, hb, r1, wrap_succ (show i < 1000000000 by omega)]
        refine ⟨n - (i + 1), by omega, i + 1, w', rfl, hlt, rfl, rfl, r2, ?_⟩
        rw [hst, List.length_append]
        exact r3
      · rw [if_neg hb, List.append_nil] at hst
        simp only [go_sem, ↓reduceIte, q1', q2, r29_10, r29_8, tl, t1, t5, t6, t7, lf, hb, wrap_succ (show i < 1000000000 by omega)]
        refine ⟨n - (i + 1), by omega, i + 1, w, rfl, hlt, rfl, rfl, e'.trans e37, ?_⟩
        rw [hst]
        exact o4
    · have hltI : ¬ (i : Int) < (n : Int) := by omega
      obtain rfl : i = n := by omega
      simp only [go_sem, ↓reduceIte, r29_7, r29_12, tl, t1, t5, t6, t7, l1 e02, hltI]
      exact ⟨e0.trans e02, _, rfl, o'.ints⟩
  · refine ⟨0, .sn, by omega, by omega, ?_⟩
    simp only [go_sem, ↓reduceIte]
    exact ⟨.refl _, .nil⟩
theorem spareP_small (N : Int) (rs : List Arw) (g : Int) : (spareP N rs g).order.length ≤ 1000000 ∧ (spareP N rs g).tabs.length ≤ 1000000 ∧ ∀ x ∈ (spareP N rs g).tabs, x.1.length ≤ 1000000 ∧ x.2.length ≤ 1000000 := by
  unfold spareP
  split
  · rename_i hc
    have hck : checkS N rs = 0 := by
      refine Classical.byContradiction fun q => ?_
      rw [spareE, if_pos q] at hc
      exact q hc
    obtain ⟨n, rfl, hn, _⟩ := check_ok hck
    refine ⟨?_, by simp, fun x hx => by simp at hx⟩
    have := firstK_len (rs := rs) (sp := g) (n := n) (xss := circR (n : Int) rs) n allT (leftS rs g allT (circR (n : Int) rs))
    have e : firstS rs g (Int.toNat (n : Int)) (circR (n : Int) rs) = firstK rs g n (circR (n : Int) rs) n allT (leftS rs g allT (circR (n : Int) rs)) := by simp [firstS]
    show (firstS rs g (Int.toNat (n : Int)) (circR (n : Int) rs)).length ≤ 1000000
    rw [e]; omega
  · exact ⟨by simp, by simp, fun x hx => by simp at hx⟩
theorem mustL_len (N : Int) (rs : List Arw) : (mustL N rs).length ≤ 24 := by
  unfold mustL
  split
  · rename_i hc
    obtain ⟨n, rfl, gc⟩ := goodC_of hc
    have := setL_le (Int.toNat (n : Int)) (mustB rs (circR (n : Int) rs))
    have := gc.n24
    omega
  · simp
theorem t4 : tblA 4 = some a4 := by kernel_rfl
theorem law_spares {h : H} {N g : Int} {v : V} {rs : List Arw} (hr : Arrs h v rs) : WC tblA (.fn 4 [] []) [.agg [.i .i64 N, v], .i .i64 g] h fun u h' => u = .b true ∧ Ext h h' := by
  refine (WC_in t4).2 ?_
  obtain ⟨e0, g0⟩ := rel_blk h N v
  simp only [go_sem, ↓reduceIte, r4_0]
  have hr0 := hr.ext e0
  have n0 : (h.new (.cells [.i .i64 N, v])).next = h.next + 1 := by simp
  generalize hh : h.new (.cells [.i .i64 N, v]) = h0 at *
  have l0 : ∀ {h'}, Ext h0 h' → ldnV h' 2 (.p h.next 0) = some (.agg [.i .i64 N, v]) := fun e => blk_ldn (e.get (by omega) g0) rfl
  simp only [go_sem, ↓reduceIte, r4_1, l0 (.refl _)]
  refine (fn_Few hr0 (by omega) (by omega)).mono ?_
  rintro _ h1 ⟨e1, rfl⟩
  by_cases c1 : N ≤ 6 ∧ (rs.length : Int) ≤ 72
  case neg =>
    simp only [go_sem, ↓reduceIte, r4_2, c1]
    exact e0.trans e1
  simp only [go_sem, ↓reduceIte, r4_3, c1, l0 e1]
  refine (fn_Spared (hr0.ext e1) (by omega)).mono ?_
  rintro _ h2 ⟨e2, p, rfl, hp⟩
  have hp := hp.rd
  obtain ⟨c, h3, rfl, hcl, p1, p2, p3, p4⟩ := st_plan hp
  have e13 := e1.trans (e2.trans p2)
  simp only [go_sem, ↓reduceIte, p1, r4_4, l0 e13]
  refine (fn_refSpared (hr0.ext e13) (by omega)).mono ?_
  rintro _ h4 ⟨e4, q, rfl, hq⟩
  obtain ⟨d, h5, rfl, hdl, q1, q2, q3, q4⟩ := st_plan hq
  have e35 := e4.trans q2
  have e15 := e13.trans e35
  simp only [go_sem, ↓reduceIte, q1, r4_5, l0 e15]
  refine (fn_Must (hr0.ext e15) (by omega)).mono ?_
  rintro _ h6 ⟨e6, w, rfl, hw⟩
  have e16 := e15.trans e6
  simp only [go_sem, ↓reduceIte, r4_6, l0 e16]
  refine (fn_refMust (hr0.ext e16) (by omega)).mono ?_
  rintro _ h7 ⟨e7, w', rfl, hw'⟩
  have e57 := e6.trans e7
  have e37 := e35.trans e57
  have lc : ldnV h7 3 (.p h2.next 0) = some (.agg c) := blk_ldn (e37.get (by omega) p3) hcl
  have ld' : ldnV h7 3 (.p h4.next 0) = some (.agg d) := blk_ldn (e57.get (by omega) q3) hdl
  simp only [go_sem, ↓reduceIte, r4_7, lc, ld']
  obtain ⟨s1, s2, s3⟩ := spareP_small N rs g
  refine (fn_SamePlan (hp.ext (p2.trans e37)) (hq.ext (q2.trans e57)) s1 s2 s3).mono ?_
  rintro _ h8 ⟨e8, rfl⟩
  simp only [go_sem, ↓reduceIte]
  refine (fn_SameInts (hw.ext (e7.trans e8)) (hw'.ext e8) (by have := mustL_len N rs; omega)).mono ?_
  rintro _ h9 ⟨rfl, hh9⟩
  obtain rfl : h8 = h9 := hh9.symm
  simp only [go_sem, ↓reduceIte]
  exact e0.trans (e16.trans (e7.trans e8))
end Go.Air
set_option maxRecDepth 100000
namespace Go.Air
open Go.ChangeShapes Go.WideShapes Go.ChangeAt Go.RowKit
def absV (n : Nat) : Value → Option V
  | .int k i => some (.i k i)
  | .bool b => some (.b b)
  | .slice none 0 0 => some .sn
  | .slice (some ⟨b, o, none⟩) l c => if b < n ∧ l ≤ c ∧ 0 < c then some (.sl b o l c none) else if l = 0 ∧ c = 0 then some (.se ⟨b, o, none⟩) else none
  | .slice (some ⟨b, o, some s⟩) l c => if l = 0 ∧ c = 0 then some (.se ⟨b, o, some s⟩) else none
  | _ => none
def R0 (w : World) : Emb := fun b => if b < w.heap.size then some (b, 0) else none
theorem absV_conc {w : World} {v : Value} {u : V} (h : absV w.heap.size v = some u) : conc (R0 w) u = some v := by
  unfold absV at h
  split at h
  · cases h; simp [conc]
  · cases h; simp [conc]
  · cases h; simp [conc]
  · split at h
    · rename_i hc
      cases h
      simp [conc, R0, hc.1]
    · split at h <;> try cases h
      rename_i hc
      obtain ⟨rfl, rfl⟩ := hc
      simp [conc]
  · split at h <;> try cases h
    rename_i hc
    obtain ⟨rfl, rfl⟩ := hc
    simp [conc]
  · cases h
def mkT (f : Nat → Option Blk) : Nat → T Blk
  | 0 => .e
  | n + 1 => (mkT f n).set n (f n)
theorem mkT_get (f : Nat → Option Blk) : ∀ (n b : Nat), (mkT f n).get b = if b < n then f b else none
  | 0, b => by cases b <;> simp [mkT, T.get]
  | n + 1, b => by
    simp only [mkT, T.get_set, mkT_get f n b]
    by_cases h : b = n
    · subst h; simp
    · simp only [if_neg h]
      by_cases h2 : b < n
      · rw [if_pos h2, if_pos (by omega)]
      · rw [if_neg h2, if_neg (by omega)]
def roOf (n : Nat) : Option Obj → Option Blk
  | some (.cells arr _ _) => some (.ro (arr.toList.map (absV n)))
  | _ => none
def h0 (w : World) : H := ⟨w.heap.size, mkT (fun b => roOf w.heap.size w.heap[b]?) w.heap.size, []⟩
theorem h0_get (w : World) (b : Nat) : (h0 w).get b = if b < w.heap.size then roOf w.heap.size w.heap[b]? else none := mkT_get _ _ _
theorem h0_sim (P : Program) (w : World) : Sim P allB (R0 w) (h0 w).get w := by
  refine ⟨?_, ?_, ?_⟩
  · intro b c sz x _ hb hx
    simp only [R0] at hb
    split at hb <;> simp only [Option.some.injEq, Prod.mk.injEq, reduceCtorEq] at hb
    rename_i hlt
    obtain ⟨rfl, rfl⟩ := hb
    rw [h0_get, if_pos hlt] at hx
    unfold roOf at hx
    split at hx <;> simp only [Option.some.injEq, reduceCtorEq] at hx
    rename_i arr e f ho
    subst hx
    refine ⟨arr, e, f, ho, by simp, fun i v hi => ?_⟩
    rw [List.getElem?_map, Option.map_eq_some_iff] at hi
    obtain ⟨y, h1, h2⟩ := hi
    exact ⟨y, h1, absV_conc h2⟩
  · intro b b' c sz sz' x x' _ _ hb hb' _ _
    simp only [R0] at hb hb'
    split at hb <;> simp only [Option.some.injEq, Prod.mk.injEq, reduceCtorEq] at hb
    split at hb' <;> simp only [Option.some.injEq, Prod.mk.injEq, reduceCtorEq] at hb'
    omega
  · intro b c sz hb
    simp only [R0] at hb
    split at hb <;> simp only [Option.some.injEq, Prod.mk.injEq, reduceCtorEq] at hb
    omega
theorem h0_wf (w : World) : WF (h0 w) := by
  refine ⟨fun b hb => ?_, fun _ hb => by simp [h0] at hb⟩
  have hb : w.heap.size ≤ b := hb
  rw [h0_get, if_neg (by omega)]
theorem lift_true {g : Nat} {args : List V} {vs : List Value} {W : World} (hargs : concL (R0 W) args = some vs)
    (hrun : WC Try.tblA (.fn g [] []) args (h0 W) fun v h' => v = .b true ∧ Ext (h0 W) h') :
    Calls Go.Proofs.Try.prog g vs.toArray W fun e W' => e = .returned (.bool true) ∧ Below W.heap.size W W' := by
  obtain ⟨k, v, h', he, rfl, hx⟩ := hrun
  have hfr : Fresh (R0 W) (h0 W) h' := fun b hb _ => by
    have hb : W.heap.size ≤ b := hb
    simp only [R0]
    rw [if_neg (by omega)]
  have h1 := (air_fn Try.mixed Try.okA he (h0_sim _ W) hfr (h0_wf W) hargs).2 none 0
  have h2 : CallsIn Fence.wide 0 Go.Proofs.Try.prog g vs.toArray W _ := h1
  refine (callsIn_wide.1 h2).mono ?_
  intro e W' q
  cases e with
  | returned x =>
    obtain ⟨R', l, f, _, hc⟩ := q
    refine ⟨by simp [conc] at hc; rw [hc], f.io.1, f.io.2.1, f.io.2.2, f.size, fun c hlt => f.frame c hlt fun b sz hb hl => ?_⟩
    obtain ⟨l', e1, e2⟩ := hx.log
    have e3 := f.log
    rw [e1] at e3
    have : l' = l := List.append_cancel_right e3
    subst this
    have := e2 b hl
    have hn : (h0 W).next = W.heap.size := rfl
    simp only [R0] at hb
    split at hb <;> simp only [Option.some.injEq, Prod.mk.injEq, reduceCtorEq] at hb
    omega
  | _ => exact q.elim
theorem own : ownKnob Go.Proofs.Try.prog.godebug = none := by kernel_rfl
theorem laid : laidOutB Go.Proofs.Try.prog = true := by kernel_rfl
theorem trodAll_stays {H : Type} {enc : TypeId × Value → H} {P : Program} {base : Nat} (hl : laidOutB P = true) {W W' : World} {sp : Nat → Bool} : ∀ {ts : List TypeId} {vs : List Value} {ds : List (DataW H)} {ps : List MemPlace},
    (∀ t ∈ ts, P.readableRec t = true ∧ t < P.types.size) → DataW.TrodAll enc P W base (fun _ => true) true ts vs ds ps → (∀ p ∈ ps, W.sameAt W' p) → (∀ p ∈ ps, sp p.block = true) → DataW.TrodAll enc P W' base sp true ts vs ds ps
  | [], _, _, _, _, h, _, _ => by
    obtain ⟨rfl, rfl, rfl⟩ := trodAll_nil h
    exact h
  | t :: ts, _, _, _, ht, h, h1, h2 => by
    obtain ⟨v, vs1, d, ds1, a, b, rfl, rfl, rfl, q1, q2⟩ := trodAll_cons h
    have := ht t (by simp)
    exact ⟨a, b, WideElems.Trod_stays hl this.1 this.2 q1 (fun p hp => h1 p (List.mem_append_left _ hp)) (fun p hp => h2 p (List.mem_append_left _ hp)),
      trodAll_stays hl (fun t ht' => ht t (by simp [ht'])) q2 (fun p hp => h1 p (List.mem_append_right _ hp)) (fun p hp => h2 p (List.mem_append_right _ hp)), rfl⟩
theorem trodAll_length {H : Type} {enc : TypeId × Value → H} {P : Program} {w : World} {base : Nat} {spare : Nat → Bool} {held : Bool} : ∀ {ts : List TypeId} {vs : List Value} {ds : List (DataW H)} {ps : List MemPlace},
    DataW.TrodAll enc P w base spare held ts vs ds ps → ds.length = ts.length
  | [], _, _, _, h => by
    obtain ⟨_, rfl, _⟩ := trodAll_nil h
    rfl
  | t :: ts, _, _, _, h => by
    obtain ⟨v, vs1, d, ds1, a, b, rfl, rfl, rfl, q1, q2⟩ := trodAll_cons h
    simp [trodAll_length q2]
noncomputable def readable (l : List TypeId) : Bool := l.all fun t => Go.Proofs.Try.prog.readableRec t && decide (t < Go.Proofs.Try.prog.types.size)
theorem post_true {H : Type} {enc : TypeId × Value → H} {f : Func} {s : ChangeSpec} {W W' : World} {args : Array Value} {bt : TypeId} {ds gs : List (DataW H)} {before : List MemPlace}
    (hW : DataW.Whole enc Go.Proofs.Try.prog f.params.toList s.vars false W args.toList ds gs before) (hv : s.vars = []) (hs : s.fn H ds = { results := [.lit (.bool true)], args := ds })
    (hr : f.resultTypes = #[bt]) (hbt : Go.Proofs.Try.prog.underlying bt = some .bool) (hp : readable f.params.toList = true) (hb : Below W.heap.size W W') :
    s.post enc Go.Proofs.Try.prog f false true false false W args (.bool true) W' := by
  have hlt := hW.lt
  have hW' := hW
  obtain ⟨p, q, hA, hV, rfl, hfz, hnd⟩ := hW
  rw [hv] at hV
  have hV0 := hV
  obtain ⟨rfl, rfl⟩ := trodVars_none hV
  have hread : ∀ t ∈ f.params.toList, Go.Proofs.Try.prog.readableRec t = true ∧ t < Go.Proofs.Try.prog.types.size := by
    intro t ht
    have := List.all_eq_true.1 hp t ht
    simpa using this
  have hlt' : ∀ x ∈ p, x.block < W.heap.size := fun x hx => hlt x (by simp [hx])
  have e : s.fn H (ds ++ []) = { results := [.lit (.bool true)], args := ds } := by simpa using hs
  refine ⟨ds, [], p ++ [], [], p, [], hW', ?_, ?_, ?_, hb.frame _, fun ha => by cases ha⟩
  · rw [e, hr]
    exact trodAll_mk1 (shut_bool hbt true)
  · rw [e]
    exact trodAll_stays laid hread hA (fun x hx => hb.same (hlt' x hx)) (fun x hx => by simpa using hlt' x hx)
  · rw [e, hv]
    exact hV0
theorem row_true {g : Nat} {fn : Func} {s : ChangeSpec} {bt : TypeId} (hfn : Go.Proofs.Try.prog.funcs[g]? = some fn) (hv : s.vars = [])
    (hs : ∀ (H : Type) (ds : List (DataW H)), ds.length = fn.params.size → s.fn H ds = { results := [.lit (.bool true)], args := ds })
    (hr : fn.resultTypes = #[bt]) (hbt : Go.Proofs.Try.prog.underlying bt = some .bool) (hp : readable fn.params.toList = true) (hni : Go.Proofs.Try.checked.prog.inits.idxOf? g = none)
    (os : Os) (started : os.Started) (H : Type) (enc : TypeId × Value → H)
    (witness : ∃ (w : World) (tape : Tape) (i : Input), w.os = os ∧ (w.forCall tape i).Shaped Go.Proofs.Try.checked.prog ∧ i.vars = [] ∧ Input.okWide Go.Proofs.Try.checked.prog (w.forCall tape i) .any w.heap.size g i ∧
      s.pre6 enc Go.Proofs.Try.checked.prog fn [] false (w.forCall tape i).memory i.args ∧ Assume.holds {} Go.Proofs.Try.checked.prog (lone (Frame.enter Go.Proofs.Try.checked.prog g i.args .normal) [] (w.forCall tape i)))
    (hrun : ∀ (W : World) (args : List Value) (ds : List (DataW H)) (ps : List MemPlace) (base : Nat), (∀ (j : Nat) t v, fn.params[j]? = some t → args[j]? = some v → Value.okWide Go.Proofs.Try.prog W .any base t v) →
      DataW.TrodAll enc Go.Proofs.Try.prog W 0 (fun _ => true) true fn.params.toList args ds ps →
      (DataW.weightsEach Go.Proofs.Try.prog fn.params.toList ds).all (· ≤ reachBytes) = true →
      ∃ us, concL (R0 W) us = some args ∧ WC Try.tblA (.fn g [] []) us (h0 W) fun v h' => v = .b true ∧ Ext (h0 W) h') :
    ReturnsInHanded {} Go.Proofs.Try.checked os g .any (s.pre6 enc Go.Proofs.Try.checked.prog fn [] false) (s.post enc Go.Proofs.Try.checked.prog fn false true false false) := by
  refine returnsInHanded_of_change_shaped (C := Go.Proofs.Try.checked) own started hni hfn witness ?_
  intro W base args ds gs before hval hW _ hwt _ _
  have hW' := hW
  obtain ⟨p, q, hA, hV, rfl, hfz, hnd⟩ := hW
  rw [hv] at hV
  obtain ⟨rfl, rfl⟩ := trodVars_none hV
  have hw2 : (DataW.weightsEach Go.Proofs.Try.prog fn.params.toList ds).all (· ≤ reachBytes) = true := by
    have e : s.plain.varTypes Go.Proofs.Try.checked.prog = [] := by simp [DataSpec.varTypes, ChangeSpec.plain, hv]
    have h := hwt
    rw [e, List.append_nil, List.append_nil] at h
    exact h
  obtain ⟨us, h1, h2⟩ := hrun W args.toList ds p base (fun j t v h1 h2 => hval j t v h1 (by simpa using h2)) hA hw2
  have hcall := lift_true h1 h2
  rw [Array.toArray_toList] at hcall
  refine hcall.mono ?_
  rintro e W' ⟨rfl, hb⟩
  exact ⟨_, rfl, post_true hW' hv (hs H ds (by simpa using trodAll_length hA)) hr hbt hp hb⟩
end Go.Air
set_option maxRecDepth 100000
namespace Go.Air
open Go.ChangeShapes Go.WideShapes Go.ChangeAt Go.RowKit Go.Air.Try
theorem cutO_of : ∀ {cs : List (Option V)} {o n : Nat} {l : List V}, l.length = n → (∀ (i : Nat) (v : V), l[i]? = some v → cs[o + i]? = some (some v)) → o + n ≤ cs.length → cutO cs o n = some l
  | [], 0, 0, l, hl, _, _ => by
    obtain rfl := List.eq_nil_of_length_eq_zero hl
    rfl
  | _ :: _, 0, 0, l, hl, _, _ => by
    obtain rfl := List.eq_nil_of_length_eq_zero hl
    rfl
  | [], 0, n + 1, _, _, _, h => by simp at h
  | [], o + 1, n, _, _, _, h => by simp at h
  | x :: cs, 0, n + 1, l, hl, h, hle => by
    cases l with
    | nil => simp at hl
    | cons v l =>
      have h0 := h 0 v rfl
      simp only [Nat.add_zero, List.getElem?_cons_zero, Option.some.injEq] at h0
      subst h0
      have ih := cutO_of (cs := cs) (o := 0) (n := n) (l := l) (by simpa using hl) (fun i v hi => by
        have := h (i + 1) v (by simpa using hi)
        rw [show 0 + (i + 1) = (0 + i) + 1 by omega] at this
        simpa using this) (by simp at hle ⊢; omega)
      simp only [cutO, ih, Option.map_some]
  | x :: cs, o + 1, n, l, hl, h, hle => by
    simp only [cutO]
    refine cutO_of (o := o) hl (fun i v hi => ?_) (by simp at hle; omega)
    have := h i v hi
    rw [show o + 1 + i = (o + i) + 1 by omega] at this
    simpa using this
variable {W : World}
theorem cell_inv {a : Addr} {x : Value} (h : W.cell? a = some x) : a.spot = none ∧ ∃ arr e f, W.heap[a.block]? = some (.cells arr e f) ∧ arr.toList[a.off]? = some x := by
  unfold World.cell? at h
  split at h <;> try simp at h
  rename_i arr e f ho
  exact ⟨h.1, arr, e, f, ho, by simpa using h.2⟩
theorem arg_of {a : Addr} {len cap esz : Nat} {cs : List V} (hlen : cs.length = len * esz) (hc : 0 < cap) (hz : 0 < esz) (hle : len ≤ cap) {x0 : Value} (hx0 : W.cell? (a.add 0) = some x0)
    (hcell : ∀ i u, cs[i]? = some u → ∃ x, W.cell? (a.add i) = some x ∧ absV W.heap.size x = some u) :
    ∃ v, absV W.heap.size (.slice (some a) len cap) = some v ∧ conc (R0 W) v = some (.slice (some a) len cap) ∧ Arg esz (h0 W) v len cs := by
  obtain ⟨b, o, s⟩ := a
  obtain ⟨hs, arr, e, f, ho, _⟩ := cell_inv hx0
  obtain rfl : s = none := by simpa [Addr.add] using hs
  simp only [add_spot] at hcell ho
  have hb : b < W.heap.size := by
    rcases Nat.lt_or_ge b W.heap.size with h | h
    · exact h
    · rw [Array.getElem?_eq_none h] at ho; cases ho
  have hv : absV W.heap.size (.slice (some ⟨b, o, none⟩) len cap) = some (.sl b o len cap none) := by
    simp only [absV]
    rw [if_pos ⟨hb, hle, hc⟩]
  refine ⟨_, hv, absV_conc hv, .inr ⟨b, o, cap, _, rfl, hle, hb, by rw [h0_get, if_pos hb, ho]; rfl, ?_⟩⟩
  have hcell' : ∀ (i : Nat) (u : V), cs[i]? = some u → ∃ x, arr.toList[o + i]? = some x ∧ absV W.heap.size x = some u := by
    intro i u hi
    obtain ⟨x, h1, h2⟩ := hcell i u hi
    obtain ⟨_, arr', e', f', q1, q2⟩ := cell_inv h1
    simp only at q1 q2
    rw [ho] at q1
    cases q1
    exact ⟨x, q2, h2⟩
  simp only [Blk.rd]
  refine cutO_of hlen (fun i u hi => ?_) ?_
  · obtain ⟨x, h1, h2⟩ := hcell' i u hi
    rw [List.getElem?_map, h1, Option.map_some, h2]
  · by_cases h0 : len * esz = 0
    · have hx : o ≤ arr.toList.length := by
        obtain ⟨_, arr', e', f', q1, q2⟩ := cell_inv hx0
        simp only [add_spot] at q1 q2
        rw [ho] at q1
        cases q1
        have := (List.getElem?_eq_some_iff.1 q2).1
        simp only [Nat.add_zero] at this
        omega
      simp only [List.length_map]; omega
    · have hlt : len * esz - 1 < cs.length := by omega
      obtain ⟨x, h1, _⟩ := hcell' (len * esz - 1) cs[len * esz - 1] (List.getElem?_eq_getElem hlt)
      have := (List.getElem?_eq_some_iff.1 h1).1
      simp only [List.length_map]; omega
end Go.Air
set_option maxRecDepth 100000
namespace Go.Air
open Go.ChangeShapes Go.WideShapes Go.ChangeAt Go.RowKit Go.Air.Try Go.Deep
variable {W : World}
theorem trod_struct4 {H : Type} {enc : TypeId × Value → H} {P : Program} {w : World} {base : Nat} {spare : Nat → Bool} {held : Bool} {t : TypeId} {f0 f1 f2 f3 : Field} {fuel : Nat} {cs : List Value} {x : DataW H × List MemPlace} (ht : P.underlying t = some (.struct #[f0, f1, f2, f3])) (h : DataW.trod enc P w base spare held fuel t cs = some x) :
    ∃ y0 y1 y2 y3 n, cs.length = P.cellsOf t ∧ DataW.trod enc P w base spare held n f0.type ((cs.drop f0.offset).take (P.cellsOf f0.type)) = some y0 ∧
      DataW.trod enc P w base spare held n f1.type ((cs.drop f1.offset).take (P.cellsOf f1.type)) = some y1 ∧ DataW.trod enc P w base spare held n f2.type ((cs.drop f2.offset).take (P.cellsOf f2.type)) = some y2 ∧
      DataW.trod enc P w base spare held n f3.type ((cs.drop f3.offset).take (P.cellsOf f3.type)) = some y3 := by
  obtain ⟨xs, n, _, rfl, hl, hlen, hf⟩ := DataW.trod_struct ht h
  match xs, hlen with
  | [y0, y1, y2, y3], _ => exact ⟨y0, y1, y2, y3, n, hl, by simpa using hf 0 f0 rfl, by simpa using hf 1 f1 rfl, by simpa using hf 2 f2 rfl, by simpa using hf 3 f3 rfl⟩
theorem open_arrowsA {H : Type} {enc : TypeId × Value → H} {fuel : Nat} {cs : List Value} {x : DataW H × List MemPlace}
    (h : DataW.trod enc Go.Proofs.Try.prog W 0 (fun _ => true) true fuel 22 cs = some x) :
    ∃ v u rs, cs = [v] ∧ absV W.heap.size v = some u ∧ conc (R0 W) u = some v ∧ Arrs (h0 W) u rs := by
  have c23 : Go.Proofs.Try.prog.cellsOf 41 = 4 := by kernel_rfl
  have c3 : Go.Proofs.Try.prog.cellsOf 3 = 1 := by kernel_rfl
  rcases open_slice Go.Proofs.Try.underlying22 h with ⟨hcs, _⟩ | ⟨a, len, cap, m, n, D, Pl, hcs, _, hl, hm, hmm, _, hx⟩
  · subst hcs
    exact ⟨_, .sn, [], rfl, rfl, by simp [conc], .inl ⟨rfl, rfl, .inl rfl⟩⟩
  · subst hcs
    simp only [if_true] at hmm
    subst hmm
    by_cases h0' : m = 0
    · subst h0'
      obtain rfl : len = 0 := by omega
      obtain ⟨b, o, s⟩ := a
      refine ⟨_, .se ⟨b, o, s⟩, [], rfl, ?_, by simp [conc], .inl ⟨rfl, rfl, .inr ⟨_, rfl⟩⟩⟩
      cases s <;> simp [absV]
    · have hz : ∀ i, ∃ q : Arw, i < m → ∀ (j : Nat) (u : V), (arw q)[j]? = some u → ∃ x, W.cell? (a.add (i * 4 + j)) = some x ∧ absV W.heap.size x = some u := by
        intro i
        by_cases hi : ¬ i < m
        · exact ⟨⟨0, 0, 0, 0⟩, fun h => absurd h hi⟩
        replace hi := Classical.not_not.1 hi
        obtain ⟨cs', h1, h2⟩ := hx i hi
        rw [c23] at h1
        obtain ⟨_, hlen, hcell⟩ := World.cells?_some h1
        obtain ⟨y0, y1, y2, y3, k, _, g0, g1, g2, g3⟩ := trod_struct4 Go.Proofs.Try.underlying41 h2
        rw [c3] at g0 g1 g2 g3
        match cs', hlen with
        | [v0, v1, v2, v3], _ =>
          obtain ⟨z0, e0, _⟩ := DataW.trod_int Go.Proofs.Try.underlying3 g0
          obtain ⟨z1, e1, _⟩ := DataW.trod_int Go.Proofs.Try.underlying3 g1
          obtain ⟨z2, e2, _⟩ := DataW.trod_int Go.Proofs.Try.underlying3 g2
          obtain ⟨z3, e3, _⟩ := DataW.trod_int Go.Proofs.Try.underlying3 g3
          simp at e0 e1 e2 e3
          subst e0 e1 e2 e3
          refine ⟨⟨z0, z1, z2, z3⟩, fun _ j u hj => ?_⟩
          have hj4 : j < 4 := (List.getElem?_eq_some_iff.1 hj).1
          have hc := hcell j hj4
          rw [add_add] at hc
          match j, hj4, hj, hc with
          | 0, _, hj, hc => simp [arw] at hj; subst hj; exact ⟨_, hc, rfl⟩
          | 1, _, hj, hc => simp [arw] at hj; subst hj; exact ⟨_, hc, rfl⟩
          | 2, _, hj, hc => simp [arw] at hj; subst hj; exact ⟨_, hc, rfl⟩
          | 3, _, hj, hc => simp [arw] at hj; subst hj; exact ⟨_, hc, rfl⟩
      obtain ⟨f, hf⟩ := Classical.axiomOfChoice hz
      have hget : ∀ i, i < len → ((List.range len).map f)[i]? = some (f i) := by intro i hi; simp [hi]
      have hrl := recs_len arw_len ((List.range len).map f)
      obtain ⟨x0, hx0, _⟩ := hf 0 (by omega) 0 _ rfl
      obtain ⟨u, q1, q2, q3⟩ := arg_of (W := W) (a := a) (len := len) (cap := m) (esz := 4) (cs := recs arw ((List.range len).map f)) (by rw [hrl]; simp) (by omega) (by omega) hl (x0 := x0) (by simpa using hx0) (by
        intro i u hi
        have hlt : i < len * 4 := by
          have := (List.getElem?_eq_some_iff.1 hi).1
          rw [hrl] at this
          simpa using this
        have hjl : i / 4 < len := by omega
        have hi' : i = i / 4 * 4 + i % 4 := by omega
        rw [hi'] at hi ⊢
        rw [recs_get arw_len (hget _ hjl) (by omega)] at hi
        exact hf (i / 4) (by omega) (i % 4) u hi)
      refine ⟨_, u, (List.range len).map f, rfl, q1, q2, ?_⟩
      have := q3.sl
      unfold Arrs
      simpa using this
theorem open_relA {H : Type} {enc : TypeId × Value → H} {base : Nat} {v : Value} {d : DataW H} {p : List MemPlace} (hval : Value.okWide Go.Proofs.Try.prog W .any base 24 v)
    (hd : DataW.Trod enc Go.Proofs.Try.prog W 0 (fun _ => true) true 24 v d p) : ∃ (N : Int) (u : V) (rs : List Arw), conc (R0 W) (.agg [.i .i64 N, u]) = some v ∧ Arrs (h0 W) u rs := by
  have c3 : Go.Proofs.Try.prog.cellsOf 3 = 1 := by kernel_rfl
  have c22 : Go.Proofs.Try.prog.cellsOf 22 = 1 := by kernel_rfl
  have c24 : Go.Proofs.Try.prog.cellsOf 24 = 2 := by kernel_rfl
  obtain ⟨cs, rfl, hsz⟩ := okWide_struct Go.Proofs.Try.underlying24 hval
  obtain ⟨fuel, hf⟩ := hd
  obtain ⟨y0, y1, n, _, hl, q0, q1⟩ := trod_struct2 Go.Proofs.Try.underlying24 hf
  rw [c24] at hsz
  obtain ⟨l⟩ := cs
  simp only [Value.cells, List.size_toArray] at hsz q0 q1
  match l, hsz with
  | [x, y], _ =>
    rw [c3] at q0
    rw [c22] at q1
    obtain ⟨N, e1, _⟩ := DataW.trod_int Go.Proofs.Try.underlying3 q0
    obtain ⟨v, u, rs, e2, r1, r2, r3⟩ := open_arrowsA q1
    simp at e1 e2
    subst e1 e2
    exact ⟨N, u, rs, by simp [conc, concL, r2], r3⟩
end Go.Air
