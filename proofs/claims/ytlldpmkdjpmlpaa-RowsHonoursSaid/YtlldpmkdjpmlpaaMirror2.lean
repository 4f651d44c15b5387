/-
  Mirror of the program (two maps), and the law RowsMirrors, in Air.
-/
import Derived.Test.YtlldpmkdjpmlpaaMirror
set_option linter.unusedSectionVars false
set_option linter.unusedVariables false
set_option linter.unusedSimpArgs false
set_option maxRecDepth 100000
namespace Go.Air
open Go.Air.Try

def ML (ps : List Pt) (l : List (Int × V)) : Prop := ∀ r : Int, ((∀ p ∈ ps, p.1 ≠ r) ∧ lkp r l = none) ∨ ∃ m, lkp r l = some (.i .i64 m) ∧ IsLow r ps m
def MH (ps : List Pt) (l : List (Int × V)) : Prop := ∀ r : Int, ((∀ p ∈ ps, p.1 ≠ r) ∧ lkp r l = none) ∨ ∃ m, lkp r l = some (.i .i64 m) ∧ IsHigh r ps m
theorem ML.low {ps : List Pt} {l : List (Int × V)} (h : ML ps l) {p : Pt} (hp : p ∈ ps) : lkp p.1 l = some (.i .i64 (low p.1 ps)) := by
  rcases h p.1 with ⟨h1, _⟩ | ⟨m, h1, h2⟩
  · exact absurd rfl (h1 p hp)
  · rw [h1, h2.uniq (low_is hp)]
theorem MH.high {ps : List Pt} {l : List (Int × V)} (h : MH ps l) {p : Pt} (hp : p ∈ ps) : lkp p.1 l = some (.i .i64 (high p.1 ps)) := by
  rcases h p.1 with ⟨h1, _⟩ | ⟨m, h1, h2⟩
  · exact absurd rfl (h1 p hp)
  · rw [h1, h2.uniq (high_is hp)]
theorem ML.nil : ML [] [] := fun r => .inl ⟨fun p hp => by simp at hp, rfl⟩
theorem MH.nil : MH [] [] := fun r => .inl ⟨fun p hp => by simp at hp, rfl⟩
/-- the next place: what is least now. -/
theorem ML.step {ps : List Pt} {l l' : List (Int × V)} {p : Pt} (h : ML ps l) (hn : ∀ r, r ≠ p.1 → lkp r l' = lkp r l)
    (hp : (lkp p.1 l = none ∧ lkp p.1 l' = some (.i .i64 p.2)) ∨ ∃ m, lkp p.1 l = some (.i .i64 m) ∧ lkp p.1 l' = some (.i .i64 (if p.2 < m then p.2 else m))) : ML (ps ++ [p]) l' := by
  intro r
  by_cases hr : r = p.1
  · subst hr
    refine .inr ?_
    rcases h p.1 with ⟨h1, h2⟩ | ⟨m, h1, ⟨q, q1, q2, q3⟩, h4⟩
    · rcases hp with ⟨_, hp⟩ | ⟨m, hp, _⟩
      · refine ⟨p.2, hp, ⟨p, by simp, rfl, rfl⟩, fun x hx hxr => ?_⟩
        rcases List.mem_append.1 hx with hx | hx
        · exact absurd hxr (h1 x hx)
        · simp at hx; subst hx; exact Int.le_refl _
      · rw [h2] at hp; cases hp
    · rcases hp with ⟨hp, _⟩ | ⟨m', hp, hp'⟩
      · rw [h1] at hp; cases hp
      · rw [h1] at hp
        cases hp
        refine ⟨_, hp', ?_, fun x hx hxr => ?_⟩
        · split
          · exact ⟨p, by simp, rfl, rfl⟩
          · exact ⟨q, by simp [q1], q2, q3⟩
        · rcases List.mem_append.1 hx with hx | hx
          · have := h4 x hx hxr
            split <;> omega
          · simp at hx; subst hx
            split <;> omega
  · rcases h r with ⟨h1, h2⟩ | ⟨m, h1, ⟨q, q1, q2, q3⟩, h4⟩
    · refine .inl ⟨fun x hx => ?_, by rw [hn r hr]; exact h2⟩
      rcases List.mem_append.1 hx with hx | hx
      · exact h1 x hx
      · simp at hx; subst hx; exact fun e => hr e.symm
    · refine .inr ⟨m, by rw [hn r hr]; exact h1, ⟨q, by simp [q1], q2, q3⟩, fun x hx hxr => ?_⟩
      rcases List.mem_append.1 hx with hx | hx
      · exact h4 x hx hxr
      · simp at hx; subst hx; exact absurd hxr.symm hr
theorem MH.step {ps : List Pt} {l l' : List (Int × V)} {p : Pt} (h : MH ps l) (hn : ∀ r, r ≠ p.1 → lkp r l' = lkp r l)
    (hp : (lkp p.1 l = none ∧ lkp p.1 l' = some (.i .i64 p.2)) ∨ ∃ m, lkp p.1 l = some (.i .i64 m) ∧ lkp p.1 l' = some (.i .i64 (if m < p.2 then p.2 else m))) : MH (ps ++ [p]) l' := by
  intro r
  by_cases hr : r = p.1
  · subst hr
    refine .inr ?_
    rcases h p.1 with ⟨h1, h2⟩ | ⟨m, h1, ⟨q, q1, q2, q3⟩, h4⟩
    · rcases hp with ⟨_, hp⟩ | ⟨m, hp, _⟩
      · refine ⟨p.2, hp, ⟨p, by simp, rfl, rfl⟩, fun x hx hxr => ?_⟩
        rcases List.mem_append.1 hx with hx | hx
        · exact absurd hxr (h1 x hx)
        · simp at hx; subst hx; exact Int.le_refl _
      · rw [h2] at hp; cases hp
    · rcases hp with ⟨hp, _⟩ | ⟨m', hp, hp'⟩
      · rw [h1] at hp; cases hp
      · rw [h1] at hp
        cases hp
        refine ⟨_, hp', ?_, fun x hx hxr => ?_⟩
        · split
          · exact ⟨p, by simp, rfl, rfl⟩
          · exact ⟨q, by simp [q1], q2, q3⟩
        · rcases List.mem_append.1 hx with hx | hx
          · have := h4 x hx hxr
            split <;> omega
          · simp at hx; subst hx
            split <;> omega
  · rcases h r with ⟨h1, h2⟩ | ⟨m, h1, ⟨q, q1, q2, q3⟩, h4⟩
    · refine .inl ⟨fun x hx => ?_, by rw [hn r hr]; exact h2⟩
      rcases List.mem_append.1 hx with hx | hx
      · exact h1 x hx
      · simp at hx; subst hx; exact fun e => hr e.symm
    · refine .inr ⟨m, by rw [hn r hr]; exact h1, ⟨q, by simp [q1], q2, q3⟩, fun x hx hxr => ?_⟩
      rcases List.mem_append.1 hx with hx | hx
      · exact h4 x hx hxr
      · simp at hx; subst hx; exact absurd hxr.symm hr

theorem draw47_8 {h3 : H} {t : List V} {m1 m2 b : Nat} {p : Pt} {k1 k2 : List (Int × V)} {a1 a2 : Int} {Q : Out → List V → H → Prop} (tl : t.length = 86) (t3 : nth t 3 = .m m1) (t4 : nth t 4 = .m m2) (t6 : nth t 6 = .p b 0)
    (b1 : m1 < h3.next) (b2 : m2 < h3.next) (hb : b ≠ m1) (h12 : m1 ≠ m2) (l0 : ldV h3 (.p b 0) = some (.i .i64 p.1)) (l1 : ldV h3 (.p b 1) = some (.i .i64 p.2))
    (g1 : h3.get m1 = some (.map (encM k1))) (g2 : h3.get m2 = some (.map (encM k2))) (e1 : lkp p.1 k1 = some (.i .i64 a1)) (e2 : lkp p.1 k2 = some (.i .i64 a2))
    (hQ : ∀ t', t'.length = 86 → (∀ k, k < 39 → nth t' k = nth t k) →
      Q .norm t' ((h3.put m1 (.map (encM (insI p.1 (.i .i64 (if p.2 < a1 then p.2 else a1)) k1)))).put m2 (.map (encM (insI p.1 (.i .i64 (if a2 < p.2 then p.2 else a2)) k2))))) :
    WD tblA r47_8 t h3 [] (Kcrit [(5, 20), (18, 20)] Q) := by
  have lk1 := lookV_int g1 p.1
  have lk2 := lookV_int g2 p.1
  rw [e1] at lk1
  rw [e2] at lk2
  have s1 := mapSetV_int (h := h3.bare) g1 p.1 (.i .i64 (if p.2 < a1 then p.2 else a1))
  have g2' : ((h3.put m1 (.map (encM (insI p.1 (.i .i64 (if p.2 < a1 then p.2 else a1)) k1)))).bare).get m2 = some (.map (encM k2)) := by
    rw [H.get_bare, H.get_put, if_neg (fun e => h12 e.symm)]; exact g2
  have s2 := mapSetV_int g2' p.1 (.i .i64 (if a2 < p.2 then p.2 else a2))
  have k1' := back_put b1 (.map (encM (insI p.1 (.i .i64 (if p.2 < a1 then p.2 else a1)) k1)))
  have k2' := back_put (h := h3.put m1 (.map (encM (insI p.1 (.i .i64 (if p.2 < a1 then p.2 else a1)) k1)))) (b := m2) b2 (.map (encM (insI p.1 (.i .i64 (if a2 < p.2 then p.2 else a2)) k2)))
  have w1 := old_put b1 (.map (encM (insI p.1 (.i .i64 (if p.2 < a1 then p.2 else a1)) k1)))
  simp only [go_sem, ↓reduceIte, r47_8, tl, t3, t4, t6, l0, l1, lk1, lk2, s1, s2, k1', k2']
  refine ⟨?_, hQ _ (by simp only [upd_length, tl]) ?_⟩
  · simp only [w1, old_bare]
    simp [critOk, apart, reads, blockOf, X.ev, nth_upd, upd_length, tl, t3, t4, t6, hb, Ne.symm hb]
  · intro k hk
    simp only [nth_upd]
    repeat rw [if_neg (by omega)]

theorem draw47_7 {h3 : H} {t : List V} {m1 m2 b : Nat} {p : Pt} {k1 k2 : List (Int × V)} {Q : Out → List V → H → Prop} (tl : t.length = 86) (t3 : nth t 3 = .m m1) (t4 : nth t 4 = .m m2) (t6 : nth t 6 = .p b 0)
    (b1 : m1 < h3.next) (b2 : m2 < h3.next) (hb : b ≠ m1) (h12 : m1 ≠ m2) (l0 : ldV h3 (.p b 0) = some (.i .i64 p.1)) (l1 : ldV h3 (.p b 1) = some (.i .i64 p.2))
    (g1 : h3.get m1 = some (.map (encM k1))) (g2 : h3.get m2 = some (.map (encM k2)))
    (hQ : ∀ t', t'.length = 86 → (∀ k, k < 29 → nth t' k = nth t k) →
      Q .norm t' ((h3.put m1 (.map (encM (insI p.1 (.i .i64 p.2) k1)))).put m2 (.map (encM (insI p.1 (.i .i64 p.2) k2))))) :
    WD tblA r47_7 t h3 [] (Kcrit [(5, 10), (9, 10)] Q) := by
  have s1 := mapSetV_int (h := h3.bare) g1 p.1 (.i .i64 p.2)
  have g2' : ((h3.put m1 (.map (encM (insI p.1 (.i .i64 p.2) k1)))).bare).get m2 = some (.map (encM k2)) := by
    rw [H.get_bare, H.get_put, if_neg (fun e => h12 e.symm)]; exact g2
  have s2 := mapSetV_int g2' p.1 (.i .i64 p.2)
  have k1' := back_put b1 (.map (encM (insI p.1 (.i .i64 p.2) k1)))
  have k2' := back_put (h := h3.put m1 (.map (encM (insI p.1 (.i .i64 p.2) k1)))) (b := m2) b2 (.map (encM (insI p.1 (.i .i64 p.2) k2)))
  have w1 := old_put b1 (.map (encM (insI p.1 (.i .i64 p.2) k1)))
  simp only [go_sem, ↓reduceIte, r47_7, tl, t3, t4, t6, l0, l1, s1, s2, k1', k2']
  refine ⟨?_, hQ _ (by simp only [upd_length, tl]) ?_⟩
  · simp only [w1, old_bare]
    simp [critOk, apart, reads, blockOf, X.ev, nth_upd, upd_length, tl, t3, t4, t6, hb, Ne.symm hb]
  · intro k hk
    simp only [nth_upd]
    repeat rw [if_neg (by omega)]

theorem t47 : tblA 47 = some a47 := by kernel_rfl
theorem fn_Mirror {h : H} {v : V} {n : Nat} {ps : List Pt} (hv : Sl 2 h v n (spots ps)) (hn : n ≤ 1000) (hr : ∀ q ∈ ps, R64 q.2) :
    WC tblA (.fn 47 [] []) [v] h fun u h' => Ext h h' ∧ Own h 2 h' u n (spots (mir ps)) := by
  have hpn : ps.length = n := by have := hv.length; rw [spots_length] at this; omega
  refine (WC_in t47).2 ?_
  simp only [go_sem, ↓reduceIte, r47_0, r47_1, r47_2, hv.len]
  refine W_while (fun k t h1 => ∃ (i : Nat) (l1 l2 : List (Int × V)), k = n - i ∧ i ≤ n ∧ t.length = 86 ∧ nth t 0 = v ∧ nth t 3 = .m h.next ∧ nth t 4 = .m (h.next + 1) ∧ nth t 14 = v ∧ nth t 15 = .i .i64 (n : Int) ∧ nth t 16 = .i .i64 (i : Int) ∧
    Ext h h1 ∧ h.next + 1 < h1.next ∧ h1.get h.next = some (.map (encM l1)) ∧ h1.get (h.next + 1) = some (.map (encM l2)) ∧ ML (ps.take i) l1 ∧ MH (ps.take i) l2) ?_ n ?_
  · rintro k t h1 ⟨i, l1, l2, rfl, hi, tl, t0, t3, t4, t14, t15, t16, e1, n1, g1, g2, hL, hH⟩
    unfold b47_0
    by_cases hlt : i < n
    · have hlt' : (i : Int) < (n : Int) := by omega
      obtain ⟨p, hpi⟩ : ∃ p, ps[i]? = some p := ⟨_, List.getElem?_eq_getElem (by omega)⟩
      have hpm : p ∈ ps := List.mem_of_getElem? hpi
      have s1 := hv.ext e1
      have c0 := s1.ldn hlt
      rw [spots_at ps i p hpi] at c0
      obtain ⟨h2, q1, e2, gc, n2, ld0, ld1⟩ := st_new2 h1 (.i .i64 0) (.i .i64 0) (x := .i .i64 p.1) (y := .i .i64 p.2) rfl rfl
      have g1' : h2.get h.next = some (.map (encM l1)) := (e2.same _ (by omega)).trans g1
      have g2' : h2.get (h.next + 1) = some (.map (encM l2)) := (e2.same _ (by omega)).trans g2
      have lk1 := lookV_int g1' p.1
      have hne : ∀ r, r ≠ p.1 → ∀ u l, lkp r (insI p.1 u l) = lkp r l := fun r hr u l => by rw [lkp_ins, if_neg hr]
      have hself : ∀ u l, lkp p.1 (insI p.1 u l) = some u := fun u l => by rw [lkp_ins, if_pos rfl]
      rcases hL p.1 with ⟨hno, hm1⟩ | ⟨a1, hm1, _⟩
      · have hm2 : lkp p.1 l2 = none := by
          rcases hH p.1 with ⟨_, hm2⟩ | ⟨_, _, ⟨q, x1, x2, _⟩, _⟩
          · exact hm2
          · exact absurd x2 (hno q x1)
        rw [hm1] at lk1
        simp only [go_sem, ↓reduceIte, r47_3, r47_4, r47_5, r47_6, tl, t0, t3, t4, t14, t15, t16, hlt', s1.ix hlt, c0, q1, ld0, ld1, lk1]
        refine draw47_7 (m1 := h.next) (m2 := h.next + 1) (b := h1.next) (p := p) (k1 := l1) (k2 := l2) (by simp only [go_sem, ↓reduceIte, tl]) (by simp only [go_sem, ↓reduceIte, t3]) (by simp only [go_sem, ↓reduceIte, t4]) (by simp only [go_sem, ↓reduceIte, tl]) (by omega) (by omega) (by omega) (by omega) ld0 ld1 g1' g2' ?_
        intro t' tl' hk
        have t0' : nth t' 0 = v := by rw [hk 0 (by omega)]; simp only [go_sem, ↓reduceIte, t0]
        have t3' : nth t' 3 = .m h.next := by rw [hk 3 (by omega)]; simp only [go_sem, ↓reduceIte, t3]
        have t4' : nth t' 4 = .m (h.next + 1) := by rw [hk 4 (by omega)]; simp only [go_sem, ↓reduceIte, t4]
        have t6' : nth t' 6 = .p h1.next 0 := by rw [hk 6 (by omega)]; simp only [go_sem, ↓reduceIte, tl]
        have t14' : nth t' 14 = v := by rw [hk 14 (by omega)]; simp only [go_sem, ↓reduceIte, t14]
        have t15' : nth t' 15 = .i .i64 (n : Int) := by rw [hk 15 (by omega)]; simp only [go_sem, ↓reduceIte, t15]
        have t16' : nth t' 16 = .i .i64 (i : Int) := by rw [hk 16 (by omega)]; simp only [go_sem, ↓reduceIte, t16]
        simp only [go_sem, ↓reduceIte]
        have ld0' : ldV ((h2.put h.next (.map (encM (insI p.1 (.i .i64 p.2) l1)))).put (h.next + 1) (.map (encM (insI p.1 (.i .i64 p.2) l2)))) (.p h1.next 0) = some (.i .i64 p.1) := by
          simp only [ldV, H.get_put]; rw [if_neg (by omega), if_neg (by omega), gc]; rfl
        have ld1' : ldV ((h2.put h.next (.map (encM (insI p.1 (.i .i64 p.2) l1)))).put (h.next + 1) (.map (encM (insI p.1 (.i .i64 p.2) l2)))) (.p h1.next 1) = some (.i .i64 p.2) := by
          simp only [ldV, H.get_put]; rw [if_neg (by omega), if_neg (by omega), gc]; rfl
        have gg1 : ((h2.put h.next (.map (encM (insI p.1 (.i .i64 p.2) l1)))).put (h.next + 1) (.map (encM (insI p.1 (.i .i64 p.2) l2)))).get h.next = some (.map (encM (insI p.1 (.i .i64 p.2) l1))) := by
          rw [H.get_put, if_neg (by omega), H.get_put, if_pos rfl]
        have gg2 : ((h2.put h.next (.map (encM (insI p.1 (.i .i64 p.2) l1)))).put (h.next + 1) (.map (encM (insI p.1 (.i .i64 p.2) l2)))).get (h.next + 1) = some (.map (encM (insI p.1 (.i .i64 p.2) l2))) := by
          rw [H.get_put, if_pos rfl]
        refine draw47_8 (m1 := h.next) (m2 := h.next + 1) (b := h1.next) (p := p) tl' t3' t4' t6' (by simp; omega) (by simp; omega) (by omega) (by omega) ld0' ld1' gg1 gg2 (hself _ _) (hself _ _) ?_
        intro t'' tl'' hk'
        have u0 : nth t'' 0 = v := by rw [hk' 0 (by omega), t0']
        have u3 : nth t'' 3 = .m h.next := by rw [hk' 3 (by omega), t3']
        have u4 : nth t'' 4 = .m (h.next + 1) := by rw [hk' 4 (by omega), t4']
        have u14 : nth t'' 14 = v := by rw [hk' 14 (by omega), t14']
        have u15 : nth t'' 15 = .i .i64 (n : Int) := by rw [hk' 15 (by omega), t15']
        have u16 : nth t'' 16 = .i .i64 (i : Int) := by rw [hk' 16 (by omega), t16']
        simp only [go_sem, ↓reduceIte, r47_9, tl'', u0, u3, u4, u14, u15, u16, wrap_succ (show i < 1000000000 by omega)]
        refine ⟨n - (i + 1), by omega, i + 1, insI p.1 (.i .i64 (if p.2 < p.2 then p.2 else p.2)) (insI p.1 (.i .i64 p.2) l1), insI p.1 (.i .i64 (if p.2 < p.2 then p.2 else p.2)) (insI p.1 (.i .i64 p.2) l2), rfl, hlt, rfl, ((((e1.trans e2).put (Nat.le_refl _) _).put (by omega) _).put (Nat.le_refl _) _).put (by omega) _, by simp; omega, ?_, ?_, ?_, ?_⟩
        · rw [H.get_put, if_neg (by omega), H.get_put, if_pos rfl]
        · rw [H.get_put, if_pos rfl]
        · rw [take_succ' hpi]
          refine hL.step (fun r hr => by rw [hne r hr, hne r hr]) (.inl ⟨hm1, ?_⟩)
          rw [hself]; simp
        · rw [take_succ' hpi]
          refine hH.step (fun r hr => by rw [hne r hr, hne r hr]) (.inl ⟨hm2, ?_⟩)
          rw [hself]; simp
      · obtain ⟨a2, hm2⟩ : ∃ a2, lkp p.1 l2 = some (.i .i64 a2) := by
          rcases hH p.1 with ⟨hno, _⟩ | ⟨m, hm2, _⟩
          · rcases hL p.1 with ⟨_, hx⟩ | ⟨_, _, ⟨q, x1, x2, _⟩, _⟩
            · rw [hm1] at hx; cases hx
            · exact absurd x2 (hno q x1)
          · exact ⟨m, hm2⟩
        rw [hm1] at lk1
        simp only [go_sem, ↓reduceIte, r47_3, r47_4, r47_5, r47_6, tl, t0, t3, t4, t14, t15, t16, hlt', s1.ix hlt, c0, q1, ld0, ld1, lk1]
        refine draw47_8 (m1 := h.next) (m2 := h.next + 1) (b := h1.next) (p := p) (k1 := l1) (k2 := l2) (by simp only [go_sem, ↓reduceIte, tl]) (by simp only [go_sem, ↓reduceIte, t3]) (by simp only [go_sem, ↓reduceIte, t4]) (by simp only [go_sem, ↓reduceIte, tl]) (by omega) (by omega) (by omega) (by omega) ld0 ld1 g1' g2' hm1 hm2 ?_
        intro t'' tl'' hk'
        have u0 : nth t'' 0 = v := by rw [hk' 0 (by omega)]; simp only [go_sem, ↓reduceIte, t0]
        have u3 : nth t'' 3 = .m h.next := by rw [hk' 3 (by omega)]; simp only [go_sem, ↓reduceIte, t3]
        have u4 : nth t'' 4 = .m (h.next + 1) := by rw [hk' 4 (by omega)]; simp only [go_sem, ↓reduceIte, t4]
        have u14 : nth t'' 14 = v := by rw [hk' 14 (by omega)]; simp only [go_sem, ↓reduceIte, t14]
        have u15 : nth t'' 15 = .i .i64 (n : Int) := by rw [hk' 15 (by omega)]; simp only [go_sem, ↓reduceIte, t15]
        have u16 : nth t'' 16 = .i .i64 (i : Int) := by rw [hk' 16 (by omega)]; simp only [go_sem, ↓reduceIte, t16]
        simp only [go_sem, ↓reduceIte, r47_9, tl'', u0, u3, u4, u14, u15, u16, wrap_succ (show i < 1000000000 by omega)]
        refine ⟨n - (i + 1), by omega, i + 1, insI p.1 (.i .i64 (if p.2 < a1 then p.2 else a1)) l1, insI p.1 (.i .i64 (if a2 < p.2 then p.2 else a2)) l2, rfl, hlt, rfl, ((e1.trans e2).put (Nat.le_refl _) _).put (by omega) _, by simp; omega, ?_, ?_, ?_, ?_⟩
        · rw [H.get_put, if_neg (by omega), H.get_put, if_pos rfl]
        · rw [H.get_put, if_pos rfl]
        · rw [take_succ' hpi]
          exact hL.step (fun r hr => hne r hr _ _) (.inr ⟨a1, hm1, hself _ _⟩)
        · rw [take_succ' hpi]
          exact hH.step (fun r hr => hne r hr _ _) (.inr ⟨a2, hm2, hself _ _⟩)
    · have hlt' : ¬ (i : Int) < (n : Int) := by omega
      obtain rfl : i = n := by omega
      rw [List.take_of_length_le (by omega)] at hL hH
      simp only [go_sem, ↓reduceIte, r47_3, r47_10, r47_11, tl, t0, t3, t4, t14, t15, t16, hlt', hv.len]
      refine W_while (fun k t h2 => ∃ (j : Nat) (w : V), k = i - j ∧ j ≤ i ∧ t.length = 86 ∧ nth t 3 = .m h.next ∧ nth t 4 = .m (h.next + 1) ∧ nth t 9 = w ∧ nth t 60 = v ∧ nth t 61 = .i .i64 (i : Int) ∧ nth t 62 = .i .i64 (j : Int) ∧ Ext h1 h2 ∧
        Own h1 2 h2 w j (spots ((mir ps).take j))) ?_ i ?_
      · rintro k t h2 ⟨j, w, rfl, hj, tl, t3, t4, t9, t60, t61, t62, e2, o2⟩
        unfold b47_1
        by_cases hlt : j < i
        · have hlt' : (j : Int) < (i : Int) := by omega
          obtain ⟨p, hpi⟩ : ∃ p, ps[j]? = some p := ⟨_, List.getElem?_eq_getElem (by omega)⟩
          have hpm : p ∈ ps := List.mem_of_getElem? hpi
          have s1 := (hv.ext e1).ext e2
          have c0 := s1.ldn hlt
          rw [spots_at ps j p hpi] at c0
          obtain ⟨h3, q1, e3, gc, n3, ld0, ld1⟩ := st_new2 h2 (.i .i64 0) (.i .i64 0) (x := .i .i64 p.1) (y := .i .i64 p.2) rfl rfl
          have g1' : h3.get h.next = some (.map (encM l1)) := ((e2.trans e3).same _ (by omega)).trans g1
          have g2' : h3.get (h.next + 1) = some (.map (encM l2)) := ((e2.trans e3).same _ (by omega)).trans g2
          have lk1 := lookV_int g1' p.1
          rw [hL.low hpm] at lk1
          have lk2 := lookV_int g2' p.1
          rw [hH.high hpm] at lk2
          have hw := wrap_mir (low_range hpm hr)
          obtain ⟨o4, x4⟩ := Own.lit (esz := 2) (Ext.refl h3) [.i .i64 p.1, .i .i64 (low p.1 ps + high p.1 ps - p.2)] 1 rfl
          obtain ⟨w', h5, r1, r2, r3, r4, r5, r6⟩ := Own.app (bytes := 16) (o2.ext (e3.trans x4)) (e2.trans (e3.trans x4)) o4.sl (by intro u hu; simp at hu; rcases hu with rfl | rfl <;> rfl) (by omega) (by omega) (by omega)
          simp only [go_sem, ↓reduceIte, r47_12, r47_13, r47_14, r47_15, tl, t3, t4, t9, t60, t61, t62, hlt', s1.ix hlt, c0, q1, ld0, ld1, lk1, lk2, hw, r1, wrap_succ (show j < 1000000000 by omega)]
          refine ⟨i - (j + 1), by omega, j + 1, w', rfl, hlt, rfl, rfl, r2, ?_⟩
          rw [take_succ' (mir_get hpi), spots_append]
          exact r3
        · have hlt' : ¬ (j : Int) < (i : Int) := by omega
          simp only [go_sem, ↓reduceIte, r47_12, r47_16, tl, t9, t61, t62, hlt']
          obtain rfl : j = i := by omega
          rw [List.take_of_length_le (by rw [mir_length]; omega)] at o2
          exact ⟨e1.trans e2, o2.mono e1.nx⟩
      · refine ⟨0, .sn, by omega, by omega, ?_⟩
        simp only [go_sem, ↓reduceIte, tl, t3, t4]
        exact ⟨.refl h1, .nil⟩
  · refine ⟨0, [], [], by omega, by omega, ?_⟩
    simp only [go_sem, ↓reduceIte]
    refine ⟨rfl, ((Ext.refl h).new _).new _, by simp, ?_, ?_, ML.nil, MH.nil⟩
    · rw [H.get_new, if_neg (by simp), H.get_new, if_pos rfl]; rfl
    · rw [H.get_new, if_pos (by simp)]; rfl

theorem t12 : tblA 12 = some a12 := by kernel_rfl
theorem law_mirrors {h : H} {v : V} {n : Nat} {ps : List Pt} (hv : Sl 2 h v n (spots ps)) (hr : ∀ q ∈ ps, R64 q.2) :
    WC tblA (.fn 12 [] []) [v] h fun u h' => u = .b true ∧ Ext h h' := by
  refine (WC_in t12).2 ?_
  by_cases h100 : 100 < n
  · have h100' : (100 : Int) < (n : Int) := by omega
    simp only [go_sem, ↓reduceIte, r12_0, r12_1, r12_2, hv.len, h100']
    exact .refl h
  have h100' : ¬ (100 : Int) < (n : Int) := by omega
  simp only [go_sem, ↓reduceIte, r12_0, r12_1, r12_3, hv.len, h100']
  refine (fn_Mirror hv (by omega) hr).mono ?_
  rintro m h1 ⟨e1, o1⟩
  simp only [go_sem, ↓reduceIte, r12_4]
  refine (fn_refMirror (hv.ext e1) (by omega) hr).mono ?_
  rintro m2 h2 ⟨e2, o2⟩
  have s1 := (o1.ext e2).sl
  simp only [go_sem, ↓reduceIte]
  refine (fn_SameSpots s1 o2.sl (by omega)).mono ?_
  rintro _ _ ⟨rfl, rfl⟩
  simp only [go_sem, ↓reduceIte]
  refine (fn_Mirror s1 (by omega) (mir_range hr)).mono ?_
  rintro m3 h3 ⟨e3, o3⟩
  rw [mir_mir] at o3
  simp only [go_sem, ↓reduceIte]
  refine (fn_SameSpots o3.sl (hv.ext (e1.trans (e2.trans e3))) (by omega)).mono ?_
  rintro _ _ ⟨rfl, rfl⟩
  simp only [go_sem, ↓reduceIte]
  exact e1.trans (e2.trans e3)
end Go.Air
