/-
  What every piece of Air's code keeps of its heap: numbers only grow, no block beyond the next number, a loop's record stays one.
-/
import Derived.Test.YtlldpmkdjpmlpaaOps7
set_option linter.unusedSectionVars false
set_option linter.unusedVariables false
set_option linter.unusedSimpArgs false
namespace Go.Air

def WF (h : H) : Prop := (∀ b, h.next ≤ b → h.get b = none) ∧ ∀ b ∈ h.log, b < h.next

theorem WF.lt {h : H} {b : Nat} {x : Blk} (hw : WF h) (hb : h.get b = some x) : b < h.next := by
  rcases Nat.lt_or_ge b h.next with hl | hl
  · exact hl
  · rw [hw.1 b hl] at hb; cases hb

structure Keep (h h' : H) : Prop where
  nx : h.next ≤ h'.next
  wf : WF h → WF h'
  loop : ∀ b lp, b < h.next → h.get b = some (.loop lp) → ∃ lp', h'.get b = some (.loop lp')
  wr : ∃ l, h'.log = l ++ h.log ∧ (∀ b, b < h.next → b ∉ l → h'.get b = h.get b) ∧ ∀ b ∈ l, b < h.next → ∃ y, h.get b = some y

theorem Keep.refl (h : H) : Keep h h := ⟨Nat.le_refl _, id, fun _ lp _ hb => ⟨lp, hb⟩, [], rfl, fun _ _ _ => rfl, fun _ hb => by simp at hb⟩
theorem Keep.trans {h h1 h2 : H} (a : Keep h h1) (b : Keep h1 h2) : Keep h h2 :=
  ⟨Nat.le_trans a.nx b.nx, fun w => b.wf (a.wf w), fun x lp hx hg => let ⟨lp1, h1⟩ := a.loop x lp hx hg; b.loop x lp1 (Nat.lt_of_lt_of_le hx a.nx) h1, by
    obtain ⟨l1, p1, p2, p3⟩ := a.wr
    obtain ⟨l2, q1, q2, q3⟩ := b.wr
    refine ⟨l2 ++ l1, by rw [q1, p1, List.append_assoc], fun x hx hl => ?_, fun x hx hlt => ?_⟩
    · rw [List.mem_append, not_or] at hl
      rw [q2 x (Nat.lt_of_lt_of_le hx a.nx) hl.1, p2 x hx hl.2]
    · by_cases hl : x ∈ l1
      · exact p3 x hl hlt
      · rcases List.mem_append.1 hx with hx | hx
        · obtain ⟨y, hy⟩ := q3 x hx (Nat.lt_of_lt_of_le hlt a.nx)
          exact ⟨y, by rw [← p2 x hlt hl]; exact hy⟩
        · exact absurd hx hl⟩
theorem Keep.new (h : H) (x : Blk) : Keep h (h.new x) := by
  refine ⟨by simp, fun w => ⟨fun b hb => ?_, fun b hb => ?_⟩, fun b lp hb hg => ⟨lp, ?_⟩, [], rfl, fun b hb _ => by rw [H.get_new, if_neg (by omega)], fun _ hb => by simp at hb⟩
  · simp at hb
    rw [H.get_new, if_neg (by omega)]; exact w.1 b (by omega)
  · have := w.2 b (by simpa using hb)
    simp; omega
  · rw [H.get_new, if_neg (by omega)]; exact hg
theorem Keep.put {h : H} {b : Nat} {x y : Blk} (hg : h.get b = some y) (hl : ∀ lp, y = .loop lp → ∃ lp', x = .loop lp') : Keep h (h.put b x) := by
  refine ⟨by simp, fun w => ⟨fun c hc => ?_, fun c hc => ?_⟩, fun c lp hc hcg => ?_, [b], rfl, fun c _ hc => by rw [H.get_put, if_neg (by simpa using hc)], fun c hc _ => by simp at hc; subst hc; exact ⟨_, hg⟩⟩
  · have := w.lt hg
    simp at hc
    rw [H.get_put, if_neg (by omega)]; exact w.1 c hc
  · simp at hc
    rcases hc with rfl | hc
    · exact w.lt hg
    · exact w.2 c hc
  · rw [H.get_put]
    split
    · rename_i e; subst e
      rw [hg] at hcg
      obtain ⟨lp', e⟩ := hl lp (Option.some.inj hcg)
      exact ⟨lp', by rw [e]⟩
    · exact ⟨lp, hcg⟩
theorem Keep.kill {h : H} {b : Nat} {cs : List V} (hg : h.get b = some (.cells cs)) : Keep h (h.kill b) := by
  refine ⟨by simp, fun w => ⟨fun c hc => ?_, fun c hc => ?_⟩, fun c lp hc hcg => ?_, [b], rfl, fun c _ hc => by rw [H.get_kill, if_neg (by simpa using hc)], fun c hc _ => by simp at hc; subst hc; exact ⟨_, hg⟩⟩
  · rw [H.get_kill]
    split
    · rfl
    · exact w.1 c hc
  · simp at hc
    rcases hc with rfl | hc
    · exact w.lt hg
    · exact w.2 c hc
  · rw [H.get_kill]
    split
    · rename_i e; subst e
      rw [hg] at hcg; cases hcg
    · exact ⟨lp, hcg⟩

/-- what a step without a call does: keeps, and writes what it reads. -/
def Does (h h' : H) (rs : Option (List Nat)) : Prop := Keep h h' ∧ ∀ r, rs = some r → ∃ l, h'.log = l ++ h.log ∧ ∀ b ∈ l, b ∈ r
theorem Does.refl {h : H} {rs : Option (List Nat)} : Does h h rs := ⟨.refl h, fun _ _ => ⟨[], rfl, fun _ hb => by simp at hb⟩⟩
theorem Does.new {h : H} {x : Blk} {rs : Option (List Nat)} : Does h (h.new x) rs := ⟨.new h x, fun _ _ => ⟨[], rfl, fun _ hb => by simp at hb⟩⟩

theorem storeAt_keep {h h' : H} {b o : Nat} {vs : List V} (hs : storeAt h b o vs = some h') : Keep h h' ∧ h'.log = b :: h.log := by
  unfold storeAt at hs
  split at hs <;> try simp at hs
  rename_i cs hg
  split at hs <;> try simp at hs
  obtain ⟨_, rfl⟩ := hs
  exact ⟨.put hg (by intro lp e; cases e), rfl⟩

theorem append_keep {esz bytes : Nat} {h h' : H} {s x v : V} (he : appendV esz bytes h s x = .ok v h') : Keep h h' := by
  unfold appendV at he
  split at he <;> try simp only [reduceCtorEq] at he
  split at he <;> try simp only [reduceCtorEq] at he
  split at he <;> try simp only [reduceCtorEq] at he
  split at he <;> try simp only [reduceCtorEq] at he
  · split at he <;> simp at he
    · rw [← he.2]; exact .refl _
    · rw [← he.2]; exact .new _ _
  · split at he <;> simp at he
    · rw [← he.2]; exact .refl _
    · rw [← he.2]; exact .new _ _
  · split at he
    · split at he <;> simp at he
      rename_i hst
      rw [← he.2]
      exact (storeAt_keep hst).1
    · split at he <;> try simp only [reduceCtorEq] at he
      split at he
      · split at he <;> try simp only [reduceCtorEq] at he
        split at he <;> simp at he
        rw [← he.2]; exact .new _ _
      · split at he <;> try simp only [reduceCtorEq] at he
        rename_i hg
        split at he <;> try simp only [reduceCtorEq] at he
        split at he <;> simp at he
        rw [← he.2]
        exact (Keep.kill hg).trans (.new _ _)

theorem copy_keep {esz : Nat} {h h' : H} {d s v : V} (he : copyV esz h d s = .ok v h') : Keep h h' := by
  unfold copyV at he
  split at he <;> try simp at he
  split at he <;> try simp at he
  · rw [← he.2]; exact .refl _
  · split at he <;> try simp at he
    split at he <;> simp at he
    rename_i hst
    rw [← he.2]
    exact (storeAt_keep hst).1

theorem evA_does {call : V → List V → H → RO} {op : A} {t : List V} {h h' : H} {v : V} (hc : ∀ f args h v h', call f args h = .ok v h' → Keep h h') (he : evA call op t h = .ok v h') : Does h h' (reads op t) := by
  have pure' : ∀ (o : Option V), RO.ofV h o = .ok v h' → Does h h' (reads op t) := fun o ho => by rw [(ofV_ok ho).2]; exact .refl
  have here : ∀ u, RO.ok u h = .ok v h' → Does h h' (reads op t) := fun u hu => by simp at hu; rw [← hu.2]; exact .refl
  have fresh : ∀ u x, RO.ok u (h.new x) = .ok v h' → Does h h' (reads op t) := fun u x hu => by simp at hu; rw [← hu.2]; exact .new
  cases op <;> simp only [evA] at he
  case mov => exact here _ he
  case pick => split at he <;> first | exact here _ he | simp at he
  case alloc => exact fresh _ _ he
  case box => exact fresh _ _ he
  case build => split at he <;> first | exact here _ he | simp at he
  case buildSl => split at he <;> first | exact fresh _ _ he | simp at he
  case ld => split at he <;> try simp at he
             split at he <;> try simp at he
             exact pure' _ he
  case ldn => split at he <;> try simp at he
              split at he <;> try simp at he
              split at he <;> first | exact here _ he | simp at he
  case st n x y =>
    split at he <;> try simp at he
    rename_i b o hx
    split at he <;> try simp at he
    split at he <;> simp at he
    rename_i hst
    obtain ⟨h1, h2⟩ := storeAt_keep hst
    obtain ⟨_, rfl⟩ := he
    refine ⟨h1, fun r hr => ⟨[b], h2, fun c hcb => ?_⟩⟩
    simp only [reads, hx, blockOf, Option.some.injEq] at hr
    rw [← hr]; exact hcb
  case nilck => split at he <;> first | exact here _ he | simp at he
  case bin => exact pure' _ he
  case eqv => split at he <;> first | exact here _ he | simp at he
  case un => exact pure' _ he
  case conv => split at he <;> first | exact here _ he | simp at he
  case mkI => exact here _ he
  case mkFn => exact here _ he
  case mkMap => exact fresh _ _ he
  case mkSl => split at he <;> try simp at he
               split at he <;> first | exact fresh _ _ he | simp at he
  case slc => split at he <;> exact pure' _ he
  case slcA => split at he <;> try simp at he
               split at he <;> first | exact here _ he | simp at he
  case slcS => split at he <;> try simp at he
               split at he <;> first | exact here _ he | simp at he
  case fld => split at he <;> first | exact here _ he | simp at he
  case fldv => split at he <;> try simp at he
               split at he <;> first | exact pure' _ he | (split at he <;> first | exact here _ he | simp at he)
  case ixS => split at he <;> try simp at he
              split at he <;> first | exact here _ he | simp at he
  case ixA => split at he <;> try simp at he
              split at he <;> first | exact here _ he | simp at he
  case ixStr => split at he <;> try simp at he
                split at he <;> first | exact here _ he | simp at he
  case ixV => split at he <;> try simp at he
              split at he <;> try simp at he
              split at he <;> first | exact pure' _ he | (split at he <;> first | exact here _ he | simp at he)
  case look => split at he <;> try simp at he
               split at he <;> first | exact here _ he | simp at he
  case mapSet kk x k y =>
    split at he <;> try simp at he
    rename_i b hx
    split at he <;> try simp at he
    rename_i es hg
    split at he <;> try simp at he
    split at he <;> simp at he
    obtain ⟨_, rfl⟩ := he
    refine ⟨.put hg (by intro lp e; cases e), fun r hr => ⟨[b], rfl, fun c hcb => ?_⟩⟩
    simp only [reads, hx, blockOf, Option.some.injEq] at hr
    rw [← hr]; exact hcb
  case ext => split at he <;> first | exact pure' _ he | simp at he
  case call => exact ⟨hc _ _ _ _ _ he, fun r hr => by simp [reads] at hr⟩
  case lenS => split at he <;> first | exact here _ he | simp at he
  case lenL => split at he <;> first | exact here _ he | simp at he
  case lenC => exact here _ he
  case lenM => split at he <;> try simp only [reduceCtorEq] at he
               · exact here _ he
               · split at he <;> first | exact here _ he | simp at he
  case app => exact ⟨append_keep he, fun r hr => by simp [reads] at hr⟩
  case cpy => exact ⟨copy_keep he, fun r hr => by simp [reads] at hr⟩
  case clr =>
    split at he <;> try simp at he
    · obtain ⟨_, rfl⟩ := he
      exact .refl
    · split at he
      · exact here _ he
      · split at he <;> simp at he
        rename_i hst
        rw [← he.2]
        exact ⟨(storeAt_keep hst).1, fun r hr => by simp [reads] at hr⟩
  case min => exact pure' _ he
  case max => exact pure' _ he
  case no => simp at he

theorem runOps_keep {call : V → List V → H → RO} (hc : ∀ f args h v h', call f args h = .ok v h' → Keep h h') : ∀ (l : List O) (t : List V) (h : H) (t' : List V) (h' : H), runOps call l t h = .ok t' h' → Keep h h'
  | [], t, h, t', h', he => by simp [runOps] at he; rw [← he.2]; exact .refl _
  | o :: l, t, h, t', h', he => by
    simp only [runOps] at he
    split at he
    · split at he <;> try simp at he
      rename_i v h1 h2
      exact (evA_does hc h2).1.trans (runOps_keep hc l _ _ _ _ he)
    · exact runOps_keep hc l _ _ _ _ he

theorem oldOnes_lt {n : Nat} : ∀ {l : List Nat} {b : Nat}, b ∈ oldOnes n l → b < n ∧ b ∈ l
  | [], b, hb => by simp [oldOnes] at hb
  | x :: l, b, hb => by
    simp only [oldOnes] at hb
    split at hb
    · rename_i hx
      rcases List.mem_cons.1 hb with rfl | hb
      · exact ⟨by simpa [Nat.blt_eq] using hx, by simp⟩
      · have := oldOnes_lt hb
        exact ⟨this.1, by simp [this.2]⟩
    · have := oldOnes_lt hb
      exact ⟨this.1, by simp [this.2]⟩
theorem mem_oldOnes {n : Nat} : ∀ {l : List Nat} {b : Nat}, b < n → b ∈ l → b ∈ oldOnes n l
  | [], b, _, hb => by simp at hb
  | x :: l, b, hn, hb => by
    simp only [oldOnes]
    rcases List.mem_cons.1 hb with rfl | hb
    · rw [if_pos (by simpa [Nat.blt_eq] using hn)]; simp
    · split
      · exact List.mem_cons.2 (.inr (mem_oldOnes hn hb))
      · exact mem_oldOnes hn hb

theorem runDraw_keep {call : V → List V → H → RO} (hc : ∀ f args h v h', call f args h = .ok v h' → Keep h h') : ∀ (l : List O) (t : List V) (h : H) (f : List Foot) (t' : List V) (h' : H) (f' : List Foot), runDraw call l t h f = .ok t' h' f' → Keep h h'
  | [], t, h, f, t', h', f', he => by simp [runDraw] at he; rw [← he.2.1]; exact .refl _
  | o :: l, t, h, f, t', h', f', he => by
    simp only [runDraw] at he
    split at he
    · split at he <;> try simp at he
      rename_i v h1 h2
      refine Keep.trans ?_ (runDraw_keep hc l _ _ _ _ _ _ he)
      have k := (evA_does hc h2).1
      refine ⟨k.nx, fun w => ⟨(k.wf ⟨w.1, fun _ hb => by simp at hb⟩).1, fun b hb => ?_⟩, k.loop, ?_⟩
      case refine_2 =>
        obtain ⟨l, q1, q2, q3⟩ := k.wr
        simp only [List.append_nil] at q1
        subst q1
        exact ⟨_, rfl, fun b hb hl => q2 b hb (fun hm => hl (mem_oldOnes hb hm)), fun b hb hlt => q3 b (oldOnes_lt hb).2 hlt⟩
      rcases List.mem_append.1 hb with hb | hb
      · exact Nat.lt_of_lt_of_le (oldOnes_lt hb).1 k.nx
      · exact Nat.lt_of_lt_of_le (w.2 b hb) k.nx
    · exact runDraw_keep hc l _ _ _ _ _ _ he

section
variable {tbl : Nat → Option FI} {r : C → List V → H → RC}
theorem callV_keep (hr : ∀ c t h o t' h', r c t h = .ok o t' h' → Keep h h') (f : V) (args : List V) (h : H) (v : V) (h' : H) (he : callV tbl r f args h = .ok v h') : Keep h h' := by
  unfold callV at he
  split at he <;> try simp at he
  · split at he <;> try simp at he
    split at he <;> try simp at he
    rename_i hrun
    split at he <;> try simp at he
    split at he <;> simp at he
    rw [← he.2]
    exact hr _ _ _ _ _ _ hrun
  · split at he <;> try simp at he
    split at he <;> try simp at he
    split at he <;> try simp at he
    rename_i t1 h1 hasg
    split at he <;> try simp at he
    rename_i lp1 hg1
    split at he <;> try simp at he
    split at he <;> try simp at he
    rename_i o2 t2 h2 hbody
    split at he <;> try simp at he
    rename_i lp2 hg2
    split at he <;> try simp at he
    have k1 := hr _ _ _ _ _ _ hasg
    have k2 : Keep h1 (h1.put _ (.loop { lp1 with state := .busy })) := .put hg1 (fun lp _ => ⟨_, rfl⟩)
    have k3 := hr _ _ _ _ _ _ hbody
    split at he <;> simp at he <;> rw [← he.2]
    · exact k1.trans (k2.trans (k3.trans (.put hg2 (fun lp _ => ⟨_, rfl⟩))))
    · exact k1.trans (k2.trans (k3.trans (.put hg2 (fun lp _ => ⟨_, rfl⟩))))

theorem stepC_keep (hr : ∀ c t h o t' h', r c t h = .ok o t' h' → Keep h h') (c : C) (t : List V) (h : H) (o : Out) (t' : List V) (h' : H) (he : stepC tbl r c t h = .ok o t' h') : Keep h h' := by
  have hc := callV_keep (tbl := tbl) hr
  cases c <;> simp only [stepC] at he
  case skip => simp at he; rw [← he.2.2]; exact .refl _
  case ops => split at he <;> simp at he
              rename_i hrun
              rw [← he.2.2]; exact runOps_keep hc _ _ _ _ _ hrun
  case draw => split at he <;> try simp at he
               rename_i hrun
               split at he <;> simp at he
               obtain ⟨_, _, rfl⟩ := he
               exact runDraw_keep hc _ _ _ _ _ _ _ hrun
  case seq => split at he
              · rename_i hrun
                exact (hr _ _ _ _ _ _ hrun).trans (hr _ _ _ _ _ _ he)
              · exact hr _ _ _ _ _ _ he
  case cond => split at he <;> first | exact hr _ _ _ _ _ _ he | simp at he
  case block => split at he
                · rename_i hrun
                  split at he <;> simp at he <;> rw [← he.2.2] <;> exact hr _ _ _ _ _ _ hrun
                · exact hr _ _ _ _ _ _ he
  case loop => split at he
               · rename_i hrun
                 exact (hr _ _ _ _ _ _ hrun).trans (hr _ _ _ _ _ _ he)
               · exact hr _ _ _ _ _ _ he
  case exit => simp at he; rw [← he.2.2]; exact .refl _
  case ret => simp at he; rw [← he.2.2]; exact .refl _
  case rangeF =>
    split at he <;> try simp at he
    split at he <;> try simp at he
    rename_i hrun
    split at he <;> try simp at he
    rename_i hg
    split at he <;> simp at he
    obtain ⟨_, _, rfl⟩ := he
    exact (Keep.new _ _).trans ((hc _ _ _ _ _ hrun).trans (.put hg (fun lp _ => ⟨_, rfl⟩)))
end

theorem E_keep {tbl : Nat → Option FI} : ∀ (k : Nat) (c : C) (t : List V) (h : H) (o : Out) (t' : List V) (h' : H), E tbl k c t h = .ok o t' h' → Keep h h'
  | 0, _, _, _, _, _, _, he => by simp [E] at he
  | k + 1, c, t, h, o, t', h', he => stepC_keep (E_keep k) c t h o t' h' he
end Go.Air
