/-
  A part of the proof of: The row RowsMemory, from the law in Air.
-/
import Derived.Attr
import Derived.Test.YtlldpmkdjpmlpaaMeC
import Derived.Test.YtlldpmkdjpmlpaaMeE
set_option linter.unusedSectionVars false
set_option linter.unusedVariables false
set_option linter.unusedSimpArgs false
set_option maxRecDepth 100000
namespace Go.Air.Try
open Go.Air.Fast
theorem okTree (k : Nat) (fi : FI) (h : tree.get k = some fi) : okFI Go.Proofs.Try.prog k fi = true := by
  have hk : k < 256 := by
    rcases Nat.lt_or_ge k 256 with hk | hk
    · exact hk
    · have h1 : bound tree ≤ 256 := Nat.le_of_ble_eq_true bound_tree
      rw [get_high tree k (by omega)] at h
      cases h
  have := List.all_eq_true.1 all_ok k (List.mem_range.2 hk)
  unfold okAt at this
  rw [h] at this
  exact this
theorem true22 : TrueFn Go.Proofs.Try.prog 22 := by
  obtain ⟨h', he⟩ := run_true alive_air
  have hs : ∀ w : World, Sim Go.Proofs.Try.prog allB (fun _ => none) H.empty.get w := fun w => ⟨fun _ _ _ _ _ hb _ => by simp at hb, fun _ _ _ _ _ _ _ _ _ hb => by simp at hb, fun _ _ _ hb => by simp at hb⟩
  have hall := fun w : World => air_fn (R := fun _ => none) (vs := []) mixed (fun k fi hk => .inl (okTree k fi hk)) he (hs w) (fun _ _ _ => rfl) ⟨fun b _ => by cases b <;> rfl, fun _ hb => by simp [H.empty] at hb⟩ (by simp [concL])
  refine ⟨fun w => (hall w).1, fun w ro n => ((hall w).2 ro n).mono ?_⟩
  intro e w' q
  cases e with
  | returned x =>
    obtain ⟨R', l, f, _, hx⟩ := q
    refine ⟨by simpa [conc] using hx.symm, f.io, f.size, fun c hc => f.frame c hc fun b sz hb => by simp at hb⟩
  | _ => exact q.elim
def tblA (k : Nat) : Option FI := if k = 22 then some trueFI else tree.get k
theorem okA (k : Nat) (fi : FI) (h : tblA k = some fi) : FnOk Go.Proofs.Try.prog k fi := by
  unfold tblA at h
  split at h
  · rename_i hk
    subst hk
    cases h
    exact .inr ⟨rfl, true22⟩
  · exact .inl (okTree k fi h)
end Go.Air.Try
namespace Go.Air
def RC.le (a b : RC) : Prop := a = .fail ∨ a = b
def RO.le (a b : RO) : Prop := a = .fail ∨ a = b
def RL.le (a b : RL) : Prop := a = .fail ∨ a = b
def RD.le (a b : RD) : Prop := a = .fail ∨ a = b
section
variable {tbl : Nat → Option FI} {r r' : C → List V → H → RC}
theorem callV_mono (hr : ∀ c t h, (r c t h).le (r' c t h)) (f : V) (args : List V) (h : H) : (callV tbl r f args h).le (callV tbl r' f args h) := by
  cases f <;> try exact .inr rfl
  case fn g first caps =>
    unfold callV
    simp only
    cases tbl g with
    | none => exact .inr rfl
    | some fi =>
      simp only
      rcases hr fi.body (pad (first ++ args ++ caps) fi.ntmps) h with e | e
      · rw [e]; exact .inl rfl
      · rw [e]; exact .inr rfl
  case yld l =>
    unfold callV
    simp only
    cases h.get l with
    | none => exact .inr rfl
    | some bl =>
      cases bl <;> try exact .inr rfl
      rename_i lp
      simp only
      by_cases hl : Nat.beq args.length lp.params.length = true
      · rw [if_pos hl, if_pos hl]
        rcases hr lp.asg (updAll lp.tmps lp.params args) h with e | e
        · rw [e]; exact .inl rfl
        · rw [e]
          cases hb : r' lp.asg (updAll lp.tmps lp.params args) h with
          | fail => exact .inr rfl
          | ok o t h1 =>
            cases o <;> try exact .inr rfl
            simp only
            cases h1.get l with
            | none => exact .inr rfl
            | some bl =>
              cases bl <;> try exact .inr rfl
              rename_i lp1
              simp only
              split
              · rcases hr lp.body t (h1.put l (.loop { lp1 with state := .busy })) with e | e
                · rw [e]; exact .inl rfl
                · rw [e]; exact .inr rfl
              · exact .inr rfl
      · rw [if_neg hl, if_neg hl]; exact .inr rfl
theorem evA_mono {call call' : V → List V → H → RO} (hc : ∀ f args h, (call f args h).le (call' f args h)) (op : A) (t : List V) (h : H) : (evA call op t h).le (evA call' op t h) := by
  cases op <;> first | exact .inr rfl | exact hc _ _ _
theorem runOps_mono {call call' : V → List V → H → RO} (hc : ∀ f args h, (call f args h).le (call' f args h)) : ∀ (l : List O) (t : List V) (h : H), (runOps call l t h).le (runOps call' l t h)
  | [], _, _ => .inr rfl
  | o :: l, t, h => by
    unfold runOps
    split
    · rcases evA_mono hc o.op t h with e | e
      · rw [e]; exact .inl rfl
      · rw [e]
        split
        · exact runOps_mono hc l _ _
        · exact .inr rfl
    · exact runOps_mono hc l _ _
theorem runDraw_mono {call call' : V → List V → H → RO} (hc : ∀ f args h, (call f args h).le (call' f args h)) : ∀ (l : List O) (t : List V) (h : H) (f : List Foot), (runDraw call l t h f).le (runDraw call' l t h f)
  | [], _, _, _ => .inr rfl
  | o :: l, t, h, f => by
    unfold runDraw
    split
    · rcases evA_mono hc o.op t ⟨h.next, h.mem, []⟩ with e | e
      · rw [e]; exact .inl rfl
      · rw [e]
        split
        · exact runDraw_mono hc l _ _ _
        · exact .inr rfl
    · exact runDraw_mono hc l _ _ _
theorem stepC_mono (hr : ∀ c t h, (r c t h).le (r' c t h)) (c : C) (t : List V) (h : H) : (stepC tbl r c t h).le (stepC tbl r' c t h) := by
  have hc := fun f args h => callV_mono (tbl := tbl) hr f args h
  cases c <;> try exact .inr rfl
  case ops l =>
    unfold stepC
    simp only
    rcases runOps_mono hc l t h with e | e
    · rw [e]; exact .inl rfl
    · rw [e]; exact .inr rfl
  case draw l crit =>
    unfold stepC
    simp only
    rcases runDraw_mono hc l t h [] with e | e
    · rw [e]; exact .inl rfl
    · rw [e]; exact .inr rfl
  case seq a b =>
    unfold stepC
    simp only
    rcases hr a t h with e | e
    · rw [e]; exact .inl rfl
    · rw [e]
      cases r' a t h with
      | fail => exact .inr rfl
      | ok o t' h' => cases o <;> first | exact hr _ _ _ | exact .inr rfl
  case cond x a b =>
    unfold stepC
    simp only
    split
    · exact hr _ _ _
    · exact hr _ _ _
    · exact .inr rfl
  case block id a =>
    unfold stepC
    simp only
    rcases hr a t h with e | e
    · rw [e]; exact .inl rfl
    · rw [e]; exact .inr rfl
  case loop a =>
    unfold stepC
    simp only
    rcases hr a t h with e | e
    · rw [e]; exact .inl rfl
    · rw [e]
      cases r' a t h with
      | fail => exact .inr rfl
      | ok o t' h' => cases o <;> first | exact hr _ _ _ | exact .inr rfl
  case rangeF f ps asg body =>
    unfold stepC
    simp only
    split
    · rename_i g a c _
      rcases hc (.fn g a c) [.yld h.next] (h.new (.loop ⟨.ready, none, t, ps, asg, body⟩)) with e | e
      · rw [e]; exact .inl rfl
      · rw [e]; exact .inr rfl
    · exact .inr rfl
end
section
variable (tbl : Nat → Option FI)
theorem E_succ : ∀ k c t h, (E tbl k c t h).le (E tbl (k + 1) c t h)
  | 0, _, _, _ => .inl rfl
  | k + 1, c, t, h => stepC_mono (E_succ k) c t h
theorem E_le {k m : Nat} (hkm : k ≤ m) (c : C) (t : List V) (h : H) : (E tbl k c t h).le (E tbl m c t h) := by
  induction hkm with
  | refl => exact .inr rfl
  | step _ ih =>
    rcases ih with e | e
    · exact .inl e
    · rw [e]; exact E_succ tbl _ c t h
theorem E_up {k m : Nat} (hkm : k ≤ m) {c : C} {t : List V} {h : H} {o : Out} {t' : List V} {h' : H} (he : E tbl k c t h = .ok o t' h') : E tbl m c t h = .ok o t' h' := by
  rcases E_le tbl hkm c t h with e | e
  · rw [e] at he; cases he
  · rw [← e]; exact he
theorem evA_up {k m : Nat} (hkm : k ≤ m) {op : A} {t : List V} {h h' : H} {v : V} (he : evA (callV tbl (E tbl k)) op t h = .ok v h') : evA (callV tbl (E tbl m)) op t h = .ok v h' := by
  rcases evA_mono (callV_mono (tbl := tbl) (E_le tbl hkm)) op t h with e | e
  · rw [e] at he; cases he
  · rw [← e]; exact he
theorem ops_up {k m : Nat} (hkm : k ≤ m) {l : List O} {t t' : List V} {h h' : H} (he : runOps (callV tbl (E tbl k)) l t h = .ok t' h') : runOps (callV tbl (E tbl m)) l t h = .ok t' h' := by
  rcases runOps_mono (callV_mono (tbl := tbl) (E_le tbl hkm)) l t h with e | e
  · rw [e] at he; cases he
  · rw [← e]; exact he
theorem draw_up {k m : Nat} (hkm : k ≤ m) {l : List O} {t t' : List V} {h h' : H} {f f' : List Foot} (he : runDraw (callV tbl (E tbl k)) l t h f = .ok t' h' f') : runDraw (callV tbl (E tbl m)) l t h f = .ok t' h' f' := by
  rcases runDraw_mono (callV_mono (tbl := tbl) (E_le tbl hkm)) l t h f with e | e
  · rw [e] at he; cases he
  · rw [← e]; exact he
def W (c : C) (t : List V) (h : H) (Q : Out → List V → H → Prop) : Prop := ∃ k o t' h', E tbl k c t h = .ok o t' h' ∧ Q o t' h'
def WC (f : V) (args : List V) (h : H) (Q : V → H → Prop) : Prop := ∃ k v h', callV tbl (E tbl k) f args h = .ok v h' ∧ Q v h'
def WA (op : A) (t : List V) (h : H) (Q : V → H → Prop) : Prop := ∃ k v h', evA (callV tbl (E tbl k)) op t h = .ok v h' ∧ Q v h'
def WL (l : List O) (t : List V) (h : H) (Q : List V → H → Prop) : Prop := ∃ k t' h', runOps (callV tbl (E tbl k)) l t h = .ok t' h' ∧ Q t' h'
def WD (l : List O) (t : List V) (h : H) (f : List Foot) (Q : List V → H → List Foot → Prop) : Prop := ∃ k t' h' f', runDraw (callV tbl (E tbl k)) l t h f = .ok t' h' f' ∧ Q t' h' f'
variable {tbl} {t : List V} {h : H} {Q : Out → List V → H → Prop} {S : V → H → Prop}
theorem W.mono {c : C} {Q' : Out → List V → H → Prop} (hw : W tbl c t h Q) (hq : ∀ o t' h', Q o t' h' → Q' o t' h') : W tbl c t h Q' :=
  let ⟨k, o, t', h', e, q⟩ := hw; ⟨k, o, t', h', e, hq _ _ _ q⟩
theorem WC.mono {f : V} {args : List V} {S' : V → H → Prop} (hw : WC tbl f args h S) (hq : ∀ v h', S v h' → S' v h') : WC tbl f args h S' :=
  let ⟨k, v, h', e, q⟩ := hw; ⟨k, v, h', e, hq _ _ q⟩
theorem WA.mono {op : A} {S' : V → H → Prop} (hw : WA tbl op t h S) (hq : ∀ v h', S v h' → S' v h') : WA tbl op t h S' :=
  let ⟨k, v, h', e, q⟩ := hw; ⟨k, v, h', e, hq _ _ q⟩
theorem W_skip : W tbl .skip t h Q ↔ Q .norm t h :=
  ⟨fun ⟨k, o, t', h', e, q⟩ => by
    cases k with
    | zero => cases e
    | succ k => simp only [E, stepC, RC.ok.injEq] at e; obtain ⟨rfl, rfl, rfl⟩ := e; exact q,
   fun q => ⟨1, _, _, _, rfl, q⟩⟩
theorem W_exit {id : Nat} : W tbl (.exit id) t h Q ↔ Q (.exit id) t h :=
  ⟨fun ⟨k, o, t', h', e, q⟩ => by
    cases k with
    | zero => cases e
    | succ k => simp only [E, stepC, RC.ok.injEq] at e; obtain ⟨rfl, rfl, rfl⟩ := e; exact q,
   fun q => ⟨1, _, _, _, rfl, q⟩⟩
theorem W_ret : W tbl .ret t h Q ↔ Q .ret t h :=
  ⟨fun ⟨k, o, t', h', e, q⟩ => by
    cases k with
    | zero => cases e
    | succ k => simp only [E, stepC, RC.ok.injEq] at e; obtain ⟨rfl, rfl, rfl⟩ := e; exact q,
   fun q => ⟨1, _, _, _, rfl, q⟩⟩
theorem W_ops {l : List O} : W tbl (.ops l) t h Q ↔ WL tbl l t h fun t' h' => Q .norm t' h' :=
  ⟨fun ⟨k, o, t', h', e, q⟩ => by
    cases k with
    | zero => cases e
    | succ k =>
      simp only [E, stepC] at e
      split at e <;> simp only [RC.ok.injEq, reduceCtorEq] at e
      rename_i t1 h1 e1
      obtain ⟨rfl, rfl, rfl⟩ := e
      exact ⟨k, _, _, e1, q⟩,
   fun ⟨k, t', h', e, q⟩ => ⟨k + 1, .norm, t', h', by simp only [E, stepC, e], q⟩⟩
theorem W_draw {l : List O} {crit : List (Nat × Nat)} : W tbl (.draw l crit) t h Q ↔ WD tbl l t h [] fun t' h' f => critOk f crit = true ∧ Q .norm t' h' :=
  ⟨fun ⟨k, o, t', h', e, q⟩ => by
    cases k with
    | zero => cases e
    | succ k =>
      simp only [E, stepC] at e
      split at e <;> try simp only [reduceCtorEq] at e
      rename_i t1 h1 f1 e1
      split at e <;> simp only [RC.ok.injEq, reduceCtorEq] at e
      rename_i hc
      obtain ⟨rfl, rfl, rfl⟩ := e
      exact ⟨k, _, _, _, e1, hc, q⟩,
   fun ⟨k, t', h', f, e, hc, q⟩ => ⟨k + 1, .norm, t', h', by simp only [E, stepC, e, hc, if_true], q⟩⟩
theorem W_seq {a b : C} : W tbl (.seq a b) t h Q ↔ W tbl a t h fun o t' h' => match o with
    | .norm => W tbl b t' h' Q
    | .exit i => Q (.exit i) t' h'
    | .ret => Q .ret t' h' :=
  ⟨fun ⟨k, o, t', h', e, q⟩ => by
    cases k with
    | zero => cases e
    | succ k =>
      simp only [E, stepC] at e
      cases e1 : E tbl k a t h with
      | fail => rw [e1] at e; cases e
      | ok o1 t1 h1 =>
        rw [e1] at e
        refine ⟨k, o1, t1, h1, e1, ?_⟩
        cases o1 with
        | norm => exact ⟨k, _, _, _, e, q⟩
        | exit i => simp only [RC.ok.injEq] at e; obtain ⟨rfl, rfl, rfl⟩ := e; exact q
        | ret => simp only [RC.ok.injEq] at e; obtain ⟨rfl, rfl, rfl⟩ := e; exact q,
   fun ⟨k, o, t', h', e, q⟩ => by
    cases o with
    | norm =>
      obtain ⟨m, o2, t2, h2, e2, q2⟩ := q
      refine ⟨max k m + 1, o2, t2, h2, ?_, q2⟩
      simp only [E, stepC, E_up tbl (Nat.le_max_left k m) e]
      exact E_up tbl (Nat.le_max_right k m) e2
    | exit i => exact ⟨k + 1, _, _, _, by simp only [E, stepC, e], q⟩
    | ret => exact ⟨k + 1, _, _, _, by simp only [E, stepC, e], q⟩⟩
def condV (v : V) (A B : Prop) : Prop := match v with
  | .b true => A
  | .b false => B
  | _ => False
theorem W_cond {x : X} {a b : C} : W tbl (.cond x a b) t h Q ↔ condV (x.ev t) (W tbl a t h Q) (W tbl b t h Q) :=
  ⟨fun ⟨k, o, t', h', e, q⟩ => by
    cases k with
    | zero => cases e
    | succ k =>
      simp only [E, stepC] at e
      split at e
      · rename_i hv; rw [hv]; exact ⟨k, _, _, _, e, q⟩
      · rename_i hv; rw [hv]; exact ⟨k, _, _, _, e, q⟩
      · exact (nomatch e),
   fun q => by
    unfold condV at q
    split at q
    · rename_i hv; obtain ⟨k, o, t', h', e, q⟩ := q; exact ⟨k + 1, o, t', h', by simp only [E, stepC, hv, e], q⟩
    · rename_i hv; obtain ⟨k, o, t', h', e, q⟩ := q; exact ⟨k + 1, o, t', h', by simp only [E, stepC, hv, e], q⟩
    · exact q.elim⟩
theorem W_block {id : Nat} {a : C} : W tbl (.block id a) t h Q ↔ W tbl a t h fun o t' h' => match o with
    | .exit i => if i = id then Q .norm t' h' else Q (.exit i) t' h'
    | .norm => Q .norm t' h'
    | .ret => Q .ret t' h' :=
  ⟨fun ⟨k, o, t', h', e, q⟩ => by
    cases k with
    | zero => cases e
    | succ k =>
      simp only [E, stepC] at e
      cases e1 : E tbl k a t h with
      | fail => rw [e1] at e; cases e
      | ok o1 t1 h1 =>
        rw [e1] at e
        refine ⟨k, o1, t1, h1, e1, ?_⟩
        cases o1 with
        | norm => simp only [RC.ok.injEq] at e; obtain ⟨rfl, rfl, rfl⟩ := e; exact q
        | ret => simp only [RC.ok.injEq] at e; obtain ⟨rfl, rfl, rfl⟩ := e; exact q
        | exit i =>
          simp only at e
          split at e
          · rename_i hb
            rw [Nat.beq_eq] at hb
            simp only [RC.ok.injEq] at e; obtain ⟨rfl, rfl, rfl⟩ := e
            simp only; rw [if_pos hb]; exact q
          · rename_i hb
            have hb : i ≠ id := by simpa using hb
            simp only [RC.ok.injEq] at e; obtain ⟨rfl, rfl, rfl⟩ := e
            simp only; rw [if_neg hb]; exact q,
   fun ⟨k, o, t', h', e, q⟩ => by
    cases o with
    | norm => exact ⟨k + 1, _, _, _, by simp only [E, stepC, e], q⟩
    | ret => exact ⟨k + 1, _, _, _, by simp only [E, stepC, e], q⟩
    | exit i =>
      simp only at q
      split at q
      · rename_i hb
        exact ⟨k + 1, _, _, _, by simp only [E, stepC, e]; rw [if_pos (by rw [Nat.beq_eq]; exact hb)], q⟩
      · rename_i hb
        exact ⟨k + 1, _, _, _, by simp only [E, stepC, e]; rw [if_neg (by simpa using hb)], q⟩⟩
theorem W_loop {a : C} : W tbl (.loop a) t h Q ↔ W tbl a t h fun o t' h' => match o with
    | .norm => W tbl (.loop a) t' h' Q
    | .exit i => Q (.exit i) t' h'
    | .ret => Q .ret t' h' :=
  ⟨fun ⟨k, o, t', h', e, q⟩ => by
    cases k with
    | zero => cases e
    | succ k =>
      simp only [E, stepC] at e
      cases e1 : E tbl k a t h with
      | fail => rw [e1] at e; cases e
      | ok o1 t1 h1 =>
        rw [e1] at e
        refine ⟨k, o1, t1, h1, e1, ?_⟩
        cases o1 with
        | norm => exact ⟨k, _, _, _, e, q⟩
        | exit i => simp only [RC.ok.injEq] at e; obtain ⟨rfl, rfl, rfl⟩ := e; exact q
        | ret => simp only [RC.ok.injEq] at e; obtain ⟨rfl, rfl, rfl⟩ := e; exact q,
   fun ⟨k, o, t', h', e, q⟩ => by
    cases o with
    | norm =>
      obtain ⟨m, o2, t2, h2, e2, q2⟩ := q
      refine ⟨max k m + 1, o2, t2, h2, ?_, q2⟩
      simp only [E, stepC, E_up tbl (Nat.le_max_left k m) e]
      exact E_up tbl (Nat.le_max_right k m) e2
    | exit i => exact ⟨k + 1, _, _, _, by simp only [E, stepC, e], q⟩
    | ret => exact ⟨k + 1, _, _, _, by simp only [E, stepC, e], q⟩⟩
theorem W_loop_inv {a : C} {I : Nat → List V → H → Prop} (hI : ∀ n t h, I n t h → W tbl a t h fun o t' h' => match o with
      | .norm => ∃ m, m < n ∧ I m t' h'
      | .exit i => Q (.exit i) t' h'
      | .ret => Q .ret t' h') : ∀ n t h, I n t h → W tbl (.loop a) t h Q := by
  intro n
  induction n using Nat.strongRecOn with
  | ind n ih =>
    intro t h hi
    refine W_loop.2 ((hI n t h hi).mono ?_)
    intro o t' h' q
    cases o with
    | norm => obtain ⟨m, hm, q⟩ := q; exact ih m hm t' h' q
    | exit i => exact q
    | ret => exact q
def loopOut (v : Option Blk) (S : Loop → Prop) : Prop := match v with
  | some (.loop lp) => S lp
  | _ => False
theorem W_range {f : X} {ps : List Nat} {asg body : C} {g : Nat} {a c : List V} (hf : f.ev t = .fn g a c) : W tbl (.rangeF f ps asg body) t h Q ↔
    WC tbl (.fn g a c) [.yld h.next] (h.new (.loop ⟨.ready, none, t, ps, asg, body⟩)) fun _ h' => loopOut (h'.get h.next) fun lp => lp.state ≠ .busy ∧ Q (lp.pending.getD .norm) t (h'.put h.next (.loop { lp with state := .over })) :=
  ⟨fun ⟨k, o, t', h', e, q⟩ => by
    cases k with
    | zero => cases e
    | succ k =>
      simp only [E, stepC, hf] at e
      split at e <;> try simp only [reduceCtorEq] at e
      rename_i v h1 e1
      split at e <;> try simp only [reduceCtorEq] at e
      rename_i lp hg
      split at e <;> simp only [RC.ok.injEq, reduceCtorEq] at e
      rename_i hb
      obtain ⟨rfl, rfl, rfl⟩ := e
      exact ⟨k, _, _, e1, by show loopOut (h1.get h.next) _; rw [hg]; exact ⟨hb, q⟩⟩,
   fun ⟨k, v, h', e, q⟩ => by
    have q : loopOut (h'.get h.next) fun lp => lp.state ≠ .busy ∧ Q (lp.pending.getD .norm) t (h'.put h.next (.loop { lp with state := .over })) := q
    unfold loopOut at q
    split at q <;> try exact q.elim
    rename_i lp hg
    exact ⟨k + 1, _, _, _, by simp only [E, stepC, hf, e, hg]; rw [if_neg q.1], q.2⟩⟩
theorem WL_nil {S : List V → H → Prop} : WL tbl [] t h S ↔ S t h :=
  ⟨fun ⟨k, t', h', e, q⟩ => by simp only [runOps, RL.ok.injEq] at e; obtain ⟨rfl, rfl⟩ := e; exact q, fun q => ⟨0, _, _, rfl, q⟩⟩
theorem WL_cons {o : O} {l : List O} {S : List V → H → Prop} : WL tbl (o :: l) t h S ↔ if wants o.g t = true then WA tbl o.op t h fun v h' => WL tbl l (putD t o.dst v) h' S else WL tbl l (putD t o.dst .undef) h S := by
  cases hw : wants o.g t with
  | false =>
    simp only [Bool.false_eq_true, if_false]
    exact ⟨fun ⟨k, t', h', e, q⟩ => ⟨k, t', h', by simpa only [runOps, hw] using e, q⟩, fun ⟨k, t', h', e, q⟩ => ⟨k, t', h', by simpa only [runOps, hw] using e, q⟩⟩
  | true =>
    simp only [if_true]
    constructor
    · rintro ⟨k, t', h', e, q⟩
      simp only [runOps, hw] at e
      split at e <;> try simp only [reduceCtorEq] at e
      rename_i v h1 e1
      exact ⟨k, v, h1, e1, k, t', h', e, q⟩
    · rintro ⟨k, v, h1, e1, m, t', h', e, q⟩
      exact ⟨max k m, t', h', by simp only [runOps, hw, evA_up tbl (Nat.le_max_left k m) e1]; exact ops_up tbl (Nat.le_max_right k m) e, q⟩
theorem WD_nil {f : List Foot} {S : List V → H → List Foot → Prop} : WD tbl [] t h f S ↔ S t h f :=
  ⟨fun ⟨k, t', h', f', e, q⟩ => by simp only [runDraw, RD.ok.injEq] at e; obtain ⟨rfl, rfl, rfl⟩ := e; exact q, fun q => ⟨0, _, _, _, rfl, q⟩⟩
theorem WD_cons {o : O} {l : List O} {f : List Foot} {S : List V → H → List Foot → Prop} : WD tbl (o :: l) t h f S ↔ if wants o.g t = true then
    WA tbl o.op t ⟨h.next, h.mem, []⟩ fun v h' => WD tbl l (putD t o.dst v) ⟨h'.next, h'.mem, oldOnes h.next h'.log ++ h.log⟩ (f ++ [⟨reads o.op t, oldOnes h.next h'.log⟩]) S
    else WD tbl l (putD t o.dst .undef) h (f ++ [⟨some [], []⟩]) S := by
  cases hw : wants o.g t with
  | false =>
    simp only [Bool.false_eq_true, if_false]
    exact ⟨fun ⟨k, t', h', f', e, q⟩ => ⟨k, t', h', f', by simpa only [runDraw, hw] using e, q⟩, fun ⟨k, t', h', f', e, q⟩ => ⟨k, t', h', f', by simpa only [runDraw, hw] using e, q⟩⟩
  | true =>
    simp only [if_true]
    constructor
    · rintro ⟨k, t', h', f', e, q⟩
      simp only [runDraw, hw] at e
      split at e <;> try simp only [reduceCtorEq] at e
      rename_i v h1 e1
      exact ⟨k, v, h1, e1, k, t', h', f', e, q⟩
    · rintro ⟨k, v, h1, e1, m, t', h', f', e, q⟩
      exact ⟨max k m, t', h', f', by simp only [runDraw, hw, evA_up tbl (Nat.le_max_left k m) e1]; exact draw_up tbl (Nat.le_max_right k m) e, q⟩
def ROk (r : RO) (S : V → H → Prop) : Prop := match r with
  | .ok v h => S v h
  | .fail => False
theorem ROk_ok {v : V} {S : V → H → Prop} : ROk (.ok v h) S ↔ S v h := Iff.rfl
def A.plain : A → Bool
  | .call .. => false
  | _ => true
theorem evA_plain {op : A} (hp : op.plain = true) (call call' : V → List V → H → RO) : evA call op t h = evA call' op t h := by
  cases op <;> first | rfl | exact (Bool.false_ne_true hp).elim
def noCall : V → List V → H → RO := fun _ _ _ => .fail
theorem WA_plain {op : A} (hp : op.plain = true) : WA tbl op t h S ↔ ROk (evA noCall op t h) S :=
  ⟨fun ⟨k, v, h', e, q⟩ => by rw [evA_plain hp _ (callV tbl (E tbl k)), e]; exact q,
   fun q => by
    cases e : evA noCall op t h with
    | fail => rw [e] at q; exact q.elim
    | ok v h' => rw [e] at q; exact ⟨0, v, h', by rw [evA_plain hp _ noCall, e], q⟩⟩
theorem WA_call {f : X} {args : List X} : WA tbl (.call f args) t h S ↔ WC tbl (f.ev t) (args.map (X.ev t)) h S := Iff.rfl
def resOk (r : Option (List V)) (h : H) (S : V → H → Prop) : Prop := match r with
  | some l => S (packR l) h
  | none => False
theorem WC_fn {g : Nat} {first caps args : List V} {fi : FI} (ht : tbl g = some fi) : WC tbl (.fn g first caps) args h S ↔
    W tbl fi.body (pad (first ++ args ++ caps) fi.ntmps) h fun o t' h' => match o with
      | .exit _ => False
      | .norm => resOk (resultsOf t' h' fi.res) h' S
      | .ret => resOk (resultsOf t' h' fi.res) h' S :=
  ⟨fun ⟨k, v, h', e, q⟩ => by
    simp only [callV, ht] at e
    split at e <;> try simp only [reduceCtorEq] at e
    rename_i o t' h1 e1
    refine ⟨k, o, t', h1, e1, ?_⟩
    cases o <;> simp only [reduceCtorEq] at e ⊢ <;> (split at e <;> simp only [RO.ok.injEq, reduceCtorEq] at e; rename_i l hl; obtain ⟨rfl, rfl⟩ := e; rw [hl]; exact q),
   fun ⟨k, o, t', h', e, q⟩ => by
    cases o
    case exit => exact q.elim
    all_goals
      simp only at q
      unfold resOk at q
      split at q <;> try exact q.elim
      rename_i l hl
      exact ⟨k, _, _, by simp only [callV, ht, e, hl], q⟩⟩
theorem WC_yld {l : Nat} {args : List V} {lp : Loop} (hg : h.get l = some (.loop lp)) (ha : args.length = lp.params.length) : WC tbl (.yld l) args h S ↔
    W tbl lp.asg (updAll lp.tmps lp.params args) h fun o t h1 => match o with
      | .norm => loopOut (h1.get l) fun lp1 => lp1.state = .ready ∧ W tbl lp.body t (h1.put l (.loop { lp1 with state := .busy })) fun o _ h2 => loopOut (h2.get l) fun lp2 => lp2.state = .busy ∧ match o with
        | .norm => S (.b true) (h2.put l (.loop { lp2 with state := .ready, pending := none }))
        | .exit i => S (.b false) (h2.put l (.loop { lp2 with state := .done, pending := some (.exit i) }))
        | .ret => S (.b false) (h2.put l (.loop { lp2 with state := .done, pending := some .ret }))
      | _ => False :=
  ⟨fun ⟨k, v, h', e, q⟩ => by
    simp only [callV, hg] at e
    rw [if_pos (by rw [Nat.beq_eq]; exact ha)] at e
    split at e <;> try simp only [reduceCtorEq] at e
    rename_i t1 h1 e1
    refine ⟨k, _, _, _, e1, ?_⟩
    simp only
    split at e <;> try simp only [reduceCtorEq] at e
    rename_i lp1 g1
    rw [g1]
    split at e <;> try simp only [reduceCtorEq] at e
    rename_i hs1
    refine ⟨hs1, ?_⟩
    split at e <;> try simp only [reduceCtorEq] at e
    rename_i o2 t2 h2 e2
    refine ⟨k, _, _, _, e2, ?_⟩
    split at e <;> try simp only [reduceCtorEq] at e
    rename_i lp2 g2
    rw [g2]
    split at e <;> try simp only [reduceCtorEq] at e
    rename_i hs2
    refine ⟨hs2, ?_⟩
    cases o2 <;> simp only [RO.ok.injEq] at e <;> (obtain ⟨rfl, rfl⟩ := e; exact q),
   fun ⟨k, o, t1, h1, e1, q⟩ => by
    cases o <;> try exact q.elim
    simp only at q
    unfold loopOut at q
    split at q <;> try exact q.elim
    rename_i lp1 g1
    obtain ⟨hs1, m, o2, t2, h2, e2, q⟩ := q
    split at q <;> try exact q.elim
    rename_i lp2 g2
    obtain ⟨hs2, q⟩ := q
    have e1' := E_up tbl (Nat.le_max_left k m) e1
    have e2' := E_up tbl (Nat.le_max_right k m) e2
    cases o2 <;> refine ⟨max k m, _, _, ?_, q⟩ <;> (simp only [callV, hg]; rw [if_pos (by rw [Nat.beq_eq]; exact ha)]; simp only [e1', g1, hs1, if_true, e2', g2, hs2])⟩
end
end Go.Air
namespace Go.Air
structure Ext (h h' : H) : Prop where
  nx : h.next ≤ h'.next
  same : ∀ b, b < h.next → h'.get b = h.get b
  log : ∃ l, h'.log = l ++ h.log ∧ ∀ b ∈ l, h.next ≤ b
theorem Ext.refl (h : H) : Ext h h := ⟨Nat.le_refl _, fun _ _ => rfl, [], rfl, fun _ hb => by simp at hb⟩
theorem Ext.trans {h h1 h2 : H} (a : Ext h h1) (b : Ext h1 h2) : Ext h h2 := by
  refine ⟨Nat.le_trans a.nx b.nx, fun x hx => (b.same x (Nat.lt_of_lt_of_le hx a.nx)).trans (a.same x hx), ?_⟩
  obtain ⟨l, e, hl⟩ := a.log
  obtain ⟨m, e', hm⟩ := b.log
  refine ⟨m ++ l, by rw [e', e, List.append_assoc], fun x hx => ?_⟩
  rcases List.mem_append.1 hx with hx | hx
  · exact Nat.le_trans a.nx (hm x hx)
  · exact hl x hx
theorem Ext.new {h h1 : H} (a : Ext h h1) (x : Blk) : Ext h (h1.new x) :=
  ⟨Nat.le_succ_of_le a.nx, fun b hb => by rw [H.get_new, if_neg (by have := a.nx; omega)]; exact a.same b hb, a.log⟩
theorem Ext.put {h h1 : H} (a : Ext h h1) {b : Nat} (hb : h.next ≤ b) (x : Blk) : Ext h (h1.put b x) := by
  refine ⟨a.nx, fun c hc => by rw [H.get_put, if_neg (by omega)]; exact a.same c hc, ?_⟩
  obtain ⟨l, e, hl⟩ := a.log
  exact ⟨b :: l, by simp [e], fun c hc => by rcases List.mem_cons.1 hc with rfl | hc; exact hb; exact hl c hc⟩
theorem Ext.kill {h h1 : H} (a : Ext h h1) {b : Nat} (hb : h.next ≤ b) : Ext h (h1.kill b) := by
  refine ⟨a.nx, fun c hc => by rw [H.get_kill, if_neg (by omega)]; exact a.same c hc, ?_⟩
  obtain ⟨l, e, hl⟩ := a.log
  exact ⟨b :: l, by simp [e], fun c hc => by rcases List.mem_cons.1 hc with rfl | hc; exact hb; exact hl c hc⟩
def H.bare (h : H) : H := ⟨h.next, h.mem, []⟩
def H.back (h h' : H) : H := ⟨h'.next, h'.mem, oldOnes h.next h'.log ++ h.log⟩
theorem H.get_bare (h : H) (b : Nat) : h.bare.get b = h.get b := rfl
theorem H.next_bare (h : H) : h.bare.next = h.next := rfl
theorem oldOnes_lt' {n : Nat} : ∀ {l : List Nat} {b : Nat}, b ∈ oldOnes n l → b < n ∧ b ∈ l
  | [], b, hb => by simp [oldOnes] at hb
  | x :: l, b, hb => by
    simp only [oldOnes] at hb
    split at hb
    · rename_i hx
      rcases List.mem_cons.1 hb with rfl | hb
      · exact ⟨by simpa [Nat.blt_eq] using hx, by simp⟩
      · have := oldOnes_lt' hb
        exact ⟨this.1, by simp [this.2]⟩
    · have := oldOnes_lt' hb
      exact ⟨this.1, by simp [this.2]⟩
theorem oldOnes_none {n : Nat} : ∀ {l : List Nat}, (∀ b ∈ l, n ≤ b) → oldOnes n l = []
  | [], _ => rfl
  | x :: l, h => by
    have hx : Nat.blt x n = false := by rw [Bool.eq_false_iff, ne_eq, Nat.blt_eq]; exact Nat.not_lt.2 (h x (by simp))
    simp only [oldOnes, hx, Bool.false_eq_true, if_false]
    exact oldOnes_none fun b hb => h b (by simp [hb])
theorem Ext.old {h h' : H} (a : Ext h.bare h') : oldOnes h.next h'.log = [] := by
  obtain ⟨l, e, hl⟩ := a.log
  have : h'.log = l := by rw [e]; simp [H.bare]
  rw [this]
  exact oldOnes_none hl
theorem Ext.back {h h' : H} (a : Ext h.bare h') : Ext h (h.back h') :=
  ⟨a.nx, a.same, [], by simp [H.back, a.old], fun _ hb => by simp at hb⟩
theorem H.back_new (h : H) (x : Blk) : h.back (h.bare.new x) = h.new x := by
  simp [H.back, H.bare, H.new, oldOnes]
theorem H.back_bare (h : H) : h.back h.bare = h := by
  simp [H.back, H.bare, oldOnes]
theorem cutO_nth : ∀ {cs : List (Option V)} {o n : Nat} {l : List V}, cutO cs o n = some l → ∀ i, i < n → nthO cs (o + i) = l[i]?
  | [], 0, 0, _, _, i, hi => by omega
  | _ :: _, 0, 0, _, _, i, hi => by omega
  | [], 0, _ + 1, _, h, i, hi => by simp [cutO] at h
  | [], _ + 1, _, _, h, i, hi => by simp [cutO] at h
  | x :: cs, 0, n + 1, l, h, i, hi => by
    simp only [cutO] at h
    split at h <;> try simp at h
    rename_i v
    obtain ⟨l', h1, rfl⟩ := h
    cases i with
    | zero => simp [nthO]
    | succ i =>
      have := cutO_nth h1 i (by omega)
      simp only [Nat.zero_add] at this ⊢
      simpa [nthO] using this
  | x :: cs, o + 1, n, l, h, i, hi => by
    simp only [cutO] at h
    have := cutO_nth h i hi
    rw [show o + 1 + i = (o + i) + 1 by omega]
    simpa [nthO] using this
theorem cutO_sub : ∀ {cs : List (Option V)} {o n : Nat} {l : List V}, cutO cs o n = some l → ∀ a m, a + m ≤ n → cutO cs (o + a) m = some ((l.drop a).take m)
  | [], 0, 0, l, h, a, m, ha => by
    simp [cutO] at h; subst h
    obtain rfl : a = 0 := by omega
    obtain rfl : m = 0 := by omega
    simp [cutO]
  | y :: cs, 0, 0, l, h, a, m, ha => by
    simp [cutO] at h; subst h
    obtain rfl : a = 0 := by omega
    obtain rfl : m = 0 := by omega
    simp [cutO]
  | [], 0, _ + 1, _, h, a, m, ha => by simp [cutO] at h
  | [], _ + 1, _, _, h, a, m, ha => by simp [cutO] at h
  | x :: cs, 0, n + 1, l, h, a, m, ha => by
    simp only [cutO] at h
    split at h <;> try simp at h
    rename_i v
    obtain ⟨l', h1, rfl⟩ := h
    cases a with
    | zero =>
      cases m with
      | zero => simp [cutO]
      | succ m =>
        have := cutO_sub h1 0 m (by omega)
        simp only [Nat.add_zero, List.drop_zero] at this ⊢
        simp [cutO, this]
    | succ a =>
      have := cutO_sub h1 a m (by omega)
      simp only [Nat.zero_add] at this ⊢
      simpa [cutO] using this
  | x :: cs, o + 1, n, l, h, a, m, ha => by
    simp only [cutO] at h
    have := cutO_sub h a m ha
    rw [show o + 1 + a = (o + a) + 1 by omega]
    simpa [cutO] using this
theorem rd_length {bl : Blk} {o n : Nat} {l : List V} (h : bl.rd o n = some l) : l.length = n := by
  cases bl with
  | cells cs =>
    obtain ⟨h1, rfl⟩ := cut_eq.1 h
    simp; omega
  | ro cs => exact (cutO_eq h).1
  | map _ => cases h
  | loop _ => cases h
theorem rd_nth {bl : Blk} {o n : Nat} {l : List V} (h : bl.rd o n = some l) {i : Nat} (hi : i < n) : bl.rd1 (o + i) = l[i]? := by
  cases bl with
  | cells cs =>
    obtain ⟨h1, rfl⟩ := cut_eq.1 h
    simp only [Blk.rd1, nth?_eq]
    rw [List.getElem?_take_of_lt hi, List.getElem?_drop]
  | ro cs => exact cutO_nth h i hi
  | map _ => cases h
  | loop _ => cases h
theorem rd_sub {bl : Blk} {o n : Nat} {l : List V} (h : bl.rd o n = some l) {a m : Nat} (ha : a + m ≤ n) : bl.rd (o + a) m = some ((l.drop a).take m) := by
  cases bl with
  | cells cs =>
    obtain ⟨h1, rfl⟩ := cut_eq.1 h
    refine cut_eq.2 ⟨by omega, ?_⟩
    rw [List.drop_take, List.drop_drop, List.take_take]
    congr 1; omega
  | ro cs => exact cutO_sub h a m ha
  | map _ => cases h
  | loop _ => cases h
def lenV : V → Option Nat
  | .sn => some 0
  | .se _ => some 0
  | .sl _ _ n _ _ => some n
  | _ => none
def blkV : V → Nat
  | .sl b _ _ _ _ => b
  | _ => 0
def offV : V → Nat
  | .sl _ o _ _ _ => o
  | _ => 0
def ixV (esz : Nat) (v i : V) : Option V := match v, natOf i with
  | .sl b o len _ _, some n => if n < len then some (.p b (o + n * esz)) else none
  | _, _ => none
def ldV (h : H) : V → Option V
  | .p b o => (h.get b).bind fun bl => bl.rd1 o
  | _ => none
def ldnV (h : H) (n : Nat) : V → Option V
  | .p b o => (h.get b).bind fun bl => (bl.rd o n).map .agg
  | _ => none
section
variable {t : List V} {h : H} {x y ix : X}
theorem ev_lenL : evA noCall (.lenL x) t h = RO.ofV h ((lenV (x.ev t)).map fun (n : Nat) => V.i .i64 (n : Int)) := by
  simp only [evA]
  cases x.ev t <;> rfl
theorem ev_ixS {esz : Nat} : evA noCall (.ixS esz x ix) t h = RO.ofV h (ixV esz (x.ev t) (ix.ev t)) := by
  simp only [evA, ixV]
  cases x.ev t <;> first | (cases natOf (ix.ev t) <;> rfl) | skip
  cases natOf (ix.ev t) with
  | none => rfl
  | some n =>
    simp only [Nat.blt_eq]
    split <;> rfl
theorem ev_ld : evA noCall (.ld x) t h = RO.ofV h (ldV h (x.ev t)) := by
  simp only [evA]
  cases x.ev t <;> try rfl
  simp only [ldV]
  cases h.get _ <;> rfl
theorem ev_ldn {n : Nat} : evA noCall (.ldn n x) t h = RO.ofV h (ldnV h n (x.ev t)) := by
  simp only [evA]
  cases x.ev t <;> try rfl
  simp only [ldnV]
  cases h.get _ with
  | none => rfl
  | some bl =>
    simp only [Option.bind_some]
    cases bl.rd _ n <;> rfl
end
def Sl (esz : Nat) (h : H) (v : V) (n : Nat) (cs : List V) : Prop :=
  (n = 0 ∧ cs = [] ∧ (v = .sn ∨ ∃ a, v = .se a)) ∨ ∃ b off cap g bl, v = .sl b off n cap g ∧ b < h.next ∧ h.get b = some bl ∧ bl.rd off (n * esz) = some cs
section
variable {esz n : Nat} {h h' : H} {v : V} {cs : List V}
theorem Sl.len (s : Sl esz h v n cs) : lenV v = some n := by
  rcases s with ⟨rfl, _, rfl | ⟨a, rfl⟩⟩ | ⟨b, off, cap, g, bl, rfl, _⟩ <;> rfl
theorem Sl.slen (s : Sl esz h v n cs) : sourceLen v = some n := by
  rcases s with ⟨rfl, _, rfl | ⟨a, rfl⟩⟩ | ⟨b, off, cap, g, bl, rfl, _⟩ <;> rfl
theorem Sl.length (s : Sl esz h v n cs) : cs.length = n * esz := by
  rcases s with ⟨rfl, rfl, _⟩ | ⟨b, off, cap, g, bl, rfl, _, _, hr⟩
  · simp
  · exact rd_length hr
theorem Sl.ix (s : Sl esz h v n cs) {i : Nat} (hi : i < n) : ixV esz v (.i .i64 (i : Int)) = some (.p (blkV v) (offV v + i * esz)) := by
  rcases s with ⟨rfl, _, _⟩ | ⟨b, off, cap, g, bl, rfl, _⟩
  · omega
  · simp only [ixV]
    rw [show natOf (.i .i64 (i : Int)) = some i from rfl]
    simp [hi, blkV, offV]
theorem Sl.lt (s : Sl esz h v n cs) (hn : 0 < n) : blkV v < h.next := by
  rcases s with ⟨rfl, _, _⟩ | ⟨b, off, cap, g, bl, rfl, hb, _⟩
  · omega
  · exact hb
theorem mul_lt {i n k esz : Nat} (hi : i < n) (hk : k < esz) : i * esz + k < n * esz := by
  have : (i + 1) * esz ≤ n * esz := Nat.mul_le_mul_right _ hi
  rw [Nat.add_mul] at this; omega
theorem Sl.ld (s : Sl esz h v n cs) {i k : Nat} (hi : i < n) (hk : k < esz) : ldV h (.p (blkV v) (offV v + i * esz + k)) = cs[i * esz + k]? := by
  rcases s with ⟨rfl, _, _⟩ | ⟨b, off, cap, g, bl, rfl, _, hg, hr⟩
  · omega
  · simp only [ldV, blkV, offV, hg, Option.bind_some]
    rw [Nat.add_assoc, rd_nth hr (mul_lt hi hk)]
theorem Sl.ld1 (s : Sl 1 h v n cs) {i : Nat} (hi : i < n) : ldV h (.p (blkV v) (offV v + i * 1)) = cs[i]? := by
  have := s.ld (k := 0) hi (by omega)
  simpa using this
theorem Sl.ldn (s : Sl esz h v n cs) {i : Nat} (hi : i < n) : ldnV h esz (.p (blkV v) (offV v + i * esz)) = some (.agg ((cs.drop (i * esz)).take esz)) := by
  rcases s with ⟨rfl, _, _⟩ | ⟨b, off, cap, g, bl, rfl, _, hg, hr⟩
  · omega
  · simp only [ldnV, blkV, offV, hg, Option.bind_some]
    rw [rd_sub hr (by have : (i + 1) * esz ≤ n * esz := Nat.mul_le_mul_right _ hi
                      rw [Nat.add_mul] at this; omega)]
    rfl
theorem Sl.src (s : Sl esz h v n cs) : sourceCells esz n h v = some cs := by
  rcases s with ⟨rfl, rfl, rfl | ⟨a, rfl⟩⟩ | ⟨b, off, cap, g, bl, rfl, _, hg, hr⟩
  · rfl
  · rfl
  · simp only [sourceCells, hg]; exact hr
theorem Sl.ext (s : Sl esz h v n cs) (e : Ext h h') : Sl esz h' v n cs := by
  rcases s with s | ⟨b, off, cap, g, bl, hv, hb, hg, hr⟩
  · exact .inl s
  · exact .inr ⟨b, off, cap, g, bl, hv, Nat.lt_of_lt_of_le hb e.nx, (e.same b hb).trans hg, hr⟩
theorem Sl.bare (s : Sl esz h v n cs) : Sl esz h.bare v n cs := s
theorem Sl.keep (s : Sl esz h v n cs) (hn : h.next ≤ h'.next) (hk : blkV v < h.next → h'.get (blkV v) = h.get (blkV v)) : Sl esz h' v n cs := by
  rcases s with s | ⟨b, off, cap, g, bl, rfl, hb, hg, hr⟩
  · exact .inl s
  · exact .inr ⟨b, off, cap, g, bl, rfl, Nat.lt_of_lt_of_le hb hn, (hk hb).trans hg, hr⟩
def Arg (esz : Nat) (h : H) (v : V) (n : Nat) (cs : List V) : Prop :=
  (n = 0 ∧ cs = [] ∧ (v = .sn ∨ ∃ a, v = .se a)) ∨ ∃ b off cap bl, v = .sl b off n cap none ∧ n ≤ cap ∧ b < h.next ∧ h.get b = some bl ∧ bl.rd off (n * esz) = some cs
theorem Arg.sl (s : Arg esz h v n cs) : Sl esz h v n cs := by
  rcases s with s | ⟨b, off, cap, bl, h1, _, h2⟩
  · exact .inl s
  · exact .inr ⟨b, off, cap, none, bl, h1, h2⟩
theorem Arg.ext (s : Arg esz h v n cs) (e : Ext h h') : Arg esz h' v n cs := by
  rcases s with s | ⟨b, off, cap, bl, hv, hc, hb, hg, hr⟩
  · exact .inl s
  · exact .inr ⟨b, off, cap, bl, hv, hc, Nat.lt_of_lt_of_le hb e.nx, (e.same b hb).trans hg, hr⟩
def slHi (esz : Nat) (v i : V) : Option V := sliceV esz [i] none (some (.t 0)) v
def slLo (esz : Nat) (v i : V) : Option V := sliceV esz [i] (some (.t 0)) none v
def slLH (esz : Nat) (v i j : V) : Option V := sliceV esz [i, j] (some (.t 0)) (some (.t 1)) v
theorem bounds_hi {t : List V} {len cap b : Nat} {x : X} (hb : natOf (x.ev t) = some b) (hc : b ≤ cap) : bounds t len cap none (some x) = some (0, b) := by
  have h1 : Nat.ble b cap = true := by rw [Nat.ble_eq]; exact hc
  have h2 : Nat.ble 0 b = true := by rw [Nat.ble_eq]; omega
  simp only [bounds, hb, h1, h2, if_true]
theorem bounds_lo {t : List V} {len cap a : Nat} {x : X} (ha : natOf (x.ev t) = some a) (hl : len ≤ cap) (hc : a ≤ len) : bounds t len cap (some x) none = some (a, len) := by
  have h1 : Nat.ble len cap = true := by rw [Nat.ble_eq]; exact hl
  have h2 : Nat.ble a len = true := by rw [Nat.ble_eq]; exact hc
  simp only [bounds, ha, h1, h2, if_true]
theorem bounds_lh {t : List V} {len cap a b : Nat} {x y : X} (ha : natOf (x.ev t) = some a) (hb : natOf (y.ev t) = some b) (hl : b ≤ cap) (hc : a ≤ b) : bounds t len cap (some x) (some y) = some (a, b) := by
  have h1 : Nat.ble b cap = true := by rw [Nat.ble_eq]; exact hl
  have h2 : Nat.ble a b = true := by rw [Nat.ble_eq]; exact hc
  simp only [bounds, ha, hb, h1, h2, if_true]
theorem Arg.part (s : Arg esz h v n cs) {a b : Nat} (hab : a ≤ b) (hb : b ≤ n) {lo hi : Option X} {t : List V} (hbd : ∀ cap, n ≤ cap → bounds t n cap lo hi = some (a, b)) :
    ∃ u, sliceV esz t lo hi v = some u ∧ Arg esz h u (b - a) ((cs.drop (a * esz)).take ((b - a) * esz)) := by
  rcases s with ⟨rfl, rfl, hv⟩ | ⟨b', off, cap, bl, rfl, hc, hb', hg', hr⟩
  · obtain rfl : b = 0 := by omega
    obtain rfl : a = 0 := by omega
    have := hbd 0 (Nat.le_refl _)
    rcases hv with rfl | ⟨ad, rfl⟩
    · exact ⟨.sn, by simp only [sliceV, this], .inl ⟨rfl, by simp, .inl rfl⟩⟩
    · exact ⟨.se ad, by simp only [sliceV, this], .inl ⟨rfl, by simp, .inr ⟨ad, rfl⟩⟩⟩
  · have key : bl.rd (off + a * esz) ((b - a) * esz) = some ((cs.drop (a * esz)).take ((b - a) * esz)) := rd_sub hr (by
      have : (a + (b - a)) * esz ≤ n * esz := Nat.mul_le_mul_right _ (by omega)
      rw [Nat.add_mul] at this; exact this)
    simp only [sliceV, hbd cap hc]
    refine ⟨_, rfl, .inr ⟨b', _, cap - a, bl, rfl, by omega, hb', hg', ?_⟩⟩
    by_cases hac : a = cap
    · have h1 : Nat.beq a cap = true := by rw [Nat.beq_eq]; exact hac
      have h0 : b - a = 0 := by omega
      rw [h1, if_pos rfl, h0]
      have := rd_sub hr (a := 0) (m := 0) (by omega)
      simpa using this
    · have h1 : Nat.beq a cap = false := by rw [Bool.eq_false_iff, ne_eq, Nat.beq_eq]; exact hac
      rw [h1, if_neg (by simp)]
      exact key
theorem Arg.hi (s : Arg esz h v n cs) {b : Nat} (hb : b ≤ n) : ∃ u, slHi esz v (.i .i64 (b : Int)) = some u ∧ Arg esz h u b (cs.take (b * esz)) := by
  have := s.part (a := 0) (t := [.i .i64 (b : Int)]) (lo := none) (hi := some (.t 0)) (Nat.zero_le b) hb (fun cap hc => bounds_hi rfl (by omega))
  simpa [slHi] using this
theorem Arg.lo (s : Arg esz h v n cs) {a : Nat} (ha : a ≤ n) : ∃ u, slLo esz v (.i .i64 (a : Int)) = some u ∧ Arg esz h u (n - a) (cs.drop (a * esz)) := by
  have := s.part (b := n) (t := [.i .i64 (a : Int)]) (lo := some (.t 0)) (hi := none) ha (Nat.le_refl n) (fun cap hc => bounds_lo rfl hc ha)
  obtain ⟨u, h1, h2⟩ := this
  refine ⟨u, h1, ?_⟩
  rw [List.take_of_length_le] at h2
  · exact h2
  · have := s.sl.length
    rw [List.length_drop, this, ← Nat.sub_mul]
    exact Nat.le_refl _
end
def Own (h0 : H) (esz : Nat) (h : H) (v : V) (n : Nat) (cs : List V) : Prop :=
  cs.length = n * esz ∧ ((n = 0 ∧ v = .sn) ∨ ∃ b g, v = .sl b 0 n n g ∧ (g = none ∨ g = some esz) ∧ h0.next ≤ b ∧ b < h.next ∧ h.get b = some (.cells cs))
section
variable {esz bytes n m : Nat} {h0 h h' : H} {v x : V} {cs new : List V}
theorem Own.nil : Own h0 esz h .sn 0 [] := ⟨by simp, .inl ⟨rfl, rfl⟩⟩
theorem Own.len (o : Own h0 esz h v n cs) : cs.length = n * esz := o.1
theorem Own.sl (o : Own h0 esz h v n cs) : Sl esz h v n cs := by
  obtain ⟨hl, ⟨rfl, rfl⟩ | ⟨b, g, rfl, _, _, hb, hg⟩⟩ := o
  · exact .inl ⟨rfl, List.eq_nil_of_length_eq_zero (by rw [hl]; simp), .inl rfl⟩
  · refine .inr ⟨b, 0, n, g, _, rfl, hb, hg, ?_⟩
    exact cut_eq.2 ⟨by omega, by rw [← hl]; simp⟩
theorem Own.ge (o : Own h0 esz h v n cs) (hv : v ≠ .sn) : h0.next ≤ blkV v := by
  obtain ⟨hl, ⟨rfl, rfl⟩ | ⟨b, g, rfl, _, hb, _⟩⟩ := o
  · exact absurd rfl hv
  · exact hb
theorem Own.keep (o : Own h0 esz h v n cs) (hn : h.next ≤ h'.next) (hk : blkV v < h.next → h'.get (blkV v) = h.get (blkV v)) : Own h0 esz h' v n cs := by
  obtain ⟨hl, o | ⟨b, g, rfl, hv, h1, h2, hg⟩⟩ := o
  · exact ⟨hl, .inl o⟩
  · exact ⟨hl, .inr ⟨b, g, rfl, hv, h1, Nat.lt_of_lt_of_le h2 hn, (hk h2).trans hg⟩⟩
theorem Own.ext (o : Own h0 esz h v n cs) (e : Ext h h') : Own h0 esz h' v n cs := o.keep e.nx (fun hb => e.same _ hb)
theorem Own.mono {h1 : H} (o : Own h1 esz h v n cs) (hn : h0.next ≤ h1.next) : Own h0 esz h v n cs := by
  obtain ⟨hl, o | ⟨b, g, rfl, hv, q1, q2⟩⟩ := o
  · exact ⟨hl, .inl o⟩
  · exact ⟨hl, .inr ⟨b, g, rfl, hv, Nat.le_trans hn q1, q2⟩⟩
theorem Own.lit (e : Ext h0 h) (cs : List V) (n : Nat) (hn : cs.length = n * esz) : Own h0 esz (h.new (.cells cs)) (.sl h.next 0 n n none) n cs ∧ Ext h0 (h.new (.cells cs)) :=
  ⟨⟨hn, .inr ⟨h.next, none, rfl, .inl rfl, e.nx, by simp, by rw [H.get_new, if_pos rfl]⟩⟩, e.new _⟩
theorem Own.app (o : Own h0 esz h v n cs) (e : Ext h0 h) (s : Sl esz h x m new) (hone : ∀ u ∈ new, u.oneCell = true) (hb : 0 < bytes) (hz : 0 < esz) (hm : (2 * (n + m) + 200) * bytes ≤ 281474976710656) :
    ∃ v' h', appendV esz bytes h v x = .ok v' h' ∧ Ext h0 h' ∧ Own h0 esz h' v' (n + m) (cs ++ new) ∧ h.next ≤ h'.next ∧ (∀ b, b < h.next → (v = .sn ∨ b ≠ blkV v) → h'.get b = h.get b) ∧ (0 < m → blkV v' = h.next) := by
  have hall : new.all V.oneCell = true := List.all_eq_true.2 hone
  have hlim : (Nat.ble ((2 * m + 200) * bytes) 281474976710656 && Nat.blt 0 bytes && Nat.blt 0 esz) = true := by
    have : (2 * m + 200) * bytes ≤ (2 * (n + m) + 200) * bytes := Nat.mul_le_mul_right _ (by omega)
    simp only [Bool.and_eq_true, Nat.ble_eq, Nat.blt_eq]
    exact ⟨⟨by omega, hb⟩, hz⟩
  have hnl := s.length
  unfold appendV
  simp only [s.slen, s.src, hlim, if_true]
  obtain ⟨hl, ⟨rfl, rfl⟩ | ⟨b, g, rfl, hgg, h1, h2, hg⟩⟩ := o
  · obtain rfl : cs = [] := List.eq_nil_of_length_eq_zero (by rw [hl]; simp)
    by_cases hm0 : m = 0
    · subst hm0
      obtain rfl : new = [] := List.eq_nil_of_length_eq_zero (by rw [hnl]; simp)
      exact ⟨.sn, h, rfl, e, .nil, Nat.le_refl _, fun _ _ _ => rfl, fun hm => by omega⟩
    · have : Nat.beq m 0 = false := by rw [Bool.eq_false_iff, ne_eq, Nat.beq_eq]; exact hm0
      simp only [this, Bool.false_eq_true, if_false]
      refine ⟨_, _, rfl, e.new _, ⟨by simp [hnl], .inr ⟨h.next, some esz, by simp, .inr rfl, e.nx, by simp, by rw [H.get_new, if_pos rfl]; simp⟩⟩, by simp, fun c hc _ => by rw [H.get_new, if_neg (by omega)], fun _ => rfl⟩
  · by_cases hm0 : m = 0
    · subst hm0
      obtain rfl : new = [] := List.eq_nil_of_length_eq_zero (by rw [hnl]; simp)
      have h3 : Nat.ble (n + 0) n = true := by rw [Nat.ble_eq]; omega
      have h4 : lay cs (n * esz) [] = some cs := lay_eq.2 ⟨by simp; omega, by simp⟩
      have hs : storeAt h b (0 + n * esz) [] = some (h.put b (.cells cs)) := by
        simp only [storeAt, hg, Nat.zero_add, h4, List.all_nil, if_true]
      simp only [h3, if_true, hs]
      refine ⟨_, _, rfl, e.put h1 _, ⟨by simpa using hl, .inr ⟨b, g, by simp, hgg, h1, h2, by rw [H.get_put, if_pos rfl]; simp⟩⟩, by simp, fun c _ hc => by rw [H.get_put, if_neg (by simpa [blkV] using hc)], fun hm => by omega⟩
    · have h3 : Nat.ble (n + m) n = false := by rw [Bool.eq_false_iff, ne_eq, Nat.ble_eq]; omega
      have h4 : Nat.ble ((2 * (n + m) + 200) * bytes) 281474976710656 = true := by rw [Nat.ble_eq]; exact hm
      have h5 : cut cs 0 (n * esz) = some cs := cut_eq.2 ⟨by omega, by rw [← hl]; simp⟩
      have h6 : Nat.beq cs.length (n * esz) = true := by rw [Nat.beq_eq]; exact hl
      have h7 : Nat.beq esz esz = true := by simp
      have h8 : Nat.beq 0 0 = true := rfl
      rcases hgg with rfl | rfl
      · simp only [h3, Bool.false_eq_true, if_false, h4, if_true, hg, Blk.rd, h5]
        refine ⟨_, _, rfl, e.new _, ⟨by simp [hl, hnl, Nat.add_mul], .inr ⟨h.next, some esz, by simp, .inr rfl, e.nx, by simp, by rw [H.get_new, if_pos rfl]⟩⟩, by simp, fun c hc hcb => ?_, fun _ => rfl⟩
        rw [H.get_new, if_neg (by omega)]
      · simp only [h3, Bool.false_eq_true, if_false, h4, if_true, hg, h5, h6, h7, h8, hall, Bool.and_self]
        refine ⟨_, _, rfl, (e.kill h1).new _, ⟨by simp [hl, hnl, Nat.add_mul], .inr ⟨h.next, some esz, by simp, .inr rfl, e.nx, by simp, by rw [H.get_kn, if_pos rfl]⟩⟩, by simp, fun c hc hcb => ?_, fun _ => rfl⟩
        rw [H.get_kn, if_neg (by omega), if_neg (by simpa [blkV] using hcb)]
theorem storeAt_bare {b o : Nat} {vs : List V} {h h' : H} (hs : storeAt h b o vs = some h') : ∃ l, h'.log = l ++ h.log ∧ storeAt h.bare b o vs = some ⟨h'.next, h'.mem, l⟩ := by
  unfold storeAt at hs ⊢
  rw [H.get_bare]
  split at hs <;> try simp only [reduceCtorEq] at hs
  split at hs <;> try simp only [reduceCtorEq] at hs
  split at hs <;> simp only [Option.some.injEq, reduceCtorEq] at hs
  rename_i q1 _ cs' q2 q3
  subst hs
  exact ⟨[b], rfl, by simp only [q2, q3, if_true]; rfl⟩
theorem source_bare {h : H} {esz n : Nat} {x : V} : sourceCells esz n h.bare x = sourceCells esz n h x := by cases x <;> rfl
theorem append_bare {esz bytes : Nat} {h h' : H} {v x v' : V} (ha : appendV esz bytes h v x = .ok v' h') : ∃ l, h'.log = l ++ h.log ∧ appendV esz bytes h.bare v x = .ok v' ⟨h'.next, h'.mem, l⟩ := by
  unfold appendV at ha ⊢
  cases q1 : sourceLen x with
  | none => simp only [q1, reduceCtorEq] at ha
  | some n =>
    simp only [q1] at ha ⊢
    rw [source_bare]
    cases q2 : sourceCells esz n h x with
    | none => simp only [q2, reduceCtorEq] at ha
    | some new =>
      simp only [q2] at ha ⊢
      split at ha <;> try simp only [reduceCtorEq] at ha
      rename_i q3
      rw [if_pos q3]
      cases v <;> try simp only [reduceCtorEq] at ha
      case sn =>
        simp only at ha ⊢
        split at ha <;> (rename_i q4; simp only [RO.ok.injEq] at ha; obtain ⟨rfl, rfl⟩ := ha)
        · rw [if_pos q4]; exact ⟨[], rfl, rfl⟩
        · rw [if_neg q4]; exact ⟨[], rfl, rfl⟩
      case se a =>
        simp only at ha ⊢
        split at ha <;> (rename_i q4; simp only [RO.ok.injEq] at ha; obtain ⟨rfl, rfl⟩ := ha)
        · rw [if_pos q4]; exact ⟨[], rfl, rfl⟩
        · rw [if_neg q4]; exact ⟨[], rfl, rfl⟩
      case sl blk off len cap g =>
        simp only at ha ⊢
        split at ha
        · rename_i q4
          rw [if_pos q4]
          split at ha <;> simp only [RO.ok.injEq, reduceCtorEq] at ha
          rename_i hs
          obtain ⟨rfl, rfl⟩ := ha
          obtain ⟨l, e1, e2⟩ := storeAt_bare hs
          exact ⟨l, e1, by rw [e2]⟩
        · rename_i q4
          rw [if_neg q4]
          split at ha <;> try simp only [reduceCtorEq] at ha
          rename_i q5
          rw [if_pos q5]
          cases g with
          | none =>
            simp only [H.get_bare] at ha ⊢
            cases q6 : h.get blk with
            | none => simp only [q6, reduceCtorEq] at ha
            | some bl =>
              simp only [q6] at ha ⊢
              cases q7 : bl.rd off (len * esz) with
              | none => simp only [q7, reduceCtorEq] at ha
              | some old =>
                simp only [q7, RO.ok.injEq] at ha ⊢
                obtain ⟨rfl, rfl⟩ := ha
                exact ⟨[], rfl, rfl, rfl⟩
          | some e =>
            simp only [H.get_bare] at ha ⊢
            cases q6 : h.get blk with
            | none => simp only [q6, reduceCtorEq] at ha
            | some bl =>
              cases bl <;> simp only [q6, reduceCtorEq] at ha ⊢
              rename_i cs
              cases q7 : cut cs off (len * esz) with
              | none => simp only [q7, reduceCtorEq] at ha
              | some old =>
                simp only [q7] at ha ⊢
                split at ha <;> simp only [RO.ok.injEq, reduceCtorEq] at ha
                rename_i q8
                rw [if_pos q8]
                obtain ⟨rfl, rfl⟩ := ha
                exact ⟨[blk], rfl, rfl⟩
theorem oldOnes_mem {n : Nat} : ∀ {l : List Nat} {b : Nat}, b ∈ oldOnes n l → b ∈ l := fun hb => (oldOnes_lt' hb).2
theorem Own.appB (o : Own h0 esz h v n cs) (e : Ext h0 h) (s : Sl esz h x m new) (hone : ∀ u ∈ new, u.oneCell = true) (hb : 0 < bytes) (hz : 0 < esz) (hm : (2 * (n + m) + 200) * bytes ≤ 281474976710656) :
    ∃ v' hb g, appendV esz bytes h.bare v x = .ok v' hb ∧ h.back hb = g ∧ Ext h0 g ∧ Own h0 esz g v' (n + m) (cs ++ new) ∧ h.next ≤ g.next ∧ (∀ b, b < h.next → (v = .sn ∨ b ≠ blkV v) → g.get b = h.get b) ∧ (0 < m → blkV v' = h.next) := by
  obtain ⟨v', h', q1, q2, q3, q4, q5, q6⟩ := o.app e s hone hb hz hm
  obtain ⟨l, e1, e2⟩ := append_bare q1
  refine ⟨v', _, _, e2, rfl, ⟨q2.nx, q2.same, ?_⟩, ?_, q4, q5, q6⟩
  · obtain ⟨l1, f1, f2⟩ := e.log
    obtain ⟨l2, g1, g2⟩ := q2.log
    refine ⟨oldOnes h.next l ++ l1, by simp [H.back, f1], fun b hb => ?_⟩
    rcases List.mem_append.1 hb with hb | hb
    · have hb := oldOnes_mem hb
      have : l2 = l ++ l1 := by
        rw [e1, f1, ← List.append_assoc] at g1
        exact (List.append_cancel_right g1).symm
      exact g2 b (by rw [this]; exact List.mem_append_left _ hb)
    · exact f2 b hb
  · obtain ⟨hl, o | ⟨b, gg, r1, r2, r3, r4, r5⟩⟩ := q3
    · exact ⟨hl, .inl o⟩
    · exact ⟨hl, .inr ⟨b, gg, r1, r2, r3, r4, r5⟩⟩
end
end Go.Air
namespace Go.Air
variable {tbl : Nat → Option FI} {t t' : List V} {h h' : H} {Q : Out → List V → H → Prop} {S : V → H → Prop} {T : List V → H → Prop} {U : List V → H → List Foot → Prop}
def Kseq (tbl : Nat → Option FI) (b : C) (Q : Out → List V → H → Prop) (o : Out) (t : List V) (h : H) : Prop := match o with
  | .norm => W tbl b t h Q
  | .exit i => Q (.exit i) t h
  | .ret => Q .ret t h
def Kblk (id : Nat) (Q : Out → List V → H → Prop) (o : Out) (t : List V) (h : H) : Prop := match o with
  | .exit i => if i = id then Q .norm t h else Q (.exit i) t h
  | .norm => Q .norm t h
  | .ret => Q .ret t h
def Kops (Q : Out → List V → H → Prop) (t : List V) (h : H) : Prop := Q .norm t h
def Kput (tbl : Nat → Option FI) (d : Option Nat) (l : List O) (T : List V → H → Prop) (t : List V) (v : V) (h : H) : Prop := WL tbl l (putD t d v) h T
def Kdrw (tbl : Nat → Option FI) (d : Option Nat) (l : List O) (U : List V → H → List Foot → Prop) (t : List V) (f : List Foot) (r : Option (List Nat)) (h : H) (v : V) (h' : H) : Prop :=
  WD tbl l (putD t d v) (h.back h') (f ++ [⟨r, oldOnes h.next h'.log⟩]) U
def Kcrit (crit : List (Nat × Nat)) (Q : Out → List V → H → Prop) (t : List V) (h : H) (f : List Foot) : Prop := critOk f crit = true ∧ Q .norm t h
def Kfn (res : List ResV) (S : V → H → Prop) (o : Out) (t : List V) (h : H) : Prop := match o with
  | .exit _ => False
  | .norm => resOk (resultsOf t h res) h S
  | .ret => resOk (resultsOf t h res) h S
def Kloop (I : Nat → List V → H → Prop) (n : Nat) (Q : Out → List V → H → Prop) (o : Out) (t : List V) (h : H) : Prop := match o with
  | .norm => ∃ m, m < n ∧ I m t h
  | .exit i => Q (.exit i) t h
  | .ret => Q .ret t h
def guardB (b : Bool) (A B : Prop) : Prop := if b = true then A else B
@[go_sem ↓] theorem W_seq' {a b : C} : W tbl (.seq a b) t h Q ↔ W tbl a t h (Kseq tbl b Q) := W_seq
@[go_sem ↓] theorem W_block' {id : Nat} {a : C} : W tbl (.block id a) t h Q ↔ W tbl a t h (Kblk id Q) := W_block
@[go_sem ↓] theorem W_ops' {l : List O} : W tbl (.ops l) t h Q ↔ WL tbl l t h (Kops Q) := W_ops
def WE (tbl : Nat → Option FI) : List O → List V → H → (List V → H → Prop) → Prop
  | [], t, h, T => T t h
  | o :: l, t, h, T => if wants o.g t = true then WA tbl o.op t h.bare (fun v h' => WE tbl l (putD t o.dst v) (h.back h') T) else WE tbl l (putD t o.dst .undef) h T
theorem WD_WE {T : List V → H → Prop} : ∀ {l : List O} {t : List V} {h : H} {f : List Foot}, WD tbl l t h f (fun t h _ => T t h) ↔ WE tbl l t h T
  | [], _, _, _ => WD_nil
  | o :: l, t, h, f => by
    rw [WD_cons]
    simp only [WE]
    split
    · constructor
      · exact fun w => w.mono fun v h' q => WD_WE.1 q
      · exact fun w => w.mono fun v h' q => WD_WE.2 q
    · exact WD_WE
def Kdr0 (tbl : Nat → Option FI) (d : Option Nat) (l : List O) (T : List V → H → Prop) (t : List V) (h : H) (v : V) (h' : H) : Prop := WE tbl l (putD t d v) (h.back h') T
@[go_sem ↓] theorem Kdr0_eq {d : Option Nat} {l : List O} {T : List V → H → Prop} {v : V} : Kdr0 tbl d l T t h v h' ↔ WE tbl l (putD t d v) (h.back h') T := Iff.rfl
@[go_sem ↓] theorem WE_nil {T : List V → H → Prop} : WE tbl [] t h T ↔ T t h := Iff.rfl
@[go_sem ↓] theorem WE_plain {d : Option Nat} {op : A} {l : List O} {T : List V → H → Prop} : WE tbl (⟨d, none, op⟩ :: l) t h T ↔ WA tbl op t h.bare (Kdr0 tbl d l T t h) := by
  simp [WE, wants]; rfl
@[go_sem ↓] theorem WE_guard {d : Option Nat} {op : A} {l : List O} {n : Nat} {w : Bool} {T : List V → H → Prop} : WE tbl (⟨d, some (n, w), op⟩ :: l) t h T ↔
    guardB (wants (some (n, w)) t) (WA tbl op t h.bare (Kdr0 tbl d l T t h)) (WE tbl l (putD t d .undef) h T) := Iff.rfl
@[go_sem ↓ high] theorem W_draw0 {l : List O} : W tbl (.draw l []) t h Q ↔ WE tbl l t h (Kops Q) := by
  rw [W_draw, ← WD_WE (f := [])]
  have : (fun t' h' f => critOk f [] = true ∧ Q .norm t' h') = fun t h (_ : List Foot) => Kops Q t h := by
    funext t' h' f
    simp [critOk, Kops]
  rw [this]
@[go_sem ↓] theorem W_draw' {l : List O} {crit : List (Nat × Nat)} : W tbl (.draw l crit) t h Q ↔ WD tbl l t h [] (Kcrit crit Q) := W_draw
attribute [go_sem ↓] W_skip W_exit W_ret W_cond WL_nil WD_nil WA_call
attribute [go_sem] ROk_ok
section
variable {b : C} {id i : Nat} {l : List O} {d : Option Nat} {v : V} {f : List Foot} {r : Option (List Nat)} {crit : List (Nat × Nat)} {res : List ResV} {I : Nat → List V → H → Prop} {n : Nat} {op : A} {A B : Prop}
@[go_sem ↓] theorem Kseq_norm : Kseq tbl b Q .norm t h ↔ W tbl b t h Q := Iff.rfl
@[go_sem ↓] theorem Kseq_exit : Kseq tbl b Q (.exit i) t h ↔ Q (.exit i) t h := Iff.rfl
@[go_sem ↓] theorem Kseq_ret : Kseq tbl b Q .ret t h ↔ Q .ret t h := Iff.rfl
@[go_sem ↓] theorem Kblk_norm : Kblk id Q .norm t h ↔ Q .norm t h := Iff.rfl
@[go_sem ↓] theorem Kblk_ret : Kblk id Q .ret t h ↔ Q .ret t h := Iff.rfl
@[go_sem ↓] theorem Kblk_exit : Kblk id Q (.exit i) t h ↔ guardB (Nat.beq i id) (Q .norm t h) (Q (.exit i) t h) := by simp [Kblk, guardB]
@[go_sem ↓] theorem Kops_eq : Kops Q t h ↔ Q .norm t h := Iff.rfl
@[go_sem ↓] theorem Kput_eq {T : List V → H → Prop} : Kput tbl d l T t v h ↔ WL tbl l (putD t d v) h T := Iff.rfl
@[go_sem ↓] theorem Kdrw_eq : Kdrw tbl d l U t f r h v h' ↔ WD tbl l (putD t d v) (h.back h') (f ++ [⟨r, oldOnes h.next h'.log⟩]) U := Iff.rfl
@[go_sem ↓] theorem Kcrit_eq : Kcrit crit Q t h f ↔ critOk f crit = true ∧ Q .norm t h := Iff.rfl
@[go_sem ↓] theorem Kfn_norm : Kfn res S .norm t h ↔ resOk (resultsOf t h res) h S := Iff.rfl
@[go_sem ↓] theorem Kfn_ret : Kfn res S .ret t h ↔ resOk (resultsOf t h res) h S := Iff.rfl
@[go_sem ↓] theorem Kloop_norm : Kloop I n Q .norm t h ↔ ∃ m, m < n ∧ I m t h := Iff.rfl
@[go_sem ↓] theorem Kloop_exit : Kloop I n Q (.exit i) t h ↔ Q (.exit i) t h := Iff.rfl
@[go_sem ↓] theorem Kloop_ret : Kloop I n Q .ret t h ↔ Q .ret t h := Iff.rfl
@[go_sem ↓] theorem WL_plain {T : List V → H → Prop} : WL tbl (⟨d, none, op⟩ :: l) t h T ↔ WA tbl op t h (Kput tbl d l T t) := by
  rw [WL_cons]; simp [wants, Kput]; rfl
@[go_sem ↓] theorem WL_guard {T : List V → H → Prop} {w : Bool} : WL tbl (⟨d, some (n, w), op⟩ :: l) t h T ↔ guardB (wants (some (n, w)) t) (WA tbl op t h (Kput tbl d l T t)) (WL tbl l (putD t d .undef) h T) := WL_cons
@[go_sem ↓] theorem WD_plain : WD tbl (⟨d, none, op⟩ :: l) t h f U ↔ WA tbl op t h.bare (Kdrw tbl d l U t f (reads op t) h) := by
  rw [WD_cons]; simp [wants, H.bare]; rfl
@[go_sem ↓] theorem WD_guard {w : Bool} : WD tbl (⟨d, some (n, w), op⟩ :: l) t h f U ↔
    guardB (wants (some (n, w)) t) (WA tbl op t h.bare (Kdrw tbl d l U t f (reads op t) h)) (WD tbl l (putD t d .undef) h (f ++ [⟨some [], []⟩]) U) := WD_cons
@[go_sem] theorem guardB_true : guardB true A B ↔ A := by simp [guardB]
@[go_sem] theorem guardB_false : guardB false A B ↔ B := by simp [guardB]
@[go_sem] theorem condV_true : condV (.b true) A B ↔ A := Iff.rfl
@[go_sem] theorem condV_false : condV (.b false) A B ↔ B := Iff.rfl
@[go_sem] theorem resOk_some {l : List V} : resOk (some l) h S ↔ S (packR l) h := Iff.rfl
@[go_sem] theorem loopOut_some {lp : Loop} {L : Loop → Prop} : loopOut (some (.loop lp)) L ↔ L lp := Iff.rfl
theorem WC_fn' {g : Nat} {first caps args : List V} {fi : FI} (ht : tbl g = some fi) : WC tbl (.fn g first caps) args h S ↔ W tbl fi.body (pad (first ++ args ++ caps) fi.ntmps) h (Kfn fi.res S) := WC_fn ht
theorem WC_in {g : Nat} {args : List V} {m : Nat} {res : List ResV} {body : C} (ht : tbl g = some ⟨m, res, body⟩) : WC tbl (.fn g [] []) args h S ↔ W tbl body (pad args m) h (Kfn res S) := by
  rw [WC_fn' ht]; simp
theorem W_while {a : C} (I : Nat → List V → H → Prop) (hI : ∀ n t h, I n t h → W tbl a t h (Kloop I n Q)) (n : Nat) (hi : I n t h) : W tbl (.loop a) t h Q :=
  W_loop_inv (I := I) (fun n t h hi => hI n t h hi) n t h hi
end
attribute [go_sem] eq_self reduceCtorEq Int.reduceEq Int.reduceLT Int.reduceLE Int.reduceAdd Int.reduceSub Int.reduceMul Int.reduceNe decide_true decide_false Bool.not_true Bool.not_false
@[go_sem] theorem beq_tf : (true == false) = false := rfl
@[go_sem] theorem beq_ff : (false == false) = true := rfl
@[go_sem] theorem beq_tt : (true == true) = true := rfl
@[go_sem] theorem beq_ft : (false == true) = false := rfl
theorem beq_self' (n : Nat) : Nat.beq n n = true := by simp
theorem beq_ne {m n : Nat} (h : m ≠ n) : Nat.beq m n = false := by rw [Bool.eq_false_iff, ne_eq, Nat.beq_eq]; exact h
attribute [go_sem] beq_self'
@[go_sem] theorem beq_dec' (m n : Nat) : Nat.beq m n = decide (m = n) := by rw [Bool.eq_iff_iff]; simp
attribute [go_sem] H.back_bare H.back_new H.get_bare H.next_bare
@[go_sem] theorem ldV_bare (v : V) : ldV h.bare v = ldV h v := by cases v <;> rfl
@[go_sem] theorem ldnV_bare (n : Nat) (v : V) : ldnV h.bare n v = ldnV h n v := by cases v <;> rfl
@[go_sem] theorem critOk_nil (f : List Foot) : critOk f [] = true := rfl
theorem upd_length (t : List V) (n : Nat) (v : V) : (upd t n v).length = t.length := by rw [upd_eq]; simp
theorem nth_upd (t : List V) (n m : Nat) (v : V) : nth (upd t n v) m = if n = m then (if n < t.length then v else nth t m) else nth t m := by
  rw [upd_eq, nth_eq, nth_eq, List.getD_eq_getElem?_getD, List.getD_eq_getElem?_getD, List.getElem?_set]
  by_cases h : n = m
  · subst h
    by_cases h2 : n < t.length
    · simp [h2]
    · simp only [if_pos True.intro, if_neg h2, if_true]
      rw [List.getElem?_eq_none (by omega)]
  · simp [h]
attribute [go_sem] nth_upd upd_length Nat.reduceEqDiff Nat.reduceLT
@[go_sem] theorem nth_pad (l : List V) (n k : Nat) : nth (pad l n) k = nth l k := by
  rw [nth_eq, nth_eq, List.getD_eq_getElem?_getD, List.getD_eq_getElem?_getD]
  unfold pad
  by_cases h : k < l.length
  · rw [List.getElem?_append_left h]
  · rw [List.getElem?_append_right (by omega), List.getElem?_eq_none (l := l) (by omega)]
    by_cases h2 : k - l.length < n - l.length
    · rw [List.getElem?_replicate, if_pos h2]; rfl
    · rw [List.getElem?_replicate, if_neg h2]
@[go_sem] theorem pad_length (l : List V) (n : Nat) : (pad l n).length = l.length + (n - l.length) := by simp [pad]
@[go_sem] theorem nth_0 (x : V) (l : List V) : nth (x :: l) 0 = x := rfl
@[go_sem] theorem nth_1 (x y : V) (l : List V) : nth (x :: y :: l) 1 = y := rfl
@[go_sem] theorem nth_2 (x y z : V) (l : List V) : nth (x :: y :: z :: l) 2 = z := rfl
@[go_sem] theorem nth_3 (x y z u : V) (l : List V) : nth (x :: y :: z :: u :: l) 3 = u := rfl
attribute [go_sem] List.length_cons List.length_nil Nat.reduceAdd Nat.reduceSub
@[go_sem] theorem putD_none (t : List V) (v : V) : putD t none v = t := rfl
@[go_sem] theorem putD_some (t : List V) (n : Nat) (v : V) : putD t (some n) v = upd t n v := rfl
@[go_sem] theorem ev_t (t : List V) (n : Nat) : (X.t n).ev t = nth t n := rfl
@[go_sem] theorem ev_c (t : List V) (v : V) : (X.c v).ev t = v := rfl
@[go_sem] theorem ev_f (t : List V) (n : Nat) : (X.f n).ev t = .fn n [] [] := rfl
def wantV (v : V) (w : Bool) : Bool := match v with
  | .b x => x == w
  | _ => false
@[go_sem] theorem wants_some (n : Nat) (w : Bool) (t : List V) : wants (some (n, w)) t = wantV (nth t n) w := rfl
@[go_sem] theorem wantV_b (x w : Bool) : wantV (.b x) w = (x == w) := rfl
attribute [go_sem] List.map_nil List.map_cons
@[go_sem] theorem lenV_sn : lenV .sn = some 0 := rfl
@[go_sem] theorem lenV_sl {b o n c : Nat} {g : Option Nat} : lenV (.sl b o n c g) = some n := rfl
@[go_sem] theorem natCast_zero : ((0 : Nat) : Int) = 0 := rfl
def pickV (c a b : V) : Option V := match c with
  | .b true => some a
  | .b false => some b
  | _ => none
def stV (h : H) (n : Nat) (p v : V) : Option H := match p with
  | .p b o => if Nat.beq v.cells.length n then storeAt h b o v.cells else none
  | _ => none
def fldP (off : Nat) : V → Option V
  | .p b o => some (.p b (o + off))
  | _ => none
def extV (n : Nat) : V → Option V
  | .tup c => nth? c n
  | _ => none
def lookV (h : H) (kk : KK) (m k : V) : Option (Option V) :=
  if kk.fits k then (match m with
    | .mn => some none
    | .m b => match h.get b with
      | some (.map es) => find kk k es
      | _ => none
    | _ => none) else none
def lookR (zero : V) (ok : Bool) (r : Option V) : V := if ok then .tup [r.getD zero, .b r.isSome] else r.getD zero
def mapSetV (h : H) (kk : KK) (m k v : V) : Option H := match m with
  | .m b => match h.get b with
    | some (.map es) => if kk.fits k then (mput kk k v es).map fun es' => h.put b (.map es') else none
    | _ => none
  | _ => none
def lenMV (h : H) : V → Option Nat
  | .mn => some 0
  | .m b => match h.get b with
    | some (.map es) => some es.length
    | _ => none
  | _ => none
def RO.ofH : Option H → RO
  | some h => .ok .undef h
  | none => .fail
variable {x y z k : X}
theorem ev_mov : evA noCall (.mov x) t h = .ok (x.ev t) h := rfl
theorem ev_pick : evA noCall (.pick x y z) t h = RO.ofV h (pickV (x.ev t) (y.ev t) (z.ev t)) := by
  simp only [evA]
  cases x.ev t <;> try rfl
  rename_i b
  cases b <;> rfl
theorem ev_alloc {c : List V} : evA noCall (.alloc c) t h = .ok (.p h.next 0) (h.new (.cells c)) := rfl
theorem ev_box : evA noCall (.box x) t h = .ok (.p h.next 0) (h.new (.cells (x.ev t).cells)) := rfl
theorem ev_build {c : List V} {ps : List (Nat × Nat × X)} : evA noCall (.build c ps) t h = RO.ofV h ((fill t c ps).map .agg) := by
  simp only [evA]; cases fill t c ps <;> rfl
def bslR (h : H) (len : Nat) : Option (List V) → RO
  | some c => .ok (.sl h.next 0 len len none) (h.new (.cells c))
  | none => .fail
@[go_sem] theorem bslR_some {len : Nat} {c : List V} : bslR h len (some c) = .ok (.sl h.next 0 len len none) (h.new (.cells c)) := rfl
theorem ev_buildSl {c : List V} {n : Nat} {ps : List (Nat × Nat × X)} : evA noCall (.buildSl c n ps) t h = bslR h n (fill t c ps) := by
  simp only [evA]; cases fill t c ps <;> rfl
theorem ev_st {n : Nat} : evA noCall (.st n x y) t h = RO.ofH (stV h n (x.ev t) (y.ev t)) := by
  simp only [evA, stV]
  cases x.ev t <;> try rfl
  simp only
  split
  · cases storeAt h _ _ (y.ev t).cells <;> rfl
  · rfl
theorem ev_bin {op : BinOp} : evA noCall (.bin op x y) t h = RO.ofV h (binV op (x.ev t) (y.ev t)) := rfl
theorem ev_eqv {neg : Bool} {kd : EqK} : evA noCall (.eqv neg kd x y) t h = RO.ofV h ((eqV kd (x.ev t) (y.ev t)).map fun r => .b (if neg then !r else r)) := by
  simp only [evA]; cases eqV kd (x.ev t) (y.ev t) <;> rfl
theorem ev_un {op : UnOp} : evA noCall (.un op x) t h = RO.ofV h (unV op (x.ev t)) := rfl
def convV (kd : IntKind) : V → Option V
  | .i _ n => some (.i kd (kd.wrap n))
  | _ => none
theorem ev_conv {kd : IntKind} : evA noCall (.conv kd x) t h = RO.ofV h (convV kd (x.ev t)) := by
  simp only [evA]; cases x.ev t <;> rfl
theorem ev_mkFn {f : Nat} {a c : List X} : evA noCall (.mkFn f a c) t h = .ok (.fn f (a.map (X.ev t)) (c.map (X.ev t))) h := rfl
theorem ev_mkMap : evA noCall .mkMap t h = .ok (.m h.next) (h.new (.map [])) := rfl
def mkSlR (h : H) (c : List V) (bytes : Nat) : Option Nat → Option Nat → RO
  | some l, some m => if Nat.ble l m && Nat.ble m 281474976710656 && Nat.ble (bytes * m) 281474976710656 then .ok (.sl h.next 0 l m none) (h.new (.cells (rep c m))) else .fail
  | _, _ => .fail
theorem ev_mkSl {c : List V} {bytes : Nat} : evA noCall (.mkSl c bytes x y) t h = mkSlR h c bytes (natOf (x.ev t)) (natOf (y.ev t)) := by
  simp only [evA]
  cases natOf (x.ev t) <;> cases natOf (y.ev t) <;> rfl
theorem ev_slcH {esz : Nat} : evA noCall (.slc esz x none (some y) none) t h = RO.ofV h (slHi esz (x.ev t) (y.ev t)) := rfl
theorem ev_slcL {esz : Nat} : evA noCall (.slc esz x (some y) none none) t h = RO.ofV h (slLo esz (x.ev t) (y.ev t)) := rfl
theorem ev_slcLH {esz : Nat} : evA noCall (.slc esz x (some y) (some z) none) t h = RO.ofV h (slLH esz (x.ev t) (y.ev t) (z.ev t)) := rfl
theorem ev_fld {off : Nat} : evA noCall (.fld off x) t h = RO.ofV h (fldP off (x.ev t)) := by
  simp only [evA]; cases x.ev t <;> rfl
def fldvV (off : Nat) (sz : Option Nat) : V → Option V
  | .agg c => match sz with
    | none => nth? c off
    | some n => (cut c off n).map .agg
  | _ => none
theorem ev_fldv {off : Nat} {sz : Option Nat} : evA noCall (.fldv off sz x) t h = RO.ofV h (fldvV off sz (x.ev t)) := by
  simp only [evA]
  cases x.ev t <;> try rfl
  cases sz with
  | none => rfl
  | some n =>
    simp only [fldvV]
    cases cut _ off n <;> rfl
theorem ev_look {kk : KK} {zero : V} {ok : Bool} : evA noCall (.look kk zero ok x k) t h = RO.ofV h ((lookV h kk (x.ev t) (k.ev t)).map (lookR zero ok)) := by
  simp only [evA, lookV]
  by_cases hk : kk.fits (k.ev t) = true
  · simp only [if_pos hk]
    cases x.ev t <;> try rfl
    simp only
    cases h.get _ with
    | none => rfl
    | some bl =>
      cases bl <;> try rfl
      simp only
      cases find kk (k.ev t) _ <;> rfl
  · simp only [if_neg hk]
    rfl
theorem ev_mapSet {kk : KK} : evA noCall (.mapSet kk x k y) t h = RO.ofH (mapSetV h kk (x.ev t) (k.ev t) (y.ev t)) := by
  simp only [evA, mapSetV]
  cases x.ev t <;> try rfl
  simp only
  cases h.get _ with
  | none => rfl
  | some bl =>
    cases bl <;> try rfl
    simp only
    by_cases hk : kk.fits (k.ev t) = true
    · simp only [if_pos hk]
      cases mput kk (k.ev t) (y.ev t) _ <;> rfl
    · simp only [if_neg hk]
      rfl
theorem ev_ext {n : Nat} : evA noCall (.ext x n) t h = RO.ofV h (extV n (x.ev t)) := by
  simp only [evA]; cases x.ev t <;> rfl
theorem ev_lenC {n : Nat} : evA noCall (.lenC n) t h = .ok (.i .i64 (n : Int)) h := rfl
theorem ev_lenM : evA noCall (.lenM x) t h = RO.ofV h ((lenMV h (x.ev t)).map fun (n : Nat) => V.i .i64 (n : Int)) := by
  simp only [evA, lenMV]
  cases x.ev t <;> try rfl
  simp only
  cases h.get _ with
  | none => rfl
  | some bl => cases bl <;> rfl
theorem ev_app {esz bytes : Nat} : evA noCall (.app esz bytes x y) t h = appendV esz bytes h (x.ev t) (y.ev t) := rfl
theorem ev_cpy {esz : Nat} : evA noCall (.cpy esz x y) t h = copyV esz h (x.ev t) (y.ev t) := rfl
theorem ev_min {xs : List X} : evA noCall (.min xs) t h = RO.ofV h (minL false (xs.map (X.ev t))) := rfl
theorem ev_max {xs : List X} : evA noCall (.max xs) t h = RO.ofV h (minL true (xs.map (X.ev t))) := rfl
def ixAV (len esz : Nat) (v i : V) : Option V := match v, natOf i with
  | .p b o, some n => if n < len then some (.p b (o + n * esz)) else none
  | _, _ => none
theorem ev_ixA {len esz : Nat} : evA noCall (.ixA len esz x y) t h = RO.ofV h (ixAV len esz (x.ev t) (y.ev t)) := by
  simp only [evA, ixAV]
  cases x.ev t <;> first | (cases natOf (y.ev t) <;> rfl) | skip
  cases natOf (y.ev t) with
  | none => rfl
  | some n =>
    simp only [Nat.blt_eq]
    split <;> rfl
theorem ixA_ok {len esz b o n : Nat} (hn : n < len) : ixAV len esz (.p b o) (.i .i64 (n : Int)) = some (.p b (o + n * esz)) := by
  simp only [ixAV]
  rw [show natOf (.i .i64 (n : Int)) = some n from rfl]
  simp [hn]
theorem WA_of {op : A} {r : RO} (hp : op.plain = true) (he : evA noCall op t h = r) : WA tbl op t h S ↔ ROk r S := by rw [WA_plain hp, he]
@[go_sem ↓] theorem wa_mov : WA tbl (.mov x) t h S ↔ ROk (.ok (x.ev t) h) S := WA_of rfl ev_mov
@[go_sem ↓] theorem wa_pick : WA tbl (.pick x y z) t h S ↔ ROk (RO.ofV h (pickV (x.ev t) (y.ev t) (z.ev t))) S := WA_of rfl ev_pick
@[go_sem ↓] theorem wa_alloc {c : List V} : WA tbl (.alloc c) t h S ↔ ROk (.ok (.p h.next 0) (h.new (.cells c))) S := WA_of rfl ev_alloc
@[go_sem ↓] theorem wa_box : WA tbl (.box x) t h S ↔ ROk (.ok (.p h.next 0) (h.new (.cells (x.ev t).cells))) S := WA_of rfl ev_box
@[go_sem ↓] theorem wa_build {c : List V} {ps : List (Nat × Nat × X)} : WA tbl (.build c ps) t h S ↔ ROk (RO.ofV h ((fill t c ps).map .agg)) S := WA_of rfl ev_build
@[go_sem ↓] theorem wa_buildSl {c : List V} {n : Nat} {ps : List (Nat × Nat × X)} : WA tbl (.buildSl c n ps) t h S ↔ ROk (bslR h n (fill t c ps)) S := WA_of rfl ev_buildSl
@[go_sem ↓] theorem wa_st {n : Nat} : WA tbl (.st n x y) t h S ↔ ROk (RO.ofH (stV h n (x.ev t) (y.ev t))) S := WA_of rfl ev_st
@[go_sem ↓] theorem wa_bin {op : BinOp} : WA tbl (.bin op x y) t h S ↔ ROk (RO.ofV h (binV op (x.ev t) (y.ev t))) S := WA_of rfl ev_bin
@[go_sem ↓] theorem wa_eqv {neg : Bool} {kd : EqK} : WA tbl (.eqv neg kd x y) t h S ↔ ROk (RO.ofV h ((eqV kd (x.ev t) (y.ev t)).map fun r => .b (if neg then !r else r))) S := WA_of rfl ev_eqv
@[go_sem ↓] theorem wa_un {op : UnOp} : WA tbl (.un op x) t h S ↔ ROk (RO.ofV h (unV op (x.ev t))) S := WA_of rfl ev_un
@[go_sem ↓] theorem wa_conv {kd : IntKind} : WA tbl (.conv kd x) t h S ↔ ROk (RO.ofV h (convV kd (x.ev t))) S := WA_of rfl ev_conv
@[go_sem ↓] theorem wa_mkFn {f : Nat} {a c : List X} : WA tbl (.mkFn f a c) t h S ↔ ROk (.ok (.fn f (a.map (X.ev t)) (c.map (X.ev t))) h) S := WA_of rfl ev_mkFn
@[go_sem ↓] theorem wa_mkMap : WA tbl .mkMap t h S ↔ ROk (.ok (.m h.next) (h.new (.map []))) S := WA_of rfl ev_mkMap
@[go_sem ↓] theorem wa_mkSl {c : List V} {bytes : Nat} : WA tbl (.mkSl c bytes x y) t h S ↔ ROk (mkSlR h c bytes (natOf (x.ev t)) (natOf (y.ev t))) S := WA_of rfl ev_mkSl
@[go_sem ↓] theorem wa_slcH {esz : Nat} : WA tbl (.slc esz x none (some y) none) t h S ↔ ROk (RO.ofV h (slHi esz (x.ev t) (y.ev t))) S := WA_of rfl ev_slcH
@[go_sem ↓] theorem wa_slcL {esz : Nat} : WA tbl (.slc esz x (some y) none none) t h S ↔ ROk (RO.ofV h (slLo esz (x.ev t) (y.ev t))) S := WA_of rfl ev_slcL
@[go_sem ↓] theorem wa_slcLH {esz : Nat} : WA tbl (.slc esz x (some y) (some z) none) t h S ↔ ROk (RO.ofV h (slLH esz (x.ev t) (y.ev t) (z.ev t))) S := WA_of rfl ev_slcLH
@[go_sem ↓] theorem wa_fld {off : Nat} : WA tbl (.fld off x) t h S ↔ ROk (RO.ofV h (fldP off (x.ev t))) S := WA_of rfl ev_fld
@[go_sem ↓] theorem wa_fldv {off : Nat} {sz : Option Nat} : WA tbl (.fldv off sz x) t h S ↔ ROk (RO.ofV h (fldvV off sz (x.ev t))) S := WA_of rfl ev_fldv
@[go_sem ↓] theorem wa_look {kk : KK} {zero : V} {ok : Bool} : WA tbl (.look kk zero ok x k) t h S ↔ ROk (RO.ofV h ((lookV h kk (x.ev t) (k.ev t)).map (lookR zero ok))) S := WA_of rfl ev_look
@[go_sem ↓] theorem wa_mapSet {kk : KK} : WA tbl (.mapSet kk x k y) t h S ↔ ROk (RO.ofH (mapSetV h kk (x.ev t) (k.ev t) (y.ev t))) S := WA_of rfl ev_mapSet
@[go_sem ↓] theorem wa_ext {n : Nat} : WA tbl (.ext x n) t h S ↔ ROk (RO.ofV h (extV n (x.ev t))) S := WA_of rfl ev_ext
@[go_sem ↓] theorem wa_lenC {n : Nat} : WA tbl (.lenC n) t h S ↔ ROk (.ok (.i .i64 (n : Int)) h) S := WA_of rfl ev_lenC
@[go_sem ↓] theorem wa_lenM : WA tbl (.lenM x) t h S ↔ ROk (RO.ofV h ((lenMV h (x.ev t)).map fun (n : Nat) => V.i .i64 (n : Int))) S := WA_of rfl ev_lenM
@[go_sem ↓] theorem wa_app {esz bytes : Nat} : WA tbl (.app esz bytes x y) t h S ↔ ROk (appendV esz bytes h (x.ev t) (y.ev t)) S := WA_of rfl ev_app
@[go_sem ↓] theorem wa_cpy {esz : Nat} : WA tbl (.cpy esz x y) t h S ↔ ROk (copyV esz h (x.ev t) (y.ev t)) S := WA_of rfl ev_cpy
@[go_sem ↓] theorem wa_min {xs : List X} : WA tbl (.min xs) t h S ↔ ROk (RO.ofV h (minL false (xs.map (X.ev t)))) S := WA_of rfl ev_min
@[go_sem ↓] theorem wa_max {xs : List X} : WA tbl (.max xs) t h S ↔ ROk (RO.ofV h (minL true (xs.map (X.ev t)))) S := WA_of rfl ev_max
@[go_sem ↓] theorem wa_ld : WA tbl (.ld x) t h S ↔ ROk (RO.ofV h (ldV h (x.ev t))) S := WA_of rfl ev_ld
@[go_sem ↓] theorem wa_ldn {n : Nat} : WA tbl (.ldn n x) t h S ↔ ROk (RO.ofV h (ldnV h n (x.ev t))) S := WA_of rfl ev_ldn
@[go_sem ↓] theorem wa_ixS {esz : Nat} : WA tbl (.ixS esz x k) t h S ↔ ROk (RO.ofV h (ixV esz (x.ev t) (k.ev t))) S := WA_of rfl ev_ixS
@[go_sem ↓] theorem wa_ixA {len esz : Nat} : WA tbl (.ixA len esz x y) t h S ↔ ROk (RO.ofV h (ixAV len esz (x.ev t) (y.ev t))) S := WA_of rfl ev_ixA
@[go_sem ↓] theorem wa_lenL : WA tbl (.lenL x) t h S ↔ ROk (RO.ofV h ((lenV (x.ev t)).map fun (n : Nat) => V.i .i64 (n : Int))) S := WA_of rfl ev_lenL
@[go_sem] theorem ofV_some {v : V} : RO.ofV h (some v) = .ok v h := rfl
@[go_sem] theorem ofH_some : RO.ofH (some h) = .ok .undef h := rfl
attribute [go_sem] Option.map_some Option.bind_some Option.getD_some Option.getD_none true_and and_true
@[go_sem] theorem pickV_t {a b : V} : pickV (.b true) a b = some a := rfl
@[go_sem] theorem pickV_f {a b : V} : pickV (.b false) a b = some b := rfl
@[go_sem] theorem fldP_p {b o off : Nat} : fldP off (.p b o) = some (.p b (o + off)) := rfl
@[go_sem] theorem extV_0 {a : V} {l : List V} : extV 0 (.tup (a :: l)) = some a := rfl
@[go_sem] theorem extV_1 {a b : V} {l : List V} : extV 1 (.tup (a :: b :: l)) = some b := rfl
@[go_sem] theorem convV_i {kd kd' : IntKind} {n : Int} : convV kd (.i kd' n) = some (.i kd (kd.wrap n)) := rfl
@[go_sem] theorem lookR_f {zero : V} {r : Option V} : lookR zero false r = r.getD zero := rfl
@[go_sem] theorem lookR_t {zero : V} {r : Option V} : lookR zero true r = .tup [r.getD zero, .b r.isSome] := rfl
@[go_sem] theorem packR_1 {v : V} : packR [v] = v := rfl
@[go_sem] theorem packR_2 {u v : V} {l : List V} : packR (u :: v :: l) = .tup (u :: v :: l) := rfl
@[go_sem] theorem packR_0 : packR [] = .tup [] := rfl
@[go_sem] theorem res_nil : resultsOf t h [] = some [] := rfl
@[go_sem] theorem res_tmp {n : Nat} {l : List ResV} : resultsOf t h (.tmp n :: l) = (resultsOf t h l).map (nth t n :: ·) := rfl
def fill1 (v : V) : Option (List V) := if Nat.beq v.cells.length 1 then some v.cells else none
@[go_sem] theorem fill_one {z0 : V} : fill t [z0] [(0, 1, x)] = fill1 (x.ev t) := by
  simp only [fill, fill1]
  split
  · rename_i hl
    cases hc : (x.ev t).cells with
    | nil => rw [hc] at hl; simp at hl
    | cons u l =>
      cases l with
      | nil => simp [lay]
      | cons _ _ => rw [hc] at hl; simp at hl
  · rfl
def fill2 (x y : V) : Option (List V) := if Nat.beq x.cells.length 1 then (if Nat.beq y.cells.length 1 then some (x.cells ++ y.cells) else none) else none
@[go_sem] theorem fill_two {z0 z1 : V} : fill t [z0, z1] [(0, 1, x), (1, 1, y)] = fill2 (x.ev t) (y.ev t) := by
  simp only [fill, fill2]
  split
  · rename_i hl
    cases hc : (x.ev t).cells with
    | nil => rw [hc] at hl; simp at hl
    | cons u l =>
      cases l with
      | cons _ _ => rw [hc] at hl; simp at hl
      | nil =>
        simp only [lay, Option.map_some]
        split
        · rename_i hl2
          cases hd : (y.ev t).cells with
          | nil => rw [hd] at hl2; simp at hl2
          | cons u2 l2 =>
            cases l2 with
            | cons _ _ => rw [hd] at hl2; simp at hl2
            | nil => simp [lay]
        · rfl
  · rfl
@[go_sem] theorem fill2_ii {kd kd' : IntKind} {m n : Int} : fill2 (.i kd m) (.i kd' n) = some [.i kd m, .i kd' n] := rfl
def fillR (z0 x : V) : Option (List V) := if Nat.beq x.cells.length 1 then some (z0 :: x.cells) else none
@[go_sem] theorem fill_at1 {z0 z1 : V} : fill t [z0, z1] [(1, 1, x)] = fillR z0 (x.ev t) := by
  simp only [fill, fillR]
  split
  · rename_i hl
    cases hc : (x.ev t).cells with
    | nil => rw [hc] at hl; simp at hl
    | cons u l =>
      cases l with
      | nil => simp [lay]
      | cons _ _ => rw [hc] at hl; simp at hl
  · rfl
@[go_sem] theorem fillR_i {z0 : V} {kd : IntKind} {n : Int} : fillR z0 (.i kd n) = some [z0, .i kd n] := rfl
theorem fill2_of {x y : V} (hx : x.cells = [x]) (hy : y.cells = [y]) : fill2 x y = some [x, y] := by simp [fill2, hx, hy]
def fillA (k : Nat) (v : V) : Option (List V) := if Nat.beq v.cells.length k then some v.cells else none
@[go_sem] theorem fill_agg2 {z0 z1 : V} : fill t [z0, z1] [(0, 2, x)] = fillA 2 (x.ev t) := by
  simp only [fill, fillA]
  split
  · rename_i hl
    cases hc : (x.ev t).cells with
    | nil => rw [hc] at hl; simp at hl
    | cons u l =>
      cases l with
      | nil => rw [hc] at hl; simp at hl
      | cons u2 l2 =>
        cases l2 with
        | cons _ _ => rw [hc] at hl; simp at hl
        | nil => simp [lay]
  · rfl
@[go_sem] theorem fillA_2 {a b : V} : fillA 2 (.agg [a, b]) = some [a, b] := rfl
@[go_sem] theorem fill1_i {kd : IntKind} {n : Int} : fill1 (.i kd n) = some [.i kd n] := rfl
@[go_sem] theorem fill1_sl {b o l c : Nat} {g : Option Nat} : fill1 (.sl b o l c g) = some [.sl b o l c g] := rfl
@[go_sem] theorem fill1_sn : fill1 .sn = some [.sn] := rfl
def encM (l : List (Int × V)) : List (V × V) := l.map fun p => (.i .i64 p.1, p.2)
def insI (x : Int) (v : V) : List (Int × V) → List (Int × V)
  | [] => [(x, v)]
  | p :: l => if x = p.1 then (p.1, v) :: l else p :: insI x v l
def lkp (x : Int) : List (Int × V) → Option V
  | [] => none
  | p :: l => if x = p.1 then some p.2 else lkp x l
theorem find_int (x : Int) : ∀ l : List (Int × V), find (.sc (.i .i64)) (.i .i64 x) (encM l) = some (lkp x l)
  | [] => rfl
  | p :: l => by
    have hf : (KK.sc (.i .i64)).fits (.i .i64 p.1) = true := rfl
    have ih := find_int x l
    simp only [encM] at ih
    simp only [encM, List.map_cons, find, hf, if_true, lkp, keyEq, scalarEq, ih, decide_eq_true_eq]
    split <;> rfl
theorem mput_int (x : Int) (v : V) : ∀ l : List (Int × V), mput (.sc (.i .i64)) (.i .i64 x) v (encM l) = some (encM (insI x v l))
  | [] => rfl
  | p :: l => by
    have hf : (KK.sc (.i .i64)).fits (.i .i64 p.1) = true := rfl
    have ih := mput_int x v l
    simp only [encM] at ih
    simp only [encM, List.map_cons, mput, hf, if_true, keyEq, scalarEq, ih, insI, decide_eq_true_eq]
    by_cases h : x = p.1
    · simp [h]
    · simp [h]
theorem lkp_ins (x : Int) (v : V) (y : Int) : ∀ l : List (Int × V), lkp y (insI x v l) = if y = x then some v else lkp y l
  | [] => by simp only [insI, lkp]
  | p :: l => by
    have ih := lkp_ins x v y l
    simp only [insI]
    by_cases h : x = p.1
    · rw [if_pos h]
      simp only [lkp, h]
      split <;> rfl
    · rw [if_neg h]
      simp only [lkp, ih]
      by_cases h2 : y = p.1
      · rw [if_pos h2, if_pos h2, if_neg (by omega)]
      · rw [if_neg h2, if_neg h2]
theorem lookV_int {m : Nat} {l : List (Int × V)} (hg : h.get m = some (.map (encM l))) (x : Int) : lookV h (.sc (.i .i64)) (.m m) (.i .i64 x) = some (lkp x l) := by
  have hf : (KK.sc (.i .i64)).fits (.i .i64 x) = true := rfl
  simp only [lookV, hf, if_true, hg, find_int]
theorem mapSetV_int {m : Nat} {l : List (Int × V)} (hg : h.get m = some (.map (encM l))) (x : Int) (v : V) : mapSetV h (.sc (.i .i64)) (.m m) (.i .i64 x) v = some (h.put m (.map (encM (insI x v l)))) := by
  have hf : (KK.sc (.i .i64)).fits (.i .i64 x) = true := rfl
  simp only [mapSetV, hg, hf, if_true, mput_int, Option.map_some]
@[go_sem] theorem lookV_bare (kk : KK) (m k : V) : lookV h.bare kk m k = lookV h kk m k := rfl
@[go_sem] theorem lenMV_bare (m : V) : lenMV h.bare m = lenMV h m := rfl
theorem back_put {h : H} {b : Nat} (hb : b < h.next) (x : Blk) : h.back (h.bare.put b x) = h.put b x := by
  have : Nat.blt b h.next = true := by rw [Nat.blt_eq]; exact hb
  simp [H.back, H.bare, H.put, oldOnes, this]
theorem old_bare (h : H) (n : Nat) : oldOnes n h.bare.log = [] := rfl
attribute [go_sem] Option.isSome_some Option.isSome_none
@[go_sem] theorem un_not {b : Bool} : unV .not (.b b) = some (.b !b) := rfl
theorem wrap_in {n : Int} (h0 : -9223372036854775808 ≤ n) (h1 : n ≤ 9223372036854775807) : IntKind.i64.wrap n = n :=
  by exact IntWalk.i64_in _ (by omega)
section
variable {a b : Int} {kd : IntKind}
@[go_sem] theorem bin_add : binV .add (.i .i64 a) (.i .i64 b) = some (.i .i64 (IntKind.i64.wrap (a + b))) := rfl
@[go_sem] theorem bin_sub : binV .sub (.i .i64 a) (.i .i64 b) = some (.i .i64 (IntKind.i64.wrap (a - b))) := rfl
@[go_sem] theorem bin_mul : binV .mul (.i .i64 a) (.i .i64 b) = some (.i .i64 (IntKind.i64.wrap (a * b))) := rfl
@[go_sem] theorem bin_lss : binV .lss (.i kd a) (.i kd b) = some (.b (decide (a < b))) := by simp [binV, binI]
@[go_sem] theorem bin_leq : binV .leq (.i kd a) (.i kd b) = some (.b (decide (a ≤ b))) := by simp [binV, binI]
@[go_sem] theorem bin_gtr : binV .gtr (.i kd a) (.i kd b) = some (.b (decide (b < a))) := by simp [binV, binI]
@[go_sem] theorem bin_geq : binV .geq (.i kd a) (.i kd b) = some (.b (decide (b ≤ a))) := by simp [binV, binI]
@[go_sem] theorem bin_eql : binV .eql (.i kd a) (.i kd b) = some (.b (decide (a = b))) := by simp [binV, binI]
@[go_sem] theorem bin_neq : binV .neq (.i kd a) (.i kd b) = some (.b (!decide (a = b))) := by simp [binV, binI]
@[go_sem] theorem eqV_bool {p q : Bool} : eqV .bool (.b p) (.b q) = some (p == q) := rfl
@[go_sem] theorem natOf_nat {n : Nat} : natOf (.i kd (n : Int)) = some n := rfl
@[go_sem] theorem natOf_0 : natOf (.i kd 0) = some 0 := rfl
@[go_sem] theorem natOf_1 : natOf (.i kd 1) = some 1 := rfl
end
end Go.Air
set_option maxRecDepth 100000
namespace Go.Air
open Go.Air.Try
def ints (xs : List Int) : List V := xs.map (V.i .i64)
theorem ints_one {xs : List Int} : ∀ u ∈ ints xs, u.oneCell = true := by
  intro u hu
  obtain ⟨x, _, rfl⟩ := List.mem_map.1 hu
  rfl
theorem ints_get (xs : List Int) (i : Nat) : (ints xs)[i]? = xs[i]?.map (V.i .i64) := by simp [ints]
theorem wrap_succ {i : Nat} (hi : i < 1000000000) : IntKind.i64.wrap ((i : Int) + 1) = ((i + 1 : Nat) : Int) := by rw [wrap_in (by omega) (by omega)]; simp
theorem take_succ' {α : Type} {xs : List α} {i : Nat} {x : α} (hx : xs[i]? = some x) : xs.take (i + 1) = xs.take i ++ [x] := by
  rw [List.take_add_one, hx]; rfl
@[go_sem ↓] theorem fn_alive {h : H} {S : V → H → Prop} : WC tblA (.fn 22 [] []) [] h S ↔ S (.b true) h := by
  rw [WC_in (m := 0) (res := [.only (.b true)]) (body := .skip) rfl, W_skip]
  rfl
theorem W_gen {tbl : Nat → Option FI} {c : C} {t : List V} {h : H} {Q : Out → List V → H → Prop} (P : List V → Prop) (hp : P t) (H : ∀ t', P t' → W tbl c t' h Q) : W tbl c t h Q := H t hp
end Go.Air
set_option maxRecDepth 100000
namespace Go.Air
open Go.Air.Try
abbrev Pt := Int × Int
def spots (ps : List Pt) : List V := ps.flatMap fun p => [.i .i64 p.1, .i .i64 p.2]
theorem spots_cons (p : Pt) (ps : List Pt) : spots (p :: ps) = .i .i64 p.1 :: .i .i64 p.2 :: spots ps := rfl
theorem spots_length : ∀ ps : List Pt, (spots ps).length = ps.length * 2
  | [] => rfl
  | p :: ps => by rw [spots_cons]; simp [spots_length ps]; omega
@[go_sem] theorem eqV_pt {a b c d : Int} : eqV (.agg [.i .i64, .i .i64]) (.agg [.i .i64 a, .i .i64 b]) (.agg [.i .i64 c, .i .i64 d]) = some (decide (a = c ∧ b = d)) := by
  simp [eqV, fitL, KT.fits, cellsEq, scalarEq]
@[go_sem] theorem minL_2 {a b : Int} : minL false [.i .i64 a, .i .i64 b] = some (.i .i64 (if b < a then b else a)) := rfl
@[go_sem] theorem maxL_2 {a b : Int} : minL true [.i .i64 a, .i .i64 b] = some (.i .i64 (if a < b then b else a)) := rfl
def highF (r : Int) : List Pt → Option Int
  | [] => none
  | p :: ps => if p.1 = r then (match highF r ps with | none => some p.2 | some m => some (if m < p.2 then p.2 else m)) else highF r ps
def high (r : Int) (ps : List Pt) : Int := (highF r ps).getD 0
end Go.Air
set_option maxRecDepth 100000
namespace Go.Air
open Go.Air.Try
def Ints (h : H) (v : V) (xs : List Int) : Prop := Sl 1 h v xs.length (ints xs)
theorem Ints.ext {h h' : H} {v : V} {xs : List Int} (s : Ints h v xs) (e : Ext h h') : Ints h' v xs := Sl.ext s e
theorem Ints.nil {h : H} : Ints h .sn [] := .inl ⟨rfl, rfl, .inl rfl⟩
theorem Ints.len {h : H} {v : V} {xs : List Int} (s : Ints h v xs) : lenV v = some xs.length := Sl.len s
theorem Ints.ix {h : H} {v : V} {xs : List Int} (s : Ints h v xs) {i : Nat} (hi : i < xs.length) : ixV 1 v (.i .i64 (i : Int)) = some (.p (blkV v) (offV v + i * 1)) := Sl.ix s hi
theorem Ints.ld {h : H} {v : V} {xs : List Int} (s : Ints h v xs) {i : Nat} {x : Int} (hx : xs[i]? = some x) : ldV h (.p (blkV v) (offV v + i * 1)) = some (.i .i64 x) := by
  have hi := (List.getElem?_eq_some_iff.1 hx).1
  have := Sl.ld1 s hi
  rw [ints_get, hx] at this
  exact this
theorem Ints.of {h : H} {v : V} {n : Nat} {xs : List Int} (s : Sl 1 h v n (ints xs)) : Ints h v xs ∧ xs.length = n := by
  have : xs.length = n := by have := s.length; simpa [ints] using this
  subst this
  exact ⟨s, rfl⟩
def LL (h : H) (v : V) (xss : List (List Int)) : Prop := ∃ cs, Sl 1 h v xss.length cs ∧ ∀ (j : Nat) (xs : List Int), xss[j]? = some xs → ∃ c, cs[j]? = some c ∧ Ints h c xs
theorem LL.ext {h h' : H} {v : V} {xss : List (List Int)} (s : LL h v xss) (e : Ext h h') : LL h' v xss := by
  obtain ⟨cs, h1, h2⟩ := s
  exact ⟨cs, h1.ext e, fun j xs hj => let ⟨c, q1, q2⟩ := h2 j xs hj; ⟨c, q1, q2.ext e⟩⟩
theorem LL.nil {h : H} : LL h .sn [] := ⟨[], .inl ⟨rfl, rfl, .inl rfl⟩, fun j xs hj => by simp at hj⟩
theorem LL.len {h : H} {v : V} {xss : List (List Int)} (s : LL h v xss) : lenV v = some xss.length := let ⟨_, h1, _⟩ := s; h1.len
theorem LL.ix {h : H} {v : V} {xss : List (List Int)} (s : LL h v xss) {i : Nat} (hi : i < xss.length) : ixV 1 v (.i .i64 (i : Int)) = some (.p (blkV v) (offV v + i * 1)) := let ⟨_, h1, _⟩ := s; h1.ix hi
theorem LL.ld {h : H} {v : V} {xss : List (List Int)} (s : LL h v xss) {i : Nat} {xs : List Int} (hx : xss[i]? = some xs) : ∃ c, ldV h (.p (blkV v) (offV v + i * 1)) = some c ∧ Ints h c xs := by
  obtain ⟨cs, h1, h2⟩ := s
  obtain ⟨c, q1, q2⟩ := h2 i xs hx
  exact ⟨c, by rw [h1.ld1 (List.getElem?_eq_some_iff.1 hx).1]; exact q1, q2⟩
theorem t30 : tblA 30 = some a30 := by kernel_rfl
theorem fn_SameInts {h : H} {v1 v2 : V} {xs ys : List Int} (h1 : Ints h v1 xs) (h2 : Ints h v2 ys) (hn : xs.length ≤ 1000000) :
    WC tblA (.fn 30 [] []) [v1, v2] h fun u h' => u = .b (decide (xs = ys)) ∧ h' = h := by
  refine (WC_in t30).2 ?_
  by_cases hne : (xs.length : Int) = (ys.length : Int)
  · simp only [go_sem, ↓reduceIte, r30_0, r30_1, r30_3, h1.len, h2.len, hne]
    refine W_while (fun k t h' => ∃ i, k = xs.length - i ∧ i ≤ xs.length ∧ t.length = 26 ∧ nth t 0 = v1 ∧ nth t 1 = v2 ∧ nth t 5 = .i .i64 (i : Int) ∧ xs.take i = ys.take i ∧ h = h') ?_ xs.length ?_
    · rintro k t h' ⟨i, rfl, hi, tl, t0, t1, t5, he, rfl⟩
      unfold b30_0
      by_cases hlt : i < xs.length
      · have hlt' : (i : Int) < (xs.length : Int) := by omega
        obtain ⟨p, hpi⟩ : ∃ p, xs[i]? = some p := ⟨_, List.getElem?_eq_getElem hlt⟩
        have hlt2 : i < ys.length := by omega
        obtain ⟨q, hqi⟩ : ∃ q, ys[i]? = some q := ⟨_, List.getElem?_eq_getElem hlt2⟩
        by_cases hpq : p = q
        · simp only [go_sem, ↓reduceIte, r30_4, r30_5, r30_6, tl, t0, t1, t5, h1.len, hlt', h1.ix hlt, h2.ix hlt2, h1.ld hpi, h2.ld hqi, hpq, wrap_succ (show i < 1000000000 by omega)]
          refine ⟨xs.length - (i + 1), by omega, i + 1, rfl, hlt, rfl, ?_⟩
          rw [take_succ' hpi, take_succ' hqi, he, hpq]
        · simp only [go_sem, ↓reduceIte, r30_4, r30_5, r30_6, r30_7, tl, t0, t1, t5, h1.len, hlt', h1.ix hlt, h2.ix hlt2, h1.ld hpi, h2.ld hqi, hpq]
          have : xs ≠ ys := by
            rintro rfl
            rw [hpi] at hqi
            cases hqi
            exact hpq rfl
          simp [this]
      · have hlt' : ¬ (i : Int) < (xs.length : Int) := by omega
        simp only [go_sem, ↓reduceIte, r30_4, r30_8, tl, t0, t5, h1.len, hlt']
        rw [List.take_of_length_le (by omega), List.take_of_length_le (by omega)] at he
        simp [he]
    · refine ⟨0, by omega, by omega, ?_⟩
      simp only [go_sem, ↓reduceIte]
      simp
  · simp only [go_sem, ↓reduceIte, r30_0, r30_1, r30_2, h1.len, h2.len, hne]
    have : xs ≠ ys := by rintro rfl; omega
    simp [this]
def Idx (xs : List Int) (g r : Int) : Prop := (r = -1 ∧ g ∉ xs) ∨ ∃ i : Nat, r = (i : Int) ∧ xs[i]? = some g ∧ g ∉ xs.take i
end Go.Air
set_option maxRecDepth 100000
namespace Go.Air
open Go.Air.Try
def pick (m : Int) (l : List Int) : List Int := l.filter fun c => decide (0 ≤ c ∧ c < m)
def two (at0 side i : Int) : List Int := [at0 + side * i, at0 - side * i]
section
variable {a b : Int}
@[go_sem] theorem bin_quo2 : binV .quo (.i .i64 a) (.i .i64 2) = some (.i .i64 (IntKind.i64.wrap (a.tdiv 2))) := rfl
@[go_sem] theorem bin_rem2 : binV .rem (.i .i64 a) (.i .i64 2) = some (.i .i64 (a.tmod 2)) := rfl
end
theorem app_int {h0 h : H} {w : V} {xs : List Int} {n : Nat} (c : Int) (o : Own h0 1 h w n (ints xs)) (e : Ext h0 h) (hn : n ≤ 1000000) :
    ∃ w' h', appendV 1 8 (h.new (.cells [.i .i64 c])) w (.sl h.next 0 1 1 none) = .ok w' h' ∧ Ext h0 h' ∧ Own h0 1 h' w' (n + 1) (ints (xs ++ [c])) := by
  obtain ⟨o3, x3⟩ := Own.lit (esz := 1) (Ext.refl h) [.i .i64 c] 1 rfl
  obtain ⟨w', h5, r1, r2, r3, _⟩ := Own.app (bytes := 8) (o.ext x3) (e.trans x3) o3.sl (by intro u hu; simp at hu; subst hu; rfl) (by omega) (by omega) (by omega)
  exact ⟨w', h5, r1, r2, by simpa [ints] using r3⟩
theorem Own.len1 {h0 h : H} {w : V} {xs : List Int} {n : Nat} (o : Own h0 1 h w n (ints xs)) : xs.length = n := by
  have := o.len
  simpa [ints] using this
end Go.Air
set_option maxRecDepth 100000
namespace Go.Air
open Go.Air.Try
theorem app_int' {h0 h : H} {w : V} {xs : List Int} {n : Nat} (c : Int) (o : Own h0 1 h w n (ints xs)) (e : Ext h0 h) (hn : n ≤ 1000000) :
    ∃ w' h', appendV 1 8 (h.new (.cells [.i .i64 c])) w (.sl h.next 0 1 1 none) = .ok w' h' ∧ Ext h0 h' ∧ Own h0 1 h' w' (n + 1) (ints (xs ++ [c])) ∧ h.next < h'.next ∧ (∀ b, b < h.next → (w = .sn ∨ b ≠ blkV w) → h'.get b = h.get b) ∧ h.next < blkV w' := by
  obtain ⟨o3, x3⟩ := Own.lit (esz := 1) (Ext.refl h) [.i .i64 c] 1 rfl
  obtain ⟨w', h5, r1, r2, r3, r4, r5, r6⟩ := Own.app (bytes := 8) (o.ext x3) (e.trans x3) o3.sl (by intro u hu; simp at hu; subst hu; rfl) (by omega) (by omega) (by omega)
  refine ⟨w', h5, r1, r2, by simpa [ints] using r3, by simp at r4; omega, fun b hb hw => ?_, by rw [r6 (by omega)]; simp⟩
  rw [r5 b (by simp; omega) hw, H.get_new, if_neg (by omega)]
theorem Own.wlt {h0 h : H} {v : V} {n esz : Nat} {cs : List V} (o : Own h0 esz h v n cs) : v = .sn ∨ blkV v < h.next := by
  obtain ⟨_, ⟨_, rfl⟩ | ⟨_, _, rfl, _, _, hb, _⟩⟩ := o
  · exact .inl rfl
  · exact .inr hb
end Go.Air
set_option maxRecDepth 100000
namespace Go.Air
open Go.Air.Try
theorem rep_one (x : V) : ∀ n, rep [x] n = List.replicate n x
  | 0 => rfl
  | n + 1 => by rw [rep, rep_one x n, List.replicate_succ]; rfl
theorem mkSl_ok {h : H} {c : List V} {bytes n : Nat} (hn : n ≤ 1000000000) (hb : bytes ≤ 100) : mkSlR h c bytes (some n) (some n) = .ok (.sl h.next 0 n n none) (h.new (.cells (rep c n))) := by
  have h1 : bytes * n ≤ 100 * 1000000000 := Nat.mul_le_mul hb hn
  have h2 : (Nat.ble n n && Nat.ble n 281474976710656 && Nat.ble (bytes * n) 281474976710656) = true := by
    simp only [Bool.and_eq_true, Nat.ble_eq]; omega
  simp only [mkSlR, h2, if_true]
@[go_sem] theorem blkV_sl {b o n c : Nat} {g : Option Nat} : blkV (.sl b o n c g) = b := rfl
@[go_sem] theorem offV_sl {b o n c : Nat} {g : Option Nat} : offV (.sl b o n c g) = o := rfl
theorem lay_one : ∀ (cs : List V) (j : Nat) (u : V), j < cs.length → lay cs j [u] = some (cs.set j u)
  | [], j, u, h => by simp at h
  | x :: cs, 0, u, _ => by simp [lay]
  | x :: cs, j + 1, u, h => by simp [lay, lay_one cs j u (by simpa using h)]
theorem st_one {h : H} {b j : Nat} {cs : List V} {kd : IntKind} {x : Int} (hg : h.get b = some (.cells cs)) (hj : j < cs.length) : stV h 1 (.p b (0 + j * 1)) (.i kd x) = some (h.put b (.cells (cs.set j (.i kd x)))) := by
  have hl := lay_one cs j (.i kd x) hj
  simp [stV, V.cells, storeAt, hg, hl, V.oneCell]
theorem ix_own {b n i esz : Nat} {g : Option Nat} (hi : i < n) : ixV esz (.sl b 0 n n g) (.i .i64 (i : Int)) = some (.p b (0 + i * esz)) := by
  simp only [ixV]
  rw [show natOf (.i .i64 (i : Int)) = some i from rfl]
  simp [hi]
end Go.Air
set_option maxRecDepth 100000
namespace Go.Air
open Go.Air.Try
def LS (h : H) (v : V) (pss : List (List Pt)) : Prop := ∃ cs, Sl 1 h v pss.length cs ∧ ∀ (j : Nat) (ps : List Pt), pss[j]? = some ps → ∃ c, cs[j]? = some c ∧ Sl 2 h c ps.length (spots ps)
theorem LS.ext {h h' : H} {v : V} {pss : List (List Pt)} (s : LS h v pss) (e : Ext h h') : LS h' v pss := by
  obtain ⟨cs, h1, h2⟩ := s
  exact ⟨cs, h1.ext e, fun j xs hj => let ⟨c, q1, q2⟩ := h2 j xs hj; ⟨c, q1, q2.ext e⟩⟩
theorem LS.len {h : H} {v : V} {pss : List (List Pt)} (s : LS h v pss) : lenV v = some pss.length := let ⟨_, h1, _⟩ := s; h1.len
theorem LS.ix {h : H} {v : V} {pss : List (List Pt)} (s : LS h v pss) {i : Nat} (hi : i < pss.length) : ixV 1 v (.i .i64 (i : Int)) = some (.p (blkV v) (offV v + i * 1)) := let ⟨_, h1, _⟩ := s; h1.ix hi
theorem LS.ld {h : H} {v : V} {pss : List (List Pt)} (s : LS h v pss) {i : Nat} {ps : List Pt} (hx : pss[i]? = some ps) : ∃ c, ldV h (.p (blkV v) (offV v + i * 1)) = some c ∧ Sl 2 h c ps.length (spots ps) := by
  obtain ⟨cs, h1, h2⟩ := s
  obtain ⟨c, q1, q2⟩ := h2 i ps hx
  exact ⟨c, by rw [h1.ld1 (List.getElem?_eq_some_iff.1 hx).1]; exact q1, q2⟩
end Go.Air
set_option maxRecDepth 100000
namespace Go.Air
open Go.Air.Try
def Pts (h : H) (v : V) (ps : List Pt) : Prop := Sl 2 h v ps.length (spots ps)
theorem Pts.ext {h h' : H} {v : V} {ps : List Pt} (s : Pts h v ps) (e : Ext h h') : Pts h' v ps := Sl.ext s e
theorem Pts.nil {h : H} : Pts h .sn [] := .inl ⟨rfl, rfl, .inl rfl⟩
theorem Pts.of {h : H} {v : V} {n : Nat} {ps : List Pt} (s : Sl 2 h v n (spots ps)) : Pts h v ps ∧ ps.length = n := by
  have : ps.length = n := by have := s.length; rw [spots_length] at this; omega
  subst this
  exact ⟨s, rfl⟩
def rowsN (n k : Nat) : Nat := (n + k - 1) / k
theorem rows_lt {n k i : Nat} (hk : 0 < k) : i * k < n ↔ i < rowsN n k := by
  unfold rowsN
  rw [← Nat.succ_le_iff (m := i), Nat.le_div_iff_mul_le hk, Nat.succ_mul]
  omega
theorem rows_le {n k : Nat} (hk : 0 < k) : rowsN n k ≤ n := by
  rcases Nat.lt_or_ge n (rowsN n k) with h | h
  · have := (rows_lt hk).2 h
    have : n * 1 ≤ n * k := Nat.mul_le_mul_left _ hk
    omega
  · exact h
theorem app_ref {h0 h : H} {w u : V} {cs : List V} {n : Nat} (o : Own h0 1 h w n cs) (e : Ext h0 h) (hu : u.oneCell = true) (hn : n ≤ 1000000) :
    ∃ w' h', appendV 1 24 (h.new (.cells [u])) w (.sl h.next 0 1 1 none) = .ok w' h' ∧ Ext h0 h' ∧ Own h0 1 h' w' (n + 1) (cs ++ [u]) ∧ h.next < h'.next ∧ (∀ b, b < h.next → (w = .sn ∨ b ≠ blkV w) → h'.get b = h.get b) ∧ h.next < blkV w' := by
  obtain ⟨o3, x3⟩ := Own.lit (esz := 1) (Ext.refl h) [u] 1 rfl
  obtain ⟨w', h5, r1, r2, r3, r4, r5, r6⟩ := Own.app (bytes := 24) (o.ext x3) (e.trans x3) o3.sl (by intro y hy; simp at hy; subst hy; exact hu) (by omega) (by omega) (by omega)
  refine ⟨w', h5, r1, r2, r3, by simp at r4; omega, fun b hb hw => ?_, by rw [r6 (by omega)]; simp⟩
  rw [r5 b (by simp; omega) hw, H.get_new, if_neg (by omega)]
theorem Own.one {h0 h : H} {v : V} {n esz : Nat} {cs : List V} (o : Own h0 esz h v n cs) : v.cells = [v] ∧ v.oneCell = true := by
  obtain ⟨_, ⟨_, rfl⟩ | ⟨_, _, rfl, _⟩⟩ := o <;> exact ⟨rfl, rfl⟩
theorem fill1_of {x : V} (hx : x.cells = [x]) : fill1 x = some [x] := by simp [fill1, hx]
theorem Own.pos {h0 h : H} {v : V} {n esz : Nat} {cs : List V} (o : Own h0 esz h v n cs) (hn : 0 < n) : v ≠ .sn ∧ h0.next ≤ blkV v ∧ blkV v < h.next := by
  obtain ⟨_, ⟨q, _⟩ | ⟨_, _, rfl, _, q1, q2, _⟩⟩ := o
  · omega
  · exact ⟨by simp, q1, q2⟩
end Go.Air
set_option maxRecDepth 100000
namespace Go.Air
open Go.Air.Try
structure NiceP (kind : Int) (n : Nat) (k : Int) (ps : List Pt) : Prop where
  len : ps.length = n
  nodup : ps.Nodup
  full : ∀ p ∈ ps, 0 ≤ p.1 ∧ ∃ c : Nat, c ≤ n ∧ ∀ x : Int, (p.1, x) ∈ ps ↔ 0 ≤ x ∧ x < c
  proc : kind = 2 → ∀ (i : Nat) (p : Pt), ps[i]? = some p → p.1 = ((i / k.toNat : Nat) : Int) ∧ p.2 < k
end Go.Air
set_option maxRecDepth 100000
namespace Go.Air
open Go.Air.Try
theorem t79 : tblA 79 = some a79 := by kernel_rfl
theorem fn_copyFor {h : H} {v : V} {n i : Nat} {xs : List Int} {x : Int} (ha : Arg 1 h v n (ints xs)) (hi : i < n) (hn : n ≤ 1000) (hx : xs[i]? = some x) :
    WC tblA (.fn 79 [] []) [v, .i .i64 (i : Int)] h fun u h' => Ext h h' ∧ Own h 1 h' u n (ints (x :: (xs.take i ++ xs.drop (i + 1)))) ∧ h.next ≤ blkV u := by
  refine (WC_in t79).2 ?_
  have hld := ha.sl.ld1 hi
  rw [ints_get, hx] at hld
  have hxn : xs.length = n := by have := ha.sl.length; simpa [ints] using this
  obtain ⟨u1, hu1, hA1⟩ := ha.hi (b := i) (by omega)
  obtain ⟨u2, hu2, hA2⟩ := ha.lo (a := i + 1) (by omega)
  have e1 : (ints xs).take (i * 1) = ints (xs.take i) := by simp [ints]
  have e2 : (ints xs).drop ((i + 1) * 1) = ints (xs.drop (i + 1)) := by simp [ints]
  rw [e1] at hA1
  rw [e2] at hA2
  obtain ⟨o1, x1⟩ := Own.lit (esz := 1) (Ext.refl h) [.i .i64 x] 1 rfl
  obtain ⟨v2, h2, q2, x2, o2, n2, k2, b2⟩ := Own.app (bytes := 8) o1 x1 (hA1.sl.ext x1) ints_one (by omega) (by omega) (by omega)
  obtain ⟨v3, h3, q3, x3, o3, n3, k3, b3⟩ := Own.app (bytes := 8) o2 x2 (hA2.sl.ext x2) ints_one (by omega) (by omega) (by omega)
  simp only [go_sem, ↓reduceIte, r79_0, r79_1, r79_2, r79_3, ha.sl.ix hi, hld, hu1, q2, hu2, q3, wrap_succ (show i < 1000000000 by omega)]
  refine ⟨x3, ?_, ?_⟩
  · have e3 : 1 + i + (n - (i + 1)) = n := by omega
    rw [e3] at o3
    simpa [ints] using o3
  · have : v3 ≠ .sn := by
      rintro rfl
      obtain ⟨q, ⟨q', _⟩ | ⟨_, _, q', _⟩⟩ := o3
      · omega
      · cases q'
    exact o3.ge this
def Good (xs : List Int) : Prop := (∀ x ∈ xs, 0 ≤ x) ∧ xs.Nodup
instance (xs : List Int) : Decidable (Good xs) := inferInstanceAs (Decidable (_ ∧ _))
theorem Good.take {xs : List Int} (g : Good xs) (i : Nat) : Good (xs.take i) := ⟨fun x hx => g.1 x (List.mem_of_mem_take hx), g.2.sublist (List.take_sublist _ _)⟩
theorem t78 : tblA 78 = some a78 := by kernel_rfl
theorem fn_listed {h : H} {v : V} {n : Nat} {xs : List Int} (hv : Sl 1 h v n (ints xs)) (hn : n ≤ 1000000) :
    WC tblA (.fn 78 [] []) [v] h fun u h' => Ext h h' ∧ u = .i .i64 (if Good xs then 0 else 1) := by
  have hxn : xs.length = n := by have := hv.length; simpa [ints] using this
  refine (WC_in t78).2 ?_
  simp only [go_sem, ↓reduceIte, r78_0, r78_1, r78_2, hv.len]
  refine W_while (fun k t h1 => ∃ (i : Nat) (l : List (Int × V)), k = n - i ∧ i ≤ n ∧ t.length = 23 ∧ nth t 3 = .m h.next ∧ nth t 7 = v ∧ nth t 8 = .i .i64 (n : Int) ∧ nth t 9 = .i .i64 (i : Int) ∧ Ext h h1 ∧
      h1.get h.next = some (.map (encM l)) ∧ (∀ x, lkp x l = if x ∈ xs.take i then some (.b true) else none) ∧ Good (xs.take i)) ?_ n ?_
  · rintro k t h1 ⟨i, l, rfl, hi, tl, t3, t7, t8, t9, e1, g1, hl, hG⟩
    unfold b78_0
    by_cases hlt : i < n
    · obtain ⟨x, hx⟩ : ∃ x, xs[i]? = some x := ⟨_, List.getElem?_eq_getElem (by omega)⟩
      have hlt' : (i : Int) < (n : Int) := by omega
      have hs1 := hv.ext e1
      have hld := hs1.ld1 hlt
      rw [ints_get, hx] at hld
      have hmem : x ∈ xs := List.mem_of_getElem? hx
      by_cases hneg : x < 0
      · simp only [go_sem, ↓reduceIte, r78_3, r78_4, r78_5, r78_6, r78_7, r78_8, tl, t3, t7, t8, t9, hlt', hs1.ix hlt, hld, hneg]
        refine ⟨e1, ?_⟩
        rw [if_neg (fun g => by have := g.1 x hmem; omega)]
      · have hlk := lookV_int g1 x
        rw [hl] at hlk
        have hnd := hG.2
        by_cases hin : x ∈ xs.take i
        · simp only [hin, if_true] at hlk
          simp only [go_sem, ↓reduceIte, r78_3, r78_4, r78_5, r78_6, r78_7, r78_8, tl, t3, t7, t8, t9, hlt', hs1.ix hlt, hld, hneg, hlk]
          refine ⟨e1, ?_⟩
          rw [if_neg]
          intro g
          have := (g.take (i + 1)).2
          rw [take_succ' hx] at this
          exact (List.nodup_append.1 this).2.2 x hin x (by simp) rfl
        · simp only [hin, if_false] at hlk
          have hset := mapSetV_int g1 x (.b true)
          simp only [go_sem, ↓reduceIte, r78_3, r78_4, r78_5, r78_6, r78_7, r78_8, tl, t3, t7, t8, t9, hlt', hs1.ix hlt, hld, hneg, hlk, hset, wrap_succ (show i < 1000000000 by omega)]
          refine ⟨n - (i + 1), by omega, i + 1, _, rfl, hlt, rfl, e1.put (Nat.le_refl _) _, by rw [H.get_put, if_pos rfl], ?_, ?_⟩
          · intro y
            rw [lkp_ins, hl, take_succ' hx]
            by_cases hy : y = x
            · simp [hy]
            · simp [hy]
          · rw [take_succ' hx]
            refine ⟨fun y hy => ?_, List.nodup_append.2 ⟨hG.2, by simp, fun a ha b hb => ?_⟩⟩
            · rcases List.mem_append.1 hy with hy | hy
              · exact hG.1 y hy
              · simp at hy; omega
            · simp at hb
              rintro rfl
              exact hin (hb ▸ ha)
    · have hlt' : ¬ (i : Int) < (n : Int) := by omega
      simp only [go_sem, ↓reduceIte, r78_3, r78_4, r78_5, r78_6, r78_7, r78_8, r78_9, tl, t7, t8, t9, hlt']
      obtain rfl : i = n := by omega
      rw [List.take_of_length_le (by omega)] at hG
      exact ⟨e1, by rw [if_pos hG]⟩
  · refine ⟨0, [], by omega, by omega, ?_⟩
    simp only [go_sem, ↓reduceIte]
    refine ⟨(Ext.refl h).new _, by rw [H.get_new, if_pos rfl]; rfl, fun x => by simp [lkp], fun x hx => by simp at hx, by simp⟩
def copyOf (xs : List Int) (j : Nat) : List Int := xs.getD j 0 :: (xs.take j ++ xs.drop (j + 1))
theorem t31 : tblA 31 = some a31 := by kernel_rfl
def AltRes (h h' : H) (n : Nat) (xs : List Int) (u : V) : Prop :=
  (¬ Good xs ∧ u = .tup [.sn, .i .i64 1]) ∨ (Good xs ∧ 200 < n ∧ u = .tup [.sn, .i .i64 2]) ∨
  (Good xs ∧ n ≤ 200 ∧ ∃ w cs, u = .tup [w, .i .i64 0] ∧ Own h 1 h' w n cs ∧ ∀ j, j < n → ∃ c, cs[j]? = some c ∧ Own h 1 h' c n (ints (copyOf xs j)))
theorem fn_Alternat {h : H} {v : V} {n : Nat} {xs : List Int} (hv : Arg 1 h v n (ints xs)) (hn : n ≤ 1000000) :
    WC tblA (.fn 31 [] []) [v] h fun u h' => Ext h h' ∧ AltRes h h' n xs u := by
  have hxn : xs.length = n := by have := hv.sl.length; simpa [ints] using this
  refine (WC_in t31).2 ?_
  simp only [go_sem, ↓reduceIte, r31_0, r31_1]
  refine (fn_listed hv.sl hn).mono ?_
  rintro _ h1 ⟨e1, rfl⟩
  have hv1 := hv.ext e1
  by_cases hG : Good xs
  · simp only [hG, if_true]
    by_cases hn2 : 200 < n
    · have hn2' : (200 : Int) < (n : Int) := by omega
      simp only [go_sem, ↓reduceIte, r31_2, r31_3, r31_4, hv.sl.len, hn2']
      exact ⟨e1, .inr (.inl ⟨hG, hn2, rfl⟩)⟩
    · have hn2' : ¬ (200 : Int) < (n : Int) := by omega
      simp only [go_sem, ↓reduceIte, r31_2, r31_3, r31_4, r31_5, r31_6, hv.sl.len, hn2']
      refine W_while (fun k t h2 => ∃ (i : Nat) (w : V) (cs : List V), k = n - i ∧ i ≤ n ∧ t.length = 27 ∧ nth t 0 = v ∧ nth t 4 = w ∧ nth t 14 = v ∧ nth t 15 = .i .i64 (n : Int) ∧ nth t 16 = .i .i64 (i : Int) ∧ Ext h h2 ∧
        Own h 1 h2 w i cs ∧ ∀ j, j < i → ∃ c, cs[j]? = some c ∧ Own h 1 h2 c n (ints (copyOf xs j)) ∧ blkV c < h2.next ∧ (w = .sn ∨ blkV c ≠ blkV w)) ?_ n ?_
      · rintro k t h2 ⟨i, w, cs, rfl, hi, tl, t0, t4, t14, t15, t16, e2, o2, hc2⟩
        unfold b31_0
        by_cases hlt : i < n
        · have hlt' : (i : Int) < (n : Int) := by omega
          simp only [go_sem, ↓reduceIte, r31_7, r31_8, r31_9, r31_10, tl, t0, t4, t14, t15, t16, hlt']
          have hx : xs[i]? = some (xs.getD i 0) := by rw [List.getD_eq_getElem?_getD, List.getElem?_eq_getElem (by omega)]; rfl
          refine (fn_copyFor (hv.ext e2) hlt (by omega) hx).mono ?_
          rintro u h3 ⟨e3, o3, hu⟩
          obtain ⟨o4, x4⟩ := Own.lit (esz := 1) (Ext.refl h3) [u] 1 rfl
          have hone : ∀ y ∈ [u], y.oneCell = true := by
            intro y hy
            simp at hy; subst hy
            obtain ⟨_, ⟨_, rfl⟩ | ⟨_, _, rfl, _⟩⟩ := o3 <;> rfl
          have x5 := x4.trans (Ext.refl _)
          have e5 : Ext h2 (h3.new (.cells [u])) := e3.new _
          have o2' := o2.ext e5
          obtain ⟨w', h6, q6, e6, o6, n6, k6, b6⟩ := Own.app (bytes := 24) (o2') (e2.trans e5) o4.sl hone (by omega) (by omega) (by omega)
          have hfill : fill1 u = some [u] := by
            obtain ⟨_, ⟨_, rfl⟩ | ⟨_, _, rfl, _⟩⟩ := o3 <;> rfl
          simp only [go_sem, ↓reduceIte, hfill, q6, tl, t0, t4, t14, t15, t16, wrap_succ (show i < 1000000000 by omega)]
          have hn3 := e3.nx
          have hw : w = .sn ∨ blkV w < h2.next := by
            obtain ⟨_, ⟨_, rfl⟩ | ⟨_, _, rfl, _, _, hb, _⟩⟩ := o2
            · exact .inl rfl
            · exact .inr hb
          have hub : blkV u < h3.next := by
            obtain ⟨_, ⟨_, rfl⟩ | ⟨_, _, rfl, _, _, hb, _⟩⟩ := o3
            · omega
            · exact hb
          have hwb := b6 (by omega)
          refine ⟨n - (i + 1), by omega, i + 1, w', _, rfl, hlt, rfl, rfl, e6, o6, ?_⟩
          intro j hj
          have hlen := o2.len
          by_cases hji : j < i
          · obtain ⟨c, q1, q2, q3, q4⟩ := hc2 j hji
            refine ⟨c, by rw [List.getElem?_append_left (by omega)]; exact q1, (q2.ext e5).keep n6 (fun hb => k6 _ hb q4), by simp at n6; omega, .inr ?_⟩
            rw [hwb]; simp; omega
          · obtain rfl : j = i := by omega
            refine ⟨u, by rw [List.getElem?_append_right (by omega)]; simp [hlen], ?_, by simp at n6; omega, .inr (by rw [hwb]; simp; omega)⟩
            have o3' : Own h 1 h3 u n (ints (copyOf xs j)) := (o3.mono e2.nx)
            refine (o3'.ext x4).keep n6 (fun hb => k6 _ hb ?_)
            rcases hw with hw | hw
            · exact .inl hw
            · exact .inr (by omega)
        · have hlt' : ¬ (i : Int) < (n : Int) := by omega
          simp only [go_sem, ↓reduceIte, r31_7, r31_11, tl, t4, t15, t16, hlt']
          obtain rfl : i = n := by omega
          exact ⟨e2, .inr (.inr ⟨hG, by omega, w, cs, rfl, o2, fun j hj => let ⟨c, q1, q2, _⟩ := hc2 j hj; ⟨c, q1, q2⟩⟩)⟩
      · refine ⟨0, .sn, [], by omega, by omega, ?_⟩
        simp only [go_sem, ↓reduceIte]
        exact ⟨e1, .nil, fun j hj => by omega⟩
  · simp only [hG, if_false]
    simp only [go_sem, ↓reduceIte, r31_2]
    exact ⟨e1, .inl ⟨hG, rfl⟩⟩
end Go.Air
set_option maxRecDepth 100000
namespace Go.Air
open Go.Air.Try
theorem Idx.lt {xs : List Int} {i : Nat} {x r : Int} (h : Idx xs x r) (hx : xs[i]? = some x) : r < (i : Int) ↔ x ∈ xs.take i := by
  rcases h with ⟨rfl, hn⟩ | ⟨j, rfl, hj, hn⟩
  · exact absurd (List.mem_of_getElem? hx) hn
  · constructor
    · intro hlt
      exact List.mem_of_getElem? (i := j) (by rw [List.getElem?_take_of_lt (by omega)]; exact hj)
    · intro hin
      obtain ⟨k, hk⟩ := List.mem_iff_getElem?.1 hin
      have hki : k < i := by
        have := (List.getElem?_eq_some_iff.1 hk).1
        simp at this; omega
      rw [List.getElem?_take_of_lt hki] at hk
      rcases Nat.lt_or_ge k j with h1 | h1
      · exact absurd (List.mem_of_getElem? (i := k) (by rw [List.getElem?_take_of_lt h1]; exact hk)) hn
      · omega
end Go.Air
set_option maxRecDepth 100000
namespace Go.Air
open Go.Air.Try
section
variable {tbl : Nat → Option FI} {t : List V} {h : H} {Q : Out → List V → H → Prop}
def WP (tbl : Nat → Option FI) : List O → List V → H → (List V → H → Prop) → Prop
  | [], t, h, T => T t h
  | o :: l, t, h, T => if wants o.g t = true then WA tbl o.op t h.bare (fun v h' => oldOnes h.next h'.log = [] ∧ WP tbl l (putD t o.dst v) (h.back h') T) else WP tbl l (putD t o.dst .undef) h T
def Kdp (tbl : Nat → Option FI) (d : Option Nat) (l : List O) (T : List V → H → Prop) (t : List V) (h : H) (v : V) (h' : H) : Prop := oldOnes h.next h'.log = [] ∧ WP tbl l (putD t d v) (h.back h') T
@[go_sem ↓] theorem Kdp_eq {d : Option Nat} {l : List O} {T : List V → H → Prop} {v : V} {h' : H} : Kdp tbl d l T t h v h' ↔ oldOnes h.next h'.log = [] ∧ WP tbl l (putD t d v) (h.back h') T := Iff.rfl
@[go_sem ↓] theorem WP_nil {T : List V → H → Prop} : WP tbl [] t h T ↔ T t h := Iff.rfl
@[go_sem ↓] theorem WP_plain {d : Option Nat} {op : A} {l : List O} {T : List V → H → Prop} : WP tbl (⟨d, none, op⟩ :: l) t h T ↔ WA tbl op t h.bare (Kdp tbl d l T t h) := by
  simp [WP, wants]; rfl
@[go_sem ↓] theorem WP_guard {d : Option Nat} {op : A} {l : List O} {n : Nat} {w : Bool} {T : List V → H → Prop} : WP tbl (⟨d, some (n, w), op⟩ :: l) t h T ↔
    guardB (wants (some (n, w)) t) (WA tbl op t h.bare (Kdp tbl d l T t h)) (WP tbl l (putD t d .undef) h T) := Iff.rfl
theorem WP_WD {T : List V → H → Prop} : ∀ {l : List O} {t : List V} {h : H} {f : List Foot}, (∀ x ∈ f, x.wr = []) → WP tbl l t h T → WD tbl l t h f (fun t h f' => T t h ∧ f'.length = f.length + l.length ∧ ∀ x ∈ f', x.wr = [])
  | [], t, h, f, hf, w => WD_nil.2 ⟨w, by simp, hf⟩
  | o :: l, t, h, f, hf, w => by
    rw [WD_cons]
    simp only [WP] at w
    split
    · rename_i hw
      rw [if_pos hw] at w
      refine w.mono fun v h' q => ?_
      have := WP_WD (f := f ++ [⟨reads o.op t, oldOnes h.next h'.log⟩]) (by
        intro x hx
        rcases List.mem_append.1 hx with hx | hx
        · exact hf x hx
        · simp at hx; subst hx; exact q.1) q.2
      obtain ⟨k, t', h'', f', ee, r⟩ := this
      exact ⟨k, t', h'', f', ee, r.1, by rw [r.2.1]; simp; omega, r.2.2⟩
    · rename_i hw
      rw [if_neg hw] at w
      have := WP_WD (f := f ++ [⟨some [], []⟩]) (by
        intro x hx
        rcases List.mem_append.1 hx with hx | hx
        · exact hf x hx
        · simp at hx; subst hx; rfl) w
      obtain ⟨k, t', h'', f', ee, r⟩ := this
      exact ⟨k, t', h'', f', ee, r.1, by rw [r.2.1]; simp; omega, r.2.2⟩
theorem W_pure {l : List O} {crit : List (Nat × Nat)} (hc : ∀ p ∈ crit, p.1 < l.length ∧ p.2 < l.length) (w : WP tbl l t h (Kops Q)) : WD tbl l t h [] (Kcrit crit Q) := by
  obtain ⟨k, t', h', f', ee, r⟩ := WP_WD (f := []) (by simp) w
  refine ⟨k, t', h', f', ee, ?_, r.1⟩
  refine List.all_eq_true.2 fun p hp => ?_
  obtain ⟨h1, h2⟩ := hc p hp
  have hl : f'.length = l.length := by rw [r.2.1]; simp
  have e1 := List.getElem?_eq_getElem (l := f') (i := p.1) (by omega)
  have e2 := List.getElem?_eq_getElem (l := f') (i := p.2) (by omega)
  obtain ⟨i, j⟩ := p
  simp only at e1 e2 ⊢
  rw [e1, e2]
  have w1 := r.2.2 _ (List.getElem_mem (l := f') (n := i) (by omega))
  have w2 := r.2.2 _ (List.getElem_mem (l := f') (n := j) (by omega))
  simp only [apart, w1, w2]
  cases f'[i].rd <;> cases f'[j].rd <;> simp
theorem WD_append {l2 : List O} {U : List V → H → List Foot → Prop} : ∀ {l1 : List O} {t : List V} {h : H} {f : List Foot}, WD tbl (l1 ++ l2) t h f U ↔ WD tbl l1 t h f (fun t h f => WD tbl l2 t h f U)
  | [], t, h, f => by rw [WD_nil]; rfl
  | o :: l1, t, h, f => by
    rw [List.cons_append, WD_cons, WD_cons]
    split
    · constructor
      · intro w; exact w.mono fun v h' q => WD_append.1 q
      · intro w; exact w.mono fun v h' q => WD_append.2 q
    · exact WD_append
theorem WD_mono {U U' : List V → H → List Foot → Prop} {l : List O} {f : List Foot} (w : WD tbl l t h f U) (hu : ∀ t h f, U t h f → U' t h f) : WD tbl l t h f U' := by
  obtain ⟨k, t', h', f', ee, r⟩ := w
  exact ⟨k, t', h', f', ee, hu _ _ _ r⟩
theorem WE_WD {T : List V → H → Prop} : ∀ {l : List O} {t : List V} {h : H} {f : List Foot}, WE tbl l t h T → WD tbl l t h f (fun t h f' => T t h ∧ ∃ g, f' = f ++ g)
  | [], t, h, f, w => WD_nil.2 ⟨w, [], by simp⟩
  | o :: l, t, h, f, w => by
    rw [WD_cons]
    simp only [WE] at w
    split
    · rename_i hw
      rw [if_pos hw] at w
      refine w.mono fun v h' q => ?_
      refine WD_mono (WE_WD q) fun t' h'' f' r => ⟨r.1, ?_⟩
      obtain ⟨g, rfl⟩ := r.2
      exact ⟨_, by rw [List.append_assoc]⟩
    · rename_i hw
      rw [if_neg hw] at w
      refine WD_mono (WE_WD w) fun t' h'' f' r => ⟨r.1, ?_⟩
      obtain ⟨g, rfl⟩ := r.2
      exact ⟨_, by rw [List.append_assoc]⟩
theorem W_crit {l1 l2 : List O} {crit : List (Nat × Nat)} (hc : ∀ p ∈ crit, p.1 < l1.length ∧ p.2 < l1.length) (w : WP tbl l1 t h (fun t h => WE tbl l2 t h (Kops Q))) : WD tbl (l1 ++ l2) t h [] (Kcrit crit Q) := by
  rw [WD_append]
  refine WD_mono (WP_WD (f := []) (by simp) w) fun t1 h1 f1 r => ?_
  refine WD_mono (WE_WD r.1) fun t2 h2 f2 r2 => ⟨?_, r2.1⟩
  obtain ⟨g, rfl⟩ := r2.2
  refine List.all_eq_true.2 fun p hp => ?_
  obtain ⟨q1, q2⟩ := hc p hp
  have hl : f1.length = l1.length := by rw [r.2.1]; simp
  have e1 : (f1 ++ g)[p.1]? = some (f1[p.1]'(by omega)) := by rw [List.getElem?_append_left (by omega)]; exact List.getElem?_eq_getElem (by omega)
  have e2 : (f1 ++ g)[p.2]? = some (f1[p.2]'(by omega)) := by rw [List.getElem?_append_left (by omega)]; exact List.getElem?_eq_getElem (by omega)
  obtain ⟨i, j⟩ := p
  simp only at e1 e2 ⊢
  rw [e1, e2]
  have w1 := r.2.2 _ (List.getElem_mem (l := f1) (n := i) (by omega))
  have w2 := r.2.2 _ (List.getElem_mem (l := f1) (n := j) (by omega))
  simp only [apart, w1, w2]
  cases f1[i].rd <;> cases f1[j].rd <;> simp
@[go_sem] theorem old_bare' (h : H) (n : Nat) : (oldOnes n h.bare.log = []) ↔ True := by simp [old_bare]
@[go_sem] theorem old_new' (h : H) (n : Nat) (b : Blk) : (oldOnes n (h.bare.new b).log = []) ↔ True := by simp [H.new, H.bare, oldOnes]
end
section
variable {α : Type} {f : α → List V} {k : Nat}
def recs (f : α → List V) (rs : List α) : List V := rs.flatMap f
theorem recs_cons (a : α) (rs : List α) : recs f (a :: rs) = f a ++ recs f rs := rfl
theorem recs_append (a b : List α) : recs f (a ++ b) = recs f a ++ recs f b := by simp [recs]
theorem recs_len (hk : ∀ a, (f a).length = k) : ∀ rs : List α, (recs f rs).length = rs.length * k
  | [] => by simp [recs]
  | a :: rs => by rw [recs_cons, List.length_append, hk, recs_len hk rs, List.length_cons, Nat.succ_mul]; omega
theorem recs_at (hk : ∀ a, (f a).length = k) : ∀ (rs : List α) (i : Nat) (a : α), rs[i]? = some a → ((recs f rs).drop (i * k)).take k = f a
  | [], i, a, h => by simp at h
  | b :: rs, 0, a, h => by
    simp at h; subst h
    rw [recs_cons, Nat.zero_mul, List.drop_zero, List.take_append_of_le_length (by rw [hk]; omega), List.take_of_length_le (by rw [hk]; omega)]
  | b :: rs, i + 1, a, h => by
    rw [recs_cons, Nat.succ_mul, List.drop_append, List.drop_of_length_le (by rw [hk]; omega), hk, List.nil_append, Nat.add_sub_cancel]
    exact recs_at hk rs i a (by simpa using h)
theorem recs_get (hk : ∀ a, (f a).length = k) {rs : List α} {i j : Nat} {a : α} (h : rs[i]? = some a) (hj : j < k) : (recs f rs)[i * k + j]? = (f a)[j]? := by
  rw [← recs_at hk rs i a h, List.getElem?_take_of_lt hj, List.getElem?_drop]
end
section
variable {h : H} {b k : Nat} {c : List V}
theorem blk_ldn (g : h.get b = some (.cells c)) (hk : c.length = k) : ldnV h k (.p b 0) = some (.agg c) := by
  subst hk
  have : cut c 0 c.length = some c := cut_eq.2 ⟨by simp, by simp⟩
  simp [ldnV, g, Blk.rd, this]
theorem blk_ld {i : Nat} {x : V} (g : h.get b = some (.cells c)) (hx : c[i]? = some x) : ldV h (.p b i) = some x := by
  simp [ldV, g, Blk.rd1, nth?_eq, hx]
end
theorem lay_all : ∀ (z c : List V), z.length = c.length → lay z 0 c = some c
  | [], [], _ => rfl
  | [], _ :: _, h => by simp at h
  | _ :: _, [], h => by simp at h
  | x :: z, v :: c, h => by
    rw [lay, lay_all z c (by simpa using h)]; rfl
theorem st_newK (h : H) (z c : List V) (hl : z.length = c.length) (hone : ∀ u ∈ c, u.oneCell = true) :
    ∃ h2, stV (h.new (.cells z)) c.length (.p h.next 0) (.agg c) = some h2 ∧ Ext h h2 ∧ h2.get h.next = some (.cells c) ∧ h2.next = h.next + 1 := by
  have hg : ((h.new (.cells z)).put h.next (.cells c)).get h.next = some (.cells c) := by rw [H.get_put, if_pos rfl]
  refine ⟨(h.new (.cells z)).put h.next (.cells c), ?_, ((Ext.refl h).new _).put (Nat.le_refl _) _, hg, rfl⟩
  have g1 : (h.new (.cells z)).get h.next = some (.cells z) := by rw [H.get_new, if_pos rfl]
  have hall : c.all V.oneCell = true := List.all_eq_true.2 hone
  simp [stV, V.cells, storeAt, g1, lay_all z c hl]
  exact fun u hu => hone u hu
@[go_sem] theorem agg_cells (c : List V) : (V.agg c).cells = c := rfl
def fill3 (x y z : V) : Option (List V) := if Nat.beq x.cells.length 1 && Nat.beq y.cells.length 1 && Nat.beq z.cells.length 1 then some (x.cells ++ y.cells ++ z.cells) else none
@[go_sem] theorem fill_3i {t : List V} {z0 z1 z2 : V} {x y z : X} : fill t [z0, z1, z2] [(0, 1, x), (1, 1, y), (2, 1, z)] = fill3 (x.ev t) (y.ev t) (z.ev t) := by
  simp only [fill, fill3]
  by_cases hl : Nat.beq (x.ev t).cells.length 1 = true
  · rw [if_pos hl]
    obtain ⟨u, hc⟩ : ∃ u, (x.ev t).cells = [u] := by
      rw [Nat.beq_eq] at hl
      exact List.length_eq_one_iff.1 hl
    simp only [hc, lay, Option.map_some]
    by_cases hl2 : Nat.beq (y.ev t).cells.length 1 = true
    · obtain ⟨u2, hc2⟩ : ∃ u, (y.ev t).cells = [u] := by
        rw [Nat.beq_eq] at hl2
        exact List.length_eq_one_iff.1 hl2
      simp only [hc2, lay, Option.map_some, List.length_cons, List.length_nil]
      by_cases hl3 : Nat.beq (z.ev t).cells.length 1 = true
      · obtain ⟨u3, hc3⟩ : ∃ u, (z.ev t).cells = [u] := by
          rw [Nat.beq_eq] at hl3
          exact List.length_eq_one_iff.1 hl3
        simp [hc3, lay]
      · simp [hl3]
    · simp [hl2]
  · simp [hl]
@[go_sem] theorem fill3_iii {a b c : Int} : fill3 (.i .i64 a) (.i .i64 b) (.i .i64 c) = some [.i .i64 a, .i .i64 b, .i .i64 c] := rfl
@[go_sem] theorem fill_agg3 {t : List V} {z0 z1 z2 : V} {x : X} : fill t [z0, z1, z2] [(0, 3, x)] = fillA 3 (x.ev t) := by
  simp only [fill, fillA]
  by_cases hl : Nat.beq (x.ev t).cells.length 3 = true
  · rw [if_pos hl, if_pos hl]
    rw [Nat.beq_eq] at hl
    rw [lay_all _ _ (by rw [hl]; rfl)]
  · rw [if_neg hl, if_neg hl]
@[go_sem] theorem fillA_3 {a b c : V} : fillA 3 (.agg [a, b, c]) = some [a, b, c] := rfl
@[go_sem] theorem eqV_3 {a b c a' b' c' : Int} : eqV (.agg [.i .i64, .i .i64, .i .i64]) (.agg [.i .i64 a, .i .i64 b, .i .i64 c]) (.agg [.i .i64 a', .i .i64 b', .i .i64 c']) = some (decide (a = a' ∧ b = b' ∧ c = c')) := by
  simp [eqV, fitL, KT.fits, cellsEq, scalarEq, Bool.decide_and]
structure Arw where
  f : Int
  t : Int
  r : Int
  w : Int
def arw (a : Arw) : List V := [.i .i64 a.f, .i .i64 a.t, .i .i64 a.r, .i .i64 a.w]
theorem arw_len (a : Arw) : (arw a).length = 4 := rfl
theorem arw_one (a : Arw) : ∀ u ∈ arw a, u.oneCell = true := by
  intro u hu; simp [arw] at hu; rcases hu with rfl | rfl | rfl | rfl <;> rfl
def Arrs (h : H) (v : V) (rs : List Arw) : Prop := Sl 4 h v rs.length (recs arw rs)
theorem Arrs.ext {h h' : H} {v : V} {rs : List Arw} (s : Arrs h v rs) (e : Ext h h') : Arrs h' v rs := Sl.ext s e
theorem Arrs.len {h : H} {v : V} {rs : List Arw} (s : Arrs h v rs) : lenV v = some rs.length := Sl.len s
theorem Arrs.ix {h : H} {v : V} {rs : List Arw} (s : Arrs h v rs) {i : Nat} (hi : i < rs.length) : ixV 4 v (.i .i64 (i : Int)) = some (.p (blkV v) (offV v + i * 4)) := Sl.ix s hi
theorem Arrs.ldn {h : H} {v : V} {rs : List Arw} (s : Arrs h v rs) {i : Nat} {a : Arw} (hx : rs[i]? = some a) : ldnV h 4 (.p (blkV v) (offV v + i * 4)) = some (.agg [.i .i64 a.f, .i .i64 a.t, .i .i64 a.r, .i .i64 a.w]) := by
  rw [Sl.ldn s (List.getElem?_eq_some_iff.1 hx).1, recs_at arw_len rs i a hx]; rfl
theorem Arrs.ld {h : H} {v : V} {rs : List Arw} (s : Arrs h v rs) {i j : Nat} {a : Arw} (hx : rs[i]? = some a) (hj : j < 4) : ldV h (.p (blkV v) (offV v + i * 4 + j)) = (arw a)[j]? := by
  rw [Sl.ld s (List.getElem?_eq_some_iff.1 hx).1 hj, recs_get arw_len hx hj]
theorem st_arw (h : H) (z0 z1 z2 z3 : V) (a : Arw) : ∃ h2, stV (h.new (.cells [z0, z1, z2, z3])) 4 (.p h.next 0) (.agg [.i .i64 a.f, .i .i64 a.t, .i .i64 a.r, .i .i64 a.w]) = some h2 ∧ Ext h h2 ∧ h2.get h.next = some (.cells (arw a)) ∧ h2.next = h.next + 1 :=
  st_newK h [z0, z1, z2, z3] (arw a) rfl (arw_one a)
theorem arw_lds {h : H} {b : Nat} {a : Arw} (g : h.get b = some (.cells (arw a))) : ldV h (.p b 0) = some (.i .i64 a.f) ∧ ldV h (.p b 1) = some (.i .i64 a.t) ∧ ldV h (.p b 2) = some (.i .i64 a.r) ∧ ldV h (.p b 3) = some (.i .i64 a.w) ∧ ldnV h 4 (.p b 0) = some (.agg [.i .i64 a.f, .i .i64 a.t, .i .i64 a.r, .i .i64 a.w]) :=
  ⟨blk_ld g rfl, blk_ld g rfl, blk_ld g rfl, blk_ld g rfl, blk_ldn g rfl⟩
def inB (a lo hi : Int) : Bool := decide (lo ≤ a ∧ a ≤ hi)
theorem t108 : tblA 108 = some a108 := by kernel_rfl
@[go_sem ↓] theorem fn_in {h : H} {a lo hi : Int} {S : V → H → Prop} : WC tblA (.fn 108 [] []) [.i .i64 a, .i .i64 lo, .i .i64 hi] h S ↔ S (.b (inB a lo hi)) h := by
  rw [WC_in t108]
  by_cases c1 : lo ≤ a
  · by_cases c2 : a ≤ hi
    · simp only [go_sem, ↓reduceIte, r108_0, r108_1, c1, c2, inB, and_self]
    · simp only [go_sem, ↓reduceIte, r108_0, r108_1, c1, c2, inB, and_false]
  · simp only [go_sem, ↓reduceIte, r108_0, r108_1, c1, inB, false_and]
theorem t134 : tblA 134 = some a134 := by kernel_rfl
@[go_sem ↓] theorem fn_nan {h : H} {a : Int} {S : V → H → Prop} : WC tblA (.fn 134 [] []) [.i .i64 a] h S ↔ S (.b false) h := by
  rw [WC_in t134]
  simp only [go_sem, ↓reduceIte, r134_0, r134_1]
def cmpI (a b : Int) : Int := if a < b then -1 else if b < a then 1 else 0
theorem t125 : tblA 125 = some a125 := by kernel_rfl
@[go_sem ↓] theorem fn_cmp {h : H} {a b : Int} {S : V → H → Prop} : WC tblA (.fn 125 [] []) [.i .i64 a, .i .i64 b] h S ↔ S (.i .i64 (cmpI a b)) h := by
  rw [WC_in t125]
  by_cases c1 : a < b
  · simp only [go_sem, ↓reduceIte, r125_0, r125_1, r125_2, r125_3, r125_7, r125_9, r125_10, c1, cmpI]
  · by_cases c2 : b < a
    · simp only [go_sem, ↓reduceIte, r125_0, r125_1, r125_2, r125_3, r125_7, r125_9, r125_11, r125_12, c1, c2, cmpI]
    · simp only [go_sem, ↓reduceIte, r125_0, r125_1, r125_2, r125_3, r125_7, r125_9, r125_11, r125_13, c1, c2, cmpI]
def orS : List Int → Int
  | [] => 0
  | x :: l => if x ≠ 0 then x else orS l
theorem orS_at : ∀ {xs : List Int} {i : Nat} {x : Int}, (∀ y ∈ xs.take i, y = 0) → xs[i]? = some x → x ≠ 0 → orS xs = x
  | [], _, _, _, h, _ => by simp at h
  | y :: l, 0, x, _, h, hx => by simp at h; subst h; simp [orS, hx]
  | y :: l, i + 1, x, hz, h, hx => by
    have : y = 0 := hz y (by simp)
    subst this
    simp only [orS]
    rw [if_neg (by simp)]
    exact orS_at (i := i) (fun y hy => hz y (by simp [hy])) (by simpa using h) hx
theorem orS_zero : ∀ {xs : List Int}, (∀ y ∈ xs, y = 0) → orS xs = 0
  | [], _ => rfl
  | y :: l, hz => by
    have : y = 0 := hz y (by simp)
    subst this
    simp only [orS]
    rw [if_neg (by simp)]
    exact orS_zero fun y hy => hz y (by simp [hy])
theorem t124 : tblA 124 = some a124 := by kernel_rfl
theorem fn_Or {h : H} {v : V} {xs : List Int} (h1 : Ints h v xs) (hn : xs.length ≤ 1000000) : WC tblA (.fn 124 [] []) [v] h fun u h' => h' = h ∧ u = .i .i64 (orS xs) := by
  refine (WC_in t124).2 ?_
  simp only [go_sem, ↓reduceIte, r124_0, r124_1, r124_2, h1.len]
  refine W_while (fun k t h' => ∃ i, k = xs.length - i ∧ i ≤ xs.length ∧ t.length = 18 ∧ nth t 3 = .i .i64 0 ∧ nth t 6 = v ∧ nth t 7 = .i .i64 (xs.length : Int) ∧ nth t 8 = .i .i64 (i : Int) ∧ (∀ y ∈ xs.take i, y = 0) ∧ h = h') ?_ xs.length ?_
  · rintro k t h' ⟨i, rfl, hi, tl, t3, t6, t7, t8, hz, rfl⟩
    unfold b124_0
    by_cases hlt : i < xs.length
    · have hlt' : (i : Int) < (xs.length : Int) := by omega
      obtain ⟨x, hx⟩ : ∃ x, xs[i]? = some x := ⟨_, List.getElem?_eq_getElem hlt⟩
      by_cases hx0 : x = 0
      · simp only [go_sem, ↓reduceIte, r124_3, r124_4, r124_5, r124_7, tl, t3, t6, t7, t8, hlt', h1.ix hlt, h1.ld hx, hx0, wrap_succ (show i < 1000000000 by omega)]
        refine ⟨xs.length - (i + 1), by omega, i + 1, rfl, hlt, rfl, ?_⟩
        rw [take_succ' hx]
        intro y hy
        rcases List.mem_append.1 hy with hy | hy
        · exact hz y hy
        · simp at hy; subst hy; exact hx0
      · simp only [go_sem, ↓reduceIte, r124_3, r124_4, r124_5, r124_6, tl, t3, t6, t7, t8, hlt', h1.ix hlt, h1.ld hx, hx0]
        rw [orS_at hz hx hx0]
    · have hlt' : ¬ (i : Int) < (xs.length : Int) := by omega
      simp only [go_sem, ↓reduceIte, r124_3, r124_8, tl, t3, t6, t7, t8, hlt']
      rw [List.take_of_length_le (by omega)] at hz
      rw [orS_zero hz]
  · refine ⟨0, by omega, by omega, ?_⟩
    simp only [go_sem, ↓reduceIte]
    simp
def ltA (a b : Arw) : Prop := a.f < b.f ∨ a.f = b.f ∧ a.t < b.t
instance (a b : Arw) : Decidable (ltA a b) := by unfold ltA; infer_instance
theorem cmp_lt {a b : Arw} : 0 ≤ orS [cmpI a.f b.f, cmpI a.t b.t] ↔ ¬ ltA a b := by
  unfold ltA
  simp only [orS, cmpI]
  repeat' split
  all_goals omega
theorem t109 : tblA 109 = some a109 := by kernel_rfl
theorem fn_compare {h : H} {a b : Arw} : WC tblA (.fn 109 [] []) [.agg [.i .i64 a.f, .i .i64 a.t, .i .i64 a.r, .i .i64 a.w], .agg [.i .i64 b.f, .i .i64 b.t, .i .i64 b.r, .i .i64 b.w]] h fun u h' =>
    Ext h h' ∧ ∃ r, u = .i .i64 r ∧ (0 ≤ r ↔ ¬ ltA a b) := by
  refine (WC_in t109).2 ?_
  have g1 : ((h.new (.cells (arw a))).new (.cells (arw b))).get h.next = some (.cells (arw a)) := by rw [H.get_new, if_neg (by simp), H.get_new, if_pos rfl]
  have g2 : ((h.new (.cells (arw a))).new (.cells (arw b))).get (h.next + 1) = some (.cells (arw b)) := by rw [H.get_new, if_pos (by simp)]
  have e0 : Ext h ((h.new (.cells (arw a))).new (.cells (arw b))) := ((Ext.refl h).new _).new _
  obtain ⟨x0, x1, _, _, _⟩ := arw_lds g1
  obtain ⟨y0, y1, _, _, _⟩ := arw_lds g2
  simp only [go_sem, ↓reduceIte, r109_0, H.next_new]
  apply W_pure (by simp [r109_1])
  rw [r109_1]
  unfold arw at *
  generalize hh : ((h.new (.cells [.i .i64 a.f, .i .i64 a.t, .i .i64 a.r, .i .i64 a.w])).new (.cells [.i .i64 b.f, .i .i64 b.t, .i .i64 b.r, .i .i64 b.w])) = h2 at *
  obtain ⟨ol, ox⟩ := Own.lit (esz := 1) (Ext.refl h2.bare) (ints [cmpI a.f b.f, cmpI a.t b.t]) 2 rfl
  simp only [go_sem, ↓reduceIte, x0, x1, y0, y1]
  refine (fn_Or (Ints.of ol.sl).1 (by simp)).mono ?_
  rintro _ _ ⟨rfl, rfl⟩
  simp only [go_sem, ↓reduceIte]
  exact ⟨e0.trans ((Ext.refl h2).new _), _, rfl, cmp_lt⟩
theorem ints_len (xs : List Int) : (ints xs).length = xs.length := by simp [ints]
theorem ints_set (l : List Int) (j : Nat) (x : Int) : (ints l).set j (.i .i64 x) = ints (l.set j x) := by simp [ints, List.map_set]
theorem st_k {h : H} {b k : Nat} {cs : List V} {kd : IntKind} {x : Int} (hg : h.get b = some (.cells cs)) (hk : k < cs.length) : stV h 1 (.p b k) (.i kd x) = some (h.put b (.cells (cs.set k (.i kd x)))) := by
  have hl := lay_one cs k (.i kd x) hk
  simp [stV, V.cells, storeAt, hg, hl, V.oneCell]
@[go_sem] theorem eqV_sn : eqV .slice .sn .sn = some true := rfl
@[go_sem] theorem eqV_se {a : Addr} : eqV .slice (.se a) .sn = some false := rfl
@[go_sem] theorem eqV_sl {b o n c : Nat} {g : Option Nat} : eqV .slice (.sl b o n c g) .sn = some false := rfl
@[go_sem] theorem fill_nil {t z : List V} : fill t z [] = some z := rfl
theorem app_all {h : H} {v : V} {xs : List Int} (hs : Ints h v xs) (hn : xs.length ≤ 1000000) : ∃ w h', appendV 1 8 (h.new (.cells [])) (.sl h.next 0 0 0 none) v = .ok w h' ∧ Ext h h' ∧ Own h 1 h' w xs.length (ints xs) := by
  obtain ⟨o1, x1⟩ := Own.lit (esz := 1) (Ext.refl h) [] 0 rfl
  obtain ⟨w, h', r1, r2, r3, _⟩ := Own.app (bytes := 8) o1 x1 (hs.ext x1) ints_one (by omega) (by omega) (by omega)
  exact ⟨w, h', r1, r2, by simpa using r3⟩
theorem t70 : tblA 70 = some a70 := by kernel_rfl
theorem fn_Clone {h : H} {v : V} {xs : List Int} (hs : Ints h v xs) (hn : xs.length ≤ 1000000) : WC tblA (.fn 70 [] []) [v] h fun u h' => Ext h h' ∧ Own h 1 h' u xs.length (ints xs) := by
  refine (WC_in t70).2 ?_
  obtain ⟨w, h', q1, q2, q3⟩ := app_all hs hn
  have hs' := hs
  rcases hs with ⟨hl, hx, rfl | ⟨a, rfl⟩⟩ | ⟨b, off, cap, g, bl, rfl, _⟩
  · obtain rfl : xs = [] := List.eq_nil_of_length_eq_zero hl
    simp only [go_sem, ↓reduceIte, r70_0, r70_1, r70_2]
    exact ⟨.refl h, .nil⟩
  · simp only [go_sem, ↓reduceIte, r70_0, r70_1, r70_3, q1]
    exact ⟨q2, q3⟩
  · simp only [go_sem, ↓reduceIte, r70_0, r70_1, r70_3, q1]
    exact ⟨q2, q3⟩
theorem Own.set {h0 h : H} {v : V} {n i : Nat} {xs : List Int} (o : Own h0 1 h v n (ints xs)) (e : Ext h0 h) (hi : i < n) (x : Int) :
    ∃ h2, stV h 1 (.p (blkV v) (offV v + i * 1)) (.i .i64 x) = some h2 ∧ Ext h0 h2 ∧ Own h0 1 h2 v n (ints (xs.set i x)) ∧ h2.next = h.next ∧ (∀ b, b ≠ blkV v → h2.get b = h.get b) := by
  obtain ⟨hl, ⟨rfl, rfl⟩ | ⟨b, g, rfl, hv, h1, h2, hg⟩⟩ := o
  · omega
  · refine ⟨h.put b (.cells ((ints xs).set (0 + i * 1) (.i .i64 x))), st_k (k := 0 + i * 1) hg (by rw [hl]; omega), e.put h1 _, ⟨by rw [ints_len, List.length_set, ← ints_len, hl], .inr ⟨b, g, rfl, hv, h1, by simpa using h2, ?_⟩⟩, by simp, fun b' hb' => by rw [H.get_put, if_neg (show b' ≠ b from hb')]⟩
    rw [H.get_put, if_pos rfl, ints_set, show 0 + i * 1 = i by omega]
theorem st_ref {h : H} {b : Nat} {x v : V} (hg : h.get b = some (.cells [x])) (h1 : v.cells = [v]) (h2 : v.oneCell = true) : stV h 1 (.p b 0) v = some (h.put b (.cells [v])) := by
  simp [stV, h1, storeAt, hg, lay, h2]
end Go.Air
set_option maxRecDepth 100000
namespace Go.Air
open Go.Air.Try
theorem yld_round {tbl : Nat → Option FI} {l : Nat} {t : List V} {ps : List Nat} {asg body : C} {args : List V} {h : H} {S : V → H → Prop} (hg : h.get l = some (.loop ⟨.ready, none, t, ps, asg, body⟩)) (ha : args.length = ps.length)
    (hb : W tbl asg (updAll t ps args) h fun o t1 h1 => o = .norm ∧ h1 = h ∧ W tbl body t1 (h.put l (.loop ⟨.busy, none, t, ps, asg, body⟩)) fun o _ h2 => o = .norm ∧ h2.get l = some (.loop ⟨.busy, none, t, ps, asg, body⟩) ∧ S (.b true) (h2.put l (.loop ⟨.ready, none, t, ps, asg, body⟩))) :
    WC tbl (.yld l) args h S := by
  refine (WC_yld hg ha).2 (hb.mono ?_)
  rintro o t1 h1 ⟨rfl, rfl, hw⟩
  simp only [hg, loopOut]
  refine ⟨trivial, hw.mono ?_⟩
  rintro o t2 h2 ⟨rfl, g2, hs⟩
  simp only [g2]
  exact ⟨trivial, hs⟩
theorem W_rangeN {tbl : Nat → Option FI} {f : X} {ps : List Nat} {asg body : C} {g : Nat} {a c t : List V} {h : H} {Q : Out → List V → H → Prop} (hf : f.ev t = .fn g a c)
    (hw : WC tbl (.fn g a c) [.yld h.next] (h.new (.loop ⟨.ready, none, t, ps, asg, body⟩)) fun _ h' => h'.get h.next = some (.loop ⟨.ready, none, t, ps, asg, body⟩) ∧ Q .norm t (h'.put h.next (.loop ⟨.over, none, t, ps, asg, body⟩))) :
    W tbl (.rangeF f ps asg body) t h Q := by
  refine (W_range hf).2 (hw.mono ?_)
  rintro _ h' ⟨g', q⟩
  simp only [g', loopOut]
  exact ⟨by simp, q⟩
def sea (s : Int × Int × Int) : List V := [.i .i64 s.1, .i .i64 s.2.1, .i .i64 s.2.2]
theorem sea_len (s : Int × Int × Int) : (sea s).length = 3 := rfl
def Seas (h : H) (v : V) (L : List (Int × Int × Int)) : Prop := Sl 3 h v L.length (recs sea L)
theorem Seas.ext {h h' : H} {v : V} {L : List (Int × Int × Int)} (s : Seas h v L) (e : Ext h h') : Seas h' v L := Sl.ext s e
theorem Seas.nil {h : H} : Seas h .sn [] := .inl ⟨rfl, rfl, .inl rfl⟩
theorem Seas.len {h : H} {v : V} {L : List (Int × Int × Int)} (s : Seas h v L) : lenV v = some L.length := Sl.len s
theorem Seas.ix {h : H} {v : V} {L : List (Int × Int × Int)} (s : Seas h v L) {i : Nat} (hi : i < L.length) : ixV 3 v (.i .i64 (i : Int)) = some (.p (blkV v) (offV v + i * 3)) := Sl.ix s hi
theorem Seas.ldn {h : H} {v : V} {L : List (Int × Int × Int)} (s : Seas h v L) {i : Nat} {a : Int × Int × Int} (hx : L[i]? = some a) : ldnV h 3 (.p (blkV v) (offV v + i * 3)) = some (.agg [.i .i64 a.1, .i .i64 a.2.1, .i .i64 a.2.2]) := by
  rw [Sl.ldn s (List.getElem?_eq_some_iff.1 hx).1, recs_at sea_len L i a hx]; rfl
theorem Seas.of {h : H} {v : V} {n : Nat} {L : List (Int × Int × Int)} (s : Sl 3 h v n (recs sea L)) : Seas h v L ∧ L.length = n := by
  have : L.length = n := by have := s.length; rw [recs_len sea_len] at this; omega
  subst this
  exact ⟨s, rfl⟩
def fill12 (x y : V) : Option (List V) := if Nat.beq x.cells.length 1 && Nat.beq y.cells.length 2 then some (x.cells ++ y.cells) else none
@[go_sem] theorem fill_12 {t : List V} {z0 z1 z2 : V} {x y : X} : fill t [z0, z1, z2] [(0, 1, x), (1, 2, y)] = fill12 (x.ev t) (y.ev t) := by
  simp only [fill, fill12]
  by_cases hl : Nat.beq (x.ev t).cells.length 1 = true
  · rw [if_pos hl]
    obtain ⟨u, hc⟩ : ∃ u, (x.ev t).cells = [u] := by
      rw [Nat.beq_eq] at hl
      exact List.length_eq_one_iff.1 hl
    simp only [hc, lay, Option.map_some]
    by_cases hl2 : Nat.beq (y.ev t).cells.length 2 = true
    · obtain ⟨u2, u3, hc2⟩ : ∃ u v, (y.ev t).cells = [u, v] := by
        rw [Nat.beq_eq] at hl2
        match (y.ev t).cells, hl2 with
      | [u, v], _ => exact ⟨u, v, rfl⟩
      simp [hc2, lay]
    · simp [hl2]
  · simp [hl]
@[go_sem] theorem fill12_i {a b c : Int} : fill12 (.i .i64 a) (.agg [.i .i64 b, .i .i64 c]) = some [.i .i64 a, .i .i64 b, .i .i64 c] := rfl
end Go.Air
set_option maxRecDepth 100000
namespace Go.Air
open Go.Air.Try
def chunk (xs : List Int) (k j : Nat) : List Int := (xs.drop (j * k)).take k
def chunks (xs : List Int) (k : Nat) : List (List Int) := (List.range (rowsN xs.length k)).map (chunk xs k)
def abreastS (xs : List Int) (k : Int) : List (List Int) × Int := if ¬ Good xs ∨ k < 1 ∨ 200 < k then ([], 1) else if 200 < xs.length then ([], 2) else (chunks xs k.toNat, 0)
theorem chunk_len {xs : List Int} {k j : Nat} : (chunk xs k j).length = min k (xs.length - j * k) := by simp [chunk]
def Rows (h0 h : H) (w : V) (xss : List (List Int)) : Prop := ∃ cs, Own h0 1 h w xss.length cs ∧ ∀ (j : Nat) (xs : List Int), xss[j]? = some xs → ∃ c, cs[j]? = some c ∧ Ints h c xs ∧ h0.next ≤ blkV c ∧ blkV c < h.next ∧ (w = .sn ∨ blkV c ≠ blkV w)
theorem Rows.nil {h0 h : H} : Rows h0 h .sn [] := ⟨[], .nil, fun j xs hj => by simp at hj⟩
theorem Rows.ll {h0 h : H} {w : V} {xss : List (List Int)} (r : Rows h0 h w xss) : LL h w xss := by
  obtain ⟨cs, o, hc⟩ := r
  refine ⟨cs, by simpa using o.sl, fun j xs hj => ?_⟩
  obtain ⟨c, q1, q2, _⟩ := hc j xs hj
  exact ⟨c, q1, q2⟩
theorem Rows.keep {h0 h h' : H} {w : V} {xss : List (List Int)} (r : Rows h0 h w xss) (hn : h.next ≤ h'.next) (hk : ∀ b, h0.next ≤ b → b < h.next → h'.get b = h.get b) : Rows h0 h' w xss := by
  obtain ⟨cs, o, hc⟩ := r
  refine ⟨cs, ?_, fun j xs hj => ?_⟩
  · obtain ⟨hl, ⟨hz, hw⟩ | ⟨b, g, hw, hg, h1, h2, hb⟩⟩ := o
    · exact ⟨hl, .inl ⟨hz, hw⟩⟩
    · exact ⟨hl, .inr ⟨b, g, hw, hg, h1, by omega, (hk b h1 h2).trans hb⟩⟩
  · obtain ⟨c, q1, q2, q3, q4, q5⟩ := hc j xs hj
    exact ⟨c, q1, Sl.keep q2 hn (fun hb => hk _ q3 hb), q3, by omega, q5⟩
theorem Rows.ext {h0 h h' : H} {w : V} {xss : List (List Int)} (r : Rows h0 h w xss) (e : Ext h h') : Rows h0 h' w xss := r.keep e.nx (fun b _ hb => e.same b hb)
theorem Rows.step {h0 h g : H} {w w' u : V} {xss : List (List Int)} {xs : List Int} {cs : List V} (hc : ∀ (j : Nat) (xs : List Int), xss[j]? = some xs → ∃ c, cs[j]? = some c ∧ Ints h c xs ∧ h0.next ≤ blkV c ∧ blkV c < h.next ∧ (w = .sn ∨ blkV c ≠ blkV w))
    (hl : cs.length = xss.length) (iu : Ints h u xs) (u1 : h0.next ≤ blkV u) (u2 : blkV u < h.next) (u3 : w = .sn ∨ blkV u ≠ blkV w)
    (o : Own h0 1 g w' (xss.length + 1) (cs ++ [u])) (n : h.next < g.next) (k : ∀ b, b < h.next → (w = .sn ∨ b ≠ blkV w) → g.get b = h.get b) (hb : h.next < blkV w') : Rows h0 g w' (xss ++ [xs]) := by
  refine ⟨cs ++ [u], by simpa using o, fun j ys hj => ?_⟩
  by_cases hjl : j < xss.length
  · rw [List.getElem?_append_left hjl] at hj
    obtain ⟨c, q1, q2, q3, q4, q5⟩ := hc j ys hj
    exact ⟨c, by rw [List.getElem?_append_left (by omega)]; exact q1, Sl.keep q2 (Nat.le_of_lt n) (fun hb => k _ hb q5), q3, by omega, .inr (by omega)⟩
  · have hlt := (List.getElem?_eq_some_iff.1 hj).1
    simp at hlt
    obtain rfl : j = xss.length := by omega
    rw [List.getElem?_append_right (by omega)] at hj
    simp at hj
    subst hj
    exact ⟨u, by rw [List.getElem?_append_right (by omega)]; simp [hl], Sl.keep iu (Nat.le_of_lt n) (fun hb => k _ hb u3), u1, by omega, .inr (by omega)⟩
theorem Rows.app {h0 h : H} {w u : V} {xss : List (List Int)} {xs : List Int} (r : Rows h0 h w xss) (e : Ext h0 h) (iu : Ints h u xs) (uo : u.oneCell = true) (u1 : h0.next ≤ blkV u) (u2 : blkV u < h.next) (u3 : w = .sn ∨ blkV u ≠ blkV w) (hn : xss.length ≤ 1000000) :
    ∃ w' h', appendV 1 24 (h.new (.cells [u])) w (.sl h.next 0 1 1 none) = .ok w' h' ∧ Ext h0 h' ∧ Rows h0 h' w' (xss ++ [xs]) ∧ h.next < h'.next := by
  obtain ⟨cs, o, hc⟩ := r
  obtain ⟨w', h', r1, r2, r3, r4, r5, r6⟩ := app_ref (u := u) o e uo hn
  exact ⟨w', h', r1, r2, Rows.step hc (by simpa using o.len) iu u1 u2 u3 r3 r4 r5 r6, r4⟩
theorem app_refB {h0 h : H} {w u : V} {cs : List V} {n : Nat} (o : Own h0 1 h w n cs) (e : Ext h0 h) (hu : u.oneCell = true) (hn : n ≤ 1000000) :
    ∃ w' hb g, appendV 1 24 (h.new (.cells [u])).bare w (.sl h.next 0 1 1 none) = .ok w' hb ∧ (h.new (.cells [u])).back hb = g ∧ Ext h0 g ∧ Own h0 1 g w' (n + 1) (cs ++ [u]) ∧ h.next < g.next ∧ (∀ b, b < h.next → (w = .sn ∨ b ≠ blkV w) → g.get b = h.get b) ∧ h.next < blkV w' := by
  obtain ⟨o3, x3⟩ := Own.lit (esz := 1) (Ext.refl h) [u] 1 rfl
  obtain ⟨w', hb, g, r1, r2, r3, r4, r5, r6, r7⟩ := Own.appB (bytes := 24) (o.ext x3) (e.trans x3) o3.sl (by intro y hy; simp at hy; subst hy; exact hu) (by omega) (by omega) (by omega)
  refine ⟨w', hb, g, r1, r2, r3, r4, by simp at r5; omega, fun b hb hw => ?_, by rw [r7 (by omega)]; simp⟩
  rw [r6 b (by simp; omega) hw, H.get_new, if_neg (by omega)]
theorem Rows.appB {h0 h : H} {w u : V} {xss : List (List Int)} {xs : List Int} (r : Rows h0 h w xss) (e : Ext h0 h) (iu : Ints h u xs) (uo : u.oneCell = true) (u1 : h0.next ≤ blkV u) (u2 : blkV u < h.next) (u3 : w = .sn ∨ blkV u ≠ blkV w) (hn : xss.length ≤ 1000000) :
    ∃ w' hb g, appendV 1 24 (h.new (.cells [u])).bare w (.sl h.next 0 1 1 none) = .ok w' hb ∧ (h.new (.cells [u])).back hb = g ∧ Ext h0 g ∧ Rows h0 g w' (xss ++ [xs]) ∧ h.next < g.next := by
  obtain ⟨cs, o, hc⟩ := r
  obtain ⟨w', hb, g, r0, r1, r2, r3, r4, r5, r6⟩ := app_refB (u := u) o e uo hn
  exact ⟨w', hb, g, r0, r1, r2, Rows.step hc (by simpa using o.len) iu u1 u2 u3 r3 r4 r5 r6, r4⟩
theorem Rows.wlt {h0 h : H} {w : V} {xss : List (List Int)} (r : Rows h0 h w xss) : w = .sn ∨ blkV w < h.next := by
  obtain ⟨cs, o, _⟩ := r
  exact o.wlt
def slV3 (esz : Nat) (v i j m : V) : Option V := sliceV3 esz [i, j, m] (some (.t 0)) (some (.t 1)) (.t 2) v
@[go_sem ↓] theorem wa_slc3 {tbl : Nat → Option FI} {esz : Nat} {x y z m : X} {t : List V} {h : H} {S : V → H → Prop} : WA tbl (.slc esz x (some y) (some z) (some m)) t h S ↔ ROk (RO.ofV h (slV3 esz (x.ev t) (y.ev t) (z.ev t) (m.ev t))) S := by
  refine WA_of rfl ?_
  show RO.ofV h (sliceV3 esz t (some y) (some z) m (x.ev t)) = _
  congr 1
  have e : natOf (X.ev [y.ev t, z.ev t, m.ev t] (.t 2)) = natOf (m.ev t) := rfl
  have eb : ∀ len cap, bounds [y.ev t, z.ev t, m.ev t] len cap (some (.t 0)) (some (.t 1)) = bounds t len cap (some y) (some z) := fun _ _ => rfl
  unfold slV3 sliceV3
  cases x.ev t <;> first | rfl | (simp only [e, eb]; cases natOf (m.ev t) <;> rfl)
theorem Arg.sl3 {h : H} {v : V} {n a b : Nat} {cs : List V} (s : Arg 1 h v n cs) (hab : a < b) (hb : b ≤ n) : ∃ u, slV3 1 v (.i .i64 (a : Int)) (.i .i64 (b : Int)) (.i .i64 (b : Int)) = some u ∧ Sl 1 h u (b - a) ((cs.drop a).take (b - a)) := by
  rcases s with ⟨rfl, rfl, hv⟩ | ⟨b', off, cap, bl, rfl, hc, hb', hg', hr⟩
  · omega
  · have key : bl.rd (off + a * 1) ((b - a) * 1) = some ((cs.drop (a * 1)).take ((b - a) * 1)) := rd_sub hr (by omega)
    have hbd : bounds [.i .i64 (a : Int), .i .i64 (b : Int), .i .i64 (b : Int)] b b (some (.t 0)) (some (.t 1)) = some (a, b) := bounds_lh rfl rfl (Nat.le_refl b) (by omega)
    have h1 : Nat.ble b cap = true := by rw [Nat.ble_eq]; omega
    have h2 : Nat.beq a b = false := by rw [Bool.eq_false_iff, ne_eq, Nat.beq_eq]; omega
    simp only [slV3, sliceV3]
    rw [show natOf (X.ev [.i .i64 (a : Int), .i .i64 (b : Int), .i .i64 (b : Int)] (.t 2)) = some b from rfl]
    simp only [h1, if_true, hbd, h2, Bool.false_eq_true, if_false]
    refine ⟨_, rfl, .inr ⟨b', _, b - a, none, bl, rfl, hb', hg', ?_⟩⟩
    simpa using key
theorem t121 : tblA 121 = some a121 := by kernel_rfl
theorem fn_Chunk1 {h : H} {b1 b2 l k : Nat} {v : V} {xs : List Int} (J : Nat → H → Prop) (hJ : ∀ j h', J j h' → h'.get b1 = some (.cells [v]) ∧ h'.get b2 = some (.cells [.i .i64 (k : Int)]) ∧ Arg 1 h' v xs.length (ints xs))
    (hstep : ∀ j u h', J j h' → j * k < xs.length → Ints h' u (chunk xs k j) → WC tblA (.yld l) [u] h' (fun r h'' => r = .b true ∧ J (j + 1) h''))
    (h0 : J 0 h) (hk1 : 1 ≤ k) (hk2 : k ≤ 1000) (hn : xs.length ≤ 1000) : WC tblA (.fn 121 [] [.p b1 0, .p b2 0]) [.yld l] h fun _ h' => J (rowsN xs.length k) h' := by
  refine (WC_fn' t121).2 ?_
  have hap : ([] : List V) ++ [.yld l] ++ [.p b1 0, .p b2 0] = [.yld l, .p b1 0, .p b2 0] := rfl
  rw [hap]
  simp only [a121]
  simp only [go_sem, ↓reduceIte, r121_0]
  refine W_while (fun kk t h' => ∃ j, kk = xs.length - j ∧ j ≤ xs.length ∧ (j = 0 ∨ (j - 1) * k < xs.length) ∧ t.length = 31 ∧ nth t 0 = .yld l ∧ nth t 1 = .p b1 0 ∧ nth t 2 = .p b2 0 ∧ nth t 4 = .i .i64 ((j * k : Nat) : Int) ∧ J j h') ?_ xs.length ?_
  · rintro kk t h' ⟨j, rfl, hj, hpr, tl, t0, t1, t2, t4, hJ'⟩
    obtain ⟨g1, g2, ar⟩ := hJ j h' hJ'
    have ls := blk_ld (i := 0) g1 rfl
    have ln := blk_ld (i := 0) g2 rfl
    have hlen := Sl.len ar.sl
    have hjk : j * k ≤ 1000 * 1000 := Nat.mul_le_mul (by omega) hk2
    unfold b121_0
    by_cases hlt : j * k < xs.length
    · have hlt' : ((j * k : Nat) : Int) < (xs.length : Int) := by omega
      obtain ⟨w1, q1, a1⟩ := ar.lo (a := j * k) (by omega)
      have hl1 := Sl.len a1.sl
      have hmin : (if ((xs.length - j * k : Nat) : Int) < (k : Int) then ((xs.length - j * k : Nat) : Int) else (k : Int)) = ((min k (xs.length - j * k) : Nat) : Int) := by
        split <;> omega
      have hw : IntKind.i64.wrap (((j * k : Nat) : Int) + ((min k (xs.length - j * k) : Nat) : Int)) = ((j * k + min k (xs.length - j * k) : Nat) : Int) := by
        rw [wrap_in (by omega) (by omega)]; omega
      obtain ⟨u, q2, s2⟩ := ar.sl3 (a := j * k) (b := j * k + min k (xs.length - j * k)) (by omega) (by omega)
      have iu : Ints h' u (chunk xs k j) := by
        have : (ints xs).drop (j * k) = ints (xs.drop (j * k)) := by simp [ints]
        rw [this] at s2
        have e : (ints (xs.drop (j * k))).take (j * k + min k (xs.length - j * k) - j * k) = ints (chunk xs k j) := by
          simp only [ints, chunk, ← List.map_take]
          congr 1
          rw [List.take_eq_take_iff]
          simp
        rw [e] at s2
        exact (Ints.of s2).1
      simp only [go_sem, ↓reduceIte, r121_1, r121_3, tl, t0, t1, t2, t4, ls, ln, hlen, hlt', q1, hl1, hmin]
      simp only [go_sem, ↓reduceIte, r121_4, tl, t0, t1, t2, t4, ls, hw, q2]
      refine (hstep j u h' hJ' hlt iu).mono ?_
      rintro _ h2 ⟨rfl, hJ2⟩
      obtain ⟨_, g2', _⟩ := hJ (j + 1) h2 hJ2
      have ln2 := blk_ld (i := 0) g2' rfl
      have hw2 : IntKind.i64.wrap (((j * k : Nat) : Int) + (k : Int)) = (((j + 1) * k : Nat) : Int) := by
        rw [wrap_in (by omega) (by omega), Nat.succ_mul]; omega
      have hjn : j < xs.length := by
        have : j * 1 ≤ j * k := Nat.mul_le_mul_left _ hk1
        omega
      simp only [go_sem, ↓reduceIte, r121_2, tl, t0, t1, t2, t4, ln2, hw2]
      exact ⟨xs.length - (j + 1), by omega, j + 1, rfl, hjn, .inr (by simpa using hlt), rfl, hJ2⟩
    · have hlt' : ¬ ((j * k : Nat) : Int) < (xs.length : Int) := by omega
      have hiR : j = rowsN xs.length k := by
        have h1 : ¬ j < rowsN xs.length k := fun q => hlt ((rows_lt hk1).2 q)
        rcases hpr with rfl | hpr
        · omega
        · have := (rows_lt hk1).1 hpr
          omega
      simp only [go_sem, ↓reduceIte, r121_1, tl, t0, t1, t2, t4, ls, hlen, hlt']
      rw [← hiR]
      exact hJ'
  · refine ⟨0, by omega, by omega, .inl rfl, ?_⟩
    simp only [go_sem, ↓reduceIte]
    simp [h0]
def trunc (n : Nat) (h : H) : H := ⟨n, h.mem, h.log⟩
theorem trunc_ext {n : Nat} {h : H} (hn : n ≤ h.next) : Ext (trunc n h) h := ⟨hn, fun b _ => rfl, [], rfl, fun _ hb => by simp at hb⟩
theorem ext_trunc {n : Nat} {hA h : H} (e : Ext hA h) (hn : hA.next ≤ n) : Ext hA (trunc n h) := ⟨hn, fun b hb => e.same b hb, e.log⟩
theorem t100 : tblA 100 = some a100 := by kernel_rfl
theorem t53 : tblA 53 = some a53 := by kernel_rfl
def s53_8a : List O := [⟨some 28, none, .ld (.t 6)⟩, ⟨some 29, none, .mov (.t 7)⟩, ⟨some 30, none, .call (.f 70) [(.t 29)]⟩]
def s53_8b : List O := [⟨some 31, none, .buildSl [.sn] 1 [(0, 1, (.t 30))]⟩, ⟨some 32, none, .app 1 24 (.t 28) (.t 31)⟩, ⟨none, none, .st 1 (.t 6) (.t 32)⟩]
theorem r53_8_eq : r53_8 = s53_8a ++ s53_8b := rfl
theorem chunks_take {xs : List Int} {k j : Nat} (hj : j < rowsN xs.length k) : (chunks xs k).take (j + 1) = (chunks xs k).take j ++ [chunk xs k j] := take_succ' (by simp [chunks, hj])
theorem fn_Chunk {h : H} {k : Int} {v : V} (hk : ¬ k < 1) : WC tblA (.fn 100 [] []) [v, .i .i64 k] h fun u h' => u = .fn 121 [] [.p h.next 0, .p (h.next + 1) 0] ∧ h' = (h.new (.cells v.cells)).new (.cells [.i .i64 k]) := by
  refine (WC_in t100).2 ?_
  have g2 : ((h.new (.cells v.cells)).new (.cells [.i .i64 k])).get (h.next + 1) = some (.cells [.i .i64 k]) := by rw [H.get_new, if_pos (by simp)]
  have l2 := blk_ld (i := 0) g2 rfl
  simp only [go_sem, ↓reduceIte, r100_0, H.next_new]
  rw [show (V.i .i64 k).cells = [.i .i64 k] from rfl]
  simp only [go_sem, ↓reduceIte, r100_1, r100_3, l2, hk]
theorem arg_cells {h : H} {v : V} {n : Nat} {cs : List V} (s : Sl 1 h v n cs) : v.cells = [v] ∧ v.oneCell = true := by
  rcases s with ⟨_, _, rfl | ⟨a, rfl⟩⟩ | ⟨b, off, cap, g, bl, rfl, _⟩ <;> exact ⟨rfl, rfl⟩
theorem draw53_1 {h h' : H} {v : V} {xs : List Int} {k : Int} {t : List V} {Q : Out → List V → H → Prop} (tl : t.length = 34) (t0 : nth t 0 = v) (t1 : nth t 1 = .i .i64 k) (hs : Ints h v xs) (hn : xs.length ≤ 1000000)
    (hQ : ∀ t' h', Ext h h' → t'.length = 34 → nth t' 0 = v → nth t' 1 = .i .i64 k → nth t' 8 = .b (decide (¬ Good xs ∨ k < 1 ∨ 200 < k)) → Q .norm t' h') : WL tblA r53_1 t h (Kops Q) := by
  simp only [go_sem, ↓reduceIte, r53_1, tl, t0, t1]
  refine (fn_listed hs hn).mono ?_
  rintro _ h1 ⟨e1, rfl⟩
  by_cases c1 : Good xs
  · by_cases c2 : k < 1
    · simp only [go_sem, ↓reduceIte, tl, t0, t1, c1, c2]
      exact hQ _ _ e1 (by simp only [go_sem, ↓reduceIte, tl]) (by simp only [go_sem, ↓reduceIte, t0]) (by simp only [go_sem, ↓reduceIte, t1]) (by simp only [go_sem, ↓reduceIte, tl]; simp [c2])
    · by_cases c3 : 200 < k
      · simp only [go_sem, ↓reduceIte, tl, t0, t1, c1, c2, c3]
        exact hQ _ _ e1 (by simp only [go_sem, ↓reduceIte, tl]) (by simp only [go_sem, ↓reduceIte, t0]) (by simp only [go_sem, ↓reduceIte, t1]) (by simp only [go_sem, ↓reduceIte, tl]; simp [c3])
      · simp only [go_sem, ↓reduceIte, tl, t0, t1, c1, c2, c3]
        exact hQ _ _ e1 (by simp only [go_sem, ↓reduceIte, tl]) (by simp only [go_sem, ↓reduceIte, t0]) (by simp only [go_sem, ↓reduceIte, t1]) (by simp only [go_sem, ↓reduceIte, tl]; simp [c1, c2, c3])
  · simp only [go_sem, ↓reduceIte, tl, t0, t1, c1]
    exact hQ _ _ e1 (by simp only [go_sem, ↓reduceIte, tl]) (by simp only [go_sem, ↓reduceIte, t0]) (by simp only [go_sem, ↓reduceIte, t1]) (by simp only [go_sem, ↓reduceIte, tl]; simp [c1])
theorem Sl.put_loop {h : H} {esz n l : Nat} {u : V} {cs : List V} {L : Loop} (s : Sl esz h u n cs) (g : h.get l = some (.loop L)) (x : Blk) : Sl esz (h.put l x) u n cs := by
  rcases s with s | ⟨b, off, cap, gr, bl, rfl, hb, hg, hr⟩
  · exact .inl s
  · have hbl : b ≠ l := by
      rintro rfl
      rw [g] at hg
      cases hg
      simp [Blk.rd] at hr
    exact .inr ⟨b, off, cap, gr, bl, rfl, by simpa using hb, by rw [H.get_put, if_neg hbl]; exact hg, hr⟩
end Go.Air
set_option maxRecDepth 100000
namespace Go.Air
theorem wrap_nat {n : Nat} (h : n < 4611686018427387904) : IntKind.i64.wrap (n : Int) = (n : Int) := wrap_in (by omega) (by omega)
theorem bv_nat {n : Nat} (h : n < 4611686018427387904) : (BitVec.ofInt IntKind.i64.bits (n : Int)).toNat = n := by
  show (BitVec.ofInt 64 (n : Int)).toNat = n
  rw [BitVec.ofInt_natCast, BitVec.toNat_ofNat]
  exact Nat.mod_eq_of_lt (by omega)
theorem pow_lt {k : Nat} (hk : k < 62) : 2 ^ k < 4611686018427387904 := by
  have : 2 ^ k < 2 ^ 62 := Nat.pow_lt_pow_right (by omega) hk
  simpa using this
theorem bin_shl1 {k : Nat} {kd : IntKind} (hk : k < 62) : binV .shl (.i .i64 1) (.i kd (k : Int)) = some (.i .i64 ((2 ^ k : Nat) : Int)) := by
  have h0 : ¬ (k : Int) < 0 := by omega
  have h1 : min k IntKind.i64.bits = k := by
    show min k 64 = k
    omega
  simp only [binV, shI, h0, if_false, Int.toNat_natCast, h1, Int.one_mul]
  rw [show ((2 : Int) ^ k) = ((2 ^ k : Nat) : Int) by simp, wrap_nat (pow_lt hk)]
theorem bin_and {a b : Nat} (ha : a < 4611686018427387904) (hb : b < 4611686018427387904) : binV .and (.i .i64 (a : Int)) (.i .i64 (b : Int)) = some (.i .i64 ((a &&& b : Nat) : Int)) := by
  simp only [binV, binI, if_true, bitsV]
  rw [BitVec.toNat_and, bv_nat ha, bv_nat hb, wrap_nat]
  exact Nat.lt_of_le_of_lt Nat.and_le_left ha
theorem bin_or {a b : Nat} (ha : a < 4611686018427387904) (hb : b < 4611686018427387904) : binV .or (.i .i64 (a : Int)) (.i .i64 (b : Int)) = some (.i .i64 ((a ||| b : Nat) : Int)) := by
  simp only [binV, binI, if_true, bitsV]
  rw [BitVec.toNat_or, bv_nat ha, bv_nat hb, wrap_nat]
  have : a ||| b < 2 ^ 62 := Nat.or_lt_two_pow (by simpa using ha) (by simpa using hb)
  simpa using this
theorem and_pow (s k : Nat) : s &&& 2 ^ k = if s.testBit k = true then 2 ^ k else 0 := by
  apply Nat.eq_of_testBit_eq
  intro i
  rw [Nat.testBit_and, Nat.testBit_two_pow]
  by_cases q : k = i
  · subst q
    cases h : s.testBit k
    · simp
    · simp [Nat.testBit_two_pow]
  · cases h : s.testBit k
    · simp [q]
    · simp [Nat.testBit_two_pow, q]
theorem and_bit (s k : Nat) : (s &&& 2 ^ k ≠ 0) ↔ s.testBit k = true := by
  rw [and_pow]
  cases h : s.testBit k
  · simp
  · simp [Nat.pos_iff_ne_zero.1 (Nat.two_pow_pos k)]
theorem bit_le {s k : Nat} (h : s.testBit k = true) : 2 ^ k ≤ s := Nat.ge_two_pow_of_testBit h
theorem bv_less {s k : Nat} (hs : s < 4611686018427387904) (h : s.testBit k = true) : (BitVec.ofInt 64 (s : Int) &&& ~~~BitVec.ofInt 64 ((2 ^ k : Nat) : Int)).toNat = s - 2 ^ k := by
  have hk := bit_le h
  have hb : 2 ^ k < 4611686018427387904 := by omega
  have hx : (BitVec.ofInt 64 (s : Int)).toNat = s := bv_nat hs
  have hy : (BitVec.ofInt 64 ((2 ^ k : Nat) : Int)).toNat = 2 ^ k := bv_nat hb
  generalize BitVec.ofInt 64 (s : Int) = x at *
  generalize BitVec.ofInt 64 ((2 ^ k : Nat) : Int) = y at *
  have hand : x &&& y = y := by
    apply BitVec.eq_of_toNat_eq
    rw [BitVec.toNat_and, hx, hy, and_pow, h]
    simp
  have hor : (x &&& ~~~y) ||| y = x := by
    have : (x &&& ~~~y) ||| (x &&& y) = x := by
      ext i
      simp only [BitVec.getElem_or, BitVec.getElem_and, BitVec.getElem_not]
      cases x[i] <;> cases y[i] <;> rfl
    rw [hand] at this
    exact this
  have hz : (x &&& ~~~y) &&& y = 0#_ := by
    ext i
    simp only [BitVec.getElem_and, BitVec.getElem_not, BitVec.getElem_zero]
    cases x[i] <;> cases y[i] <;> rfl
  have hadd : (x &&& ~~~y) + y = x := by rw [BitVec.add_eq_or_of_and_eq_zero _ _ hz, hor]
  have hle : (x &&& ~~~y).toNat ≤ x.toNat := by rw [BitVec.toNat_and]; exact Nat.and_le_left
  have hn := congrArg BitVec.toNat hadd
  rw [BitVec.toNat_add, hx, hy, Nat.mod_eq_of_lt (by omega)] at hn
  omega
theorem bin_andNot {s k : Nat} (hs : s < 4611686018427387904) (h : s.testBit k = true) : binV .andNot (.i .i64 (s : Int)) (.i .i64 ((2 ^ k : Nat) : Int)) = some (.i .i64 ((s - 2 ^ k : Nat) : Int)) := by
  simp only [binV, binI, if_true, bitsV]
  rw [show (BitVec.ofInt IntKind.i64.bits (s : Int) &&& ~~~BitVec.ofInt IntKind.i64.bits ((2 ^ k : Nat) : Int)).toNat = s - 2 ^ k from bv_less hs h, wrap_nat (Nat.lt_of_le_of_lt (Nat.sub_le _ _) hs)]
end Go.Air
set_option maxRecDepth 100000
namespace Go.Air
open Go.Air.Try
inductive TC (e : Nat → Nat → Bool) (a : Nat) : Nat → Prop
  | base {b : Nat} (h : e a b = true) : TC e a b
  | step {b c : Nat} (s : TC e a b) (h : e b c = true) : TC e a c
theorem TC.trans {e : Nat → Nat → Bool} {a b c : Nat} (s : TC e a b) (t : TC e b c) : TC e a c := by
  induction t with
  | base h => exact .step s h
  | step _ h ih => exact .step ih h
open Classical in
noncomputable def rch (e : Nat → Nat → Bool) (a b : Nat) : Bool := decide (TC e a b)
open Classical in
theorem rch_iff {e : Nat → Nat → Bool} {a b : Nat} : rch e a b = true ↔ TC e a b := by unfold rch; exact decide_eq_true_iff
def Bnd (n : Nat) (e : Nat → Nat → Bool) : Prop := ∀ a b, e a b = true → a < n ∧ b < n
theorem TC.bnd {n : Nat} {e : Nat → Nat → Bool} (hb : Bnd n e) {a b : Nat} (s : TC e a b) : a < n ∧ b < n := by
  induction s with
  | base h => exact hb _ _ h
  | step _ h ih => exact ⟨ih.1, (hb _ _ h).2⟩
def mate (R : Nat → Nat → Bool) (n a b : Nat) : Bool := decide (b < n) && (decide (a = b) || (R a b && R b a))
def freeG (R : Nat → Nat → Bool) (n : Nat) (d : Nat → Bool) (a : Nat) : Bool := !d a && (List.range n).all fun b => !(R b a && !R a b && !d b)
def setL (n : Nat) (s : Nat → Bool) : List Int := ((List.range n).filter s).map fun (j : Nat) => (j : Int)
def addS (d s : Nat → Bool) (b : Nat) : Bool := d b || s b
def comps (R : Nat → Nat → Bool) (n : Nat) : Nat → (Nat → Bool) → List (List Int)
  | 0, _ => []
  | k + 1, d => match (List.range n).find? (freeG R n d) with
    | none => []
    | some a => setL n (mate R n a) :: comps R n k (addS d (mate R n a))
def undone (n : Nat) (d : Nat → Bool) : Nat := ((List.range n).filter fun a => !d a).length
theorem free_find {R : Nat → Nat → Bool} {n : Nat} {d : Nat → Bool} {a : Nat} (h : (List.range n).find? (freeG R n d) = some a) : a < n ∧ freeG R n d a = true :=
  ⟨List.mem_range.1 (List.mem_of_find?_eq_some h), by simpa using List.find?_some h⟩
theorem filter_lt {p q : Nat → Bool} {a : Nat} : ∀ {l : List Nat}, (∀ x, p x = true → q x = true) → a ∈ l → p a = false → q a = true → (l.filter p).length < (l.filter q).length
  | [], _, h, _, _ => by simp at h
  | x :: l, hpq, hm, hp, hq => by
    have hle : ∀ l : List Nat, (l.filter p).length ≤ (l.filter q).length := by
      intro l
      induction l with
      | nil => simp
      | cons y l ih =>
        by_cases hy : p y = true
        · rw [List.filter_cons_of_pos hy, List.filter_cons_of_pos (hpq y hy)]; simp; exact ih
        · rw [List.filter_cons_of_neg hy]
          by_cases hy2 : q y = true
          · rw [List.filter_cons_of_pos hy2]; simp; omega
          · rw [List.filter_cons_of_neg hy2]; exact ih
    by_cases hx : x = a
    · subst hx
      rw [List.filter_cons_of_neg (by simp [hp]), List.filter_cons_of_pos hq]
      have := hle l
      simp; omega
    · have hm' : a ∈ l := by
        rcases List.mem_cons.1 hm with h | h
        · exact absurd h.symm hx
        · exact h
      have ih := filter_lt hpq hm' hp hq
      by_cases hy : p x = true
      · rw [List.filter_cons_of_pos hy, List.filter_cons_of_pos (hpq x hy)]; simp; exact ih
      · rw [List.filter_cons_of_neg hy]
        by_cases hy2 : q x = true
        · rw [List.filter_cons_of_pos hy2]; simp; omega
        · rw [List.filter_cons_of_neg hy2]; exact ih
theorem undone_lt {R : Nat → Nat → Bool} {n : Nat} {d : Nat → Bool} {a : Nat} (ha : a < n) (hf : freeG R n d a = true) : undone n (addS d (mate R n a)) < undone n d := by
  have hd : d a = false := by
    simp only [freeG, Bool.and_eq_true, Bool.not_eq_true'] at hf
    exact hf.1
  refine filter_lt (a := a) ?_ (List.mem_range.2 ha) ?_ ?_
  · intro x hx
    simp only [addS, Bool.not_eq_true', Bool.or_eq_false_iff] at hx ⊢
    exact hx.1
  · simp [addS, mate, ha]
  · simp [hd]
def noneD (_ : Nat) : Bool := false
end Go.Air
set_option maxRecDepth 100000
namespace Go.Air
open Go.Air.Try
theorem WL_append {tbl : Nat → Option FI} {T : List V → H → Prop} : ∀ {a b : List O} {t : List V} {h : H}, WL tbl (a ++ b) t h T ↔ WL tbl a t h (fun t h => WL tbl b t h T)
  | [], b, t, h => by rw [WL_nil]; rfl
  | o :: a, b, t, h => by
    rw [List.cons_append, WL_cons, WL_cons]
    split
    · constructor
      · intro w; exact w.mono fun v h' q => WL_append.1 q
      · intro w; exact w.mono fun v h' q => WL_append.2 q
    · exact WL_append
def s66_8_0 : List O := [⟨some 19, none, .fld 0 (.t 4)⟩,
  ⟨some 20, none, .ld (.t 19)⟩,
  ⟨some 21, none, .fld 0 (.t 1)⟩,
  ⟨some 22, none, .ld (.t 21)⟩,
  ⟨some 23, none, .bin .sub (.t 22) (.c (.i .i64 1))⟩,
  ⟨some 24, none, .call (.f 108) [(.t 20), (.c (.i .i64 0)), (.t 23)]⟩,
  ⟨some 25, none, .un .not (.t 24)⟩]
def s66_8_1 : List O := [⟨some 26, none, .mov (.t 25)⟩,
  ⟨some 27, some (26, false), .fld 1 (.t 4)⟩,
  ⟨some 28, some (26, false), .ld (.t 27)⟩,
  ⟨some 29, some (26, false), .fld 0 (.t 1)⟩,
  ⟨some 30, some (26, false), .ld (.t 29)⟩,
  ⟨some 31, some (26, false), .bin .sub (.t 30) (.c (.i .i64 1))⟩,
  ⟨some 32, some (26, false), .call (.f 108) [(.t 28), (.c (.i .i64 0)), (.t 31)]⟩,
  ⟨some 33, some (26, false), .un .not (.t 32)⟩,
  ⟨some 34, none, .pick (.t 26) (.c (.b true)) (.t 33)⟩]
def s66_8_2 : List O := [⟨some 35, none, .mov (.t 34)⟩,
  ⟨some 36, some (35, false), .fld 0 (.t 4)⟩,
  ⟨some 37, some (35, false), .ld (.t 36)⟩,
  ⟨some 38, some (35, false), .fld 1 (.t 4)⟩,
  ⟨some 39, some (35, false), .ld (.t 38)⟩,
  ⟨some 40, some (35, false), .bin .eql (.t 37) (.t 39)⟩,
  ⟨some 41, none, .pick (.t 35) (.c (.b true)) (.t 40)⟩]
def s66_8_3 : List O := [⟨some 42, none, .mov (.t 41)⟩,
  ⟨some 43, some (42, false), .fld 2 (.t 4)⟩,
  ⟨some 44, some (42, false), .ld (.t 43)⟩,
  ⟨some 45, some (42, false), .call (.f 108) [(.t 44), (.c (.i .i64 0)), (.c (.i .i64 23))]⟩,
  ⟨some 46, some (42, false), .un .not (.t 45)⟩,
  ⟨some 47, none, .pick (.t 42) (.c (.b true)) (.t 46)⟩]
def s66_8_4 : List O := [⟨some 48, none, .mov (.t 47)⟩,
  ⟨some 49, some (48, false), .fld 3 (.t 4)⟩,
  ⟨some 50, some (48, false), .ld (.t 49)⟩,
  ⟨some 51, some (48, false), .call (.f 108) [(.t 50), (.c (.i .i64 1)), (.c (.i .i64 1000))]⟩,
  ⟨some 52, some (48, false), .un .not (.t 51)⟩,
  ⟨some 53, none, .pick (.t 48) (.c (.b true)) (.t 52)⟩]
theorem r66_8_eq : r66_8 = s66_8_0 ++ (s66_8_1 ++ (s66_8_2 ++ (s66_8_3 ++ (s66_8_4)))) := rfl
theorem sg66_8_0 {h : H} {b q : Nat} {N : Int} {a : Arw} {t : List V} {T : List V → H → Prop} (tl : t.length = 68) (tb : nth t 1 = .p b 0) (tq : nth t 4 = .p q 0) (lN : ldV h (.p b 0) = some (.i .i64 N)) (x0 : ldV h (.p q 0) = some (.i .i64 a.f)) (x1 : ldV h (.p q 1) = some (.i .i64 a.t)) (x2 : ldV h (.p q 2) = some (.i .i64 a.r)) (x3 : ldV h (.p q 3) = some (.i .i64 a.w)) (hw : IntKind.i64.wrap (N - 1) = N - 1) (hT : ∀ t', t'.length = 68 → (∀ j, j < 19 → nth t' j = nth t j) → nth t' 25 = .b (!inB a.f 0 (N - 1)) → T t' h) : WL tblA s66_8_0 t h T := by
  cases c : inB a.f 0 (N - 1)
  · simp only [go_sem, ↓reduceIte, s66_8_0, tl, tb, tq, lN, x0, x1, x2, x3, hw, c]
    exact hT _ (by simp only [upd_length, tl]) (fun j hj => by simp only [nth_upd]; repeat rw [if_neg (by omega)]) (by simp only [go_sem, ↓reduceIte, tl]; try simp [c])
  · simp only [go_sem, ↓reduceIte, s66_8_0, tl, tb, tq, lN, x0, x1, x2, x3, hw, c]
    exact hT _ (by simp only [upd_length, tl]) (fun j hj => by simp only [nth_upd]; repeat rw [if_neg (by omega)]) (by simp only [go_sem, ↓reduceIte, tl]; try simp [c])
theorem sg66_8_1 {h : H} {b q : Nat} {N : Int} {a : Arw} {p : Bool} {t : List V} {T : List V → H → Prop} (tl : t.length = 68) (tb : nth t 1 = .p b 0) (tq : nth t 4 = .p q 0) (lN : ldV h (.p b 0) = some (.i .i64 N)) (x0 : ldV h (.p q 0) = some (.i .i64 a.f)) (x1 : ldV h (.p q 1) = some (.i .i64 a.t)) (x2 : ldV h (.p q 2) = some (.i .i64 a.r)) (x3 : ldV h (.p q 3) = some (.i .i64 a.w)) (hw : IntKind.i64.wrap (N - 1) = N - 1) (hp : nth t 25 = .b p) (hT : ∀ t', t'.length = 68 → (∀ j, j < 19 → nth t' j = nth t j) → nth t' 34 = .b (p || !inB a.t 0 (N - 1)) → T t' h) : WL tblA s66_8_1 t h T := by
  cases p
  · cases c : inB a.t 0 (N - 1)
    · simp only [go_sem, ↓reduceIte, s66_8_1, tl, tb, tq, lN, x0, x1, x2, x3, hw, hp, c]
      exact hT _ (by simp only [upd_length, tl]) (fun j hj => by simp only [nth_upd]; repeat rw [if_neg (by omega)]) (by simp only [go_sem, ↓reduceIte, tl]; try simp [c])
    · simp only [go_sem, ↓reduceIte, s66_8_1, tl, tb, tq, lN, x0, x1, x2, x3, hw, hp, c]
      exact hT _ (by simp only [upd_length, tl]) (fun j hj => by simp only [nth_upd]; repeat rw [if_neg (by omega)]) (by simp only [go_sem, ↓reduceIte, tl]; try simp [c])
  · simp only [go_sem, ↓reduceIte, s66_8_1, tl, tb, tq, lN, x0, x1, x2, x3, hw, hp]
    exact hT _ (by simp only [upd_length, tl]) (fun j hj => by simp only [nth_upd]; repeat rw [if_neg (by omega)]) (by simp only [go_sem, ↓reduceIte, tl]; try simp)
theorem sg66_8_2 {h : H} {b q : Nat} {N : Int} {a : Arw} {p : Bool} {t : List V} {T : List V → H → Prop} (tl : t.length = 68) (tb : nth t 1 = .p b 0) (tq : nth t 4 = .p q 0) (lN : ldV h (.p b 0) = some (.i .i64 N)) (x0 : ldV h (.p q 0) = some (.i .i64 a.f)) (x1 : ldV h (.p q 1) = some (.i .i64 a.t)) (x2 : ldV h (.p q 2) = some (.i .i64 a.r)) (x3 : ldV h (.p q 3) = some (.i .i64 a.w)) (hw : IntKind.i64.wrap (N - 1) = N - 1) (hp : nth t 34 = .b p) (hT : ∀ t', t'.length = 68 → (∀ j, j < 19 → nth t' j = nth t j) → nth t' 41 = .b (p || decide (a.f = a.t)) → T t' h) : WL tblA s66_8_2 t h T := by
  cases p
  · by_cases c : a.f = a.t
    · simp only [go_sem, ↓reduceIte, s66_8_2, tl, tb, tq, lN, x0, x1, x2, x3, hw, hp, c]
      exact hT _ (by simp only [upd_length, tl]) (fun j hj => by simp only [nth_upd]; repeat rw [if_neg (by omega)]) (by simp only [go_sem, ↓reduceIte, tl]; simp [c])
    · simp only [go_sem, ↓reduceIte, s66_8_2, tl, tb, tq, lN, x0, x1, x2, x3, hw, hp, c]
      exact hT _ (by simp only [upd_length, tl]) (fun j hj => by simp only [nth_upd]; repeat rw [if_neg (by omega)]) (by simp only [go_sem, ↓reduceIte, tl]; simp [c])
  · simp only [go_sem, ↓reduceIte, s66_8_2, tl, tb, tq, lN, x0, x1, x2, x3, hw, hp]
    exact hT _ (by simp only [upd_length, tl]) (fun j hj => by simp only [nth_upd]; repeat rw [if_neg (by omega)]) (by simp only [go_sem, ↓reduceIte, tl]; try simp)
theorem sg66_8_3 {h : H} {b q : Nat} {N : Int} {a : Arw} {p : Bool} {t : List V} {T : List V → H → Prop} (tl : t.length = 68) (tb : nth t 1 = .p b 0) (tq : nth t 4 = .p q 0) (lN : ldV h (.p b 0) = some (.i .i64 N)) (x0 : ldV h (.p q 0) = some (.i .i64 a.f)) (x1 : ldV h (.p q 1) = some (.i .i64 a.t)) (x2 : ldV h (.p q 2) = some (.i .i64 a.r)) (x3 : ldV h (.p q 3) = some (.i .i64 a.w)) (hw : IntKind.i64.wrap (N - 1) = N - 1) (hp : nth t 41 = .b p) (hT : ∀ t', t'.length = 68 → (∀ j, j < 19 → nth t' j = nth t j) → nth t' 47 = .b (p || !inB a.r 0 23) → T t' h) : WL tblA s66_8_3 t h T := by
  cases p
  · cases c : inB a.r 0 23
    · simp only [go_sem, ↓reduceIte, s66_8_3, tl, tb, tq, lN, x0, x1, x2, x3, hw, hp, c]
      exact hT _ (by simp only [upd_length, tl]) (fun j hj => by simp only [nth_upd]; repeat rw [if_neg (by omega)]) (by simp only [go_sem, ↓reduceIte, tl]; try simp [c])
    · simp only [go_sem, ↓reduceIte, s66_8_3, tl, tb, tq, lN, x0, x1, x2, x3, hw, hp, c]
      exact hT _ (by simp only [upd_length, tl]) (fun j hj => by simp only [nth_upd]; repeat rw [if_neg (by omega)]) (by simp only [go_sem, ↓reduceIte, tl]; try simp [c])
  · simp only [go_sem, ↓reduceIte, s66_8_3, tl, tb, tq, lN, x0, x1, x2, x3, hw, hp]
    exact hT _ (by simp only [upd_length, tl]) (fun j hj => by simp only [nth_upd]; repeat rw [if_neg (by omega)]) (by simp only [go_sem, ↓reduceIte, tl]; try simp)
theorem sg66_8_4 {h : H} {b q : Nat} {N : Int} {a : Arw} {p : Bool} {t : List V} {T : List V → H → Prop} (tl : t.length = 68) (tb : nth t 1 = .p b 0) (tq : nth t 4 = .p q 0) (lN : ldV h (.p b 0) = some (.i .i64 N)) (x0 : ldV h (.p q 0) = some (.i .i64 a.f)) (x1 : ldV h (.p q 1) = some (.i .i64 a.t)) (x2 : ldV h (.p q 2) = some (.i .i64 a.r)) (x3 : ldV h (.p q 3) = some (.i .i64 a.w)) (hw : IntKind.i64.wrap (N - 1) = N - 1) (hp : nth t 47 = .b p) (hT : ∀ t', t'.length = 68 → (∀ j, j < 19 → nth t' j = nth t j) → nth t' 53 = .b (p || !inB a.w 1 1000) → T t' h) : WL tblA s66_8_4 t h T := by
  cases p
  · cases c : inB a.w 1 1000
    · simp only [go_sem, ↓reduceIte, s66_8_4, tl, tb, tq, lN, x0, x1, x2, x3, hw, hp, c]
      exact hT _ (by simp only [upd_length, tl]) (fun j hj => by simp only [nth_upd]; repeat rw [if_neg (by omega)]) (by simp only [go_sem, ↓reduceIte, tl]; try simp [c])
    · simp only [go_sem, ↓reduceIte, s66_8_4, tl, tb, tq, lN, x0, x1, x2, x3, hw, hp, c]
      exact hT _ (by simp only [upd_length, tl]) (fun j hj => by simp only [nth_upd]; repeat rw [if_neg (by omega)]) (by simp only [go_sem, ↓reduceIte, tl]; try simp [c])
  · simp only [go_sem, ↓reduceIte, s66_8_4, tl, tb, tq, lN, x0, x1, x2, x3, hw, hp]
    exact hT _ (by simp only [upd_length, tl]) (fun j hj => by simp only [nth_upd]; repeat rw [if_neg (by omega)]) (by simp only [go_sem, ↓reduceIte, tl]; try simp)
theorem ops66_8 {h : H} {b q : Nat} {N : Int} {a : Arw} {t : List V} {Q : Out → List V → H → Prop} (tl : t.length = 68) (tb : nth t 1 = .p b 0) (tq : nth t 4 = .p q 0) (lN : ldV h (.p b 0) = some (.i .i64 N)) (x0 : ldV h (.p q 0) = some (.i .i64 a.f)) (x1 : ldV h (.p q 1) = some (.i .i64 a.t)) (x2 : ldV h (.p q 2) = some (.i .i64 a.r)) (x3 : ldV h (.p q 3) = some (.i .i64 a.w)) (hw : IntKind.i64.wrap (N - 1) = N - 1) (hQ : ∀ t', t'.length = 68 → (∀ j, j < 19 → nth t' j = nth t j) → nth t' 53 = .b ((((!inB a.f 0 (N - 1) || !inB a.t 0 (N - 1)) || decide (a.f = a.t)) || !inB a.r 0 23) || !inB a.w 1 1000) → Q .norm t' h) : WL tblA r66_8 t h (Kops Q) := by
  rw [r66_8_eq]
  rw [WL_append]
  refine sg66_8_0 tl tb tq lN x0 x1 x2 x3 hw ?_
  intro t0 l0 k0 v0
  rw [WL_append]
  refine sg66_8_1 l0 ((k0 1 (by omega)).trans tb) ((k0 4 (by omega)).trans tq) lN x0 x1 x2 x3 hw v0 ?_
  intro t1 l1 k1 v1
  replace k1 : ∀ j, j < 19 → nth t1 j = nth t j := fun j hj => (k1 j hj).trans (k0 j hj)
  rw [WL_append]
  refine sg66_8_2 l1 ((k1 1 (by omega)).trans tb) ((k1 4 (by omega)).trans tq) lN x0 x1 x2 x3 hw v1 ?_
  intro t2 l2 k2 v2
  replace k2 : ∀ j, j < 19 → nth t2 j = nth t j := fun j hj => (k2 j hj).trans (k1 j hj)
  rw [WL_append]
  refine sg66_8_3 l2 ((k2 1 (by omega)).trans tb) ((k2 4 (by omega)).trans tq) lN x0 x1 x2 x3 hw v2 ?_
  intro t3 l3 k3 v3
  replace k3 : ∀ j, j < 19 → nth t3 j = nth t j := fun j hj => (k3 j hj).trans (k2 j hj)
  refine sg66_8_4 l3 ((k3 1 (by omega)).trans tb) ((k3 4 (by omega)).trans tq) lN x0 x1 x2 x3 hw v3 ?_
  intro t4 l4 k4 v4
  replace k4 : ∀ j, j < 19 → nth t4 j = nth t j := fun j hj => (k4 j hj).trans (k3 j hj)
  exact hQ t4 l4 k4 v4
def OkA (N : Int) (a : Arw) : Prop := 0 ≤ a.f ∧ a.f < N ∧ 0 ≤ a.t ∧ a.t < N ∧ a.f ≠ a.t ∧ 0 ≤ a.r ∧ a.r ≤ 23 ∧ 1 ≤ a.w ∧ a.w ≤ 1000
instance (N : Int) (a : Arw) : Decidable (OkA N a) := by unfold OkA; infer_instance
def GoodR (N : Int) (rs : List Arw) : Prop := (∀ a ∈ rs, OkA N a) ∧ rs.Pairwise ltA
instance (N : Int) (rs : List Arw) : Decidable (GoodR N rs) := by unfold GoodR; infer_instance
def checkS (N : Int) (rs : List Arw) : Int := if 24 < N then 2 else if N < 0 then 1 else if GoodR N rs then 0 else 1
theorem ltA_trans {a b c : Arw} (h1 : ltA a b) (h2 : ltA b c) : ltA a c := by unfold ltA at *; omega
theorem bad66 {N : Int} {a : Arw} : (!inB a.f 0 (N - 1) || !inB a.t 0 (N - 1) || decide (a.f = a.t) || !inB a.r 0 23 || !inB a.w 1 1000) = !decide (OkA N a) := by
  have : decide (OkA N a) = decide ((0 ≤ a.f ∧ a.f ≤ N - 1) ∧ (0 ≤ a.t ∧ a.t ≤ N - 1) ∧ ¬ a.f = a.t ∧ (0 ≤ a.r ∧ a.r ≤ 23) ∧ (1 ≤ a.w ∧ a.w ≤ 1000)) := by rw [decide_eq_decide]; unfold OkA; omega
  rw [this]
  simp only [inB, Bool.decide_and, decide_not, Bool.not_and, Bool.not_not, Bool.or_assoc]
theorem good_not_ok {N : Int} {rs : List Arw} {i : Nat} {a : Arw} (hx : rs[i]? = some a) (h : ¬ OkA N a) : ¬ GoodR N rs := fun g => h (g.1 a (List.mem_of_getElem? hx))
theorem good_not_lt {N : Int} {rs : List Arw} {i : Nat} {a b : Arw} (hb : rs[i]? = some b) (hx : rs[i + 1]? = some a) (h : ¬ ltA b a) : ¬ GoodR N rs := by
  intro g
  obtain ⟨h1, e1⟩ := List.getElem?_eq_some_iff.1 hb
  obtain ⟨h2, e2⟩ := List.getElem?_eq_some_iff.1 hx
  have := List.pairwise_iff_getElem.1 g.2 i (i + 1) h1 h2 (by omega)
  rw [e1, e2] at this
  exact h this
theorem good_step {N : Int} {rs : List Arw} {i : Nat} {a : Arw} (g : GoodR N (rs.take i)) (hx : rs[i]? = some a) (ho : OkA N a) (hl : ∀ j b, i = j + 1 → rs[j]? = some b → ltA b a) : GoodR N (rs.take (i + 1)) := by
  rw [take_succ' hx]
  refine ⟨fun x hm => ?_, ?_⟩
  · rcases List.mem_append.1 hm with hm | hm
    · exact g.1 x hm
    · simp at hm; subst hm; exact ho
  · refine List.pairwise_append.2 ⟨g.2, by simp, fun x hm y hy => ?_⟩
    simp at hy; subst hy
    cases i with
    | zero => simp at hm
    | succ j =>
      have hj : j < rs.length := by have := (List.getElem?_eq_some_iff.1 hx).1; omega
      have hb : rs[j]? = some rs[j] := List.getElem?_eq_getElem hj
      have hlt := hl j _ rfl hb
      rw [take_succ' hb] at hm g
      rcases List.mem_append.1 hm with hm | hm
      · exact ltA_trans ((List.pairwise_append.1 g.2).2.2 x hm _ (by simp)) hlt
      · simp at hm; subst hm; exact hlt
theorem good_nil (N : Int) : GoodR N [] := ⟨by simp, by simp⟩
theorem rel_blk (h : H) (N : Int) (v : V) : Ext h (h.new (.cells [.i .i64 N, v])) ∧ (h.new (.cells [.i .i64 N, v])).get h.next = some (.cells [.i .i64 N, v]) :=
  ⟨(Ext.refl h).new _, by rw [H.get_new, if_pos rfl]⟩
theorem Ext.get {h h' : H} (e : Ext h h') {b : Nat} {x : Blk} (hb : b < h.next) (g : h.get b = some x) : h'.get b = some x := (e.same b hb).trans g
theorem t66 : tblA 66 = some a66 := by kernel_rfl
theorem fn_Check {h : H} {N : Int} {v : V} {rs : List Arw} (hs : Arrs h v rs) (hn : rs.length ≤ 1000000) : WC tblA (.fn 66 [] []) [.agg [.i .i64 N, v]] h fun u h' => Ext h h' ∧ u = .i .i64 (checkS N rs) := by
  refine (WC_in t66).2 ?_
  obtain ⟨e0, g0⟩ := rel_blk h N v
  simp only [go_sem, ↓reduceIte, r66_0]
  generalize hb : h.next = b at *
  generalize hh : h.new (.cells [.i .i64 N, v]) = h0 at *
  have hb0 : b < h0.next := by rw [← hh, ← hb]; simp
  have l0 : ldV h0 (.p b 0) = some (.i .i64 N) := blk_ld g0 rfl
  have l1 : ldV h0 (.p b 1) = some v := blk_ld g0 rfl
  by_cases c1 : 24 < N
  · simp only [go_sem, ↓reduceIte, r66_1, r66_2, l0, c1]
    exact ⟨e0, by simp [checkS, c1]⟩
  by_cases c2 : N < 0
  · simp only [go_sem, ↓reduceIte, r66_1, r66_3, r66_4, l0, c1, c2]
    exact ⟨e0, by simp [checkS, c1, c2]⟩
  have hw : IntKind.i64.wrap (N - 1) = N - 1 := wrap_in (by omega) (by omega)
  have hck : checkS N rs = if GoodR N rs then 0 else 1 := by simp only [checkS, if_neg c1, if_neg c2]
  have hs0 := hs.ext e0
  simp only [go_sem, ↓reduceIte, r66_1, r66_3, r66_5, l0, l1, c1, c2, hs0.len]
  refine W_while (fun k t h' => ∃ i, k = rs.length - i ∧ i ≤ rs.length ∧ t.length = 68 ∧ nth t 1 = .p b 0 ∧ nth t 12 = v ∧ nth t 13 = .i .i64 (rs.length : Int) ∧ nth t 14 = .i .i64 (i : Int) ∧ GoodR N (rs.take i) ∧ Ext h0 h') ?_ rs.length ?_
  · rintro k t h' ⟨i, rfl, hi, tl, t1, t12, t13, t14, hg, e1⟩
    unfold b66_0
    by_cases hlt : i < rs.length
    · have hlt' : (i : Int) < (rs.length : Int) := by omega
      obtain ⟨a, hx⟩ : ∃ a, rs[i]? = some a := ⟨_, List.getElem?_eq_getElem hlt⟩
      have s1 := hs0.ext e1
      obtain ⟨h2, q1, e2, g2, n2⟩ := st_arw h' (.i .i64 0) (.i .i64 0) (.i .i64 0) (.i .i64 0) a
      have gb := (e1.trans e2).get hb0 g0
      obtain ⟨x0, x1, x2, x3, x4⟩ := arw_lds g2
      simp only [go_sem, ↓reduceIte, r66_6, r66_7, tl, t1, t12, t13, t14, hlt', s1.ix hlt, s1.ldn hx, q1]
      refine ops66_8 (b := b) (q := h'.next) (N := N) (a := a) (by simp only [go_sem, ↓reduceIte, tl]) (by simp only [go_sem, ↓reduceIte, t1]) (by simp only [go_sem, ↓reduceIte, tl]) (blk_ld gb rfl) x0 x1 x2 x3 hw ?_
      intro t' tl' hk' r53
      rw [bad66] at r53
      have k1 : nth t' 1 = .p b 0 := by rw [hk' 1 (by omega)]; simp only [go_sem, ↓reduceIte, t1]
      have k3 : nth t' 3 = .i .i64 (i : Int) := by rw [hk' 3 (by omega)]; simp only [go_sem, ↓reduceIte, tl]
      have k4 : nth t' 4 = .p h'.next 0 := by rw [hk' 4 (by omega)]; simp only [go_sem, ↓reduceIte, tl]
      have k12 : nth t' 12 = v := by rw [hk' 12 (by omega)]; simp only [go_sem, ↓reduceIte, t12]
      have k13 : nth t' 13 = .i .i64 (rs.length : Int) := by rw [hk' 13 (by omega)]; simp only [go_sem, ↓reduceIte, t13]
      have k14 : nth t' 14 = .i .i64 (i : Int) := by rw [hk' 14 (by omega)]; simp only [go_sem, ↓reduceIte, t14]
      by_cases ho : OkA N a
      · cases i with
        | zero =>
          have z : ¬ (0 : Int) < ((0 : Nat) : Int) := by omega
          simp only [go_sem, ↓reduceIte, r66_10, r66_12, tl', k1, k3, k4, k12, k13, k14, r53, ho, z]
          refine ⟨rs.length - 1, by omega, 1, rfl, by omega, ?_, good_step (i := 0) (by simpa using hg) hx ho (fun j b hj => by omega), e1.trans e2⟩
          rw [wrap_in (by omega) (by omega)]; rfl
        | succ j =>
          have z : (0 : Int) < ((j + 1 : Nat) : Int) := by omega
          have hj : j < rs.length := by omega
          obtain ⟨b', hbx⟩ : ∃ a, rs[j]? = some a := ⟨_, List.getElem?_eq_getElem hj⟩
          have hw2 : IntKind.i64.wrap (((j + 1 : Nat) : Int) - 1) = (j : Int) := by
            rw [wrap_in (by omega) (by omega)]; omega
          have s2 := s1.ext e2
          simp only [go_sem, ↓reduceIte, r66_10, tl', k1, k3, k4, k12, k13, k14, r53, ho, z, blk_ld (i := 1) gb rfl, hw2, s2.ix hj, s2.ldn hbx, x4]
          refine fn_compare.mono ?_
          rintro _ h3 ⟨e3, r, rfl, hr⟩
          have e3' := e3.back
          by_cases hlt3 : ltA b' a
          · have hr' : ¬ 0 ≤ r := by rw [hr]; simp [hlt3]
            simp only [go_sem, ↓reduceIte, r66_12, tl', k1, k12, k13, k14, hr', wrap_succ (show j + 1 < 1000000000 by omega)]
            refine ⟨rs.length - (j + 1 + 1), by omega, j + 1 + 1, rfl, by omega, rfl, good_step hg hx ho (fun j' b'' hj' hbb => ?_), e1.trans (e2.trans e3')⟩
            obtain rfl : j' = j := by omega
            rw [hbx] at hbb; cases hbb; exact hlt3
          · have hr' : 0 ≤ r := hr.2 hlt3
            simp only [go_sem, ↓reduceIte, r66_11, tl', hr']
            refine ⟨e0.trans (e1.trans (e2.trans e3')), ?_⟩
            rw [hck, if_neg (good_not_lt hbx hx hlt3)]
      · simp only [go_sem, ↓reduceIte, r66_9, tl', r53, ho]
        refine ⟨e0.trans (e1.trans e2), ?_⟩
        rw [hck, if_neg (good_not_ok hx ho)]
    · have hlt' : ¬ (i : Int) < (rs.length : Int) := by omega
      simp only [go_sem, ↓reduceIte, r66_6, r66_13, tl, t12, t13, t14, hlt']
      rw [List.take_of_length_le (by omega)] at hg
      exact ⟨e0.trans e1, by rw [hck, if_pos hg]⟩
  · refine ⟨0, by omega, by omega, ?_⟩
    simp only [go_sem, ↓reduceIte]
    exact ⟨good_nil N, .refl h0⟩
end Go.Air
set_option maxRecDepth 100000
namespace Go.Air
open Go.Air.Try
def cells24 (s : Nat → Bool) : List V := (List.range 24).map fun c => .b (s c)
def cells576 (m : Nat → Nat → Bool) : List V := (List.range 576).map fun c => .b (m (c / 24) (c % 24))
def webC (n : Int) (e r : Nat → Nat → Bool) : List V := .i .i64 n :: (cells576 e ++ cells576 r)
theorem cells24_len (s : Nat → Bool) : (cells24 s).length = 24 := by simp [cells24]
theorem cells576_len (m : Nat → Nat → Bool) : (cells576 m).length = 576 := by simp [cells576]
theorem webC_len (n : Int) (e r : Nat → Nat → Bool) : (webC n e r).length = 1153 := by simp [webC, cells576_len]
theorem cells24_get {s : Nat → Bool} {i : Nat} (hi : i < 24) : (cells24 s)[i]? = some (.b (s i)) := by simp [cells24, hi]
theorem cells576_get {m : Nat → Nat → Bool} {c : Nat} (hc : c < 576) : (cells576 m)[c]? = some (.b (m (c / 24) (c % 24))) := by simp [cells576, hc]
theorem cells24_one (s : Nat → Bool) : ∀ u ∈ cells24 s, u.oneCell = true := by
  intro u hu; simp [cells24] at hu; obtain ⟨c, _, rfl⟩ := hu; rfl
theorem webC_e {n : Int} {e r : Nat → Nat → Bool} {c : Nat} (hc : c < 576) : (webC n e r)[1 + c]? = some (.b (e (c / 24) (c % 24))) := by
  rw [webC, Nat.add_comm, List.getElem?_cons_succ, List.getElem?_append_left (by rw [cells576_len]; exact hc), cells576_get hc]
theorem webC_r {n : Int} {e r : Nat → Nat → Bool} {c : Nat} (hc : c < 576) : (webC n e r)[577 + c]? = some (.b (r (c / 24) (c % 24))) := by
  rw [webC, show 577 + c = (576 + c) + 1 by omega, List.getElem?_cons_succ, List.getElem?_append_right (by rw [cells576_len]; omega), cells576_len, Nat.add_sub_cancel_left, cells576_get hc]
theorem divmod24 {a b : Nat} (hb : b < 24) : (a * 24 + b) / 24 = a ∧ (a * 24 + b) % 24 = b := by omega
theorem webC_eg {n : Int} {e r : Nat → Nat → Bool} {a b : Nat} (ha : a < 24) (hb : b < 24) : (webC n e r)[0 + 1 + a * 24 + b * 1]? = some (.b (e a b)) := by
  obtain ⟨h1, h2⟩ := divmod24 (a := a) hb
  rw [show 0 + 1 + a * 24 + b * 1 = 1 + (a * 24 + b) by omega, webC_e (by omega), h1, h2]
theorem webC_rg {n : Int} {e r : Nat → Nat → Bool} {a b : Nat} (ha : a < 24) (hb : b < 24) : (webC n e r)[0 + 577 + a * 24 + b * 1]? = some (.b (r a b)) := by
  obtain ⟨h1, h2⟩ := divmod24 (a := a) hb
  rw [show 0 + 577 + a * 24 + b * 1 = 577 + (a * 24 + b) by omega, webC_r (by omega), h1, h2]
theorem cut_of {l r : List V} {o n : Nat} (hr : r.length = n) (h : ∀ i, i < n → l[o + i]? = r[i]?) (hl : o + n ≤ l.length) : cut l o n = some r := by
  refine cut_eq.2 ⟨hl, ?_⟩
  apply List.ext_getElem?
  intro i
  by_cases hi : i < n
  · rw [List.getElem?_take_of_lt hi, List.getElem?_drop, h i hi]
  · rw [List.getElem?_eq_none (by omega), List.getElem?_eq_none (by simp; omega)]
theorem lay_of : ∀ {cs ds vs : List V} {o : Nat}, ds.length = cs.length → o + vs.length ≤ cs.length → (∀ i, i < cs.length → ds[i]? = if o ≤ i ∧ i < o + vs.length then vs[i - o]? else cs[i]?) → lay cs o vs = some ds
  | cs, ds, [], 0, hl, hb, h => by
    have : ds = cs := by
      apply List.ext_getElem?
      intro i
      by_cases hi : i < cs.length
      · rw [h i hi]; simp
      · rw [List.getElem?_eq_none (by omega), List.getElem?_eq_none (by omega)]
    subst this
    cases ds <;> rfl
  | [], ds, v :: vs, 0, hl, hb, h => by simp at hb
  | [], ds, vs, o + 1, hl, hb, h => by simp at hb
  | x :: cs, [], vs, o, hl, hb, h => by simp at hl
  | x :: cs, y :: ds, v :: vs, 0, hl, hb, h => by
    have h0 := h 0 (by simp)
    simp at h0
    subst h0
    have ih := lay_of (cs := cs) (ds := ds) (vs := vs) (o := 0) (by simpa using hl) (by simp at hb ⊢; omega) (fun i hi => by
      have := h (i + 1) (by simpa using hi)
      simp at this ⊢
      exact this)
    simp only [lay, ih, Option.map_some]
  | x :: cs, y :: ds, vs, o + 1, hl, hb, h => by
    have h0 := h 0 (by simp)
    simp at h0
    subst h0
    have ih := lay_of (cs := cs) (ds := ds) (vs := vs) (o := o) (by simpa using hl) (by simp at hb; omega) (fun i hi => by
      have := h (i + 1) (by simpa using hi)
      rw [List.getElem?_cons_succ, List.getElem?_cons_succ, show i + 1 - (o + 1) = i - o by omega] at this
      rw [this]
      by_cases hc : o ≤ i ∧ i < o + vs.length
      · rw [if_pos hc, if_pos (by omega)]
      · rw [if_neg hc, if_neg (by omega)])
    cases vs with
    | nil => simp only [lay, ih, Option.map_some]
    | cons v vs => simp only [lay, ih, Option.map_some]
theorem st_lay {h : H} {b o k : Nat} {cs ds vs : List V} (hg : h.get b = some (.cells cs)) (hv : vs.length = k) (hone : ∀ u ∈ vs, u.oneCell = true) (hl : lay cs o vs = some ds) : stV h k (.p b o) (.agg vs) = some (h.put b (.cells ds)) := by
  subst hv
  simp [stV, V.cells, storeAt, hg, hl]
  exact fun u hu => hone u hu
theorem ldn_cut {h : H} {b o k : Nat} {cs r : List V} (hg : h.get b = some (.cells cs)) (hc : cut cs o k = some r) : ldnV h k (.p b o) = some (.agg r) := by
  simp [ldnV, hg, Blk.rd, hc]
theorem webC_row {n : Int} {e r : Nat → Nat → Bool} {a : Nat} (ha : a < 24) : cut (webC n e r) (0 + 1 + a * 24) 24 = some (cells24 (e a)) := by
  refine cut_of (cells24_len _) (fun i hi => ?_) (by rw [webC_len]; omega)
  rw [cells24_get hi, show 0 + 1 + a * 24 + i = 0 + 1 + a * 24 + i * 1 by omega, webC_eg ha hi]
def rowset (r : Nat → Nat → Bool) (a : Nat) (s : Nat → Bool) (x y : Nat) : Bool := if x = a then s y else r x y
theorem webC_setrow {n : Int} {e r : Nat → Nat → Bool} {a : Nat} {s : Nat → Bool} (ha : a < 24) : lay (webC n e r) (0 + 577 + a * 24) (cells24 s) = some (webC n e (rowset r a s)) := by
  refine lay_of (by rw [webC_len, webC_len]) (by rw [webC_len, cells24_len]; omega) (fun i hi => ?_)
  rw [webC_len] at hi
  rw [cells24_len]
  by_cases h0 : i = 0
  · subst h0
    rw [if_neg (by omega)]; rfl
  · by_cases h1 : i < 577
    · rw [if_neg (by omega), show i = 1 + (i - 1) by omega, webC_e (by omega), webC_e (by omega)]
    · have hi' : i = 577 + (i - 577) := by omega
      generalize hc : i - 577 = c at hi'
      have hc5 : c < 576 := by omega
      subst hi'
      rw [webC_r hc5, webC_r hc5]
      by_cases h2 : c / 24 = a
      · rw [if_pos (by omega), cells24_get (by omega)]
        simp only [rowset, if_pos h2]
        congr 3
        omega
      · rw [if_neg (by omega)]
        simp only [rowset, if_neg h2]
def eset (e : Nat → Nat → Bool) (a b : Nat) (x y : Nat) : Bool := if x = a ∧ y = b then true else e x y
theorem webC_sete {n : Int} {e r : Nat → Nat → Bool} {a b : Nat} (ha : a < 24) (hb : b < 24) : (webC n e r).set (0 + 1 + a * 24 + b * 1) (.b true) = webC n (eset e a b) r := by
  apply List.ext_getElem?
  intro i
  rw [List.getElem?_set]
  by_cases hi : i < 1153
  · by_cases h0 : i = 0
    · subst h0
      rw [if_neg (by omega)]; rfl
    · by_cases h1 : i < 577
      · have hi' : i = 1 + (i - 1) := by omega
        generalize hc : i - 1 = c at hi'
        subst hi'
        rw [webC_e (by omega), webC_e (by omega)]
        by_cases h2 : a * 24 + b = c
        · subst h2
          obtain ⟨d1, d2⟩ := divmod24 (a := a) hb
          rw [if_pos (by omega), if_pos (by rw [webC_len]; omega), d1, d2]
          simp [eset]
        · rw [if_neg (by omega)]
          have : ¬ (c / 24 = a ∧ c % 24 = b) := by omega
          simp only [eset, if_neg this]
      · have hi' : i = 577 + (i - 577) := by omega
        generalize hc : i - 577 = c at hi'
        subst hi'
        rw [if_neg (by omega), webC_r (by omega), webC_r (by omega)]
  · rw [List.getElem?_eq_none (l := webC n (eset e a b) r) (by rw [webC_len]; omega), List.getElem?_eq_none (l := webC n e r) (by rw [webC_len]; omega), if_neg (by omega)]
def sset (s : Nat → Bool) (a : Nat) (x : Nat) : Bool := if x = a then true else s x
theorem cells24_set {s : Nat → Bool} {a : Nat} (ha : a < 24) : (cells24 s).set (0 + a * 1) (.b true) = cells24 (sset s a) := by
  apply List.ext_getElem?
  intro i
  rw [List.getElem?_set]
  by_cases hi : i < 24
  · rw [cells24_get hi, cells24_get hi]
    by_cases h : a = i
    · subst h
      rw [if_pos (by omega), if_pos (by rw [cells24_len]; omega)]
      simp [sset]
    · rw [if_neg (by omega)]
      simp [sset, Ne.symm h]
  · rw [List.getElem?_eq_none (l := cells24 (sset s a)) (by rw [cells24_len]; omega), List.getElem?_eq_none (l := cells24 s) (by rw [cells24_len]; omega), if_neg (by omega)]
theorem webC_zero (n : Int) : V.i .i64 n :: List.replicate 1152 (.b false) = webC n (fun _ _ => false) (fun _ _ => false) := by
  apply List.ext_getElem?
  intro i
  by_cases hi : i < 1153
  · by_cases h0 : i = 0
    · subst h0; rfl
    · by_cases h1 : i < 577
      · have hi' : i = 1 + (i - 1) := by omega
        generalize hc : i - 1 = c at hi'
        subst hi'
        rw [webC_e (by omega), Nat.add_comm, List.getElem?_cons_succ, List.getElem?_replicate, if_pos (by omega)]
      · have hi' : i = 577 + (i - 577) := by omega
        generalize hc : i - 577 = c at hi'
        subst hi'
        rw [webC_r (by omega), show 577 + c = (576 + c) + 1 by omega, List.getElem?_cons_succ, List.getElem?_replicate, if_pos (by omega)]
  · rw [List.getElem?_eq_none (l := webC n (fun _ _ => false) (fun _ _ => false)) (by rw [webC_len]; omega), List.getElem?_eq_none (by rw [List.length_cons, List.length_replicate]; omega)]
theorem cells24_zero : List.replicate 24 (V.b false) = cells24 noneD := by
  apply List.ext_getElem?
  intro i
  by_cases hi : i < 24
  · rw [cells24_get hi, List.getElem?_replicate, if_pos hi]; rfl
  · rw [List.getElem?_eq_none (by rw [List.length_replicate]; omega), List.getElem?_eq_none (by rw [cells24_len]; omega)]
theorem st_b {h : H} {b k : Nat} {cs : List V} {x : Bool} (hg : h.get b = some (.cells cs)) (hk : k < cs.length) : stV h 1 (.p b k) (.b x) = some (h.put b (.cells (cs.set k (.b x)))) := by
  have hl := lay_one cs k (.b x) hk
  simp [stV, V.cells, storeAt, hg, hl, V.oneCell]
def nilckV : V → Option V
  | .p b o => some (.p b o)
  | .fn f a c => some (.fn f a c)
  | .yld l => some (.yld l)
  | _ => none
@[go_sem ↓] theorem wa_nilck {tbl : Nat → Option FI} {x : X} {t : List V} {h : H} {S : V → H → Prop} : WA tbl (.nilck x) t h S ↔ ROk (RO.ofV h (nilckV (x.ev t))) S := by
  refine WA_of rfl ?_
  show (match x.ev t with | .p b o => RO.ok (.p b o) h | .fn f a c => .ok (.fn f a c) h | .yld l => .ok (.yld l) h | _ => .fail) = _
  cases x.ev t <;> rfl
@[go_sem] theorem nilckV_p {b o : Nat} : nilckV (.p b o) = some (.p b o) := rfl
def ixVV (len : Nat) (v i : V) : Option V := match v, natOf i with
  | .agg c, some n => if Nat.blt n len then nth? c (n * 1) else none
  | _, _ => none
@[go_sem ↓] theorem wa_ixV {tbl : Nat → Option FI} {len : Nat} {x y : X} {t : List V} {h : H} {S : V → H → Prop} : WA tbl (.ixV len 1 false x y) t h S ↔ ROk (RO.ofV h (ixVV len (x.ev t) (y.ev t))) S := by
  refine WA_of rfl ?_
  show (match x.ev t, natOf (y.ev t) with
    | .agg c, some n => if Nat.blt n len then (if false then match cut c (n * 1) 1 with | some l => RO.ok (.agg l) h | none => .fail else RO.ofV h (nth? c (n * 1))) else .fail
    | _, _ => .fail) = _
  unfold ixVV
  cases x.ev t <;> first | (cases natOf (y.ev t) <;> rfl) | skip
  cases natOf (y.ev t) with
  | none => rfl
  | some n =>
    simp only [Bool.false_eq_true, if_false]
    split <;> rfl
theorem ixVV_24 {s : Nat → Bool} {i : Nat} (hi : i < 24) : ixVV 24 (.agg (cells24 s)) (.i .i64 (i : Int)) = some (.b (s i)) := by
  have h1 : Nat.blt i 24 = true := by rw [Nat.blt_eq]; exact hi
  simp only [ixVV, show natOf (.i .i64 (i : Int)) = some i from rfl, h1, if_true, nth?_eq, Nat.mul_one, cells24_get hi]
def fillH (L : List V) (v : V) : Option (List V) := if Nat.beq v.cells.length 1 then some (v.cells ++ L) else none
@[go_sem] theorem fill_head {t L : List V} {z : V} {x : X} : fill t ([z] ++ L) [(0, 1, x)] = fillH L (x.ev t) := by
  simp only [fill, fillH]
  by_cases hl : Nat.beq (x.ev t).cells.length 1 = true
  · rw [if_pos hl, if_pos hl]
    obtain ⟨u, hc⟩ : ∃ u, (x.ev t).cells = [u] := by
      rw [Nat.beq_eq] at hl
      exact List.length_eq_one_iff.1 hl
    rw [hc]
    cases L <;> rfl
  · rw [if_neg hl, if_neg hl]
@[go_sem] theorem fillH_i {L : List V} {kd : IntKind} {n : Int} : fillH L (.i kd n) = some (.i kd n :: L) := rfl
@[go_sem] theorem p_cells {b o : Nat} : (V.p b o).cells = [.p b o] := rfl
theorem setL_succ (s : Nat → Bool) (i : Nat) : setL (i + 1) s = setL i s ++ if s i = true then [(i : Int)] else [] := by
  simp only [setL, List.range_succ, List.filter_append, List.map_append]
  congr 1
  by_cases h : s i = true
  · simp [h]
  · simp [h]
theorem setL_len (n : Nat) (s : Nat → Bool) : (setL n s).length ≤ n := by
  have := List.length_filter_le s (List.range n)
  simpa [setL] using this
theorem setL_mem {n : Nat} {s : Nat → Bool} {x : Int} : x ∈ setL n s ↔ ∃ j : Nat, x = (j : Int) ∧ j < n ∧ s j = true := by
  simp only [setL, List.mem_map, List.mem_filter, List.mem_range]
  constructor
  · rintro ⟨j, ⟨h1, h2⟩, rfl⟩; exact ⟨j, rfl, h1, h2⟩
  · rintro ⟨j, rfl, h1, h2⟩; exact ⟨j, ⟨h1, h2⟩, rfl⟩
theorem t132 : tblA 132 = some a132 := by kernel_rfl
theorem fn_setL {h : H} {s : Nat → Bool} : WC tblA (.fn 132 [] []) [.agg (cells24 s)] h fun u h' => Ext h h' ∧ Own h 1 h' u (setL 24 s).length (ints (setL 24 s)) := by
  refine (WC_in t132).2 ?_
  have e0 : Ext h (h.new (.cells (cells24 s))) := (Ext.refl h).new _
  have g0 : (h.new (.cells (cells24 s))).get h.next = some (.cells (cells24 s)) := by rw [H.get_new, if_pos rfl]
  simp only [go_sem, ↓reduceIte, r132_0]
  generalize hh : h.new (.cells (cells24 s)) = h0 at *
  have l0 := blk_ldn g0 (cells24_len s)
  simp only [go_sem, ↓reduceIte, r132_1, r132_2, l0]
  refine W_while (fun k t h' => ∃ (i : Nat) (w : V), k = 24 - i ∧ i ≤ 24 ∧ t.length = 18 ∧ nth t 3 = w ∧ nth t 6 = .agg (cells24 s) ∧ nth t 7 = .i .i64 (i : Int) ∧ Ext h h' ∧ Own h 1 h' w (setL i s).length (ints (setL i s))) ?_ 24 ?_
  · rintro k t h' ⟨i, w, rfl, hi, tl, t3, t6, t7, e1, o1⟩
    unfold b132_0
    have hle := setL_len i s
    by_cases hlt : i < 24
    · have hlt' : (i : Int) < 24 := by omega
      have hs := setL_succ s i
      by_cases hb : s i = true
      · rw [if_pos hb] at hs
        obtain ⟨w', h5, r1, r2, r3⟩ := app_int (i : Int) o1 e1 (by omega)
        simp only [go_sem, ↓reduceIte, r132_3, r132_4, r132_5, r132_6, r132_7, tl, t3, t6, t7, hlt', ixVV_24 hlt, hb, r1, wrap_succ (show i < 1000000000 by omega)]
        refine ⟨24 - (i + 1), by omega, i + 1, w', rfl, hlt, rfl, rfl, r2, ?_⟩
        rw [hs, List.length_append]
        exact r3
      · rw [if_neg hb, List.append_nil] at hs
        have hb' : s i = false := by simpa using hb
        simp only [go_sem, ↓reduceIte, r132_3, r132_4, r132_5, r132_7, tl, t3, t6, t7, hlt', ixVV_24 hlt, hb', wrap_succ (show i < 1000000000 by omega)]
        refine ⟨24 - (i + 1), by omega, i + 1, w, rfl, hlt, rfl, rfl, e1, ?_⟩
        rw [hs]
        exact o1
    · have hlt' : ¬ (i : Int) < 24 := by omega
      obtain rfl : i = 24 := by omega
      simp only [go_sem, ↓reduceIte, r132_3, r132_8, tl, t3, t6, t7, hlt']
      exact ⟨e1, o1⟩
  · refine ⟨0, .sn, by omega, by omega, ?_⟩
    simp only [go_sem, ↓reduceIte]
    exact ⟨e0, .nil⟩
end Go.Air
set_option maxRecDepth 100000
namespace Go.Air
open Go.Air.Try
structure ExtX (X : Nat → Prop) (h h' : H) : Prop where
  nx : h.next ≤ h'.next
  same : ∀ b, b < h.next → ¬ X b → h'.get b = h.get b
  log : ∃ l, h'.log = l ++ h.log ∧ ∀ b ∈ l, h.next ≤ b ∨ X b
theorem ExtX.refl (X : Nat → Prop) (h : H) : ExtX X h h := ⟨Nat.le_refl _, fun _ _ _ => rfl, [], rfl, fun _ hb => by simp at hb⟩
theorem ExtX.of {X : Nat → Prop} {h h' : H} (e : Ext h h') : ExtX X h h' := ⟨e.nx, fun b hb _ => e.same b hb, let ⟨l, q, hl⟩ := e.log; ⟨l, q, fun b hb => .inl (hl b hb)⟩⟩
theorem ExtX.trans {X : Nat → Prop} {h h1 h2 : H} (a : ExtX X h h1) (b : ExtX X h1 h2) : ExtX X h h2 := by
  refine ⟨Nat.le_trans a.nx b.nx, fun x hx hX => (b.same x (Nat.lt_of_lt_of_le hx a.nx) hX).trans (a.same x hx hX), ?_⟩
  obtain ⟨l, e, hl⟩ := a.log
  obtain ⟨m, e', hm⟩ := b.log
  refine ⟨m ++ l, by rw [e', e, List.append_assoc], fun x hx => ?_⟩
  rcases List.mem_append.1 hx with hx | hx
  · rcases hm x hx with q | q
    · exact .inl (Nat.le_trans a.nx q)
    · exact .inr q
  · exact hl x hx
theorem ExtX.put {X : Nat → Prop} {h h1 : H} (a : ExtX X h h1) {b : Nat} (hb : h.next ≤ b ∨ X b) (x : Blk) : ExtX X h (h1.put b x) := by
  refine ⟨a.nx, fun c hc hX => ?_, ?_⟩
  · rw [H.get_put, if_neg (by rintro rfl; rcases hb with hb | hb; omega; exact hX hb)]; exact a.same c hc hX
  obtain ⟨l, e, hl⟩ := a.log
  exact ⟨b :: l, by simp [e], fun c hc => by rcases List.mem_cons.1 hc with rfl | hc; exact hb; exact hl c hc⟩
theorem ExtX.new {X : Nat → Prop} {h h1 : H} (a : ExtX X h h1) (x : Blk) : ExtX X h (h1.new x) := a.trans (.of ((Ext.refl h1).new x))
theorem ExtX.ext {X : Nat → Prop} {h0 h h' : H} (e : Ext h0 h) (a : ExtX X h h') (hX : ∀ b, X b → h0.next ≤ b) : Ext h0 h' := by
  refine ⟨Nat.le_trans e.nx a.nx, fun b hb => (a.same b (Nat.lt_of_lt_of_le hb e.nx) fun q => ?_).trans (e.same b hb), ?_⟩
  · have := hX b q; omega
  obtain ⟨l, q, hl⟩ := e.log
  obtain ⟨m, q', hm⟩ := a.log
  refine ⟨m ++ l, by rw [q', q, List.append_assoc], fun x hx => ?_⟩
  rcases List.mem_append.1 hx with hx | hx
  · rcases hm x hx with q | q
    · exact Nat.le_trans e.nx q
    · exact hX x q
  · exact hl x hx
theorem ExtX.get {X : Nat → Prop} {h h' : H} (e : ExtX X h h') {b : Nat} {x : Blk} (hb : b < h.next) (hX : ¬ X b) (g : h.get b = some x) : h'.get b = some x := (e.same b hb hX).trans g
theorem ExtX.mono {X Y : Nat → Prop} {h h' : H} (e : ExtX X h h') (hXY : ∀ b, X b → Y b) : ExtX Y h h' :=
  ⟨e.nx, fun b hb hY => e.same b hb fun q => hY (hXY b q), let ⟨l, q, hl⟩ := e.log; ⟨l, q, fun b hb => (hl b hb).elim .inl fun q => .inr (hXY b q)⟩⟩
theorem Sl.keepX {X : Nat → Prop} {esz n : Nat} {h h' : H} {v : V} {cs : List V} (s : Sl esz h v n cs) (e : ExtX X h h') (hX : v = .sn ∨ (∃ a, v = .se a) ∨ ¬ X (blkV v)) : Sl esz h' v n cs := by
  rcases s with s | ⟨b, off, cap, g, bl, rfl, hb, hg, hr⟩
  · exact .inl s
  · have hb' : ¬ X b := by
      rcases hX with q | ⟨_, q⟩ | q
      · cases q
      · cases q
      · exact q
    exact .inr ⟨b, off, cap, g, bl, rfl, Nat.lt_of_lt_of_le hb e.nx, (e.same b hb hb').trans hg, hr⟩
theorem Own.keepX {X : Nat → Prop} {esz n : Nat} {h0 h h' : H} {v : V} {cs : List V} (o : Own h0 esz h v n cs) (e : ExtX X h h') (hX : ∀ b, X b → b < h0.next) : Own h0 esz h' v n cs := by
  obtain ⟨hl, o | ⟨b, g, rfl, hv, h1, h2, hg⟩⟩ := o
  · exact ⟨hl, .inl o⟩
  · exact ⟨hl, .inr ⟨b, g, rfl, hv, h1, Nat.lt_of_lt_of_le h2 e.nx, (e.same b h2 fun q => by have := hX b q; omega).trans hg⟩⟩
theorem Own.ints {h0 h : H} {v : V} {xs : List Int} (o : Own h0 1 h v xs.length (ints xs)) : Ints h v xs := (Ints.of o.sl).1
theorem WC_cl {tbl : Nat → Option FI} {g : Nat} {args caps : List V} {m : Nat} {res : List ResV} {body : C} {h : H} {S : V → H → Prop} (ht : tbl g = some ⟨m, res, body⟩) : WC tbl (.fn g [] caps) args h S ↔ W tbl body (pad (args ++ caps) m) h (Kfn res S) := by
  rw [WC_fn' ht]; simp
structure Vis (e : Nat → Nat → Bool) (x : Nat) (S S' : Nat → Bool) : Prop where
  sub : ∀ y, S y = true → S' y = true
  suc : ∀ y, e x y = true → S' y = true
  cls : ∀ y z, S' y = true → S y = false → e y z = true → S' z = true
  tc : ∀ y, S' y = true → S y = true ∨ TC e x y
theorem undone_mono {n : Nat} {d d' : Nat → Bool} (h : ∀ y, d y = true → d' y = true) : undone n d' ≤ undone n d := by
  unfold undone
  generalize List.range n = l
  induction l with
  | nil => simp
  | cons a l ih =>
    cases h1 : d a
    · cases h2 : d' a
      · simp [h1, h2, ih]
      · simp [h1, h2]; omega
    · simp [h1, h a h1, ih]
theorem undone_sset {n : Nat} {d : Nat → Bool} {a : Nat} (ha : a < n) (hd : d a = false) : undone n (sset d a) < undone n d := by
  refine filter_lt (a := a) ?_ (List.mem_range.2 ha) ?_ ?_
  · intro x hx
    simp only [sset, Bool.not_eq_true'] at hx ⊢
    split at hx
    · cases hx
    · exact hx
  · simp [sset]
  · simp [hd]
theorem sset_self (s : Nat → Bool) (a : Nat) : sset s a a = true := by simp [sset]
theorem sset_sub {s : Nat → Bool} {a y : Nat} (h : s y = true) : sset s a y = true := by
  unfold sset; split
  · rfl
  · exact h
theorem sset_or {s : Nat → Bool} {a y : Nat} (h : sset s a y = true) : y = a ∨ s y = true := by
  unfold sset at h; split at h
  · exact .inl (by assumption)
  · exact .inr h
structure VPre (h : H) (wc sb fb wb n : Nat) (e r : Nat → Nat → Bool) : Prop where
  lwc : wc < h.next
  lsb : sb < h.next
  lfb : fb < h.next
  lwb : wb < h.next
  n1 : wc ≠ sb
  n2 : fb ≠ sb
  n3 : wb ≠ sb
  gwc : h.get wc = some (.cells [.p wb 0])
  gfb : h.get fb = some (.cells [.fn 136 [] [.p wc 0, .p sb 0, .p fb 0]])
  gwb : h.get wb = some (.cells (webC (n : Int) e r))
theorem VPre.ext {h h' : H} {wc sb fb wb n : Nat} {e r : Nat → Nat → Bool} (p : VPre h wc sb fb wb n e r) (x : ExtX (· = sb) h h') : VPre h' wc sb fb wb n e r :=
  ⟨Nat.lt_of_lt_of_le p.lwc x.nx, Nat.lt_of_lt_of_le p.lsb x.nx, Nat.lt_of_lt_of_le p.lfb x.nx, Nat.lt_of_lt_of_le p.lwb x.nx, p.n1, p.n2, p.n3, x.get p.lwc p.n1 p.gwc, x.get p.lfb p.n2 p.gfb, x.get p.lwb p.n3 p.gwb⟩
theorem ix24 {b o i : Nat} (hi : i < 24) : ixAV 24 1 (.p b o) (.i .i64 (i : Int)) = some (.p b (o + i * 1)) := ixA_ok hi
theorem ix24r {b o i : Nat} (hi : i < 24) : ixAV 24 24 (.p b o) (.i .i64 (i : Int)) = some (.p b (o + i * 24)) := ixA_ok hi
theorem ld24 {h : H} {b i : Nat} {s : Nat → Bool} (g : h.get b = some (.cells (cells24 s))) (hi : i < 24) : ldV h (.p b (0 + i * 1)) = some (.b (s i)) := blk_ld g (by simpa using cells24_get hi)
theorem st24 {h : H} {b i : Nat} {s : Nat → Bool} (g : h.get b = some (.cells (cells24 s))) (hi : i < 24) : stV h 1 (.p b (0 + i * 1)) (.b true) = some (h.put b (.cells (cells24 (sset s i)))) := by
  rw [st_b (k := 0 + i * 1) g (by rw [cells24_len]; omega), cells24_set hi]
theorem wb_row {h : H} {wb a : Nat} {n : Int} {e r : Nat → Nat → Bool} (g : h.get wb = some (.cells (webC n e r))) (ha : a < 24) : ldnV h 24 (.p wb (1 + a * 24)) = some (.agg (cells24 (e a))) := by
  have := ldn_cut g (webC_row ha)
  rwa [show 0 + 1 + a * 24 = 1 + a * 24 by omega] at this
theorem wb_n {h : H} {wb : Nat} {n : Int} {e r : Nat → Nat → Bool} (g : h.get wb = some (.cells (webC n e r))) : ldV h (.p wb 0) = some (.i .i64 n) := blk_ld g rfl
theorem wb_lr {h : H} {wb a b : Nat} {n : Int} {e r : Nat → Nat → Bool} (g : h.get wb = some (.cells (webC n e r))) (ha : a < 24) (hb : b < 24) : ldV h (.p wb (577 + a * 24 + b * 1)) = some (.b (r a b)) := by
  refine blk_ld g ?_
  have := webC_rg (n := n) (e := e) (r := r) ha hb
  rwa [show 0 + 577 + a * 24 + b * 1 = 577 + a * 24 + b * 1 by omega] at this
theorem wb_ste {h : H} {wb a b : Nat} {n : Int} {e r : Nat → Nat → Bool} (g : h.get wb = some (.cells (webC n e r))) (ha : a < 24) (hb : b < 24) : stV h 1 (.p wb (1 + a * 24 + b * 1)) (.b true) = some (h.put wb (.cells (webC n (eset e a b) r))) := by
  rw [st_b (k := 1 + a * 24 + b * 1) g (by rw [webC_len]; omega)]
  have := webC_sete (n := n) (e := e) (r := r) ha hb
  rw [show 0 + 1 + a * 24 + b * 1 = 1 + a * 24 + b * 1 by omega] at this
  rw [this]
theorem wb_str {h : H} {wb a : Nat} {n : Int} {e r : Nat → Nat → Bool} {s : Nat → Bool} (g : h.get wb = some (.cells (webC n e r))) (ha : a < 24) : stV h 24 (.p wb (577 + a * 24)) (.agg (cells24 s)) = some (h.put wb (.cells (webC n e (rowset r a s)))) := by
  refine st_lay g (cells24_len _) (cells24_one _) ?_
  have := webC_setrow (n := n) (e := e) (r := r) (s := s) ha
  rwa [show 0 + 577 + a * 24 = 577 + a * 24 by omega] at this
theorem t136 : tblA 136 = some a136 := by kernel_rfl
theorem fn_visit {n wc sb fb wb : Nat} {e r : Nat → Nat → Bool} (hn : n ≤ 24) (hb : Bnd n e) : ∀ (k : Nat) (h : H) (x : Nat) (S : Nat → Bool), undone 24 S ≤ k → x < 24 → VPre h wc sb fb wb n e r → h.get sb = some (.cells (cells24 S)) →
    WC tblA (.fn 136 [] [.p wc 0, .p sb 0, .p fb 0]) [.i .i64 (x : Int)] h fun u h' => ExtX (· = sb) h h' ∧ ∃ S', h'.get sb = some (.cells (cells24 S')) ∧ Vis e x S S' := by
  intro k
  induction k using Nat.strongRecOn with
  | ind k ih =>
  intro h x S hk hx p gs
  refine (WC_cl t136).2 ?_
  refine W_gen (fun t => t.length = 29 ∧ nth t 0 = .i .i64 (x : Int) ∧ nth t 1 = .p wc 0 ∧ nth t 2 = .p sb 0 ∧ nth t 3 = .p fb 0) ⟨rfl, rfl, rfl, rfl, rfl⟩ ?_
  rintro t ⟨tl, t0, t1, t2, t3⟩
  have lw : ldV h (.p wc 0) = some (.p wb 0) := blk_ld p.gwc rfl
  have lr : ldnV h 24 (.p wb (1 + x * 24)) = some (.agg (cells24 (e x))) := wb_row p.gwb hx
  simp only [go_sem, ↓reduceIte, r136_0, tl, t0, t1, t2, t3, lw, ix24r hx, lr]
  refine fn_setL.mono ?_
  rintro u h1 ⟨e1, o1⟩
  have hl24 := setL_len 24 (e x)
  have s1 := o1.ints
  generalize hxs : setL 24 (e x) = xs at *
  simp only [go_sem, ↓reduceIte, tl, s1.len]
  refine W_while (fun k' t h' => ∃ (i : Nat) (S' : Nat → Bool), k' = xs.length - i ∧ i ≤ xs.length ∧ t.length = 29 ∧ nth t 2 = .p sb 0 ∧ nth t 3 = .p fb 0 ∧ nth t 13 = u ∧ nth t 14 = .i .i64 (xs.length : Int) ∧ nth t 15 = .i .i64 (i : Int) ∧ ExtX (· = sb) h h' ∧ VPre h' wc sb fb wb n e r ∧ Own h 1 h' u xs.length (ints xs) ∧ h'.get sb = some (.cells (cells24 S')) ∧
    (∀ y, S y = true → S' y = true) ∧ (∀ y : Nat, (y : Int) ∈ xs.take i → S' y = true) ∧ (∀ y z, S' y = true → S y = false → e y z = true → S' z = true) ∧ (∀ y, S' y = true → S y = true ∨ TC e x y)) ?_ xs.length ?_
  · rintro k' t h' ⟨i, S', rfl, hi, tl, t2, t3, t13, t14, t15, x', p', o', g', v1, v2, v3, v4⟩
    unfold b136_0
    have s' := o'.ints
    by_cases hlt : i < xs.length
    · have hlt' : (i : Int) < (xs.length : Int) := by omega
      obtain ⟨y, hy⟩ : ∃ y, xs[i]? = some y := ⟨_, List.getElem?_eq_getElem hlt⟩
      have hym : y ∈ setL 24 (e x) := by rw [hxs]; exact List.mem_of_getElem? hy
      obtain ⟨j, rfl, hj, hej⟩ := setL_mem.1 hym
      have lf : ldV h' (.p fb 0) = some (.fn 136 [] [.p wc 0, .p sb 0, .p fb 0]) := blk_ld p'.gfb rfl
      by_cases hs : S' j = true
      · simp only [go_sem, ↓reduceIte, r136_1, r136_2, r136_3, r136_6, tl, t2, t3, t13, t14, t15, hlt', s'.ix hlt, s'.ld hy, ix24 hj, ld24 g' hj, hs, wrap_succ (show i < 1000000000 by omega)]
        refine ⟨xs.length - (i + 1), by omega, i + 1, S', rfl, hlt, rfl, x', p', o', g', v1, ?_, v3, v4⟩
        rw [take_succ' hy]
        intro z hz
        rcases List.mem_append.1 hz with hz | hz
        · exact v2 z hz
        · simp at hz
          have : z = j := by omega
          subst this; exact hs
      · have hs' : S' j = false := by simpa using hs
        have x2 : ExtX (· = sb) h' (h'.put sb (.cells (cells24 (sset S' j)))) := (ExtX.refl (· = sb) h').put (.inr rfl) _
        have p2 := p'.ext x2
        have lf2 : ldV (h'.put sb (.cells (cells24 (sset S' j)))) (.p fb 0) = some (.fn 136 [] [.p wc 0, .p sb 0, .p fb 0]) := blk_ld p2.gfb rfl
        simp only [go_sem, ↓reduceIte, r136_1, r136_2, r136_3, r136_4, r136_5, tl, t2, t3, t13, t14, t15, hlt', s'.ix hlt, s'.ld hy, ix24 hj, ld24 g' hj, hs', st24 g' hj, lf2]
        have hu := undone_sset hj hs'
        have hu2 : undone 24 S' ≤ undone 24 S := undone_mono v1
        refine (ih (undone 24 (sset S' j)) (by omega) _ j (sset S' j) (Nat.le_refl _) hj p2 (by rw [H.get_put, if_pos rfl])).mono ?_
        rintro u3 h3 ⟨x3, S3, g3, w⟩
        have x4 := x2.trans x3
        simp only [go_sem, ↓reduceIte, r136_6, tl, t2, t3, t13, t14, t15, wrap_succ (show i < 1000000000 by omega)]
        have sub3 : ∀ y, S' y = true → S3 y = true := fun y hy => w.sub y (sset_sub hy)
        refine ⟨xs.length - (i + 1), by omega, i + 1, S3, rfl, hlt, rfl, x'.trans x4, p'.ext x4, o'.keepX x4 (fun b hb => by subst hb; exact p.lsb), g3, fun y hy => sub3 y (v1 y hy), ?_, ?_, ?_⟩
        · rw [take_succ' hy]
          intro z hz
          rcases List.mem_append.1 hz with hz | hz
          · exact sub3 z (v2 z hz)
          · simp at hz
            have : z = j := by omega
            subst this; exact w.sub _ (sset_self _ _)
        · intro y z h3y hSy hyz
          by_cases q : S' y = true
          · exact sub3 z (v3 y z q hSy hyz)
          · by_cases q2 : y = j
            · subst q2; exact w.suc z hyz
            · exact w.cls y z h3y (by unfold sset; rw [if_neg q2]; simpa using q) hyz
        · intro y h3y
          rcases w.tc y h3y with q | q
          · rcases sset_or q with rfl | q
            · exact .inr (.base hej)
            · exact v4 y q
          · exact .inr ((TC.base hej).trans q)
    · have hlt' : ¬ (i : Int) < (xs.length : Int) := by omega
      simp only [go_sem, ↓reduceIte, r136_1, tl, t2, t3, t13, t14, t15, hlt']
      refine ⟨x', S', g', v1, ?_, v3, v4⟩
      intro y hy
      refine v2 y ?_
      rw [List.take_of_length_le (by omega), ← hxs]
      have := (hb x y hy).2
      exact setL_mem.2 ⟨y, rfl, by omega, hy⟩
  · refine ⟨0, S, by omega, by omega, ?_⟩
    simp only [go_sem, ↓reduceIte, tl, t2, t3]
    refine ⟨.of e1, p.ext (.of e1), o1, e1.get p.lsb gs, ?_⟩
    simp only [List.take_zero, List.not_mem_nil, false_implies, implies_true, true_and]
    exact ⟨fun y hy => hy, fun y z h1 h2 _ => (by rw [h1] at h2; cases h2), fun y hy => .inl hy⟩
theorem vis_rch {e : Nat → Nat → Bool} {x : Nat} {S' : Nat → Bool} (w : Vis e x noneD S') : S' = rch e x := by
  funext y
  rw [Bool.eq_iff_iff, rch_iff]
  constructor
  · intro h
    rcases w.tc y h with q | q
    · cases q
    · exact q
  · intro h
    induction h with
    | base h => exact w.suc _ h
    | step _ h ih => exact w.cls _ _ ih rfl h
theorem undone_none (n : Nat) : undone n noneD = n := by
  unfold undone
  rw [List.filter_eq_self.2 (by intro a _; rfl)]; simp
theorem rescell {t : List V} {h : H} {n k b : Nat} {cs r : List V} (hn : nth t n = .p b 0) (g : h.get b = some (.cells cs)) (hc : cut cs 0 k = some r) : resultsOf t h [.cell n (some k)] = some [.agg r] := by
  simp [resultsOf, resultOf, hn, g, hc]
theorem cut_all {l : List V} {k : Nat} (hk : l.length = k) : cut l 0 k = some l := cut_eq.2 ⟨by omega, by subst hk; simp⟩
theorem lay_whole {z c : List V} (hl : z.length = c.length) : lay z 0 c = some c := lay_all z c hl
theorem st_whole {h : H} {b k : Nat} {z c : List V} (hg : h.get b = some (.cells z)) (hk : c.length = k) (hz : z.length = k) (hone : ∀ u ∈ c, u.oneCell = true) : stV h k (.p b 0) (.agg c) = some (h.put b (.cells c)) :=
  st_lay hg hk hone (lay_whole (by omega))
theorem t128 : tblA 128 = some a128 := by kernel_rfl
theorem fn_from {n wb x : Nat} {e r : Nat → Nat → Bool} {h : H} (hn : n ≤ 24) (hb : Bnd n e) (hx : x < 24) (hw : wb < h.next) (gw : h.get wb = some (.cells (webC (n : Int) e r))) :
    WC tblA (.fn 128 [] []) [.p wb 0, .i .i64 (x : Int)] h fun u h' => Ext h h' ∧ u = .agg (cells24 (rch e x)) := by
  refine (WC_in t128).2 ?_
  simp only [go_sem, ↓reduceIte, r128_0, r128_1, r128_2, r128_3, H.next_new]
  have e1 : Ext h ((((h.new (.cells [.p wb 0])).new (.cells (List.replicate 24 (.b false)))).new (.cells (List.replicate 24 (.b false)))).new (.cells [.fnil])) := ((((Ext.refl h).new _).new _).new _).new _
  have g1 : ((((h.new (.cells [.p wb 0])).new (.cells (List.replicate 24 (.b false)))).new (.cells (List.replicate 24 (.b false)))).new (.cells [.fnil])).get h.next = some (.cells [.p wb 0]) := by
    rw [H.get_new, if_neg (by simp <;> omega), H.get_new, if_neg (by simp <;> omega), H.get_new, if_neg (by simp <;> omega), H.get_new, if_pos rfl]
  have g2 : ((((h.new (.cells [.p wb 0])).new (.cells (List.replicate 24 (.b false)))).new (.cells (List.replicate 24 (.b false)))).new (.cells [.fnil])).get (h.next + 1) = some (.cells (cells24 noneD)) := by
    rw [H.get_new, if_neg (by simp <;> omega), H.get_new, if_neg (by simp <;> omega), H.get_new, if_pos (by simp), cells24_zero]
  have g3 : ((((h.new (.cells [.p wb 0])).new (.cells (List.replicate 24 (.b false)))).new (.cells (List.replicate 24 (.b false)))).new (.cells [.fnil])).get (h.next + 1 + 1) = some (.cells (cells24 noneD)) := by
    rw [H.get_new, if_neg (by simp <;> omega), H.get_new, if_pos (by simp), cells24_zero]
  have g4 : ((((h.new (.cells [.p wb 0])).new (.cells (List.replicate 24 (.b false)))).new (.cells (List.replicate 24 (.b false)))).new (.cells [.fnil])).get (h.next + 1 + 1 + 1) = some (.cells [.fnil]) := by
    rw [H.get_new, if_pos (by simp)]
  have nx : ((((h.new (.cells [.p wb 0])).new (.cells (List.replicate 24 (.b false)))).new (.cells (List.replicate 24 (.b false)))).new (.cells [.fnil])).next = h.next + 1 + 1 + 1 + 1 := by simp
  generalize ((((h.new (.cells [.p wb 0])).new (.cells (List.replicate 24 (.b false)))).new (.cells (List.replicate 24 (.b false)))).new (.cells [.fnil])) = h1 at *
  have hst := st_ref (v := .fn 136 [] [.p h.next 0, .p (h.next + 1 + 1) 0, .p (h.next + 1 + 1 + 1) 0]) g4 rfl rfl
  simp only [go_sem, ↓reduceIte, hst]
  have x2 : ExtX (· = h.next + 1 + 1 + 1) h1 (h1.put (h.next + 1 + 1 + 1) (.cells [.fn 136 [] [.p h.next 0, .p (h.next + 1 + 1) 0, .p (h.next + 1 + 1 + 1) 0]])) := (ExtX.refl (· = h.next + 1 + 1 + 1) h1).put (.inr rfl) _
  have e2 : Ext h (h1.put (h.next + 1 + 1 + 1) (.cells [.fn 136 [] [.p h.next 0, .p (h.next + 1 + 1) 0, .p (h.next + 1 + 1 + 1) 0]])) := e1.put (by omega) _
  have g4' : (h1.put (h.next + 1 + 1 + 1) (.cells [.fn 136 [] [.p h.next 0, .p (h.next + 1 + 1) 0, .p (h.next + 1 + 1 + 1) 0]])).get (h.next + 1 + 1 + 1) = some (.cells [.fn 136 [] [.p h.next 0, .p (h.next + 1 + 1) 0, .p (h.next + 1 + 1 + 1) 0]]) := by rw [H.get_put, if_pos rfl]
  have n2 : (h1.put (h.next + 1 + 1 + 1) (.cells [.fn 136 [] [.p h.next 0, .p (h.next + 1 + 1) 0, .p (h.next + 1 + 1 + 1) 0]])).next = h1.next := by simp
  replace g1 := x2.get (by omega) (by omega) g1
  replace g2 := x2.get (by omega) (by omega) g2
  replace g3 := x2.get (by omega) (by omega) g3
  have g5 := e2.get hw gw
  generalize h1.put (h.next + 1 + 1 + 1) (.cells [.fn 136 [] [.p h.next 0, .p (h.next + 1 + 1) 0, .p (h.next + 1 + 1 + 1) 0]]) = h2 at *
  have lf : ldV h2 (.p (h.next + 1 + 1 + 1) 0) = some (.fn 136 [] [.p h.next 0, .p (h.next + 1 + 1) 0, .p (h.next + 1 + 1 + 1) 0]) := blk_ld g4' rfl
  simp only [go_sem, ↓reduceIte, r128_4, lf]
  refine (fn_visit hn hb 24 h2 x noneD (by rw [undone_none]; exact Nat.le_refl _) hx ⟨by omega, by omega, by omega, by omega, by omega, by omega, by omega, g1, g4', g5⟩ g3).mono ?_
  rintro _ h3 ⟨x3, S', g3', w⟩
  have e3 : Ext h h3 := x3.ext e2 (fun b hb => by omega)
  have g2' := x3.get (by omega) (by omega) g2
  rw [vis_rch w] at g3'
  have l3 : ldnV h3 24 (.p (h.next + 1 + 1) 0) = some (.agg (cells24 (rch e x))) := blk_ldn g3' (cells24_len _)
  have s3 := st_whole g2' (cells24_len (rch e x)) (cells24_len _) (cells24_one _)
  simp only [go_sem, ↓reduceIte, r128_5, l3, s3]
  rw [rescell (b := h.next + 1) (cs := cells24 (rch e x)) (by simp only [go_sem, ↓reduceIte]) (by rw [H.get_put, if_pos rfl]) (cut_all (cells24_len _))]
  simp only [go_sem]
  exact e3.put (by omega) _
end Go.Air
set_option maxRecDepth 100000
namespace Go.Air
open Go.Air.Try
def eA (rs : List Arw) (a b : Nat) : Bool := rs.any fun x => decide (x.f = (a : Int) ∧ x.t = (b : Int))
theorem eA_iff {rs : List Arw} {a b : Nat} : eA rs a b = true ↔ ∃ x ∈ rs, x.f = (a : Int) ∧ x.t = (b : Int) := by simp [eA]
theorem eA_nil : eA [] = fun _ _ => false := rfl
theorem eA_step {rs : List Arw} {i a b : Nat} {x : Arw} (hx : rs[i]? = some x) (ef : x.f = (a : Int)) (et : x.t = (b : Int)) : eset (eA (rs.take i)) a b = eA (rs.take (i + 1)) := by
  funext c d
  rw [take_succ' hx]
  simp only [eset, eA, List.any_append, List.any_cons, List.any_nil, Bool.or_false]
  by_cases h : c = a ∧ d = b
  · obtain ⟨rfl, rfl⟩ := h
    simp [ef, et]
  · rw [if_neg h]
    have : ¬ (x.f = (c : Int) ∧ x.t = (d : Int)) := by omega
    simp [this]
theorem eA_bnd {n : Nat} {rs : List Arw} (g : GoodR (n : Int) rs) : Bnd n (eA rs) := by
  intro a b h
  obtain ⟨x, hx, h1, h2⟩ := eA_iff.1 h
  have := g.1 x hx
  unfold OkA at this
  omega
theorem check_ok {N : Int} {rs : List Arw} (h : checkS N rs = 0) : ∃ n : Nat, N = (n : Int) ∧ n ≤ 24 ∧ GoodR (n : Int) rs := by
  unfold checkS at h
  repeat (split at h; · omega)
  split at h
  · rename_i h1 h2 h3
    obtain ⟨n, rfl⟩ := Int.eq_ofNat_of_zero_le (a := N) (by omega)
    exact ⟨n, rfl, by omega, h3⟩
  · omega
def rowsR (R : Nat → Nat → Bool) (k : Nat) (x y : Nat) : Bool := decide (x < k) && R x y
theorem rowsR_zero (R : Nat → Nat → Bool) : rowsR R 0 = fun _ _ => false := by funext x y; simp [rowsR]
theorem rowsR_succ (R : Nat → Nat → Bool) (k : Nat) : rowset (rowsR R k) k (R k) = rowsR R (k + 1) := by
  funext x y
  simp only [rowset, rowsR]
  split
  · rename_i h; subst h; simp
  · rename_i h
    have : (x < k) ↔ (x < k + 1) := by omega
    simp [this]
theorem rowsR_all {n : Nat} {e : Nat → Nat → Bool} (hb : Bnd n e) : rowsR (rch e) n = rch e := by
  funext x y
  simp only [rowsR]
  cases h : rch e x y
  · simp
  · simp [((rch_iff.1 h).bnd hb).1]
theorem t119 : tblA 119 = some a119 := by kernel_rfl
theorem fn_open {h : H} {N : Int} {v : V} {rs : List Arw} (hr : Arrs h v rs) (hrn : rs.length ≤ 1000000) : WC tblA (.fn 119 [] []) [.agg [.i .i64 N, v]] h fun u h' => Ext h h' ∧
    (if checkS N rs = 0 then ∃ (wb n : Nat), N = (n : Int) ∧ u = .tup [.p wb 0, .b true] ∧ h.next ≤ wb ∧ wb < h'.next ∧ h'.get wb = some (.cells (webC (n : Int) (eA rs) (rch (eA rs)))) else u = .tup [.pn, .b false]) := by
  refine (WC_in t119).2 ?_
  obtain ⟨e0, g0⟩ := rel_blk h N v
  simp only [go_sem, ↓reduceIte, r119_0]
  have hb0 : h.next < (h.new (.cells [.i .i64 N, v])).next := by simp
  have hr0 := hr.ext e0
  generalize hb : h.next = b at *
  generalize hh : h.new (.cells [.i .i64 N, v]) = h0 at *
  have l0 : ldnV h0 2 (.p b 0) = some (.agg [.i .i64 N, v]) := blk_ldn g0 rfl
  simp only [go_sem, ↓reduceIte, r119_1, l0]
  refine (fn_Check hr0 hrn).mono ?_
  rintro _ h1 ⟨e1, rfl⟩
  by_cases hc : checkS N rs = 0
  case neg =>
    simp only [go_sem, ↓reduceIte, r119_2, hc]
    exact e0.trans e1
  obtain ⟨n, rfl, hn, gr⟩ := check_ok hc
  have g1 := e1.get hb0 g0
  have l1 : ldV h1 (.p b 0) = some (.i .i64 (n : Int)) := blk_ld g1 rfl
  simp only [go_sem, ↓reduceIte, r119_3, hc, l1, webC_zero]
  have e2 : Ext h (h1.new (.cells (webC (n : Int) (fun _ _ => false) (fun _ _ => false)))) := (e0.trans e1).new _
  have gw : (h1.new (.cells (webC (n : Int) (fun _ _ => false) (fun _ _ => false)))).get h1.next = some (.cells (webC (n : Int) (fun _ _ => false) (fun _ _ => false))) := by rw [H.get_new, if_pos rfl]
  have g2 : (h1.new (.cells (webC (n : Int) (fun _ _ => false) (fun _ _ => false)))).get b = some (.cells [.i .i64 (n : Int), v]) := by rw [H.get_new, if_neg (by have := e1.nx; omega)]; exact g1
  have hr2 := hr.ext e2
  have hwb : h.next ≤ h1.next := (e0.trans e1).nx
  have hbw : b < h1.next := by have := e1.nx; omega
  have hn2 : (h1.new (.cells (webC (n : Int) (fun _ _ => false) (fun _ _ => false)))).next = h1.next + 1 := by simp
  generalize h1.new (.cells (webC (n : Int) (fun _ _ => false) (fun _ _ => false))) = h2 at *
  generalize hwbn : h1.next = wb at *
  have l2 : ldV h2 (.p b 1) = some v := blk_ld g2 rfl
  simp only [go_sem, ↓reduceIte, r119_4, l2, hr2.len]
  refine W_while (fun k t h' => ∃ i, k = rs.length - i ∧ i ≤ rs.length ∧ t.length = 49 ∧ nth t 4 = .p wb 0 ∧ nth t 16 = v ∧ nth t 17 = .i .i64 (rs.length : Int) ∧ nth t 18 = .i .i64 (i : Int) ∧ Ext h h' ∧ wb < h'.next ∧ h'.get wb = some (.cells (webC (n : Int) (eA (rs.take i)) (fun _ _ => false)))) ?_ rs.length ?_
  · rintro k t h' ⟨i, rfl, hi, tl, t4, t16, t17, t18, e', hlt', g'⟩
    unfold b119_0
    have hr' := hr.ext e'
    by_cases hlt : i < rs.length
    · have hltI : (i : Int) < (rs.length : Int) := by omega
      obtain ⟨a, hx⟩ : ∃ a, rs[i]? = some a := ⟨_, List.getElem?_eq_getElem hlt⟩
      have hok := gr.1 a (List.mem_of_getElem? hx)
      unfold OkA at hok
      obtain ⟨f, hf⟩ := Int.eq_ofNat_of_zero_le (a := a.f) (by omega)
      obtain ⟨g, hg⟩ := Int.eq_ofNat_of_zero_le (a := a.t) (by omega)
      have hf24 : f < 24 := by omega
      have hg24 : g < 24 := by omega
      obtain ⟨h3, s3, e3, g3, n3⟩ := st_arw h' (.i .i64 0) (.i .i64 0) (.i .i64 0) (.i .i64 0) a
      obtain ⟨x0, x1, _, _, _⟩ := arw_lds g3
      have gw3 := e3.get hlt' g'
      have hwb3 : wb < h3.next := by omega
      have st3 := wb_ste (h := h3.bare) gw3 hf24 hg24
      rw [hf] at x0
      rw [hg] at x1
      simp only [go_sem, ↓reduceIte, r119_5, r119_6, r119_7, r119_8, tl, t4, t16, t17, t18, hltI, hr'.ix hlt, hr'.ldn hx, s3, x0, x1, ix24r hf24, ix24 hg24, ixA_ok (esz := 1) hg24, st3, back_put hwb3, wrap_succ (show i < 1000000000 by omega)]
      refine ⟨rs.length - (i + 1), by omega, i + 1, rfl, hlt, rfl, (e'.trans e3).put (by omega) _, by simpa using hwb3, ?_⟩
      rw [H.get_put, if_pos rfl, eA_step hx hf hg]
    · have hltI : ¬ (i : Int) < (rs.length : Int) := by omega
      rw [List.take_of_length_le (by omega)] at g'
      have ln := wb_n g'
      simp only [go_sem, ↓reduceIte, r119_5, r119_9, tl, t4, t16, t17, t18, hltI, ln]
      have hbd := eA_bnd gr
      refine W_while (fun k t h' => ∃ i, k = n - i ∧ i ≤ n ∧ t.length = 49 ∧ nth t 4 = .p wb 0 ∧ nth t 35 = .i .i64 (n : Int) ∧ nth t 36 = .i .i64 (i : Int) ∧ Ext h h' ∧ wb < h'.next ∧ h'.get wb = some (.cells (webC (n : Int) (eA rs) (rowsR (rch (eA rs)) i)))) ?_ n ?_
      · rintro k t h' ⟨i, rfl, hi, tl, t4, t35, t36, e', hlt', g'⟩
        unfold b119_1
        by_cases hlt : i < n
        · have hltI : (i : Int) < (n : Int) := by omega
          have hi24 : i < 24 := by omega
          simp only [go_sem, ↓reduceIte, r119_10, r119_11, r119_12, tl, t4, t35, t36, hltI]
          refine (fn_from (h := h'.bare) hn hbd hi24 hlt' g').mono ?_
          rintro _ h4 ⟨e4, rfl⟩
          replace e4 := e4.back
          have g4 := e4.get hlt' g'
          have hwb4 : wb < (h'.back h4).next := Nat.lt_of_lt_of_le hlt' e4.nx
          simp only [go_sem, ↓reduceIte]
          generalize h'.back h4 = h5 at *
          have st5 := wb_str (h := h5.bare) (s := rch (eA rs) i) g4 hi24
          simp only [go_sem, ↓reduceIte, r119_13, tl, t4, t35, t36, ix24r hi24, st5, back_put hwb4, wrap_succ (show i < 1000000000 by omega)]
          refine ⟨n - (i + 1), by omega, i + 1, rfl, hlt, rfl, (e'.trans e4).put (by omega) _, by simpa using hwb4, ?_⟩
          rw [H.get_put, if_pos rfl, rowsR_succ]
        · have hltI : ¬ (i : Int) < (n : Int) := by omega
          obtain rfl : i = n := by omega
          rw [rowsR_all hbd] at g'
          simp only [go_sem, ↓reduceIte, r119_10, r119_14, tl, t4, t35, t36, hltI]
          exact ⟨e', wb, i, rfl, rfl, by omega, hlt', g'⟩
      · refine ⟨0, by omega, by omega, ?_⟩
        rw [rowsR_zero]
        simp only [go_sem, ↓reduceIte, tl, t4]
        exact ⟨e', hlt', g'⟩
  · refine ⟨0, by omega, by omega, ?_⟩
    simp only [go_sem, ↓reduceIte, List.take_zero, eA_nil]
    exact ⟨e2, by omega, gw⟩
def standS (R : Nat → Nat → Bool) (a b : Nat) : Int := if a = b ∨ (R a b = false ∧ R b a = false) then 0 else if R a b = true ∧ R b a = true then 3 else if R a b = true then 1 else 2
theorem t137 : tblA 137 = some a137 := by kernel_rfl
theorem nat_int_eq {a b : Nat} : ((a : Int) = (b : Int)) = (a = b) := propext ⟨by omega, by omega⟩
@[go_sem] theorem wantV_undef (w : Bool) : wantV V.undef w = false := rfl
theorem fn_standing {h : H} {wb a b : Nat} {n : Int} {e r : Nat → Nat → Bool} (g : h.get wb = some (.cells (webC n e r))) (ha : a < 24) (hb : b < 24) : WC tblA (.fn 137 [] []) [.p wb 0, .i .i64 (a : Int), .i .i64 (b : Int)] h fun u h' => h' = h ∧ u = .i .u8 (standS r a b) := by
  refine (WC_in t137).2 ?_
  have l1 := wb_lr g ha hb
  have l2 := wb_lr g hb ha
  simp only [go_sem, ↓reduceIte, r137_0, r137_1, ix24r ha, ix24 ha, ixA_ok (esz := 1) ha, ix24r hb, ix24 hb, ixA_ok (esz := 1) hb, l1, l2]
  by_cases c1 : a = b
  · simp only [go_sem, ↓reduceIte, r137_2, r137_3, nat_int_eq, c1, standS, true_or]
  · cases c2 : r a b <;> cases c3 : r b a <;> simp only [go_sem, ↓reduceIte, r137_2, r137_3, r137_4, r137_5, r137_6, r137_7, r137_8, nat_int_eq, c1, c2, c3, standS] <;> simp
theorem stand_mate {R : Nat → Nat → Bool} {n a b : Nat} (hb : b < n) : (decide (a = b) || decide (standS R a b = 3)) = mate R n a b := by
  simp only [mate, standS, hb, decide_true, Bool.true_and]
  by_cases c1 : a = b
  · simp [c1]
  · rcases Bool.eq_false_or_eq_true (R a b) with c2 | c2 <;> rcases Bool.eq_false_or_eq_true (R b a) with c3 | c3 <;> simp [c1, c2, c3]
def sput (s : Nat → Bool) (a : Nat) (v : Bool) (x : Nat) : Bool := if x = a then v else s x
theorem cells24_put {s : Nat → Bool} {a : Nat} {v : Bool} (ha : a < 24) : (cells24 s).set (0 + a * 1) (.b v) = cells24 (sput s a v) := by
  apply List.ext_getElem?
  intro i
  rw [List.getElem?_set]
  by_cases hi : i < 24
  · rw [cells24_get hi, cells24_get hi]
    by_cases h : a = i
    · subst h
      rw [if_pos (by omega), if_pos (by rw [cells24_len]; omega)]
      simp [sput]
    · rw [if_neg (by omega)]
      simp [sput, Ne.symm h]
  · rw [List.getElem?_eq_none (l := cells24 (sput s a v)) (by rw [cells24_len]; omega), List.getElem?_eq_none (l := cells24 s) (by rw [cells24_len]; omega), if_neg (by omega)]
theorem sp24 {h : H} {b i : Nat} {s : Nat → Bool} {v : Bool} (g : h.get b = some (.cells (cells24 s))) (hi : i < 24) : stV h 1 (.p b (0 + i * 1)) (.b v) = some (h.put b (.cells (cells24 (sput s i v)))) := by
  rw [st_b (k := 0 + i * 1) g (by rw [cells24_len]; omega), cells24_put hi]
def upto (k : Nat) (s : Nat → Bool) (x : Nat) : Bool := decide (x < k) && s x
theorem upto_zero (s : Nat → Bool) : upto 0 s = noneD := by funext x; simp [upto, noneD]
theorem upto_succ (s : Nat → Bool) (k : Nat) : sput (upto k s) k (s k) = upto (k + 1) s := by
  funext x
  simp only [sput, upto]
  split
  · rename_i h; subst h; simp
  · rename_i h
    have : (x < k) ↔ (x < k + 1) := by omega
    simp [this]
theorem upto_mate (R : Nat → Nat → Bool) (n a : Nat) : upto n (mate R n a) = mate R n a := by
  funext x
  simp only [upto, mate]
  by_cases h : x < n <;> simp [h]
theorem t130 : tblA 130 = some a130 := by kernel_rfl
theorem fn_component {h : H} {wb a n : Nat} {e r : Nat → Nat → Bool} (hn : n ≤ 24) (hw : wb < h.next) (g : h.get wb = some (.cells (webC (n : Int) e r))) (ha : a < 24) : WC tblA (.fn 130 [] []) [.p wb 0, .i .i64 (a : Int)] h fun u h' => Ext h h' ∧ u = .agg (cells24 (mate r n a)) := by
  refine (WC_in t130).2 ?_
  simp only [go_sem, ↓reduceIte, r130_0, r130_1, H.next_new]
  have e1 : Ext h ((h.new (.cells (List.replicate 24 (.b false)))).new (.cells (List.replicate 24 (.b false)))) := ((Ext.refl h).new _).new _
  have g1 : ((h.new (.cells (List.replicate 24 (.b false)))).new (.cells (List.replicate 24 (.b false)))).get h.next = some (.cells (cells24 noneD)) := by rw [H.get_new, if_neg (by simp <;> omega), H.get_new, if_pos rfl, cells24_zero]
  have g2 : ((h.new (.cells (List.replicate 24 (.b false)))).new (.cells (List.replicate 24 (.b false)))).get (h.next + 1) = some (.cells (cells24 noneD)) := by rw [H.get_new, if_pos (by simp), cells24_zero]
  have n1 : ((h.new (.cells (List.replicate 24 (.b false)))).new (.cells (List.replicate 24 (.b false)))).next = h.next + 1 + 1 := by simp
  generalize ((h.new (.cells (List.replicate 24 (.b false)))).new (.cells (List.replicate 24 (.b false)))) = h1 at *
  have gw := e1.get hw g
  have ln := wb_n gw
  simp only [go_sem, ↓reduceIte, r130_2, ln]
  refine W_while (fun k t h' => ∃ i, k = n - i ∧ i ≤ n ∧ t.length = 28 ∧ nth t 0 = .p wb 0 ∧ nth t 1 = .i .i64 (a : Int) ∧ nth t 4 = .p h.next 0 ∧ nth t 5 = .p (h.next + 1) 0 ∧ nth t 10 = .i .i64 (n : Int) ∧ nth t 11 = .i .i64 (i : Int) ∧ Ext h h' ∧ h.next + 1 < h'.next ∧ h'.get h.next = some (.cells (cells24 noneD)) ∧ h'.get (h.next + 1) = some (.cells (cells24 (upto i (mate r n a))))) ?_ n ?_
  · rintro k t h' ⟨i, rfl, hi, tl, t0, t1, t4, t5, t10, t11, e', n', g1', g2'⟩
    unfold b130_0
    by_cases hlt : i < n
    · have hltI : (i : Int) < (n : Int) := by omega
      have hi24 : i < 24 := by omega
      have gw' := e'.get hw g
      have hm := stand_mate (R := r) (a := a) hlt
      by_cases c1 : a = i
      · have hv : mate r n a i = true := by rw [← hm]; simp [c1]
        have st := sp24 (v := true) g2' hi24
        simp only [go_sem, ↓reduceIte, r130_3, r130_4, r130_5, r130_6, tl, t0, t1, t4, t5, t10, t11, hltI, nat_int_eq, c1, ix24 hi24, st, wrap_succ (show i < 1000000000 by omega)]
        refine ⟨n - (i + 1), by omega, i + 1, rfl, hlt, rfl, e'.put (by omega) _, by simpa using n', by rw [H.get_put, if_neg (by omega)]; exact g1', ?_⟩
        rw [H.get_put, if_pos rfl]
        subst c1
        rw [← hv, upto_succ]
      · simp only [go_sem, ↓reduceIte, r130_3, r130_4, r130_5, tl, t0, t1, t4, t5, t10, t11, hltI, nat_int_eq, c1]
        refine (fn_standing gw' ha hi24).mono ?_
        rintro _ _ ⟨rfl, rfl⟩
        have hv : decide (standS r a i = 3) = mate r n a i := by rw [← hm]; simp [c1]
        have st := sp24 (v := mate r n a i) g2' hi24
        simp only [go_sem, ↓reduceIte, r130_6, tl, t0, t1, t4, t5, t10, t11, ix24 hi24, hv, st, wrap_succ (show i < 1000000000 by omega)]
        refine ⟨n - (i + 1), by omega, i + 1, rfl, hlt, rfl, e'.put (by omega) _, by simpa using n', by rw [H.get_put, if_neg (by omega)]; exact g1', ?_⟩
        rw [H.get_put, if_pos rfl, upto_succ]
    · have hltI : ¬ (i : Int) < (n : Int) := by omega
      obtain rfl : i = n := by omega
      rw [upto_mate] at g2'
      have l5 : ldnV h' 24 (.p (h.next + 1) 0) = some (.agg (cells24 (mate r i a))) := blk_ldn g2' (cells24_len _)
      have s5 := st_whole g1' (cells24_len (mate r i a)) (cells24_len _) (cells24_one _)
      simp only [go_sem, ↓reduceIte, r130_3, r130_7, tl, t0, t1, t4, t5, t10, t11, hltI, l5, s5]
      rw [rescell (b := h.next) (cs := cells24 (mate r i a)) (by simp only [go_sem, ↓reduceIte, tl, t4]) (by rw [H.get_put, if_pos rfl]) (cut_all (cells24_len _))]
      simp only [go_sem]
      exact e'.put (Nat.le_refl _) _
  · refine ⟨0, by omega, by omega, ?_⟩
    rw [upto_zero]
    simp only [go_sem, ↓reduceIte]
    exact ⟨e1, by omega, g1, g2⟩
theorem t131 : tblA 131 = some a131 := by kernel_rfl
theorem fn_preceded {h : H} {wb a n : Nat} {e r : Nat → Nat → Bool} {own d : Nat → Bool} (hn : n ≤ 24) (hw : wb < h.next) (g : h.get wb = some (.cells (webC (n : Int) e r))) (ha : a < 24) :
    WC tblA (.fn 131 [] []) [.p wb 0, .i .i64 (a : Int), .agg (cells24 own), .agg (cells24 d)] h fun u h' => Ext h h' ∧ u = .b ((List.range n).any fun b => !own b && !d b && r b a) := by
  refine (WC_in t131).2 ?_
  simp only [go_sem, ↓reduceIte, r131_0, H.next_new]
  have e1 : Ext h ((h.new (.cells (cells24 own))).new (.cells (cells24 d))) := ((Ext.refl h).new _).new _
  have g1 : ((h.new (.cells (cells24 own))).new (.cells (cells24 d))).get h.next = some (.cells (cells24 own)) := by rw [H.get_new, if_neg (by simp <;> omega), H.get_new, if_pos rfl]
  have g2 : ((h.new (.cells (cells24 own))).new (.cells (cells24 d))).get (h.next + 1) = some (.cells (cells24 d)) := by rw [H.get_new, if_pos (by simp)]
  generalize ((h.new (.cells (cells24 own))).new (.cells (cells24 d))) = h1 at *
  have gw := e1.get hw g
  have ln := wb_n gw
  simp only [go_sem, ↓reduceIte, r131_1, ln]
  refine W_while (fun k t h' => ∃ i, k = n - i ∧ i ≤ n ∧ t.length = 38 ∧ nth t 0 = .p wb 0 ∧ nth t 1 = .i .i64 (a : Int) ∧ nth t 6 = .p h.next 0 ∧ nth t 7 = .p (h.next + 1) 0 ∧ nth t 13 = .i .i64 (n : Int) ∧ nth t 14 = .i .i64 (i : Int) ∧ h' = h1 ∧ ((List.range i).any fun b => !own b && !d b && r b a) = false) ?_ n ?_
  · rintro k t _ ⟨i, rfl, hi, tl, t0, t1, t6, t7, t13, t14, rfl, hno⟩
    unfold b131_0
    by_cases hlt : i < n
    · have hltI : (i : Int) < (n : Int) := by omega
      have hi24 : i < 24 := by omega
      have lo := ld24 g1 hi24
      have ld := ld24 g2 hi24
      have lr := wb_lr gw hi24 ha
      have step : (!own i && !d i && r i a) = false → ((List.range (i + 1)).any fun b => !own b && !d b && r b a) = false := by
        intro hz
        rw [List.range_succ, List.any_append, hno]
        simpa using hz
      cases c1 : own i
      · cases c2 : d i
        · cases c3 : r i a
          · simp only [go_sem, ↓reduceIte, r131_2, r131_3, r131_4, r131_6, tl, t0, t1, t6, t7, t13, t14, hltI, ix24 hi24, ix24r hi24, ix24 ha, ixA_ok (esz := 1) ha, lo, ld, lr, c1, c2, c3, wrap_succ (show i < 1000000000 by omega)]
            exact ⟨n - (i + 1), by omega, i + 1, rfl, hlt, rfl, step (by simp [c1, c2, c3])⟩
          · simp only [go_sem, ↓reduceIte, r131_2, r131_3, r131_4, r131_5, tl, t0, t1, t6, t7, t13, t14, hltI, ix24 hi24, ix24r hi24, ix24 ha, ixA_ok (esz := 1) ha, lo, ld, lr, c1, c2, c3]
            refine ⟨e1, ?_⟩
            congr 1
            symm
            exact List.any_eq_true.2 ⟨i, List.mem_range.2 hlt, by simp [c1, c2, c3]⟩
        · simp only [go_sem, ↓reduceIte, r131_2, r131_3, r131_4, r131_6, tl, t0, t1, t6, t7, t13, t14, hltI, ix24 hi24, ix24r hi24, ix24 ha, ixA_ok (esz := 1) ha, lo, ld, lr, c1, c2, wrap_succ (show i < 1000000000 by omega)]
          exact ⟨n - (i + 1), by omega, i + 1, rfl, hlt, rfl, step (by simp [c1, c2])⟩
      · simp only [go_sem, ↓reduceIte, r131_2, r131_3, r131_4, r131_6, tl, t0, t1, t6, t7, t13, t14, hltI, ix24 hi24, ix24r hi24, ix24 ha, ixA_ok (esz := 1) ha, lo, ld, lr, c1, wrap_succ (show i < 1000000000 by omega)]
        exact ⟨n - (i + 1), by omega, i + 1, rfl, hlt, rfl, step (by simp [c1])⟩
    · have hltI : ¬ (i : Int) < (n : Int) := by omega
      obtain rfl : i = n := by omega
      simp only [go_sem, ↓reduceIte, r131_2, r131_7, tl, t0, t1, t6, t7, t13, t14, hltI]
      exact ⟨e1, by rw [hno]⟩
  · refine ⟨0, by omega, by omega, ?_⟩
    simp only [go_sem, ↓reduceIte]
    simp
theorem free_of {R : Nat → Nat → Bool} {n a : Nat} {d : Nat → Bool} (ha : a < n) : (d a || (List.range n).any fun b => !mate R n a b && !d b && R b a) = !freeG R n d a := by
  simp only [freeG, Bool.not_and, Bool.not_not]
  congr 1
  rw [Bool.eq_iff_iff]
  simp only [List.any_eq_true, List.mem_range, Bool.not_eq_true', List.all_eq_false, Bool.not_eq_true]
  constructor
  · rintro ⟨b, hb, h⟩
    refine ⟨b, hb, ?_⟩
    simp only [mate, hb, decide_true, Bool.true_and, Bool.and_eq_true, Bool.not_eq_true', Bool.or_eq_false_iff, Bool.not_eq_false', Bool.and_eq_false_iff] at h ⊢
    obtain ⟨⟨⟨_, h1⟩, h2⟩, h3⟩ := h
    refine ⟨⟨h3, ?_⟩, h2⟩
    rcases h1 with h1 | h1
    · exact h1
    · rw [h1] at h3; cases h3
  · rintro ⟨b, hb, h⟩
    refine ⟨b, hb, ?_⟩
    simp only [mate, hb, decide_true, Bool.true_and, Bool.and_eq_true, Bool.not_eq_true', Bool.or_eq_false_iff, Bool.not_eq_false', Bool.and_eq_false_iff] at h ⊢
    obtain ⟨⟨h1, h2⟩, h3⟩ := h
    refine ⟨⟨⟨?_, .inl h2⟩, h3⟩, h1⟩
    rw [decide_eq_false_iff_not]
    rintro rfl
    rw [h1] at h2; cases h2
end Go.Air
set_option maxRecDepth 100000
namespace Go.Air
open Go.Air.Try
theorem find_range {p : Nat → Bool} {n a : Nat} (ha : a < n) (hp : p a = true) (hb : ∀ b, b < a → p b = false) : (List.range n).find? p = some a := by
  rw [List.find?_eq_some_iff_getElem]
  refine ⟨hp, a, by simpa using ha, by simp, fun j hj => ?_⟩
  simpa using hb j hj
theorem find_range_none {p : Nat → Bool} {n : Nat} (hb : ∀ b, b < n → p b = false) : (List.range n).find? p = none := by
  rw [List.find?_eq_none]
  intro x hx
  rw [hb x (List.mem_range.1 hx)]; simp
theorem setL_bnd {n m : Nat} {s : Nat → Bool} (hnm : n ≤ m) (hs : ∀ x, s x = true → x < n) : setL m s = setL n s := by
  obtain ⟨k, rfl⟩ := Nat.le.dest hnm
  clear hnm
  induction k with
  | zero => rfl
  | succ k ih =>
    rw [← Nat.add_assoc, setL_succ, ih]
    have : ¬ s (n + k) = true := fun h => by have := hs _ h; omega
    simp [this]
def markS (d : Nat → Bool) (l : List Int) (b : Nat) : Bool := d b || decide ((b : Int) ∈ l)
theorem markS_nil (d : Nat → Bool) : markS d [] = d := by funext b; simp [markS]
theorem markS_step {d : Nat → Bool} {xs : List Int} {j x : Nat} (hx : xs[j]? = some (x : Int)) : sset (markS d (xs.take j)) x = markS d (xs.take (j + 1)) := by
  funext b
  rw [take_succ' hx]
  simp only [sset, markS, List.mem_append, List.mem_singleton]
  by_cases h : b = x
  · subst h; simp
  · have : ¬ (b : Int) = (x : Int) := by omega
    simp [h, this]
theorem markS_all {d s : Nat → Bool} {n : Nat} (hs : ∀ x, s x = true → x < n) : markS d (setL n s) = addS d s := by
  funext b
  simp only [markS, addS]
  congr 1
  rw [Bool.eq_iff_iff, decide_eq_true_iff, setL_mem]
  constructor
  · rintro ⟨j, h1, h2, h3⟩
    have : b = j := by omega
    subst this; exact h3
  · intro h
    exact ⟨b, rfl, hs b h, h⟩
theorem mate_lt {R : Nat → Nat → Bool} {n a x : Nat} (h : mate R n a x = true) : x < n := by
  simp only [mate, Bool.and_eq_true, decide_eq_true_eq] at h
  exact h.1
theorem mate_self {R : Nat → Nat → Bool} {n a : Nat} (h : a < n) : mate R n a a = true := by simp [mate, h]
structure NPre (h : H) (c0 db ob fb wb n : Nat) (e r : Nat → Nat → Bool) : Prop where
  lc : c0 < h.next
  ld : db < h.next
  lo : ob < h.next
  lf : fb < h.next
  lw : wb < h.next
  n1 : ¬ (c0 = db ∨ c0 = ob)
  n2 : ¬ (fb = db ∨ fb = ob)
  n3 : ¬ (wb = db ∨ wb = ob)
  n4 : db ≠ ob
  gc : h.get c0 = some (.cells [.p wb 0])
  gf : h.get fb = some (.cells [.fn 129 [] [.p c0 0, .p db 0, .p ob 0, .p fb 0]])
  gw : h.get wb = some (.cells (webC (n : Int) e r))
theorem NPre.ext {h h' : H} {c0 db ob fb wb n : Nat} {e r : Nat → Nat → Bool} (p : NPre h c0 db ob fb wb n e r) (x : ExtX (fun b => b = db ∨ b = ob) h h') : NPre h' c0 db ob fb wb n e r :=
  ⟨Nat.lt_of_lt_of_le p.lc x.nx, Nat.lt_of_lt_of_le p.ld x.nx, Nat.lt_of_lt_of_le p.lo x.nx, Nat.lt_of_lt_of_le p.lf x.nx, Nat.lt_of_lt_of_le p.lw x.nx, p.n1, p.n2, p.n3, p.n4, x.get p.lc p.n1 p.gc, x.get p.lf p.n2 p.gf, x.get p.lw p.n3 p.gw⟩
theorem ExtX.tr {X : Nat → Prop} {h0 h h' : H} (e : ExtX X h0 h) (f : Ext (trunc h0.next h) h') : ExtX X h0 h' := by
  refine ⟨f.nx, fun b hb hX => (f.same b hb).trans (e.same b hb hX), ?_⟩
  obtain ⟨l, q, hl⟩ := e.log
  obtain ⟨m, q', hm⟩ := f.log
  have q2 : h'.log = m ++ h.log := q'
  refine ⟨m ++ l, by rw [q2, q, List.append_assoc], fun x hx => ?_⟩
  rcases List.mem_append.1 hx with hx | hx
  · exact .inl (hm x hx)
  · exact hl x hx
def s129_5a : List O := [⟨some 28, none, .ld (.t 2)⟩, ⟨some 29, none, .ldn 24 (.t 5)⟩, ⟨some 30, none, .call (.f 132) [(.t 29)]⟩]
def s129_5b : List O := [⟨some 31, none, .buildSl [.sn] 1 [(0, 1, (.t 30))]⟩, ⟨some 32, none, .app 1 24 (.t 28) (.t 31)⟩, ⟨none, none, .st 1 (.t 2) (.t 32)⟩]
theorem r129_5_eq : r129_5 = s129_5a ++ s129_5b := rfl
theorem draw129 {hB h : H} {db ob q : Nat} {w : V} {s : Nat → Bool} {xss : List (List Int)} {t : List V} {Q : Out → List V → H → Prop} (tl : t.length = 46) (t2 : nth t 2 = .p ob 0) (t5 : nth t 5 = .p q 0) (hob : ob < hB.next) (hdb : db < hB.next) (hdo : db ≠ ob)
    (hq : hB.next ≤ q) (hq2 : q < h.next) (g : h.get ob = some (.cells [w])) (gq : h.get q = some (.cells (cells24 s))) (x : ExtX (fun b => b = db ∨ b = ob) hB h) (r : Rows hB h w xss) (hwq : w = .sn ∨ blkV w < q) (hne : setL 24 s ≠ []) (hn : xss.length ≤ 1000)
    (hQ : ∀ t' w' h', t'.length = 46 → (∀ j, j < 28 → nth t' j = nth t j) → ExtX (fun b => b = db ∨ b = ob) hB h' → h'.get ob = some (.cells [w']) → h'.get q = some (.cells (cells24 s)) → q < h'.next → h'.get db = h.get db → Rows hB h' w' (xss ++ [setL 24 s]) → Q .norm t' h') :
    WD tblA r129_5 t h [] (Kcrit [(0, 2)] Q) := by
  rw [r129_5_eq]
  apply W_crit (by simp [s129_5a])
  have l2 := blk_ld (i := 0) g rfl
  have l5 : ldnV h 24 (.p q 0) = some (.agg (cells24 s)) := blk_ldn gq (cells24_len _)
  simp only [go_sem, ↓reduceIte, s129_5a, tl, t2, t5, l2, l5]
  refine (fn_setL (h := h.bare)).mono ?_
  rintro c h1 ⟨e1, o1⟩
  have hold := e1.old
  have o1' : Own h 1 (h.back h1) c (setL 24 s).length (ints (setL 24 s)) := o1
  replace e1 := e1.back
  have c1 := o1'.pos (by cases hc : setL 24 s with
    | nil => exact absurd hc hne
    | cons x l => simp)
  simp only [go_sem, ↓reduceIte, hold]
  generalize hqq : h.back h1 = h2 at *
  have r2 := r.ext e1
  have hwl := r.wlt
  have hn1 := e1.nx
  have hone := o1'.one
  have hB1 := x.nx
  have hnB : hB.next ≤ h2.next := by omega
  have x2 : ExtX (fun b => b = db ∨ b = ob) hB h2 := x.trans (.of e1)
  have rT : Rows (trunc hB.next h2) h2 w xss := r2
  obtain ⟨cs, o, hc⟩ := rT
  obtain ⟨w', hb, g', q0, q1, q2, q3, q4, q5, q6⟩ := app_refB (u := c) o (trunc_ext hnB) hone.2 (by omega)
  have rows' : Rows (trunc hB.next h2) g' w' (xss ++ [setL 24 s]) := Rows.step hc (by simpa using o.len) (Ints.of o1'.sl).1 (show hB.next ≤ blkV c by omega) c1.2.2 (by
    rcases hwl with z | z
    · exact .inl z
    · exact .inr (by omega)) q3 q4 q5 q6
  have x3 : ExtX (fun b => b = db ∨ b = ob) hB g' := x2.tr q2
  have fr : ∀ b, b < hB.next → g'.get b = h.get b := fun b hb => (q2.same b hb).trans (e1.same b (by omega))
  have goc : g'.get ob = some (.cells [w]) := (fr ob hob).trans g
  have gqq : g'.get q = some (.cells (cells24 s)) := by
    rw [q5 q (by omega) (by rcases hwq with z | z; exact .inl z; exact .inr (by omega))]
    exact e1.get hq2 gq
  have hw' : w'.cells = [w'] ∧ w'.oneCell = true := by
    obtain ⟨cs, o, _⟩ := rows'
    exact o.one
  have hst := st_ref (h := g'.bare) goc hw'.1 hw'.2
  have hbk := back_put (h := g') (b := ob) (by omega) (.cells [w'])
  simp only [go_sem, ↓reduceIte, s129_5b, tl, t2, fill1_of hone.1, q0, q1, hst, hbk]
  refine hQ _ w' _ (by simp only [upd_length, tl]) (fun j hj => by simp only [nth_upd]; repeat rw [if_neg (by omega)]) (x3.put (.inr (.inr rfl)) _) (by rw [H.get_put, if_pos rfl]) (by rw [H.get_put, if_neg (by omega)]; exact gqq) (by simp; omega) (by rw [H.get_put, if_neg hdo]; exact fr db hdb) ?_
  exact Rows.keep (h0 := hB) rows' (Nat.le_refl _) (fun b h1 _ => by rw [H.get_put, if_neg (by omega)])
theorem t129 : tblA 129 = some a129 := by kernel_rfl
theorem fn_next129 {hB : H} {c0 db ob fb wb n : Nat} {e r : Nat → Nat → Bool} (hn : n ≤ 24) (p : NPre hB c0 db ob fb wb n e r) : ∀ (k : Nat) (h : H) (d : Nat → Bool) (w : V) (xss : List (List Int)), undone n d ≤ k → ExtX (fun b => b = db ∨ b = ob) hB h →
    h.get db = some (.cells (cells24 d)) → h.get ob = some (.cells [w]) → Rows hB h w xss → xss.length + k ≤ 1000 →
    WC tblA (.fn 129 [] [.p c0 0, .p db 0, .p ob 0, .p fb 0]) [] h fun u h' => ExtX (fun b => b = db ∨ b = ob) hB h' ∧ ∃ w', h'.get ob = some (.cells [w']) ∧ Rows hB h' w' (xss ++ comps r n k d) := by
  intro k
  induction k with
  | zero =>
    intro h d w xss hu x gd go rw' hk
    refine (WC_cl t129).2 ?_
    refine W_gen (fun t => t.length = 46 ∧ nth t 0 = .p c0 0 ∧ nth t 1 = .p db 0 ∧ nth t 2 = .p ob 0 ∧ nth t 3 = .p fb 0) ⟨rfl, rfl, rfl, rfl, rfl⟩ ?_
    rintro t ⟨tl, t0, t1, t2, t3⟩
    have p' := p.ext x
    have lc : ldV h (.p c0 0) = some (.p wb 0) := blk_ld p'.gc rfl
    have ln := wb_n p'.gw
    simp only [go_sem, ↓reduceIte, r129_0, tl, t0, lc, ln]
    refine W_while (fun k' t h' => ∃ i, k' = n - i ∧ i ≤ n ∧ t.length = 46 ∧ nth t 0 = .p c0 0 ∧ nth t 1 = .p db 0 ∧ nth t 2 = .p ob 0 ∧ nth t 3 = .p fb 0 ∧ nth t 11 = .i .i64 (n : Int) ∧ nth t 12 = .i .i64 (i : Int) ∧ ExtX (fun b => b = db ∨ b = ob) hB h' ∧ h'.get db = some (.cells (cells24 d)) ∧ h'.get ob = some (.cells [w]) ∧ Rows hB h' w xss) ?_ n ?_
    · rintro k' t h' ⟨i, rfl, hi, tl, t0, t1, t2, t3, t11, t12, x', gd', go', r'⟩
      unfold b129_1
      by_cases hlt : i < n
      · have hltI : (i : Int) < (n : Int) := by omega
        have hi24 : i < 24 := by omega
        have p' := p.ext x'
        have lc : ldV h' (.p c0 0) = some (.p wb 0) := blk_ld p'.gc rfl
        simp only [go_sem, ↓reduceIte, r129_1, r129_2, r129_3, tl, t0, t1, t2, t3, t11, t12, hltI, lc]
        refine (fn_component hn p'.lw p'.gw hi24).mono ?_
        rintro _ h2 ⟨e2, rfl⟩
        obtain ⟨h3, s3, e3, g3, n3⟩ := st_newK h2 (List.replicate 24 (.b false)) (cells24 (mate r n i)) (by simp [cells24_len]) (cells24_one _)
        simp only [go_sem, ↓reduceIte, cells24_len] at s3 ⊢
        have e3' := e2.trans e3
        have gd3 := e3'.get p'.ld gd'
        have hdi : d i = true := by
          have hz : (List.range n).filter (fun a => !d a) = [] := List.eq_nil_of_length_eq_zero (Nat.le_zero.1 hu)
          have := List.filter_eq_nil_iff.1 hz i (List.mem_range.2 hlt)
          simpa using this
        have ld3 := ld24 gd3 hi24
        simp only [go_sem, ↓reduceIte, r129_4, r129_12, s3, tl, t0, t1, t2, t3, t11, t12, ix24 hi24, ld3, hdi, wrap_succ (show i < 1000000000 by omega)]
        exact ⟨n - (i + 1), by omega, i + 1, rfl, hlt, rfl, x'.trans (.of e3'), gd3, e3'.get p'.lo go', r'.ext e3'⟩
      · have hltI : ¬ (i : Int) < (n : Int) := by omega
        simp only [go_sem, ↓reduceIte, r129_1, tl, t0, t1, t2, t3, t11, t12, hltI]
        exact ⟨x', w, go', by simpa [comps] using r'⟩
    · refine ⟨0, by omega, by omega, ?_⟩
      simp only [go_sem, ↓reduceIte, tl, t0, t1, t2, t3]
      exact ⟨x, gd, go, rw'⟩
  | succ k ih =>
    intro h d w xss hu x gd go rw' hk
    refine (WC_cl t129).2 ?_
    refine W_gen (fun t => t.length = 46 ∧ nth t 0 = .p c0 0 ∧ nth t 1 = .p db 0 ∧ nth t 2 = .p ob 0 ∧ nth t 3 = .p fb 0) ⟨rfl, rfl, rfl, rfl, rfl⟩ ?_
    rintro t ⟨tl, t0, t1, t2, t3⟩
    have p' := p.ext x
    have lc : ldV h (.p c0 0) = some (.p wb 0) := blk_ld p'.gc rfl
    have ln := wb_n p'.gw
    simp only [go_sem, ↓reduceIte, r129_0, tl, t0, lc, ln]
    refine W_while (fun k' t h' => ∃ i, k' = n - i ∧ i ≤ n ∧ t.length = 46 ∧ nth t 0 = .p c0 0 ∧ nth t 1 = .p db 0 ∧ nth t 2 = .p ob 0 ∧ nth t 3 = .p fb 0 ∧ nth t 11 = .i .i64 (n : Int) ∧ nth t 12 = .i .i64 (i : Int) ∧ ExtX (fun b => b = db ∨ b = ob) hB h' ∧ h'.get db = some (.cells (cells24 d)) ∧ h'.get ob = some (.cells [w]) ∧ Rows hB h' w xss ∧ ∀ a, a < i → freeG r n d a = false) ?_ n ?_
    · rintro k' t h' ⟨i, rfl, hi, tl, t0, t1, t2, t3, t11, t12, x', gd', go', r', hnf⟩
      unfold b129_1
      by_cases hlt : i < n
      · have hltI : (i : Int) < (n : Int) := by omega
        have hi24 : i < 24 := by omega
        have p' := p.ext x'
        have lc : ldV h' (.p c0 0) = some (.p wb 0) := blk_ld p'.gc rfl
        have hmf := free_of (R := r) (d := d) hlt
        simp only [go_sem, ↓reduceIte, r129_1, r129_2, r129_3, tl, t0, t1, t2, t3, t11, t12, hltI, lc]
        refine (fn_component hn p'.lw p'.gw hi24).mono ?_
        rintro _ h2 ⟨e2, rfl⟩
        obtain ⟨h3, s3, e3, g3, n3⟩ := st_newK h2 (List.replicate 24 (.b false)) (cells24 (mate r n i)) (by simp [cells24_len]) (cells24_one _)
        simp only [go_sem, ↓reduceIte, cells24_len] at s3 ⊢
        have e3' := e2.trans e3
        have gd3 := e3'.get p'.ld gd'
        have go3 := e3'.get p'.lo go'
        have r3 := r'.ext e3'
        have x3 := x'.trans (.of e3')
        have ld3 := ld24 gd3 hi24
        have wl := r'.wlt
        have nextI : ∀ hh : H, Ext h3 hh → freeG r n d i = false → ExtX (fun b => b = db ∨ b = ob) hB hh ∧ hh.get db = some (.cells (cells24 d)) ∧ hh.get ob = some (.cells [w]) ∧ Rows hB hh w xss ∧ ∀ a, a < i + 1 → freeG r n d a = false := by
          intro hh eh hf
          refine ⟨x3.trans (.of eh), eh.get (by have := e3'.nx; have := p'.ld; omega) gd3, eh.get (by have := e3'.nx; have := p'.lo; omega) go3, r3.ext eh, fun a ha => ?_⟩
          by_cases q : a = i
          · subst q; exact hf
          · exact hnf a (by omega)
        cases hdi : d i
        case true =>
          rw [hdi] at hmf
          have hf : freeG r n d i = false := by simpa using hmf.symm
          simp only [go_sem, ↓reduceIte, r129_4, r129_12, s3, tl, t0, t1, t2, t3, t11, t12, ix24 hi24, ld3, hdi, wrap_succ (show i < 1000000000 by omega)]
          exact ⟨n - (i + 1), by omega, i + 1, rfl, hlt, rfl, nextI _ (.refl _) hf⟩
        rw [hdi] at hmf
        simp only [Bool.false_or] at hmf
        have p3 := p.ext x3
        have lc3 : ldV h3 (.p c0 0) = some (.p wb 0) := blk_ld p3.gc rfl
        have l5 : ldnV h3 24 (.p h2.next 0) = some (.agg (cells24 (mate r n i))) := blk_ldn g3 (cells24_len _)
        have l1 : ldnV h3 24 (.p db 0) = some (.agg (cells24 d)) := blk_ldn gd3 (cells24_len _)
        simp only [go_sem, ↓reduceIte, r129_4, s3, tl, t0, t1, t2, t3, t11, t12, ix24 hi24, ld3, hdi, lc3, l5, l1]
        refine (fn_preceded hn p3.lw p3.gw hi24).mono ?_
        rintro _ h4 ⟨e4, rfl⟩
        rw [hmf]
        cases hf : freeG r n d i
        case false =>
          simp only [go_sem, ↓reduceIte, r129_12, tl, t0, t1, t2, t3, t11, t12, wrap_succ (show i < 1000000000 by omega)]
          exact ⟨n - (i + 1), by omega, i + 1, rfl, hlt, rfl, nextI _ e4 hf⟩
        have hcomps : comps r n (k + 1) d = setL n (mate r n i) :: comps r n k (addS d (mate r n i)) := by
          rw [comps, find_range hlt hf hnf]
        have hsl : setL 24 (mate r n i) = setL n (mate r n i) := setL_bnd hn fun x hx => mate_lt hx
        have hmn := e3'.nx
        have x4 := x3.trans (.of e4)
        have hne : setL 24 (mate r n i) ≠ [] := by
          have : (i : Int) ∈ setL 24 (mate r n i) := setL_mem.2 ⟨i, rfl, hi24, mate_self hlt⟩
          intro h; rw [h] at this; simp at this
        simp only [go_sem, ↓reduceIte, tl]
        have hxB := x'.nx
        have he2 := e2.nx
        refine draw129 (hB := hB) (db := db) (ob := ob) (q := h2.next) (s := mate r n i) (xss := xss) (w := w) ?g1 ?g2 ?g3 p.lo p.ld p.n4 (by omega) (by have := e4.nx; omega) (e4.get (by have := p3.lo; omega) go3) (e4.get (by omega) g3) x4 (r3.ext e4) (by
          rcases wl with z | z
          · exact .inl z
          · exact .inr (by omega)) hne (by omega) ?_
        case g1 => simp only [go_sem, ↓reduceIte, tl]
        case g2 => simp only [go_sem, ↓reduceIte, tl, t2]
        case g3 => simp only [go_sem, ↓reduceIte, tl]
        intro t5 w5 h5 tl5 tk x5 go5 gq5 hq5 gd5 r5
        have u1 : nth t5 1 = .p db 0 := (tk 1 (by omega)).trans (by simp only [go_sem, ↓reduceIte, tl, t1])
        have u2 : nth t5 2 = .p ob 0 := (tk 2 (by omega)).trans (by simp only [go_sem, ↓reduceIte, tl, t2])
        have u3 : nth t5 3 = .p fb 0 := (tk 3 (by omega)).trans (by simp only [go_sem, ↓reduceIte, tl, t3])
        have u5 : nth t5 5 = .p h2.next 0 := (tk 5 (by omega)).trans (by simp only [go_sem, ↓reduceIte, tl])
        have p5 := p.ext x5
        rw [e4.get (by have := p3.ld; omega) gd3] at gd5
        have l6 : ldnV h5 24 (.p h2.next 0) = some (.agg (cells24 (mate r n i))) := blk_ldn gq5 (cells24_len _)
        clear tk
        simp only [go_sem, ↓reduceIte, r129_6, tl5, u5, l6]
        refine fn_setL.mono ?_
        rintro u h6 ⟨e6, o6⟩
        have s6 := o6.ints
        rw [hsl] at s6 o6 r5
        have hl24 : (setL n (mate r n i)).length ≤ 24 := Nat.le_trans (setL_len _ _) hn
        simp only [go_sem, ↓reduceIte, tl5, s6.len, hsl]
        have x6 := x5.trans (.of e6)
        have gd6 := e6.get p5.ld gd5
        have go6 := e6.get p5.lo go5
        have r6 := r5.ext e6
        have hmk : markS d (setL n (mate r n i)) = addS d (mate r n i) := markS_all fun x hx => mate_lt hx
        have hxs : ∀ y ∈ setL n (mate r n i), ∃ j : Nat, y = (j : Int) ∧ j < 24 := by
          intro y hy
          obtain ⟨j, rfl, hj, _⟩ := setL_mem.1 hy
          exact ⟨j, rfl, by omega⟩
        have hu' : undone n (addS d (mate r n i)) ≤ k := by
          have := undone_lt hlt hf
          omega
        rw [hcomps]
        generalize setL n (mate r n i) = xs at *
        refine W_while (fun k' t h' => ∃ j, k' = xs.length - j ∧ j ≤ xs.length ∧ t.length = 46 ∧ nth t 1 = .p db 0 ∧ nth t 3 = .p fb 0 ∧ nth t 34 = u ∧ nth t 35 = .i .i64 (xs.length : Int) ∧ nth t 36 = .i .i64 (j : Int) ∧ ExtX (fun b => b = db ∨ b = ob) hB h' ∧ h'.get db = some (.cells (cells24 (markS d (xs.take j)))) ∧ h'.get ob = some (.cells [w5]) ∧ Rows hB h' w5 (xss ++ [xs]) ∧ Own h5 1 h' u xs.length (ints xs)) ?_ xs.length ?_
        · rintro k' t h' ⟨j, rfl, hj, tl, t1, t3, t34, t35, t36, x', gd', go', r', o'⟩
          unfold b129_0
          have p' := p.ext x'
          by_cases hlt2 : j < xs.length
          · have hltI2 : (j : Int) < (xs.length : Int) := by omega
            obtain ⟨y, hy⟩ : ∃ y, xs[j]? = some y := ⟨_, List.getElem?_eq_getElem hlt2⟩
            obtain ⟨b, rfl, hb24⟩ := hxs y (List.mem_of_getElem? hy)
            have s' := o'.ints
            simp only [go_sem, ↓reduceIte, r129_7, r129_8, r129_9, r129_10, tl, t1, t3, t34, t35, t36, hltI2, s'.ix hlt2, s'.ld hy, ix24 hb24, st24 gd' hb24, wrap_succ (show j < 1000000000 by omega)]
            refine ⟨xs.length - (j + 1), by omega, j + 1, rfl, hlt2, rfl, x'.put (.inr (.inl rfl)) _, ?_, ?_, ?_, ?_⟩
            · rw [H.get_put, if_pos rfl, markS_step hy]
            · rw [H.get_put, if_neg (fun q => p.n4 q.symm)]; exact go'
            · exact r'.keep (Nat.le_refl _) (fun b h1 _ => by rw [H.get_put, if_neg (by have := p.ld; omega)])
            · exact o'.keepX (X := (· = db)) ((ExtX.refl (· = db) h').put (.inr rfl) _) (fun b hb => by have := p5.ld; omega)
          · have hltI2 : ¬ (j : Int) < (xs.length : Int) := by omega
            rw [List.take_of_length_le (by omega), hmk] at gd'
            have lf : ldV h' (.p fb 0) = some (.fn 129 [] [.p c0 0, .p db 0, .p ob 0, .p fb 0]) := blk_ld p'.gf rfl
            simp only [go_sem, ↓reduceIte, r129_7, r129_11, tl, t1, t3, t34, t35, t36, hltI2, lf]
            refine (ih h' (addS d (mate r n i)) w5 (xss ++ [xs]) hu' x' gd' go' r' (by simp; omega)).mono ?_
            rintro _ h7 ⟨x7, w7, go7, r7⟩
            simp only [go_sem, ↓reduceIte]
            refine ⟨x7, w7, go7, ?_⟩
            rw [List.append_assoc] at r7
            exact r7
        · refine ⟨0, by omega, by omega, ?_⟩
          simp only [go_sem, ↓reduceIte, tl5, u1, u3, List.take_zero, markS_nil]
          exact ⟨x6, gd6, go6, r6, o6⟩
      · have hltI : ¬ (i : Int) < (n : Int) := by omega
        obtain rfl : i = n := by omega
        simp only [go_sem, ↓reduceIte, r129_1, tl, t0, t1, t2, t3, t11, t12, hltI]
        refine ⟨x', w, go', ?_⟩
        rw [comps, find_range_none hnf]
        simpa using r'
    · refine ⟨0, by omega, by omega, ?_⟩
      simp only [go_sem, ↓reduceIte, tl, t0, t1, t2, t3]
      exact ⟨x, gd, go, rw', fun a ha => by omega⟩
end Go.Air
set_option maxRecDepth 100000
namespace Go.Air
open Go.Air.Try
theorem Rows.mono {h0 h1 h : H} {w : V} {xss : List (List Int)} (r : Rows h1 h w xss) (hn : h0.next ≤ h1.next) : Rows h0 h w xss := by
  obtain ⟨cs, o, hc⟩ := r
  refine ⟨cs, o.mono hn, fun j xs hj => ?_⟩
  obtain ⟨c, q1, q2, q3, q4⟩ := hc j xs hj
  exact ⟨c, q1, q2, by omega, q4⟩
theorem t120 : tblA 120 = some a120 := by kernel_rfl
theorem fn_components {h : H} {wb n : Nat} {e r : Nat → Nat → Bool} (hn : n ≤ 24) (hw : wb < h.next) (g : h.get wb = some (.cells (webC (n : Int) e r))) :
    WC tblA (.fn 120 [] []) [.p wb 0] h fun u h' => Ext h h' ∧ Rows h h' u (comps r n n noneD) := by
  refine (WC_in t120).2 ?_
  simp only [go_sem, ↓reduceIte, r120_0, r120_1, r120_2, r120_3, r120_4, H.next_new]
  have e1 : Ext h ((((h.new (.cells [.p wb 0])).new (.cells [.sn])).new (.cells (List.replicate 24 (.b false)))).new (.cells [.fnil])) := ((((Ext.refl h).new _).new _).new _).new _
  have g1 : ((((h.new (.cells [.p wb 0])).new (.cells [.sn])).new (.cells (List.replicate 24 (.b false)))).new (.cells [.fnil])).get h.next = some (.cells [.p wb 0]) := by
    rw [H.get_new, if_neg (by simp <;> omega), H.get_new, if_neg (by simp <;> omega), H.get_new, if_neg (by simp <;> omega), H.get_new, if_pos rfl]
  have g2 : ((((h.new (.cells [.p wb 0])).new (.cells [.sn])).new (.cells (List.replicate 24 (.b false)))).new (.cells [.fnil])).get (h.next + 1) = some (.cells [.sn]) := by
    rw [H.get_new, if_neg (by simp <;> omega), H.get_new, if_neg (by simp <;> omega), H.get_new, if_pos (by simp)]
  have g3 : ((((h.new (.cells [.p wb 0])).new (.cells [.sn])).new (.cells (List.replicate 24 (.b false)))).new (.cells [.fnil])).get (h.next + 1 + 1) = some (.cells (cells24 noneD)) := by
    rw [H.get_new, if_neg (by simp <;> omega), H.get_new, if_pos (by simp), cells24_zero]
  have g4 : ((((h.new (.cells [.p wb 0])).new (.cells [.sn])).new (.cells (List.replicate 24 (.b false)))).new (.cells [.fnil])).get (h.next + 1 + 1 + 1) = some (.cells [.fnil]) := by
    rw [H.get_new, if_pos (by simp)]
  have nx : ((((h.new (.cells [.p wb 0])).new (.cells [.sn])).new (.cells (List.replicate 24 (.b false)))).new (.cells [.fnil])).next = h.next + 1 + 1 + 1 + 1 := by simp
  generalize ((((h.new (.cells [.p wb 0])).new (.cells [.sn])).new (.cells (List.replicate 24 (.b false)))).new (.cells [.fnil])) = h1 at *
  have hst := st_ref (v := .fn 129 [] [.p h.next 0, .p (h.next + 1 + 1) 0, .p (h.next + 1) 0, .p (h.next + 1 + 1 + 1) 0]) g4 rfl rfl
  simp only [go_sem, ↓reduceIte, hst]
  have x2 : ExtX (· = h.next + 1 + 1 + 1) h1 (h1.put (h.next + 1 + 1 + 1) (.cells [.fn 129 [] [.p h.next 0, .p (h.next + 1 + 1) 0, .p (h.next + 1) 0, .p (h.next + 1 + 1 + 1) 0]])) := (ExtX.refl (· = h.next + 1 + 1 + 1) h1).put (.inr rfl) _
  have e2 : Ext h (h1.put (h.next + 1 + 1 + 1) (.cells [.fn 129 [] [.p h.next 0, .p (h.next + 1 + 1) 0, .p (h.next + 1) 0, .p (h.next + 1 + 1 + 1) 0]])) := e1.put (by omega) _
  have g4' : (h1.put (h.next + 1 + 1 + 1) (.cells [.fn 129 [] [.p h.next 0, .p (h.next + 1 + 1) 0, .p (h.next + 1) 0, .p (h.next + 1 + 1 + 1) 0]])).get (h.next + 1 + 1 + 1) = some (.cells [.fn 129 [] [.p h.next 0, .p (h.next + 1 + 1) 0, .p (h.next + 1) 0, .p (h.next + 1 + 1 + 1) 0]]) := by rw [H.get_put, if_pos rfl]
  have n2 : (h1.put (h.next + 1 + 1 + 1) (.cells [.fn 129 [] [.p h.next 0, .p (h.next + 1 + 1) 0, .p (h.next + 1) 0, .p (h.next + 1 + 1 + 1) 0]])).next = h1.next := by simp
  replace g1 := x2.get (by omega) (by omega) g1
  replace g2 := x2.get (by omega) (by omega) g2
  replace g3 := x2.get (by omega) (by omega) g3
  have g5 := e2.get hw g
  generalize h1.put (h.next + 1 + 1 + 1) (.cells [.fn 129 [] [.p h.next 0, .p (h.next + 1 + 1) 0, .p (h.next + 1) 0, .p (h.next + 1 + 1 + 1) 0]]) = h2 at *
  have lf : ldV h2 (.p (h.next + 1 + 1 + 1) 0) = some (.fn 129 [] [.p h.next 0, .p (h.next + 1 + 1) 0, .p (h.next + 1) 0, .p (h.next + 1 + 1 + 1) 0]) := blk_ld g4' rfl
  simp only [go_sem, ↓reduceIte, r120_5, lf]
  have p : NPre h2 h.next (h.next + 1 + 1) (h.next + 1) (h.next + 1 + 1 + 1) wb n e r := ⟨by omega, by omega, by omega, by omega, by omega, by omega, by omega, by omega, by omega, g1, g4', g5⟩
  refine (fn_next129 hn p n h2 noneD .sn [] (by rw [undone_none]; exact Nat.le_refl _) (.refl _ _) g3 g2 .nil (by simp; omega)).mono ?_
  rintro _ h3 ⟨x3, w, g3', r3⟩
  have e3 : Ext h h3 := x3.ext e2 (fun b hb => by omega)
  have l3 : ldV h3 (.p (h.next + 1) 0) = some w := blk_ld g3' rfl
  simp only [go_sem, ↓reduceIte, r120_6, l3]
  exact ⟨e3, r3.mono (by omega)⟩
noncomputable def compsR (N : Int) (rs : List Arw) : List (List Int) := if checkS N rs = 0 then comps (rch (eA rs)) N.toNat N.toNat noneD else []
def big (l : List Int) : Bool := decide (2 ≤ l.length)
noncomputable def circR (N : Int) (rs : List Arw) : List (List Int) := (compsR N rs).filter big
theorem t87 : tblA 87 = some a87 := by kernel_rfl
theorem fn_Components {h : H} {N : Int} {v : V} {rs : List Arw} (hr : Arrs h v rs) (hrn : rs.length ≤ 1000000) : WC tblA (.fn 87 [] []) [.agg [.i .i64 N, v]] h fun u h' => Ext h h' ∧ Rows h h' u (compsR N rs) := by
  refine (WC_in t87).2 ?_
  obtain ⟨e0, g0⟩ := rel_blk h N v
  simp only [go_sem, ↓reduceIte, r87_0]
  have hr0 := hr.ext e0
  have n0 := e0.nx
  generalize hh : h.new (.cells [.i .i64 N, v]) = h0 at *
  have l0 : ldnV h0 2 (.p h.next 0) = some (.agg [.i .i64 N, v]) := blk_ldn g0 rfl
  simp only [go_sem, ↓reduceIte, r87_1, l0]
  refine (fn_open hr0 hrn).mono ?_
  rintro u h1 ⟨e1, hu⟩
  by_cases hc : checkS N rs = 0
  · rw [if_pos hc] at hu
    obtain ⟨wb, n, rfl, rfl, hw1, hw2, gw⟩ := hu
    obtain ⟨n', hn', hn24, _⟩ := check_ok hc
    have hn : n ≤ 24 := by omega
    simp only [go_sem, ↓reduceIte, r87_2, r87_4]
    refine (fn_components hn hw2 gw).mono ?_
    rintro u h2 ⟨e2, r2⟩
    simp only [go_sem, ↓reduceIte]
    refine ⟨e0.trans (e1.trans e2), ?_⟩
    rw [compsR, if_pos hc]
    exact r2.mono (e0.trans e1).nx
  · rw [if_neg hc] at hu
    subst hu
    simp only [go_sem, ↓reduceIte, r87_2, r87_3]
    refine ⟨e0.trans e1, ?_⟩
    rw [compsR, if_neg hc]
    exact .nil
theorem t88 : tblA 88 = some a88 := by kernel_rfl
theorem fn_small {h : H} {v : V} {xs : List Int} (hs : Ints h v xs) : WC tblA (.fn 88 [] []) [v] h fun u h' => h' = h ∧ u = .b (!big xs) := by
  refine (WC_in t88).2 ?_
  have hb : (decide ((xs.length : Int) < 2)) = !big xs := by
    unfold big
    rw [Bool.eq_iff_iff]
    simp
    omega
  simp only [go_sem, ↓reduceIte, r88_0, r88_1, hs.len, hb]
theorem LL.ld2 {h : H} {v : V} {xss : List (List Int)} {cs : List V} (s : Sl 1 h v xss.length cs) {i : Nat} {c : V} (hc : cs[i]? = some c) (hi : i < xss.length) : ldV h (.p (blkV v) (offV v + i * 1)) = some c := by rw [s.ld1 hi, hc]
theorem t118 : tblA 118 = some a118 := by kernel_rfl
theorem fn_IndexSmall {h : H} {v : V} {xss : List (List Int)} (hs : LL h v xss) (hn : xss.length ≤ 1000000) : WC tblA (.fn 118 [] []) [v, .fn 88 [] []] h fun u h' => h' = h ∧
    ((u = .i .i64 (-1) ∧ ∀ xs ∈ xss, big xs = true) ∨ ∃ i : Nat, u = .i .i64 (i : Int) ∧ i < xss.length ∧ (∀ xs ∈ xss.take i, big xs = true) ∧ ∃ xs, xss[i]? = some xs ∧ big xs = false) := by
  refine (WC_in t118).2 ?_
  simp only [go_sem, ↓reduceIte, r118_0, r118_1, hs.len]
  refine W_while (fun k t h' => ∃ i, k = xss.length - i ∧ i ≤ xss.length ∧ t.length = 19 ∧ nth t 0 = v ∧ nth t 1 = .fn 88 [] [] ∧ nth t 7 = .i .i64 (xss.length : Int) ∧ nth t 8 = .i .i64 (i : Int) ∧ h' = h ∧ ∀ xs ∈ xss.take i, big xs = true) ?_ xss.length ?_
  · rintro k t _ ⟨i, rfl, hi, tl, t0, t1, t7, t8, rfl, ha⟩
    unfold b118_0
    by_cases hlt : i < xss.length
    · have hltI : (i : Int) < (xss.length : Int) := by omega
      obtain ⟨xs, hx⟩ : ∃ xs, xss[i]? = some xs := ⟨_, List.getElem?_eq_getElem hlt⟩
      obtain ⟨c, hl, hi1⟩ := hs.ld hx
      simp only [go_sem, ↓reduceIte, r118_2, r118_3, r118_4, tl, t0, t1, t7, t8, hltI, hs.ix hlt, hl]
      refine (fn_small hi1).mono ?_
      rintro _ _ ⟨rfl, rfl⟩
      cases hb : big xs
      · simp only [go_sem, ↓reduceIte, r118_5, tl]
        exact .inr ⟨i, rfl, hlt, ha, xs, hx, hb⟩
      · simp only [go_sem, ↓reduceIte, r118_6, tl, t0, t1, t7, t8, wrap_succ (show i < 1000000000 by omega)]
        refine ⟨xss.length - (i + 1), by omega, i + 1, rfl, hlt, rfl, ?_⟩
        rw [take_succ' hx]
        intro ys hy
        rcases List.mem_append.1 hy with hy | hy
        · exact ha ys hy
        · simp at hy; subst hy; exact hb
    · have hltI : ¬ (i : Int) < (xss.length : Int) := by omega
      simp only [go_sem, ↓reduceIte, r118_2, r118_7, tl, t0, t1, t7, t8, hltI]
      rw [List.take_of_length_le (by omega)] at ha
      exact .inl ha
  · refine ⟨0, by omega, by omega, ?_⟩
    simp only [go_sem, ↓reduceIte, List.take_zero]
    simp
def clrR (h : H) (z : List V) : V → RO
  | .sn => .ok .undef h
  | .sl b o n _ _ => if Nat.beq n 0 then .ok .undef h else match storeAt h b o (rep z n) with
      | some h' => .ok .undef h'
      | none => .fail
  | _ => .fail
@[go_sem ↓] theorem wa_clr {tbl : Nat → Option FI} {z : List V} {x : X} {t : List V} {h : H} {S : V → H → Prop} : WA tbl (.clr z x) t h S ↔ ROk (clrR h z (x.ev t)) S := by
  refine WA_of rfl ?_
  simp only [evA, clrR]
  cases x.ev t <;> rfl
theorem slLo_sm {b n i : Nat} {g : Option Nat} (hg : g = none ∨ g = some 1) (hi : i < n) : slLo 1 (.sl b 0 n n g) (.i .i64 (i : Int)) = some (.sl b (0 + i * 1) (n - i) (n - i) g) := by
  have hb : bounds [V.i .i64 (i : Int)] n n (some (.t 0)) none = some (i, n) := bounds_lo rfl (Nat.le_refl _) (by omega)
  have h1 : Nat.beq i n = false := beq_ne (by omega)
  have h2 : Nat.blt i n = true := by rw [Nat.blt_eq]; exact hi
  rcases hg with rfl | rfl
  · simp only [slLo, sliceV, hb, h1, Bool.false_eq_true, if_false]
  · simp only [slLo, sliceV, hb, h2]
    simp
theorem slHi_sm {b n i : Nat} {g : Option Nat} (hg : g = none ∨ g = some 1) (hi : i < n) : slHi 1 (.sl b 0 n n g) (.i .i64 (i : Int)) = some (.sl b 0 i n g) := by
  have hb : bounds [V.i .i64 (i : Int)] n n none (some (.t 0)) = some (0, i) := bounds_hi rfl (by omega)
  have h1 : Nat.beq 0 n = false := beq_ne (by omega)
  have h2 : Nat.blt 0 n = true := by rw [Nat.blt_eq]; omega
  rcases hg with rfl | rfl
  · simp only [slHi, sliceV, hb, h1, Bool.false_eq_true, if_false]
    simp
  · simp only [slHi, sliceV, hb, h2]
    simp
def stay (cs : List V) (xss : List (List Int)) (j : Nat) : List (V × List Int) := ((cs.zip xss).take j).filter fun p => big p.2
theorem stay_snd {cs : List V} {xss : List (List Int)} (hl : cs.length = xss.length) : (stay cs xss xss.length).map Prod.snd = xss.filter big := by
  unfold stay
  rw [List.take_of_length_le (by simp; omega)]
  have : (fun p : V × List Int => big p.2) = big ∘ Prod.snd := rfl
  rw [this, ← List.filter_map, List.map_snd_zip (by omega)]
theorem stay_succ {cs : List V} {xss : List (List Int)} {j : Nat} {c : V} {xs : List Int} (hc : cs[j]? = some c) (hx : xss[j]? = some xs) : stay cs xss (j + 1) = stay cs xss j ++ if big xs = true then [(c, xs)] else [] := by
  unfold stay
  have : (cs.zip xss)[j]? = some (c, xs) := by rw [List.getElem?_zip_eq_some]; exact ⟨hc, hx⟩
  rw [take_succ' this, List.filter_append]
  congr 1
  cases h : big xs <;> simp [h]
theorem stay_first {cs : List V} {xss : List (List Int)} {i : Nat} (hl : cs.length = xss.length) (hi : i ≤ xss.length) (h : ∀ xs ∈ xss.take i, big xs = true) : stay cs xss i = (cs.zip xss).take i := by
  unfold stay
  rw [List.filter_eq_self]
  intro p hp
  refine h p.2 ?_
  rw [← List.map_snd_zip (l₁ := cs) (l₂ := xss) (by omega), ← List.map_take]
  exact List.mem_map.2 ⟨p, hp, rfl⟩
theorem st_any {h : H} {b k : Nat} {cs : List V} {x : V} (hg : h.get b = some (.cells cs)) (h1 : x.cells = [x]) (h2 : x.oneCell = true) (hk : k < cs.length) : stV h 1 (.p b (0 + k * 1)) x = some (h.put b (.cells (cs.set k x))) := by
  have hl := lay_one cs k x hk
  simp [stV, h1, storeAt, hg, hl, h2]
theorem Ints.one {h : H} {v : V} {xs : List Int} (s : Ints h v xs) : v.cells = [v] ∧ v.oneCell = true := arg_cells s
theorem t86 : tblA 86 = some a86 := by kernel_rfl
theorem fn_DeleteSmall {h0 h : H} {v : V} {xss : List (List Int)} (hs : Rows h0 h v xss) (e0 : Ext h0 h) (hn : xss.length ≤ 1000) : WC tblA (.fn 86 [] []) [v, .fn 88 [] []] h fun u h' => Ext h0 h' ∧ LL h' u (xss.filter big) := by
  refine (WC_in t86).2 ?_
  simp only [go_sem, ↓reduceIte, r86_0, r86_1]
  refine (fn_IndexSmall hs.ll (by omega)).mono ?_
  rintro u h' ⟨hh, hu⟩
  obtain rfl : h = h' := hh.symm
  rcases hu with ⟨rfl, hall⟩ | ⟨i0, rfl, hi0, hall, xs0, hx0, hb0⟩
  · simp only [go_sem, ↓reduceIte, r86_2, r86_3]
    refine ⟨e0, ?_⟩
    rw [List.filter_eq_self.2 hall]
    exact hs.ll
  obtain ⟨cs, ⟨hl, ⟨hz, _⟩ | ⟨b, g, rfl, hg, hb1, hb2, gb⟩⟩, hc⟩ := hs
  · omega
  have hneg : ¬ (i0 : Int) = -1 := by omega
  have hcl : cs.length = xss.length := by omega
  simp only [go_sem, ↓reduceIte, r86_2, r86_4, hneg, wrap_succ (show i0 < 1000000000 by omega)]
  refine W_while (fun k t h' => ∃ (i j : Nat) (ds : List V), k = xss.length - j ∧ j ≤ xss.length ∧ i < j ∧ t.length = 42 ∧ nth t 0 = .sl b 0 xss.length xss.length g ∧ nth t 1 = .fn 88 [] [] ∧ nth t 5 = .i .i64 (i : Int) ∧ nth t 6 = .i .i64 (j : Int) ∧ ExtX (· = b) h h' ∧ h'.get b = some (.cells ds) ∧
      ds.length = xss.length ∧ i = (stay cs xss j).length ∧ ds.take i = (stay cs xss j).map Prod.fst ∧ ∀ m, j ≤ m → ds[m]? = cs[m]?) ?_ (xss.length - (i0 + 1)) ?_
  · rintro k t h' ⟨i, j, ds, rfl, hj, hij, tl, t0, t1, t5, t6, x', g', hdl, hi, htk, hds⟩
    unfold b86_0
    by_cases hlt : j < xss.length
    · have hltI : (j : Int) < (xss.length : Int) := by omega
      obtain ⟨xs, hx⟩ : ∃ xs, xss[j]? = some xs := ⟨_, List.getElem?_eq_getElem hlt⟩
      obtain ⟨c, hcj, ic, c1, c2, c3⟩ := hc j xs hx
      have hcb : blkV c ≠ b := by
        rcases c3 with q | q
        · cases q
        · exact q
      have ic' : Ints h' c xs := Sl.keepX (X := (· = b)) ic x' (.inr (.inr hcb))
      have hld : ldV h' (.p b (0 + j * 1)) = some c := blk_ld g' (by rw [show 0 + j * 1 = j by omega, hds j (Nat.le_refl _), hcj])
      simp only [go_sem, ↓reduceIte, r86_5, r86_7, r86_8, tl, t0, t1, t5, t6, hltI, ix_own hlt, hld]
      refine (fn_small ic').mono ?_
      rintro _ _ ⟨rfl, rfl⟩
      have hst := stay_succ hcj hx
      cases hb : big xs
      · rw [hb] at hst
        simp only [Bool.false_eq_true, if_false, List.append_nil] at hst
        simp only [go_sem, ↓reduceIte, r86_6, tl, t0, t1, t5, t6, wrap_succ (show j < 1000000000 by omega)]
        exact ⟨xss.length - (j + 1), by omega, i, j + 1, ds, rfl, hlt, by omega, rfl, rfl, x', g', hdl, by rw [hst]; exact hi, by rw [hst]; exact htk, fun m hm => hds m (by omega)⟩
      · rw [hb, if_pos rfl] at hst
        have hone := ic'.one
        have hsv := st_any (k := i) g' hone.1 hone.2 (by omega)
        simp only [go_sem, ↓reduceIte, r86_6, r86_9, r86_10, tl, t0, t1, t5, t6, ix_own (show i < xss.length by omega), hsv, wrap_succ (show j < 1000000000 by omega), wrap_succ (show i < 1000000000 by omega)]
        refine ⟨xss.length - (j + 1), by omega, i + 1, j + 1, ds.set i c, rfl, hlt, by omega, rfl, rfl, x'.put (.inr rfl) _, by rw [H.get_put, if_pos rfl], by simpa using hdl, by rw [hst]; simp [hi], ?_, fun m hm => ?_⟩
        · rw [hst, List.map_append, ← htk, take_succ' (x := c) (by rw [List.getElem?_set]; simp; omega)]
          congr 1
          rw [List.take_set_of_le (Nat.le_refl _)]
        · rw [List.getElem?_set, if_neg (by omega)]
          exact hds m (by omega)
    · have hltI : ¬ (j : Int) < (xss.length : Int) := by omega
      obtain rfl : j = xss.length := by omega
      have hin : i < xss.length := by omega
      have hrep : rep [V.sn] (xss.length - i) = List.replicate (xss.length - i) .sn := rep_one _ _
      have hlay : lay ds (0 + i * 1) (rep [V.sn] (xss.length - i)) = some (ds.take i ++ List.replicate (xss.length - i) .sn) := by
        rw [hrep]
        refine lay_of (by simp; omega) (by simp; omega) (fun m hm => ?_)
        by_cases hmi : m < i
        · rw [List.getElem?_append_left (by simp; omega), List.getElem?_take_of_lt hmi, if_neg (by omega)]
        · rw [List.getElem?_append_right (by simp; omega), if_pos (by simp; omega)]
          congr 1
          simp; omega
      have hb0' : Nat.beq (xss.length - i) 0 = false := beq_ne (by omega)
      have hclr : clrR h' [V.sn] (.sl b (0 + i * 1) (xss.length - i) (xss.length - i) g) = .ok .undef (h'.put b (.cells (ds.take i ++ List.replicate (xss.length - i) .sn))) := by
        have hall1 : (rep [V.sn] (xss.length - i)).all V.oneCell = true := by rw [hrep]; simp [V.oneCell]
        simp only [clrR, hb0', Bool.false_eq_true, if_false, storeAt, g', hlay, hall1, if_true]
      simp only [go_sem, ↓reduceIte, r86_5, r86_11, r86_12, tl, t0, t1, t5, t6, hltI, slLo_sm hg hin, slHi_sm hg hin, hclr]
      have xf : ExtX (· = b) h (h'.put b (.cells (ds.take i ++ List.replicate (xss.length - i) .sn))) := x'.put (.inr rfl) _
      refine ⟨xf.ext e0 (fun q hq => by subst hq; exact hb1), (stay cs xss xss.length).map Prod.fst, ?_, ?_⟩
      · rw [← stay_snd hcl, List.length_map, ← hi]
        refine .inr ⟨b, 0, _, g, .cells (ds.take i ++ List.replicate (xss.length - i) .sn), rfl, Nat.lt_of_lt_of_le hb2 xf.nx, by rw [H.get_put, if_pos rfl], ?_⟩
        refine cut_eq.2 ⟨by simp; omega, ?_⟩
        rw [← htk, List.drop_zero, Nat.mul_one, List.take_append_of_le_length (by simp; omega), List.take_take]
        simp
      · intro m xs hm
        rw [← stay_snd hcl, List.getElem?_map] at hm
        obtain ⟨p, hp, hpx⟩ := Option.map_eq_some_iff.1 hm
        refine ⟨p.1, by rw [List.getElem?_map, hp]; rfl, ?_⟩
        have hmem : p ∈ cs.zip xss := by
          have := List.mem_of_getElem? hp
          unfold stay at this
          exact List.mem_of_mem_take (List.mem_filter.1 this).1
        obtain ⟨q, hq⟩ := List.getElem?_of_mem hmem
        have hq2 : cs[q]? = some p.1 ∧ xss[q]? = some p.2 := by
          rw [← List.getElem?_zip_eq_some]; exact hq
        obtain ⟨c, hcq, ic, _, _, c3⟩ := hc q p.2 hq2.2
        rw [hq2.1] at hcq
        cases hcq
        rw [← hpx]
        refine Sl.keepX (X := (· = b)) ic xf (.inr (.inr ?_))
        rcases c3 with z | z
        · cases z
        · exact z
  · have hf := stay_first (cs := cs) hcl (by omega) hall
    have hcs0 : ∃ c0, cs[i0]? = some c0 := ⟨_, List.getElem?_eq_getElem (by omega)⟩
    obtain ⟨c0, hc0⟩ := hcs0
    have hs1 := stay_succ hc0 hx0
    rw [hb0] at hs1
    simp only [Bool.false_eq_true, if_false, List.append_nil] at hs1
    have hlen : ((cs.zip xss).take i0).length = i0 := by simp; omega
    refine ⟨i0, i0 + 1, cs, rfl, by omega, by omega, ?_⟩
    simp only [go_sem, ↓reduceIte, hs1, hf, hlen]
    refine ⟨.refl _ _, gb, hcl, ?_, fun m hm => trivial⟩
    rw [List.map_take, List.map_fst_zip (by omega)]
theorem compsR_len {N : Int} {rs : List Arw} : (compsR N rs).length ≤ 24 ∧ ∀ l ∈ compsR N rs, l.length ≤ 24 := by
  unfold compsR
  split
  · rename_i hc
    obtain ⟨n, rfl, hn, _⟩ := check_ok hc
    have : ∀ (k : Nat) (d : Nat → Bool), (comps (rch (eA rs)) n k d).length ≤ k ∧ ∀ l ∈ comps (rch (eA rs)) n k d, l.length ≤ n := by
      intro k
      induction k with
      | zero => intro d; simp [comps]
      | succ k ih =>
        intro d
        rw [comps]
        split
        · simp
        · rename_i a _
          obtain ⟨h1, h2⟩ := ih (addS d (mate (rch (eA rs)) n a))
          refine ⟨by simp; exact h1, fun l hl => ?_⟩
          rcases List.mem_cons.1 hl with rfl | hl
          · exact setL_len _ _
          · exact h2 l hl
    have := this n noneD
    simp only [Int.toNat_natCast]
    exact ⟨by omega, fun l hl => by have := this.2 l hl; omega⟩
  · simp
theorem circR_len {N : Int} {rs : List Arw} : (circR N rs).length ≤ 24 ∧ ∀ l ∈ circR N rs, l.length ≤ 24 :=
  ⟨Nat.le_trans (List.length_filter_le _ _) compsR_len.1, fun l hl => compsR_len.2 l (List.mem_filter.1 hl).1⟩
theorem t39 : tblA 39 = some a39 := by kernel_rfl
theorem fn_Circles {h : H} {N : Int} {v : V} {rs : List Arw} (hr : Arrs h v rs) (hrn : rs.length ≤ 1000000) : WC tblA (.fn 39 [] []) [.agg [.i .i64 N, v]] h fun u h' => Ext h h' ∧ LL h' u (circR N rs) := by
  refine (WC_in t39).2 ?_
  obtain ⟨e0, g0⟩ := rel_blk h N v
  simp only [go_sem, ↓reduceIte, r39_0]
  have hr0 := hr.ext e0
  generalize hh : h.new (.cells [.i .i64 N, v]) = h0 at *
  have l0 : ldnV h0 2 (.p h.next 0) = some (.agg [.i .i64 N, v]) := blk_ldn g0 rfl
  simp only [go_sem, ↓reduceIte, r39_1, l0]
  refine (fn_Components hr0 hrn).mono ?_
  rintro u h1 ⟨e1, r1⟩
  simp only [go_sem, ↓reduceIte]
  refine (fn_DeleteSmall r1 e1 (by have := (compsR_len (N := N) (rs := rs)).1; omega)).mono ?_
  rintro u2 h2 ⟨e2, s2⟩
  simp only [go_sem, ↓reduceIte]
  exact ⟨e0.trans e2, s2⟩
def circE (l : List (List Int)) : Int := if ∃ c ∈ l, 10 < c.length then 40 else 0
theorem t67 : tblA 67 = some a67 := by kernel_rfl
theorem fn_circles {h : H} {N : Int} {v : V} {rs : List Arw} (hr : Arrs h v rs) (hrn : rs.length ≤ 1000000) : WC tblA (.fn 67 [] []) [.agg [.i .i64 N, v]] h fun u h' => Ext h h' ∧ ∃ w, u = .tup [w, .i .i64 (circE (circR N rs))] ∧ (circE (circR N rs) = 0 → LL h' w (circR N rs)) := by
  refine (WC_in t67).2 ?_
  obtain ⟨e0, g0⟩ := rel_blk h N v
  simp only [go_sem, ↓reduceIte, r67_0]
  have hr0 := hr.ext e0
  generalize hh : h.new (.cells [.i .i64 N, v]) = h0 at *
  have l0 : ldnV h0 2 (.p h.next 0) = some (.agg [.i .i64 N, v]) := blk_ldn g0 rfl
  simp only [go_sem, ↓reduceIte, r67_1, l0]
  refine (fn_Circles hr0 hrn).mono ?_
  rintro u h1 ⟨e1, s1⟩
  have hlen := circR_len (N := N) (rs := rs)
  generalize circR N rs = xss at *
  simp only [go_sem, ↓reduceIte, r67_2, s1.len]
  refine W_while (fun k t h' => ∃ i, k = xss.length - i ∧ i ≤ xss.length ∧ t.length = 20 ∧ nth t 4 = u ∧ nth t 9 = u ∧ nth t 10 = .i .i64 (xss.length : Int) ∧ nth t 11 = .i .i64 (i : Int) ∧ h' = h1 ∧ ∀ c ∈ xss.take i, ¬ 10 < c.length) ?_ xss.length ?_
  · rintro k t _ ⟨i, rfl, hi, tl, t4, t9, t10, t11, rfl, ha⟩
    unfold b67_0
    by_cases hlt : i < xss.length
    · have hltI : (i : Int) < (xss.length : Int) := by omega
      obtain ⟨xs, hx⟩ : ∃ xs, xss[i]? = some xs := ⟨_, List.getElem?_eq_getElem hlt⟩
      obtain ⟨c, hl, hi1⟩ := s1.ld hx
      by_cases hb : 10 < xs.length
      · have hbI : (10 : Int) < (xs.length : Int) := by omega
        simp only [go_sem, ↓reduceIte, r67_3, r67_4, r67_5, r67_6, tl, t4, t9, t10, t11, hltI, s1.ix hlt, hl, hi1.len, hbI]
        have : circE xss = 40 := by rw [circE, if_pos ⟨xs, List.mem_of_getElem? hx, hb⟩]
        rw [this]
        exact ⟨e0.trans e1, .sn, rfl, fun q => by omega⟩
      · have hbI : ¬ (10 : Int) < (xs.length : Int) := by omega
        simp only [go_sem, ↓reduceIte, r67_3, r67_4, r67_5, r67_7, tl, t4, t9, t10, t11, hltI, s1.ix hlt, hl, hi1.len, hbI, wrap_succ (show i < 1000000000 by omega)]
        refine ⟨xss.length - (i + 1), by omega, i + 1, rfl, hlt, rfl, ?_⟩
        rw [take_succ' hx]
        intro ys hy
        rcases List.mem_append.1 hy with hy | hy
        · exact ha ys hy
        · simp at hy; subst hy; exact hb
    · have hltI : ¬ (i : Int) < (xss.length : Int) := by omega
      simp only [go_sem, ↓reduceIte, r67_3, r67_8, tl, t4, t9, t10, t11, hltI]
      rw [List.take_of_length_le (by omega)] at ha
      have : circE xss = 0 := by rw [circE, if_neg]; rintro ⟨c, h1, h2⟩; exact ha c h1 h2
      rw [this]
      exact ⟨e0.trans e1, u, rfl, fun _ => s1⟩
  · refine ⟨0, by omega, by omega, ?_⟩
    simp only [go_sem, ↓reduceIte, List.take_zero]
    simp
end Go.Air
