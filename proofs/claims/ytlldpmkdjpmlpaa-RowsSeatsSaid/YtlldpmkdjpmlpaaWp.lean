/-
  A calculus over Air's evaluator: W c t h Q says that with enough fuel the piece of code c ends, and Q holds of how, of the temporaries and of the heap. Each form of code has its equation.
-/
import Derived.Test.YtlldpmkdjpmlpaaAir
set_option linter.unusedSectionVars false
set_option linter.unusedVariables false
set_option linter.unusedSimpArgs false
namespace Go.Air

/-! ### More fuel, the same answer -/
def RC.le (a b : RC) : Prop := a = .fail ∨ a = b
def RO.le (a b : RO) : Prop := a = .fail ∨ a = b
def RL.le (a b : RL) : Prop := a = .fail ∨ a = b
def RD.le (a b : RD) : Prop := a = .fail ∨ a = b

section
variable {tbl : Nat → Option FI} {r r' : C → List V → H → RC}

theorem callV_mono (hr : ∀ c t h, (r c t h).le (r' c t h)) (f : V) (args : List V) (h : H) : (callV tbl r f args h).le (callV tbl r' f args h) := by
  cases f <;> try exact .inr rfl
  case fn g first caps =>
    unfold callV
    simp only
    cases tbl g with
    | none => exact .inr rfl
    | some fi =>
      simp only
      rcases hr fi.body (pad (first ++ args ++ caps) fi.ntmps) h with e | e
      · rw [e]; exact .inl rfl
      · rw [e]; exact .inr rfl
  case yld l =>
    unfold callV
    simp only
    cases h.get l with
    | none => exact .inr rfl
    | some bl =>
      cases bl <;> try exact .inr rfl
      rename_i lp
      simp only
      by_cases hl : Nat.beq args.length lp.params.length = true
      · rw [if_pos hl, if_pos hl]
        rcases hr lp.asg (updAll lp.tmps lp.params args) h with e | e
        · rw [e]; exact .inl rfl
        · rw [e]
          cases hb : r' lp.asg (updAll lp.tmps lp.params args) h with
          | fail => exact .inr rfl
          | ok o t h1 =>
            cases o <;> try exact .inr rfl
            simp only
            cases h1.get l with
            | none => exact .inr rfl
            | some bl =>
              cases bl <;> try exact .inr rfl
              rename_i lp1
              simp only
              split
              · rcases hr lp.body t (h1.put l (.loop { lp1 with state := .busy })) with e | e
                · rw [e]; exact .inl rfl
                · rw [e]; exact .inr rfl
              · exact .inr rfl
      · rw [if_neg hl, if_neg hl]; exact .inr rfl

theorem evA_mono {call call' : V → List V → H → RO} (hc : ∀ f args h, (call f args h).le (call' f args h)) (op : A) (t : List V) (h : H) : (evA call op t h).le (evA call' op t h) := by
  cases op <;> first | exact .inr rfl | exact hc _ _ _

theorem runOps_mono {call call' : V → List V → H → RO} (hc : ∀ f args h, (call f args h).le (call' f args h)) : ∀ (l : List O) (t : List V) (h : H), (runOps call l t h).le (runOps call' l t h)
  | [], _, _ => .inr rfl
  | o :: l, t, h => by
    unfold runOps
    split
    · rcases evA_mono hc o.op t h with e | e
      · rw [e]; exact .inl rfl
      · rw [e]
        split
        · exact runOps_mono hc l _ _
        · exact .inr rfl
    · exact runOps_mono hc l _ _

theorem runDraw_mono {call call' : V → List V → H → RO} (hc : ∀ f args h, (call f args h).le (call' f args h)) : ∀ (l : List O) (t : List V) (h : H) (f : List Foot), (runDraw call l t h f).le (runDraw call' l t h f)
  | [], _, _, _ => .inr rfl
  | o :: l, t, h, f => by
    unfold runDraw
    split
    · rcases evA_mono hc o.op t ⟨h.next, h.mem, []⟩ with e | e
      · rw [e]; exact .inl rfl
      · rw [e]
        split
        · exact runDraw_mono hc l _ _ _
        · exact .inr rfl
    · exact runDraw_mono hc l _ _ _

theorem stepC_mono (hr : ∀ c t h, (r c t h).le (r' c t h)) (c : C) (t : List V) (h : H) : (stepC tbl r c t h).le (stepC tbl r' c t h) := by
  have hc := fun f args h => callV_mono (tbl := tbl) hr f args h
  cases c <;> try exact .inr rfl
  case ops l =>
    unfold stepC
    simp only
    rcases runOps_mono hc l t h with e | e
    · rw [e]; exact .inl rfl
    · rw [e]; exact .inr rfl
  case draw l crit =>
    unfold stepC
    simp only
    rcases runDraw_mono hc l t h [] with e | e
    · rw [e]; exact .inl rfl
    · rw [e]; exact .inr rfl
  case seq a b =>
    unfold stepC
    simp only
    rcases hr a t h with e | e
    · rw [e]; exact .inl rfl
    · rw [e]
      cases r' a t h with
      | fail => exact .inr rfl
      | ok o t' h' => cases o <;> first | exact hr _ _ _ | exact .inr rfl
  case cond x a b =>
    unfold stepC
    simp only
    split
    · exact hr _ _ _
    · exact hr _ _ _
    · exact .inr rfl
  case block id a =>
    unfold stepC
    simp only
    rcases hr a t h with e | e
    · rw [e]; exact .inl rfl
    · rw [e]; exact .inr rfl
  case loop a =>
    unfold stepC
    simp only
    rcases hr a t h with e | e
    · rw [e]; exact .inl rfl
    · rw [e]
      cases r' a t h with
      | fail => exact .inr rfl
      | ok o t' h' => cases o <;> first | exact hr _ _ _ | exact .inr rfl
  case rangeF f ps asg body =>
    unfold stepC
    simp only
    split
    · rename_i g a c _
      rcases hc (.fn g a c) [.yld h.next] (h.new (.loop ⟨.ready, none, t, ps, asg, body⟩)) with e | e
      · rw [e]; exact .inl rfl
      · rw [e]; exact .inr rfl
    · exact .inr rfl
end

section
variable (tbl : Nat → Option FI)

theorem E_succ : ∀ k c t h, (E tbl k c t h).le (E tbl (k + 1) c t h)
  | 0, _, _, _ => .inl rfl
  | k + 1, c, t, h => stepC_mono (E_succ k) c t h
theorem E_le {k m : Nat} (hkm : k ≤ m) (c : C) (t : List V) (h : H) : (E tbl k c t h).le (E tbl m c t h) := by
  induction hkm with
  | refl => exact .inr rfl
  | step _ ih =>
    rcases ih with e | e
    · exact .inl e
    · rw [e]; exact E_succ tbl _ c t h
theorem E_up {k m : Nat} (hkm : k ≤ m) {c : C} {t : List V} {h : H} {o : Out} {t' : List V} {h' : H} (he : E tbl k c t h = .ok o t' h') : E tbl m c t h = .ok o t' h' := by
  rcases E_le tbl hkm c t h with e | e
  · rw [e] at he; cases he
  · rw [← e]; exact he
theorem call_up {k m : Nat} (hkm : k ≤ m) {f : V} {args : List V} {h h' : H} {v : V} (he : callV tbl (E tbl k) f args h = .ok v h') : callV tbl (E tbl m) f args h = .ok v h' := by
  rcases callV_mono (tbl := tbl) (E_le tbl hkm) f args h with e | e
  · rw [e] at he; cases he
  · rw [← e]; exact he
theorem evA_up {k m : Nat} (hkm : k ≤ m) {op : A} {t : List V} {h h' : H} {v : V} (he : evA (callV tbl (E tbl k)) op t h = .ok v h') : evA (callV tbl (E tbl m)) op t h = .ok v h' := by
  rcases evA_mono (callV_mono (tbl := tbl) (E_le tbl hkm)) op t h with e | e
  · rw [e] at he; cases he
  · rw [← e]; exact he
theorem ops_up {k m : Nat} (hkm : k ≤ m) {l : List O} {t t' : List V} {h h' : H} (he : runOps (callV tbl (E tbl k)) l t h = .ok t' h') : runOps (callV tbl (E tbl m)) l t h = .ok t' h' := by
  rcases runOps_mono (callV_mono (tbl := tbl) (E_le tbl hkm)) l t h with e | e
  · rw [e] at he; cases he
  · rw [← e]; exact he
theorem draw_up {k m : Nat} (hkm : k ≤ m) {l : List O} {t t' : List V} {h h' : H} {f f' : List Foot} (he : runDraw (callV tbl (E tbl k)) l t h f = .ok t' h' f') : runDraw (callV tbl (E tbl m)) l t h f = .ok t' h' f' := by
  rcases runDraw_mono (callV_mono (tbl := tbl) (E_le tbl hkm)) l t h f with e | e
  · rw [e] at he; cases he
  · rw [← e]; exact he

/-! ### The calculus -/
def W (c : C) (t : List V) (h : H) (Q : Out → List V → H → Prop) : Prop := ∃ k o t' h', E tbl k c t h = .ok o t' h' ∧ Q o t' h'
def WC (f : V) (args : List V) (h : H) (Q : V → H → Prop) : Prop := ∃ k v h', callV tbl (E tbl k) f args h = .ok v h' ∧ Q v h'
def WA (op : A) (t : List V) (h : H) (Q : V → H → Prop) : Prop := ∃ k v h', evA (callV tbl (E tbl k)) op t h = .ok v h' ∧ Q v h'
def WL (l : List O) (t : List V) (h : H) (Q : List V → H → Prop) : Prop := ∃ k t' h', runOps (callV tbl (E tbl k)) l t h = .ok t' h' ∧ Q t' h'
def WD (l : List O) (t : List V) (h : H) (f : List Foot) (Q : List V → H → List Foot → Prop) : Prop := ∃ k t' h' f', runDraw (callV tbl (E tbl k)) l t h f = .ok t' h' f' ∧ Q t' h' f'

variable {tbl} {t : List V} {h : H} {Q : Out → List V → H → Prop} {S : V → H → Prop}

theorem W.mono {c : C} {Q' : Out → List V → H → Prop} (hw : W tbl c t h Q) (hq : ∀ o t' h', Q o t' h' → Q' o t' h') : W tbl c t h Q' :=
  let ⟨k, o, t', h', e, q⟩ := hw; ⟨k, o, t', h', e, hq _ _ _ q⟩
theorem WC.mono {f : V} {args : List V} {S' : V → H → Prop} (hw : WC tbl f args h S) (hq : ∀ v h', S v h' → S' v h') : WC tbl f args h S' :=
  let ⟨k, v, h', e, q⟩ := hw; ⟨k, v, h', e, hq _ _ q⟩
theorem WA.mono {op : A} {S' : V → H → Prop} (hw : WA tbl op t h S) (hq : ∀ v h', S v h' → S' v h') : WA tbl op t h S' :=
  let ⟨k, v, h', e, q⟩ := hw; ⟨k, v, h', e, hq _ _ q⟩

theorem W_skip : W tbl .skip t h Q ↔ Q .norm t h :=
  ⟨fun ⟨k, o, t', h', e, q⟩ => by
    cases k with
    | zero => cases e
    | succ k => simp only [E, stepC, RC.ok.injEq] at e; obtain ⟨rfl, rfl, rfl⟩ := e; exact q,
   fun q => ⟨1, _, _, _, rfl, q⟩⟩
theorem W_exit {id : Nat} : W tbl (.exit id) t h Q ↔ Q (.exit id) t h :=
  ⟨fun ⟨k, o, t', h', e, q⟩ => by
    cases k with
    | zero => cases e
    | succ k => simp only [E, stepC, RC.ok.injEq] at e; obtain ⟨rfl, rfl, rfl⟩ := e; exact q,
   fun q => ⟨1, _, _, _, rfl, q⟩⟩
theorem W_ret : W tbl .ret t h Q ↔ Q .ret t h :=
  ⟨fun ⟨k, o, t', h', e, q⟩ => by
    cases k with
    | zero => cases e
    | succ k => simp only [E, stepC, RC.ok.injEq] at e; obtain ⟨rfl, rfl, rfl⟩ := e; exact q,
   fun q => ⟨1, _, _, _, rfl, q⟩⟩

theorem W_ops {l : List O} : W tbl (.ops l) t h Q ↔ WL tbl l t h fun t' h' => Q .norm t' h' :=
  ⟨fun ⟨k, o, t', h', e, q⟩ => by
    cases k with
    | zero => cases e
    | succ k =>
      simp only [E, stepC] at e
      split at e <;> simp only [RC.ok.injEq, reduceCtorEq] at e
      rename_i t1 h1 e1
      obtain ⟨rfl, rfl, rfl⟩ := e
      exact ⟨k, _, _, e1, q⟩,
   fun ⟨k, t', h', e, q⟩ => ⟨k + 1, .norm, t', h', by simp only [E, stepC, e], q⟩⟩
theorem W_draw {l : List O} {crit : List (Nat × Nat)} : W tbl (.draw l crit) t h Q ↔ WD tbl l t h [] fun t' h' f => critOk f crit = true ∧ Q .norm t' h' :=
  ⟨fun ⟨k, o, t', h', e, q⟩ => by
    cases k with
    | zero => cases e
    | succ k =>
      simp only [E, stepC] at e
      split at e <;> try simp only [reduceCtorEq] at e
      rename_i t1 h1 f1 e1
      split at e <;> simp only [RC.ok.injEq, reduceCtorEq] at e
      rename_i hc
      obtain ⟨rfl, rfl, rfl⟩ := e
      exact ⟨k, _, _, _, e1, hc, q⟩,
   fun ⟨k, t', h', f, e, hc, q⟩ => ⟨k + 1, .norm, t', h', by simp only [E, stepC, e, hc, if_true], q⟩⟩

theorem W_seq {a b : C} : W tbl (.seq a b) t h Q ↔ W tbl a t h fun o t' h' => match o with
    | .norm => W tbl b t' h' Q
    | .exit i => Q (.exit i) t' h'
    | .ret => Q .ret t' h' :=
  ⟨fun ⟨k, o, t', h', e, q⟩ => by
    cases k with
    | zero => cases e
    | succ k =>
      simp only [E, stepC] at e
      cases e1 : E tbl k a t h with
      | fail => rw [e1] at e; cases e
      | ok o1 t1 h1 =>
        rw [e1] at e
        refine ⟨k, o1, t1, h1, e1, ?_⟩
        cases o1 with
        | norm => exact ⟨k, _, _, _, e, q⟩
        | exit i => simp only [RC.ok.injEq] at e; obtain ⟨rfl, rfl, rfl⟩ := e; exact q
        | ret => simp only [RC.ok.injEq] at e; obtain ⟨rfl, rfl, rfl⟩ := e; exact q,
   fun ⟨k, o, t', h', e, q⟩ => by
    cases o with
    | norm =>
      obtain ⟨m, o2, t2, h2, e2, q2⟩ := q
      refine ⟨max k m + 1, o2, t2, h2, ?_, q2⟩
      simp only [E, stepC, E_up tbl (Nat.le_max_left k m) e]
      exact E_up tbl (Nat.le_max_right k m) e2
    | exit i => exact ⟨k + 1, _, _, _, by simp only [E, stepC, e], q⟩
    | ret => exact ⟨k + 1, _, _, _, by simp only [E, stepC, e], q⟩⟩

def condV (v : V) (A B : Prop) : Prop := match v with
  | .b true => A
  | .b false => B
  | _ => False
theorem condV_b {p : Bool} {A B : Prop} : condV (.b p) A B ↔ if p = true then A else B := by cases p <;> simp [condV]
theorem W_cond {x : X} {a b : C} : W tbl (.cond x a b) t h Q ↔ condV (x.ev t) (W tbl a t h Q) (W tbl b t h Q) :=
  ⟨fun ⟨k, o, t', h', e, q⟩ => by
    cases k with
    | zero => cases e
    | succ k =>
      simp only [E, stepC] at e
      split at e
      · rename_i hv; rw [hv]; exact ⟨k, _, _, _, e, q⟩
      · rename_i hv; rw [hv]; exact ⟨k, _, _, _, e, q⟩
      · exact (nomatch e),
   fun q => by
    unfold condV at q
    split at q
    · rename_i hv; obtain ⟨k, o, t', h', e, q⟩ := q; exact ⟨k + 1, o, t', h', by simp only [E, stepC, hv, e], q⟩
    · rename_i hv; obtain ⟨k, o, t', h', e, q⟩ := q; exact ⟨k + 1, o, t', h', by simp only [E, stepC, hv, e], q⟩
    · exact q.elim⟩

theorem W_block {id : Nat} {a : C} : W tbl (.block id a) t h Q ↔ W tbl a t h fun o t' h' => match o with
    | .exit i => if i = id then Q .norm t' h' else Q (.exit i) t' h'
    | .norm => Q .norm t' h'
    | .ret => Q .ret t' h' :=
  ⟨fun ⟨k, o, t', h', e, q⟩ => by
    cases k with
    | zero => cases e
    | succ k =>
      simp only [E, stepC] at e
      cases e1 : E tbl k a t h with
      | fail => rw [e1] at e; cases e
      | ok o1 t1 h1 =>
        rw [e1] at e
        refine ⟨k, o1, t1, h1, e1, ?_⟩
        cases o1 with
        | norm => simp only [RC.ok.injEq] at e; obtain ⟨rfl, rfl, rfl⟩ := e; exact q
        | ret => simp only [RC.ok.injEq] at e; obtain ⟨rfl, rfl, rfl⟩ := e; exact q
        | exit i =>
          simp only at e
          split at e
          · rename_i hb
            rw [Nat.beq_eq] at hb
            simp only [RC.ok.injEq] at e; obtain ⟨rfl, rfl, rfl⟩ := e
            simp only; rw [if_pos hb]; exact q
          · rename_i hb
            have hb : i ≠ id := by simpa using hb
            simp only [RC.ok.injEq] at e; obtain ⟨rfl, rfl, rfl⟩ := e
            simp only; rw [if_neg hb]; exact q,
   fun ⟨k, o, t', h', e, q⟩ => by
    cases o with
    | norm => exact ⟨k + 1, _, _, _, by simp only [E, stepC, e], q⟩
    | ret => exact ⟨k + 1, _, _, _, by simp only [E, stepC, e], q⟩
    | exit i =>
      simp only at q
      split at q
      · rename_i hb
        exact ⟨k + 1, _, _, _, by simp only [E, stepC, e]; rw [if_pos (by rw [Nat.beq_eq]; exact hb)], q⟩
      · rename_i hb
        exact ⟨k + 1, _, _, _, by simp only [E, stepC, e]; rw [if_neg (by simpa using hb)], q⟩⟩

theorem W_loop {a : C} : W tbl (.loop a) t h Q ↔ W tbl a t h fun o t' h' => match o with
    | .norm => W tbl (.loop a) t' h' Q
    | .exit i => Q (.exit i) t' h'
    | .ret => Q .ret t' h' :=
  ⟨fun ⟨k, o, t', h', e, q⟩ => by
    cases k with
    | zero => cases e
    | succ k =>
      simp only [E, stepC] at e
      cases e1 : E tbl k a t h with
      | fail => rw [e1] at e; cases e
      | ok o1 t1 h1 =>
        rw [e1] at e
        refine ⟨k, o1, t1, h1, e1, ?_⟩
        cases o1 with
        | norm => exact ⟨k, _, _, _, e, q⟩
        | exit i => simp only [RC.ok.injEq] at e; obtain ⟨rfl, rfl, rfl⟩ := e; exact q
        | ret => simp only [RC.ok.injEq] at e; obtain ⟨rfl, rfl, rfl⟩ := e; exact q,
   fun ⟨k, o, t', h', e, q⟩ => by
    cases o with
    | norm =>
      obtain ⟨m, o2, t2, h2, e2, q2⟩ := q
      refine ⟨max k m + 1, o2, t2, h2, ?_, q2⟩
      simp only [E, stepC, E_up tbl (Nat.le_max_left k m) e]
      exact E_up tbl (Nat.le_max_right k m) e2
    | exit i => exact ⟨k + 1, _, _, _, by simp only [E, stepC, e], q⟩
    | ret => exact ⟨k + 1, _, _, _, by simp only [E, stepC, e], q⟩⟩

/-- a loop by an invariant with a measure. -/
theorem W_loop_inv {a : C} {I : Nat → List V → H → Prop} (hI : ∀ n t h, I n t h → W tbl a t h fun o t' h' => match o with
      | .norm => ∃ m, m < n ∧ I m t' h'
      | .exit i => Q (.exit i) t' h'
      | .ret => Q .ret t' h') : ∀ n t h, I n t h → W tbl (.loop a) t h Q := by
  intro n
  induction n using Nat.strongRecOn with
  | ind n ih =>
    intro t h hi
    refine W_loop.2 ((hI n t h hi).mono ?_)
    intro o t' h' q
    cases o with
    | norm => obtain ⟨m, hm, q⟩ := q; exact ih m hm t' h' q
    | exit i => exact q
    | ret => exact q

def loopOut (v : Option Blk) (S : Loop → Prop) : Prop := match v with
  | some (.loop lp) => S lp
  | _ => False
theorem W_range {f : X} {ps : List Nat} {asg body : C} {g : Nat} {a c : List V} (hf : f.ev t = .fn g a c) : W tbl (.rangeF f ps asg body) t h Q ↔
    WC tbl (.fn g a c) [.yld h.next] (h.new (.loop ⟨.ready, none, t, ps, asg, body⟩)) fun _ h' => loopOut (h'.get h.next) fun lp => lp.state ≠ .busy ∧ Q (lp.pending.getD .norm) t (h'.put h.next (.loop { lp with state := .over })) :=
  ⟨fun ⟨k, o, t', h', e, q⟩ => by
    cases k with
    | zero => cases e
    | succ k =>
      simp only [E, stepC, hf] at e
      split at e <;> try simp only [reduceCtorEq] at e
      rename_i v h1 e1
      split at e <;> try simp only [reduceCtorEq] at e
      rename_i lp hg
      split at e <;> simp only [RC.ok.injEq, reduceCtorEq] at e
      rename_i hb
      obtain ⟨rfl, rfl, rfl⟩ := e
      exact ⟨k, _, _, e1, by show loopOut (h1.get h.next) _; rw [hg]; exact ⟨hb, q⟩⟩,
   fun ⟨k, v, h', e, q⟩ => by
    have q : loopOut (h'.get h.next) fun lp => lp.state ≠ .busy ∧ Q (lp.pending.getD .norm) t (h'.put h.next (.loop { lp with state := .over })) := q
    unfold loopOut at q
    split at q <;> try exact q.elim
    rename_i lp hg
    exact ⟨k + 1, _, _, _, by simp only [E, stepC, hf, e, hg]; rw [if_neg q.1], q.2⟩⟩

theorem WL_nil {S : List V → H → Prop} : WL tbl [] t h S ↔ S t h :=
  ⟨fun ⟨k, t', h', e, q⟩ => by simp only [runOps, RL.ok.injEq] at e; obtain ⟨rfl, rfl⟩ := e; exact q, fun q => ⟨0, _, _, rfl, q⟩⟩
theorem WL_cons {o : O} {l : List O} {S : List V → H → Prop} : WL tbl (o :: l) t h S ↔ if wants o.g t = true then WA tbl o.op t h fun v h' => WL tbl l (putD t o.dst v) h' S else WL tbl l (putD t o.dst .undef) h S := by
  cases hw : wants o.g t with
  | false =>
    simp only [Bool.false_eq_true, if_false]
    exact ⟨fun ⟨k, t', h', e, q⟩ => ⟨k, t', h', by simpa only [runOps, hw] using e, q⟩, fun ⟨k, t', h', e, q⟩ => ⟨k, t', h', by simpa only [runOps, hw] using e, q⟩⟩
  | true =>
    simp only [if_true]
    constructor
    · rintro ⟨k, t', h', e, q⟩
      simp only [runOps, hw] at e
      split at e <;> try simp only [reduceCtorEq] at e
      rename_i v h1 e1
      exact ⟨k, v, h1, e1, k, t', h', e, q⟩
    · rintro ⟨k, v, h1, e1, m, t', h', e, q⟩
      exact ⟨max k m, t', h', by simp only [runOps, hw, evA_up tbl (Nat.le_max_left k m) e1]; exact ops_up tbl (Nat.le_max_right k m) e, q⟩
theorem WD_nil {f : List Foot} {S : List V → H → List Foot → Prop} : WD tbl [] t h f S ↔ S t h f :=
  ⟨fun ⟨k, t', h', f', e, q⟩ => by simp only [runDraw, RD.ok.injEq] at e; obtain ⟨rfl, rfl, rfl⟩ := e; exact q, fun q => ⟨0, _, _, _, rfl, q⟩⟩
theorem WD_cons {o : O} {l : List O} {f : List Foot} {S : List V → H → List Foot → Prop} : WD tbl (o :: l) t h f S ↔ if wants o.g t = true then
    WA tbl o.op t ⟨h.next, h.mem, []⟩ fun v h' => WD tbl l (putD t o.dst v) ⟨h'.next, h'.mem, oldOnes h.next h'.log ++ h.log⟩ (f ++ [⟨reads o.op t, oldOnes h.next h'.log⟩]) S
    else WD tbl l (putD t o.dst .undef) h (f ++ [⟨some [], []⟩]) S := by
  cases hw : wants o.g t with
  | false =>
    simp only [Bool.false_eq_true, if_false]
    exact ⟨fun ⟨k, t', h', f', e, q⟩ => ⟨k, t', h', f', by simpa only [runDraw, hw] using e, q⟩, fun ⟨k, t', h', f', e, q⟩ => ⟨k, t', h', f', by simpa only [runDraw, hw] using e, q⟩⟩
  | true =>
    simp only [if_true]
    constructor
    · rintro ⟨k, t', h', f', e, q⟩
      simp only [runDraw, hw] at e
      split at e <;> try simp only [reduceCtorEq] at e
      rename_i v h1 e1
      exact ⟨k, v, h1, e1, k, t', h', f', e, q⟩
    · rintro ⟨k, v, h1, e1, m, t', h', f', e, q⟩
      exact ⟨max k m, t', h', f', by simp only [runDraw, hw, evA_up tbl (Nat.le_max_left k m) e1]; exact draw_up tbl (Nat.le_max_right k m) e, q⟩

def ROk (r : RO) (S : V → H → Prop) : Prop := match r with
  | .ok v h => S v h
  | .fail => False
theorem ROk_ok {v : V} {S : V → H → Prop} : ROk (.ok v h) S ↔ S v h := Iff.rfl
theorem ROk_fail {S : V → H → Prop} : ROk .fail S ↔ False := Iff.rfl
def A.plain : A → Bool
  | .call .. => false
  | _ => true
theorem evA_plain {op : A} (hp : op.plain = true) (call call' : V → List V → H → RO) : evA call op t h = evA call' op t h := by
  cases op <;> first | rfl | exact (Bool.false_ne_true hp).elim
def noCall : V → List V → H → RO := fun _ _ _ => .fail
theorem WA_plain {op : A} (hp : op.plain = true) : WA tbl op t h S ↔ ROk (evA noCall op t h) S :=
  ⟨fun ⟨k, v, h', e, q⟩ => by rw [evA_plain hp _ (callV tbl (E tbl k)), e]; exact q,
   fun q => by
    cases e : evA noCall op t h with
    | fail => rw [e] at q; exact q.elim
    | ok v h' => rw [e] at q; exact ⟨0, v, h', by rw [evA_plain hp _ noCall, e], q⟩⟩
theorem WA_call {f : X} {args : List X} : WA tbl (.call f args) t h S ↔ WC tbl (f.ev t) (args.map (X.ev t)) h S := Iff.rfl

def resOk (r : Option (List V)) (h : H) (S : V → H → Prop) : Prop := match r with
  | some l => S (packR l) h
  | none => False
theorem WC_fn {g : Nat} {first caps args : List V} {fi : FI} (ht : tbl g = some fi) : WC tbl (.fn g first caps) args h S ↔
    W tbl fi.body (pad (first ++ args ++ caps) fi.ntmps) h fun o t' h' => match o with
      | .exit _ => False
      | .norm => resOk (resultsOf t' h' fi.res) h' S
      | .ret => resOk (resultsOf t' h' fi.res) h' S :=
  ⟨fun ⟨k, v, h', e, q⟩ => by
    simp only [callV, ht] at e
    split at e <;> try simp only [reduceCtorEq] at e
    rename_i o t' h1 e1
    refine ⟨k, o, t', h1, e1, ?_⟩
    cases o <;> simp only [reduceCtorEq] at e ⊢ <;> (split at e <;> simp only [RO.ok.injEq, reduceCtorEq] at e; rename_i l hl; obtain ⟨rfl, rfl⟩ := e; rw [hl]; exact q),
   fun ⟨k, o, t', h', e, q⟩ => by
    cases o
    case exit => exact q.elim
    all_goals
      simp only at q
      unfold resOk at q
      split at q <;> try exact q.elim
      rename_i l hl
      exact ⟨k, _, _, by simp only [callV, ht, e, hl], q⟩⟩

theorem WC_yld {l : Nat} {args : List V} {lp : Loop} (hg : h.get l = some (.loop lp)) (ha : args.length = lp.params.length) : WC tbl (.yld l) args h S ↔
    W tbl lp.asg (updAll lp.tmps lp.params args) h fun o t h1 => match o with
      | .norm => loopOut (h1.get l) fun lp1 => lp1.state = .ready ∧ W tbl lp.body t (h1.put l (.loop { lp1 with state := .busy })) fun o _ h2 => loopOut (h2.get l) fun lp2 => lp2.state = .busy ∧ match o with
        | .norm => S (.b true) (h2.put l (.loop { lp2 with state := .ready, pending := none }))
        | .exit i => S (.b false) (h2.put l (.loop { lp2 with state := .done, pending := some (.exit i) }))
        | .ret => S (.b false) (h2.put l (.loop { lp2 with state := .done, pending := some .ret }))
      | _ => False :=
  ⟨fun ⟨k, v, h', e, q⟩ => by
    simp only [callV, hg] at e
    rw [if_pos (by rw [Nat.beq_eq]; exact ha)] at e
    split at e <;> try simp only [reduceCtorEq] at e
    rename_i t1 h1 e1
    refine ⟨k, _, _, _, e1, ?_⟩
    simp only
    split at e <;> try simp only [reduceCtorEq] at e
    rename_i lp1 g1
    rw [g1]
    split at e <;> try simp only [reduceCtorEq] at e
    rename_i hs1
    refine ⟨hs1, ?_⟩
    split at e <;> try simp only [reduceCtorEq] at e
    rename_i o2 t2 h2 e2
    refine ⟨k, _, _, _, e2, ?_⟩
    split at e <;> try simp only [reduceCtorEq] at e
    rename_i lp2 g2
    rw [g2]
    split at e <;> try simp only [reduceCtorEq] at e
    rename_i hs2
    refine ⟨hs2, ?_⟩
    cases o2 <;> simp only [RO.ok.injEq] at e <;> (obtain ⟨rfl, rfl⟩ := e; exact q),
   fun ⟨k, o, t1, h1, e1, q⟩ => by
    cases o <;> try exact q.elim
    simp only at q
    unfold loopOut at q
    split at q <;> try exact q.elim
    rename_i lp1 g1
    obtain ⟨hs1, m, o2, t2, h2, e2, q⟩ := q
    split at q <;> try exact q.elim
    rename_i lp2 g2
    obtain ⟨hs2, q⟩ := q
    have e1' := E_up tbl (Nat.le_max_left k m) e1
    have e2' := E_up tbl (Nat.le_max_right k m) e2
    cases o2 <;> refine ⟨max k m, _, _, ?_, q⟩ <;> (simp only [callV, hg]; rw [if_pos (by rw [Nat.beq_eq]; exact ha)]; simp only [e1', g1, hs1, if_true, e2', g2, hs2])⟩
end
end Go.Air
