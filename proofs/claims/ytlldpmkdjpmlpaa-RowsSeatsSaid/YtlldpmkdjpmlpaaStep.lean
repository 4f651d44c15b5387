/-
  Operations in the kit's rules of a region: one, and a list in the text's order.
-/
import Derived.Test.YtlldpmkdjpmlpaaKeep
set_option linter.unusedSectionVars false
set_option linter.unusedVariables false
set_option linter.unusedSimpArgs false
namespace Go.Air

def Wd (ro : Option Nat) : Fence := { Fence.wide with round := ro }
def allB : Nat → Prop := fun _ => True

section
variable {P : Program} {F : Nat → Prop} {R R1 : Emb} {h h1 h' : H} {w w1 : World} {t t' : List V} {a : Act} {v : V}

theorem Sim.sub {G : Nat → Prop} (hs : Sim P F R h.get w) (hG : ∀ b, G b → F b) : Sim P G R h.get w :=
  ⟨fun b c sz x hb => hs.blk b c sz x (hG b hb), fun b b' c sz sz' x x' h1 h2 => hs.inj b b' c sz sz' x x' (hG b h1) (hG b' h2), hs.lt⟩

/-- What a step that enters a function, or a round, comes to. -/
def Upon (P : Program) (nx : Next) (w : World) (Q : Value → World → Prop) : Prop :=
  match nx with
  | .value x => Q x w
  | .skip => Q undef w
  | .enter f args => ∀ ro n, CallsIn (Wd ro) n P f args w fun
    | .returned v, w'' => Q v w''
    | _, _ => False
  | .round l f tmps assign body => ∀ ro n, RoundIn (Wd ro) n P l f tmps assign body w fun
    | .returned v, w'' => Q v w''
    | _, _ => False
  | _ => False

def CallSnd (P : Program) (call : V → List V → H → RO) : Prop :=
  ∀ (f : V) (args : List V) (h h' : H) (v : V) (R : Emb) (w : World) (fv : Value) (vs : List Value), call f args h = .ok v h' → Sim P allB R h.get w → Fresh R h h' → WF h →
    conc R f = some fv → concL R args = some vs →
    ∃ nx, (do let d ← Deferred.ofValue fv vs.toArray; invoke d.target d.args : Sem Next).run P w = .ok nx w ∧ Upon P nx w (PostV P allB R h w v h')

theorem upon_in {o : Oper} {n : Nat} {ro : Option Nat} {next : Act → World → Prop} {Q : Exit → Act → World → Prop} {nx : Next} {K : Value → World → Prop} (hu : Upon P nx w K)
    (hn : ∀ x w', K x w' → next (a.put o.dst x) w') : o.uponIn (Wd ro) n P a next Q (.ok nx w) := by
  have room : ((Wd ro).depth.isSome = true → 1 ≤ n) := fun h => by simp [Wd, Fence.wide] at h
  cases nx <;> first | exact hu.elim | skip
  case value x => exact hn _ _ hu
  case skip => exact hn _ _ hu
  case enter f args =>
    refine ⟨room, (hu ro (n - 1)).mono ?_⟩
    intro e w' he
    cases e with
    | returned v => exact hn _ _ he
    | panicked _ => exact he.elim
    | outgrown => exact he.elim
  case round l f tmps assign body =>
    refine ⟨room, (hu ro (n - 1)).mono ?_⟩
    intro e w' he
    cases e with
    | returned v => exact hn _ _ he
    | panicked _ => exact he.elim
    | outgrown => exact he.elim

theorem envOk_of (ht : concL R t = some a.tmps.toList) : EnvOk R t a.eval := by
  intro x y hxy
  unfold okX at hxy
  split at hxy <;> try simp at hxy
  · subst hxy
    have := conc_nth ht ‹Nat›
    simp only [X.ev, Act.eval]
    rw [this]
    simp [Array.getD_eq_getD_getElem?, List.getD_eq_getElem?_getD]
  · exact conc_of_same R _ _ hxy
  · subst hxy
    simp [X.ev, Act.eval, conc, concL]

theorem op_wp {o : Oper} {ao : A} {n : Nat} {ro : Option Nat} {next : Act → World → Prop} {Q : Exit → Act → World → Prop} {call : V → List V → H → RO} (hc : CallSnd P call)
    (hok : okA P o.op ao = true) (hρ : EnvOk R t a.eval) (hs : Sim P F R h.get w) (hF : FootOk F (reads ao t)) (hfr : Fresh R h h') (hw : WF h) (he : evA call ao t h = .ok v h')
    (hn : ∀ x w', PostV P F R h w v h' x w' → next (a.put o.dst x) w') : o.wpIn (Wd ro) n P a w next Q := by
  refine ⟨fun _ _ => trivial, ?_⟩
  obtain ⟨dst, op, ty, pos, af, gd⟩ := o
  simp only at hok
  have hsem : Oper.semAt (Wd ro).round a.eval ⟨dst, op, ty, pos, af, gd⟩ = execOp a.eval ⟨dst, op, ty, pos, af, gd⟩ := by
    refine Oper.semAt_eq _ _ _ (fun c hcc => ?_)
    simp only at hcc
    subst hcc
    cases ao <;> first | exact (Bool.false_ne_true hok).elim | (simp [evA] at he; done)
  rw [hsem]
  by_cases hcall : ∃ f xs, ao = .call f xs
  · obtain ⟨f, xs, rfl⟩ := hcall
    have hall : ∀ b, F b := hF
    cases op <;> try exact (Bool.false_ne_true hok).elim
    rename_i c
    have hok : (match c.callee with
      | .value g => okX g f && okXs c.args.toList xs
      | _ => false) = true := hok
    split at hok <;> try simp at hok
    rename_i g hg
    obtain ⟨h1, h2⟩ := hok
    have hfv := hρ g f h1
    have hxs := okXs_conc hρ _ _ h2
    obtain ⟨nx, hr, hu⟩ := hc _ _ _ _ _ R w _ _ he (hs.sub fun b _ => hall b) hfr hw hfv hxs
    have hr' : (execOp a.eval ⟨dst, .call c, ty, pos, af, gd⟩).run P w = .ok nx w := by
      simp only [execOp, resolve, hg]
      rw [show c.args.map a.eval = (c.args.toList.map a.eval).toArray from Array.toList_inj.1 (by simp)]
      exact hr
    rw [hr']
    refine upon_in hu fun x w' ⟨R', l, q1, q2, q3⟩ => hn x w' ⟨R', l, q1, ?_, q3⟩
    exact ⟨fun b c sz x _ => q2.blk b c sz x trivial, fun b b' c sz sz' x x' _ _ => q2.inj b b' c sz sz' x x' trivial trivial, q2.lt⟩
  · obtain ⟨nx, x, w', hr, hnx, hp⟩ := run_any (dst := dst) (ty := ty) (pos := pos) (af := af) (gd := gd) hok (fun f xs e => hcall ⟨f, xs, e⟩) hρ hs hF hfr he
    rw [hr]
    rcases hnx with rfl | ⟨rfl, rfl⟩
    · exact hn _ _ hp
    · exact hn _ _ hp

theorem put_tmps {x : Value} {dst : Option Tmp} {d : Option Nat} (hd : okDst dst d = true) (ht : concL R t = some a.tmps.toList) (hv : conc R v = some x) :
    concL R (putD t d v) = some (a.put dst x).tmps.toList := by
  unfold okDst at hd
  split at hd <;> try simp at hd
  · exact ht
  · subst hd
    simp only [putD, Act.put, Array.toList_setIfInBounds]
    exact conc_upd _ ht hv
theorem put_defers {x : Value} {dst : Option Tmp} : (a.put dst x).defers = a.defers := by cases dst <;> rfl

theorem wanted_iff {ops : Array Oper} {o : Oper} {g : Option (Nat × Bool)} (hg : okG ops o.guard g = true) (ht : concL R t = some a.tmps.toList) :
    Region.wanted o (yielded ops a.tmps) = wants g t := by
  unfold okG at hg
  split at hg <;> try simp at hg
  · rename_i h1
    simp [Region.wanted, h1, wants]
  · rename_i j w1 d w2 h1
    obtain ⟨rfl, hd⟩ := hg
    split at hd <;> try simp at hd
    rename_i o' ho
    have hdst : o'.dst = some d := by
      cases hq : o'.dst with
      | none => rw [hq] at hd; exact (Bool.false_ne_true hd).elim
      | some e =>
        rw [hq] at hd
        have hd : Nat.beq e d = true := hd
        rw [Nat.beq_eq] at hd
        rw [hd]
    simp only [Region.wanted, h1, yielded, ho, hdst, Option.bind_some, wants]
    have hcn := conc_nth ht d
    rw [List.getD_eq_getElem?_getD, Array.getElem?_toList] at hcn
    cases hq : a.tmps[d]? with
    | none =>
      have : t.length ≤ d := by
        have e := concL_length ht
        rw [Array.getElem?_eq_none_iff] at hq
        simp at e
        omega
      have : nth t d = .undef := by rw [nth_eq]; simp [this]
      rw [this]
      rfl
    | some x =>
      rw [hq, Option.getD_some] at hcn
      cases hn : nth t d with
      | b y =>
        rw [hn] at hcn
        simp [conc] at hcn
        subst hcn
        cases y <;> cases w1 <;> rfl
      | _ =>
        rw [hn] at hcn
        have : ∀ b, x ≠ .bool b := by
          intro b e
          subst e
          first | (simp [conc] at hcn; done) | (simp only [conc] at hcn; split at hcn <;> simp at hcn; done) | (rename_i gr; cases gr <;> first | (simp [conc] at hcn; done) | (simp only [conc, Option.bind_eq_some_iff] at hcn; obtain ⟨y, _, h2⟩ := hcn; split at h2 <;> simp at h2; done))
        cases x <;> first | rfl | exact absurd rfl (this _)
end
end Go.Air
