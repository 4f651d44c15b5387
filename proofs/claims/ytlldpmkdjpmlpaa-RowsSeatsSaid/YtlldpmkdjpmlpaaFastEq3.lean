/-
  The evaluator for the kernel answers what Air's evaluator answers. Third part: code, calls, the whole.
-/
import Derived.Test.YtlldpmkdjpmlpaaFastEq2
set_option linter.unusedSectionVars false
set_option linter.unusedVariables false
set_option linter.unusedSimpArgs false
namespace Go.Air.Fast
universe u
variable {α : Type}

theorem wantK_eq (g : Option (Nat × Bool)) (t : List V) (y n : α) : wantK g t y n = if wants g t then y else n := by
  cases g with
  | none => rfl
  | some p =>
    obtain ⟨i, w⟩ := p
    have key : ∀ v : V, (match v with
        | .b x => Bool.casesOn (motive := fun _ => α) w (Bool.casesOn (motive := fun _ => α) x y n) (Bool.casesOn (motive := fun _ => α) x n y)
        | _ => n) = if (match v with | .b x => x == w | _ => false) = true then y else n := by
      intro v
      cases v <;> first | rfl | (rename_i x; cases x <;> cases w <;> rfl)
    show nthK t i (fun v => match v with
        | .b x => Bool.casesOn (motive := fun _ => α) w (Bool.casesOn (motive := fun _ => α) x y n) (Bool.casesOn (motive := fun _ => α) x n y)
        | _ => n) = _
    rw [nthK_eq]
    exact key (nth t i)
theorem putK_eq (t : List V) (d : Option Nat) (v : V) (k : List V → α) : putK t d v k = k (putD t d v) := by
  cases d
  · rfl
  · exact updK_eq _ _ _ _

def RL.el (r : RL) (z : α) (k : List V → H → α) : α := match r with
  | .fail => z
  | .ok t h => k t h
def RD.el (r : RD) (z : α) (k : List V → H → List Foot → α) : α := match r with
  | .fail => z
  | .ok t h f => k t h f
def RC.el (r : RC) (z : α) (k : Out → List V → H → α) : α := match r with
  | .fail => z
  | .ok o t h => k o t h

theorem opsK_eq {cK : Call α} {call : V → List V → H → RO} (hc : CallEq cK call) : ∀ (l : List O) (t : List V) (h : H) (z : α) (k : List V → H → α), opsK cK l t h z k = RL.el (runOps call l t h) z k
  | [], _, _, _, _ => rfl
  | o :: l, t, h, z, k => by
    obtain ⟨d, g, op⟩ := o
    show wantK g t (evAK op cK t h z fun v h' => putK t d v fun t' => opsK cK l t' h' z k) (putK t d .undef fun t' => opsK cK l t' h z k) = _
    rw [wantK_eq]
    simp only [runOps]
    cases wants g t with
    | true =>
      simp only [if_true]
      rw [evAK_eq hc]
      cases evA call op t h with
      | fail => rfl
      | ok v h' => simp only [RO.el, putK_eq]; exact opsK_eq hc l _ _ _ _
    | false =>
      simp only [Bool.false_eq_true, if_false, putK_eq]
      exact opsK_eq hc l _ _ _ _

theorem oldK_eq (n : Nat) : ∀ (l : List Nat) (k : List Nat → α), oldK n l k = k (oldOnes n l)
  | [], _ => rfl
  | x :: l, k => by
    show (Bool.casesOn (motive := fun _ => α) (Nat.blt x n) (oldK n l k) (oldK n l fun r => k (x :: r))) = _
    simp only [oldOnes]
    cases Nat.blt x n with
    | true => exact oldK_eq n l _
    | false => exact oldK_eq n l _
theorem natsApp_eq (r : List Nat) : ∀ (l : List Nat) (k : List Nat → α), natsApp l r k = k (l ++ r)
  | [], _ => rfl
  | x :: l, k => natsApp_eq r l _

theorem drawK_eq {cK : Call α} {call : V → List V → H → RO} (hc : CallEq cK call) : ∀ (l : List O) (t : List V) (h : H) (f : List Foot) (z : α) (k : List V → H → List Foot → α), drawK cK l t h f z k = RD.el (runDraw call l t h f) z k
  | [], _, _, _, _, _ => rfl
  | o :: l, t, h, f, z, k => by
    obtain ⟨d, g, op⟩ := o
    obtain ⟨n0, m0, l0⟩ := h
    show wantK g t (evAK op cK t ⟨n0, m0, []⟩ z fun v h' => H.casesOn h' fun n1 m1 l1 => oldK n0 l1 fun old => natsApp old l0 fun l2 => putK t d v fun t' => drawK cK l t' ⟨n1, m1, l2⟩ (f ++ [⟨reads op t, old⟩]) z k)
      (putK t d .undef fun t' => drawK cK l t' ⟨n0, m0, l0⟩ (f ++ [⟨some [], []⟩]) z k) = _
    rw [wantK_eq]
    simp only [runDraw]
    cases wants g t with
    | true =>
      simp only [if_true]
      rw [evAK_eq hc]
      cases evA call op t ⟨n0, m0, []⟩ with
      | fail => rfl
      | ok v h' =>
        obtain ⟨n1, m1, l1⟩ := h'
        simp only [RO.el, oldK_eq, natsApp_eq, putK_eq]
        exact drawK_eq hc l _ _ _ _ _
    | false =>
      simp only [Bool.false_eq_true, if_false, putK_eq]
      exact drawK_eq hc l _ _ _ _ _

theorem resK_eq (t : List V) (h : H) : ∀ (l : List ResV) (z : α) (k : List V → α), resK t h l z k = match resultsOf t h l with | none => z | some r => k r
  | [], _, _ => rfl
  | .tmp n :: l, z, k => by
    show nthK t n (fun v => resK t h l z fun s => k (v :: s)) = _
    rw [nthK_eq, resK_eq t h l]
    simp only [resultsOf, resultOf]
    cases resultsOf t h l <;> rfl
  | .only v :: l, z, k => by
    show (List.casesOn (motive := fun _ => α) t (resK t h l z fun s => k (v :: s)) (fun _ _ => z)) = _
    rw [resK_eq t h l]
    simp only [resultsOf, resultOf]
    cases t with
    | nil =>
      simp only
      cases resultsOf [] h l <;> rfl
    | cons _ _ => rfl
  | .cell n sz :: l, z, k => by
    show nthK t n (fun a => match a with
        | .p b o => hGet h b z fun bl => asCells bl z fun cs => Option.casesOn (motive := fun _ => α) sz (nthOK cs o z fun v => resK t h l z fun s => k (v :: s)) (fun m => cutK cs o m z fun l' => resK t h l z fun s => k (.agg l' :: s))
        | _ => z) = _
    rw [nthK_eq]
    simp only [resultsOf, resultOf]
    cases nth t n <;> try rfl
    rename_i b o
    simp only [hGet_eq]
    cases h.get b with
    | none => rfl
    | some bl =>
      cases bl with
      | ro _ => rfl
      | map _ => rfl
      | loop _ => rfl
      | cells cs =>
        simp only [asCells_eq]
        cases sz with
        | none =>
          simp only [nthOK_eq]
          cases nth? cs o with
          | none => rfl
          | some v =>
            simp only [resK_eq t h l]
            cases resultsOf t h l <;> rfl
        | some m =>
          simp only [cutK_eq]
          cases cut cs o m with
          | none => rfl
          | some v =>
            simp only [resK_eq t h l, Option.map_some]
            cases resultsOf t h l <;> rfl

theorem packK_eq (l : List V) (k : V → α) : packK l k = k (packR l) := by
  match l with
  | [] => rfl
  | [_] => rfl
  | _ :: _ :: _ => rfl
theorem rep_undef : ∀ n, rep [V.undef] n = List.replicate n V.undef
  | 0 => rfl
  | n + 1 => by rw [rep, rep_undef n]; rfl
theorem padK_eq : ∀ (l : List V) (n : Nat) (k : List V → α), padK l n k = k (pad l n)
  | [], n, k => by
    show repK [V.undef] n k = _
    rw [repK_eq, rep_undef]
    simp [pad]
  | x :: l, 0, k => by
    show padK l 0 (fun r => k (x :: r)) = _
    rw [padK_eq l 0]
    simp [pad]
  | x :: l, n + 1, k => by
    show padK l n (fun r => k (x :: r)) = _
    rw [padK_eq l n]
    simp [pad]
theorem updsK_eq : ∀ (ps : List Nat) (t vs : List V) (k : List V → α), updsK ps t vs k = k (updAll t ps vs)
  | [], t, vs, k => by simp [updAll]; rfl
  | p :: ps, t, [], k => by simp [updAll]; rfl
  | p :: ps, t, v :: vs, k => by
    show updK t p v (fun t' => updsK ps t' vs k) = _
    rw [updK_eq, updsK_eq ps]; rfl

def REq (rK : R0 α) (r : C → List V → H → RC) : Prop := ∀ c t h z k, rK c t h z k = RC.el (r c t h) z k

section
variable {tK tbl : Nat → Option FI} (ht : ∀ n, tK n = tbl n) {rK : R0 α} {r : C → List V → H → RC} (hr : REq rK r)
include ht hr

theorem callFn_eq (g : Nat) (a c args : List V) (h : H) (z : α) (k : V → H → α) : callFn tK rK g a c args h z k = RO.el (callV tbl r (.fn g a c) args h) z k := by
  unfold callFn
  rw [ht]
  simp only [callV]
  cases tbl g with
  | none => rfl
  | some fi =>
    obtain ⟨n, res, body⟩ := fi
    simp only [appK_eq, padK_eq, hr body]
    cases r body (pad (a ++ args ++ c) n) h with
    | fail => rfl
    | ok o t' h' =>
      cases o with
      | exit i => rfl
      | norm =>
        simp only [RC.el, resK_eq, packK_eq]
        cases resultsOf t' h' res <;> rfl
      | ret =>
        simp only [RC.el, resK_eq, packK_eq]
        cases resultsOf t' h' res <;> rfl

theorem callYld_eq (l : Nat) (args : List V) (h : H) (z : α) (k : V → H → α) : callYld rK l args h z k = RO.el (callV tbl r (.yld l) args h) z k := by
  unfold callYld
  simp only [callV]
  rw [hGet_eq]
  cases h.get l with
  | none => rfl
  | some bl =>
    cases bl with
    | cells _ => rfl
    | ro _ => rfl
    | map _ => rfl
    | loop lp =>
      obtain ⟨st, pe, tm, ps, ag, bo⟩ := lp
      simp only [asLoop_eq]
      cases Nat.beq args.length ps.length with
      | false => rfl
      | true =>
        simp only [if_true, updsK_eq, hr ag]
        cases r ag (updAll tm ps args) h with
        | fail => rfl
        | ok o t h1 =>
          cases o with
          | exit _ => rfl
          | ret => rfl
          | norm =>
            simp only [RC.el, hGet_eq]
            cases h1.get l with
            | none => rfl
            | some bl =>
              cases bl with
              | cells _ => rfl
              | ro _ => rfl
              | map _ => rfl
              | loop lp1 =>
                obtain ⟨st1, pe1, tm1, ps1, ag1, bo1⟩ := lp1
                simp only [asLoop_eq]
                cases st1 with
                | busy => rfl
                | done => rfl
                | over => rfl
                | ready =>
                  simp only [hPut_eq, hr bo, if_true]
                  cases r bo t (h1.put l (.loop ⟨.busy, pe1, tm1, ps1, ag1, bo1⟩)) with
                  | fail => rfl
                  | ok o2 t2 h2 =>
                    simp only [RC.el, hGet_eq]
                    cases h2.get l with
                    | none => rfl
                    | some bl =>
                      cases bl with
                      | cells _ => rfl
                      | ro _ => rfl
                      | map _ => rfl
                      | loop lp2 =>
                        obtain ⟨st2, pe2, tm2, ps2, ag2, bo2⟩ := lp2
                        simp only [asLoop_eq]
                        cases st2 with
                        | ready => rfl
                        | done => rfl
                        | over => rfl
                        | busy =>
                          simp only [if_true]
                          cases o2 <;> rfl

theorem callK_eq : CallEq (callK tK rK) (callV tbl r) := by
  intro f args h z k
  cases f <;> try rfl
  · exact callFn_eq ht hr _ _ _ _ _ _ _
  · exact callYld_eq ht hr _ _ _ _ _

theorem stepK_eq (c : C) (t : List V) (h : H) (z : α) (k : Out → List V → H → α) : stepK c tK rK t h z k = RC.el (stepC tbl r c t h) z k := by
  have hc := callK_eq ht hr
  cases c
  case skip => rfl
  case ops l =>
    show opsK (callK tK rK) l t h z (fun t h => k .norm t h) = _
    rw [opsK_eq hc]
    simp only [stepC]
    cases runOps (callV tbl r) l t h <;> rfl
  case draw l crit =>
    show drawK (callK tK rK) l t h [] z (fun t h f => Bool.casesOn (motive := fun _ => α) (critOk f crit) z (k .norm t h)) = _
    rw [drawK_eq hc]
    simp only [stepC]
    cases runDraw (callV tbl r) l t h [] with
    | fail => rfl
    | ok t' h' f =>
      simp only [RD.el]
      cases critOk f crit <;> rfl
  case seq a b =>
    show rK a t h z (fun o t' h' => Out.casesOn (motive := fun _ => α) o (rK b t' h' z k) (fun i => k (.exit i) t' h') (k .ret t' h')) = _
    rw [hr a]
    simp only [stepC]
    cases r a t h with
    | fail => rfl
    | ok o t' h' =>
      cases o with
      | norm => exact hr b _ _ _ _
      | exit i => rfl
      | ret => rfl
  case cond x a b =>
    show cCond x a b tK rK t h z k = _
    unfold cCond
    simp only [evX_eq, stepC]
    cases x.ev t <;> try rfl
    rename_i c
    cases c with
    | true => exact hr a _ _ _ _
    | false => exact hr b _ _ _ _
  case block id a =>
    show rK a t h z (fun o t' h' => Out.casesOn (motive := fun _ => α) o (k .norm t' h') (fun i => Bool.casesOn (motive := fun _ => α) (Nat.beq i id) (k (.exit i) t' h') (k .norm t' h')) (k .ret t' h')) = _
    rw [hr a]
    simp only [stepC]
    cases r a t h with
    | fail => rfl
    | ok o t' h' =>
      cases o with
      | norm => rfl
      | ret => rfl
      | exit i =>
        simp only [RC.el]
        cases Nat.beq i id <;> rfl
  case loop a =>
    show rK a t h z (fun o t' h' => Out.casesOn (motive := fun _ => α) o (rK (.loop a) t' h' z k) (fun i => k (.exit i) t' h') (k .ret t' h')) = _
    rw [hr a]
    simp only [stepC]
    cases r a t h with
    | fail => rfl
    | ok o t' h' =>
      cases o with
      | norm => exact hr (.loop a) _ _ _ _
      | exit i => rfl
      | ret => rfl
  case exit => rfl
  case ret => rfl
  case rangeF f ps ag bo =>
    show cRange f ps ag bo tK rK t h z k = _
    unfold cRange
    simp only [evX_eq, stepC]
    cases f.ev t <;> try rfl
    rename_i g a c
    simp only [hNew_eq, callFn_eq ht hr]
    cases callV tbl r (.fn g a c) [.yld h.next] (h.new (.loop ⟨.ready, none, t, ps, ag, bo⟩)) with
    | fail => rfl
    | ok v h' =>
      simp only [RO.el, hGet_eq]
      cases h'.get h.next with
      | none => rfl
      | some bl =>
        cases bl with
        | cells _ => rfl
        | ro _ => rfl
        | map _ => rfl
        | loop lp =>
          obtain ⟨st, pe, tm, ps', ag', bo'⟩ := lp
          simp only [asLoop_eq]
          cases st <;> first | rfl | (simp only [hPut_eq]; cases pe <;> rfl)
end

theorem EK_eq {tK tbl : Nat → Option FI} (ht : ∀ n, tK n = tbl n) : ∀ (k : Nat), REq (α := α) (EK tK k) (E tbl k)
  | 0 => fun _ _ _ _ _ => rfl
  | k + 1 => fun c t h z g => stepK_eq ht (EK_eq ht k) c t h z g

theorem runK_eq {tK tbl : Nat → Option FI} (ht : ∀ n, tK n = tbl n) (k f : Nat) (args : List V) (h : H) (z : α) (g : V → H → α) : runK tK k f args h z g = RO.el (run tbl k f args h) z g :=
  callK_eq ht (EK_eq ht k) (.fn f [] []) args h z g

/-- a table laid out for the kernel. -/
noncomputable def tblK (tree : T FI) (k : Nat) : Option FI :=
  T.rec (motive := fun _ => Nat → Option FI) (fun _ => none) (fun _ x _ ihl ihr n => Nat.casesOn n x (fun m => Nat.casesOn (Nat.mod m 2) (ihl (Nat.div m 2)) (fun _ => ihr (Nat.div m 2)))) tree k
theorem tblK_eq : ∀ (t : T FI) (k : Nat), tblK t k = t.get k
  | .e, _ => rfl
  | .n _ _ _, 0 => rfl
  | .n l x r, m + 1 => by
    show (Nat.casesOn (motive := fun _ => Option FI) (Nat.mod m 2) (tblK l (Nat.div m 2)) (fun _ => tblK r (Nat.div m 2))) = _
    simp only [T.get]
    rw [show Nat.mod m 2 = m % 2 from rfl, show Nat.div m 2 = m / 2 from rfl]
    cases m % 2 with
    | zero => exact tblK_eq l (m / 2)
    | succ j => exact tblK_eq r (m / 2)

def isTrue : V → Bool
  | .b true => true
  | _ => false

/-- a function's value, by the kernel's run. -/
theorem run_true {tree : T FI} {k f : Nat} {args : List V} {h : H} (hk : runK (tblK tree) k f args h false (fun v _ => isTrue v) = true) : ∃ h', run tree.get k f args h = .ok (.b true) h' := by
  rw [runK_eq (tblK_eq tree)] at hk
  cases hq : run tree.get k f args h with
  | fail => rw [hq] at hk; simp [RO.el] at hk
  | ok v h' =>
    rw [hq] at hk
    cases v <;> simp only [RO.el, isTrue, Bool.false_eq_true] at hk
    rename_i b
    cases b
    · simp at hk
    · exact ⟨h', rfl⟩
end Go.Air.Fast
