/-
  The evaluator for the kernel answers what Air's evaluator answers. First part: lists, storage, operands.
-/
import Derived.Test.YtlldpmkdjpmlpaaFast
set_option linter.unusedSectionVars false
set_option linter.unusedVariables false
set_option linter.unusedSimpArgs false
namespace Go.Air.Fast
universe u
variable {α : Type}

theorem forceN_eq (n : Nat) (k : Nat → α) : forceN n k = k n := by cases n <;> rfl
theorem forceZ_eq (z : Int) (k : Int → α) : forceZ z k = k z := by cases z <;> simp [forceZ, forceN_eq]
theorem forceB_eq (b : Bool) (k : Bool → α) : forceB b k = k b := by cases b <;> rfl

theorem nthK_eq : ∀ (l : List V) (n : Nat) (k : V → α), nthK l n k = k (nth l n)
  | [], _, _ => rfl
  | _ :: _, 0, _ => rfl
  | _ :: l, n + 1, k => nthK_eq l n k
theorem nthOK_eq : ∀ (l : List V) (n : Nat) (z : α) (k : V → α), nthOK l n z k = match nth? l n with | none => z | some v => k v
  | [], _, _, _ => rfl
  | _ :: _, 0, _, _ => rfl
  | _ :: l, n + 1, z, k => nthOK_eq l n z k
theorem updK_eq : ∀ (l : List V) (n : Nat) (v : V) (k : List V → α), updK l n v k = k (upd l n v)
  | [], _, _, _ => rfl
  | _ :: _, 0, _, _ => rfl
  | x :: l, n + 1, v, k => updK_eq l n v _
theorem takeK_eq : ∀ (l : List V) (n : Nat) (z : α) (k : List V → α), takeK l n z k = match cut l 0 n with | none => z | some v => k v
  | [], 0, _, _ => rfl
  | [], _ + 1, _, _ => rfl
  | _ :: _, 0, _, _ => rfl
  | x :: l, n + 1, z, k => by
    show takeK l n z (fun r => k (x :: r)) = _
    rw [takeK_eq l n]
    simp only [cut]
    cases cut l 0 n <;> rfl
theorem cutK_eq : ∀ (l : List V) (o n : Nat) (z : α) (k : List V → α), cutK l o n z k = match cut l o n with | none => z | some v => k v
  | [], 0, 0, _, _ => rfl
  | [], 0, _ + 1, _, _ => rfl
  | [], _ + 1, _, _, _ => rfl
  | x :: l, 0, n, z, k => takeK_eq (x :: l) n z k
  | x :: l, o + 1, n, z, k => by
    show cutK l o n z k = _
    rw [cutK_eq l o n]
    rfl
theorem layK0_eq : ∀ (l vs : List V) (z : α) (k : List V → α), layK0 l vs z k = match lay l 0 vs with | none => z | some v => k v
  | [], [], _, _ => rfl
  | [], _ :: _, _, _ => rfl
  | _ :: _, [], _, _ => rfl
  | x :: l, v :: vs, z, k => by
    show layK0 l vs z (fun r => k (v :: r)) = _
    rw [layK0_eq l vs]
    simp only [lay]
    cases lay l 0 vs <;> rfl
theorem layK_eq : ∀ (l : List V) (o : Nat) (vs : List V) (z : α) (k : List V → α), layK l o vs z k = match lay l o vs with | none => z | some v => k v
  | [], 0, vs, z, k => layK0_eq [] vs z k
  | [], _ + 1, _, _, _ => rfl
  | x :: l, 0, vs, z, k => layK0_eq (x :: l) vs z k
  | x :: l, o + 1, vs, z, k => by
    show layK l o vs z (fun r => k (x :: r)) = _
    rw [layK_eq l o vs]
    simp only [lay]
    cases lay l o vs <;> rfl
theorem appK_eq : ∀ (l r : List V) (k : List V → α), appK l r k = k (l ++ r)
  | [], _, _ => rfl
  | x :: l, r, k => appK_eq l r _
theorem repK_eq (z : List V) : ∀ (n : Nat) (k : List V → α), repK z n k = k (rep z n)
  | 0, _ => rfl
  | n + 1, k => by
    show repK z n (fun r => appK z r k) = _
    rw [repK_eq z n, appK_eq]; rfl
theorem lenK_eq : ∀ (l : List V) (k : Nat → α), lenK l k = k l.length
  | [], _ => rfl
  | x :: l, k => by
    show lenK l (fun n => forceN (Nat.succ n) k) = _
    rw [lenK_eq l, forceN_eq]; rfl
theorem nfL_eq : ∀ (l : List V) (k : List V → α), nfL l k = k l
  | [], _ => rfl
  | x :: l, k => by
    show nfL l (fun r => _) = _
    rw [nfL_eq l]
    cases x <;> simp [forceB_eq, forceZ_eq]

theorem getK_eq : ∀ (t : T Blk) (n : Nat) (z : α) (k : Blk → α), getK t n z k = match t.get n with | none => z | some b => k b
  | .e, _, _, _ => rfl
  | .n l x r, 0, z, k => by cases x <;> rfl
  | .n l x r, m + 1, z, k => by
    show (Nat.casesOn (motive := fun _ => α) (Nat.mod m 2) (getK l (Nat.div m 2) z k) (fun _ => getK r (Nat.div m 2) z k)) = _
    simp only [T.get]
    rw [show Nat.mod m 2 = m % 2 from rfl, show Nat.div m 2 = m / 2 from rfl]
    cases m % 2 with
    | zero => exact getK_eq l (m / 2) z k
    | succ j => exact getK_eq r (m / 2) z k

theorem setF_fuel {β : Type} (v : Option β) : ∀ (f g : Nat) (t : T β) (k : Nat), k < f → k < g → T.setF f t k v = T.setF g t k v
  | 0, _, _, _, h, _ => by omega
  | _ + 1, 0, _, _, _, h => by omega
  | f + 1, g + 1, .e, 0, _, _ => rfl
  | f + 1, g + 1, .n l x r, 0, _, _ => rfl
  | f + 1, g + 1, .e, k + 1, h1, h2 => by
    simp only [T.setF]
    rw [setF_fuel v f g .e (k / 2) (by omega) (by omega)]
  | f + 1, g + 1, .n l x r, k + 1, h1, h2 => by
    simp only [T.setF]
    rw [setF_fuel v f g l (k / 2) (by omega) (by omega), setF_fuel v f g r (k / 2) (by omega) (by omega)]

theorem leafK_eq (x : Option Blk) : ∀ (f n : Nat) (k : T Blk → α), n < f → leafK x f n k = k (T.setF f .e n x)
  | 0, n, _, h => by omega
  | f + 1, 0, _, _ => rfl
  | f + 1, m + 1, k, h => by
    show (Nat.casesOn (motive := fun _ => α) (Nat.mod m 2) (leafK x f (Nat.div m 2) fun s => k (.n s none .e)) (fun _ => leafK x f (Nat.div m 2) fun s => k (.n .e none s))) = _
    simp only [T.setF]
    rw [show Nat.mod m 2 = m % 2 from rfl, show Nat.div m 2 = m / 2 from rfl]
    cases m % 2 with
    | zero => exact leafK_eq x f (m / 2) _ (by omega)
    | succ j => exact leafK_eq x f (m / 2) _ (by omega)

theorem setK_eq (x : Option Blk) (f : Nat) : ∀ (t : T Blk) (n : Nat) (k : T Blk → α), n < f → setK x f t n k = k (T.setF f t n x)
  | .e, n, k, h => leafK_eq x f n k h
  | .n l y r, 0, k, h => by
    cases f with
    | zero => omega
    | succ f => rfl
  | .n l y r, m + 1, k, h => by
    cases f with
    | zero => omega
    | succ f =>
      show (Nat.casesOn (motive := fun _ => α) (Nat.mod m 2) (setK x (f + 1) l (Nat.div m 2) fun s => k (.n s y r)) (fun _ => setK x (f + 1) r (Nat.div m 2) fun s => k (.n l y s))) = _
      simp only [T.setF]
      rw [show Nat.mod m 2 = m % 2 from rfl, show Nat.div m 2 = m / 2 from rfl]
      cases m % 2 with
      | zero =>
        have := setK_eq x (f + 1) l (m / 2) (fun s => k (.n s y r)) (by omega)
        refine this.trans ?_
        simp only
        rw [setF_fuel x (f + 1) f l (m / 2) (by omega) (by omega)]
      | succ j =>
        have := setK_eq x (f + 1) r (m / 2) (fun s => k (.n l y s)) (by omega)
        refine this.trans ?_
        simp only
        rw [setF_fuel x (f + 1) f r (m / 2) (by omega) (by omega)]

theorem hGet_eq (h : H) (b : Nat) (z : α) (k : Blk → α) : hGet h b z k = match h.get b with | none => z | some x => k x := getK_eq _ _ _ _
theorem hNew_eq (h : H) (x : Blk) (k : Nat → H → α) : hNew h x k = k h.next (h.new x) := by
  show setK (some x) (Nat.succ h.next) h.mem h.next _ = _
  rw [setK_eq _ _ _ _ _ (Nat.lt_succ_self _), forceN_eq]; rfl
theorem hPut_eq (h : H) (b : Nat) (x : Blk) (k : H → α) : hPut h b x k = k (h.put b x) := by
  show setK (some x) (Nat.succ b) h.mem b _ = _
  rw [setK_eq _ _ _ _ _ (Nat.lt_succ_self _)]; rfl
theorem hKill_eq (h : H) (b : Nat) (k : H → α) : hKill h b k = k (h.kill b) := by
  show setK none (Nat.succ b) h.mem b _ = _
  rw [setK_eq _ _ _ _ _ (Nat.lt_succ_self _)]; rfl

theorem evX_eq (x : X) (t : List V) (k : V → α) : evX x t k = k (x.ev t) := by
  cases x
  · exact nthK_eq _ _ _
  · rfl
  · rfl
theorem evL_eq (t : List V) : ∀ (xs : List X) (k : List V → α), evL xs t k = k (xs.map (X.ev t))
  | [], _ => rfl
  | x :: xs, k => by
    show evX x t (fun v => evL xs t fun r => k (v :: r)) = _
    rw [evX_eq, evL_eq t xs]; rfl
theorem cellsK_eq (v : V) (k : List V → α) : cellsK v k = k v.cells := by cases v <;> rfl

theorem fillK_eq (t : List V) : ∀ (ps : List (Nat × Nat × X)) (z : List V) (e : α) (k : List V → α), fillK t ps z e k = match fill t z ps with | none => e | some r => k r
  | [], _, _, _ => rfl
  | (off, sz, x) :: ps, z, e, k => by
    show evX x t (fun v => cellsK v fun cs => lenK cs fun n => Bool.casesOn (motive := fun _ => α) (Nat.beq n sz) e (layK z off cs e fun z1 => fillK t ps z1 e k)) = _
    rw [evX_eq, cellsK_eq, lenK_eq]
    simp only [fill]
    cases Nat.beq (x.ev t).cells.length sz with
    | false => rfl
    | true =>
      simp only [if_true]
      rw [layK_eq]
      cases lay z off (x.ev t).cells with
      | none => rfl
      | some z' => exact fillK_eq t ps z' e k

theorem forceV_eq (v : V) (k : V → α) : forceV v k = k v := by cases v <;> simp [forceV, forceB_eq, forceZ_eq, forceN_eq]
theorem forceO_eq (v : Option V) (z : α) (k : V → α) : forceO v z k = match v with | none => z | some v => k v := by
  cases v
  · rfl
  · exact forceV_eq _ _

def RO.el (r : RO) (z : α) (k : V → H → α) : α := match r with
  | .fail => z
  | .ok v h => k v h
theorem forceO_el (v : Option V) (h : H) (z : α) (k : V → H → α) : forceO v z (fun v => k v h) = RO.el (RO.ofV h v) z k := by
  rw [forceO_eq]; cases v <;> rfl
end Go.Air.Fast
