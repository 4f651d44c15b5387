/-
  Open orders, second part: the states that a set of executed operations comes to, and one more operation.
-/
import Derived.Test.YtlldpmkdjpmlpaaDraw1
set_option linter.unusedSectionVars false
set_option linter.unusedVariables false
set_option linter.unusedSimpArgs false
namespace Go.Air

/-- neither writes what the other looks at or writes. -/
def Mem (f g : Foot) : Prop := ∀ b ∈ f.wr, (∀ r, g.rd = some r → b ∉ r) ∧ g.rd ≠ none ∧ b ∉ g.wr
structure Ind (a b : O) (f g : Foot) : Prop where
  d1 : ∀ d, a.dst = some d → d ∉ usesO b ∧ b.dst ≠ some d
  d2 : ∀ d, b.dst = some d → d ∉ usesO a
  m1 : Mem f g
  m2 : Mem g f

theorem putD_length {t : List V} {d : Option Nat} {v : V} : (putD t d v).length = t.length := by
  cases d <;> simp [putD, upd_eq]
theorem nth_putD {t : List V} {d : Option Nat} {v : V} {x : Nat} (h : d ≠ some x) : nth (putD t d v) x = nth t x := by
  cases d with
  | none => rfl
  | some d =>
    have : d ≠ x := fun e => h (by rw [e])
    simp only [putD, upd_eq, nth_eq, List.getD_eq_getElem?_getD, List.getElem?_set_ne this]
theorem nth_putD_same {t t' : List V} {v : V} {x : Nat} (h : t.length = t'.length) : nth (putD t (some x) v) x = nth (putD t' (some x) v) x := by
  simp only [putD, upd_eq, nth_eq, List.getD_eq_getElem?_getD, List.getElem?_set, h]
  by_cases hl : x < t'.length
  · simp [hl]
  · simp [hl]

section
open Classical
variable {P : Program} {call : V → List V → H → RO} (N : Nat) (o : Nat → O) (ft : Nat → Foot) (T : Nat → List V) (S : Nat → H)

def touch (i b : Nat) : Prop := b ∈ (ft i).wr ∨ ((S i).next ≤ b ∧ b < (S (i + 1)).next)
noncomputable def ver (D : Nat → Prop) (b : Nat) : Nat → Option Blk
  | 0 => (S 0).get b
  | n + 1 => if D n ∧ touch ft S n b then (S (n + 1)).get b else ver D b n
noncomputable def vt (D : Nat → Prop) (x : Nat) : Nat → V
  | 0 => nth (T 0) x
  | n + 1 => if D n ∧ (o n).dst = some x then nth (T (n + 1)) x else vt D x n

structure Run (call : V → List V → H → RO) (pr : Nat → Nat → Prop) : Prop where
  at' : ∀ i, i < N → At call (o i) (T i) (S i) (T (i + 1)) (S (i + 1)) (ft i)
  ind : ∀ i j, i < j → j < N → ¬ pr i j → Ind (o i) (o j) (ft i) (ft j)
  wf : WF (S 0)

variable {N o ft T S}
variable {pr : Nat → Nat → Prop} {D D' : Nat → Prop} {i j n m b x : Nat}

theorem Run.nx (hr : Run N o ft T S call pr) : ∀ (j i : Nat), i ≤ j → j ≤ N → (S i).next ≤ (S j).next
  | 0, i, h1, _ => by rw [Nat.le_zero.1 h1]; exact Nat.le_refl _
  | j + 1, i, h1, h2 => by
    rcases Nat.lt_or_ge j i with h | h
    · rw [show i = j + 1 by omega]; exact Nat.le_refl _
    · exact Nat.le_trans (hr.nx j i h (by omega)) (hr.at' j (by omega)).nx
theorem Run.wfs (hr : Run N o ft T S call pr) : ∀ (i : Nat), i ≤ N → WF (S i)
  | 0, _ => hr.wf
  | i + 1, h => (hr.at' i (by omega)).wf (hr.wfs i (by omega))
theorem Run.len (hr : Run N o ft T S call pr) : ∀ (i : Nat), i ≤ N → (T i).length = (T 0).length
  | 0, _ => rfl
  | i + 1, h => by
    have a := (hr.at' i (by omega)).run
    rw [← hr.len i (by omega)]
    rcases a with ⟨_, v, hh, _, e, _⟩ | ⟨_, e, _⟩ <;> rw [e, putD_length]

theorem Run.same (hr : Run N o ft T S call pr) (hi : i < N) (ht : ¬ touch ft S i b) : (S (i + 1)).get b = (S i).get b := by
  have a := hr.at' i hi
  rw [touch, not_or] at ht
  by_cases hb : b < (S i).next
  · exact a.same b hb ht.1
  · rw [(hr.wfs i (by omega)).1 b (by omega), (hr.wfs (i + 1) (by omega)).1 b (Nat.le_of_not_lt fun h => ht.2 ⟨by omega, h⟩)]
theorem Run.sameT (hr : Run N o ft T S call pr) (hi : i < N) (ht : (o i).dst ≠ some x) : nth (T (i + 1)) x = nth (T i) x := by
  rcases (hr.at' i hi).run with ⟨_, v, hh, _, e, _⟩ | ⟨_, e, _⟩ <;> rw [e, nth_putD ht]

theorem ver_text (hr : Run N o ft T S call pr) : ∀ (n : Nat), n ≤ N → (∀ j, j < n → touch ft S j b → D j) → ver ft S D b n = (S n).get b
  | 0, _, _ => rfl
  | n + 1, hn, h => by
    rw [ver]
    split
    · rfl
    · rename_i hno
      have ht : ¬ touch ft S n b := fun ht => hno ⟨h n (by omega) ht, ht⟩
      rw [ver_text hr n (by omega) (fun j hj => h j (by omega)), hr.same (by omega) ht]
theorem vt_text (hr : Run N o ft T S call pr) : ∀ (n : Nat), n ≤ N → (∀ j, j < n → (o j).dst = some x → D j) → vt o T D x n = nth (T n) x
  | 0, _, _ => rfl
  | n + 1, hn, h => by
    rw [vt]
    split
    · rfl
    · rename_i hno
      have ht : (o n).dst ≠ some x := fun ht => hno ⟨h n (by omega) ht, ht⟩
      rw [vt_text hr n (by omega) (fun j hj => h j (by omega)), hr.sameT (by omega) ht]
theorem ver_stop (n : Nat) : ∀ (m : Nat), n ≤ m → (∀ j, n ≤ j → j < m → ¬ (D j ∧ touch ft S j b)) → ver ft S D b m = ver ft S D b n
  | 0, h, _ => by rw [Nat.le_zero.1 h]
  | m + 1, h, hno => by
    rcases Nat.lt_or_ge m n with hl | hl
    · rw [show n = m + 1 by omega]
    · rw [ver, if_neg (hno m hl (by omega))]
      exact ver_stop n m hl fun j h1 h2 => hno j h1 (by omega)
theorem vt_stop (n : Nat) : ∀ (m : Nat), n ≤ m → (∀ j, n ≤ j → j < m → ¬ (D j ∧ (o j).dst = some x)) → vt o T D x m = vt o T D x n
  | 0, h, _ => by rw [Nat.le_zero.1 h]
  | m + 1, h, hno => by
    rcases Nat.lt_or_ge m n with hl | hl
    · rw [show n = m + 1 by omega]
    · rw [vt, if_neg (hno m hl (by omega))]
      exact vt_stop n m hl fun j h1 h2 => hno j h1 (by omega)
theorem ver_hit (hi : D i) (ht : touch ft S i b) (him : i < m) (hno : ∀ j, i < j → j < m → ¬ (D j ∧ touch ft S j b)) : ver ft S D b m = (S (i + 1)).get b := by
  rw [ver_stop (i + 1) m him (fun j h1 h2 => hno j h1 h2), ver, if_pos ⟨hi, ht⟩]
theorem vt_hit (hi : D i) (ht : (o i).dst = some x) (him : i < m) (hno : ∀ j, i < j → j < m → ¬ (D j ∧ (o j).dst = some x)) : vt o T D x m = nth (T (i + 1)) x := by
  rw [vt_stop (i + 1) m him (fun j h1 h2 => hno j h1 h2), vt, if_pos ⟨hi, ht⟩]
theorem ver_same : ∀ (m : Nat), (∀ j, j < m → touch ft S j b → (D j ↔ D' j)) → ver ft S D b m = ver ft S D' b m
  | 0, _ => rfl
  | m + 1, h => by
    rw [ver, ver, ver_same m fun j hj => h j (by omega)]
    by_cases ht : touch ft S m b
    · simp only [h m (by omega) ht]
    · simp [ht]
theorem vt_same : ∀ (m : Nat), (∀ j, j < m → (o j).dst = some x → (D j ↔ D' j)) → vt o T D x m = vt o T D' x m
  | 0, _ => rfl
  | m + 1, h => by
    rw [vt, vt, vt_same m fun j hj => h j (by omega)]
    by_cases ht : (o m).dst = some x
    · simp only [h m (by omega) ht]
    · simp [ht]

/-- a block made by the step i. -/
def born (S : Nat → H) (i b : Nat) : Prop := (S i).next ≤ b ∧ b < (S (i + 1)).next
theorem born_one (hr : Run N o ft T S call pr) (hi : i < N) (hj : j < N) (h1 : born S i b) (h2 : born S j b) : i = j := by
  rcases Nat.lt_trichotomy i j with h | h | h
  · have := hr.nx j (i + 1) h (by omega)
    have := h1.2; have := h2.1; omega
  · exact h
  · have := hr.nx i (j + 1) h (by omega)
    have := h1.1; have := h2.2; omega

structure Inv (P : Program) (N : Nat) (o : Nat → O) (ft : Nat → Foot) (T : Nat → List V) (S : Nat → H) (mk : Nat) (R0 : Emb) (w0 : World) (D : Nat → Prop) (R : Emb) (w : World) (a : Act) : Prop where
  sub : ∀ j, D j → j < N
  tm : ∃ th, concL R th = some a.tmps.toList ∧ th.length = (T 0).length ∧ ∀ x, nth th x = vt o T D x N
  sim : Sim P allB R (fun b => ver ft S D b N) w
  brn : ∀ b x, R b = some x → b < (S 0).next ∨ (S N).next ≤ b ∨ ∃ j, D j ∧ born S j b
  own : ∀ j, D j → ∀ b ∈ (ft j).wr, ∃ x, R b = some x
  le : R0.le R
  size : w0.heap.size ≤ w.heap.size
  new : ∀ b c sz, R b = some (c, sz) → R0 b = some (c, sz) ∨ ((S 0).next ≤ b ∧ b < (S N).next ∧ (w0.heap.size ≤ c ∨ ∃ b0 sz0, R0 b0 = some (c, sz0) ∧ ∃ j, j < N ∧ b0 ∈ (ft j).wr))
  frame : ∀ c, c < w0.heap.size → (∀ b sz, R0 b = some (c, sz) → ¬ ∃ j, j < N ∧ b ∈ (ft j).wr) → w.heap[c]? = w0.heap[c]?
  marks : Marks mk R w a.defers
  io : SameIO w0 w

variable {mk : Nat} {R0 R R' : Emb} {w0 w w' : World} {a : Act}

/-- the facts of one more operation: closed sets, and what is not ordered. -/
structure Nxt (N : Nat) (pr : Nat → Nat → Prop) (D : Nat → Prop) (i : Nat) : Prop where
  lt : i < N
  not : ¬ D i
  pre : ∀ p, pr p i → D p
  cl : ∀ j p, D j → pr p j → D p
  sub : ∀ j, D j → j < N

theorem Nxt.before (hn : Nxt N pr D i) (hr : Run N o ft T S call pr) (hj : j < i) (hD : ¬ D j) : Ind (o j) (o i) (ft j) (ft i) := hr.ind j i hj hn.lt fun hp => hD (hn.pre j hp)
theorem Nxt.after (hn : Nxt N pr D i) (hr : Run N o ft T S call pr) (hj : i < j) (hjN : j < N) (hD : D j) : Ind (o i) (o j) (ft i) (ft j) := hr.ind i j hj hjN fun hp => hn.not (hn.cl j i hD hp)

/-- the operation looks at what it looked at in the text's order: temporaries. -/
theorem Nxt.tmp (hn : Nxt N pr D i) (hr : Run N o ft T S call pr) (hx : x ∈ usesO (o i)) : vt o T D x N = nth (T i) x := by
  have hi := hn.lt
  rw [vt_stop i N (by omega), vt_text hr i (by omega)]
  · intro j hj hd
    exact Classical.byContradiction fun hD => ((hn.before hr hj hD).d1 x hd).1 hx
  · rintro j h1 h2 ⟨hD, hd⟩
    rcases Nat.eq_or_lt_of_le h1 with rfl | h1
    · exact hn.not hD
    · exact (hn.after hr h1 h2 hD).d2 x hd hx

/-- .. and blocks. -/
theorem Nxt.blk (hn : Nxt N pr D i) (hr : Run N o ft T S call pr) (hborn : ∀ y, R b = some y → b < (S 0).next ∨ (S N).next ≤ b ∨ ∃ j, D j ∧ born S j b) {y : Nat × Nat} (hR : R b = some y)
    (hF : ∀ r, (ft i).rd = some r → b ∈ r) (hb : b < (S i).next) : ver ft S D b N = (S i).get b := by
  have hi := hn.lt
  rw [ver_stop i N (by omega), ver_text hr i (by omega)]
  · rintro j hj (ht | ht)
    · refine Classical.byContradiction fun hD => ?_
      obtain ⟨q1, q2, _⟩ := (hn.before hr hj hD).m1 b ht
      cases hrd : (ft i).rd with
      | none => exact q2 hrd
      | some r => exact q1 r hrd (hF r hrd)
    · rcases hborn y hR with h | h | ⟨j', hD, hj'⟩
      · have := hr.nx j 0 (by omega) (by omega)
        have := ht.1; omega
      · have := hr.nx N (j + 1) (by omega) (by omega)
        have := ht.2; omega
      · rw [born_one hr (by omega) (hn.sub j' hD) ht hj']; exact hD
  · rintro j h1 h2 ⟨hD, ht⟩
    rcases Nat.eq_or_lt_of_le h1 with rfl | h1
    · exact hn.not hD
    · rcases ht with ht | ht
      · obtain ⟨q1, q2, _⟩ := (hn.after hr h1 h2 hD).m2 b ht
        cases hrd : (ft i).rd with
        | none => exact q2 hrd
        | some r => exact q1 r hrd (hF r hrd)
      · have := hr.nx j i (by omega) (by omega)
        have := ht.1; omega
end
end Go.Air
