/-
  The relation of Air's heap and the world; what a step may change; reading, writing and making blocks on both sides.
-/
import Derived.Test.YtlldpmkdjpmlpaaCheck
import Derived.RangeFuncLeaves
set_option linter.unusedSectionVars false
set_option linter.unusedVariables false
set_option linter.unusedSimpArgs false
namespace Go.Air

/-! ### Numbered storage -/
theorem T.get_setF {α : Type} (v : Option α) : ∀ (f : Nat) (t : T α) (k j : Nat), k < f → (T.setF f t k v).get j = if j = k then v else t.get j
  | 0, _, _, _, h => by omega
  | f + 1, .e, 0, j, _ => by cases j <;> simp [T.setF, T.get]; split <;> rfl
  | f + 1, .n l x r, 0, j, _ => by cases j <;> simp [T.setF, T.get]
  | f + 1, .e, k + 1, 0, h => by
    simp only [T.setF]
    cases hk : k % 2 <;> simp [T.get]
  | f + 1, .n l x r, k + 1, 0, h => by
    simp only [T.setF]
    cases hk : k % 2 <;> simp [T.get]
  | f + 1, .e, k + 1, j + 1, h => by
    simp only [T.setF]
    cases hk : k % 2 with
    | zero =>
      simp only [T.get]
      cases hj : j % 2 with
      | zero => simp only [T.get_setF v f .e (k / 2) (j / 2) (by omega), T.get]; simp only [show (j / 2 = k / 2) = (j + 1 = k + 1) from propext ⟨fun _ => by omega, fun _ => by omega⟩]
      | succ n => simp only []; rw [if_neg (by omega)]
    | succ m =>
      simp only [T.get]
      cases hj : j % 2 with
      | zero => simp only []; rw [if_neg (by omega)]
      | succ n => simp only [T.get_setF v f .e (k / 2) (j / 2) (by omega), T.get]; simp only [show (j / 2 = k / 2) = (j + 1 = k + 1) from propext ⟨fun _ => by omega, fun _ => by omega⟩]
  | f + 1, .n l x r, k + 1, j + 1, h => by
    simp only [T.setF]
    cases hk : k % 2 with
    | zero =>
      simp only [T.get]
      cases hj : j % 2 with
      | zero => simp only [T.get_setF v f l (k / 2) (j / 2) (by omega)]; simp only [show (j / 2 = k / 2) = (j + 1 = k + 1) from propext ⟨fun _ => by omega, fun _ => by omega⟩]
      | succ n => simp only []; rw [if_neg (by omega)]
    | succ m =>
      simp only [T.get]
      cases hj : j % 2 with
      | zero => simp only []; rw [if_neg (by omega)]
      | succ n => simp only [T.get_setF v f r (k / 2) (j / 2) (by omega)]; simp only [show (j / 2 = k / 2) = (j + 1 = k + 1) from propext ⟨fun _ => by omega, fun _ => by omega⟩]

theorem T.get_set {α : Type} (t : T α) (k j : Nat) (v : Option α) : (t.set k v).get j = if j = k then v else t.get j := T.get_setF v (k + 1) t k j (by omega)

theorem H.get_new (h : H) (x : Blk) (b : Nat) : (h.new x).get b = if b = h.next then some x else h.get b := T.get_set ..
theorem H.get_put (h : H) (c : Nat) (x : Blk) (b : Nat) : (h.put c x).get b = if b = c then some x else h.get b := T.get_set ..
theorem H.get_kill (h : H) (c : Nat) (b : Nat) : (h.kill c).get b = if b = c then none else h.get b := T.get_set ..
@[simp] theorem H.next_new (h : H) (x : Blk) : (h.new x).next = h.next + 1 := rfl
@[simp] theorem H.next_put (h : H) (c : Nat) (x : Blk) : (h.put c x).next = h.next := rfl
@[simp] theorem H.next_kill (h : H) (c : Nat) : (h.kill c).next = h.next := rfl
@[simp] theorem H.log_new (h : H) (x : Blk) : (h.new x).log = h.log := rfl
@[simp] theorem H.log_put (h : H) (c : Nat) (x : Blk) : (h.put c x).log = c :: h.log := rfl
@[simp] theorem H.log_kill (h : H) (c : Nat) : (h.kill c).log = c :: h.log := rfl

/-! ### The relation -/
def stateOf : LState → LoopState
  | .ready => .ready
  | .busy => .busy
  | .done => .done
  | .over => .exhausted
def pendOf : Option Out → Option Code
  | none => none
  | some .norm => none
  | some (.exit i) => some (.exit i)
  | some .ret => some .ret

def concM (R : Emb) : List (V × V) → Option (List (Value × Value))
  | [] => some []
  | (k, v) :: l => match conc R k, conc R v, concM R l with
    | some k, some v, some l => some ((k, v) :: l)
    | _, _, _ => none
theorem concM_cons {R : Emb} {k v : V} {l : List (V × V)} {vs : List (Value × Value)} :
    concM R ((k, v) :: l) = some vs ↔ ∃ x y w, conc R k = some x ∧ conc R v = some y ∧ concM R l = some w ∧ vs = (x, y) :: w := by
  simp only [concM]
  cases conc R k <;> cases conc R v <;> cases concM R l <;> simp [eq_comm]
theorem concM_mono {R R' : Emb} (h : R.le R') : ∀ (l : List (V × V)) (vs : List (Value × Value)), concM R l = some vs → concM R' l = some vs
  | [], vs, hx => by simpa [concM] using hx
  | (k, v) :: l, vs, hx => by
    obtain ⟨x, y, w, h1, h2, h3, rfl⟩ := concM_cons.1 hx
    exact concM_cons.2 ⟨x, y, w, conc_mono h _ _ h1, conc_mono h _ _ h2, concM_mono h l w h3, rfl⟩

section
variable (P : Program)

/-- What lies in the world at block c. -/
def BlkRel (R : Emb) (w : World) (c sz : Nat) : Blk → Prop
  | .cells cs => ∃ arr e vs rest, w.heap[c]? = some (.cells arr e (0, 0)) ∧ concL R cs = some vs ∧ arr.toList = vs ++ rest ∧ arr.size = sz
  | .ro cs => ∃ arr e f, w.heap[c]? = some (.cells arr e f) ∧ arr.size = cs.length ∧ ∀ (i : Nat) (v : V), cs[i]? = some (some v) → ∃ x, arr.toList[i]? = some x ∧ conc R v = some x
  | .map es => ∃ arr ck, w.heap[c]? = some (.map arr ck) ∧ concM R es = some (arr.toList.map fun e => (e.key, e.val))
  | .loop lp => ∃ L : Go.Loop, w.heap[c]? = some (.loop L) ∧ L.state = stateOf lp.state ∧ L.pending = pendOf lp.pending ∧ concL R lp.tmps = some L.tmps.toList ∧
      L.params.toList = lp.params ∧ okC P L.assign lp.asg = true ∧ okC P L.body lp.body = true

theorem BlkRel.mono {R R' : Emb} (hR : R.le R') {w w' : World} {c sz : Nat} {x : Blk} (h : BlkRel P R w c sz x) (hw : w'.heap[c]? = w.heap[c]?) : BlkRel P R' w' c sz x := by
  cases x with
  | cells cs => obtain ⟨arr, e, vs, rest, h1, h2, h3, h4⟩ := h; exact ⟨arr, e, vs, rest, hw.trans h1, concL_mono hR _ _ h2, h3, h4⟩
  | ro cs =>
    obtain ⟨arr, e, f, h1, h2, h3⟩ := h
    refine ⟨arr, e, f, hw.trans h1, h2, fun i v hi => ?_⟩
    obtain ⟨x, q1, q2⟩ := h3 i v hi
    exact ⟨x, q1, conc_mono hR _ _ q2⟩
  | map es => obtain ⟨arr, ck, h1, h2⟩ := h; exact ⟨arr, ck, hw.trans h1, concM_mono hR _ _ h2⟩
  | loop lp => obtain ⟨L, h1, h2, h3, h4, h5⟩ := h; exact ⟨L, hw.trans h1, h2, h3, concL_mono hR _ _ h4, h5⟩

structure Sim (F : Nat → Prop) (R : Emb) (mem : Nat → Option Blk) (w : World) : Prop where
  blk : ∀ b c sz x, F b → R b = some (c, sz) → mem b = some x → BlkRel P R w c sz x
  inj : ∀ b b' c sz sz' x x', F b → F b' → R b = some (c, sz) → R b' = some (c, sz') → mem b = some x → mem b' = some x' → b = b'
  lt : ∀ b c sz, R b = some (c, sz) → c < w.heap.size

/-- what a step leaves alone beside the heap. -/
def SameIO (w w' : World) : Prop := w'.os = w.os ∧ w'.tape = w.tape ∧ w'.output = w.output
theorem SameIO.refl (w : World) : SameIO w w := ⟨rfl, rfl, rfl⟩
theorem SameIO.trans {w w1 w2 : World} (a : SameIO w w1) (b : SameIO w1 w2) : SameIO w w2 := ⟨b.1.trans a.1, b.2.1.trans a.2.1, b.2.2.trans a.2.2⟩

structure Fwd (R R' : Emb) (h h' : H) (w w' : World) (l : List Nat) : Prop where
  le : R.le R'
  log : h'.log = l ++ h.log
  nx : h.next ≤ h'.next
  size : w.heap.size ≤ w'.heap.size
  new : ∀ b c sz, R' b = some (c, sz) → R b = some (c, sz) ∨ (h.next ≤ b ∧ b < h'.next ∧ (w.heap.size ≤ c ∨ ∃ b0 sz0, R b0 = some (c, sz0) ∧ b0 ∈ l))
  same : ∀ b, b < h.next → b ∉ l → h'.get b = h.get b
  frame : ∀ c, c < w.heap.size → (∀ b sz, R b = some (c, sz) → b ∉ l) → w'.heap[c]? = w.heap[c]?
  own : ∀ b ∈ l, (h.next ≤ b ∧ b < h'.next) ∨ ((∃ x, R b = some x) ∧ (b < h.next → ∃ y, h.get b = some y))
  io : SameIO w w'

theorem Fwd.refl (R : Emb) (h : H) (w : World) : Fwd R R h h w w [] :=
  ⟨R.le_refl, rfl, Nat.le_refl _, Nat.le_refl _, fun _ _ _ h => .inl h, fun _ _ _ => rfl, fun _ _ _ => rfl, fun _ hb => by simp at hb, .refl w⟩

theorem Fwd.trans {R R1 R2 : Emb} {h h1 h2 : H} {w w1 w2 : World} {l1 l2 : List Nat} (a : Fwd R R1 h h1 w w1 l1) (b : Fwd R1 R2 h1 h2 w1 w2 l2) : Fwd R R2 h h2 w w2 (l2 ++ l1) where
  io := a.io.trans b.io
  le := Emb.le_trans a.le b.le
  log := by rw [b.log, a.log, List.append_assoc]
  nx := Nat.le_trans a.nx b.nx
  size := Nat.le_trans a.size b.size
  new := by
    intro x c sz hx
    rcases b.new x c sz hx with h' | ⟨h1', h2', h3'⟩
    · rcases a.new x c sz h' with h' | ⟨q1, q2, q3⟩
      · exact .inl h'
      · refine .inr ⟨q1, Nat.lt_of_lt_of_le q2 b.nx, ?_⟩
        rcases q3 with q3 | ⟨b0, s0, q3, q4⟩
        · exact .inl q3
        · exact .inr ⟨b0, s0, q3, List.mem_append.2 (.inr q4)⟩
    · refine .inr ⟨Nat.le_trans a.nx h1', h2', ?_⟩
      rcases h3' with h3' | ⟨b0, s0, h3', h4'⟩
      · exact .inl (Nat.le_trans a.size h3')
      · rcases a.new b0 c s0 h3' with h' | ⟨q1, q2, q3⟩
        · exact .inr ⟨b0, s0, h', List.mem_append.2 (.inl h4')⟩
        · rcases q3 with q3 | ⟨b1, s1, q3, q4⟩
          · exact .inl q3
          · exact .inr ⟨b1, s1, q3, List.mem_append.2 (.inr q4)⟩
  same := by
    intro x hx hl
    rw [List.mem_append, not_or] at hl
    rw [b.same x (Nat.lt_of_lt_of_le hx a.nx) hl.1, a.same x hx hl.2]
  frame := by
    intro c hc hl
    rw [b.frame c (Nat.lt_of_lt_of_le hc a.size) ?_, a.frame c hc (fun x sz hx hm => hl x sz hx (List.mem_append.2 (.inr hm)))]
    intro x sz hx hm
    rcases a.new x c sz hx with h' | ⟨q1, q2, q3⟩
    · exact hl x sz h' (List.mem_append.2 (.inl hm))
    · rcases q3 with q3 | ⟨b0, s0, q3, q4⟩
      · omega
      · exact hl b0 s0 q3 (List.mem_append.2 (.inr q4))
  own := by
    intro x hx
    have hn := a.nx
    have hn' := b.nx
    have left : ∀ y ∈ l1, (h.next ≤ y ∧ y < h2.next) ∨ ((∃ z, R y = some z) ∧ (y < h.next → ∃ z, h.get y = some z)) := by
      intro y hy
      rcases a.own y hy with q | q
      · exact .inl ⟨q.1, by omega⟩
      · exact .inr q
    rcases List.mem_append.1 hx with hx | hx
    · rcases b.own x hx with q | ⟨⟨z, q1⟩, q2⟩
      · exact .inl ⟨by omega, q.2⟩
      · by_cases hl : x ∈ l1
        · exact left x hl
        · obtain ⟨c, sz⟩ := z
          rcases a.new x c sz q1 with q | ⟨q3, q4, _⟩
          · refine .inr ⟨⟨_, q⟩, fun hlt => ?_⟩
            obtain ⟨y, hy⟩ := q2 (by omega)
            exact ⟨y, by rw [← a.same x hlt hl]; exact hy⟩
          · exact .inl ⟨q3, by omega⟩
    · exact left x hx

def Fresh (R : Emb) (h h' : H) : Prop := ∀ b, h.next ≤ b → b < h'.next → R b = none

theorem Fresh.left {R : Emb} {h h1 h2 : H} (hf : Fresh R h h2) (hn : h1.next ≤ h2.next) : Fresh R h h1 := fun b h1' h2' => hf b h1' (by omega)
theorem Fresh.right {R R1 : Emb} {h h1 h2 : H} {w w1 : World} {l : List Nat} (hf : Fresh R h h2) (a : Fwd R R1 h h1 w w1 l) : Fresh R1 h1 h2 := by
  intro b hb1 hb2
  have hn := a.nx
  cases hr : R1 b with
  | none => rfl
  | some x =>
    obtain ⟨c, sz⟩ := x
    rcases a.new b c sz hr with h' | ⟨q1, q2, _⟩
    · rw [hf b (by omega) hb2] at h'; cases h'
    · omega

/-- An operation's outcome: a value, and all that is said of the step. -/
def PostV (F : Nat → Prop) (R : Emb) (h : H) (w : World) (v : V) (h' : H) (x : Value) (w' : World) : Prop :=
  ∃ R' l, Fwd R R' h h' w w' l ∧ Sim P F R' h'.get w' ∧ conc R' v = some x

variable {P}
theorem PostV.same {F : Nat → Prop} {R : Emb} {h : H} {w : World} {v : V} {x : Value} (hs : Sim P F R h.get w) (hv : conc R v = some x) : PostV P F R h w v h x w :=
  ⟨R, [], .refl R h w, hs, hv⟩

/-! ### Making a block -/
def Emb.add (R : Emb) (b : Nat) (x : Nat × Nat) : Emb := fun c => if c = b then some x else R c
theorem Emb.le_add {R : Emb} {b : Nat} {x : Nat × Nat} (h : R b = none) : R.le (R.add b x) := by
  intro c y hc
  simp only [Emb.add]
  split
  · rename_i e; subst e; rw [h] at hc; cases hc
  · exact hc
theorem Emb.add_self {R : Emb} {b : Nat} {x : Nat × Nat} : R.add b x b = some x := by simp [Emb.add]

theorem heap_push_lt {w : World} {o : Obj} {c : Nat} (h : c < w.heap.size) : (w.alloc o).heap[c]? = w.heap[c]? := by
  simp only [World.alloc, Array.getElem?_push]
  rw [if_neg (by omega)]
theorem heap_push_eq {w : World} {o : Obj} : (w.alloc o).heap[w.heap.size]? = some o := by
  show (w.heap.push o)[w.heap.size]? = some o
  simp

theorem new_step {F : Nat → Prop} {R : Emb} {h : H} {w : World} {o : Obj} {x : Blk} {sz : Nat} (hs : Sim P F R h.get w) (hf : R h.next = none)
    (hx : ∀ w' : World, w'.heap[w.heap.size]? = some o → BlkRel P (R.add h.next (w.heap.size, sz)) w' w.heap.size sz x) :
    Fwd R (R.add h.next (w.heap.size, sz)) h (h.new x) w (w.alloc o) [] ∧ Sim P F (R.add h.next (w.heap.size, sz)) (h.new x).get (w.alloc o) := by
  have hle : R.le (R.add h.next (w.heap.size, sz)) := Emb.le_add hf
  refine ⟨⟨hle, rfl, by simp, by simp, ?_, ?_, ?_, fun _ hb => by simp at hb, ⟨rfl, rfl, rfl⟩⟩, ⟨?_, ?_, ?_⟩⟩
  · intro b c s hb
    simp only [Emb.add] at hb
    split at hb
    · rename_i e; subst e
      simp only [Option.some.injEq, Prod.mk.injEq] at hb
      exact .inr ⟨Nat.le_refl _, by simp, .inl (by omega)⟩
    · exact .inl hb
  · intro b hb _
    rw [H.get_new, if_neg (by omega)]
  · intro c hc _
    exact heap_push_lt hc
  · intro b c s y hFb hb hy
    simp only [Emb.add] at hb
    rw [H.get_new] at hy
    split at hb
    · rename_i e; subst e
      rw [if_pos rfl] at hy
      simp only [Option.some.injEq, Prod.mk.injEq] at hb hy
      obtain ⟨rfl, rfl⟩ := hb
      subst hy
      exact hx _ heap_push_eq
    · rename_i e
      rw [if_neg e] at hy
      exact (hs.blk b c s y hFb hb hy).mono P hle (heap_push_lt (hs.lt b c s hb))
  · intro b b' c s s' y y' hF hF' hb hb' hy hy'
    simp only [Emb.add] at hb hb'
    rw [H.get_new] at hy hy'
    split at hb <;> split at hb'
    · rename_i e e'; rw [e, e']
    · simp only [Option.some.injEq, Prod.mk.injEq] at hb
      have := hs.lt b' c s' hb'
      omega
    · simp only [Option.some.injEq, Prod.mk.injEq] at hb'
      have := hs.lt b c s hb
      omega
    · rename_i e e'
      rw [if_neg e] at hy; rw [if_neg e'] at hy'
      exact hs.inj b b' c s s' y y' hF hF' hb hb' hy hy'
  · intro b c s hb
    simp only [Emb.add] at hb
    split at hb
    · simp only [Option.some.injEq, Prod.mk.injEq] at hb
      simp; omega
    · have := hs.lt b c s hb
      simp; omega

/-! ### Writing a block -/
theorem put_step {F : Nat → Prop} {R : Emb} {h : H} {w w' : World} {x y : Blk} {b c sz : Nat} (hs : Sim P F R h.get w) (hF : F b) (hb : R b = some (c, sz)) (hy : h.get b = some y)
    (hio : SameIO w w') (hsize : w'.heap.size = w.heap.size) (hother : ∀ d, d ≠ c → w'.heap[d]? = w.heap[d]?) (hx : BlkRel P R w' c sz x) :
    Fwd R R h (h.put b x) w w' [b] ∧ Sim P F R (h.put b x).get w' := by
  refine ⟨⟨R.le_refl, rfl, by simp, by omega, fun _ _ _ h => .inl h, ?_, ?_, fun d hd => .inr (by simp at hd; subst hd; exact ⟨⟨_, hb⟩, fun _ => ⟨_, hy⟩⟩), hio⟩, ⟨?_, ?_, ?_⟩⟩
  · intro d _ hd
    rw [H.get_put, if_neg (by simpa using hd)]
  · intro d _ hl
    exact hother d (fun e => hl b sz (e ▸ hb) (by simp))
  · intro d e s z hFd hd hz
    rw [H.get_put] at hz
    split at hz
    · rename_i e'; subst e'
      rw [hb] at hd
      simp only [Option.some.injEq, Prod.mk.injEq] at hd hz
      obtain ⟨rfl, rfl⟩ := hd
      subst hz
      exact hx
    · rename_i ne
      refine (hs.blk d e s z hFd hd hz).mono P R.le_refl (hother e ?_)
      intro ee; subst ee
      exact ne (hs.inj d b e s sz z y hFd hF hd hb hz hy)
  · intro d d' e s s' z z' hF1 hF2 hd hd' hz hz'
    rw [H.get_put] at hz hz'
    split at hz <;> split at hz'
    · rename_i e1 e2; rw [e1, e2]
    · rename_i e1 e2; subst e1; exact hs.inj d d' e s s' y z' hF1 hF2 hd hd' hy hz'
    · rename_i e1 e2; subst e2; exact hs.inj d d' e s s' z y hF1 hF2 hd hd' hz hy
    · exact hs.inj d d' e s s' z z' hF1 hF2 hd hd' hz hz'
  · intro d e s hd
    rw [hsize]; exact hs.lt d e s hd

/-! ### Cells -/
theorem cell_at {w : World} {c o : Nat} {arr : Array Value} {e : TypeId} {f : Nat × Nat} {v : Value} (h : w.heap[c]? = some (.cells arr e f)) (hv : arr.toList[o]? = some v) : w.cell? ⟨c, o, none⟩ = some v := by
  simp only [World.cell?, h]
  simpa using hv
theorem add_spot (c o i : Nat) : (⟨c, o, none⟩ : Addr).add i = ⟨c, o + i, none⟩ := by
  unfold Addr.add
  split
  · rename_i h; subst h; rfl
  · rfl

theorem run_loadCells_at {w : World} {c o n : Nat} {arr : Array Value} {e : TypeId} {f : Nat × Nat} {vs rest : List Value} (h : w.heap[c]? = some (.cells arr e f)) (harr : arr.toList = vs ++ rest)
    (hn : o + n ≤ vs.length) : (loadCells ⟨c, o, none⟩ n).run P w = .ok ((vs.drop o).take n).toArray w := by
  have hl : ((vs.drop o).take n).length = n := by simp; omega
  have := run_loadCells_list (P := P) w ⟨c, o, none⟩ ((vs.drop o).take n) (fun j v hj => by
    rw [add_spot]
    refine cell_at h ?_
    have hj' : j < n := by
      have := (List.getElem?_eq_some_iff.1 hj).1
      omega
    rw [harr, List.getElem?_append_left (by omega)]
    rw [List.getElem?_take_of_lt hj', List.getElem?_drop] at hj
    exact hj)
  rw [hl] at this
  exact this

theorem nthO_eq : ∀ {cs : List (Option V)} {o : Nat} {v : V}, nthO cs o = some v → cs[o]? = some (some v)
  | [], _, _, h => by simp [nthO] at h
  | x :: _, 0, _, h => by simp only [nthO] at h; simp [h]
  | _ :: l, o + 1, v, h => by simpa using nthO_eq (cs := l) (o := o) h
theorem cutO_eq : ∀ {cs : List (Option V)} {o n : Nat} {l : List V}, cutO cs o n = some l → l.length = n ∧ ∀ (i : Nat) (v : V), l[i]? = some v → cs[o + i]? = some (some v)
  | [], 0, 0, _, h => by simp [cutO] at h; subst h; simp
  | _ :: _, 0, 0, _, h => by simp [cutO] at h; subst h; simp
  | [], 0, _ + 1, _, h => by simp [cutO] at h
  | [], _ + 1, _, _, h => by simp [cutO] at h
  | x :: cs, 0, n + 1, l, h => by
    simp only [cutO] at h
    split at h <;> try simp at h
    rename_i v
    obtain ⟨l', h1, rfl⟩ := h
    obtain ⟨q1, q2⟩ := cutO_eq h1
    refine ⟨by simp [q1], fun i u hu => ?_⟩
    cases i with
    | zero => simpa using hu
    | succ i =>
      have := q2 i u (by simpa using hu)
      simpa using this
  | _ :: cs, o + 1, n, l, h => by
    simp only [cutO] at h
    obtain ⟨q1, q2⟩ := cutO_eq h
    refine ⟨q1, fun i u hu => ?_⟩
    have := q2 i u hu
    rw [show o + 1 + i = (o + i) + 1 by omega]
    simpa using this

/-- a read on both sides. -/
theorem rd1_at {F : Nat → Prop} {R : Emb} {h : H} {w : World} {b c sz o : Nat} {bl : Blk} {v : V} (hs : Sim P F R h.get w) (hF : F b) (hb : R b = some (c, sz)) (hg : h.get b = some bl) (hv : bl.rd1 o = some v) :
    ∃ u, w.cell? ⟨c, o, none⟩ = some u ∧ conc R v = some u := by
  have hB := hs.blk b c sz bl hF hb hg
  cases bl with
  | cells cs =>
    obtain ⟨arr, e, vs, rest, h1, h2, h3, _⟩ := hB
    simp only [Blk.rd1] at hv
    rw [nth?_eq] at hv
    obtain ⟨u, hu, hc⟩ := concL_get h2 hv
    exact ⟨u, cell_at h1 (by rw [h3, List.getElem?_append_left (List.getElem?_eq_some_iff.1 hu).1]; exact hu), hc⟩
  | ro cs =>
    obtain ⟨arr, e, f, h1, _, h3⟩ := hB
    obtain ⟨x, q1, q2⟩ := h3 o v (nthO_eq hv)
    exact ⟨x, cell_at h1 q1, q2⟩
  | map _ => simp [Blk.rd1] at hv
  | loop _ => simp [Blk.rd1] at hv
theorem concL_of : ∀ {R : Emb} {l : List V}, (∀ (i : Nat) (v : V), l[i]? = some v → ∃ x, conc R v = some x) → ∃ us, concL R l = some us
  | _, [], _ => ⟨[], by simp [concL]⟩
  | R, v :: l, h => by
    obtain ⟨x, hx⟩ := h 0 v (by simp)
    obtain ⟨us, hu⟩ := concL_of (R := R) (l := l) fun i v hi => h (i + 1) v (by simpa using hi)
    exact ⟨x :: us, concL_cons.2 ⟨x, us, hx, hu, rfl⟩⟩
theorem rd_at {F : Nat → Prop} {R : Emb} {h : H} {w : World} {b c sz o n : Nat} {bl : Blk} {l : List V} (hs : Sim P F R h.get w) (hF : F b) (hb : R b = some (c, sz)) (hg : h.get b = some bl) (hv : bl.rd o n = some l) :
    ∃ us, concL R l = some us ∧ us.length = n ∧ (∀ j v, us[j]? = some v → w.cell? ⟨c, o + j, none⟩ = some v) ∧ (loadCells ⟨c, o, none⟩ n).run P w = .ok us.toArray w := by
  have key : ∃ us, concL R l = some us ∧ us.length = n ∧ ∀ j v, us[j]? = some v → w.cell? ⟨c, o + j, none⟩ = some v := by
    have hB := hs.blk b c sz bl hF hb hg
    cases bl with
    | cells cs =>
      obtain ⟨arr, e, vs, rest, h1, h2, h3, _⟩ := hB
      simp only [Blk.rd] at hv
      obtain ⟨hle, rfl⟩ := cut_eq.1 hv
      have hlen := concL_length h2
      refine ⟨_, concL_take n (concL_drop o h2), by simp; omega, fun j v hj => cell_at h1 ?_⟩
      have hj' : j < n := by
        have := (List.getElem?_eq_some_iff.1 hj).1
        simp at this; omega
      rw [h3, List.getElem?_append_left (by omega)]
      rw [List.getElem?_take_of_lt hj', List.getElem?_drop] at hj
      exact hj
    | ro cs =>
      obtain ⟨arr, e, f, h1, _, h3⟩ := hB
      obtain ⟨q1, q2⟩ := cutO_eq hv
      obtain ⟨us, hus⟩ := concL_of (R := R) (l := l) fun i v hi => let ⟨x, _, hx⟩ := h3 (o + i) v (q2 i v hi); ⟨x, hx⟩
      refine ⟨us, hus, by rw [concL_length hus, q1], fun j v hj => ?_⟩
      have hlt : j < l.length := by
        have := (List.getElem?_eq_some_iff.1 hj).1
        rw [concL_length hus] at this; exact this
      obtain ⟨u, hu, hc⟩ := concL_get hus (List.getElem?_eq_getElem hlt)
      obtain ⟨x, x1, x2⟩ := h3 (o + j) _ (q2 j _ (List.getElem?_eq_getElem hlt))
      rw [hc] at x2
      rw [hj] at hu
      cases x2; cases hu
      exact cell_at h1 x1
    | map _ => simp [Blk.rd] at hv
    | loop _ => simp [Blk.rd] at hv
  obtain ⟨us, h1, h2, h3⟩ := key
  refine ⟨us, h1, h2, h3, ?_⟩
  have := run_loadCells_list (P := P) w ⟨c, o, none⟩ us (fun j v hj => by rw [add_spot]; exact h3 j v hj)
  rw [h2] at this
  exact this

theorem setCell_heap {w : World} {c o : Nat} {arr : Array Value} {e : TypeId} {f : Nat × Nat} (v : Value) (h : w.heap[c]? = some (.cells arr e f)) :
    (w.setCell ⟨c, o, none⟩ v).heap[c]? = some (.cells (arr.setIfInBounds o v) e f) ∧ (∀ d, d ≠ c → (w.setCell ⟨c, o, none⟩ v).heap[d]? = w.heap[d]?) := by
  constructor
  · simp [World.setCell, Array.getElem?_modify, h]
  · intro d hd
    simp [World.setCell, Array.getElem?_modify, Ne.symm hd]

theorem list_store {α : Type} (L : List α) (k : Nat) (v : α) (vs : List α) (h : k + 1 + vs.length ≤ L.length) :
    (L.set k v).take (k + 1) ++ vs ++ (L.set k v).drop (k + 1 + vs.length) = L.take k ++ (v :: vs) ++ L.drop (k + (v :: vs).length) := by
  have e : L.set k v = L.take k ++ v :: L.drop (k + 1) := by rw [List.set_eq_take_append_cons_drop, if_pos (by omega)]
  have l1 : (L.take k).length = k := by simp; omega
  rw [e, List.take_append, List.drop_append, l1]
  rw [show k + 1 - k = 1 by omega, show k + 1 + vs.length - k = vs.length + 1 by omega]
  simp only [List.take_take, List.take_succ_cons, List.take_zero, List.drop_succ_cons, List.drop_drop, List.length_cons]
  rw [show min (k + 1) k = k by omega, List.drop_eq_nil_of_le (by omega), List.nil_append, show k + 1 + vs.length = k + (vs.length + 1) by omega]
  simp

theorem run_storeCells_list {c o : Nat} {e : TypeId} : ∀ (vs : List Value) (i : Nat) (w : World) (arr : Array Value), w.heap[c]? = some (.cells arr e (0, 0)) → o + i + vs.length ≤ arr.size →
    (∀ v ∈ vs, v.oneCell' = true) → ∃ w' arr', (storeCells ⟨c, o, none⟩ vs i).run P w = .ok () w' ∧ w'.heap.size = w.heap.size ∧ (∀ d, d ≠ c → w'.heap[d]? = w.heap[d]?) ∧
      w'.heap[c]? = some (.cells arr' e (0, 0)) ∧ arr'.toList = arr.toList.take (o + i) ++ vs ++ arr.toList.drop (o + i + vs.length) ∧ SameIO w w'
  | [], i, w, arr, h, _, _ => ⟨w, arr, by simp [storeCells], rfl, fun _ _ => rfl, h, by simp, .refl w⟩
  | v :: vs, i, w, arr, h, hn, hone => by
    simp only [List.length_cons] at hn
    obtain ⟨h1, h2⟩ := setCell_heap (o := o + i) v h
    obtain ⟨w', arr', r1, r2, r3, r4, r5, r6⟩ := run_storeCells_list (o := o) vs (i + 1) (w.setCell ⟨c, o + i, none⟩ v) (arr.setIfInBounds (o + i) v) h1 (by simp; omega) (fun x hx => hone x (by simp [hx]))
    have hlt : o + i < arr.toList.length := by simp; omega
    have hcell : w.cell? ⟨c, o + i, none⟩ = some arr.toList[o + i] := cell_at h (List.getElem?_eq_getElem hlt)
    have hfz : w.frozen? ⟨c, o + i, none⟩ = false := by simp [World.frozen?, h]
    refine ⟨w', arr', ?_, by simpa using r2, fun d hd => (r3 d hd).trans (h2 d hd), r4, ?_, SameIO.trans ⟨rfl, rfl, rfl⟩ r6⟩
    · simp only [storeCells, Sem.run_bind, add_spot, run_store P w _ v .plain (hone v (by simp)), hcell, hfz, Bool.false_eq_true, if_false, Result.andThen_ok]
      exact r1
    · rw [r5]
      have hlen : o + i + 1 + vs.length ≤ arr.toList.length := by have e1 : arr.toList.length = arr.size := Array.length_toList; omega
      simp only [Array.toList_setIfInBounds]
      rw [show o + (i + 1) = (o + i) + 1 by omega]
      exact list_store arr.toList (o + i) v vs hlen
end
end Go.Air
