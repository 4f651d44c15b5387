/-
  A part of the proof of: The row RowsMemory, from the law in Air.
-/
import Derived.RangeFuncLeaves
import Derived.Laws.StructEq
import Derived.IntWalk
import Derived.ChangeKeysEq
import Derived.RangeFuncCalls
import Derived.RangeFuncNested
import Derived.Scope
import Derived.Test.YtlldpmkdjpmlpaaMeB
set_option linter.unusedSectionVars false
set_option linter.unusedVariables false
set_option linter.unusedSimpArgs false
namespace Go.Air
theorem T.get_setF {α : Type} (v : Option α) : ∀ (f : Nat) (t : T α) (k j : Nat), k < f → (T.setF f t k v).get j = if j = k then v else t.get j
  | 0, _, _, _, h => by omega
  | f + 1, .e, 0, j, _ => by cases j <;> simp [T.setF, T.get]; split <;> rfl
  | f + 1, .n l x r, 0, j, _ => by cases j <;> simp [T.setF, T.get]
  | f + 1, .e, k + 1, 0, h => by
    simp only [T.setF]
    cases hk : k % 2 <;> simp [T.get]
  | f + 1, .n l x r, k + 1, 0, h => by
    simp only [T.setF]
    cases hk : k % 2 <;> simp [T.get]
  | f + 1, .e, k + 1, j + 1, h => by
    simp only [T.setF]
    cases hk : k % 2 with
    | zero =>
      simp only [T.get]
      cases hj : j % 2 with
      | zero => simp only [T.get_setF v f .e (k / 2) (j / 2) (by omega), T.get]; simp only [show (j / 2 = k / 2) = (j + 1 = k + 1) from propext ⟨fun _ => by omega, fun _ => by omega⟩]
      | succ n => simp only []; rw [if_neg (by omega)]
    | succ m =>
      simp only [T.get]
      cases hj : j % 2 with
      | zero => simp only []; rw [if_neg (by omega)]
      | succ n => simp only [T.get_setF v f .e (k / 2) (j / 2) (by omega), T.get]; simp only [show (j / 2 = k / 2) = (j + 1 = k + 1) from propext ⟨fun _ => by omega, fun _ => by omega⟩]
  | f + 1, .n l x r, k + 1, j + 1, h => by
    simp only [T.setF]
    cases hk : k % 2 with
    | zero =>
      simp only [T.get]
      cases hj : j % 2 with
      | zero => simp only [T.get_setF v f l (k / 2) (j / 2) (by omega)]; simp only [show (j / 2 = k / 2) = (j + 1 = k + 1) from propext ⟨fun _ => by omega, fun _ => by omega⟩]
      | succ n => simp only []; rw [if_neg (by omega)]
    | succ m =>
      simp only [T.get]
      cases hj : j % 2 with
      | zero => simp only []; rw [if_neg (by omega)]
      | succ n => simp only [T.get_setF v f r (k / 2) (j / 2) (by omega)]; simp only [show (j / 2 = k / 2) = (j + 1 = k + 1) from propext ⟨fun _ => by omega, fun _ => by omega⟩]
theorem T.get_set {α : Type} (t : T α) (k j : Nat) (v : Option α) : (t.set k v).get j = if j = k then v else t.get j := T.get_setF v (k + 1) t k j (by omega)
theorem H.get_new (h : H) (x : Blk) (b : Nat) : (h.new x).get b = if b = h.next then some x else h.get b := T.get_set ..
theorem H.get_put (h : H) (c : Nat) (x : Blk) (b : Nat) : (h.put c x).get b = if b = c then some x else h.get b := T.get_set ..
theorem H.get_kill (h : H) (c : Nat) (b : Nat) : (h.kill c).get b = if b = c then none else h.get b := T.get_set ..
@[simp] theorem H.next_new (h : H) (x : Blk) : (h.new x).next = h.next + 1 := rfl
@[simp] theorem H.next_put (h : H) (c : Nat) (x : Blk) : (h.put c x).next = h.next := rfl
@[simp] theorem H.next_kill (h : H) (c : Nat) : (h.kill c).next = h.next := rfl
@[simp] theorem H.log_new (h : H) (x : Blk) : (h.new x).log = h.log := rfl
@[simp] theorem H.log_put (h : H) (c : Nat) (x : Blk) : (h.put c x).log = c :: h.log := rfl
@[simp] theorem H.log_kill (h : H) (c : Nat) : (h.kill c).log = c :: h.log := rfl
def stateOf : LState → LoopState
  | .ready => .ready
  | .busy => .busy
  | .done => .done
  | .over => .exhausted
def pendOf : Option Out → Option Code
  | none => none
  | some .norm => none
  | some (.exit i) => some (.exit i)
  | some .ret => some .ret
def concM (R : Emb) : List (V × V) → Option (List (Value × Value))
  | [] => some []
  | (k, v) :: l => match conc R k, conc R v, concM R l with
    | some k, some v, some l => some ((k, v) :: l)
    | _, _, _ => none
theorem concM_cons {R : Emb} {k v : V} {l : List (V × V)} {vs : List (Value × Value)} :
    concM R ((k, v) :: l) = some vs ↔ ∃ x y w, conc R k = some x ∧ conc R v = some y ∧ concM R l = some w ∧ vs = (x, y) :: w := by
  simp only [concM]
  cases conc R k <;> cases conc R v <;> cases concM R l <;> simp [eq_comm]
theorem concM_mono {R R' : Emb} (h : R.le R') : ∀ (l : List (V × V)) (vs : List (Value × Value)), concM R l = some vs → concM R' l = some vs
  | [], vs, hx => by simpa [concM] using hx
  | (k, v) :: l, vs, hx => by
    obtain ⟨x, y, w, h1, h2, h3, rfl⟩ := concM_cons.1 hx
    exact concM_cons.2 ⟨x, y, w, conc_mono h _ _ h1, conc_mono h _ _ h2, concM_mono h l w h3, rfl⟩
section
variable (P : Program)
def BlkRel (R : Emb) (w : World) (c sz : Nat) : Blk → Prop
  | .cells cs => ∃ arr e vs rest, w.heap[c]? = some (.cells arr e (0, 0)) ∧ concL R cs = some vs ∧ arr.toList = vs ++ rest ∧ arr.size = sz
  | .ro cs => ∃ arr e f, w.heap[c]? = some (.cells arr e f) ∧ arr.size = cs.length ∧ ∀ (i : Nat) (v : V), cs[i]? = some (some v) → ∃ x, arr.toList[i]? = some x ∧ conc R v = some x
  | .map es => ∃ arr ck, w.heap[c]? = some (.map arr ck) ∧ concM R es = some (arr.toList.map fun e => (e.key, e.val))
  | .loop lp => ∃ L : Go.Loop, w.heap[c]? = some (.loop L) ∧ L.state = stateOf lp.state ∧ L.pending = pendOf lp.pending ∧ concL R lp.tmps = some L.tmps.toList ∧
      L.params.toList = lp.params ∧ okC P L.assign lp.asg = true ∧ okC P L.body lp.body = true
theorem BlkRel.mono {R R' : Emb} (hR : R.le R') {w w' : World} {c sz : Nat} {x : Blk} (h : BlkRel P R w c sz x) (hw : w'.heap[c]? = w.heap[c]?) : BlkRel P R' w' c sz x := by
  cases x with
  | cells cs => obtain ⟨arr, e, vs, rest, h1, h2, h3, h4⟩ := h; exact ⟨arr, e, vs, rest, hw.trans h1, concL_mono hR _ _ h2, h3, h4⟩
  | ro cs =>
    obtain ⟨arr, e, f, h1, h2, h3⟩ := h
    refine ⟨arr, e, f, hw.trans h1, h2, fun i v hi => ?_⟩
    obtain ⟨x, q1, q2⟩ := h3 i v hi
    exact ⟨x, q1, conc_mono hR _ _ q2⟩
  | map es => obtain ⟨arr, ck, h1, h2⟩ := h; exact ⟨arr, ck, hw.trans h1, concM_mono hR _ _ h2⟩
  | loop lp => obtain ⟨L, h1, h2, h3, h4, h5⟩ := h; exact ⟨L, hw.trans h1, h2, h3, concL_mono hR _ _ h4, h5⟩
structure Sim (F : Nat → Prop) (R : Emb) (mem : Nat → Option Blk) (w : World) : Prop where
  blk : ∀ b c sz x, F b → R b = some (c, sz) → mem b = some x → BlkRel P R w c sz x
  inj : ∀ b b' c sz sz' x x', F b → F b' → R b = some (c, sz) → R b' = some (c, sz') → mem b = some x → mem b' = some x' → b = b'
  lt : ∀ b c sz, R b = some (c, sz) → c < w.heap.size
def SameIO (w w' : World) : Prop := w'.os = w.os ∧ w'.tape = w.tape ∧ w'.output = w.output
theorem SameIO.refl (w : World) : SameIO w w := ⟨rfl, rfl, rfl⟩
theorem SameIO.trans {w w1 w2 : World} (a : SameIO w w1) (b : SameIO w1 w2) : SameIO w w2 := ⟨b.1.trans a.1, b.2.1.trans a.2.1, b.2.2.trans a.2.2⟩
structure Fwd (R R' : Emb) (h h' : H) (w w' : World) (l : List Nat) : Prop where
  le : R.le R'
  log : h'.log = l ++ h.log
  nx : h.next ≤ h'.next
  size : w.heap.size ≤ w'.heap.size
  new : ∀ b c sz, R' b = some (c, sz) → R b = some (c, sz) ∨ (h.next ≤ b ∧ b < h'.next ∧ (w.heap.size ≤ c ∨ ∃ b0 sz0, R b0 = some (c, sz0) ∧ b0 ∈ l))
  same : ∀ b, b < h.next → b ∉ l → h'.get b = h.get b
  frame : ∀ c, c < w.heap.size → (∀ b sz, R b = some (c, sz) → b ∉ l) → w'.heap[c]? = w.heap[c]?
  own : ∀ b ∈ l, (h.next ≤ b ∧ b < h'.next) ∨ ((∃ x, R b = some x) ∧ (b < h.next → ∃ y, h.get b = some y))
  io : SameIO w w'
theorem Fwd.refl (R : Emb) (h : H) (w : World) : Fwd R R h h w w [] :=
  ⟨R.le_refl, rfl, Nat.le_refl _, Nat.le_refl _, fun _ _ _ h => .inl h, fun _ _ _ => rfl, fun _ _ _ => rfl, fun _ hb => by simp at hb, .refl w⟩
theorem Fwd.trans {R R1 R2 : Emb} {h h1 h2 : H} {w w1 w2 : World} {l1 l2 : List Nat} (a : Fwd R R1 h h1 w w1 l1) (b : Fwd R1 R2 h1 h2 w1 w2 l2) : Fwd R R2 h h2 w w2 (l2 ++ l1) where
  io := a.io.trans b.io
  le := Emb.le_trans a.le b.le
  log := by rw [b.log, a.log, List.append_assoc]
  nx := Nat.le_trans a.nx b.nx
  size := Nat.le_trans a.size b.size
  new := by
    intro x c sz hx
    rcases b.new x c sz hx with h' | ⟨h1', h2', h3'⟩
    · rcases a.new x c sz h' with h' | ⟨q1, q2, q3⟩
      · exact .inl h'
      · refine .inr ⟨q1, Nat.lt_of_lt_of_le q2 b.nx, ?_⟩
        rcases q3 with q3 | ⟨b0, s0, q3, q4⟩
        · exact .inl q3
        · exact .inr ⟨b0, s0, q3, List.mem_append.2 (.inr q4)⟩
    · refine .inr ⟨Nat.le_trans a.nx h1', h2', ?_⟩
      rcases h3' with h3' | ⟨b0, s0, h3', h4'⟩
      · exact .inl (Nat.le_trans a.size h3')
      · rcases a.new b0 c s0 h3' with h' | ⟨q1, q2, q3⟩
        · exact .inr ⟨b0, s0, h', List.mem_append.2 (.inl h4')⟩
        · rcases q3 with q3 | ⟨b1, s1, q3, q4⟩
          · exact .inl q3
          · exact .inr ⟨b1, s1, q3, List.mem_append.2 (.inr q4)⟩
  same := by
    intro x hx hl
    rw [List.mem_append, not_or] at hl
    rw [b.same x (Nat.lt_of_lt_of_le hx a.nx) hl.1, a.same x hx hl.2]
  frame := by
    intro c hc hl
    rw [b.frame c (Nat.lt_of_lt_of_le hc a.size) ?_, a.frame c hc (fun x sz hx hm => hl x sz hx (List.mem_append.2 (.inr hm)))]
    intro x sz hx hm
    rcases a.new x c sz hx with h' | ⟨q1, q2, q3⟩
    · exact hl x sz h' (List.mem_append.2 (.inl hm))
    · rcases q3 with q3 | ⟨b0, s0, q3, q4⟩
      · omega
      · exact hl b0 s0 q3 (List.mem_append.2 (.inr q4))
  own := by
    intro x hx
    have hn := a.nx
    have hn' := b.nx
    have left : ∀ y ∈ l1, (h.next ≤ y ∧ y < h2.next) ∨ ((∃ z, R y = some z) ∧ (y < h.next → ∃ z, h.get y = some z)) := by
      intro y hy
      rcases a.own y hy with q | q
      · exact .inl ⟨q.1, by omega⟩
      · exact .inr q
    rcases List.mem_append.1 hx with hx | hx
    · rcases b.own x hx with q | ⟨⟨z, q1⟩, q2⟩
      · exact .inl ⟨by omega, q.2⟩
      · by_cases hl : x ∈ l1
        · exact left x hl
        · obtain ⟨c, sz⟩ := z
          rcases a.new x c sz q1 with q | ⟨q3, q4, _⟩
          · refine .inr ⟨⟨_, q⟩, fun hlt => ?_⟩
            obtain ⟨y, hy⟩ := q2 (by omega)
            exact ⟨y, by rw [← a.same x hlt hl]; exact hy⟩
          · exact .inl ⟨q3, by omega⟩
    · exact left x hx
def Fresh (R : Emb) (h h' : H) : Prop := ∀ b, h.next ≤ b → b < h'.next → R b = none
theorem Fresh.left {R : Emb} {h h1 h2 : H} (hf : Fresh R h h2) (hn : h1.next ≤ h2.next) : Fresh R h h1 := fun b h1' h2' => hf b h1' (by omega)
theorem Fresh.right {R R1 : Emb} {h h1 h2 : H} {w w1 : World} {l : List Nat} (hf : Fresh R h h2) (a : Fwd R R1 h h1 w w1 l) : Fresh R1 h1 h2 := by
  intro b hb1 hb2
  have hn := a.nx
  cases hr : R1 b with
  | none => rfl
  | some x =>
    obtain ⟨c, sz⟩ := x
    rcases a.new b c sz hr with h' | ⟨q1, q2, _⟩
    · rw [hf b (by omega) hb2] at h'; cases h'
    · omega
def PostV (F : Nat → Prop) (R : Emb) (h : H) (w : World) (v : V) (h' : H) (x : Value) (w' : World) : Prop :=
  ∃ R' l, Fwd R R' h h' w w' l ∧ Sim P F R' h'.get w' ∧ conc R' v = some x
variable {P}
theorem PostV.same {F : Nat → Prop} {R : Emb} {h : H} {w : World} {v : V} {x : Value} (hs : Sim P F R h.get w) (hv : conc R v = some x) : PostV P F R h w v h x w :=
  ⟨R, [], .refl R h w, hs, hv⟩
def Emb.add (R : Emb) (b : Nat) (x : Nat × Nat) : Emb := fun c => if c = b then some x else R c
theorem Emb.le_add {R : Emb} {b : Nat} {x : Nat × Nat} (h : R b = none) : R.le (R.add b x) := by
  intro c y hc
  simp only [Emb.add]
  split
  · rename_i e; subst e; rw [h] at hc; cases hc
  · exact hc
theorem Emb.add_self {R : Emb} {b : Nat} {x : Nat × Nat} : R.add b x b = some x := by simp [Emb.add]
theorem heap_push_lt {w : World} {o : Obj} {c : Nat} (h : c < w.heap.size) : (w.alloc o).heap[c]? = w.heap[c]? := by
  simp only [World.alloc, Array.getElem?_push]
  rw [if_neg (by omega)]
theorem heap_push_eq {w : World} {o : Obj} : (w.alloc o).heap[w.heap.size]? = some o := by
  show (w.heap.push o)[w.heap.size]? = some o
  simp
theorem new_step {F : Nat → Prop} {R : Emb} {h : H} {w : World} {o : Obj} {x : Blk} {sz : Nat} (hs : Sim P F R h.get w) (hf : R h.next = none)
    (hx : ∀ w' : World, w'.heap[w.heap.size]? = some o → BlkRel P (R.add h.next (w.heap.size, sz)) w' w.heap.size sz x) :
    Fwd R (R.add h.next (w.heap.size, sz)) h (h.new x) w (w.alloc o) [] ∧ Sim P F (R.add h.next (w.heap.size, sz)) (h.new x).get (w.alloc o) := by
  have hle : R.le (R.add h.next (w.heap.size, sz)) := Emb.le_add hf
  refine ⟨⟨hle, rfl, by simp, by simp, ?_, ?_, ?_, fun _ hb => by simp at hb, ⟨rfl, rfl, rfl⟩⟩, ⟨?_, ?_, ?_⟩⟩
  · intro b c s hb
    simp only [Emb.add] at hb
    split at hb
    · rename_i e; subst e
      simp only [Option.some.injEq, Prod.mk.injEq] at hb
      exact .inr ⟨Nat.le_refl _, by simp, .inl (by omega)⟩
    · exact .inl hb
  · intro b hb _
    rw [H.get_new, if_neg (by omega)]
  · intro c hc _
    exact heap_push_lt hc
  · intro b c s y hFb hb hy
    simp only [Emb.add] at hb
    rw [H.get_new] at hy
    split at hb
    · rename_i e; subst e
      rw [if_pos rfl] at hy
      simp only [Option.some.injEq, Prod.mk.injEq] at hb hy
      obtain ⟨rfl, rfl⟩ := hb
      subst hy
      exact hx _ heap_push_eq
    · rename_i e
      rw [if_neg e] at hy
      exact (hs.blk b c s y hFb hb hy).mono P hle (heap_push_lt (hs.lt b c s hb))
  · intro b b' c s s' y y' hF hF' hb hb' hy hy'
    simp only [Emb.add] at hb hb'
    rw [H.get_new] at hy hy'
    split at hb <;> split at hb'
    · rename_i e e'; rw [e, e']
    · simp only [Option.some.injEq, Prod.mk.injEq] at hb
      have := hs.lt b' c s' hb'
      omega
    · simp only [Option.some.injEq, Prod.mk.injEq] at hb'
      have := hs.lt b c s hb
      omega
    · rename_i e e'
      rw [if_neg e] at hy; rw [if_neg e'] at hy'
      exact hs.inj b b' c s s' y y' hF hF' hb hb' hy hy'
  · intro b c s hb
    simp only [Emb.add] at hb
    split at hb
    · simp only [Option.some.injEq, Prod.mk.injEq] at hb
      simp; omega
    · have := hs.lt b c s hb
      simp; omega
theorem put_step {F : Nat → Prop} {R : Emb} {h : H} {w w' : World} {x y : Blk} {b c sz : Nat} (hs : Sim P F R h.get w) (hF : F b) (hb : R b = some (c, sz)) (hy : h.get b = some y)
    (hio : SameIO w w') (hsize : w'.heap.size = w.heap.size) (hother : ∀ d, d ≠ c → w'.heap[d]? = w.heap[d]?) (hx : BlkRel P R w' c sz x) :
    Fwd R R h (h.put b x) w w' [b] ∧ Sim P F R (h.put b x).get w' := by
  refine ⟨⟨R.le_refl, rfl, by simp, by omega, fun _ _ _ h => .inl h, ?_, ?_, fun d hd => .inr (by simp at hd; subst hd; exact ⟨⟨_, hb⟩, fun _ => ⟨_, hy⟩⟩), hio⟩, ⟨?_, ?_, ?_⟩⟩
  · intro d _ hd
    rw [H.get_put, if_neg (by simpa using hd)]
  · intro d _ hl
    exact hother d (fun e => hl b sz (e ▸ hb) (by simp))
  · intro d e s z hFd hd hz
    rw [H.get_put] at hz
    split at hz
    · rename_i e'; subst e'
      rw [hb] at hd
      simp only [Option.some.injEq, Prod.mk.injEq] at hd hz
      obtain ⟨rfl, rfl⟩ := hd
      subst hz
      exact hx
    · rename_i ne
      refine (hs.blk d e s z hFd hd hz).mono P R.le_refl (hother e ?_)
      intro ee; subst ee
      exact ne (hs.inj d b e s sz z y hFd hF hd hb hz hy)
  · intro d d' e s s' z z' hF1 hF2 hd hd' hz hz'
    rw [H.get_put] at hz hz'
    split at hz <;> split at hz'
    · rename_i e1 e2; rw [e1, e2]
    · rename_i e1 e2; subst e1; exact hs.inj d d' e s s' y z' hF1 hF2 hd hd' hy hz'
    · rename_i e1 e2; subst e2; exact hs.inj d d' e s s' z y hF1 hF2 hd hd' hz hy
    · exact hs.inj d d' e s s' z z' hF1 hF2 hd hd' hz hz'
  · intro d e s hd
    rw [hsize]; exact hs.lt d e s hd
theorem cell_at {w : World} {c o : Nat} {arr : Array Value} {e : TypeId} {f : Nat × Nat} {v : Value} (h : w.heap[c]? = some (.cells arr e f)) (hv : arr.toList[o]? = some v) : w.cell? ⟨c, o, none⟩ = some v := by
  simp only [World.cell?, h]
  simpa using hv
theorem add_spot (c o i : Nat) : (⟨c, o, none⟩ : Addr).add i = ⟨c, o + i, none⟩ := by
  unfold Addr.add
  split
  · rename_i h; subst h; rfl
  · rfl
theorem run_loadCells_at {w : World} {c o n : Nat} {arr : Array Value} {e : TypeId} {f : Nat × Nat} {vs rest : List Value} (h : w.heap[c]? = some (.cells arr e f)) (harr : arr.toList = vs ++ rest)
    (hn : o + n ≤ vs.length) : (loadCells ⟨c, o, none⟩ n).run P w = .ok ((vs.drop o).take n).toArray w := by
  have hl : ((vs.drop o).take n).length = n := by simp; omega
  have := run_loadCells_list (P := P) w ⟨c, o, none⟩ ((vs.drop o).take n) (fun j v hj => by
    rw [add_spot]
    refine cell_at h ?_
    have hj' : j < n := by
      have := (List.getElem?_eq_some_iff.1 hj).1
      omega
    rw [harr, List.getElem?_append_left (by omega)]
    rw [List.getElem?_take_of_lt hj', List.getElem?_drop] at hj
    exact hj)
  rw [hl] at this
  exact this
theorem nthO_eq : ∀ {cs : List (Option V)} {o : Nat} {v : V}, nthO cs o = some v → cs[o]? = some (some v)
  | [], _, _, h => by simp [nthO] at h
  | x :: _, 0, _, h => by simp only [nthO] at h; simp [h]
  | _ :: l, o + 1, v, h => by simpa using nthO_eq (cs := l) (o := o) h
theorem cutO_eq : ∀ {cs : List (Option V)} {o n : Nat} {l : List V}, cutO cs o n = some l → l.length = n ∧ ∀ (i : Nat) (v : V), l[i]? = some v → cs[o + i]? = some (some v)
  | [], 0, 0, _, h => by simp [cutO] at h; subst h; simp
  | _ :: _, 0, 0, _, h => by simp [cutO] at h; subst h; simp
  | [], 0, _ + 1, _, h => by simp [cutO] at h
  | [], _ + 1, _, _, h => by simp [cutO] at h
  | x :: cs, 0, n + 1, l, h => by
    simp only [cutO] at h
    split at h <;> try simp at h
    rename_i v
    obtain ⟨l', h1, rfl⟩ := h
    obtain ⟨q1, q2⟩ := cutO_eq h1
    refine ⟨by simp [q1], fun i u hu => ?_⟩
    cases i with
    | zero => simpa using hu
    | succ i =>
      have := q2 i u (by simpa using hu)
      simpa using this
  | _ :: cs, o + 1, n, l, h => by
    simp only [cutO] at h
    obtain ⟨q1, q2⟩ := cutO_eq h
    refine ⟨q1, fun i u hu => ?_⟩
    have := q2 i u hu
    rw [show o + 1 + i = (o + i) + 1 by omega]
    simpa using this
theorem rd1_at {F : Nat → Prop} {R : Emb} {h : H} {w : World} {b c sz o : Nat} {bl : Blk} {v : V} (hs : Sim P F R h.get w) (hF : F b) (hb : R b = some (c, sz)) (hg : h.get b = some bl) (hv : bl.rd1 o = some v) :
    ∃ u, w.cell? ⟨c, o, none⟩ = some u ∧ conc R v = some u := by
  have hB := hs.blk b c sz bl hF hb hg
  cases bl with
  | cells cs =>
    obtain ⟨arr, e, vs, rest, h1, h2, h3, _⟩ := hB
    simp only [Blk.rd1] at hv
    rw [nth?_eq] at hv
    obtain ⟨u, hu, hc⟩ := concL_get h2 hv
    exact ⟨u, cell_at h1 (by rw [h3, List.getElem?_append_left (List.getElem?_eq_some_iff.1 hu).1]; exact hu), hc⟩
  | ro cs =>
    obtain ⟨arr, e, f, h1, _, h3⟩ := hB
    obtain ⟨x, q1, q2⟩ := h3 o v (nthO_eq hv)
    exact ⟨x, cell_at h1 q1, q2⟩
  | map _ => simp [Blk.rd1] at hv
  | loop _ => simp [Blk.rd1] at hv
theorem concL_of : ∀ {R : Emb} {l : List V}, (∀ (i : Nat) (v : V), l[i]? = some v → ∃ x, conc R v = some x) → ∃ us, concL R l = some us
  | _, [], _ => ⟨[], by simp [concL]⟩
  | R, v :: l, h => by
    obtain ⟨x, hx⟩ := h 0 v (by simp)
    obtain ⟨us, hu⟩ := concL_of (R := R) (l := l) fun i v hi => h (i + 1) v (by simpa using hi)
    exact ⟨x :: us, concL_cons.2 ⟨x, us, hx, hu, rfl⟩⟩
theorem rd_at {F : Nat → Prop} {R : Emb} {h : H} {w : World} {b c sz o n : Nat} {bl : Blk} {l : List V} (hs : Sim P F R h.get w) (hF : F b) (hb : R b = some (c, sz)) (hg : h.get b = some bl) (hv : bl.rd o n = some l) :
    ∃ us, concL R l = some us ∧ us.length = n ∧ (∀ j v, us[j]? = some v → w.cell? ⟨c, o + j, none⟩ = some v) ∧ (loadCells ⟨c, o, none⟩ n).run P w = .ok us.toArray w := by
  have key : ∃ us, concL R l = some us ∧ us.length = n ∧ ∀ j v, us[j]? = some v → w.cell? ⟨c, o + j, none⟩ = some v := by
    have hB := hs.blk b c sz bl hF hb hg
    cases bl with
    | cells cs =>
      obtain ⟨arr, e, vs, rest, h1, h2, h3, _⟩ := hB
      simp only [Blk.rd] at hv
      obtain ⟨hle, rfl⟩ := cut_eq.1 hv
      have hlen := concL_length h2
      refine ⟨_, concL_take n (concL_drop o h2), by simp; omega, fun j v hj => cell_at h1 ?_⟩
      have hj' : j < n := by
        have := (List.getElem?_eq_some_iff.1 hj).1
        simp at this; omega
      rw [h3, List.getElem?_append_left (by omega)]
      rw [List.getElem?_take_of_lt hj', List.getElem?_drop] at hj
      exact hj
    | ro cs =>
      obtain ⟨arr, e, f, h1, _, h3⟩ := hB
      obtain ⟨q1, q2⟩ := cutO_eq hv
      obtain ⟨us, hus⟩ := concL_of (R := R) (l := l) fun i v hi => let ⟨x, _, hx⟩ := h3 (o + i) v (q2 i v hi); ⟨x, hx⟩
      refine ⟨us, hus, by rw [concL_length hus, q1], fun j v hj => ?_⟩
      have hlt : j < l.length := by
        have := (List.getElem?_eq_some_iff.1 hj).1
        rw [concL_length hus] at this; exact this
      obtain ⟨u, hu, hc⟩ := concL_get hus (List.getElem?_eq_getElem hlt)
      obtain ⟨x, x1, x2⟩ := h3 (o + j) _ (q2 j _ (List.getElem?_eq_getElem hlt))
      rw [hc] at x2
      rw [hj] at hu
      cases x2; cases hu
      exact cell_at h1 x1
    | map _ => simp [Blk.rd] at hv
    | loop _ => simp [Blk.rd] at hv
  obtain ⟨us, h1, h2, h3⟩ := key
  refine ⟨us, h1, h2, h3, ?_⟩
  have := run_loadCells_list (P := P) w ⟨c, o, none⟩ us (fun j v hj => by rw [add_spot]; exact h3 j v hj)
  rw [h2] at this
  exact this
theorem setCell_heap {w : World} {c o : Nat} {arr : Array Value} {e : TypeId} {f : Nat × Nat} (v : Value) (h : w.heap[c]? = some (.cells arr e f)) :
    (w.setCell ⟨c, o, none⟩ v).heap[c]? = some (.cells (arr.setIfInBounds o v) e f) ∧ (∀ d, d ≠ c → (w.setCell ⟨c, o, none⟩ v).heap[d]? = w.heap[d]?) := by
  constructor
  · simp [World.setCell, Array.getElem?_modify, h]
  · intro d hd
    simp [World.setCell, Array.getElem?_modify, Ne.symm hd]
theorem list_store {α : Type} (L : List α) (k : Nat) (v : α) (vs : List α) (h : k + 1 + vs.length ≤ L.length) :
    (L.set k v).take (k + 1) ++ vs ++ (L.set k v).drop (k + 1 + vs.length) = L.take k ++ (v :: vs) ++ L.drop (k + (v :: vs).length) := by
  have e : L.set k v = L.take k ++ v :: L.drop (k + 1) := by rw [List.set_eq_take_append_cons_drop, if_pos (by omega)]
  have l1 : (L.take k).length = k := by simp; omega
  rw [e, List.take_append, List.drop_append, l1]
  rw [show k + 1 - k = 1 by omega, show k + 1 + vs.length - k = vs.length + 1 by omega]
  simp only [List.take_take, List.take_succ_cons, List.take_zero, List.drop_succ_cons, List.drop_drop, List.length_cons]
  rw [show min (k + 1) k = k by omega, List.drop_eq_nil_of_le (by omega), List.nil_append, show k + 1 + vs.length = k + (vs.length + 1) by omega]
  simp
theorem run_storeCells_list {c o : Nat} {e : TypeId} : ∀ (vs : List Value) (i : Nat) (w : World) (arr : Array Value), w.heap[c]? = some (.cells arr e (0, 0)) → o + i + vs.length ≤ arr.size →
    (∀ v ∈ vs, v.oneCell' = true) → ∃ w' arr', (storeCells ⟨c, o, none⟩ vs i).run P w = .ok () w' ∧ w'.heap.size = w.heap.size ∧ (∀ d, d ≠ c → w'.heap[d]? = w.heap[d]?) ∧
      w'.heap[c]? = some (.cells arr' e (0, 0)) ∧ arr'.toList = arr.toList.take (o + i) ++ vs ++ arr.toList.drop (o + i + vs.length) ∧ SameIO w w'
  | [], i, w, arr, h, _, _ => ⟨w, arr, by simp [storeCells], rfl, fun _ _ => rfl, h, by simp, .refl w⟩
  | v :: vs, i, w, arr, h, hn, hone => by
    simp only [List.length_cons] at hn
    obtain ⟨h1, h2⟩ := setCell_heap (o := o + i) v h
    obtain ⟨w', arr', r1, r2, r3, r4, r5, r6⟩ := run_storeCells_list (o := o) vs (i + 1) (w.setCell ⟨c, o + i, none⟩ v) (arr.setIfInBounds (o + i) v) h1 (by simp; omega) (fun x hx => hone x (by simp [hx]))
    have hlt : o + i < arr.toList.length := by simp; omega
    have hcell : w.cell? ⟨c, o + i, none⟩ = some arr.toList[o + i] := cell_at h (List.getElem?_eq_getElem hlt)
    have hfz : w.frozen? ⟨c, o + i, none⟩ = false := by simp [World.frozen?, h]
    refine ⟨w', arr', ?_, by simpa using r2, fun d hd => (r3 d hd).trans (h2 d hd), r4, ?_, SameIO.trans ⟨rfl, rfl, rfl⟩ r6⟩
    · simp only [storeCells, Sem.run_bind, add_spot, run_store P w _ v .plain (hone v (by simp)), hcell, hfz, Bool.false_eq_true, if_false, Result.andThen_ok]
      exact r1
    · rw [r5]
      have hlen : o + i + 1 + vs.length ≤ arr.toList.length := by have e1 : arr.toList.length = arr.size := Array.length_toList; omega
      simp only [Array.toList_setIfInBounds]
      rw [show o + (i + 1) = (o + i) + 1 by omega]
      exact list_store arr.toList (o + i) v vs hlen
end
end Go.Air
namespace Go.Air
section runs
variable {P : Program} (w : World)
theorem run_tInfo {t : TypeId} {i : TypeInfo} (h : P.info? t = some i) : (typeInfo t).run P w = .ok i w := by simp [typeInfo, h]
theorem szT_info {t : TypeId} {n : Nat} (h : isSz P t n = true) : ∃ i, P.info? t = some i ∧ i.size = n := by
  unfold isSz szT at h
  cases hi : P.info? t with
  | none => simp [hi] at h
  | some i => simp [hi] at h; exact ⟨i, rfl, h⟩
theorem run_size {t : TypeId} {n : Nat} (h : isSz P t n = true) : (sizeOf t).run P w = .ok n w := by
  obtain ⟨i, hi, hn⟩ := szT_info h
  simp [sizeOf, run_tInfo w hi, hn]
theorem zeroT_info {t : TypeId} {v : Value} (h : zeroT P t = some v) : ∃ i, P.info? t = some i ∧ i.zero = some v := by
  unfold zeroT at h
  cases hi : P.info? t with
  | none => simp [hi] at h
  | some i => simp [hi] at h; exact ⟨i, rfl, h⟩
theorem run_zero {t : TypeId} {v : Value} (h : zeroT P t = some v) : (zeroValue t).run P w = .ok v w := by
  obtain ⟨i, hi, hz⟩ := zeroT_info h
  simp [zeroValue, run_tInfo w hi, hz]
theorem plainT_d {t : TypeId} (h : plainT P t = true) : ∃ d, P.underlying t = some d ∧ isAggD d = false := by
  unfold plainT at h
  cases hd : P.underlying t with
  | none => simp [hd] at h
  | some d => simp [hd] at h; exact ⟨d, rfl, h⟩
theorem aggT_d {t : TypeId} (h : aggT P t = true) : ∃ d, P.underlying t = some d ∧ isAggD d = true := by
  unfold aggT at h
  cases hd : P.underlying t with
  | none => simp [hd] at h
  | some d => simp [hd] at h; exact ⟨d, rfl, h⟩
theorem run_isAgg_plain {t : TypeId} (h : plainT P t = true) : (isAgg t).run P w = .ok false w := by
  obtain ⟨d, hd, ha⟩ := plainT_d h
  cases d <;> simp [isAggD] at ha <;> simp [isAgg, run_underlying hd]
theorem run_isAgg_agg {t : TypeId} (h : aggT P t = true) : (isAgg t).run P w = .ok true w := by
  obtain ⟨d, hd, ha⟩ := aggT_d h
  cases d <;> simp [isAggD] at ha <;> simp [isAgg, run_underlying hd]
end runs
def OpRun (P : Program) (F : Nat → Prop) (R : Emb) (h : H) (w : World) (s : Sem Next) (v : V) (h' : H) : Prop :=
  ∃ nx x w', s.run P w = .ok nx w' ∧ (nx = .value x ∨ (nx = .skip ∧ x = undef)) ∧ PostV P F R h w v h' x w'
section
variable {P : Program} {F : Nat → Prop} {R : Emb} {h h' : H} {w : World} {t : List V} {ρ : Operand → Value} {v : V}
  {dst : Option Tmp} {op : Op} {ty : TypeId} {pos : String} {af : Array Edge} {gd : Option (Nat × Bool)} {call : V → List V → H → RO}
def EnvOk (R : Emb) (t : List V) (ρ : Operand → Value) : Prop := ∀ x y, okX x y = true → conc R (y.ev t) = some (ρ x)
theorem OpRun.plain {s : Sem Next} {x : Value} (hs : Sim P F R h.get w) (hr : s.run P w = .ok (.value x) w) (hv : conc R v = some x) : OpRun P F R h w s v h :=
  ⟨_, x, w, hr, .inl rfl, .same hs hv⟩
theorem ofV_ok {o : Option V} (he : RO.ofV h o = .ok v h') : o = some v ∧ h' = h := by
  cases o with
  | none => simp [RO.ofV] at he
  | some u => simp [RO.ofV] at he; exact ⟨by rw [he.1], he.2.symm⟩
theorem run_mov {y : X} (hok : okA P op (.mov y) = true) (hρ : EnvOk R t ρ) (hs : Sim P F R h.get w) (he : evA call (.mov y) t h = .ok v h') :
    OpRun P F R h w (execOp ρ ⟨dst, op, ty, pos, af, gd⟩) v h' := by
  simp only [evA, RO.ok.injEq] at he
  obtain ⟨rfl, rfl⟩ := he
  cases op <;> first
    | exact (Bool.false_ne_true hok).elim
    | exact .plain hs rfl (hρ _ y hok)
theorem run_pick {a b c : X} (hok : okA P op (.pick a b c) = true) (hρ : EnvOk R t ρ) (hs : Sim P F R h.get w) (he : evA call (.pick a b c) t h = .ok v h') :
    OpRun P F R h w (execOp ρ ⟨dst, op, ty, pos, af, gd⟩) v h' := by
  cases op <;> try exact (Bool.false_ne_true hok).elim
  rename_i a' b' c'
  have hok : (okX a' a && okX b' b && okX c' c) = true := hok
  simp only [Bool.and_eq_true] at hok
  obtain ⟨⟨ha, hb⟩, hc⟩ := hok
  have ha := hρ _ _ ha
  simp only [evA] at he
  split at he <;> simp only [RO.ok.injEq, reduceCtorEq] at he
  · rename_i e
    obtain ⟨rfl, rfl⟩ := he
    rw [e] at ha; simp only [conc, Option.some.injEq] at ha
    exact .plain hs (by simp [execOp, ← ha, asBool]) (hρ _ _ hb)
  · rename_i e
    obtain ⟨rfl, rfl⟩ := he
    rw [e] at ha; simp only [conc, Option.some.injEq] at ha
    exact .plain hs (by simp [execOp, ← ha, asBool]) (hρ _ _ hc)
theorem new_cells {cs : List V} {arr : Array Value} {e : TypeId} (hs : Sim P F R h.get w) (hf : R h.next = none) (hc : concL R cs = some arr.toList) :
    Fwd R (R.add h.next (w.heap.size, arr.size)) h (h.new (.cells cs)) w (w.alloc (.cells arr e)) [] ∧ Sim P F (R.add h.next (w.heap.size, arr.size)) (h.new (.cells cs)).get (w.alloc (.cells arr e)) :=
  new_step hs hf fun w' hw' => ⟨arr, e, arr.toList, [], hw', concL_mono (Emb.le_add hf) _ _ hc, by simp, rfl⟩
theorem fresh_new {x : Blk} (hfr : Fresh R h (h.new x)) : R h.next = none := hfr h.next (Nat.le_refl _) (by simp)
theorem run_alloc {z : List V} (hok : okA P op (.alloc z) = true) (hs : Sim P F R h.get w) (hfr : Fresh R h h') (he : evA call (.alloc z) t h = .ok v h') :
    OpRun P F R h w (execOp ρ ⟨dst, op, ty, pos, af, gd⟩) v h' := by
  simp only [evA, RO.ok.injEq] at he
  obtain ⟨rfl, rfl⟩ := he
  cases op <;> try exact (Bool.false_ne_true hok).elim
  rename_i e
  have hok : okZ P e z = true := hok
  unfold okZ at hok
  cases hz : zeroT P e with
  | none => simp [hz] at hok
  | some u =>
    rw [hz] at hok
    have hc := concL_of_same R z _ hok
    obtain ⟨hf, hs'⟩ := new_cells (e := e) hs (fresh_new hfr) hc
    refine ⟨.value (.pointer (some ⟨w.heap.size, 0, none⟩)), _, _, ?_, .inl rfl, _, _, hf, hs', ?_⟩
    · simp [execOp, Instr.alloc, run_zero w hz, newVar, newRow]
    · simp [conc, Emb.add_self]
theorem run_box {y : X} (hok : okA P op (.box y) = true) (hρ : EnvOk R t ρ) (hs : Sim P F R h.get w) (hfr : Fresh R h h') (he : evA call (.box y) t h = .ok v h') :
    OpRun P F R h w (execOp ρ ⟨dst, op, ty, pos, af, gd⟩) v h' := by
  simp only [evA, RO.ok.injEq] at he
  obtain ⟨rfl, rfl⟩ := he
  cases op <;> try exact (Bool.false_ne_true hok).elim
  rename_i e x
  have hx := hρ x y hok
  obtain ⟨l, hl, hc⟩ := conc_cells hx
  obtain ⟨hf, hs'⟩ := new_cells (e := e) hs (fresh_new hfr) (arr := l.toArray) (by simpa using hl)
  refine ⟨.value (.pointer (some ⟨w.heap.size, 0, none⟩)), _, _, ?_, .inl rfl, _, _, hf, hs', ?_⟩
  · simp [execOp, Instr.box, newVar, newRow, hc]
  · simp [conc, Emb.add_self]
theorem zip_set : ∀ (vs : List Value) (k off : Nat) (arr : Array Value), off + k + vs.length ≤ arr.size →
    ((vs.zipIdx k).foldl (fun cs (x : Value × Nat) => cs.setIfInBounds (off + x.2) x.1) arr).toList = arr.toList.take (off + k) ++ vs ++ arr.toList.drop (off + k + vs.length)
  | [], k, off, arr, _ => by simp
  | v :: vs, k, off, arr, hn => by
    simp only [List.zipIdx_cons, List.foldl_cons]
    simp only [List.length_cons] at hn
    rw [zip_set vs (k + 1) off _ (by simp; omega)]
    have hlen : off + k + 1 + vs.length ≤ arr.toList.length := by have e1 : arr.toList.length = arr.size := Array.length_toList; omega
    simp only [Array.toList_setIfInBounds]
    rw [show off + (k + 1) = (off + k) + 1 by omega]
    exact list_store arr.toList (off + k) v vs hlen
theorem fill_step {z z' cs : List V} {off : Nat} {arr : Array Value} {x : Value} {l : List Value} (hz : concL R z = some arr.toList) (hcs : concL R cs = some l) (hx : x.cells = l.toArray)
    (hl : lay z off cs = some z') : ¬ (off + x.cells.size > arr.size) ∧ concL R z' = some (x.cells.zipIdx.foldl (fun cs (y : Value × Nat) => cs.setIfInBounds (off + y.2) y.1) arr).toList := by
  obtain ⟨hle, rfl⟩ := lay_eq.1 hl
  have h1 := concL_length hz
  have h2 := concL_length hcs
  have h3 : x.cells.size = cs.length := by rw [hx]; simpa using h2
  have h4 : arr.toList.length = arr.size := Array.length_toList
  refine ⟨by omega, ?_⟩
  rw [hx, ← Array.foldl_toList]
  simp only [Array.toList_zipIdx]
  rw [zip_set l 0 off arr (by omega)]
  simp only [Nat.add_zero]
  rw [h2]
  exact concL_append (concL_append (concL_take off hz) hcs) (concL_drop _ hz)
theorem fill_S {fs : Array Field} {places : Array (Nat × Nat)} (hp : ∀ (i : Nat) (f : Field) (n : Nat), fs[i]? = some f → isSz P f.type n = true → places[i]? = some (f.offset, n)) (hρ : EnvOk R t ρ) :
    ∀ (parts : List (Nat × Operand)) (ps : List (Nat × Nat × X)) (z z' : List V) (arr : Array Value), okPartsS P fs parts ps = true → concL R z = some arr.toList → fill t z ps = some z' →
      ∃ arr', Instr.fill (places[·]?) arr (parts.map fun p => (p.1, ρ p.2)) = some arr' ∧ concL R z' = some arr'.toList
  | [], [], z, z', arr, _, hz, hf => by
    simp only [fill, Option.some.injEq] at hf
    subst hf
    exact ⟨arr, by simp [Instr.fill], hz⟩
  | [], _ :: _, _, _, _, hok, _, _ => by simp [okPartsS] at hok
  | (i, x) :: l, [], _, _, _, hok, _, _ => by simp [okPartsS] at hok
  | (i, x) :: l, (off, sz, y) :: m, z, z', arr, hok, hz, hf => by
    simp only [okPartsS, Bool.and_eq_true] at hok
    obtain ⟨⟨hfld, hx⟩, hrest⟩ := hok
    cases hfi : fs[i]? with
    | none => simp [hfi] at hfld
    | some f =>
      simp only [hfi, Bool.and_eq_true, Nat.beq_eq] at hfld
      obtain ⟨ho, hsz⟩ := hfld
      have hpl := hp i f sz hfi hsz
      obtain ⟨lv, hl, hc⟩ := conc_cells (hρ x y hx)
      simp only [fill] at hf
      split at hf
      · rename_i hlen
        rw [Nat.beq_eq] at hlen
        split at hf
        · rename_i z1 hlay
          obtain ⟨hb, hz1⟩ := fill_step hz hl hc hlay
          obtain ⟨arr', h1, h2⟩ := fill_S hp hρ l m z1 z' _ hrest hz1 hf
          refine ⟨arr', ?_, h2⟩
          have hsize : (ρ x).cells.size = sz := by rw [hc]; simp [concL_length hl, hlen]
          simp only [List.map_cons, Instr.fill, hpl, ho]
          rw [if_neg (by simp [hsize]; omega)]
          exact h1
        · simp at hf
      · simp at hf
theorem fill_A {size : Nat} (hρ : EnvOk R t ρ) :
    ∀ (parts : List (Nat × Operand)) (ps : List (Nat × Nat × X)) (z z' : List V) (arr : Array Value), okPartsA size parts ps = true → concL R z = some arr.toList → fill t z ps = some z' →
      ∃ arr', Instr.fill (fun i => some (i * size, size)) arr (parts.map fun p => (p.1, ρ p.2)) = some arr' ∧ concL R z' = some arr'.toList
  | [], [], z, z', arr, _, hz, hf => by
    simp only [fill, Option.some.injEq] at hf
    subst hf
    exact ⟨arr, by simp [Instr.fill], hz⟩
  | [], _ :: _, _, _, _, hok, _, _ => by simp [okPartsA] at hok
  | (i, x) :: l, [], _, _, _, hok, _, _ => by simp [okPartsA] at hok
  | (i, x) :: l, (off, sz, y) :: m, z, z', arr, hok, hz, hf => by
    simp only [okPartsA, Bool.and_eq_true, Nat.beq_eq] at hok
    obtain ⟨⟨⟨ho, hsz⟩, hx⟩, hrest⟩ := hok
    subst hsz
    obtain ⟨lv, hl, hc⟩ := conc_cells (hρ x y hx)
    simp only [fill] at hf
    split at hf
    · rename_i hlen
      rw [Nat.beq_eq] at hlen
      split at hf
      · rename_i z1 hlay
        obtain ⟨hb, hz1⟩ := fill_step hz hl hc hlay
        obtain ⟨arr', h1, h2⟩ := fill_A hρ l m z1 z' _ hrest hz1 hf
        refine ⟨arr', ?_, h2⟩
        have hsize : (ρ x).cells.size = size := by rw [hc]; simp [concL_length hl, hlen]
        simp only [List.map_cons, Instr.fill, ho]
        rw [if_neg (by simp [hsize]; omega)]
        exact h1
      · simp at hf
    · simp at hf
theorem mapM_places : ∀ (fs : List Field), fs.all (fun f => (szT P f.type).isSome) = true →
    (fs.mapM (m := Sem) fun f => Prod.mk f.offset <$> sizeOf f.type).run P w = .ok (fs.map fun f => (f.offset, (szT P f.type).getD 0)) w
  | [], _ => by simp
  | f :: fs, hall => by
    simp only [List.all_cons, Bool.and_eq_true] at hall
    obtain ⟨h1, h2⟩ := hall
    cases hs : szT P f.type with
    | none => simp [hs] at h1
    | some n =>
      have hr : (sizeOf f.type).run P w = .ok n w := run_size w (by simp [isSz, hs])
      simp [List.mapM_cons, hr, mapM_places fs h2, hs]
theorem run_build {z : List V} {ps : List (Nat × Nat × X)} (hok : okA P op (.build z ps) = true) (hρ : EnvOk R t ρ) (hs : Sim P F R h.get w) (he : evA call (.build z ps) t h = .ok v h') :
    OpRun P F R h w (execOp ρ ⟨dst, op, ty, pos, af, gd⟩) v h' := by
  cases op <;> try exact (Bool.false_ne_true hok).elim
  rename_i ty' parts
  have hok : (okZ P ty' z && (match P.underlying ty' with
    | some (.struct fs) => fs.toList.all (fun f => (szT P f.type).isSome) && okPartsS P fs parts.toList ps
    | some (.array _ e) => (match szT P e with
      | some n => okPartsA n parts.toList ps
      | none => false)
    | _ => false)) = true := hok
  rw [Bool.and_eq_true] at hok
  obtain ⟨hz, hp⟩ := hok
  unfold okZ at hz
  cases hzv : zeroT P ty' with
  | none => simp [hzv] at hz
  | some u =>
    rw [hzv] at hz
    have hcz := concL_of_same R z _ hz
    simp only [evA] at he
    split at he <;> simp only [RO.ok.injEq, reduceCtorEq] at he
    rename_i c hfill
    obtain ⟨rfl, rfl⟩ := he
    have hmap : (parts.map fun x => (x.1, ρ x.2)).toList = parts.toList.map fun p => (p.1, ρ p.2) := by simp
    split at hp <;> try simp at hp
    · rename_i fs hu
      obtain ⟨hall, hparts⟩ := hp
      obtain ⟨arr', h1, h2⟩ := fill_S (P := P) (fs := fs) (places := (fs.toList.map fun f => (f.offset, (szT P f.type).getD 0)).toArray)
        (fun i f n hi hn => by
          have : szT P f.type = some n := by
            unfold isSz at hn
            cases hs : szT P f.type with
            | none => simp [hs] at hn
            | some m => simp [hs] at hn; rw [hn]
          simp [hi, this]) hρ parts.toList ps z c u.cells hparts hcz hfill
      refine OpRun.plain (x := .agg arr') hs ?_ (by simp [conc, h2])
      have hmp := mapM_places (P := P) (w := w) fs.toList (by simpa using hall)
      simp only [execOp, Instr.build, Sem.run_bind, run_zero w hzv, Result.andThen_ok, run_underlying hu, Array.mapM_eq_mapM_toList]
      have hmp' : (fs.toList.mapM (m := Sem) fun f => do let a ← sizeOf f.type; pure (f.offset, a)).run P w = .ok (fs.toList.map fun f => (f.offset, (szT P f.type).getD 0)) w := by
        have e : (fun f : Field => (do let a ← sizeOf f.type; pure (f.offset, a) : Sem (Nat × Nat))) = fun f => Prod.mk f.offset <$> sizeOf f.type := by funext f; simp
        rw [e]; exact hmp
      simp only [Sem.run_map, hmp', Result.andThen_ok]
      rw [hmap, h1]
      simp
    · rename_i n e hu
      cases hse : szT P e with
      | none => simp [hse] at hp
      | some k =>
        simp only [hse] at hp
        obtain ⟨arr', h1, h2⟩ := fill_A hρ parts.toList ps z c u.cells hp hcz hfill
        refine OpRun.plain (x := .agg arr') hs ?_ (by simp [conc, h2])
        have hr : (sizeOf e).run P w = .ok k w := run_size w (by simp [isSz, hse])
        simp only [execOp, Instr.build, Sem.run_bind, run_zero w hzv, Result.andThen_ok, run_underlying hu, hr]
        rw [hmap, h1]
        simp
theorem zrow_range (z : Array Value) (n : Nat) : ((Array.range n).map fun i => z[i % z.size]!).toList = zrow z.toList n := by
  simp only [Array.toList_map, Array.toList_range, zrow, Array.length_toList]
  congr 1
  funext i
  rw [getElem!_def, List.getD_eq_getElem?_getD]
  simp only [Array.getElem?_toList]
  cases z[i % z.size]? <;> rfl
theorem run_buildSl {z : List V} {len : Nat} {ps : List (Nat × Nat × X)} (hok : okA P op (.buildSl z len ps) = true) (hρ : EnvOk R t ρ) (hs : Sim P F R h.get w) (hfr : Fresh R h h')
    (he : evA call (.buildSl z len ps) t h = .ok v h') : OpRun P F R h w (execOp ρ ⟨dst, op, ty, pos, af, gd⟩) v h' := by
  cases op <;> try exact (Bool.false_ne_true hok).elim
  rename_i ty' len' parts
  have hok : (Nat.beq len' len && (match P.underlying ty' with
    | some (.slice e) => (match P.info? e with
      | some i => Nat.ble (len' * i.size) 16777216 && okPartsA i.size parts.toList ps && (match i.zero with
        | some v => sameL z (zrow v.cells.toList (len' * i.size))
        | none => false)
      | none => false)
    | _ => false)) = true := hok
  rw [Bool.and_eq_true, Nat.beq_eq] at hok
  obtain ⟨rfl, hp⟩ := hok
  split at hp <;> try simp at hp
  rename_i e hu
  cases hi : P.info? e with
  | none => simp [hi] at hp
  | some i =>
    simp only [hi, Bool.and_eq_true, Nat.ble_eq] at hp
    obtain ⟨⟨hle, hparts⟩, hz⟩ := hp
    cases hzv : i.zero with
    | none => simp [hzv] at hz
    | some u =>
      simp only [hzv] at hz
      have hz0 : zeroT P e = some u := by simp [zeroT, hi, hzv]
      have hr : (sizeOf e).run P w = .ok i.size w := run_size w (by simp [isSz, szT, hi])
      simp only [evA] at he
      split at he <;> simp only [RO.ok.injEq, reduceCtorEq] at he
      rename_i c hfill
      obtain ⟨rfl, rfl⟩ := he
      have hcz : concL R z = some (zrow u.cells.toList (len' * i.size)) := concL_of_same R z _ hz
      have hmap : (parts.map fun x => (x.1, ρ x.2)).toList = parts.toList.map fun p => (p.1, ρ p.2) := by simp
      have key : ∃ arr0 : Array Value, arr0.toList = zrow u.cells.toList (len' * i.size) ∧
          (Instr.buildSlice ty' len' (parts.map fun x => (x.1, ρ x.2))).run P w = (match Instr.fill (fun k => some (k * i.size, i.size)) arr0 (parts.toList.map fun p => (p.1, ρ p.2)) with
            | some cells => .ok (.slice (some ⟨w.heap.size, 0, none⟩) len' len') (w.alloc (.cells cells e))
            | none => .halt (.stuck "buildSlice: a part of the wrong size") w) := by
        by_cases h0 : len' * i.size = 0
        · refine ⟨(Array.range (len' * i.size)).map fun k => (#[] : Array Value)[k % 0]!, by simp [h0, zrow], ?_⟩
          simp only [Instr.buildSlice, Sem.run_bind, run_underlying hu, Result.andThen_ok, hr]
          rw [if_neg (by omega), if_pos h0, hmap]
          simp only [Sem.run_bind, Sem.run_pure, Result.andThen_ok, List.size_toArray, List.length_nil]
          cases Instr.fill (fun k => some (k * i.size, i.size)) ((Array.range (len' * i.size)).map fun k => (#[] : Array Value)[k % 0]!) (parts.toList.map fun p => (p.1, ρ p.2)) <;> simp [newRow]
        · refine ⟨(Array.range (len' * i.size)).map fun k => u.cells[k % u.cells.size]!, zrow_range _ _, ?_⟩
          simp only [Instr.buildSlice, Sem.run_bind, run_underlying hu, Result.andThen_ok, hr]
          rw [if_neg (by omega), if_neg h0, hmap]
          simp only [Sem.run_bind, run_zero w hz0, Sem.run_pure, Result.andThen_ok]
          cases Instr.fill (fun k => some (k * i.size, i.size)) ((Array.range (len' * i.size)).map fun k => u.cells[k % u.cells.size]!) (parts.toList.map fun p => (p.1, ρ p.2)) <;> simp [newRow]
      obtain ⟨arr0, ha0, hrun⟩ := key
      obtain ⟨arr', h1, h2⟩ := fill_A hρ parts.toList ps z c arr0 hparts (by rw [ha0]; exact hcz) hfill
      rw [h1] at hrun
      obtain ⟨hf, hs'⟩ := new_cells (e := e) hs (fresh_new hfr) h2
      refine ⟨.value (.slice (some ⟨w.heap.size, 0, none⟩) len' len'), _, _, ?_, .inl rfl, _, _, hf, hs', by simp [conc, Emb.add_self]⟩
      simp [execOp, hrun]
end
end Go.Air
namespace Go.Air
section
variable {P : Program} {F : Nat → Prop} {R : Emb} {h h' : H} {w : World} {t : List V} {ρ : Operand → Value} {v : V}
  {dst : Option Tmp} {op : Op} {ty : TypeId} {pos : String} {af : Array Edge} {gd : Option (Nat × Bool)} {call : V → List V → H → RO}
def FootOk (F : Nat → Prop) : Option (List Nat) → Prop
  | none => ∀ b, F b
  | some l => ∀ b ∈ l, F b
theorem conc_p {b o : Nat} {x : Value} (hx : conc R (.p b o) = some x) : ∃ c sz, R b = some (c, sz) ∧ x = .pointer (some ⟨c, o, none⟩) := by
  simp only [conc, Option.map_eq_some_iff] at hx
  obtain ⟨a, ha, rfl⟩ := hx
  exact ⟨a.1, a.2, ha, rfl⟩
theorem cells_at {b c sz : Nat} {cs : List V} (hs : Sim P F R h.get w) (hF : F b) (hb : R b = some (c, sz)) (hg : h.get b = some (.cells cs)) :
    ∃ arr e vs rest, w.heap[c]? = some (.cells arr e (0, 0)) ∧ concL R cs = some vs ∧ arr.toList = vs ++ rest ∧ arr.size = sz := hs.blk b c sz _ hF hb hg
theorem run_ld {y : X} (hok : okA P op (.ld y) = true) (hρ : EnvOk R t ρ) (hs : Sim P F R h.get w) (hF : FootOk F (reads (.ld y) t)) (he : evA call (.ld y) t h = .ok v h') :
    OpRun P F R h w (execOp ρ ⟨dst, op, ty, pos, af, gd⟩) v h' := by
  cases op <;> try exact (Bool.false_ne_true hok).elim
  rename_i e x
  have hok : (plainT P e && okX x y) = true := hok
  rw [Bool.and_eq_true] at hok
  have hx := hρ x y hok.2
  simp only [evA] at he
  split at he <;> try simp at he
  rename_i b o hy
  split at he <;> try simp at he
  rename_i bl hg
  obtain ⟨hv, rfl⟩ := ofV_ok he
  rw [hy] at hx
  obtain ⟨c, sz, hb, hxe⟩ := conc_p hx
  obtain ⟨u, hcell, hc⟩ := rd1_at hs (hF b (by simp [hy, blockOf])) hb hg hv
  exact .plain hs (by simp [execOp, Instr.loadAt, hxe, Instr.sureAddr, loadVar, run_isAgg_plain w hok.1, hcell]) hc
theorem run_ldn {n : Nat} {y : X} (hok : okA P op (.ldn n y) = true) (hρ : EnvOk R t ρ) (hs : Sim P F R h.get w) (hF : FootOk F (reads (.ldn n y) t)) (he : evA call (.ldn n y) t h = .ok v h') :
    OpRun P F R h w (execOp ρ ⟨dst, op, ty, pos, af, gd⟩) v h' := by
  cases op <;> try exact (Bool.false_ne_true hok).elim
  rename_i e x
  have hok : (aggT P e && isSz P e n && okX x y) = true := hok
  rw [Bool.and_eq_true, Bool.and_eq_true] at hok
  obtain ⟨⟨hag, hsz⟩, hxy⟩ := hok
  have hx := hρ x y hxy
  simp only [evA] at he
  split at he <;> try simp at he
  rename_i b o hy
  split at he <;> try simp at he
  rename_i bl hg
  split at he <;> simp only [RO.ok.injEq, reduceCtorEq] at he
  rename_i l hl
  obtain ⟨rfl, rfl⟩ := he
  rw [hy] at hx
  obtain ⟨c, sz, hb, hxe⟩ := conc_p hx
  obtain ⟨us, h1, _, _, hr⟩ := rd_at hs (hF b (by simp [hy, blockOf])) hb hg hl
  exact .plain (x := .agg us.toArray) hs (by simp [execOp, Instr.loadAt, hxe, Instr.sureAddr, loadVar, run_isAgg_agg w hag, run_size w hsz, hr])
    (by simp [conc, h1])
theorem storeAt_ok {b o : Nat} {vs : List V} (he : storeAt h b o vs = some h') : ∃ cs cs', h.get b = some (.cells cs) ∧ lay cs o vs = some cs' ∧ (∀ v ∈ vs, v.oneCell = true) ∧ h' = h.put b (.cells cs') := by
  unfold storeAt at he
  split at he <;> try simp at he
  rename_i cs hg
  split at he <;> try simp at he
  rename_i cs' hl
  obtain ⟨hone, rfl⟩ := he
  exact ⟨cs, cs', hg, hl, hone, rfl⟩
theorem conc_ones : ∀ {vs : List V} {xs : List Value}, concL R vs = some xs → (∀ v ∈ vs, v.oneCell = true) → ∀ x ∈ xs, x.oneCell' = true
  | [], xs, h, _ => by simp [concL] at h; subst h; simp
  | v :: vs, xs, h, ho => by
    obtain ⟨x, ys, hx, hy, rfl⟩ := concL_cons.1 h
    intro z hz
    rcases List.mem_cons.1 hz with rfl | hz
    · exact conc_oneCell hx (ho v (by simp))
    · exact conc_ones hy (fun u hu => ho u (by simp [hu])) z hz
theorem store_step {b c sz o : Nat} {vs : List V} {xs : List Value} (hs : Sim P F R h.get w) (hF : F b) (hb : R b = some (c, sz)) (he : storeAt h b o vs = some h') (hv : concL R vs = some xs) :
    ∃ w', (storeCells ⟨c, o, none⟩ xs).run P w = .ok () w' ∧ Fwd R R h h' w w' [b] ∧ Sim P F R h'.get w' := by
  obtain ⟨cs, cs', hg, hl, hone, rfl⟩ := storeAt_ok he
  obtain ⟨arr, e, ys, rest, h1, h2, h3, h4⟩ := cells_at hs hF hb hg
  obtain ⟨hle, rfl⟩ := lay_eq.1 hl
  have e1 := concL_length h2
  have e2 := concL_length hv
  have e3 : arr.toList.length = arr.size := Array.length_toList
  have e4 : arr.toList.length = ys.length + rest.length := by rw [h3]; simp
  obtain ⟨w', arr', r1, r2, r3, r4, r5, rio⟩ := run_storeCells_list (P := P) (o := o) xs 0 w arr h1 (by omega) (conc_ones hv hone)
  obtain ⟨hf, hs'⟩ := put_step (x := .cells (cs.take o ++ vs ++ cs.drop (o + vs.length))) hs hF hb hg rio r2 r3
    ⟨arr', e, ys.take o ++ xs ++ ys.drop (o + xs.length), rest, r4, by rw [e2]; exact concL_append (concL_append (concL_take o h2) hv) (concL_drop _ h2), by
      rw [r5, h3]
      simp only [Nat.add_zero]
      rw [List.take_append_of_le_length (by omega), List.drop_append_of_le_length (by omega)]
      simp, by
      have : arr'.toList.length = arr'.size := Array.length_toList
      rw [r5] at this
      simp at this
      omega⟩
  exact ⟨w', r1, hf, hs'⟩
theorem run_storeVar {e : TypeId} {n c o : Nat} {x : Value} {l : List Value} {w' : World} (hsz : isSz P e n = true) (hx : x.cells = l.toArray) (hn : l.length = n)
    (hr : (storeCells ⟨c, o, none⟩ l).run P w = .ok () w') : (storeVar e ⟨c, o, none⟩ x).run P w = .ok () w' := by
  simp only [storeVar, Sem.run_bind, run_size w hsz, Result.andThen_ok, hx]
  rw [if_neg (by simpa using hn)]
  simpa using hr
theorem run_st {n : Nat} {a b : X} (hok : okA P op (.st n a b) = true) (hρ : EnvOk R t ρ) (hs : Sim P F R h.get w) (hF : FootOk F (reads (.st n a b) t)) (he : evA call (.st n a b) t h = .ok v h') :
    OpRun P F R h w (execOp ρ ⟨dst, op, ty, pos, af, gd⟩) v h' := by
  cases op <;> try exact (Bool.false_ne_true hok).elim
  rename_i e x y
  have hok : (isSz P e n && okX x a && okX y b) = true := hok
  rw [Bool.and_eq_true, Bool.and_eq_true] at hok
  obtain ⟨⟨hsz, hxa⟩, hyb⟩ := hok
  have hx := hρ x a hxa
  have hy := hρ y b hyb
  simp only [evA] at he
  split at he <;> try simp at he
  rename_i b' o hya
  split at he <;> try simp at he
  rename_i hlen
  rw [hya] at hx
  obtain ⟨c, sz, hb, hxe⟩ := conc_p hx
  obtain ⟨l, hl, hc⟩ := conc_cells hy
  split at he <;> simp only [RO.ok.injEq, reduceCtorEq] at he
  rename_i h1 hst
  obtain ⟨rfl, rfl⟩ := he
  obtain ⟨w', r1, hf, hs'⟩ := store_step hs (hF b' (by simp [hya, blockOf])) hb hst hl
  refine ⟨.skip, undef, w', ?_, .inr ⟨rfl, rfl⟩, R, _, hf, hs', conc_undef R⟩
  have := run_storeVar hsz hc ((concL_length hl).trans hlen) r1
  simp [execOp, Instr.storeAt, hxe, Instr.sureAddr, this]
theorem run_nilck {y : X} (hok : okA P op (.nilck y) = true) (hρ : EnvOk R t ρ) (hs : Sim P F R h.get w) (he : evA call (.nilck y) t h = .ok v h') :
    OpRun P F R h w (execOp ρ ⟨dst, op, ty, pos, af, gd⟩) v h' := by
  cases op <;> try exact (Bool.false_ne_true hok).elim
  rename_i x
  have hx := hρ x y hok
  simp only [evA] at he
  split at he <;> simp only [RO.ok.injEq, reduceCtorEq] at he <;> (obtain ⟨rfl, rfl⟩ := he) <;> rename_i e <;> rw [e] at hx
  · obtain ⟨c, sz, hb, hxe⟩ := conc_p hx
    exact .plain (x := ρ x) hs (by simp [execOp, hxe]) hx
  · have hx0 := hx
    simp only [conc] at hx0
    split at hx0 <;> simp at hx0
    exact .plain (x := ρ x) hs (by simp [execOp, ← hx0]) hx
  · have hx0 := hx
    simp only [conc, Option.map_eq_some_iff] at hx0
    obtain ⟨a, _, ha⟩ := hx0
    exact .plain (x := ρ x) hs (by simp [execOp, ← ha]) hx
theorem conc_i {k : IntKind} {n : Int} {x : Value} (hx : conc R (.i k n) = some x) : x = .int k n := by simpa [conc, eq_comm] using hx
theorem conc_bb {b : Bool} {x : Value} (hx : conc R (.b b) = some x) : x = .bool b := by simpa [conc, eq_comm] using hx
theorem conc_ss {l : List Nat} {x : Value} (hx : conc R (.s l) = some x) : x = .string (byteArr l) ∧ ∀ n ∈ l, n < 256 := by
  simp only [conc] at hx
  split at hx <;> simp at hx
  rename_i hl
  exact ⟨hx.symm, by simpa using hl⟩
theorem run_guard_int (o : BinOp) (ty : TypeId) (x y : Operand) (k k' : IntKind) (a b : Int) : (eqGuard o ty x y (.int k a) (.int k' b)).run P w = .ok () w := by
  cases o <;> simp [eqGuard]
theorem run_guard_str (o : BinOp) (ty : TypeId) (x y : Operand) (a b : ByteArray) : (eqGuard o ty x y (.string a) (.string b)).run P w = .ok () w := by
  cases o <;> simp [eqGuard]
theorem run_binI {o : BinOp} {k : IntKind} {a b : Int} {ty : TypeId} (ho : o ≠ .shl) (ho' : o ≠ .shr) (he : binI o k a b = some v) :
    ∃ x, (binOp o ty (.int k a) (.int k b)).run P w = .ok x w ∧ conc R v = some x := by
  cases o <;> simp only [binI] at he <;> try (first | exact absurd rfl ho | exact absurd rfl ho')
  case quo => split at he <;> simp at he; rename_i hb; subst he; exact ⟨_, by simp [binOp, Op.intDiv, hb]; rfl, by simp [conc]⟩
  case rem => split at he <;> simp at he; rename_i hb; subst he; exact ⟨_, by simp [binOp, Op.intDiv, hb]; rfl, by simp [conc]⟩
  all_goals (simp only [Option.some.injEq] at he; subst he; refine ⟨_, ?_, by simp only [conc, bitsV]; rfl⟩; simp [binOp, Op.intArith, Op.intBits, Op.intCmp])
  all_goals (first | rfl | (congr 1; simp [bne]; done) | skip)
theorem run_shI {o : BinOp} {k k' : IntKind} {a b : Int} {ty : TypeId} (ho : o = .shl ∨ o = .shr) (he : shI o k a b = some v) :
    ∃ x, (binOp o ty (.int k a) (.int k' b)).run P w = .ok x w ∧ conc R v = some x := by
  unfold shI at he
  split at he <;> try simp at he
  rename_i hb
  rcases ho with rfl | rfl <;> simp only [Option.some.injEq] at he <;> subst he <;> exact ⟨_, by simp [binOp, Op.shift, hb]; rfl, by simp [conc]⟩
theorem toList_byteArr (l : List Nat) : (byteArr l).toList = l.map UInt8.ofNat := by rw [ByteArray.toList_eq]; rfl
theorem size_byteArr (l : List Nat) : (byteArr l).size = l.length := by simp [byteArr, ByteArray.size]
theorem append_byteArr (a b : List Nat) : byteArr a ++ byteArr b = byteArr (a ++ b) := by
  apply ByteArray.ext
  simp [byteArr, ByteArray.data_append]
theorem ofNat_inj {a b : Nat} (ha : a < 256) (hb : b < 256) (h : UInt8.ofNat a = UInt8.ofNat b) : a = b := by
  have := congrArg UInt8.toNat h
  simp at this
  omega
theorem bytesEq_iff : ∀ (a b : List Nat), bytesEq a b = true ↔ a = b
  | [], [] => by simp [bytesEq]
  | [], _ :: _ => by simp [bytesEq]
  | _ :: _, [] => by simp [bytesEq]
  | x :: a, y :: b => by simp [bytesEq, bytesEq_iff a b]
theorem bytesEq_map : ∀ (a b : List Nat), (∀ n ∈ a, n < 256) → (∀ n ∈ b, n < 256) → ((a.map UInt8.ofNat) == (b.map UInt8.ofNat)) = bytesEq a b
  | [], [], _, _ => by simp [bytesEq]
  | [], _ :: _, _, _ => by simp [bytesEq]
  | _ :: _, [], _, _ => by simp [bytesEq]
  | x :: a, y :: b, ha, hb => by
    have ih := bytesEq_map a b (fun n hn => ha n (by simp [hn])) (fun n hn => hb n (by simp [hn]))
    simp only [List.map_cons, List.cons_beq_cons, bytesEq, ih]
    congr 1
    rw [Bool.eq_iff_iff]
    simp
    exact ⟨fun e => ofNat_inj (ha x (by simp)) (hb y (by simp)) e, fun e => by rw [e]⟩
theorem bytesLess_map : ∀ (a b : List Nat), (∀ n ∈ a, n < 256) → (∀ n ∈ b, n < 256) → Op.bytesLess (a.map UInt8.ofNat) (b.map UInt8.ofNat) = bytesLess a b
  | a, [], _, _ => by cases a <;> simp [Op.bytesLess, bytesLess]
  | [], _ :: _, _, _ => by simp [Op.bytesLess, bytesLess]
  | x :: a, y :: b, ha, hb => by
    have ih := bytesLess_map a b (fun n hn => ha n (by simp [hn])) (fun n hn => hb n (by simp [hn]))
    have hx := ha x (by simp)
    have hy := hb y (by simp)
    simp only [List.map_cons, Op.bytesLess, bytesLess, ih]
    have e1 : decide (UInt8.ofNat x < UInt8.ofNat y) = Nat.blt x y := by
      rw [Bool.eq_iff_iff]
      simp [UInt8.lt_iff_toNat_lt]
      omega
    have e2 : (UInt8.ofNat x == UInt8.ofNat y) = Nat.beq x y := by
      rw [Bool.eq_iff_iff]
      simp
      exact ⟨fun e => ofNat_inj hx hy e, fun e => by rw [e]⟩
    rw [e1, e2]
theorem run_binS {o : BinOp} {x y : List Nat} {ty : TypeId} (hx : ∀ n ∈ x, n < 256) (hy : ∀ n ∈ y, n < 256) (he : binS o x y = some v) :
    ∃ u, (binOp o ty (.string (byteArr x)) (.string (byteArr y))).run P w = .ok u w ∧ conc R v = some u := by
  have e1 := bytesEq_map x y hx hy
  have e2 := bytesLess_map x y hx hy
  cases o <;> simp only [binS, reduceCtorEq] at he
  case add =>
    split at he <;> simp at he
    rename_i hle
    subst he
    refine ⟨.string (byteArr (x ++ y)), ?_, ?_⟩
    · rw [Nat.ble_eq] at hle
      have : ¬ (((byteArr x).size + (byteArr y).size : Nat) : Int) > IntKind.i64.max := by
        rw [size_byteArr, size_byteArr]
        have : IntKind.i64.max = 9223372036854775807 := by decide
        omega
      simp only [binOp, Op.stringOp]
      rw [if_neg this, append_byteArr]
      rfl
    · simp only [conc]
      rw [if_pos]
      rw [List.all_append]
      simp only [Bool.and_eq_true, List.all_eq_true]
      exact ⟨fun n hn => by simpa using hx n hn, fun n hn => by simpa using hy n hn⟩
  all_goals (simp only [Option.some.injEq] at he; subst he; refine ⟨_, ?_, by simp only [conc]; rfl⟩; simp only [binOp, Op.stringOp, toList_byteArr, e1, e2]; rfl)
theorem run_bin {o : BinOp} {a b : X} (hok : okA P op (.bin o a b) = true) (hρ : EnvOk R t ρ) (hs : Sim P F R h.get w) (he : evA call (.bin o a b) t h = .ok v h') :
    OpRun P F R h w (execOp ρ ⟨dst, op, ty, pos, af, gd⟩) v h' := by
  cases op <;> try exact (Bool.false_ne_true hok).elim
  rename_i o' xt x y yt
  have hok : (decide (o' = o) && okX x a && okX y b) = true := hok
  rw [Bool.and_eq_true, Bool.and_eq_true] at hok
  obtain ⟨⟨ho, hxa⟩, hyb⟩ := hok
  have ho : o' = o := by simpa using ho
  subst ho
  have hx := hρ x a hxa
  have hy := hρ y b hyb
  simp only [evA] at he
  obtain ⟨hv, rfl⟩ := ofV_ok he
  have fin : ∀ u : Value, (eqGuard o' xt x y (ρ x) (ρ y)).run P w = .ok () w → (binOp o' xt (ρ x) (ρ y)).run P w = .ok u w → conc R v = some u → OpRun P F R h' w (execOp ρ ⟨dst, .binOp o' xt x y yt, ty, pos, af, gd⟩) v h' := by
    intro u h1 h2 h3
    exact .plain (x := u) hs (by simp [execOp, h1, h2]) h3
  generalize ha : a.ev t = va at *
  generalize hb : b.ev t = vb at *
  unfold binV at hv
  split at hv
  · rename_i k n k' m
    have hx := conc_i hx
    have hy := conc_i hy
    split at hv
    · obtain ⟨u, h1, h2⟩ := run_shI (P := P) (R := R) (w := w) (ty := xt) (k' := k') (.inl rfl) hv
      exact fin u (by rw [hx, hy]; exact run_guard_int ..) (by rw [hx, hy]; exact h1) h2
    · obtain ⟨u, h1, h2⟩ := run_shI (P := P) (R := R) (w := w) (ty := xt) (k' := k') (.inr rfl) hv
      exact fin u (by rw [hx, hy]; exact run_guard_int ..) (by rw [hx, hy]; exact h1) h2
    · rename_i n1 n2
      split at hv <;> try simp at hv
      rename_i hk
      subst hk
      obtain ⟨u, h1, h2⟩ := run_binI (P := P) (R := R) (w := w) (ty := xt) n1 n2 hv
      exact fin u (by rw [hx, hy]; exact run_guard_int ..) (by rw [hx, hy]; exact h1) h2
  · rename_i l m
    obtain ⟨hx, hx'⟩ := conc_ss hx
    obtain ⟨hy, hy'⟩ := conc_ss hy
    obtain ⟨u, h1, h2⟩ := run_binS (P := P) (R := R) (w := w) (ty := xt) hx' hy' hv
    exact fin u (by rw [hx, hy]; exact run_guard_str ..) (by rw [hx, hy]; exact h1) h2
  · simp at hv
theorem run_un {o : UnOp} {a : X} (hok : okA P op (.un o a) = true) (hρ : EnvOk R t ρ) (hs : Sim P F R h.get w) (he : evA call (.un o a) t h = .ok v h') :
    OpRun P F R h w (execOp ρ ⟨dst, op, ty, pos, af, gd⟩) v h' := by
  cases op <;> try exact (Bool.false_ne_true hok).elim
  rename_i o' xt x
  have hok : (decide (o' = o) && okX x a) = true := hok
  rw [Bool.and_eq_true] at hok
  obtain ⟨ho, hxa⟩ := hok
  have ho : o' = o := by simpa using ho
  subst ho
  have hx := hρ x a hxa
  simp only [evA] at he
  obtain ⟨hv, rfl⟩ := ofV_ok he
  generalize ha : a.ev t = va at *
  unfold unV at hv
  split at hv
  · have hx := conc_i hx
    split at hv <;> simp only [Option.some.injEq, reduceCtorEq] at hv
    · subst hv
      exact .plain hs (by simp [execOp, hx, Op.unary, Op.intArith]; rfl) (by simp [conc])
    · subst hv
      exact .plain hs (by simp [execOp, hx, Op.unary, Op.intBits]; rfl) (by simp [conc, bitsV])
  · have hx := conc_bb hx
    split at hv <;> simp only [Option.some.injEq, reduceCtorEq] at hv
    subst hv
    exact .plain hs (by simp [execOp, hx, Op.unary]; rfl) (by simp [conc])
  · simp at hv
theorem run_conv {k : IntKind} {a : X} (hok : okA P op (.conv k a) = true) (hρ : EnvOk R t ρ) (hs : Sim P F R h.get w) (he : evA call (.conv k a) t h = .ok v h') :
    OpRun P F R h w (execOp ρ ⟨dst, op, ty, pos, af, gd⟩) v h' := by
  cases op <;> try exact (Bool.false_ne_true hok).elim
  rename_i s d x
  have hok : (okX x a && (match P.underlying s, P.underlying d with
    | some _, some (.int k') => decide (k = k')
    | _, _ => false)) = true := hok
  rw [Bool.and_eq_true] at hok
  obtain ⟨hxa, hd⟩ := hok
  have hx := hρ x a hxa
  split at hd <;> try simp at hd
  rename_i d1 k1 hs1 hd1
  subst hd
  simp only [evA] at he
  split at he <;> simp only [RO.ok.injEq, reduceCtorEq] at he
  rename_i k2 n e
  obtain ⟨rfl, rfl⟩ := he
  rw [e] at hx
  have hx := conc_i hx
  refine .plain (x := .int k (k.wrap n)) hs ?_ (by simp [conc])
  simp only [execOp, Sem.run_bind, convert, run_underlying hs1, run_underlying hd1, Result.andThen_ok, hx]
  cases d1 <;> simp [Conv.intToInt]
theorem run_mkI {k : Nat} {a : X} (hok : okA P op (.mkI k a) = true) (hρ : EnvOk R t ρ) (hs : Sim P F R h.get w) (he : evA call (.mkI k a) t h = .ok v h') :
    OpRun P F R h w (execOp ρ ⟨dst, op, ty, pos, af, gd⟩) v h' := by
  cases op <;> try exact (Bool.false_ne_true hok).elim
  rename_i s x
  have hok : (Nat.beq s k && okX x a && (match P.underlying s with
    | some (.interface _) => false
    | some _ => true
    | none => false)) = true := hok
  rw [Bool.and_eq_true, Bool.and_eq_true, Nat.beq_eq] at hok
  obtain ⟨⟨rfl, hxa⟩, hd⟩ := hok
  have hx := hρ x a hxa
  simp only [evA, RO.ok.injEq] at he
  obtain ⟨rfl, rfl⟩ := he
  refine .plain (x := .iface s (ρ x)) hs ?_ (by simp [conc, hx])
  cases hu : P.underlying s with
  | none => simp [hu] at hd
  | some d =>
    cases d <;> simp [hu] at hd <;> simp [execOp, Instr.makeInterface, run_underlying hu]
theorem okXs_conc (hρ : EnvOk R t ρ) : ∀ (xs : List Operand) (ys : List X), okXs xs ys = true → concL R (ys.map (X.ev t)) = some (xs.map ρ)
  | [], [], _ => by simp [concL]
  | [], _ :: _, hk => by simp [okXs] at hk
  | _ :: _, [], hk => by simp [okXs] at hk
  | x :: xs, y :: ys, hk => by
    simp only [okXs, Bool.and_eq_true] at hk
    exact concL_cons.2 ⟨_, _, hρ x y hk.1, okXs_conc hρ xs ys hk.2, rfl⟩
theorem run_mkFn {f : Nat} {a c : List X} (hok : okA P op (.mkFn f a c) = true) (hρ : EnvOk R t ρ) (hs : Sim P F R h.get w) (he : evA call (.mkFn f a c) t h = .ok v h') :
    OpRun P F R h w (execOp ρ ⟨dst, op, ty, pos, af, gd⟩) v h' := by
  cases op <;> try exact (Bool.false_ne_true hok).elim
  rename_i fn a' c'
  cases fn <;> try exact (Bool.false_ne_true hok).elim
  rename_i g
  have hok : (Nat.beq g f && okXs a'.toList a && okXs c'.toList c) = true := hok
  rw [Bool.and_eq_true, Bool.and_eq_true, Nat.beq_eq] at hok
  obtain ⟨⟨rfl, ha⟩, hc⟩ := hok
  simp only [evA, RO.ok.injEq] at he
  obtain ⟨rfl, rfl⟩ := he
  refine .plain (x := .func (.func g) (a'.map ρ) (c'.map ρ)) hs (by simp [execOp, Instr.makeFunc]) ?_
  simp only [conc, okXs_conc hρ _ _ ha, okXs_conc hρ _ _ hc]
  congr 2 <;> simp [← Array.toList_map]
theorem run_mkMap (hok : okA P op .mkMap = true) (hs : Sim P F R h.get w) (hfr : Fresh R h h') (he : evA call .mkMap t h = .ok v h') :
    OpRun P F R h w (execOp ρ ⟨dst, op, ty, pos, af, gd⟩) v h' := by
  cases op <;> try exact (Bool.false_ne_true hok).elim
  rename_i s r
  cases r <;> try exact (Bool.false_ne_true hok).elim
  simp only [evA, RO.ok.injEq] at he
  obtain ⟨rfl, rfl⟩ := he
  obtain ⟨hf, hs'⟩ := new_step (x := .map []) (sz := 0) (o := .map #[] 0) hs (fresh_new hfr) (fun w' hw' => ⟨#[], 0, hw', by simp [concM]⟩)
  exact ⟨.value (.map (some w.heap.size)), _, _, by simp [execOp, Instr.makeMap], .inl rfl, _, _, hf, hs', by simp [conc, Emb.add_self]⟩
end
end Go.Air
namespace Go.Air
section
variable {P : Program} {F : Nat → Prop} {R : Emb} {h h' : H} {w : World} {t : List V} {ρ : Operand → Value} {v : V}
  {dst : Option Tmp} {op : Op} {ty : TypeId} {pos : String} {af : Array Edge} {gd : Option (Nat × Bool)} {call : V → List V → H → RO}
theorem natOf_i {v : V} {n : Nat} (hn : natOf v = some n) : ∃ k, v = .i k (.ofNat n) := by
  unfold natOf at hn
  split at hn <;> simp at hn
  subst hn
  exact ⟨_, rfl⟩
theorem run_sliceBound {x : Operand} {y : X} {n m : Nat} {code : BoundsCode} (hρ : EnvOk R t ρ) (hxy : okX x y = true) (hn : natOf (y.ev t) = some n) (hle : n ≤ m) :
    (Instr.sliceBound (ρ x) m code).run P w = .ok n w := by
  obtain ⟨k, hk⟩ := natOf_i hn
  have hx := hρ x y hxy
  rw [hk] at hx
  have hx := conc_i hx
  simp only [Instr.sliceBound, hx, asIntOf, Sem.run_bind, Sem.run_pure, Result.andThen_ok]
  rw [if_pos ⟨Int.natCast_nonneg n, Int.ofNat_le.2 hle⟩]
  simp
theorem run_bounds {iss : Bool} {len cap a b : Nat} {lo hi : Option X} {lo' hi' : Option Operand} (hρ : EnvOk R t ρ) (hlo : okXo lo' lo = true) (hhi : okXo hi' hi = true)
    (hb : bounds t len cap lo hi = some (a, b)) {cap' : Nat} (hcap : cap ≤ cap') : (Instr.sliceBounds iss len cap' (lo'.map ρ) (hi'.map ρ) none).run P w = .ok (a, b, cap') w ∧ a ≤ b ∧ b ≤ cap := by
  unfold bounds at hb
  cases hi with
  | none =>
    cases hi' with
    | some _ => simp [okXo] at hhi
    | none =>
      simp only at hb
      split at hb
      case isFalse => simp at hb
      rename_i hc
      rw [Nat.ble_eq] at hc
      cases lo with
      | none =>
        cases lo' with
        | some _ => simp [okXo] at hlo
        | none =>
          simp at hb
          obtain ⟨rfl, rfl⟩ := hb
          exact ⟨by simp [Instr.sliceBounds], Nat.zero_le _, hc⟩
      | some x =>
        cases lo' with
        | none => simp [okXo] at hlo
        | some x' =>
          split at hb <;> try simp at hb
          rename_i a' ha
          obtain ⟨hle, rfl, rfl⟩ := hb
          exact ⟨by simp [Instr.sliceBounds, run_sliceBound hρ hlo ha hle], hle, hc⟩
  | some y =>
    cases hi' with
    | none => simp [okXo] at hhi
    | some y' =>
      simp only at hb
      split at hb
      · simp at hb
      rename_i q hq
      split at hb
      case isFalse => simp at hb
      rename_i hc
      rw [Nat.ble_eq] at hc
      have hrq : ∀ code, (Instr.sliceBound (ρ y') cap' code).run P w = .ok q w := fun code => run_sliceBound hρ hhi hq (by omega)
      cases lo with
      | none =>
        cases lo' with
        | some _ => simp [okXo] at hlo
        | none =>
          simp at hb
          obtain ⟨rfl, rfl⟩ := hb
          exact ⟨by simp [Instr.sliceBounds, hrq], Nat.zero_le _, hc⟩
      | some x =>
        cases lo' with
        | none => simp [okXo] at hlo
        | some x' =>
          split at hb <;> try simp at hb
          rename_i a' ha
          obtain ⟨hle, rfl, rfl⟩ := hb
          exact ⟨by simp [Instr.sliceBounds, hrq, run_sliceBound hρ hlo ha hle], hle, hc⟩
theorem conc_sl {b o l c : Nat} {g : Option Nat} {x : Value} (hx : conc R (.sl b o l c g) = some x) : ∃ cb sz cap', R b = some (cb, sz) ∧ x = .slice (some ⟨cb, o, none⟩) l cap' ∧ c ≤ cap' ∧
    (g = none → cap' = c) ∧ (∀ e, g = some e → cap' = (sz - o) / e ∧ o + c * e ≤ sz ∧ 0 < e) := by
  cases g with
  | none =>
    simp only [conc, Option.map_eq_some_iff] at hx
    obtain ⟨a, ha, rfl⟩ := hx
    exact ⟨a.1, a.2, c, ha, rfl, Nat.le_refl _, (fun _ => rfl), (fun e he => by cases he)⟩
  | some e =>
    simp only [conc, Option.bind_eq_some_iff] at hx
    obtain ⟨a, ha, hx⟩ := hx
    split at hx <;> simp at hx
    rename_i hc
    subst hx
    refine ⟨a.1, a.2, _, ha, rfl, ?_, (fun hn => by cases hn), (fun e' he => by cases he; exact ⟨rfl, hc⟩)⟩
    rw [Nat.le_div_iff_mul_le hc.2]
    omega
theorem run_sl_expr {e : TypeId} {esz : Nat} {t' : TypeId} {x : Value} {lo hi : Option Value} {mx : Option Value} {a b m base len cap : Nat} {off : Nat} (hu : P.underlying t' = some (.slice e)) (hsz : isSz P e esz = true)
    (hx : x = .slice (some ⟨base, off, none⟩) len cap) (hb : (Instr.sliceBounds true len cap lo hi mx).run P w = .ok (a, b, m) w) :
    (Instr.sliceAt t' x lo hi mx).run P w = .ok (.slice (some ⟨base, if m = a then off else off + a * esz, none⟩) (b - a) (m - a)) w := by
  subst hx
  simp only [Instr.sliceAt, Sem.run_bind, run_underlying hu, Result.andThen_ok, Instr.slice, hb, run_size w hsz, Sem.run_pure, Option.map_some, add_spot]
  by_cases hm : m = a
  · rw [if_pos hm, if_pos hm]
  · rw [if_neg hm, if_neg hm]
theorem run_slc {esz : Nat} {y : X} {lo hi mx : Option X} (hok : okA P op (.slc esz y lo hi mx) = true) (hρ : EnvOk R t ρ) (hs : Sim P F R h.get w) (he : evA call (.slc esz y lo hi mx) t h = .ok v h') :
    OpRun P F R h w (execOp ρ ⟨dst, op, ty, pos, af, gd⟩) v h' := by
  cases op <;> try exact (Bool.false_ne_true hok).elim
  rename_i t' x lo' hi' mx'
  have hok : (okX x y && okXo lo' lo && okXo hi' hi && okXo mx' mx && (match P.underlying t' with
    | some (.slice e) => isSz P e esz
    | _ => false)) = true := hok
  simp only [Bool.and_eq_true] at hok
  obtain ⟨⟨⟨⟨hxy, hlo⟩, hhi⟩, hmx⟩, hu⟩ := hok
  split at hu <;> try simp at hu
  rename_i e hue
  have hx := hρ x y hxy
  simp only [evA] at he
  generalize y.ev t = vy at *
  cases mx with
  | none =>
    cases mx' with
    | some _ => simp [okXo] at hmx
    | none =>
      simp only at he
      obtain ⟨hv, rfl⟩ := ofV_ok he
      unfold sliceV at hv
      split at hv
      · split at hv <;> simp at hv
        subst hv
        rename_i q hq
        obtain ⟨a, b⟩ := q
        obtain ⟨hr, h1, h2⟩ := run_bounds (P := P) (w := w) (iss := true) hρ hlo hhi hq (Nat.le_refl _)
        simp [conc] at hx
        obtain rfl : b = 0 := by omega
        obtain rfl : a = 0 := by omega
        refine .plain (x := .slice none 0 0) hs ?_ (by simp [conc])
        simp [execOp, Instr.sliceAt, run_underlying hue, Instr.slice, ← hx, hr, run_size w hu]
      · rename_i aa
        split at hv <;> simp at hv
        subst hv
        rename_i q hq
        obtain ⟨a, b⟩ := q
        obtain ⟨hr, h1, h2⟩ := run_bounds (P := P) (w := w) (iss := true) hρ hlo hhi hq (Nat.le_refl _)
        simp [conc] at hx
        obtain rfl : b = 0 := by omega
        obtain rfl : a = 0 := by omega
        refine .plain (x := .slice (some aa) 0 0) hs ?_ (by simp [conc])
        simp [execOp, Instr.sliceAt, run_underlying hue, Instr.slice, ← hx, hr, run_size w hu]
      · rename_i blk off len cap g
        split at hv <;> try simp at hv
        rename_i a b hq
        obtain ⟨cb, sz, cap', hR, hxe, hcc, hg1, hg2⟩ := conc_sl hx
        obtain ⟨hr, h1, h2⟩ := run_bounds (P := P) (w := w) (iss := true) hρ hlo hhi hq hcc
        have hrun := run_sl_expr (P := P) (w := w) hue hu hxe hr
        refine ⟨_, _, w, by simp only [execOp, Sem.run_bind, Option.map_none, hrun, Result.andThen_ok, Sem.run_pure]; rfl, .inl rfl, .same hs ?_⟩
        cases g with
        | none =>
          simp at hv
          subst hv
          obtain rfl := hg1 rfl
          simp only [conc, hR, Option.map_some, Nat.beq_eq_true_eq]
          congr 5
          by_cases hac : a = cap'
          · simp [hac]
          · simp [hac, Ne.symm hac]
        | some g =>
          simp at hv
          obtain ⟨⟨hlt, rfl⟩, rfl⟩ := hv
          obtain ⟨hc1, hc2, hc3⟩ := hg2 g rfl
          have hne : ¬ cap' = a := by omega
          simp only [conc, hR, Option.bind_some, if_neg hne]
          have h3 : (cap - a) * g = cap * g - a * g := Nat.sub_mul ..
          have h4 : a * g ≤ cap * g := Nat.mul_le_mul_right g (by omega)
          rw [if_pos ⟨by omega, hc3⟩, hc1]
          congr 2
          rw [Nat.sub_add_eq, Nat.mul_comm a g, Nat.sub_mul_div]
      · simp at hv
  | some m =>
    cases mx' with
    | none => simp [okXo] at hmx
    | some m' =>
      simp only at he
      obtain ⟨hv, rfl⟩ := ofV_ok he
      unfold sliceV3 at hv
      have hbs : ∀ {len cap' mm a b : Nat} {hh : X}, natOf (m.ev t) = some mm → hi = some hh → mm ≤ cap' → bounds t mm mm lo hi = some (a, b) → ∃ hi1, hi' = some hi1 ∧
          (Instr.sliceBounds true len cap' (lo'.map ρ) (some (ρ hi1)) (some (ρ m'))).run P w = .ok (a, b, mm) w := by
        intro len cap' mm a b hh hm hhe hmc hq
        subst hhe
        cases hi' with
        | none => simp [okXo] at hhi
        | some hi' =>
          refine ⟨hi', rfl, ?_⟩
          have hrm := run_sliceBound (P := P) (w := w) (code := .slice3Acap) hρ hmx hm hmc
          have hok2 : okX hi' hh = true := hhi
          unfold bounds at hq
          simp only at hq
          split at hq <;> try simp at hq
          rename_i b' hb'
          obtain ⟨hle, hq⟩ := hq
          simp only [Instr.sliceBounds, Sem.run_bind, if_true, hrm, Result.andThen_ok, Sem.run_pure]
          rw [run_sliceBound hρ hok2 hb' hle]
          simp only [Result.andThen_ok]
          cases lo with
          | none =>
            cases lo' with
            | some _ => simp [okXo] at hlo
            | none => simp at hq; simp [hq]
          | some x1 =>
            cases lo' with
            | none => simp [okXo] at hlo
            | some x1' =>
              simp only at hq
              split at hq <;> try simp at hq
              rename_i a' ha
              obtain ⟨hle, rfl, rfl⟩ := hq
              simp only [Option.map_some, Sem.run_bind]
              rw [run_sliceBound hρ hlo ha hle]
              simp
      split at hv <;> try simp at hv
      · rename_i blk off len cap g
        split at hv <;> try simp at hv
        rename_i mm hh hm
        obtain ⟨hmc, hv⟩ := hv
        split at hv <;> simp at hv
        rename_i a b hq
        subst hv
        obtain ⟨cb, sz, cap', hR, hxe, hcc, hg1, hg2⟩ := conc_sl hx
        obtain ⟨hi1, rfl, hrb⟩ := hbs (len := len) (cap' := cap') hm rfl (Nat.le_trans hmc hcc) hq
        have hrun := run_sl_expr (P := P) (w := w) hue hu hxe hrb
        refine ⟨_, _, w, by simp only [execOp, Sem.run_bind, Option.map_some, hrun, Result.andThen_ok, Sem.run_pure]; rfl, .inl rfl, .same hs ?_⟩
        simp only [conc, hR, Option.map_some, Nat.beq_eq_true_eq]
        congr 5
        by_cases hac : a = mm
        · simp [hac]
        · simp [hac, Ne.symm hac]
      · rename_i aa
        split at hv <;> try simp at hv
        rename_i mm hh hm
        obtain ⟨rfl, hv⟩ := hv
        split at hv <;> simp at hv
        rename_i q hq
        obtain ⟨a, b⟩ := q
        subst hv
        obtain ⟨hi1, rfl, hrb⟩ := hbs (len := 0) (cap' := 0) hm rfl (Nat.le_refl _) hq
        obtain ⟨_, h1, h2⟩ := run_bounds (P := P) (w := w) (iss := true) hρ hlo hhi hq (Nat.le_refl _)
        obtain rfl : b = 0 := by omega
        obtain rfl : a = 0 := by omega
        simp [conc] at hx
        refine .plain (x := .slice (some aa) 0 0) hs ?_ (by simp [conc])
        simp [execOp, Instr.sliceAt, run_underlying hue, Instr.slice, ← hx, hrb, run_size w hu]
theorem run_slcA {len esz : Nat} {y : X} {lo hi : Option X} (hok : okA P op (.slcA len esz y lo hi) = true) (hρ : EnvOk R t ρ) (hs : Sim P F R h.get w) (he : evA call (.slcA len esz y lo hi) t h = .ok v h') :
    OpRun P F R h w (execOp ρ ⟨dst, op, ty, pos, af, gd⟩) v h' := by
  cases op <;> try exact (Bool.false_ne_true hok).elim
  rename_i t' x lo' hi' mx'
  have hok : (okX x y && okXo lo' lo && okXo hi' hi && mx'.isNone && (match P.underlying t' with
    | some (.array n e) => Nat.beq n len && isSz P e esz
    | _ => false)) = true := hok
  simp only [Bool.and_eq_true, Option.isNone_iff_eq_none] at hok
  obtain ⟨⟨⟨⟨hxy, hlo⟩, hhi⟩, rfl⟩, hu⟩ := hok
  split at hu <;> try simp at hu
  rename_i n e hue
  obtain ⟨rfl, hsz⟩ := hu
  have hx := hρ x y hxy
  simp only [evA] at he
  split at he <;> try simp at he
  rename_i b o hy
  split at he <;> simp only [RO.ok.injEq, reduceCtorEq] at he
  rename_i l r hq
  obtain ⟨rfl, rfl⟩ := he
  rw [hy] at hx
  obtain ⟨c, sz, hb, hxe⟩ := conc_p hx
  obtain ⟨hr, h1, h2⟩ := run_bounds (P := P) (w := w) (iss := false) hρ hlo hhi hq (Nat.le_refl _)
  refine .plain (x := .slice (some ⟨c, if n = l then o else o + l * esz, none⟩) (r - l) (n - l)) hs ?_ ?_
  · simp only [execOp, Instr.sliceAt, Sem.run_bind, run_underlying hue, Result.andThen_ok, hxe, Instr.sureAddr, Sem.run_pure, Option.map_none, hr, run_size w hsz, add_spot]
    by_cases hm : n = l
    · rw [if_pos hm, if_pos hm]
    · rw [if_neg hm, if_neg hm]
  · simp only [conc, hb, Option.map_some, Nat.beq_eq_true_eq]
    congr 5
    by_cases hac : l = n
    · simp [hac]
    · simp [hac, Ne.symm hac]
theorem extract_byteArr (l : List Nat) (a b : Nat) : (byteArr l).extract a b = byteArr ((l.drop a).take (b - a)) := by
  apply ByteArray.ext
  simp [byteArr, ByteArray.data_extract, List.extract, List.map_drop, List.map_take]
theorem run_slcS {y : X} {lo hi : Option X} (hok : okA P op (.slcS y lo hi) = true) (hρ : EnvOk R t ρ) (hs : Sim P F R h.get w) (he : evA call (.slcS y lo hi) t h = .ok v h') :
    OpRun P F R h w (execOp ρ ⟨dst, op, ty, pos, af, gd⟩) v h' := by
  cases op <;> try exact (Bool.false_ne_true hok).elim
  rename_i t' x lo' hi' mx'
  have hok : (okX x y && okXo lo' lo && okXo hi' hi && mx'.isNone && (match P.underlying t' with
    | some .string => true
    | _ => false)) = true := hok
  simp only [Bool.and_eq_true, Option.isNone_iff_eq_none] at hok
  obtain ⟨⟨⟨⟨hxy, hlo⟩, hhi⟩, rfl⟩, hu⟩ := hok
  split at hu <;> try simp at hu
  rename_i hue
  have hx := hρ x y hxy
  simp only [evA] at he
  split at he <;> try simp at he
  rename_i l hy
  split at he <;> simp only [RO.ok.injEq, reduceCtorEq] at he
  rename_i a b hq
  obtain ⟨rfl, rfl⟩ := he
  rw [hy] at hx
  obtain ⟨hxe, hlt⟩ := conc_ss hx
  obtain ⟨hr, h1, h2⟩ := run_bounds (P := P) (w := w) (iss := false) hρ hlo hhi hq (Nat.le_refl _)
  refine .plain (x := .string (byteArr ((l.drop a).take (b - a)))) hs ?_ ?_
  · simp only [execOp, Instr.sliceAt, Sem.run_bind, run_underlying hue, Result.andThen_ok, hxe, Instr.slice, Option.isSome_none, Option.map_none, size_byteArr, hr, extract_byteArr]
    simp [hr]
  · simp only [conc]
    rw [if_pos]
    rw [List.all_eq_true]
    intro n hn
    simpa using hlt n (List.mem_of_mem_drop (List.mem_of_mem_take hn))
theorem run_fld {off : Nat} {y : X} (hok : okA P op (.fld off y) = true) (hρ : EnvOk R t ρ) (hs : Sim P F R h.get w) (he : evA call (.fld off y) t h = .ok v h') :
    OpRun P F R h w (execOp ρ ⟨dst, op, ty, pos, af, gd⟩) v h' := by
  cases op <;> try exact (Bool.false_ne_true hok).elim
  rename_i s x f
  have hok : (okX x y && (match P.underlying s with
    | some (.struct fs) => (match fs[f]? with
      | some fd => Nat.beq fd.offset off && (match szT P fd.type with
        | some n => Nat.blt 0 n
        | none => false)
      | none => false)
    | _ => false)) = true := hok
  rw [Bool.and_eq_true] at hok
  obtain ⟨hxy, hu⟩ := hok
  split at hu <;> try simp at hu
  rename_i fs hue
  split at hu <;> try simp at hu
  rename_i fd hfd
  obtain ⟨rfl, hn⟩ := hu
  split at hn <;> try simp at hn
  rename_i n hsz
  have hx := hρ x y hxy
  simp only [evA] at he
  split at he <;> simp only [RO.ok.injEq, reduceCtorEq] at he
  rename_i b o hy
  obtain ⟨rfl, rfl⟩ := he
  rw [hy] at hx
  obtain ⟨c, sz, hb, hxe⟩ := conc_p hx
  have hr : (sizeOf fd.type).run P w = .ok n w := run_size w (by simp [isSz, hsz])
  refine .plain (x := .pointer (some ⟨c, o + fd.offset, none⟩)) hs ?_ (by simp [conc, hb])
  simp only [execOp, Instr.fieldAt, Sem.run_bind, run_underlying hue, Result.andThen_ok, hfd, hxe, Instr.sureAddr, Sem.run_pure, fieldPlace, hr]
  rw [if_neg (by omega)]
  simp [add_spot]
theorem run_part_plainT {ft : TypeId} {cs : Array Value} {off : Nat} {x : Value} (hp : plainT P ft = true) (hx : cs.toList[off]? = some x) : (part ft cs off).run P w = .ok x w := by
  simp only [part, Sem.run_bind, run_isAgg_plain w hp, Result.andThen_ok, Bool.false_eq_true, if_false]
  rw [Array.getElem?_toList] at hx
  simp [hx]
theorem run_part_aggT {ft : TypeId} {cs : Array Value} {off n : Nat} (hp : aggT P ft = true) (hn : isSz P ft n = true) : (part ft cs off).run P w = .ok (.agg ((cs.toList.drop off).take n).toArray) w := by
  simp only [part, Sem.run_bind, run_isAgg_agg w hp, Result.andThen_ok, if_true, run_size w hn, Sem.run_pure]
  congr 2
  apply Array.ext'
  simp [List.extract]
theorem conc_agg {c : List V} {x : Value} (hx : conc R (.agg c) = some x) : ∃ l, concL R c = some l ∧ x = .agg l.toArray := by
  simp only [conc] at hx
  cases hc : concL R c with
  | none => simp [hc] at hx
  | some l => simp [hc] at hx; exact ⟨l, rfl, hx.symm⟩
theorem conc_tup {c : List V} {x : Value} (hx : conc R (.tup c) = some x) : ∃ l, concL R c = some l ∧ x = .tuple l.toArray := by
  simp only [conc] at hx
  cases hc : concL R c with
  | none => simp [hc] at hx
  | some l => simp [hc] at hx; exact ⟨l, rfl, hx.symm⟩
theorem run_fldv {off : Nat} {sz : Option Nat} {y : X} (hok : okA P op (.fldv off sz y) = true) (hρ : EnvOk R t ρ) (hs : Sim P F R h.get w) (he : evA call (.fldv off sz y) t h = .ok v h') :
    OpRun P F R h w (execOp ρ ⟨dst, op, ty, pos, af, gd⟩) v h' := by
  cases op <;> try exact (Bool.false_ne_true hok).elim
  rename_i s x f
  have hok : (okX x y && (match P.underlying s with
    | some (.struct fs) => (match fs[f]? with
      | some fd => Nat.beq fd.offset off && (match (generalizing := false) sz with
        | none => plainT P fd.type
        | some n => aggT P fd.type && isSz P fd.type n)
      | none => false)
    | _ => false)) = true := hok
  rw [Bool.and_eq_true] at hok
  obtain ⟨hxy, hu⟩ := hok
  split at hu <;> try simp at hu
  rename_i fs hue
  split at hu <;> try simp at hu
  rename_i fd hfd
  obtain ⟨rfl, hn⟩ := hu
  have hx := hρ x y hxy
  simp only [evA] at he
  split at he <;> try simp at he
  rename_i c hy
  rw [hy] at hx
  obtain ⟨l, hl, hxe⟩ := conc_agg hx
  cases sz with
  | none =>
    simp only at he
    obtain ⟨hv, rfl⟩ := ofV_ok he
    rw [nth?_eq] at hv
    obtain ⟨u, hu, hc⟩ := concL_get hl hv
    refine .plain (x := u) hs ?_ hc
    simp [execOp, Instr.field, run_underlying hue, hfd, hxe, asAgg, run_part_plainT (P := P) (w := w) (cs := l.toArray) hn (by simpa using hu)]
  | some n =>
    simp only at he hn
    rw [Bool.and_eq_true] at hn
    split at he <;> simp only [RO.ok.injEq, reduceCtorEq] at he
    rename_i l' hl'
    obtain ⟨rfl, rfl⟩ := he
    obtain ⟨hle, rfl⟩ := cut_eq.1 hl'
    refine .plain (x := .agg ((l.drop fd.offset).take n).toArray) hs ?_ (by simp [conc, concL_take n (concL_drop fd.offset hl)])
    simp [execOp, Instr.field, run_underlying hue, hfd, hxe, asAgg, run_part_aggT (P := P) (w := w) (cs := l.toArray) hn.1 hn.2]
theorem run_ixS {esz : Nat} {y i : X} (hok : okA P op (.ixS esz y i) = true) (hρ : EnvOk R t ρ) (hs : Sim P F R h.get w) (he : evA call (.ixS esz y i) t h = .ok v h') :
    OpRun P F R h w (execOp ρ ⟨dst, op, ty, pos, af, gd⟩) v h' := by
  cases op <;> try exact (Bool.false_ne_true hok).elim
  rename_i t' x ix
  have hok : (okX x y && okX ix i && (match P.underlying t' with
    | some (.slice e) => isSz P e esz
    | _ => false)) = true := hok
  simp only [Bool.and_eq_true] at hok
  obtain ⟨⟨hxy, hii⟩, hu⟩ := hok
  split at hu <;> try simp at hu
  rename_i e hue
  have hx := hρ x y hxy
  have hi := hρ ix i hii
  simp only [evA] at he
  split at he <;> try simp at he
  rename_i b o len cap g n hy hn
  split at he <;> simp only [RO.ok.injEq, reduceCtorEq] at he
  rename_i hlt
  obtain ⟨rfl, rfl⟩ := he
  rw [hy] at hx
  obtain ⟨cb, sz, cap', hR, hxe, hcc, hg1, hg2⟩ := conc_sl hx
  obtain ⟨k, hk⟩ := natOf_i hn
  rw [hk] at hi
  have hi := conc_i hi
  refine .plain (x := .pointer (some ⟨cb, o + n * esz, none⟩)) hs ?_ (by simp [conc, hR])
  simp only [execOp, Instr.indexAt, Sem.run_bind, run_underlying hue, Result.andThen_ok, hxe, hi, asIntOf, Sem.run_pure]
  rw [if_pos ⟨Int.natCast_nonneg n, Int.ofNat_lt.2 hlt⟩]
  simp [run_size w hu, add_spot]
theorem run_ixA {len esz : Nat} {y i : X} (hok : okA P op (.ixA len esz y i) = true) (hρ : EnvOk R t ρ) (hs : Sim P F R h.get w) (he : evA call (.ixA len esz y i) t h = .ok v h') :
    OpRun P F R h w (execOp ρ ⟨dst, op, ty, pos, af, gd⟩) v h' := by
  cases op <;> try exact (Bool.false_ne_true hok).elim
  rename_i t' x ix
  have hok : (okX x y && okX ix i && (match P.underlying t' with
    | some (.array n e) => Nat.beq n len && isSz P e esz
    | _ => false)) = true := hok
  simp only [Bool.and_eq_true] at hok
  obtain ⟨⟨hxy, hii⟩, hu⟩ := hok
  split at hu <;> try simp at hu
  rename_i n' e hue
  obtain ⟨rfl, hsz⟩ := hu
  have hx := hρ x y hxy
  have hi := hρ ix i hii
  simp only [evA] at he
  split at he <;> try simp at he
  rename_i b o n hy hn
  split at he <;> simp only [RO.ok.injEq, reduceCtorEq] at he
  rename_i hlt
  obtain ⟨rfl, rfl⟩ := he
  rw [hy] at hx
  obtain ⟨c, sz, hb, hxe⟩ := conc_p hx
  obtain ⟨k, hk⟩ := natOf_i hn
  rw [hk] at hi
  have hi := conc_i hi
  refine .plain (x := .pointer (some ⟨c, o + n * esz, none⟩)) hs ?_ (by simp [conc, hb])
  simp only [execOp, Instr.indexAt, Sem.run_bind, run_underlying hue, Result.andThen_ok, hxe, hi, asIntOf, Sem.run_pure, Instr.sureAddr]
  rw [if_pos ⟨Int.natCast_nonneg n, Int.ofNat_lt.2 hlt⟩]
  simp [run_size w hsz, add_spot]
theorem run_ixStr {y i : X} (hok : okA P op (.ixStr y i) = true) (hρ : EnvOk R t ρ) (hs : Sim P F R h.get w) (he : evA call (.ixStr y i) t h = .ok v h') :
    OpRun P F R h w (execOp ρ ⟨dst, op, ty, pos, af, gd⟩) v h' := by
  cases op <;> try exact (Bool.false_ne_true hok).elim
  rename_i t' x ix
  have hok : (okX x y && okX ix i && (match P.underlying t' with
    | some .string => true
    | _ => false)) = true := hok
  simp only [Bool.and_eq_true] at hok
  obtain ⟨⟨hxy, hii⟩, hu⟩ := hok
  split at hu <;> try simp at hu
  rename_i hue
  have hx := hρ x y hxy
  have hi := hρ ix i hii
  simp only [evA] at he
  split at he <;> try simp at he
  rename_i l n hy hn
  split at he <;> simp only [RO.ok.injEq, reduceCtorEq] at he
  rename_i c hc
  obtain ⟨rfl, rfl⟩ := he
  rw [hy] at hx
  obtain ⟨hxe, hlt⟩ := conc_ss hx
  obtain ⟨k, hk⟩ := natOf_i hn
  rw [hk] at hi
  have hi := conc_i hi
  have hn' : n < l.length := (List.getElem?_eq_some_iff.1 hc).1
  have hget : (byteArr l)[n]? = some (UInt8.ofNat c) := by
    have hs : n < (byteArr l).size := by rw [size_byteArr]; exact hn'
    rw [getElem?_pos (byteArr l) n hs]
    congr 1
    have e : l[n] = c := (List.getElem?_eq_some_iff.1 hc).2
    show (byteArr l).data[n] = _
    simp [byteArr, e]
  have hc256 : c < 256 := hlt c (List.mem_of_getElem? hc)
  refine .plain (x := .int .u8 c) hs ?_ (by simp [conc])
  simp only [execOp, Instr.index, Sem.run_bind, run_underlying hue, Result.andThen_ok, hxe, hi, asIntOf, Sem.run_pure]
  rw [if_pos (show (0 : Int) ≤ Int.ofNat n from Int.natCast_nonneg n)]
  simp only [Int.ofNat_eq_natCast, Int.toNat_natCast, hget]
  simp
  omega
theorem run_ixV {len esz : Nat} {ag : Bool} {y i : X} (hok : okA P op (.ixV len esz ag y i) = true) (hρ : EnvOk R t ρ) (hs : Sim P F R h.get w) (he : evA call (.ixV len esz ag y i) t h = .ok v h') :
    OpRun P F R h w (execOp ρ ⟨dst, op, ty, pos, af, gd⟩) v h' := by
  cases op <;> try exact (Bool.false_ne_true hok).elim
  rename_i t' x ix
  have hok : (okX x y && okX ix i && (match P.underlying t' with
    | some (.array n e) => Nat.beq n len && isSz P e esz && (if ag then aggT P e else plainT P e)
    | _ => false)) = true := hok
  simp only [Bool.and_eq_true] at hok
  obtain ⟨⟨hxy, hii⟩, hu⟩ := hok
  split at hu <;> try simp at hu
  rename_i n' e hue
  obtain ⟨⟨rfl, hsz⟩, hag⟩ := hu
  have hx := hρ x y hxy
  have hi := hρ ix i hii
  simp only [evA] at he
  split at he <;> try simp at he
  rename_i c n hy hn
  by_cases hlt : n < n'
  case neg => rw [if_neg hlt] at he; cases he
  rw [if_pos hlt] at he
  rw [hy] at hx
  obtain ⟨l, hl, hxe⟩ := conc_agg hx
  obtain ⟨k, hk⟩ := natOf_i hn
  rw [hk] at hi
  have hi := conc_i hi
  cases ag with
  | true =>
    simp only [if_true] at he hag
    split at he <;> simp only [RO.ok.injEq, reduceCtorEq] at he
    rename_i l' hl'
    obtain ⟨rfl, rfl⟩ := he
    obtain ⟨hle, rfl⟩ := cut_eq.1 hl'
    refine .plain (x := .agg ((l.drop (n * esz)).take esz).toArray) hs ?_ (by simp [conc, concL_take esz (concL_drop (n * esz) hl)])
    simp only [execOp, Instr.index, Sem.run_bind, run_underlying hue, Result.andThen_ok, hxe, hi, asIntOf, Sem.run_pure]
    rw [if_pos ⟨Int.natCast_nonneg n, Int.ofNat_lt.2 hlt⟩]
    simp [run_size w hsz, run_part_aggT (P := P) (w := w) (cs := l.toArray) hag hsz]
  | false =>
    simp only [Bool.false_eq_true, if_false] at he hag
    obtain ⟨hv, rfl⟩ := ofV_ok he
    rw [nth?_eq] at hv
    obtain ⟨u, hu, hc⟩ := concL_get hl hv
    refine .plain (x := u) hs ?_ hc
    simp only [execOp, Instr.index, Sem.run_bind, run_underlying hue, Result.andThen_ok, hxe, hi, asIntOf, Sem.run_pure]
    rw [if_pos ⟨Int.natCast_nonneg n, Int.ofNat_lt.2 hlt⟩]
    simp [run_size w hsz, run_part_plainT (P := P) (w := w) (cs := l.toArray) hag (by simpa using hu)]
theorem run_ext {y : X} {n : Nat} (hok : okA P op (.ext y n) = true) (hρ : EnvOk R t ρ) (hs : Sim P F R h.get w) (he : evA call (.ext y n) t h = .ok v h') :
    OpRun P F R h w (execOp ρ ⟨dst, op, ty, pos, af, gd⟩) v h' := by
  cases op <;> try exact (Bool.false_ne_true hok).elim
  rename_i x m
  have hok : (Nat.beq m n && okX x y) = true := hok
  rw [Bool.and_eq_true, Nat.beq_eq] at hok
  obtain ⟨rfl, hxy⟩ := hok
  have hx := hρ x y hxy
  simp only [evA] at he
  split at he <;> try simp at he
  rename_i c hy
  obtain ⟨hv, rfl⟩ := ofV_ok he
  rw [hy] at hx
  obtain ⟨l, hl, hxe⟩ := conc_tup hx
  rw [nth?_eq] at hv
  obtain ⟨u, hu, hc⟩ := concL_get hl hv
  refine .plain (x := u) hs ?_ hc
  simp [execOp, Instr.extract, hxe, hu]
end
end Go.Air
namespace Go.Air
theorem zrow_mul (z : List Value) : ∀ c : Nat, zrow z (c * z.length) = (List.replicate c z).flatten
  | 0 => by simp [zrow]
  | c + 1 => by
    have ih := zrow_mul z c
    rw [List.replicate_succ', List.flatten_append, ← ih]
    unfold zrow
    rw [Nat.add_mul, Nat.one_mul, List.range_add, List.map_append, List.map_map]
    congr 1
    simp only [List.flatten_cons, List.flatten_nil, List.append_nil]
    apply List.ext_getElem?
    intro i
    by_cases hi : i < z.length
    · simp [hi, Nat.mod_eq_of_lt hi]
    · rw [List.getElem?_eq_none (by simpa using hi), List.getElem?_eq_none (by omega)]
theorem zeroCells_eq (z : Array Value) (n : Nat) : (Builtin.zeroCells z n).toList = (List.replicate n z.toList).flatten := by
  unfold Builtin.zeroCells
  rw [zrow_range, ← zrow_mul]
  simp
section
variable {P : Program} {F : Nat → Prop} {R : Emb} {h h' : H} {w : World} {t : List V} {ρ : Operand → Value} {v : V}
  {dst : Option Tmp} {op : Op} {ty : TypeId} {pos : String} {af : Array Edge} {gd : Option (Nat × Bool)} {call : V → List V → H → RO}
theorem run_mkSl {z : List V} {bytes : Nat} {a b : X} (hok : okA P op (.mkSl z bytes a b) = true) (hρ : EnvOk R t ρ) (hs : Sim P F R h.get w) (hfr : Fresh R h h') (he : evA call (.mkSl z bytes a b) t h = .ok v h') :
    OpRun P F R h w (execOp ρ ⟨dst, op, ty, pos, af, gd⟩) v h' := by
  cases op <;> try exact (Bool.false_ne_true hok).elim
  rename_i t' x y
  have hok : (okX x a && okX y b && (match P.underlying t' with
    | some (.slice e) => (match P.info? e with
      | some i => Nat.beq i.bytes bytes && Nat.beq i.size z.length && (match i.zero with
        | some v => sameL z v.cells.toList
        | none => false)
      | none => false)
    | _ => false)) = true := hok
  simp only [Bool.and_eq_true] at hok
  obtain ⟨⟨hxa, hyb⟩, hu⟩ := hok
  split at hu <;> try simp at hu
  rename_i e hue
  cases hi : P.info? e with
  | none => simp [hi] at hu
  | some i =>
    simp only [hi, Bool.and_eq_true, Nat.beq_eq] at hu
    obtain ⟨⟨hby, hsz⟩, hz⟩ := hu
    cases hzv : i.zero with
    | none => simp [hzv] at hz
    | some u =>
      simp only [hzv] at hz
      have hz0 : zeroT P e = some u := by simp [zeroT, hi, hzv]
      have hc := concL_of_same R z _ hz
      have hx := hρ x a hxa
      have hy := hρ y b hyb
      simp only [evA] at he
      split at he <;> try simp at he
      rename_i l c hl hcn
      obtain ⟨k1, hk1⟩ := natOf_i hl
      obtain ⟨k2, hk2⟩ := natOf_i hcn
      rw [hk1] at hx; rw [hk2] at hy
      have hx := conc_i hx
      have hy := conc_i hy
      split at he <;> simp only [RO.ok.injEq, reduceCtorEq] at he
      rename_i hle
      obtain ⟨rfl, rfl⟩ := he
      obtain ⟨⟨hlc, hc48⟩, hb48⟩ := hle
      have w1 : IntKind.i64.wrap (Int.ofNat l) = l := IntWalk.i64_in _ (by rw [Int.ofNat_eq_natCast]; omega)
      have w2 : IntKind.i64.wrap (Int.ofNat c) = c := IntWalk.i64_in _ (by rw [Int.ofNat_eq_natCast]; omega)
      have hsize : (sizeOf e).run P w = .ok i.size w := run_size w (by simp [isSz, szT, hi])
      have hzl : u.cells.toList.length = z.length := concL_length hc
      obtain ⟨arr, ha, hrun⟩ : ∃ arr : Array Value, arr.toList = (List.replicate c u.cells.toList).flatten ∧
          (Instr.makeSlice t' (ρ x) (ρ y)).run P w = .ok (.slice (some ⟨w.heap.size, 0, none⟩) l c) (w.alloc (.cells arr e)) := by
        have hnot1 : ¬ ((decide ((c : Int) < 0) || decide ((bytes : Int) * (c : Int) > 2 ^ 48)) = true) := by
          simp only [Bool.or_eq_true, decide_eq_true_eq, not_or]
          refine ⟨by omega, ?_⟩
          have : ((bytes * c : Nat) : Int) ≤ 281474976710656 := Int.ofNat_le.2 hb48
          rw [Int.natCast_mul] at this
          omega
        have hnot : ¬ (((decide ((c : Int) < 0) || decide ((bytes : Int) * (c : Int) > 2 ^ 48)) || decide ((l : Int) < 0) || decide ((l : Int) > (c : Int))) = true) := by
          rw [Bool.or_eq_true, Bool.or_eq_true, not_or, not_or]
          exact ⟨⟨hnot1, by simp⟩, by simp; omega⟩
        by_cases h0 : c * i.size = 0
        · refine ⟨(Array.range (c * i.size)).map fun k => (#[] : Array Value)[k % 0]!, ?_, ?_⟩
          · rw [← zrow_mul, hzl, ← hsz, h0]
            simp [zrow]
          · simp only [Instr.makeSlice, Sem.run_bind, run_underlying hue, Result.andThen_ok, hx, hy, asInt, asIntOf, Sem.run_pure, run_tInfo w hi, w1, w2, hby]
            rw [if_neg hnot]
            simp only [Sem.run_bind, run_askRoom, Result.andThen_ok, hsize, Int.toNat_natCast]
            rw [if_pos h0]
            simp [newRow]
        · refine ⟨(Array.range (c * i.size)).map fun k => u.cells[k % u.cells.size]!, ?_, ?_⟩
          · rw [zrow_range, ← zrow_mul, hzl, ← hsz]
          · simp only [Instr.makeSlice, Sem.run_bind, run_underlying hue, Result.andThen_ok, hx, hy, asInt, asIntOf, Sem.run_pure, run_tInfo w hi, w1, w2, hby]
            rw [if_neg hnot]
            simp only [Sem.run_bind, run_askRoom, Result.andThen_ok, hsize, Int.toNat_natCast]
            rw [if_neg h0]
            simp [newRow, run_zero w hz0]
      obtain ⟨hf, hs'⟩ := new_cells (e := e) (cs := rep z c) hs (fresh_new hfr) (arr := arr) (by rw [ha]; exact concL_rep hc c)
      exact ⟨.value (.slice (some ⟨w.heap.size, 0, none⟩) l c), _, _, by simp only [execOp, Sem.run_bind, hrun, Result.andThen_ok, Sem.run_pure], .inl rfl, _, _, hf, hs', by simp [conc, Emb.add_self]⟩
theorem okB_inv {c : Call} {a : A} (hok : okB P c a = true) : ∃ b, c.callee = .builtin b ∧ okCallB P b c.args.toList c.argTypes.toList a = true := by
  unfold okB at hok
  split at hok <;> try simp at hok
  rename_i b hb
  exact ⟨b, hb, hok⟩
theorem run_builtin {c : Call} {b : Builtin} (hb : c.callee = .builtin b) :
    (execOp ρ ⟨dst, .call c, ty, pos, af, gd⟩).run P w = (builtin b c.argTypes ty (c.args.map fun | .const _ => true | _ => false) (c.args.map ρ)).run P w := by
  simp only [execOp, resolve, hb, Sem.run_bind, Sem.run_pure, Result.andThen_ok, invoke]
  rfl
theorem arr1 {α : Type} {a : Array α} {x : α} (h : a.toList = [x]) : a = #[x] := by
  apply Array.ext'
  simpa using h
theorem arr2 {α : Type} {a : Array α} {x y : α} (h : a.toList = [x, y]) : a = #[x, y] := by
  apply Array.ext'
  simpa using h
theorem run_lenS {y : X} (hok : okA P op (.lenS y) = true) (hρ : EnvOk R t ρ) (hs : Sim P F R h.get w) (he : evA call (.lenS y) t h = .ok v h') :
    OpRun P F R h w (execOp ρ ⟨dst, op, ty, pos, af, gd⟩) v h' := by
  cases op <;> try exact (Bool.false_ne_true hok).elim
  rename_i c
  obtain ⟨b, hb, hk⟩ := okB_inv (show okB P c (.lenS y) = true from hok)
  simp only [okCallB] at hk
  split at hk <;> try simp at hk
  rename_i x t' hx ht
  obtain ⟨hxy, hu⟩ := hk
  split at hu <;> try simp at hu
  rename_i hue
  have hx' := hρ x y hxy
  simp only [evA] at he
  split at he <;> simp only [RO.ok.injEq, reduceCtorEq] at he
  rename_i l hy
  obtain ⟨rfl, rfl⟩ := he
  rw [hy] at hx'
  obtain ⟨hxe, _⟩ := conc_ss hx'
  refine .plain (x := .int .i64 (l.length : Int)) hs ?_ (by simp [conc])
  rw [run_builtin hb, arr1 hx, arr1 ht]
  simp [builtin, Builtin.len_, run_underlying hue, hxe, size_byteArr, goInt]
theorem run_lenL {y : X} (hok : okA P op (.lenL y) = true) (hρ : EnvOk R t ρ) (hs : Sim P F R h.get w) (he : evA call (.lenL y) t h = .ok v h') :
    OpRun P F R h w (execOp ρ ⟨dst, op, ty, pos, af, gd⟩) v h' := by
  cases op <;> try exact (Bool.false_ne_true hok).elim
  rename_i c
  obtain ⟨b, hb, hk⟩ := okB_inv (show okB P c (.lenL y) = true from hok)
  simp only [okCallB] at hk
  split at hk <;> try simp at hk
  rename_i x t' hx ht
  obtain ⟨hxy, hu⟩ := hk
  split at hu <;> try simp at hu
  rename_i e hue
  have hx' := hρ x y hxy
  simp only [evA] at he
  split at he <;> simp only [RO.ok.injEq, reduceCtorEq] at he <;> rename_i hy <;> (obtain ⟨rfl, rfl⟩ := he) <;> rw [hy] at hx'
  · simp [conc] at hx'
    refine .plain (x := .int .i64 0) hs ?_ (by simp [conc])
    rw [run_builtin hb, arr1 hx, arr1 ht]
    simp [builtin, Builtin.len_, run_underlying hue, ← hx', goInt]
  · simp [conc] at hx'
    refine .plain (x := .int .i64 0) hs ?_ (by simp [conc])
    rw [run_builtin hb, arr1 hx, arr1 ht]
    simp [builtin, Builtin.len_, run_underlying hue, ← hx', goInt]
  · rename_i n _ _
    obtain ⟨cb, sz, cap', hR, hxe, hcc, hg1, hg2⟩ := conc_sl hx'
    refine .plain (x := .int .i64 (n : Int)) hs ?_ (by simp [conc])
    rw [run_builtin hb, arr1 hx, arr1 ht]
    simp [builtin, Builtin.len_, run_underlying hue, hxe, goInt]
theorem run_lenC {n : Nat} (hok : okA P op (.lenC n) = true) (hs : Sim P F R h.get w) (he : evA call (.lenC n) t h = .ok v h') :
    OpRun P F R h w (execOp ρ ⟨dst, op, ty, pos, af, gd⟩) v h' := by
  cases op <;> try exact (Bool.false_ne_true hok).elim
  rename_i c
  obtain ⟨b, hb, hk⟩ := okB_inv (show okB P c (.lenC n) = true from hok)
  simp only [okCallB] at hk
  split at hk <;> try simp at hk
  rename_i x t' hx ht
  simp only [evA, RO.ok.injEq] at he
  obtain ⟨rfl, rfl⟩ := he
  refine .plain (x := .int .i64 (n : Int)) hs ?_ (by simp [conc])
  rw [run_builtin hb, arr1 hx, arr1 ht]
  split at hk <;> try simp at hk
  · rename_i m e hue
    subst hk
    simp [builtin, Builtin.len_, run_underlying hue, goInt]
  · rename_i a hue
    split at hk <;> try simp at hk
    rename_i m e hua
    subst hk
    simp [builtin, Builtin.len_, run_underlying hue, run_underlying hua, goInt]
theorem concM_length : ∀ {es : List (V × V)} {l : List (Value × Value)}, concM R es = some l → l.length = es.length
  | [], l, hl => by simp [concM] at hl; subst hl; rfl
  | (k, v) :: es, l, hl => by
    obtain ⟨x, y, w, _, _, h3, rfl⟩ := concM_cons.1 hl
    simp [concM_length h3]
theorem run_lenM {y : X} (hok : okA P op (.lenM y) = true) (hρ : EnvOk R t ρ) (hs : Sim P F R h.get w) (hF : FootOk F (reads (.lenM y) t)) (he : evA call (.lenM y) t h = .ok v h') :
    OpRun P F R h w (execOp ρ ⟨dst, op, ty, pos, af, gd⟩) v h' := by
  cases op <;> try exact (Bool.false_ne_true hok).elim
  rename_i c
  obtain ⟨b, hb, hk⟩ := okB_inv (show okB P c (.lenM y) = true from hok)
  simp only [okCallB] at hk
  split at hk <;> try simp at hk
  rename_i x t' hx ht
  obtain ⟨hxy, hu⟩ := hk
  split at hu <;> try simp at hu
  rename_i k e hue
  have hx' := hρ x y hxy
  simp only [evA] at he
  split at he <;> try simp at he
  · rename_i hy
    obtain ⟨rfl, rfl⟩ := he
    rw [hy] at hx'
    simp [conc] at hx'
    refine .plain (x := .int .i64 0) hs ?_ (by simp [conc])
    rw [run_builtin hb, arr1 hx, arr1 ht]
    simp [builtin, Builtin.len_, run_underlying hue, ← hx', goInt]
  · rename_i m hy
    split at he <;> simp only [RO.ok.injEq, reduceCtorEq] at he
    rename_i es hg
    obtain ⟨rfl, rfl⟩ := he
    rw [hy] at hx'
    simp only [conc, Option.map_eq_some_iff] at hx'
    obtain ⟨⟨cb, sz⟩, hR, hxe⟩ := hx'
    obtain ⟨arr, ck, h1, h2⟩ := hs.blk m cb sz _ (hF m (by simp [hy, blockOf])) hR hg
    have hl := concM_length h2
    refine .plain (x := .int .i64 (es.length : Int)) hs ?_ (by simp [conc])
    rw [run_builtin hb, arr1 hx, arr1 ht]
    simp at hl
    simp [builtin, Builtin.len_, run_underlying hue, ← hxe, getObj, Sem.run, h1, goInt, hl]
theorem run_mm {g : Bool} : ∀ (l : List V) (x : V) (xs : List Value) (y : Value), minI g x l = some v → conc R x = some y → concL R l = some xs → (∃ k n, x = .i k n) →
    ∃ u, (xs.foldlM (if g then Builtin.max2 else Builtin.min2) y).run P w = .ok u w ∧ conc R v = some u
  | [], x, xs, y, hm, hx, hl, _ => by
    simp [concL] at hl
    subst hl
    simp [minI] at hm
    subst hm
    exact ⟨y, by simp, hx⟩
  | z :: l, x, xs, y, hm, hx, hl, ⟨k, n, hxi⟩ => by
    obtain ⟨a, b, h1, h2, rfl⟩ := concL_cons.1 hl
    subst hxi
    simp only [minI] at hm
    split at hm <;> try simp at hm
    rename_i q hq
    unfold mmI at hq
    split at hq <;> simp at hq
    rename_i k1 n1 k2 n2 e1
    simp only [V.i.injEq] at e1
    obtain ⟨rfl, rfl⟩ := e1
    obtain rfl := conc_i hx
    obtain rfl := conc_i h1
    subst hq
    obtain ⟨u, r1, r2⟩ := run_mm l _ b _ hm (by simp only [conc]; rfl) h2 ⟨_, _, rfl⟩
    refine ⟨u, ?_, r2⟩
    cases g
    · simp only [Bool.false_eq_true, if_false, List.foldlM_cons, Sem.run_bind, Builtin.min2, Sem.run_pure, Result.andThen_ok] at r1 ⊢
      exact r1
    · simp only [if_true, List.foldlM_cons, Sem.run_bind, Builtin.max2, Sem.run_pure, Result.andThen_ok, gt_iff_lt] at r1 ⊢
      exact r1
theorem minL_ok {g : Bool} {xs : List V} {l : List Value} (hm : minL g xs = some v) (hl : concL R xs = some l) (h1 : ∀ x, xs = [x] → ∃ k n, x = .i k n) :
    ∃ y ys u, l = y :: ys ∧ (ys.foldlM (if g then Builtin.max2 else Builtin.min2) y).run P w = .ok u w ∧ conc R v = some u := by
  cases xs with
  | nil => simp [minL] at hm
  | cons x xs =>
    obtain ⟨a, b, ha, hb, rfl⟩ := concL_cons.1 hl
    have : ∃ k n, x = .i k n := by
      cases xs with
      | nil => exact h1 x rfl
      | cons y ys =>
        simp only [minL, minI] at hm
        split at hm <;> try simp at hm
        rename_i q hq
        unfold mmI at hq
        split at hq <;> simp at hq
        exact ⟨_, _, rfl⟩
    obtain ⟨u, r1, r2⟩ := run_mm (P := P) (w := w) xs x b a hm ha hb this
    exact ⟨a, b, u, rfl, r1, r2⟩
theorem run_min {xs : List X} (hok : okA P op (.min xs) = true) (hρ : EnvOk R t ρ) (hs : Sim P F R h.get w) (he : evA call (.min xs) t h = .ok v h') :
    OpRun P F R h w (execOp ρ ⟨dst, op, ty, pos, af, gd⟩) v h' := by
  cases op <;> try exact (Bool.false_ne_true hok).elim
  rename_i c
  obtain ⟨b, hb, hk⟩ := okB_inv (show okB P c (.min xs) = true from hok)
  simp only [okCallB] at hk
  split at hk <;> try simp at hk
  have hl := okXs_conc hρ _ _ hk
  simp only [evA] at he
  obtain ⟨hv, rfl⟩ := ofV_ok he
  have hv2 : ∃ y ys u, c.args.toList.map ρ = y :: ys ∧ (ys.foldlM Builtin.min2 y).run P w = .ok u w ∧ conc R v = some u := by
    cases hm : xs.map (X.ev t) with
    | nil => rw [hm] at hv; simp [minL] at hv
    | cons x l =>
      cases l with
      | nil =>
        rw [hm] at hv hl
        simp [minL, minI] at hv
        subst hv
        obtain ⟨a, b', ha, hb', e⟩ := concL_cons.1 hl
        simp [concL] at hb'
        subst hb'
        exact ⟨a, [], a, e, by simp, ha⟩
      | cons y l =>
        obtain ⟨a, b', u, r1, r2, r3⟩ := minL_ok (P := P) (w := w) hv hl (by rw [hm]; intro _ e; simp at e)
        exact ⟨a, b', u, r1, by simpa using r2, r3⟩
  obtain ⟨y, ys, u, r1, r2, r3⟩ := hv2
  refine .plain (x := u) hs ?_ r3
  rw [run_builtin hb]
  simp only [builtin, Builtin.min_, Array.toList_map, r1, Sem.run_bind, r2, Result.andThen_ok, Sem.run_pure]
theorem run_max {xs : List X} (hok : okA P op (.max xs) = true) (hρ : EnvOk R t ρ) (hs : Sim P F R h.get w) (he : evA call (.max xs) t h = .ok v h') :
    OpRun P F R h w (execOp ρ ⟨dst, op, ty, pos, af, gd⟩) v h' := by
  cases op <;> try exact (Bool.false_ne_true hok).elim
  rename_i c
  obtain ⟨b, hb, hk⟩ := okB_inv (show okB P c (.max xs) = true from hok)
  simp only [okCallB] at hk
  split at hk <;> try simp at hk
  have hl := okXs_conc hρ _ _ hk
  simp only [evA] at he
  obtain ⟨hv, rfl⟩ := ofV_ok he
  have hv2 : ∃ y ys u, c.args.toList.map ρ = y :: ys ∧ (ys.foldlM Builtin.max2 y).run P w = .ok u w ∧ conc R v = some u := by
    cases hm : xs.map (X.ev t) with
    | nil => rw [hm] at hv; simp [minL] at hv
    | cons x l =>
      cases l with
      | nil =>
        rw [hm] at hv hl
        simp [minL, minI] at hv
        subst hv
        obtain ⟨a, b', ha, hb', e⟩ := concL_cons.1 hl
        simp [concL] at hb'
        subst hb'
        exact ⟨a, [], a, e, by simp, ha⟩
      | cons y l =>
        obtain ⟨a, b', u, r1, r2, r3⟩ := minL_ok (P := P) (w := w) hv hl (by rw [hm]; intro _ e; simp at e)
        exact ⟨a, b', u, r1, by simpa using r2, r3⟩
  obtain ⟨y, ys, u, r1, r2, r3⟩ := hv2
  refine .plain (x := u) hs ?_ r3
  rw [run_builtin hb]
  simp only [builtin, Builtin.max_, Array.toList_map, r1, Sem.run_bind, r2, Result.andThen_ok, Sem.run_pure]
theorem source_len {x : V} {u : Value} {n : Nat} (hx : conc R x = some u) (hn : sourceLen x = some n) : (Builtin.lenOf u).run P w = .ok n w := by
  unfold sourceLen at hn
  split at hn <;> simp at hn <;> subst hn
  · simp [conc] at hx; subst hx; simp [Builtin.lenOf]
  · simp [conc] at hx; subst hx; simp [Builtin.lenOf]
  · obtain ⟨cb, sz, cap', hR, hxe, _⟩ := conc_sl hx
    subst hxe; simp [Builtin.lenOf]
  · obtain ⟨hxe, _⟩ := conc_ss hx
    subst hxe; simp [Builtin.lenOf, size_byteArr]
theorem source_cells {x : V} {u : Value} {esz n : Nat} {l : List V} (hs : Sim P F R h.get w) (hF : ∀ b, F b) (hx : conc R x = some u) (hc : sourceCells esz n h x = some l) :
    ∃ xs, concL R l = some xs ∧ (Builtin.firstCells esz n u).run P w = .ok xs.toArray w ∧ xs.length = n * esz := by
  unfold sourceCells at hc
  split at hc
  · split at hc <;> simp at hc
    rename_i hn
    subst hc
    simp [conc] at hx
    subst hx
    rw [Nat.beq_eq] at hn
    exact ⟨[], by simp [concL], by simp [Builtin.firstCells], by simp [hn]⟩
  · split at hc <;> simp at hc
    rename_i hn
    subst hc
    simp [conc] at hx
    subst hx
    rw [Nat.beq_eq] at hn
    subst hn
    exact ⟨[], by simp [concL], by simp [Builtin.firstCells, loadCells, loadCellsFrom], by simp⟩
  · rename_i blk off len cap g
    split at hc <;> try simp at hc
    rename_i bl hg
    obtain ⟨cb, sz, cap', hR, hxe, _⟩ := conc_sl hx
    obtain ⟨us, h1, h2, _, h4⟩ := rd_at hs (hF blk) hR hg hc
    refine ⟨us, h1, ?_, h2⟩
    subst hxe
    exact h4
  · rename_i x'
    split at hc
    case isFalse => simp at hc
    rename_i he1
    rw [Nat.beq_eq] at he1
    obtain ⟨hxe, hlt⟩ := conc_ss hx
    rw [Option.bind_eq_some_iff] at hc
    obtain ⟨a, ha, hc⟩ := hc
    obtain ⟨_, rfl⟩ := cut_eq.1 ha
    obtain ⟨hle, rfl⟩ := cut_eq.1 hc
    subst he1 hxe
    have hlen : n ≤ x'.length := by simpa using hle
    refine ⟨(x'.take n).map fun c : Nat => Value.int .u8 (c : Int), ?_, ?_, by simp; omega⟩
    · have : ∀ m : List Nat, concL R (m.map fun c => V.i .u8 (Int.ofNat c)) = some (m.map fun c : Nat => Value.int .u8 (c : Int)) := by
        intro m
        induction m with
        | nil => simp [concL]
        | cons c m ih => exact concL_cons.2 ⟨_, _, by simp [conc], ih, rfl⟩
      have e : ((x'.map fun c => V.i .u8 (Int.ofNat c)).drop 0).take x'.length = x'.map fun c => V.i .u8 (Int.ofNat c) := by
        rw [List.drop_zero, List.take_of_length_le (by simp)]
      rw [e, List.drop_zero, ← List.map_take]
      exact this _
    · simp only [Builtin.firstCells, Sem.run_pure, extract_byteArr, List.drop_zero, Nat.sub_zero]
      congr 1
      apply Array.ext'
      simp only [byteArr, Array.toList_map]
      simp only [List.map_map]
      apply List.map_congr_left
      intro c hcm
      have := hlt c (List.mem_of_mem_take hcm)
      simp
      omega
  · simp at hc
theorem growBy_le (m : Nat) : ∀ r c, c ≤ m + (m + 768) / 4 → Builtin.growBy m r c ≤ m + (m + 768) / 4
  | 0, c, hc => by simpa [Builtin.growBy] using hc
  | r + 1, c, hc => by
    simp only [Builtin.growBy]
    split
    · exact hc
    · exact growBy_le m r _ (by omega)
theorem nextcap_le {m c : Nat} (hc : c < m) : Builtin.nextslicecap m c ≤ 2 * m + 200 := by
  unfold Builtin.nextslicecap
  split
  · omega
  · split
    · omega
    · have := growBy_le m 4 c (by omega)
      omega
theorem Sim.drew {mem : Nat → Option Blk} (hs : Sim P F R mem w) : Sim P F R mem w.drew := ⟨fun b c sz x h1 h2 h3 => by
  have := hs.blk b c sz x h1 h2 h3
  cases x <;> exact this, hs.inj, hs.lt⟩
theorem append_grow {st xt e : TypeId} {i : TypeInfo} {z : Value} {d : TypeDesc} {base : Option Addr} {sLen sCap n esz : Nat} {s x : Value} {old new : List Value} {args : Array Value} {ats : Array TypeId}
    (hst : P.underlying st = some (.slice e)) (hxt : P.underlying xt = some d) (hd : ∀ k, d ≠ .int k) (hi : P.info? e = some i) (hz : i.zero = some z) (hesz : i.size = esz)
    (hargs : args = #[s, x]) (hats : ats = #[st, xt]) (hse : s = .slice base sLen sCap) (hn : (Builtin.lenOf x).run P w = .ok n w) (hneed : ¬ sLen + n ≤ sCap) (hb : 0 < i.bytes)
    (hroom : (2 * (sLen + n) + 200) * i.bytes ≤ 281474976710656) (hold : ∀ w' : World, w'.heap = w.heap → (Builtin.firstCells esz sLen s).run P w' = .ok old.toArray w')
    (hnew : ∀ w' : World, w'.heap = w.heap → (Builtin.firstCells esz n x).run P w' = .ok new.toArray w') :
    ∃ newCap rest, sLen + n ≤ newCap ∧ rest = (List.replicate (newCap - (sLen + n)) z.cells.toList).flatten ∧
      (Builtin.append_ ats ty args).run P w = .ok (.slice (some ⟨w.heap.size, 0, none⟩) (sLen + n) newCap) (w.drew.alloc (.cells (old ++ new ++ rest).toArray e)) := by
  subst hargs hats hse
  have hzero : zeroT P e = some z := by simp [zeroT, hi, hz]
  have hsz : ∀ w' : World, (sizeOf e).run P w' = .ok esz w' := fun w' => run_size w' (by simp [isSz, szT, hi, hesz])
  have hlim : ¬ (Builtin.nextslicecap (sLen + n) sCap * i.bytes > 2 ^ 48) := by
    have h1 := nextcap_le (m := sLen + n) (c := sCap) (by omega)
    have h2 : Builtin.nextslicecap (sLen + n) sCap * i.bytes ≤ (2 * (sLen + n) + 200) * i.bytes := Nat.mul_le_mul_right _ h1
    omega
  let q : Question := .appendCap (sLen + n) sCap e
  have hq : q.forced = false := rfl
  have hcut : q.cut (w.tape w.drawn q) = sLen + n + w.tape w.drawn q % (2 ^ 63 - (sLen + n)) := rfl
  refine ⟨q.cut (w.tape w.drawn q), _, by rw [hcut]; omega, rfl, ?_⟩
  have hint : ∀ b : Bool, (match d with | .int _ => b | _ => !b) = !b := by
    intro b
    cases d <;> simp
    exact absurd rfl (hd _)
  have hnz : (match d with | .int _ => true | _ => false) = false := by
    cases d <;> simp
    exact absurd rfl (hd _)
  simp only [Builtin.append_]
  simp only [List.getElem?_toArray, List.getElem?_cons_zero, List.getElem?_cons_succ, Sem.run_bind, run_underlying hst, Result.andThen_ok, hsz, run_underlying hxt, Sem.run_pure, hnz, Bool.false_eq_true, if_false, hn]
  rw [if_neg hneed]
  have hb0 : i.bytes ≠ 0 := by omega
  simp only [run_tInfo w hi, Sem.run_bind, Result.andThen_ok, false_or, hb0, and_false, if_false]
  rw [if_neg hlim]
  simp only [Sem.run_bind, run_choose, show (Question.appendCap (sLen + n) sCap e).forced = false from rfl, Bool.false_eq_true, if_false, Result.andThen_ok, run_askRoom, run_tInfo _ hi]
  simp only [World.drew_eq]
  rw [hold w.drew rfl]
  simp only [Result.andThen_ok, Bool.not_false, if_true]
  rw [hnew w.drew rfl]
  simp only [Result.andThen_ok, run_zero _ hzero, newRow, Sem.run_bind, run_newObj, Sem.run_pure]
  congr 3
  congr 1
  apply Array.ext'
  simp [zeroCells_eq]
  rfl
end
end Go.Air
namespace Go.Air
section
variable {P : Program} {F : Nat → Prop} {R : Emb} {h h' : H} {w : World} {t : List V} {ρ : Operand → Value} {v : V}
  {dst : Option Tmp} {op : Op} {ty : TypeId} {pos : String} {af : Array Edge} {gd : Option (Nat × Bool)} {call : V → List V → H → RO}
theorem append_fit {st xt e : TypeId} {d : TypeDesc} {base : Option Addr} {sLen sCap n esz : Nat} {s x : Value} {new : List Value} {args : Array Value} {ats : Array TypeId} {w' : World}
    (hst : P.underlying st = some (.slice e)) (hxt : P.underlying xt = some d) (hd : ∀ k, d ≠ .int k) (hsz : isSz P e esz = true)
    (hargs : args = #[s, x]) (hats : ats = #[st, xt]) (hse : s = .slice base sLen sCap) (hn : (Builtin.lenOf x).run P w = .ok n w) (hneed : sLen + n ≤ sCap)
    (hnew : (Builtin.firstCells esz n x).run P w = .ok new.toArray w)
    (hb : (∃ a, base = some a ∧ (storeCells (a.add (sLen * esz)) new).run P w = .ok () w') ∨ (base = none ∧ w' = w)) :
    (Builtin.append_ ats ty args).run P w = .ok (.slice base (sLen + n) sCap) w' := by
  subst hargs hats hse
  have hs : (sizeOf e).run P w = .ok esz w := run_size w hsz
  have hnz : (match d with | .int _ => true | _ => false) = false := by
    cases d <;> simp
    exact absurd rfl (hd _)
  simp only [Builtin.append_]
  simp only [List.getElem?_toArray, List.getElem?_cons_zero, List.getElem?_cons_succ, Sem.run_bind, run_underlying hst, Result.andThen_ok, hs, run_underlying hxt, Sem.run_pure, hnz, Bool.false_eq_true, if_false, hn]
  rw [if_pos hneed]
  simp only [Bool.not_false, if_true, Sem.run_bind, hnew, Result.andThen_ok]
  rcases hb with ⟨a, rfl, hr⟩ | ⟨rfl, rfl⟩
  · simp only [Sem.run_bind, hr, Result.andThen_ok, Sem.run_pure]
  · simp
theorem firstCells_world {esz n : Nat} {x : V} {u : Value} {l : List V} (hs : Sim P F R h.get w) (hF : ∀ b, F b) (hx : conc R x = some u) (hc : sourceCells esz n h x = some l) :
    ∃ xs, concL R l = some xs ∧ xs.length = n * esz ∧ ∀ w' : World, w'.heap = w.heap → (Builtin.firstCells esz n u).run P w' = .ok xs.toArray w' := by
  obtain ⟨xs, h1, h2, h3⟩ := source_cells hs hF hx hc
  refine ⟨xs, h1, h3, fun w' hw' => ?_⟩
  have hs' : Sim P F R h.get w' := ⟨fun b c sz x q1 q2 q3 => (hs.blk b c sz x q1 q2 q3).mono P R.le_refl (by rw [hw']), hs.inj, fun b c sz q => by rw [hw']; exact hs.lt b c sz q⟩
  obtain ⟨xs', h1', h2', _⟩ := source_cells hs' hF hx hc
  rw [h1] at h1'
  cases h1'
  exact h2'
theorem H.get_kn (h : H) (b : Nat) (x : Blk) (y : Nat) : ((h.kill b).new x).get y = if y = h.next then some x else if y = b then none else h.get y := by
  rw [H.get_new, H.get_kill]; rfl
theorem Fwd.undrew {R' : Emb} {w' : World} {l : List Nat} (f : Fwd R R' h h' w.drew w' l) : Fwd R R' h h' w w' l := ⟨f.le, f.log, f.nx, f.size, f.new, f.same, f.frame, f.own, f.io⟩
theorem kill_step {b : Nat} {z : Nat × Nat} {y : Blk} (hs : Sim P F R h.get w) (hb : R b = some z) (hy : h.get b = some y) : Fwd R R h (h.kill b) w w [b] ∧ Sim P F R (h.kill b).get w := by
  refine ⟨⟨R.le_refl, rfl, by simp, Nat.le_refl _, fun _ _ _ h => .inl h, ?_, fun _ _ _ => rfl, fun d hd => .inr (by simp at hd; subst hd; exact ⟨⟨_, hb⟩, fun _ => ⟨_, hy⟩⟩), .refl w⟩, ⟨?_, ?_, hs.lt⟩⟩
  · intro x _ hx
    rw [H.get_kill, if_neg (by simpa using hx)]
  · intro x c sz y hF hx hy
    rw [H.get_kill] at hy
    split at hy <;> try simp at hy
    exact hs.blk x c sz y hF hx hy
  · intro x x' c s s' y y' h1 h2 hx hx' hy hy'
    rw [H.get_kill] at hy hy'
    split at hy <;> try simp at hy
    split at hy' <;> try simp at hy'
    exact hs.inj x x' c s s' y y' h1 h2 hx hx' hy hy'
theorem regrow_step {b c sz : Nat} {cs new : List V} {xs : List Value} {k : Nat} (hs : Sim P F R h.get w) (hF : ∀ b, F b) (hb : R b = some (c, sz)) (hg : h.get b = some (.cells cs)) (hk : k ≤ cs.length)
    (hlen : k + new.length ≤ sz) (hone : ∀ v ∈ new, v.oneCell = true) (hv : concL R new = some xs) (hf : R h.next = none) :
    ∃ w', (storeCells ⟨c, k, none⟩ xs).run P w = .ok () w' ∧ Fwd R (R.add h.next (c, sz)) h ((h.kill b).new (.cells (cs.take k ++ new))) w w' [b] ∧
      Sim P F (R.add h.next (c, sz)) ((h.kill b).new (.cells (cs.take k ++ new))).get w' := by
  obtain ⟨arr, e, ys, rest, h1, h2, h3, h4⟩ := cells_at hs (hF b) hb hg
  have e1 := concL_length h2
  have e2 := concL_length hv
  have e3 : arr.toList.length = arr.size := Array.length_toList
  have e4 : arr.toList.length = ys.length + rest.length := by rw [h3]; simp
  obtain ⟨w', arr', r1, r2, r3, r4, r5, rio⟩ := run_storeCells_list (P := P) (o := k) xs 0 w arr h1 (by omega) (conc_ones hv hone)
  have hle : R.le (R.add h.next (c, sz)) := Emb.le_add hf
  have hbn : b ≠ h.next := by intro e; rw [e, hf] at hb; cases hb
  refine ⟨w', r1, ⟨hle, rfl, by simp, by omega, ?_, ?_, ?_, fun d hd => .inr (by simp at hd; subst hd; exact ⟨⟨_, hb⟩, fun _ => ⟨_, hg⟩⟩), rio⟩, ⟨?_, ?_, ?_⟩⟩
  · intro x c' s' hx
    simp only [Emb.add] at hx
    split at hx
    · rename_i e; subst e
      simp only [Option.some.injEq, Prod.mk.injEq] at hx
      obtain ⟨rfl, rfl⟩ := hx
      exact .inr ⟨Nat.le_refl _, by simp, .inr ⟨b, sz, hb, by simp⟩⟩
    · exact .inl hx
  · intro x hx hxl
    rw [H.get_kn, if_neg (by omega), if_neg (by simpa using hxl)]
  · intro d _ hl
    exact r3 d (fun e => hl b sz (e ▸ hb) (by simp))
  · intro x c' s' y hFx hx hy
    simp only [Emb.add] at hx
    rw [H.get_kn] at hy
    split at hx
    · rename_i e; subst e
      rw [if_pos rfl] at hy
      simp only [Option.some.injEq, Prod.mk.injEq] at hx hy
      obtain ⟨rfl, rfl⟩ := hx
      subst hy
      refine ⟨arr', e, ys.take k ++ xs, arr.toList.drop (k + xs.length), r4, concL_mono hle _ _ (concL_append (concL_take k h2) hv), ?_, ?_⟩
      · rw [r5, h3]
        simp only [Nat.add_zero]
        rw [List.take_append_of_le_length (by omega)]
      · have : arr'.toList.length = arr'.size := Array.length_toList
        rw [r5] at this
        simp at this
        omega
    · rename_i ne
      rw [if_neg ne] at hy
      split at hy <;> try simp at hy
      rename_i ne2
      refine (hs.blk x c' s' y hFx hx hy).mono P hle (r3 c' ?_)
      intro ee; subst ee
      exact ne2 (hs.inj x b c' s' sz y _ hFx (hF b) hx hb hy hg)
  · intro x x' c' s1 s2 y y' hF1 hF2 hx hx' hy hy'
    simp only [Emb.add] at hx hx'
    rw [H.get_kn] at hy hy'
    split at hx <;> split at hx'
    · rename_i e1 e2; rw [e1, e2]
    · rename_i e1 ne
      rw [if_neg ne] at hy'
      split at hy' <;> try simp at hy'
      rename_i ne2
      simp only [Option.some.injEq, Prod.mk.injEq] at hx
      obtain ⟨rfl, rfl⟩ := hx
      exact absurd (hs.inj x' b c s2 sz y' _ hF2 (hF b) hx' hb hy' hg) ne2
    · rename_i ne e1
      rw [if_neg ne] at hy
      split at hy <;> try simp at hy
      rename_i ne2
      simp only [Option.some.injEq, Prod.mk.injEq] at hx'
      obtain ⟨rfl, rfl⟩ := hx'
      exact absurd (hs.inj x b c s1 sz y _ hF1 (hF b) hx hb hy hg) ne2
    · rename_i n1 n2
      rw [if_neg n1] at hy
      rw [if_neg n2] at hy'
      split at hy <;> try simp at hy
      split at hy' <;> try simp at hy'
      exact hs.inj x x' c' s1 s2 y y' hF1 hF2 hx hx' hy hy'
  · intro x c' s' hx
    simp only [Emb.add] at hx
    split at hx
    · simp only [Option.some.injEq, Prod.mk.injEq] at hx
      have := hs.lt b c sz hb
      omega
    · have := hs.lt x c' s' hx
      omega
theorem beq3 {a b c : Bool} (hh : (a && b && c) = true) : a = true ∧ b = true ∧ c = true := by
  cases a <;> cases b <;> cases c <;> simp_all
theorem run_app {esz bytes : Nat} {a b : X} (hok : okA P op (.app esz bytes a b) = true) (hρ : EnvOk R t ρ) (hs : Sim P F R h.get w) (hF : FootOk F (reads (.app esz bytes a b) t)) (hfr : Fresh R h h')
    (he : evA call (.app esz bytes a b) t h = .ok v h') : OpRun P F R h w (execOp ρ ⟨dst, op, ty, pos, af, gd⟩) v h' := by
  cases op <;> try exact (Bool.false_ne_true hok).elim
  rename_i c
  obtain ⟨bt, hb, hk⟩ := okB_inv (show okB P c (.app esz bytes a b) = true from hok)
  simp only [okCallB] at hk
  split at hk
  case h_2 => simp at hk
  rename_i s' x' st xt hargs hats
  rw [Bool.and_eq_true, Bool.and_eq_true] at hk
  obtain ⟨⟨hsa, hxb⟩, hk⟩ := hk
  split at hk
  case h_2 => simp at hk
  rename_i e d hst hxt
  rw [Bool.and_eq_true] at hk
  obtain ⟨hd, hk⟩ := hk
  have hd' : ∀ k, d ≠ .int k := by
    intro k hk
    subst hk
    simp at hd
  cases hi : P.info? e with
  | none => simp [hi] at hk
  | some i =>
    simp only [hi, Bool.and_eq_true, Nat.beq_eq] at hk
    obtain ⟨⟨rfl, rfl⟩, hz⟩ := hk
    cases hzv : i.zero with
    | none => simp [hzv] at hz
    | some z =>
      simp only [hzv, Nat.beq_eq] at hz
      have hsz : isSz P e i.size = true := by simp [isSz, szT, hi]
      have hSv := hρ s' a hsa
      have hXv := hρ x' b hxb
      have hA : ∀ b, F b := hF
      have hrun : ∀ u w', (Builtin.append_ c.argTypes ty (c.args.map ρ)).run P w = .ok u w' → (execOp ρ ⟨dst, .call c, ty, pos, af, gd⟩).run P w = .ok (.value u) w' := by
        intro u w' hu
        rw [run_builtin hb]
        simp only [builtin, Sem.run_bind, hu, Result.andThen_ok, Sem.run_pure]
      have hmap : c.args.map ρ = #[ρ s', ρ x'] := by rw [arr2 hargs]; simp
      have hats' := arr2 hats
      simp only [evA] at he
      generalize a.ev t = S at *
      generalize b.ev t = X' at *
      unfold appendV at he
      cases hn : sourceLen X' with
      | none => simp [hn] at he
      | some n =>
        simp only [hn] at he
        cases hc : sourceCells i.size n h X' with
        | none => simp [hc] at he
        | some new =>
          simp only [hc] at he
          obtain ⟨xs, hxs, hxl, hfirst⟩ := firstCells_world hs hA hXv hc
          have hnl := concL_length hxs
          have hnlen := source_len (P := P) (w := w) hXv hn
          split at he
          case isFalse => simp at he
          rename_i hlim
          obtain ⟨hlim, hb0, he0⟩ := beq3 hlim
          rw [Nat.ble_eq] at hlim
          rw [Nat.blt_eq] at hb0 he0
          cases S with
          | sn =>
            simp only at he
            simp [conc] at hSv
            split at he <;> simp only [RO.ok.injEq] at he <;> rename_i hn0
            · obtain ⟨rfl, rfl⟩ := he
              rw [Nat.beq_eq] at hn0
              subst hn0
              refine ⟨_, _, w, hrun _ _ (append_fit (new := xs) (w' := w) hst hxt hd' hsz hmap hats' hSv.symm hnlen (by omega) (hfirst w rfl) (.inr ⟨rfl, rfl⟩)), .inl rfl, .same hs (by simp [conc])⟩
            · obtain ⟨rfl, rfl⟩ := he
              have hn0 : n ≠ 0 := by simpa using hn0
              obtain ⟨newCap, rest, hcap, hrest, hr⟩ := append_grow (ty := ty) (old := []) (new := xs) hst hxt hd' hi hzv rfl hmap hats' hSv.symm hnlen (by omega) hb0 (by simpa using hlim)
                (fun w' _ => by rw [← hSv]; simp [Builtin.firstCells]) hfirst
              have hrl : rest.length = (newCap - n) * i.size := by rw [hrest]; simp [hz]
              have hsize : ([] ++ xs ++ rest).toArray.size = newCap * i.size := by
                simp only [List.size_toArray, List.length_append, List.length_nil, hxl, hrl]
                rw [Nat.zero_add, ← Nat.add_mul]
                congr 1
                omega
              obtain ⟨hf, hs'⟩ := new_step (x := .cells new) (sz := newCap * i.size) (o := .cells ([] ++ xs ++ rest).toArray e) (Sim.drew hs) (fresh_new hfr)
                (fun w' hw' => ⟨_, e, xs, rest, hw', concL_mono (Emb.le_add (fresh_new hfr)) _ _ hxs, by simp, hsize⟩)
              refine ⟨_, _, _, hrun _ _ hr, .inl rfl, _, _, hf.undrew, hs', ?_⟩
              simp only [Nat.zero_add] at hcap ⊢
              simp only [conc, Emb.add_self, Option.bind_some]
              rw [if_pos ⟨by rw [Nat.zero_add]; exact Nat.mul_le_mul_right _ hcap, he0⟩]
              simp [Nat.mul_div_cancel _ he0]
          | se ad =>
            simp only at he
            simp [conc] at hSv
            split at he <;> simp only [RO.ok.injEq] at he <;> rename_i hn0
            · obtain ⟨rfl, rfl⟩ := he
              rw [Nat.beq_eq] at hn0
              subst hn0
              have hx0 : xs = [] := List.eq_nil_of_length_eq_zero (by rw [hxl]; simp)
              subst hx0
              refine ⟨_, _, w, hrun _ _ (append_fit (new := []) (w' := w) hst hxt hd' hsz hmap hats' hSv.symm hnlen (by omega) (hfirst w rfl) (.inl ⟨_, rfl, by simp [storeCells]⟩)), .inl rfl, .same hs (by simp [conc])⟩
            · obtain ⟨rfl, rfl⟩ := he
              have hn0 : n ≠ 0 := by simpa using hn0
              obtain ⟨newCap, rest, hcap, hrest, hr⟩ := append_grow (ty := ty) (old := []) (new := xs) hst hxt hd' hi hzv rfl hmap hats' hSv.symm hnlen (by omega) hb0 (by simpa using hlim)
                (fun w' _ => by rw [← hSv]; simp [Builtin.firstCells, loadCells, loadCellsFrom]) hfirst
              have hrl : rest.length = (newCap - n) * i.size := by rw [hrest]; simp [hz]
              have hsize : ([] ++ xs ++ rest).toArray.size = newCap * i.size := by
                simp only [List.size_toArray, List.length_append, List.length_nil, hxl, hrl]
                rw [Nat.zero_add, ← Nat.add_mul]
                congr 1
                omega
              obtain ⟨hf, hs'⟩ := new_step (x := .cells new) (sz := newCap * i.size) (o := .cells ([] ++ xs ++ rest).toArray e) (Sim.drew hs) (fresh_new hfr)
                (fun w' hw' => ⟨_, e, xs, rest, hw', concL_mono (Emb.le_add (fresh_new hfr)) _ _ hxs, by simp, hsize⟩)
              refine ⟨_, _, _, hrun _ _ hr, .inl rfl, _, _, hf.undrew, hs', ?_⟩
              simp only [Nat.zero_add] at hcap ⊢
              simp only [conc, Emb.add_self, Option.bind_some]
              rw [if_pos ⟨by rw [Nat.zero_add]; exact Nat.mul_le_mul_right _ hcap, he0⟩]
              simp [Nat.mul_div_cancel _ he0]
          | sl blk off len cap g =>
            simp only at he
            obtain ⟨cb, sz, cap', hR, hxe, hcc, hg1, hg2⟩ := conc_sl hSv
            split at he
            · rename_i hfit
              rw [Nat.ble_eq] at hfit
              split at he <;> simp only [RO.ok.injEq, reduceCtorEq] at he
              rename_i h1 hst'
              obtain ⟨rfl, rfl⟩ := he
              obtain ⟨w', r1, hf, hs'⟩ := store_step hs (hA blk) hR hst' hxs
              refine ⟨_, _, w', hrun _ _ (append_fit (new := xs) (w' := w') hst hxt hd' hsz hmap hats' hxe hnlen (by omega) (hfirst w rfl) (.inl ⟨_, rfl, by rw [add_spot]; exact r1⟩)), .inl rfl, _, _, hf, hs', ?_⟩
              cases g with
              | none => obtain rfl := hg1 rfl; simp [conc, hR]
              | some g =>
                obtain ⟨q1, q2, q3⟩ := hg2 g rfl
                simp only [conc, hR, Option.bind_some]
                rw [if_pos ⟨q2, q3⟩, q1]
            · rename_i hfit
              rw [Nat.ble_eq] at hfit
              split at he
              case isFalse => simp at he
              rename_i hlim2
              rw [Nat.ble_eq] at hlim2
              have grow : ∀ (oldV : List V) (oldX : List Value), concL R oldV = some oldX → oldX.length = len * i.size →
                  (∀ w' : World, w'.heap = w.heap → (Builtin.firstCells i.size len (ρ s')).run P w' = .ok oldX.toArray w') →
                  cap' < len + n → v = .sl h.next 0 (len + n) (len + n) (some i.size) → ∀ h1 : H, Fresh R h h1 → h1 = h.new (.cells (oldV ++ new)) →
                  OpRun P F R h w (execOp ρ ⟨dst, .call c, ty, pos, af, gd⟩) v h1 := by
                intro oldV oldX hoc hol hofirst hlt hv h1 hfr1 hh1
                subst hh1 hv
                obtain ⟨newCap, rest, hcap, hrest, hr⟩ := append_grow (ty := ty) (new := xs) hst hxt hd' hi hzv rfl hmap hats' hxe hnlen (by omega) hb0 hlim2 hofirst hfirst
                have hrl : rest.length = (newCap - (len + n)) * i.size := by rw [hrest]; simp [hz]
                have hsize : (oldX ++ xs ++ rest).toArray.size = newCap * i.size := by
                  simp only [List.size_toArray, List.length_append, hol, hxl, hrl]
                  rw [← Nat.add_mul, ← Nat.add_mul]
                  congr 1
                  omega
                obtain ⟨hf, hs'⟩ := new_step (x := .cells (oldV ++ new)) (sz := newCap * i.size) (o := .cells (oldX ++ xs ++ rest).toArray e) (Sim.drew hs) (fresh_new hfr1)
                  (fun w' hw' => ⟨_, e, oldX ++ xs, rest, hw', concL_mono (Emb.le_add (fresh_new hfr1)) _ _ (concL_append hoc hxs), by simp, hsize⟩)
                refine ⟨_, _, _, hrun _ _ hr, .inl rfl, _, _, hf.undrew, hs', ?_⟩
                simp only [conc, Emb.add_self, Option.bind_some]
                rw [if_pos ⟨by rw [Nat.zero_add]; exact Nat.mul_le_mul_right _ hcap, he0⟩]
                simp [Nat.mul_div_cancel _ he0]
              cases g with
              | none =>
                simp only at he
                split at he
                case h_2 => simp at he
                rename_i bl hg
                split at he
                · simp at he
                rename_i old hold
                simp only [RO.ok.injEq] at he
                obtain ⟨hv, rfl⟩ := he
                obtain rfl := hg1 rfl
                obtain ⟨us, u1, u2, u3, _⟩ := rd_at hs (hA blk) hR hg hold
                refine grow old us u1 u2 ?_ (by omega) hv.symm _ hfr rfl
                intro w' hw'
                rw [hxe]
                have := run_loadCells_list (P := P) w' ⟨cb, off, none⟩ us (fun j v hj => by
                  rw [add_spot]
                  have := u3 j v hj
                  simp only [World.cell?, hw'] at this ⊢
                  exact this)
                rw [u2] at this
                exact this
              | some g =>
                simp only at he
                split at he
                case h_2 => simp at he
                rename_i cs hg
                split at he
                · simp at he
                rename_i old hold
                obtain ⟨hle, rfl⟩ := cut_eq.1 hold
                obtain ⟨arr, e', vs, rst, q1, q2, q3, q4⟩ := cells_at hs (hA blk) hR hg
                have hvl := concL_length q2
                have hofirst : ∀ w' : World, w'.heap = w.heap → (Builtin.firstCells i.size len (ρ s')).run P w' = .ok ((vs.drop off).take (len * i.size)).toArray w' := by
                  intro w' hw'
                  rw [hxe]
                  exact run_loadCells_at (by rw [hw']; exact q1) q3 (by omega)
                have hoc : concL R ((cs.drop off).take (len * i.size)) = some ((vs.drop off).take (len * i.size)) := concL_take _ (concL_drop _ q2)
                have hol : ((vs.drop off).take (len * i.size)).length = len * i.size := by simp; omega
                split at he
                case isFalse => simp at he
                rename_i hg3
                rw [Bool.and_eq_true] at hg3
                obtain ⟨hg3, hone⟩ := hg3
                obtain ⟨g1, g2, g3⟩ := beq3 hg3
                rw [Nat.beq_eq] at g1 g2 g3
                rw [List.all_eq_true] at hone
                simp only [RO.ok.injEq] at he
                obtain ⟨hv, rfl⟩ := he
                obtain ⟨p1, p2, p3⟩ := hg2 g rfl
                subst g1 g2
                have hfn : R h.next = none := hfr h.next (Nat.le_refl _) (by simp)
                simp only [List.drop_zero, Nat.zero_add, Nat.sub_zero] at *
                by_cases hroom : len + n ≤ cap'
                · have hmul : (len + n) * i.size ≤ sz := by
                    have h1 : (len + n) * i.size ≤ cap' * i.size := Nat.mul_le_mul_right _ hroom
                    have h2 : cap' * i.size ≤ sz := by rw [p1]; exact Nat.div_mul_le_self _ _
                    omega
                  rw [Nat.add_mul] at hmul
                  obtain ⟨w', r1, hf, hs'⟩ := regrow_step (k := len * i.size) hs hA hR hg (by omega) (by omega) hone hxs hfn
                  refine ⟨_, _, w', hrun _ _ (append_fit (new := xs) (w' := w') hst hxt hd' hsz hmap hats' hxe hnlen hroom (hfirst w rfl) (.inl ⟨_, rfl, by rw [add_spot, Nat.zero_add]; exact r1⟩)), .inl rfl, _, _, hf, hs', ?_⟩
                  subst hv
                  simp only [conc, Emb.add_self, Option.bind_some, Nat.zero_add, Nat.sub_zero]
                  rw [if_pos ⟨by rw [Nat.add_mul]; omega, p3⟩, p1]
                · obtain ⟨newCap, rest, hcap, hrest, hr⟩ := append_grow (ty := ty) (new := xs) hst hxt hd' hi hzv rfl hmap hats' hxe hnlen hroom hb0 hlim2 hofirst hfirst
                  have hrl : rest.length = (newCap - (len + n)) * i.size := by rw [hrest]; simp [hz]
                  have hsize : (vs.take (len * i.size) ++ xs ++ rest).toArray.size = newCap * i.size := by
                    simp only [List.size_toArray, List.length_append, hol, hxl, hrl]
                    rw [← Nat.add_mul, ← Nat.add_mul]
                    congr 1
                    omega
                  obtain ⟨hfk, hsk⟩ := kill_step (b := blk) hs hR hg
                  obtain ⟨hf, hs'⟩ := new_step (h := h.kill blk) (x := .cells (cs.take (len * i.size) ++ new)) (sz := newCap * i.size) (o := .cells (vs.take (len * i.size) ++ xs ++ rest).toArray e) (Sim.drew hsk) hfn
                    (fun w' hw' => ⟨_, e, vs.take (len * i.size) ++ xs, rest, hw', concL_mono (Emb.le_add hfn) _ _ (concL_append hoc hxs), by simp, hsize⟩)
                  refine ⟨_, _, _, hrun _ _ hr, .inl rfl, _, _, hfk.trans hf.undrew, hs', ?_⟩
                  subst hv
                  simp only [conc]
                  rw [show (R.add (h.kill blk).next (w.drew.heap.size, newCap * i.size)) h.next = some (w.drew.heap.size, newCap * i.size) from Emb.add_self]
                  simp only [Option.bind_some]
                  rw [if_pos ⟨by rw [Nat.zero_add]; exact Nat.mul_le_mul_right _ hcap, he0⟩]
                  simp [Nat.mul_div_cancel _ he0]
          | _ => simp at he
theorem run_cpy {esz : Nat} {a b : X} (hok : okA P op (.cpy esz a b) = true) (hρ : EnvOk R t ρ) (hs : Sim P F R h.get w) (hF : FootOk F (reads (.cpy esz a b) t))
    (he : evA call (.cpy esz a b) t h = .ok v h') : OpRun P F R h w (execOp ρ ⟨dst, op, ty, pos, af, gd⟩) v h' := by
  cases op <;> try exact (Bool.false_ne_true hok).elim
  rename_i c
  obtain ⟨bt, hb, hk⟩ := okB_inv (show okB P c (.cpy esz a b) = true from hok)
  simp only [okCallB] at hk
  split at hk
  case h_2 => simp at hk
  rename_i d' s' dt ats hargs hats
  rw [Bool.and_eq_true, Bool.and_eq_true] at hk
  obtain ⟨⟨hda, hsb⟩, hk⟩ := hk
  split at hk
  case h_2 => simp at hk
  rename_i e hdt
  have hD := hρ d' a hda
  have hS := hρ s' b hsb
  have hA : ∀ b, F b := hF
  have hmap : c.args.map ρ = #[ρ d', ρ s'] := by rw [arr2 hargs]; simp
  have hat : c.argTypes[0]? = some dt := by rw [← Array.getElem?_toList, hats]; rfl
  simp only [evA] at he
  generalize a.ev t = D at *
  generalize b.ev t = S at *
  unfold copyV at he
  cases hn : sourceLen S with
  | none => simp [hn] at he
  | some m =>
    simp only [hn] at he
    have hl := source_len (P := P) (w := w) hS hn
    have hsz := run_size w hk
    cases D with
    | sn =>
      simp only [RO.ok.injEq] at he
      obtain ⟨rfl, rfl⟩ := he
      simp [conc] at hD
      have hfc : (Builtin.firstCells esz 0 (ρ s')).run P w = .ok #[] w := by
        unfold sourceLen at hn
        split at hn <;> simp at hn
        · simp [conc] at hS; rw [← hS]; simp [Builtin.firstCells]
        · simp [conc] at hS; rw [← hS]; simp [Builtin.firstCells, loadCells, loadCellsFrom]
        · obtain ⟨cb, sz, cap', hR, hxe, _⟩ := conc_sl hS
          rw [hxe]; simp [Builtin.firstCells, loadCells, loadCellsFrom]
        · obtain ⟨hxe, _⟩ := conc_ss hS
          rw [hxe]
          simp [Builtin.firstCells, extract_byteArr, byteArr]
      refine .plain (x := .int .i64 0) hs ?_ (by simp [conc])
      rw [run_builtin hb]
      simp [builtin, Builtin.copy_, hmap, hat, run_underlying hdt, ← hD, hl, hsz, hfc, goInt]
    | sl blk off len cap g =>
      simp only at he
      obtain ⟨cb, sz, cap', hR, hxe, hcc, hg1, hg2⟩ := conc_sl hD
      split at he
      · simp at he
      rename_i l hl'
      obtain ⟨xs, h1, h2, h3⟩ := source_cells (P := P) hs hA hS hl'
      split at he <;> simp only [RO.ok.injEq, reduceCtorEq] at he
      rename_i h1' hst
      obtain ⟨rfl, rfl⟩ := he
      obtain ⟨w', r1, hf, hs'⟩ := store_step hs (hA blk) hR hst h1
      refine ⟨.value (.int .i64 (Nat.min m len : Int)), _, w', ?_, .inl rfl, _, _, hf, hs', by simp [conc]⟩
      rw [run_builtin hb]
      simp [builtin, Builtin.copy_, hmap, hat, run_underlying hdt, hxe, hl, hsz, h2, r1, goInt]
    | _ => simp at he
theorem run_clr {z : List V} {a : X} (hok : okA P op (.clr z a) = true) (hρ : EnvOk R t ρ) (hs : Sim P F R h.get w) (hF : FootOk F (reads (.clr z a) t))
    (he : evA call (.clr z a) t h = .ok v h') : OpRun P F R h w (execOp ρ ⟨dst, op, ty, pos, af, gd⟩) v h' := by
  cases op <;> try exact (Bool.false_ne_true hok).elim
  rename_i c
  obtain ⟨bt, hb, hk⟩ := okB_inv (show okB P c (.clr z a) = true from hok)
  simp only [okCallB] at hk
  split at hk
  case h_2 => simp at hk
  rename_i x t' hargs hats
  rw [Bool.and_eq_true] at hk
  obtain ⟨hxa, hk⟩ := hk
  split at hk
  case h_2 => simp at hk
  rename_i e hdt
  unfold okZ at hk
  cases hz : zeroT P e with
  | none => simp [hz] at hk
  | some u =>
    simp only [hz] at hk
    have hc := concL_of_same R z _ hk
    have hX := hρ x a hxa
    simp only [evA] at he
    generalize a.ev t = S at *
    cases S with
    | sn =>
      simp only [RO.ok.injEq] at he
      obtain ⟨rfl, rfl⟩ := he
      simp [conc] at hX
      refine .plain (x := .tuple #[]) hs ?_ (conc_undef R)
      rw [run_builtin hb, arr1 hargs, arr1 hats]
      simp [builtin, Builtin.clear_, run_underlying hdt, ← hX]
    | sl blk off len cap g =>
      simp only at he
      obtain ⟨cb, sz, cap', hR, hxe, hcc, hg1, hg2⟩ := conc_sl hX
      split at he
      · rename_i h0
        rw [Nat.beq_eq] at h0
        subst h0
        simp only [RO.ok.injEq] at he
        obtain ⟨rfl, rfl⟩ := he
        refine .plain (x := .tuple #[]) hs ?_ (conc_undef R)
        rw [run_builtin hb, arr1 hargs, arr1 hats]
        simp [builtin, Builtin.clear_, run_underlying hdt, hxe]
      · rename_i h0
        have h0 : len ≠ 0 := by simpa using h0
        split at he <;> simp only [RO.ok.injEq, reduceCtorEq] at he
        rename_i h1' hst
        obtain ⟨rfl, rfl⟩ := he
        obtain ⟨w', r1, hf, hs'⟩ := store_step hs (hF blk) hR hst (concL_rep hc len)
        refine ⟨.value (.tuple #[]), _, w', ?_, .inl rfl, _, _, hf, hs', conc_undef R⟩
        rw [run_builtin hb, arr1 hargs, arr1 hats]
        cases len with
        | zero => exact absurd rfl h0
        | succ len => simp [builtin, Builtin.clear_, run_underlying hdt, hxe, run_zero w hz, zeroCells_eq, r1]
    | _ => simp at he
end
end Go.Air
namespace Go.Air
theorem sameKs_eq : ∀ {a b : List KT}, sameKs a b = true → a = b
  | [], [], _ => rfl
  | [], _ :: _, h => by simp [sameKs] at h
  | _ :: _, [], h => by simp [sameKs] at h
  | x :: a, y :: b, h => by
    simp only [sameKs, Bool.and_eq_true, decide_eq_true_eq] at h
    rw [h.1, sameKs_eq h.2]
theorem fitL_length : ∀ {ks : List KT} {xs : List V}, fitL ks xs = true → xs.length = ks.length
  | [], [], _ => rfl
  | [], _ :: _, h => by simp [fitL] at h
  | _ :: _, [], h => by simp [fitL] at h
  | k :: ks, x :: xs, h => by
    simp only [fitL, Bool.and_eq_true] at h
    simp [fitL_length h.2]
theorem fitL_append : ∀ {a b : List KT} {xs : List V}, fitL (a ++ b) xs = true → fitL a (xs.take a.length) = true ∧ fitL b (xs.drop a.length) = true
  | [], b, xs, h => by simpa [fitL] using h
  | k :: a, b, [], h => by simp [fitL] at h
  | k :: a, b, x :: xs, h => by
    simp only [List.cons_append, fitL, Bool.and_eq_true] at h
    obtain ⟨h1, h2⟩ := fitL_append h.2
    simp only [List.length_cons, List.take_succ_cons, List.drop_succ_cons, fitL, Bool.and_eq_true]
    exact ⟨⟨h.1, h1⟩, h2⟩
theorem cellsEq_split : ∀ (n : Nat) (xs ys : List V), xs.length = ys.length → cellsEq xs ys = (cellsEq (xs.take n) (ys.take n) && cellsEq (xs.drop n) (ys.drop n))
  | 0, xs, ys, _ => by simp [cellsEq]
  | n + 1, [], [], _ => by simp [cellsEq]
  | n + 1, [], _ :: _, h => by simp at h
  | n + 1, _ :: _, [], h => by simp at h
  | n + 1, x :: xs, y :: ys, h => by
    simp only [List.take_succ_cons, List.drop_succ_cons, cellsEq]
    rw [cellsEq_split n xs ys (by simpa using h), Bool.and_assoc]
section
variable {P : Program} {F : Nat → Prop} {R : Emb} {h h' : H} {w : World} {t : List V} {ρ : Operand → Value} {v : V}
  {dst : Option Tmp} {op : Op} {ty : TypeId} {pos : String} {af : Array Edge} {gd : Option (Nat × Bool)} {call : V → List V → H → RO}
def mkv (P : Program) (t : TypeId) (l : List Value) : Value := if aggT P t then .agg l.toArray else l.headD undef
theorem fits_conc {k : KT} {x : V} {u : Value} (hf : k.fits x = true) (hx : conc R x = some u) :
    (∃ b, k = .b ∧ x = .b b ∧ u = .bool b) ∨ (∃ kd n, k = .i kd ∧ x = .i kd n ∧ u = .int kd n) ∨ (∃ l, k = .s ∧ x = .s l ∧ u = .string (byteArr l) ∧ ∀ n ∈ l, n < 256) := by
  unfold KT.fits at hf
  split at hf <;> try simp at hf
  · exact .inl ⟨_, rfl, rfl, conc_bb hx⟩
  · subst hf; exact .inr (.inl ⟨_, _, rfl, rfl, conc_i hx⟩)
  · obtain ⟨a, b⟩ := conc_ss hx; exact .inr (.inr ⟨_, rfl, rfl, a, b⟩)
theorem run_eq_scalar {t : TypeId} {d : TypeDesc} {k : KT} (hu : P.underlying t = some d) (hk : ktD k d = true) {x y : V} {u z : Value} (hx : k.fits x = true) (hy : k.fits y = true) (hcx : conc R x = some u)
    (hcy : conc R y = some z) (e : Nat) (w : World) : (Op.equalIn (e + 1) t u z).run P w = .ok (scalarEq x y) w := by
  rcases fits_conc hx hcx with ⟨b, rfl, rfl, rfl⟩ | ⟨kd, n, rfl, rfl, rfl⟩ | ⟨l, rfl, rfl, rfl, hl⟩
  · rcases fits_conc hy hcy with ⟨b', _, rfl, rfl⟩ | ⟨_, _, e1, _⟩ | ⟨_, e1, _⟩ <;> try cases e1
    cases d <;> simp [ktD] at hk
    rw [run_equalIn_bool' w e t _ _ hu]
    rfl
  · rcases fits_conc hy hcy with ⟨_, e1, _⟩ | ⟨kd', n', e1, rfl, rfl⟩ | ⟨_, e1, _⟩ <;> try cases e1
    cases d <;> simp [ktD] at hk
    rw [run_equalIn_int w e t kd _ _ _ hu]
    simp only [scalarEq]
    congr 1
  · rcases fits_conc hy hcy with ⟨_, e1, _⟩ | ⟨_, _, e1, _⟩ | ⟨l', e1, rfl, rfl, hl'⟩ <;> try cases e1
    cases d <;> simp [ktD] at hk
    rw [run_equalIn_string w e t _ _ hu, toList_byteArr, toList_byteArr, bytesEq_map _ _ hl hl']
    rfl
def EqFlat (P : Program) (R : Emb) (d : Nat) (t : TypeId) (ks : List KT) : Prop :=
  ∀ (e : Nat) (w : World) (xs ys : List V) (vx vy : List Value), d ≤ e → fitL ks xs = true → fitL ks ys = true → concL R xs = some vx → concL R ys = some vy →
    (Op.equalIn e t (mkv P t vx) (mkv P t vy)).run P w = .ok (cellsEq xs ys) w
theorem eqFlat_scalar {d : Nat} {t : TypeId} {k : KT} {ds : TypeDesc} (hu : P.underlying t = some ds) (hk : ktD k ds = true) : EqFlat P R (d + 1) t [k] := by
  intro e w xs ys vx vy hd hx hy hcx hcy
  have h1 := fitL_length hx
  have h2 := fitL_length hy
  match xs, ys, h1, h2 with
  | [x], [y], _, _ =>
    obtain ⟨u, r, hu1, hr, rfl⟩ := concL_cons.1 hcx
    obtain ⟨z, r', hz1, hr', rfl⟩ := concL_cons.1 hcy
    simp [concL] at hr hr'
    subst hr hr'
    simp only [fitL, Bool.and_true] at hx hy
    have hag : aggT P t = false := by
      unfold aggT
      rw [hu]
      cases ds <;> cases k <;> simp [ktD] at hk <;> rfl
    simp only [mkv, hag, Bool.false_eq_true, if_false, List.headD_cons]
    obtain ⟨e', rfl⟩ : ∃ e', e = e' + 1 := ⟨e - 1, by omega⟩
    rw [run_eq_scalar hu hk hx hy hu1 hz1 e' w]
    simp [cellsEq]
theorem part_flat {d : Nat} {ft : TypeId} {l : List KT} {off : Nat} {vX : List Value} {w : World} (hag : aggT P ft = true ∨ plainT P ft = true ∧ l.length = 1) (hsz : isSz P ft l.length = true)
    (hlen : off + l.length ≤ vX.length) : (part ft vX.toArray off).run P w = .ok (mkv P ft ((vX.drop off).take l.length)) w := by
  rcases hag with hag | ⟨hpl, h1⟩
  · rw [run_part_aggT (P := P) (w := w) (cs := vX.toArray) hag hsz]
    simp [mkv, hag]
  · have hag : aggT P ft = false := by
      obtain ⟨dd, hd, ha⟩ := plainT_d hpl
      simp [aggT, hd, ha]
    rw [h1] at hlen
    have hlt : off < vX.length := by omega
    rw [run_part_plainT (P := P) (w := w) (cs := vX.toArray) (x := vX[off]) hpl (by simp [hlt])]
    simp only [mkv, hag, Bool.false_eq_true, if_false, h1]
    rw [List.drop_eq_getElem_cons hlt]
    rfl
theorem flatT_kind : ∀ {d : Nat} {t : TypeId} {l : List KT}, flatT P d t = some l → aggT P t = true ∨ plainT P t = true ∧ l.length = 1
  | 0, _, _, hh => by simp [flatT] at hh
  | d + 1, t, l, hh => by
    simp only [flatT] at hh
    split at hh
    · rename_i hu; split at hh <;> simp at hh; subst hh; exact .inr ⟨by simp [plainT, hu, isAggD], rfl⟩
    · rename_i hu; split at hh <;> simp at hh; subst hh; exact .inr ⟨by simp [plainT, hu, isAggD], rfl⟩
    · rename_i hu; split at hh <;> simp at hh; subst hh; exact .inr ⟨by simp [plainT, hu, isAggD], rfl⟩
    · rename_i hu; exact .inl (by simp [aggT, hu, isAggD])
    · rename_i hu; exact .inl (by simp [aggT, hu, isAggD])
    · simp at hh
theorem rep_fit {l : List KT} : ∀ {n : Nat} {xs : List V}, fitL (List.replicate n l).flatten xs = true → xs.length = n * l.length ∧ ∀ i, i < n → fitL l ((xs.drop (i * l.length)).take l.length) = true
  | 0, xs, hf => by
    have := fitL_length hf
    simp at this
    exact ⟨by simp [this], fun i hi => by omega⟩
  | n + 1, xs, hf => by
    rw [List.replicate_succ, List.flatten_cons] at hf
    obtain ⟨h1, h2⟩ := fitL_append hf
    obtain ⟨h3, h4⟩ := rep_fit h2
    have h5 := fitL_length h1
    simp at h3 h5
    refine ⟨by rw [Nat.add_mul]; omega, fun i hi => ?_⟩
    cases i with
    | zero => simpa using h1
    | succ i =>
      have := h4 i (by omega)
      rw [List.drop_drop] at this
      rw [Nat.add_mul, Nat.one_mul, Nat.add_comm]
      exact this
theorem eqItems_flat {dd : Nat} {e : TypeId} {l : List KT} (hag : aggT P e = true ∨ plainT P e = true ∧ l.length = 1) (hsz : isSz P e l.length = true) {xs ys : List V} {vx vy : List Value}
    (hcx : concL R xs = some vx) (hcy : concL R ys = some vy) (heq : ∀ (w : World) (a b : List V) (va vb : List Value), fitL l a = true → fitL l b = true → concL R a = some va → concL R b = some vb →
      (Op.equalIn dd e (mkv P e va) (mkv P e vb)).run P w = .ok (cellsEq a b) w) :
    ∀ (m i n : Nat), i + m = n → fitL (List.replicate n l).flatten xs = true → fitL (List.replicate n l).flatten ys = true →
      (Op.eqItems dd e l.length vx.toArray vy.toArray ((List.range m).map (i + ·))).run P w = .ok (cellsEq (xs.drop (i * l.length)) (ys.drop (i * l.length))) w
  | 0, i, n, hin, hx, hy => by
    obtain ⟨h1, _⟩ := rep_fit hx
    obtain ⟨h2, _⟩ := rep_fit hy
    obtain rfl : i = n := by omega
    rw [List.drop_eq_nil_of_le (by omega), List.drop_eq_nil_of_le (by omega)]
    simp [Op.eqItems, cellsEq]
  | m + 1, i, n, hin, hx, hy => by
    obtain ⟨h1, h1'⟩ := rep_fit hx
    obtain ⟨h2, h2'⟩ := rep_fit hy
    have hle : (i + 1) * l.length ≤ n * l.length := Nat.mul_le_mul_right _ (by omega)
    rw [Nat.add_mul, Nat.one_mul] at hle
    have e1 := concL_length hcx
    have e2 := concL_length hcy
    have ih := eqItems_flat hag hsz hcx hcy heq m (i + 1) n (by omega) hx hy
    rw [List.range_succ_eq_map, List.map_cons, List.map_map]
    have e3 : (List.range m).map ((i + ·) ∘ Nat.succ) = (List.range m).map (i + 1 + ·) := by
      apply List.map_congr_left
      intro a _
      simp; omega
    rw [e3]
    simp only [Nat.add_zero, Op.eqItems, Sem.run_bind, part_flat (d := 0) (w := w) hag hsz (show i * l.length + l.length ≤ vx.length by omega), part_flat (d := 0) (w := w) hag hsz (show i * l.length + l.length ≤ vy.length by omega), Result.andThen_ok]
    rw [heq w _ _ _ _ (h1' i (by omega)) (h2' i (by omega)) (concL_take _ (concL_drop _ hcx)) (concL_take _ (concL_drop _ hcy))]
    simp only [Result.andThen_ok]
    rw [cellsEq_split l.length (xs.drop (i * l.length)) (ys.drop (i * l.length)) (by simp; omega)]
    cases cellsEq ((xs.drop (i * l.length)).take l.length) ((ys.drop (i * l.length)).take l.length)
    · simp
    · simp only [Bool.not_true, Bool.false_eq_true, if_false, Bool.true_and, List.drop_drop]
      rw [ih]
      rw [Nat.add_mul, Nat.one_mul]
mutual
theorem flatT_eq : ∀ (d : Nat) (t : TypeId) (ks : List KT), flatT P d t = some ks → EqFlat P R d t ks
  | 0, _, _, hh => by simp [flatT] at hh
  | d + 1, t, ks, hh => by
    simp only [flatT] at hh
    split at hh
    · rename_i hu; split at hh <;> simp at hh; subst hh; exact eqFlat_scalar hu rfl
    · rename_i k hu; split at hh <;> simp at hh; subst hh; exact eqFlat_scalar hu (by simp [ktD])
    · rename_i hu; split at hh <;> simp at hh; subst hh; exact eqFlat_scalar hu rfl
    · rename_i fs hu
      split at hh <;> try simp at hh
      rename_i hst
      intro e w xs ys vx vy hd hx hy hcx hcy
      obtain ⟨e', rfl⟩ : ∃ e', e = e' + 1 := ⟨e - 1, by omega⟩
      have hag : aggT P t = true := by simp [aggT, hu, isAggD]
      have hfo : P.fieldsOf t = fs := by simp [Program.fieldsOf, hu]
      simp only [mkv, hag, if_true]
      rw [run_equalIn_struct w e' t vx.toArray vy.toArray (by rw [hfo]; exact hu) (by simpa using hst), hfo]
      have := flatF_eq d 0 fs.toList ks hh e' w xs ys vx vy (by omega) (by rw [List.drop_zero, List.take_of_length_le (by have := fitL_length hx; omega)]; exact hx) (by rw [List.drop_zero, List.take_of_length_le (by have := fitL_length hy; omega)]; exact hy) (by have := fitL_length hx; omega) (by have := fitL_length hy; omega) hcx hcy
      have hl := fitL_length hx
      have hl2 := fitL_length hy
      rw [List.drop_zero, List.drop_zero, List.take_of_length_le (by omega), List.take_of_length_le (by omega)] at this
      exact this
    · rename_i n e hu
      split at hh <;> try simp at hh
      rename_i l hl
      obtain ⟨hsz, rfl⟩ := hh
      intro e' w xs ys vx vy hd hx hy hcx hcy
      obtain ⟨e'', rfl⟩ : ∃ e'', e' = e'' + 1 := ⟨e' - 1, by omega⟩
      have hag : aggT P t = true := by simp [aggT, hu, isAggD]
      obtain ⟨i, hi, hisz⟩ := szT_info hsz
      simp only [mkv, hag, if_true]
      have hco : P.cellsOf e = l.length := by simp [Program.cellsOf, hi, hisz]
      rw [run_equalIn_array w e'' vx.toArray vy.toArray hu hi, hco]
      have := eqItems_flat (dd := e'') (w := w) (flatT_kind hl) hsz hcx hcy (fun w a b va vb ha hb hca hcb => flatT_eq d e l hl e'' w a b va vb (by omega) ha hb hca hcb) n 0 n (by omega) hx hy
      simpa using this
    · simp at hh
theorem flatF_eq : ∀ (d off : Nat) (fs : List Field) (ks : List KT), flatF P d off fs = some ks → ∀ (e : Nat) (w : World) (xs ys : List V) (vx vy : List Value), d ≤ e →
    fitL ks ((xs.drop off).take ks.length) = true → fitL ks ((ys.drop off).take ks.length) = true → off + ks.length ≤ xs.length → off + ks.length ≤ ys.length → concL R xs = some vx → concL R ys = some vy →
    (Op.eqFields e vx.toArray vy.toArray fs).run P w = .ok (cellsEq ((xs.drop off).take ks.length) ((ys.drop off).take ks.length)) w
  | 0, _, _, _, hh => by simp [flatF] at hh
  | d + 1, off, [], ks, hh => by
    simp only [flatF, Option.some.injEq] at hh
    subst hh
    intros
    simp [Op.eqFields, cellsEq]
  | d + 1, off, f :: fs, ks, hh => by
    simp only [flatF] at hh
    split at hh <;> try simp at hh
    rename_i hname
    split at hh <;> try simp at hh
    rename_i l hl
    obtain ⟨⟨ho, hsz⟩, ks', hks, rfl⟩ := hh
    intro e w xs ys vx vy hd hx hy hlx hly hcx hcy
    have e1 := concL_length hcx
    have e2 := concL_length hcy
    simp only [List.length_append] at hlx hly
    obtain ⟨hx1, hx2⟩ := fitL_append hx
    obtain ⟨hy1, hy2⟩ := fitL_append hy
    have tk : ∀ z : List V, ((z.drop off).take (l ++ ks').length).take l.length = (z.drop off).take l.length := fun z => by rw [List.take_take]; congr 1; simp
    have dk : ∀ z : List V, ((z.drop off).take (l ++ ks').length).drop l.length = (z.drop (off + l.length)).take ks'.length := fun z => by
      rw [List.drop_take, List.drop_drop]
      congr 1
      simp
    rw [tk] at hx1 hy1
    rw [dk] at hx2 hy2
    have ih := flatF_eq d (off + l.length) fs ks' hks e w xs ys vx vy (by omega) hx2 hy2 (by omega) (by omega) hcx hcy
    have he := flatT_eq d f.type l hl e w _ _ _ _ (by omega) hx1 hy1 (concL_take _ (concL_drop _ hcx)) (concL_take _ (concL_drop _ hcy))
    have hk := flatT_kind hl
    subst ho
    simp only [Op.eqFields, ne_eq, hname, not_false_eq_true, if_true, Sem.run_bind, part_flat (d := 0) (w := w) hk hsz (show f.offset + l.length ≤ vx.length by omega),
      part_flat (d := 0) (w := w) hk hsz (show f.offset + l.length ≤ vy.length by omega), Result.andThen_ok, he]
    rw [cellsEq_split l.length ((xs.drop f.offset).take (l ++ ks').length) ((ys.drop f.offset).take (l ++ ks').length) (by simp; omega), tk, tk, dk, dk]
    cases cellsEq ((xs.drop f.offset).take l.length) ((ys.drop f.offset).take l.length)
    · simp
    · simp only [Bool.not_true, Bool.false_eq_true, if_false, Bool.true_and]
      exact ih
end
theorem run_equal_agg {t : TypeId} {ks : List KT} {x y : List V} {vx vy : List Value} (hag : aggT P t = true) (hf : flatT P 40 t = some ks) (hx : fitL ks x = true) (hy : fitL ks y = true)
    (hcx : concL R x = some vx) (hcy : concL R y = some vy) (w : World) : (Op.equal t (.agg vx.toArray) (.agg vy.toArray)).run P w = .ok (cellsEq x y) w := by
  have := flatT_eq (R := R) 40 t ks hf 10000 w x y vx vy (by omega) hx hy hcx hcy
  simpa [mkv, hag, Op.equal, Op.maxDepth] using this
theorem eql_of {o : BinOp} {neg : Bool} {t : TypeId} {a b : Value} {r : Bool} (ho : o = if neg then .neq else .eql) (hr : (Op.equal t a b).run P w = .ok r w)
    (h1 : (binOp .eql t a b) = (do pure (.bool (← Op.equal t a b)))) (h2 : (binOp .neq t a b) = (do pure (.bool (!(← Op.equal t a b))))) :
    (binOp o t a b).run P w = .ok (.bool (if neg then !r else r)) w := by
  cases neg
  · simp only [Bool.false_eq_true, if_false] at ho
    subst ho
    rw [h1]
    simp [hr]
  · simp only [if_true] at ho
    subst ho
    rw [h2]
    simp [hr]
theorem conc_m {b : Nat} {x : Value} (hx : conc R (.m b) = some x) : ∃ c sz, R b = some (c, sz) ∧ x = .map (some c) := by
  simp only [conc, Option.map_eq_some_iff] at hx
  obtain ⟨a, ha, rfl⟩ := hx
  exact ⟨a.1, a.2, ha, rfl⟩
theorem conc_yld {b : Nat} {x : Value} (hx : conc R (.yld b) = some x) : ∃ c sz, R b = some (c, sz) ∧ x = .func (.yield c) #[] #[] := by
  simp only [conc, Option.map_eq_some_iff] at hx
  obtain ⟨a, ha, rfl⟩ := hx
  exact ⟨a.1, a.2, ha, rfl⟩
theorem conc_fn {f : Nat} {a c : List V} {x : Value} (hx : conc R (.fn f a c) = some x) : ∃ va vc, concL R a = some va ∧ concL R c = some vc ∧ x = .func (.func f) va.toArray vc.toArray := by
  simp only [conc] at hx
  cases ha : concL R a <;> cases hc : concL R c <;> simp [ha, hc] at hx
  exact ⟨_, _, rfl, rfl, hx.symm⟩
theorem conc_ifc {k : Nat} {a : V} {x : Value} (hx : conc R (.ifc k a) = some x) : ∃ u, conc R a = some u ∧ x = .iface k u := by
  simp only [conc] at hx
  cases ha : conc R a <;> simp [ha] at hx
  exact ⟨_, rfl, hx.symm⟩
theorem conc_pn {x : Value} (hx : conc R .pn = some x) : x = .pointer none := by simpa [conc, eq_comm] using hx
theorem conc_sn {x : Value} (hx : conc R .sn = some x) : x = .slice none 0 0 := by simpa [conc, eq_comm] using hx
theorem conc_se {a : Addr} {x : Value} (hx : conc R (.se a) = some x) : x = .slice (some a) 0 0 := by simpa [conc, eq_comm] using hx
theorem conc_mn {x : Value} (hx : conc R .mn = some x) : x = .map none := by simpa [conc, eq_comm] using hx
theorem conc_fnil {x : Value} (hx : conc R .fnil = some x) : x = .nilFunc := by simpa [conc, eq_comm] using hx
theorem conc_in0 {x : Value} (hx : conc R .in0 = some x) : x = .nilIface := by simpa [conc, eq_comm] using hx
def EqSays (P : Program) (w : World) (t : TypeId) (X Y : Value) (r : Bool) : Prop :=
  (Op.equal t X Y).run P w = .ok r w ∧ (binOp .eql t X Y) = (do pure (.bool (← Op.equal t X Y))) ∧ (binOp .neq t X Y) = (do pure (.bool (!(← Op.equal t X Y)))) ∧
      (∀ o x y, (X = .nilIface → Y = .nilIface → isConstO x = true ∨ isConstO y = true) → (eqGuard o t x y X Y).run P w = .ok () w)
theorem EqSays.of {t : TypeId} {X Y : Value} {r : Bool} (q : ∀ d, (Op.equalIn (d + 1) t X Y).run P w = .ok r w) (h1 : (binOp .eql t X Y) = (do pure (.bool (← Op.equal t X Y))))
    (h2 : (binOp .neq t X Y) = (do pure (.bool (!(← Op.equal t X Y))))) (h3 : ∀ o x y, (X = .nilIface → Y = .nilIface → isConstO x = true ∨ isConstO y = true) → (eqGuard o t x y X Y).run P w = .ok () w) :
    EqSays P w t X Y r := ⟨q 9999, h1, h2, h3⟩
set_option maxHeartbeats 4000000 in
theorem run_equal_simple {t : TypeId} {k : EqK} {va vb : V} {X Y : Value} {r : Bool} (hk : okEqK P t k = true) (he : eqV k va vb = some r) (hx : conc R va = some X) (hy : conc R vb = some Y) :
    EqSays P w t X Y r := by
  cases k with
  | bool =>
    have hk : (match P.underlying t with | some (.bool) => true | _ => false) = true := hk
    split at hk <;> try simp at hk
    rename_i hu
    cases va <;> cases vb <;> simp [eqV] at he
    subst he
    obtain rfl := conc_bb hx
    obtain rfl := conc_bb hy
    exact .of (fun d => by simp [Op.equalIn, run_underlying hu]) rfl rfl (fun o x y _ => by cases o <;> simp [eqGuard])
  | ptr =>
    have hk : (match P.underlying t with | some (.pointer _) => true | _ => false) = true := hk
    split at hk <;> try simp at hk
    rename_i hu
    cases va <;> cases vb <;> simp [eqV] at he <;> subst he
    · obtain rfl := conc_pn hx; obtain rfl := conc_pn hy
      exact .of (fun d => by simp [Op.equalIn, run_underlying hu]) rfl rfl (fun o x y _ => by cases o <;> simp [eqGuard])
    · obtain rfl := conc_pn hx; obtain ⟨_, _, _, rfl⟩ := conc_p hy
      exact .of (fun d => by simp [Op.equalIn, run_underlying hu]) rfl rfl (fun o x y _ => by cases o <;> simp [eqGuard])
    · obtain rfl := conc_pn hy; obtain ⟨_, _, _, rfl⟩ := conc_p hx
      exact .of (fun d => by simp [Op.equalIn, run_underlying hu]) rfl rfl (fun o x y _ => by cases o <;> simp [eqGuard])
  | slice =>
    have hk : (match P.underlying t with | some (.slice _) => true | _ => false) = true := hk
    split at hk <;> try simp at hk
    rename_i hu
    cases va <;> cases vb <;> simp [eqV] at he <;> subst he
    · obtain rfl := conc_sn hx; obtain rfl := conc_sn hy
      exact .of (fun d => by simp [Op.equalIn, run_underlying hu]) rfl rfl (fun o x y _ => by cases o <;> simp [eqGuard])
    · obtain rfl := conc_sn hx; obtain ⟨_, _, _, _, rfl, _⟩ := conc_sl hy
      exact .of (fun d => by simp [Op.equalIn, run_underlying hu]) rfl rfl (fun o x y _ => by cases o <;> simp [eqGuard])
    · obtain rfl := conc_sn hx; obtain rfl := conc_se hy
      exact .of (fun d => by simp [Op.equalIn, run_underlying hu]) rfl rfl (fun o x y _ => by cases o <;> simp [eqGuard])
    · obtain rfl := conc_sn hy; obtain ⟨_, _, _, _, rfl, _⟩ := conc_sl hx
      exact .of (fun d => by simp [Op.equalIn, run_underlying hu]) rfl rfl (fun o x y _ => by cases o <;> simp [eqGuard])
    · obtain rfl := conc_sn hy; obtain rfl := conc_se hx
      exact .of (fun d => by simp [Op.equalIn, run_underlying hu]) rfl rfl (fun o x y _ => by cases o <;> simp [eqGuard])
  | map =>
    have hk : (match P.underlying t with | some (.map _ _) => true | _ => false) = true := hk
    split at hk <;> try simp at hk
    rename_i hu
    cases va <;> cases vb <;> simp [eqV] at he <;> subst he
    · obtain rfl := conc_mn hx; obtain rfl := conc_mn hy
      exact .of (fun d => by simp [Op.equalIn, run_underlying hu]) rfl rfl (fun o x y _ => by cases o <;> simp [eqGuard])
    · obtain rfl := conc_mn hx; obtain ⟨_, _, _, rfl⟩ := conc_m hy
      exact .of (fun d => by simp [Op.equalIn, run_underlying hu]) rfl rfl (fun o x y _ => by cases o <;> simp [eqGuard])
    · obtain rfl := conc_mn hy; obtain ⟨_, _, _, rfl⟩ := conc_m hx
      exact .of (fun d => by simp [Op.equalIn, run_underlying hu]) rfl rfl (fun o x y _ => by cases o <;> simp [eqGuard])
  | func =>
    have hk : (match P.underlying t with | some (.func _ _ _) => true | _ => false) = true := hk
    split at hk <;> try simp at hk
    rename_i hu
    cases va <;> cases vb <;> simp [eqV] at he <;> subst he
    · obtain rfl := conc_fnil hx; obtain rfl := conc_fnil hy
      exact .of (fun d => by simp [Op.equalIn, run_underlying hu]) rfl rfl (fun o x y _ => by cases o <;> simp [eqGuard])
    · obtain rfl := conc_fnil hx; obtain ⟨_, _, _, _, rfl⟩ := conc_fn hy
      exact .of (fun d => by simp [Op.equalIn, run_underlying hu]) rfl rfl (fun o x y _ => by cases o <;> simp [eqGuard])
    · obtain rfl := conc_fnil hx; obtain ⟨_, _, _, rfl⟩ := conc_yld hy
      exact .of (fun d => by simp [Op.equalIn, run_underlying hu]) rfl rfl (fun o x y _ => by cases o <;> simp [eqGuard])
    · obtain rfl := conc_fnil hy; obtain ⟨_, _, _, _, rfl⟩ := conc_fn hx
      exact .of (fun d => by simp [Op.equalIn, run_underlying hu]) rfl rfl (fun o x y _ => by cases o <;> simp [eqGuard])
    · obtain rfl := conc_fnil hy; obtain ⟨_, _, _, rfl⟩ := conc_yld hx
      exact .of (fun d => by simp [Op.equalIn, run_underlying hu]) rfl rfl (fun o x y _ => by cases o <;> simp [eqGuard])
  | iface =>
    have hk : (match P.underlying t with | some (.interface _) => true | _ => false) = true := hk
    split at hk <;> try simp at hk
    rename_i hu
    cases va <;> cases vb <;> simp [eqV] at he <;> subst he
    · obtain rfl := conc_in0 hx; obtain rfl := conc_in0 hy
      refine .of (fun d => by simp [Op.equalIn, run_underlying hu]) rfl rfl (fun o x y hc => ?_)
      rcases hc rfl rfl with hc | hc
      · cases x <;> simp [isConstO] at hc
        cases o <;> simp [eqGuard]
      · cases y <;> simp [isConstO] at hc
        cases o <;> simp [eqGuard]
    · obtain rfl := conc_in0 hx; obtain ⟨_, _, rfl⟩ := conc_ifc hy
      exact .of (fun d => by simp [Op.equalIn, run_underlying hu]) rfl rfl (fun o x y _ => by cases o <;> simp [eqGuard])
    · obtain rfl := conc_in0 hy; obtain ⟨_, _, rfl⟩ := conc_ifc hx
      exact .of (fun d => by simp [Op.equalIn, run_underlying hu]) rfl rfl (fun o x y _ => by cases o <;> simp [eqGuard])
  | agg ks =>
    have hk : (aggT P t && !P.eqGuardType P.depth t && (match flatT P 40 t with | some l => sameKs l ks | none => false)) = true := hk
    rw [Bool.and_eq_true, Bool.and_eq_true] at hk
    obtain ⟨⟨hag, hg⟩, hfl⟩ := hk
    split at hfl <;> try simp at hfl
    rename_i l hl
    obtain rfl := sameKs_eq hfl
    cases va <;> cases vb <;> simp only [eqV, reduceCtorEq] at he
    split at he <;> simp only [Option.some.injEq, reduceCtorEq] at he
    rename_i hfit
    rw [Bool.and_eq_true] at hfit
    obtain ⟨cx, hcx, rfl⟩ := conc_agg hx
    obtain ⟨cy, hcy, rfl⟩ := conc_agg hy
    refine ⟨by rw [← he]; exact run_equal_agg hag hl hfit.1 hfit.2 hcx hcy w, rfl, rfl, ?_⟩
    intro o x y _
    have hg' : P.eqGuardType P.depth t = false := by simpa using hg
    exact run_eqGuard_agg (w := w) o t x y _ _ hg'
set_option maxHeartbeats 4000000 in
theorem run_eqv {neg : Bool} {k : EqK} {a b : X} (hok : okA P op (.eqv neg k a b) = true) (hρ : EnvOk R t ρ) (hs : Sim P F R h.get w) (he : evA call (.eqv neg k a b) t h = .ok v h') :
    OpRun P F R h w (execOp ρ ⟨dst, op, ty, pos, af, gd⟩) v h' := by
  cases op <;> try exact (Bool.false_ne_true hok).elim
  rename_i o xt x y yt
  have hok : (decide (o = if neg then .neq else .eql) && okX x a && okX y b && okEqK P xt k && (match (generalizing := false) k with
    | .iface => isConstO x || isConstO y
    | _ => true)) = true := hok
  simp only [Bool.and_eq_true, decide_eq_true_eq] at hok
  obtain ⟨⟨⟨⟨ho, hxa⟩, hyb⟩, hkk⟩, hcst⟩ := hok
  have hx := hρ x a hxa
  have hy := hρ y b hyb
  simp only [evA] at he
  cases hev : eqV k (a.ev t) (b.ev t) with
  | none => simp [hev] at he
  | some r =>
    simp only [hev, RO.ok.injEq] at he
    obtain ⟨rfl, rfl⟩ := he
    obtain ⟨h1, h2, h3, h4⟩ := run_equal_simple (P := P) (w := w) hkk hev hx hy
    have hc : ρ x = .nilIface → ρ y = .nilIface → isConstO x = true ∨ isConstO y = true := by
      intro e1 e2
      cases k with
      | iface => simpa using hcst
      | _ =>
        exfalso
        rw [e1] at hx
        rw [e2] at hy
        generalize a.ev t = va at *
        generalize b.ev t = vb at *
        clear h1 h2 h3 h4 hkk
        cases va <;> cases vb <;> simp only [eqV, reduceCtorEq] at hev <;> first
          | (cases conc_bb hx; done)
          | (cases conc_pn hx; done)
          | (cases conc_sn hx; done)
          | (cases conc_se hx; done)
          | (cases conc_mn hx; done)
          | (cases conc_fnil hx; done)
          | (obtain ⟨_, _, _, e⟩ := conc_p hx; cases e; done)
          | (obtain ⟨_, _, _, _, e, _⟩ := conc_sl hx; cases e; done)
          | (obtain ⟨_, _, _, e⟩ := conc_m hx; cases e; done)
          | (obtain ⟨_, _, _, _, e⟩ := conc_fn hx; cases e; done)
          | (obtain ⟨_, _, _, e⟩ := conc_yld hx; cases e; done)
          | (obtain ⟨_, _, e⟩ := conc_agg hx; cases e; done)
    exact .plain (x := .bool (if neg then !r else r)) hs (by simp only [execOp, Sem.run_bind, h4 o x y hc, eql_of ho h1 h2 h3, Result.andThen_ok, Sem.run_pure]) (by simp [conc])
end
end Go.Air
namespace Go.Air
section
variable {P : Program} {F : Nat → Prop} {R : Emb} {h h' : H} {w : World} {t : List V} {ρ : Operand → Value} {v : V}
  {dst : Option Tmp} {op : Op} {ty : TypeId} {pos : String} {af : Array Edge} {gd : Option (Nat × Bool)} {call : V → List V → H → RO}
theorem check_scalar {n : Nat} {em : Bool} {t : TypeId} {u : Value} (hs : scalarT P t = true) : (Instr.checkKey em (n + 1) t u).run P w = .ok () w := by
  unfold scalarT at hs
  split at hs <;> try simp at hs
  all_goals (rename_i hu; simp [Instr.checkKey, run_underlying hu])
theorem flatF_parts : ∀ {d off : Nat} {fs : List Field} {ks : List KT}, flatF P d off fs = some ks → ∀ f ∈ fs, ∃ l, isSz P f.type l ∧ f.offset + l ≤ off + ks.length ∧ (aggT P f.type = true ∨ plainT P f.type = true ∧ l = 1)
  | 0, _, _, _, hh => by simp [flatF] at hh
  | d + 1, off, [], ks, hh => by simp
  | d + 1, off, g :: fs, ks, hh => by
    simp only [flatF] at hh
    split at hh <;> try simp at hh
    split at hh <;> try simp at hh
    rename_i l hl
    obtain ⟨⟨ho, hsz⟩, ks', hks, rfl⟩ := hh
    intro f hf
    rcases List.mem_cons.1 hf with rfl | hf
    · exact ⟨l.length, hsz, by simp; omega, flatT_kind hl⟩
    · obtain ⟨m, h1, h2, h3⟩ := flatF_parts hks f hf
      exact ⟨m, h1, by simp; omega, h3⟩
theorem check_fields {n : Nat} {em : Bool} {vx : List Value} : ∀ (fs : List Field), (∀ f ∈ fs, scalarT P f.type = true) → (∀ f ∈ fs, ∃ l, isSz P f.type l ∧ f.offset + l ≤ vx.length ∧ (aggT P f.type = true ∨ plainT P f.type = true ∧ l = 1)) →
    (forIn fs () fun f _ => (do
      if f.name ≠ "_" then Instr.checkKey em (n + 1) f.type (← part f.type vx.toArray f.offset)
      pure (ForInStep.yield ()) : Sem (ForInStep Unit))).run P w = .ok () w
  | [], _, _ => by simp
  | f :: fs, hs, hp => by
    have ih := check_fields (n := n) (em := em) (vx := vx) fs (fun g hg => hs g (by simp [hg])) (fun g hg => hp g (by simp [hg]))
    obtain ⟨l, h1, h2, h3⟩ := hp f (by simp)
    have hpart : ∃ u, (part f.type vx.toArray f.offset).run P w = .ok u w := by
      rcases h3 with h3 | ⟨h3, rfl⟩
      · exact ⟨_, run_part_aggT h3 h1⟩
      · have : f.offset < vx.length := by omega
        exact ⟨_, run_part_plainT (cs := vx.toArray) (x := vx[f.offset]) h3 (by simp [this])⟩
    obtain ⟨u, hu⟩ := hpart
    rw [List.forIn_cons]
    by_cases hn : f.name = "_"
    · simp only [ne_eq, hn, not_true_eq_false, if_false, Sem.run_bind, Sem.run_pure, Result.andThen_ok]
      simpa using ih
    · simp only [ne_eq, hn, not_false_eq_true, if_true, Sem.run_bind, hu, Result.andThen_ok, check_scalar (hs f (by simp)), Sem.run_pure]
      simpa using ih
theorem check_struct {n : Nat} {em : Bool} {t : TypeId} {fs : Array Field} {vx : List Value} (hu : P.underlying t = some (.struct fs)) (h1 : ∀ f ∈ fs.toList, scalarT P f.type = true) (h2 : ∀ f ∈ fs.toList, ∃ l, isSz P f.type l ∧ f.offset + l ≤ vx.length ∧ (aggT P f.type = true ∨ plainT P f.type = true ∧ l = 1)) :
    (Instr.checkKey em (n + 1 + 1) t (.agg vx.toArray)).run P w = .ok () w := by
  have := check_fields (P := P) (w := w) (n := n) (em := em) (vx := vx) fs.toList h1 h2
  unfold Instr.checkKey
  simp only [Sem.run_bind, run_underlying hu, Result.andThen_ok]
  rw [← Array.forIn_toList]
  exact Eq.trans (congrArg (fun r : Result PUnit => r.andThen fun _ w' => (pure () : Sem Unit).run P w') this) rfl
theorem flatT_struct_gen {d : Nat} {t : TypeId} {fs : Array Field} {l : List KT} (hu : P.underlying t = some (.struct fs)) (hl : flatT P (d + 1) t = some l) : flatF P d 0 fs.toList = some l := by
  unfold flatT at hl
  rw [hu] at hl
  have hl : (if P.stoodInHeld t then none else flatF P d 0 fs.toList) = some l := hl
  split at hl <;> try simp at hl
  exact hl
theorem flatT_struct {t : TypeId} {fs : Array Field} {l : List KT} (hu : P.underlying t = some (.struct fs)) (hl : flatT P 40 t = some l) : flatF P 39 0 fs.toList = some l := flatT_struct_gen (d := 39) hu hl
theorem check_key {kt : TypeId} {kk : KK} {k : V} {u : Value} {em : Bool} (hk : okKK P kt kk = true) (hf : kk.fits k = true) (hc : conc R k = some u) : (Instr.checkKey em 10000 kt u).run P w = .ok () w := by
  cases kk with
  | sc q =>
    have hk : (match P.underlying kt with | some d => ktD q d | none => false) = true := hk
    split at hk <;> try simp at hk
    rename_i d hu
    refine check_scalar (n := 9999) ?_
    unfold scalarT
    rw [hu]
    cases d <;> cases q <;> simp [ktD] at hk <;> rfl
  | ag ks =>
    have hk : ((match P.underlying kt with
      | some (.struct fs) => fs.toList.all fun f => scalarT P f.type
      | _ => false) && (match flatT P 40 kt with | some l => sameKs l ks | none => false)) = true := hk
    rw [Bool.and_eq_true] at hk
    obtain ⟨h1, h2⟩ := hk
    split at h1 <;> try simp at h1
    rename_i fs hu
    split at h2 <;> try simp at h2
    rename_i l hl
    obtain rfl := sameKs_eq h2
    cases k <;> simp only [KK.fits, Bool.false_eq_true] at hf
    rename_i c
    obtain ⟨vx, hvx, rfl⟩ := conc_agg hc
    have hlen : vx.length = l.length := (concL_length hvx).trans (fitL_length hf)
    have hfl : flatF P 39 0 fs.toList = some l := flatT_struct hu hl
    have hp := flatF_parts hfl
    refine check_struct (n := 9998) hu (fun f hf => by
      obtain ⟨i, hi, e⟩ := List.getElem_of_mem hf
      have := h1 i (by simpa using hi)
      simpa [← e] using this) (fun f hf => by
      obtain ⟨m, q1, q2, q3⟩ := hp f hf
      exact ⟨m, q1, by omega, q3⟩)
def fi (kk : KK) (k : V) : List (V × V) → Nat → Option (Option (Nat × V))
  | [], _ => some none
  | e :: es, i => if kk.fits e.1 then (if keyEq k e.1 then some (some (i, e.2)) else fi kk k es (i + 1)) else none
theorem find_fi (kk : KK) (k : V) : ∀ (es : List (V × V)) (i : Nat), find kk k es = (fi kk k es i).map (·.map (·.2))
  | [], i => by simp [find, fi]
  | e :: es, i => by
    simp only [find, fi]
    split
    · split
      · simp
      · exact find_fi kk k es (i + 1)
    · simp
theorem mput_fi (kk : KK) (k v : V) : ∀ (es : List (V × V)) (i : Nat) (es' : List (V × V)), mput kk k v es = some es' →
    (fi kk k es i = some none ∧ es' = es ++ [(k, v)]) ∨ (∃ j old, fi kk k es i = some (some (i + j, old)) ∧ j < es.length ∧ ∃ e, es[j]? = some e ∧ keyEq k e.1 = true ∧ kk.fits e.1 = true ∧ es' = es.set j (e.1, v))
  | [], i, es', hm => by
    simp [mput] at hm
    subst hm
    exact .inl ⟨rfl, rfl⟩
  | e :: es, i, es', hm => by
    simp only [mput] at hm
    split at hm <;> try simp at hm
    rename_i hf
    split at hm
    · rename_i hk
      simp at hm
      subst hm
      exact .inr ⟨0, e.2, by simp [fi, hf, hk], by simp, e, by simp, hk, hf, by simp⟩
    · rename_i hk
      simp at hm
      obtain ⟨es1, h1, rfl⟩ := hm
      rcases mput_fi kk k v es (i + 1) es1 h1 with ⟨q1, rfl⟩ | ⟨j, old, q1, q2, e', q3, q4, q5, rfl⟩
      · exact .inl ⟨by simp [fi, hf, hk, q1], by simp⟩
      · exact .inr ⟨j + 1, old, by simp [fi, hf, hk, q1]; omega, by simp; omega, e', by simpa using q3, q4, q5, by simp⟩
theorem scalarEq_conc {k : KT} {x y : V} (hx : k.fits x = true) (hy : k.fits y = true) (he : scalarEq x y = true) : x = y := by
  unfold KT.fits at hx hy
  split at hx <;> try simp at hx
  · split at hy <;> try simp at hy
    · simp [scalarEq] at he; rw [he]
    · rename_i e; cases e
    · rename_i e; cases e
  · split at hy <;> try simp at hy
    · rename_i e; cases e
    · rename_i e
      simp only [KT.i.injEq] at e
      subst e hx hy
      simp [scalarEq] at he; rw [he]
    · rename_i e; cases e
  · split at hy <;> try simp at hy
    · rename_i e; cases e
    · rename_i e; cases e
    · simp only [scalarEq] at he
      rw [(bytesEq_iff _ _).1 he]
theorem cellsEq_conc : ∀ {ks : List KT} {xs ys : List V}, fitL ks xs = true → fitL ks ys = true → cellsEq xs ys = true → xs = ys
  | [], [], [], _, _, _ => rfl
  | [], _ :: _, _, hx, _, _ => by simp [fitL] at hx
  | [], [], _ :: _, _, hy, _ => by simp [fitL] at hy
  | _ :: _, [], _, hx, _, _ => by simp [fitL] at hx
  | _ :: _, _ :: _, [], _, hy, _ => by simp [fitL] at hy
  | k :: ks, x :: xs, y :: ys, hx, hy, he => by
    simp only [fitL, Bool.and_eq_true] at hx hy
    simp only [cellsEq, Bool.and_eq_true] at he
    rw [scalarEq_conc hx.1 hy.1 he.1, cellsEq_conc hx.2 hy.2 he.2]
theorem keyEq_conc {kk : KK} {x y : V} (hx : kk.fits x = true) (hy : kk.fits y = true) (he : keyEq x y = true) : x = y := by
  cases kk with
  | sc k =>
    simp only [KK.fits] at hx hy
    have : keyEq x y = scalarEq x y := by
      cases x <;> cases y <;> first | rfl | (simp [KT.fits] at hx; done)
    rw [this] at he
    exact scalarEq_conc hx hy he
  | ag ks =>
    cases x <;> simp only [KK.fits, Bool.false_eq_true] at hx
    cases y <;> simp only [KK.fits, Bool.false_eq_true] at hy
    rw [cellsEq_conc hx hy he]
def EntRel (R : Emb) : List (V × V) → List MapEntry → Prop
  | [], [] => True
  | e :: es, m :: ms => conc R e.1 = some m.key ∧ conc R e.2 = some m.val ∧ EntRel R es ms
  | _, _ => False
theorem entRel_of : ∀ {es : List (V × V)} {ms : List MapEntry}, concM R es = some (ms.map fun e => (e.key, e.val)) → EntRel R es ms
  | [], [], _ => trivial
  | [], m :: ms, hh => by simp [concM] at hh
  | (a, b) :: es, ms, hh => by
    obtain ⟨x, y, w, h1, h2, h3, h4⟩ := concM_cons.1 hh
    cases ms with
    | nil => simp at h4
    | cons m ms =>
      simp only [List.map_cons, List.cons.injEq, Prod.mk.injEq] at h4
      obtain ⟨⟨rfl, rfl⟩, rfl⟩ := h4
      exact ⟨h1, h2, entRel_of h3⟩
theorem of_entRel : ∀ {es : List (V × V)} {ms : List MapEntry}, EntRel R es ms → concM R es = some (ms.map fun e => (e.key, e.val))
  | [], [], _ => by simp [concM]
  | [], m :: ms, hh => hh.elim
  | _ :: _, [], hh => hh.elim
  | (a, b) :: es, m :: ms, ⟨h1, h2, h3⟩ => concM_cons.2 ⟨_, _, _, h1, h2, of_entRel h3, rfl⟩
def FoundRel (R : Emb) : Option (Nat × V) → Option (Nat × Value) → Prop
  | none, none => True
  | some (i, v), some (j, x) => i = j ∧ conc R v = some x
  | _, _ => False
theorem findNow_run {q : KT} {d : TypeDesc} {k : V} {u : Value} (hd : ktD q d = true) (hf : q.fits k = true) (hc : conc R k = some u) : ∀ (es : List (V × V)) (ms : List MapEntry) (i : Nat) (r : Option (Nat × V)),
    EntRel R es ms → fi (.sc q) k es i = some r → ∃ o, Instr.findNow d u ms i = some o ∧ FoundRel R r o
  | [], [], i, r, _, hr => by
    simp [fi] at hr
    subst hr
    exact ⟨none, by simp [Instr.findNow], trivial⟩
  | [], _ :: _, _, _, hh, _ => hh.elim
  | _ :: _, [], _, _, hh, _ => hh.elim
  | e :: es, m :: ms, i, r, ⟨h1, h2, h3⟩, hr => by
    simp only [fi] at hr
    split at hr <;> try simp at hr
    rename_i hfe
    simp only [KK.fits] at hfe
    have hsame : Instr.sameNow d u m.key = some (keyEq k e.1) := by
      rcases fits_conc hf hc with ⟨b, rfl, rfl, rfl⟩ | ⟨kd, n, rfl, rfl, rfl⟩ | ⟨l, rfl, rfl, rfl, hl⟩
      · rcases fits_conc hfe h1 with ⟨b', _, hv, hu⟩ | ⟨_, _, e1, _⟩ | ⟨_, e1, _⟩ <;> try cases e1
        cases d <;> simp [ktD] at hd
        rw [hu, hv]
        rfl
      · rcases fits_conc hfe h1 with ⟨_, e1, _⟩ | ⟨kd', n', e1, hv, hu⟩ | ⟨_, e1, _⟩ <;> try cases e1
        cases d <;> simp [ktD] at hd
        rw [hu, hv]
        simp only [Instr.sameNow, keyEq, scalarEq]
        first | rfl | (congr 1; done) | (rw [Bool.eq_iff_iff]; simp)
      · rcases fits_conc hfe h1 with ⟨_, e1, _⟩ | ⟨_, _, e1, _⟩ | ⟨l', e1, hv, hu, hl'⟩ <;> try cases e1
        cases d <;> simp [ktD] at hd
        rw [hu, hv]
        simp only [Instr.sameNow, keyEq, scalarEq]
        rw [beq_toListBytes, toList_byteArr, toList_byteArr, bytesEq_map _ _ hl hl']
    simp only [Instr.findNow, hsame]
    split at hr
    · rename_i hk
      simp at hr
      subst hr
      rw [hk]
      exact ⟨_, rfl, rfl, h2⟩
    · rename_i hk
      have hk' : keyEq k e.1 = false := by simpa using hk
      rw [hk']
      exact findNow_run hd hf hc es ms (i + 1) r h3 hr
theorem findAsking_run {kt : TypeId} {ks : List KT} {c : List V} {vc : List Value} (hag : aggT P kt = true) (hfl : flatT P 40 kt = some ks) (hf : fitL ks c = true) (hc : concL R c = some vc) :
    ∀ (es : List (V × V)) (ms : List MapEntry) (i : Nat) (r : Option (Nat × V)), EntRel R es ms → fi (.ag ks) (.agg c) es i = some r → ∃ o, (Instr.findAsking kt (.agg vc.toArray) ms i).run P w = .ok o w ∧ FoundRel R r o
  | [], [], i, r, _, hr => by
    simp [fi] at hr
    subst hr
    exact ⟨none, by simp [Instr.findAsking], trivial⟩
  | [], _ :: _, _, _, hh, _ => hh.elim
  | _ :: _, [], _, _, hh, _ => hh.elim
  | e :: es, m :: ms, i, r, ⟨h1, h2, h3⟩, hr => by
    simp only [fi] at hr
    split at hr <;> try simp at hr
    rename_i hfe
    obtain ⟨ke, ve⟩ := e
    cases ke <;> simp only [KK.fits, Bool.false_eq_true] at hfe
    rename_i c'
    obtain ⟨vc', hc', hm⟩ := conc_agg h1
    have he := run_equal_agg hag hfl hf hfe hc hc' w
    simp only [Instr.findAsking, Sem.run_bind, hm, he, Result.andThen_ok]
    simp only [keyEq] at hr
    cases hk : cellsEq c c' with
    | true =>
      simp only [hk, if_true, Option.some.injEq] at hr
      subst hr
      simp only [if_true]
      exact ⟨some (i, m.val), rfl, rfl, h2⟩
    | false =>
      simp only [hk, Bool.false_eq_true, if_false] at hr
      simp only [Bool.false_eq_true, if_false]
      exact findAsking_run hag hfl hf hc es ms (i + 1) r h3 hr
theorem findKey_run {kt : TypeId} {kk : KK} {k : V} {u : Value} {es : List (V × V)} {ms : List MapEntry} {r : Option (Nat × V)} (hk : okKK P kt kk = true) (hf : kk.fits k = true) (hc : conc R k = some u)
    (he : EntRel R es ms) (hr : fi kk k es 0 = some r) : ∃ o, (Instr.findKey kt u ms).run P w = .ok o w ∧ FoundRel R r o := by
  cases kk with
  | sc q =>
    have hk : (match P.underlying kt with | some d => ktD q d | none => false) = true := hk
    split at hk <;> try simp at hk
    rename_i d hu
    obtain ⟨o, h1, h2⟩ := findNow_run hk hf hc es ms 0 r he hr
    exact ⟨o, by simp [Instr.findKey, run_underlying hu, h1], h2⟩
  | ag ks =>
    have hk : ((match P.underlying kt with
      | some (.struct fs) => fs.toList.all fun f => scalarT P f.type
      | _ => false) && (match flatT P 40 kt with | some l => sameKs l ks | none => false)) = true := hk
    rw [Bool.and_eq_true] at hk
    obtain ⟨h1, h2⟩ := hk
    split at h1 <;> try simp at h1
    rename_i fs hu
    split at h2 <;> try simp at h2
    rename_i l hl
    obtain rfl := sameKs_eq h2
    cases k <;> simp only [KK.fits, Bool.false_eq_true] at hf
    rename_i c
    obtain ⟨vx, hvx, rfl⟩ := conc_agg hc
    have hag : aggT P kt = true := by simp [aggT, hu, isAggD]
    obtain ⟨o, q1, q2⟩ := findAsking_run (P := P) (w := w) hag hl hf hvx es ms 0 r he hr
    refine ⟨o, ?_, q2⟩
    simp only [Instr.findKey, Sem.run_bind, run_underlying hu, Result.andThen_ok]
    cases ms with
    | nil =>
      cases es with
      | cons _ _ => exact he.elim
      | nil =>
        simp [fi] at hr
        subst hr
        cases o with
        | none => simp [Instr.findNow]
        | some _ => exact q2.elim
    | cons m ms =>
      have : Instr.findNow (.struct fs) (.agg vx.toArray) (m :: ms) 0 = none := by simp [Instr.findNow, Instr.sameNow]
      rw [this]
      exact q1
theorem map_at {b c sz : Nat} {es : List (V × V)} (hs : Sim P F R h.get w) (hF : F b) (hb : R b = some (c, sz)) (hg : h.get b = some (.map es)) :
    ∃ arr ck, w.heap[c]? = some (.map arr ck) ∧ EntRel R es arr.toList := by
  obtain ⟨arr, ck, h1, h2⟩ := hs.blk b c sz _ hF hb hg
  exact ⟨arr, ck, h1, entRel_of h2⟩
theorem run_getMap {c ck : Nat} {arr : Array MapEntry} (h1 : w.heap[c]? = some (.map arr ck)) : (getObj c).run P w = .ok (.map arr ck) w := by
  simp [getObj, Sem.run, h1]
theorem run_look {kk : KK} {z : V} {cok : Bool} {a b : X} (hok : okA P op (.look kk z cok a b) = true) (hρ : EnvOk R t ρ) (hs : Sim P F R h.get w) (hF : FootOk F (reads (.look kk z cok a b) t))
    (he : evA call (.look kk z cok a b) t h = .ok v h') : OpRun P F R h w (execOp ρ ⟨dst, op, ty, pos, af, gd⟩) v h' := by
  cases op <;> try exact (Bool.false_ne_true hok).elim
  rename_i mt x k cok'
  have hok : (okX x a && okX k b && (cok' == cok) && (match P.underlying mt with
    | some (.map kt et) => okKK P kt kk && (match zeroT P et with
      | some v => sameV z v
      | none => false)
    | _ => false)) = true := hok
  simp only [Bool.and_eq_true, beq_iff_eq] at hok
  obtain ⟨⟨⟨hxa, hkb⟩, rfl⟩, hu⟩ := hok
  split at hu <;> try simp at hu
  rename_i kt et hue
  obtain ⟨hkk, hz⟩ := hu
  split at hz <;> try simp at hz
  rename_i zv hzv
  have hzc := conc_of_same R z zv hz
  have hx := hρ x a hxa
  have hk := hρ k b hkb
  simp only [evA] at he
  split at he <;> try simp at he
  rename_i hfit
  have fin : ∀ (es : List (V × V)) (arr : Array MapEntry) (r : Option V), find kk (b.ev t) es = some r → EntRel R es arr.toList →
      (ρ x = .map none ∧ arr = #[] ∨ ∃ c ck, ρ x = .map (some c) ∧ w.heap[c]? = some (.map arr ck)) →
      OpRun P F R h w (execOp ρ ⟨dst, .lookup mt x k cok', ty, pos, af, gd⟩) (if cok' then .tup [r.getD z, .b r.isSome] else r.getD z) h := by
    intro es arr r hfd her hrun
    rw [find_fi kk _ es 0] at hfd
    cases hq : fi kk (b.ev t) es 0 with
    | none => simp [hq] at hfd
    | some q =>
      simp [hq] at hfd
      obtain ⟨o, q1, q2⟩ := findKey_run (P := P) (w := w) hkk hfit hk her hq
      have hck := check_key (P := P) (w := w) (em := arr.isEmpty) hkk hfit hk
      cases q with
      | none =>
        simp at hfd
        subst hfd
        cases o with
        | some _ => exact q2.elim
        | none =>
          refine .plain (x := if cok' then .tuple #[zv, .bool false] else zv) hs ?_ ?_
          · rcases hrun with ⟨hxe, rfl⟩ | ⟨c, ck, hxe, hob⟩
            · have hck' : (Instr.checkKey true 10000 kt (ρ k)).run P w = .ok () w := hck
              have q1' : (Instr.findKey kt (ρ k) []).run P w = .ok none w := q1
              cases cok' <;> simp [execOp, Instr.lookup, run_underlying hue, hxe, hck', q1', run_zero w hzv]
            · cases cok' <;> simp [execOp, Instr.lookup, run_underlying hue, hxe, run_getMap (P := P) hob, hck, q1, run_zero w hzv]
          · cases cok' <;> simp [conc, concL, hzc]
      | some q =>
        obtain ⟨i, vv⟩ := q
        simp at hfd
        subst hfd
        cases o with
        | none => exact q2.elim
        | some o =>
          obtain ⟨j, xx⟩ := o
          obtain ⟨rfl, hcv⟩ := q2
          refine .plain (x := if cok' then .tuple #[xx, .bool true] else xx) hs ?_ ?_
          · rcases hrun with ⟨hxe, rfl⟩ | ⟨c, ck, hxe, hob⟩
            · have hck' : (Instr.checkKey true 10000 kt (ρ k)).run P w = .ok () w := hck
              have q1' : (Instr.findKey kt (ρ k) []).run P w = .ok (some (i, xx)) w := q1
              cases cok' <;> simp [execOp, Instr.lookup, run_underlying hue, hxe, hck', q1']
            · cases cok' <;> simp [execOp, Instr.lookup, run_underlying hue, hxe, run_getMap (P := P) hob, hck, q1]
          · cases cok' <;> simp [conc, concL, hcv]
  cases ha : a.ev t with
  | mn =>
    simp only [ha] at he
    simp at he
    obtain ⟨rfl, rfl⟩ := he
    rw [ha] at hx
    obtain hxe := conc_mn hx
    exact fin [] #[] none (by simp [find]) trivial (.inl ⟨hxe, rfl⟩)
  | m blk =>
    simp only [ha] at he
    cases hg : h.get blk with
    | none => simp [hg] at he
    | some bl =>
      cases bl with
      | map es =>
        simp only [hg] at he
        cases hfd : find kk (b.ev t) es with
        | none => simp [hfd] at he
        | some r =>
          simp only [hfd, RO.ok.injEq] at he
          obtain ⟨rfl, rfl⟩ := he
          rw [ha] at hx
          obtain ⟨c, sz, hR, hxe⟩ := conc_m hx
          obtain ⟨arr, ck, h1, h2⟩ := map_at hs (hF blk (by simp [ha, blockOf])) hR hg
          exact fin es arr r hfd h2 (.inr ⟨c, ck, hxe, h1⟩)
      | _ => simp [hg] at he
  | _ => simp [ha] at he
theorem sameBits_scalar {k : KT} {x : V} {u : Value} (hf : k.fits x = true) (hc : conc R x = some u) (n : Nat) : Instr.sameBits n u u = true := by
  rcases fits_conc hf hc with ⟨b, rfl, rfl, rfl⟩ | ⟨kd, m, rfl, rfl, rfl⟩ | ⟨l, rfl, rfl, rfl, hl⟩
  · cases n <;> simp [Instr.sameBits]
  · cases n <;> simp [Instr.sameBits]
  · cases n <;> simp [Instr.sameBits, beq_toListBytes]
theorem sameBits_all {n : Nat} : ∀ {ks : List KT} {xs : List V} {us : List Value}, fitL ks xs = true → concL R xs = some us → ((us.zip us).all fun (x, y) => Instr.sameBits n x y) = true
  | [], [], us, _, hc => by simp [concL] at hc; subst hc; rfl
  | [], _ :: _, _, hf, _ => by simp [fitL] at hf
  | _ :: _, [], _, hf, _ => by simp [fitL] at hf
  | k :: ks, x :: xs, us, hf, hc => by
    obtain ⟨u, us', h1, h2, rfl⟩ := concL_cons.1 hc
    simp only [fitL, Bool.and_eq_true] at hf
    simp only [List.zip_cons_cons, List.all_cons, sameBits_scalar hf.1 h1, Bool.true_and]
    exact sameBits_all hf.2 h2
theorem sameBits_key {kk : KK} {k : V} {u : Value} (hf : kk.fits k = true) (hc : conc R k = some u) : Instr.sameBits 10000 u u = true := by
  cases kk with
  | sc q => exact sameBits_scalar hf hc 10000
  | ag ks =>
    cases k <;> simp only [KK.fits, Bool.false_eq_true] at hf
    obtain ⟨vx, hvx, rfl⟩ := conc_agg hc
    have := sameBits_all (n := 9999) hf hvx
    show Instr.sameBits (9999 + 1) (.agg vx.toArray) (.agg vx.toArray) = true
    simp only [Instr.sameBits, Bool.and_eq_true, beq_self_eq_true, true_and]
    exact this
theorem EntRel.append : ∀ {es : List (V × V)} {ms : List MapEntry} {e : V × V} {m : MapEntry}, EntRel R es ms → conc R e.1 = some m.key → conc R e.2 = some m.val → EntRel R (es ++ [e]) (ms ++ [m])
  | [], [], _, _, _, h1, h2 => ⟨h1, h2, trivial⟩
  | [], _ :: _, _, _, hh, _, _ => hh.elim
  | _ :: _, [], _, _, hh, _, _ => hh.elim
  | _ :: es, _ :: ms, _, _, ⟨a, b, c⟩, h1, h2 => ⟨a, b, EntRel.append c h1 h2⟩
theorem EntRel.set : ∀ {es : List (V × V)} {ms : List MapEntry} {e : V × V} {m : MapEntry} (j : Nat), EntRel R es ms → conc R e.1 = some m.key → conc R e.2 = some m.val → EntRel R (es.set j e) (ms.set j m)
  | [], [], _, _, _, _, _, _ => by simp [EntRel]
  | [], _ :: _, _, _, _, hh, _, _ => hh.elim
  | _ :: _, [], _, _, _, hh, _, _ => hh.elim
  | _ :: es, _ :: ms, _, _, 0, ⟨a, b, c⟩, h1, h2 => ⟨h1, h2, c⟩
  | _ :: es, _ :: ms, _, _, j + 1, ⟨a, b, c⟩, h1, h2 => ⟨a, b, EntRel.set j c h1 h2⟩
theorem EntRel.get : ∀ {es : List (V × V)} {ms : List MapEntry} {j : Nat} {e : V × V}, EntRel R es ms → es[j]? = some e → ∃ m, ms[j]? = some m ∧ conc R e.1 = some m.key ∧ conc R e.2 = some m.val
  | [], [], j, e, _, he => by simp at he
  | [], _ :: _, _, _, hh, _ => hh.elim
  | _ :: _, [], _, _, hh, _ => hh.elim
  | _ :: es, m :: ms, 0, e, ⟨a, b, c⟩, he => by
    simp at he; subst he
    exact ⟨m, rfl, a, b⟩
  | _ :: es, _ :: ms, j + 1, e, ⟨a, b, c⟩, he => by
    obtain ⟨m, h1, h2⟩ := EntRel.get c (by simpa using he)
    exact ⟨m, by simpa using h1, h2⟩
theorem setObj_step {b c sz : Nat} {x y : Blk} {o o' : Obj} (hs : Sim P F R h.get w) (hF : F b) (hb : R b = some (c, sz)) (hg : h.get b = some y) (ho : w.heap[c]? = some o) (hnc : ∀ a e f, o ≠ .cells a e f)
    (hx : ∀ w' : World, w'.heap[c]? = some o' → BlkRel P R w' c sz x) :
    ∃ w', (setObj c o').run P w = .ok () w' ∧ Fwd R R h (h.put b x) w w' [b] ∧ Sim P F R (h.put b x).get w' := by
  have hlt := hs.lt b c sz hb
  refine ⟨{ w with heap := w.heap.setIfInBounds c o' }, ?_, ?_⟩
  · cases o with
    | cells a e f => exact absurd rfl (hnc a e f)
    | _ => simp [setObj, Sem.run, ho]
  · refine put_step hs hF hb hg ⟨rfl, rfl, rfl⟩ (by simp) (fun d hd => ?_) (hx _ (by simp [hlt]))
    simp [Array.getElem?_setIfInBounds, Ne.symm hd]
theorem run_mapSet {kk : KK} {a b e : X} (hok : okA P op (.mapSet kk a b e) = true) (hρ : EnvOk R t ρ) (hs : Sim P F R h.get w) (hF : FootOk F (reads (.mapSet kk a b e) t))
    (he : evA call (.mapSet kk a b e) t h = .ok v h') : OpRun P F R h w (execOp ρ ⟨dst, op, ty, pos, af, gd⟩) v h' := by
  cases op <;> try exact (Bool.false_ne_true hok).elim
  rename_i mt x k y
  have hok : (okX x a && okX k b && okX y e && (match P.underlying mt with
    | some (.map kt _) => okKK P kt kk
    | _ => false)) = true := hok
  simp only [Bool.and_eq_true] at hok
  obtain ⟨⟨⟨hxa, hkb⟩, hye⟩, hu⟩ := hok
  split at hu <;> try simp at hu
  rename_i kt et hue
  have hx := hρ x a hxa
  have hk := hρ k b hkb
  have hy := hρ y e hye
  simp only [evA] at he
  cases ha : a.ev t with
  | m blk =>
    simp only [ha] at he
    cases hg : h.get blk with
    | none => simp [hg] at he
    | some bl =>
      cases bl with
      | map es =>
        simp only [hg] at he
        split at he <;> try simp at he
        rename_i hfit
        cases hm : mput kk (b.ev t) (e.ev t) es with
        | none => simp [hm] at he
        | some es' =>
          simp only [hm, RO.ok.injEq] at he
          obtain ⟨rfl, rfl⟩ := he
          rw [ha] at hx
          obtain ⟨c, sz, hR, hxe⟩ := conc_m hx
          have hFb := hF blk (by simp [ha, blockOf])
          obtain ⟨arr, ck, h1, h2⟩ := map_at hs hFb hR hg
          have hck := check_key (P := P) (w := w) (em := false) hu hfit hk
          rcases mput_fi kk _ _ es 0 es' hm with ⟨q1, rfl⟩ | ⟨j, old, q1, q2, e0, q3, q4, q5, rfl⟩
          · obtain ⟨o, r1, r2⟩ := findKey_run (P := P) (w := w) hu hfit hk h2 q1
            cases o with
            | some _ => exact r2.elim
            | none =>
              obtain ⟨w', s1, s2, s3⟩ := setObj_step (P := P) (x := .map (es ++ [(b.ev t, e.ev t)])) (o' := .map (arr.push { key := ρ k, val := ρ y, born := ck }) (ck + 1)) hs hFb hR hg h1 (by intro _ _ _ e; cases e)
                (fun w' hw' => ⟨_, _, hw', of_entRel (by simpa using h2.append (e := (b.ev t, e.ev t)) (m := { key := ρ k, val := ρ y, born := ck }) hk hy)⟩)
              refine ⟨.skip, undef, w', ?_, .inr ⟨rfl, rfl⟩, _, _, s2, s3, conc_undef R⟩
              simp only [execOp, Instr.mapUpdate, Sem.run_bind, run_underlying hue, Result.andThen_ok, hxe, run_getMap (P := P) h1, hck, r1, s1, Sem.run_pure]
          · obtain ⟨o, r1, r2⟩ := findKey_run (P := P) (w := w) hu hfit hk h2 q1
            cases o with
            | none => exact r2.elim
            | some o =>
              obtain ⟨i, xx⟩ := o
              obtain ⟨hij, hcv⟩ := r2
              rw [Nat.zero_add] at hij
              subst hij
              have hkeq : b.ev t = e0.1 := keyEq_conc hfit q5 q4
              obtain ⟨m0, m1, m2, m3⟩ := h2.get q3
              have hkey : m0.key = ρ k := by rw [← hkeq, hk] at m2; exact (Option.some.inj m2).symm
              have hjlt : j < arr.size := by
                have := (List.getElem?_eq_some_iff.1 m1).1
                simpa using this
              have hm0 : arr[j]? = some m0 := by simpa using m1
              have hentries : EntRel R (es.set j (e0.1, e.ev t)) (arr.modify j fun q => { q with key := ρ k, val := ρ y }).toList := by
                have : (arr.modify j fun q => { q with key := ρ k, val := ρ y }).toList = arr.toList.set j { m0 with key := ρ k, val := ρ y } := by
                  apply List.ext_getElem?
                  intro i
                  rw [Array.getElem?_toList, Array.getElem?_modify, List.getElem?_set]
                  by_cases hij : j = i
                  · subst hij
                    have hb : arr[j].born = m0.born := by rw [(Array.getElem?_eq_some_iff.1 hm0).2]
                    simp [hm0, hjlt, hb]
                  · simp [hij]
                rw [this]
                exact h2.set (e := (e0.1, e.ev t)) (m := { m0 with key := ρ k, val := ρ y }) j (by rw [← hkeq]; exact hk) hy
              obtain ⟨w', s1, s2, s3⟩ := setObj_step (P := P) (x := .map (es.set j (e0.1, e.ev t))) (o' := .map (arr.modify j fun q => { q with key := ρ k, val := ρ y }) ck) hs hFb hR hg h1 (by intro _ _ _ e; cases e)
                (fun w' hw' => ⟨_, _, hw', of_entRel hentries⟩)
              have hstays : (Instr.keyThatStays (((arr[j]?).map (·.key)).getD (ρ k)) (ρ k)).run P w = .ok (ρ k) w := by
                simp only [hm0, Option.map_some, Option.getD_some, hkey, Instr.keyThatStays]
                rw [if_pos (sameBits_key hfit hk)]
                rfl
              refine ⟨.skip, undef, w', ?_, .inr ⟨rfl, rfl⟩, _, _, s2, s3, conc_undef R⟩
              simp only [execOp, Instr.mapUpdate, Sem.run_bind, run_underlying hue, Result.andThen_ok, hxe, run_getMap (P := P) h1, hck, r1, hstays, s1, Sem.run_pure]
      | _ => simp [hg] at he
  | _ => simp [ha] at he
theorem run_any {a : A} (hok : okA P op a = true) (hnc : ∀ f xs, a ≠ .call f xs) (hρ : EnvOk R t ρ) (hs : Sim P F R h.get w) (hF : FootOk F (reads a t)) (hfr : Fresh R h h') (he : evA call a t h = .ok v h') :
    OpRun P F R h w (execOp ρ ⟨dst, op, ty, pos, af, gd⟩) v h' := by
  cases a with
  | mov x => exact run_mov hok hρ hs he
  | pick c a b => exact run_pick hok hρ hs he
  | alloc z => exact run_alloc hok hs hfr he
  | box x => exact run_box hok hρ hs hfr he
  | build z ps => exact run_build hok hρ hs he
  | buildSl z n ps => exact run_buildSl hok hρ hs hfr he
  | ld x => exact run_ld hok hρ hs hF he
  | ldn n x => exact run_ldn hok hρ hs hF he
  | st n x y => exact run_st hok hρ hs hF he
  | nilck x => exact run_nilck hok hρ hs he
  | bin o x y => exact run_bin hok hρ hs he
  | eqv n k x y => exact run_eqv hok hρ hs he
  | un o x => exact run_un hok hρ hs he
  | conv k x => exact run_conv hok hρ hs he
  | mkI k x => exact run_mkI hok hρ hs he
  | mkFn f a c => exact run_mkFn hok hρ hs he
  | mkMap => exact run_mkMap hok hs hfr he
  | mkSl z b l c => exact run_mkSl hok hρ hs hfr he
  | slc e x lo hi mx => exact run_slc hok hρ hs he
  | slcA n e x lo hi => exact run_slcA hok hρ hs he
  | slcS x lo hi => exact run_slcS hok hρ hs he
  | fld o x => exact run_fld hok hρ hs he
  | fldv o s x => exact run_fldv hok hρ hs he
  | ixS e x i => exact run_ixS hok hρ hs he
  | ixA n e x i => exact run_ixA hok hρ hs he
  | ixStr x i => exact run_ixStr hok hρ hs he
  | ixV n e g x i => exact run_ixV hok hρ hs he
  | look kk z o x k => exact run_look hok hρ hs hF he
  | mapSet kk x k y => exact run_mapSet hok hρ hs hF he
  | ext x n => exact run_ext hok hρ hs he
  | call f xs => exact absurd rfl (hnc f xs)
  | lenS x => exact run_lenS hok hρ hs he
  | lenL x => exact run_lenL hok hρ hs he
  | lenC n => exact run_lenC hok hs he
  | lenM x => exact run_lenM hok hρ hs hF he
  | app e b s x => exact run_app hok hρ hs hF hfr he
  | cpy e d s => exact run_cpy hok hρ hs hF he
  | clr z x => exact run_clr hok hρ hs hF he
  | min xs => exact run_min hok hρ hs he
  | max xs => exact run_max hok hρ hs he
  | no => simp [evA] at he
end
end Go.Air
namespace Go.Air
def WF (h : H) : Prop := (∀ b, h.next ≤ b → h.get b = none) ∧ ∀ b ∈ h.log, b < h.next
theorem WF.lt {h : H} {b : Nat} {x : Blk} (hw : WF h) (hb : h.get b = some x) : b < h.next := by
  rcases Nat.lt_or_ge b h.next with hl | hl
  · exact hl
  · rw [hw.1 b hl] at hb; cases hb
structure Keep (h h' : H) : Prop where
  nx : h.next ≤ h'.next
  wf : WF h → WF h'
  loop : ∀ b lp, b < h.next → h.get b = some (.loop lp) → ∃ lp', h'.get b = some (.loop lp')
  wr : ∃ l, h'.log = l ++ h.log ∧ (∀ b, b < h.next → b ∉ l → h'.get b = h.get b) ∧ ∀ b ∈ l, b < h.next → ∃ y, h.get b = some y
theorem Keep.refl (h : H) : Keep h h := ⟨Nat.le_refl _, id, fun _ lp _ hb => ⟨lp, hb⟩, [], rfl, fun _ _ _ => rfl, fun _ hb => by simp at hb⟩
theorem Keep.trans {h h1 h2 : H} (a : Keep h h1) (b : Keep h1 h2) : Keep h h2 :=
  ⟨Nat.le_trans a.nx b.nx, fun w => b.wf (a.wf w), fun x lp hx hg => let ⟨lp1, h1⟩ := a.loop x lp hx hg; b.loop x lp1 (Nat.lt_of_lt_of_le hx a.nx) h1, by
    obtain ⟨l1, p1, p2, p3⟩ := a.wr
    obtain ⟨l2, q1, q2, q3⟩ := b.wr
    refine ⟨l2 ++ l1, by rw [q1, p1, List.append_assoc], fun x hx hl => ?_, fun x hx hlt => ?_⟩
    · rw [List.mem_append, not_or] at hl
      rw [q2 x (Nat.lt_of_lt_of_le hx a.nx) hl.1, p2 x hx hl.2]
    · by_cases hl : x ∈ l1
      · exact p3 x hl hlt
      · rcases List.mem_append.1 hx with hx | hx
        · obtain ⟨y, hy⟩ := q3 x hx (Nat.lt_of_lt_of_le hlt a.nx)
          exact ⟨y, by rw [← p2 x hlt hl]; exact hy⟩
        · exact absurd hx hl⟩
theorem Keep.new (h : H) (x : Blk) : Keep h (h.new x) := by
  refine ⟨by simp, fun w => ⟨fun b hb => ?_, fun b hb => ?_⟩, fun b lp hb hg => ⟨lp, ?_⟩, [], rfl, fun b hb _ => by rw [H.get_new, if_neg (by omega)], fun _ hb => by simp at hb⟩
  · simp at hb
    rw [H.get_new, if_neg (by omega)]; exact w.1 b (by omega)
  · have := w.2 b (by simpa using hb)
    simp; omega
  · rw [H.get_new, if_neg (by omega)]; exact hg
theorem Keep.put {h : H} {b : Nat} {x y : Blk} (hg : h.get b = some y) (hl : ∀ lp, y = .loop lp → ∃ lp', x = .loop lp') : Keep h (h.put b x) := by
  refine ⟨by simp, fun w => ⟨fun c hc => ?_, fun c hc => ?_⟩, fun c lp hc hcg => ?_, [b], rfl, fun c _ hc => by rw [H.get_put, if_neg (by simpa using hc)], fun c hc _ => by simp at hc; subst hc; exact ⟨_, hg⟩⟩
  · have := w.lt hg
    simp at hc
    rw [H.get_put, if_neg (by omega)]; exact w.1 c hc
  · simp at hc
    rcases hc with rfl | hc
    · exact w.lt hg
    · exact w.2 c hc
  · rw [H.get_put]
    split
    · rename_i e; subst e
      rw [hg] at hcg
      obtain ⟨lp', e⟩ := hl lp (Option.some.inj hcg)
      exact ⟨lp', by rw [e]⟩
    · exact ⟨lp, hcg⟩
theorem Keep.kill {h : H} {b : Nat} {cs : List V} (hg : h.get b = some (.cells cs)) : Keep h (h.kill b) := by
  refine ⟨by simp, fun w => ⟨fun c hc => ?_, fun c hc => ?_⟩, fun c lp hc hcg => ?_, [b], rfl, fun c _ hc => by rw [H.get_kill, if_neg (by simpa using hc)], fun c hc _ => by simp at hc; subst hc; exact ⟨_, hg⟩⟩
  · rw [H.get_kill]
    split
    · rfl
    · exact w.1 c hc
  · simp at hc
    rcases hc with rfl | hc
    · exact w.lt hg
    · exact w.2 c hc
  · rw [H.get_kill]
    split
    · rename_i e; subst e
      rw [hg] at hcg; cases hcg
    · exact ⟨lp, hcg⟩
def Does (h h' : H) (rs : Option (List Nat)) : Prop := Keep h h' ∧ ∀ r, rs = some r → ∃ l, h'.log = l ++ h.log ∧ ∀ b ∈ l, b ∈ r
theorem Does.refl {h : H} {rs : Option (List Nat)} : Does h h rs := ⟨.refl h, fun _ _ => ⟨[], rfl, fun _ hb => by simp at hb⟩⟩
theorem Does.new {h : H} {x : Blk} {rs : Option (List Nat)} : Does h (h.new x) rs := ⟨.new h x, fun _ _ => ⟨[], rfl, fun _ hb => by simp at hb⟩⟩
theorem storeAt_keep {h h' : H} {b o : Nat} {vs : List V} (hs : storeAt h b o vs = some h') : Keep h h' ∧ h'.log = b :: h.log := by
  unfold storeAt at hs
  split at hs <;> try simp at hs
  rename_i cs hg
  split at hs <;> try simp at hs
  obtain ⟨_, rfl⟩ := hs
  exact ⟨.put hg (by intro lp e; cases e), rfl⟩
theorem append_keep {esz bytes : Nat} {h h' : H} {s x v : V} (he : appendV esz bytes h s x = .ok v h') : Keep h h' := by
  unfold appendV at he
  split at he <;> try simp only [reduceCtorEq] at he
  split at he <;> try simp only [reduceCtorEq] at he
  split at he <;> try simp only [reduceCtorEq] at he
  split at he <;> try simp only [reduceCtorEq] at he
  · split at he <;> simp at he
    · rw [← he.2]; exact .refl _
    · rw [← he.2]; exact .new _ _
  · split at he <;> simp at he
    · rw [← he.2]; exact .refl _
    · rw [← he.2]; exact .new _ _
  · split at he
    · split at he <;> simp at he
      rename_i hst
      rw [← he.2]
      exact (storeAt_keep hst).1
    · split at he <;> try simp only [reduceCtorEq] at he
      split at he
      · split at he <;> try simp only [reduceCtorEq] at he
        split at he <;> simp at he
        rw [← he.2]; exact .new _ _
      · split at he <;> try simp only [reduceCtorEq] at he
        rename_i hg
        split at he <;> try simp only [reduceCtorEq] at he
        split at he <;> simp at he
        rw [← he.2]
        exact (Keep.kill hg).trans (.new _ _)
theorem copy_keep {esz : Nat} {h h' : H} {d s v : V} (he : copyV esz h d s = .ok v h') : Keep h h' := by
  unfold copyV at he
  split at he <;> try simp at he
  split at he <;> try simp at he
  · rw [← he.2]; exact .refl _
  · split at he <;> try simp at he
    split at he <;> simp at he
    rename_i hst
    rw [← he.2]
    exact (storeAt_keep hst).1
theorem evA_does {call : V → List V → H → RO} {op : A} {t : List V} {h h' : H} {v : V} (hc : ∀ f args h v h', call f args h = .ok v h' → Keep h h') (he : evA call op t h = .ok v h') : Does h h' (reads op t) := by
  have pure' : ∀ (o : Option V), RO.ofV h o = .ok v h' → Does h h' (reads op t) := fun o ho => by rw [(ofV_ok ho).2]; exact .refl
  have here : ∀ u, RO.ok u h = .ok v h' → Does h h' (reads op t) := fun u hu => by simp at hu; rw [← hu.2]; exact .refl
  have fresh : ∀ u x, RO.ok u (h.new x) = .ok v h' → Does h h' (reads op t) := fun u x hu => by simp at hu; rw [← hu.2]; exact .new
  cases op <;> simp only [evA] at he
  case mov => exact here _ he
  case pick => split at he <;> first | exact here _ he | simp at he
  case alloc => exact fresh _ _ he
  case box => exact fresh _ _ he
  case build => split at he <;> first | exact here _ he | simp at he
  case buildSl => split at he <;> first | exact fresh _ _ he | simp at he
  case ld => split at he <;> try simp at he
             split at he <;> try simp at he
             exact pure' _ he
  case ldn => split at he <;> try simp at he
              split at he <;> try simp at he
              split at he <;> first | exact here _ he | simp at he
  case st n x y =>
    split at he <;> try simp at he
    rename_i b o hx
    split at he <;> try simp at he
    split at he <;> simp at he
    rename_i hst
    obtain ⟨h1, h2⟩ := storeAt_keep hst
    obtain ⟨_, rfl⟩ := he
    refine ⟨h1, fun r hr => ⟨[b], h2, fun c hcb => ?_⟩⟩
    simp only [reads, hx, blockOf, Option.some.injEq] at hr
    rw [← hr]; exact hcb
  case nilck => split at he <;> first | exact here _ he | simp at he
  case bin => exact pure' _ he
  case eqv => split at he <;> first | exact here _ he | simp at he
  case un => exact pure' _ he
  case conv => split at he <;> first | exact here _ he | simp at he
  case mkI => exact here _ he
  case mkFn => exact here _ he
  case mkMap => exact fresh _ _ he
  case mkSl => split at he <;> try simp at he
               split at he <;> first | exact fresh _ _ he | simp at he
  case slc => split at he <;> exact pure' _ he
  case slcA => split at he <;> try simp at he
               split at he <;> first | exact here _ he | simp at he
  case slcS => split at he <;> try simp at he
               split at he <;> first | exact here _ he | simp at he
  case fld => split at he <;> first | exact here _ he | simp at he
  case fldv => split at he <;> try simp at he
               split at he <;> first | exact pure' _ he | (split at he <;> first | exact here _ he | simp at he)
  case ixS => split at he <;> try simp at he
              split at he <;> first | exact here _ he | simp at he
  case ixA => split at he <;> try simp at he
              split at he <;> first | exact here _ he | simp at he
  case ixStr => split at he <;> try simp at he
                split at he <;> first | exact here _ he | simp at he
  case ixV => split at he <;> try simp at he
              split at he <;> try simp at he
              split at he <;> first | exact pure' _ he | (split at he <;> first | exact here _ he | simp at he)
  case look => split at he <;> try simp at he
               split at he <;> first | exact here _ he | simp at he
  case mapSet kk x k y =>
    split at he <;> try simp at he
    rename_i b hx
    split at he <;> try simp at he
    rename_i es hg
    split at he <;> try simp at he
    split at he <;> simp at he
    obtain ⟨_, rfl⟩ := he
    refine ⟨.put hg (by intro lp e; cases e), fun r hr => ⟨[b], rfl, fun c hcb => ?_⟩⟩
    simp only [reads, hx, blockOf, Option.some.injEq] at hr
    rw [← hr]; exact hcb
  case ext => split at he <;> first | exact pure' _ he | simp at he
  case call => exact ⟨hc _ _ _ _ _ he, fun r hr => by simp [reads] at hr⟩
  case lenS => split at he <;> first | exact here _ he | simp at he
  case lenL => split at he <;> first | exact here _ he | simp at he
  case lenC => exact here _ he
  case lenM => split at he <;> try simp only [reduceCtorEq] at he
               · exact here _ he
               · split at he <;> first | exact here _ he | simp at he
  case app => exact ⟨append_keep he, fun r hr => by simp [reads] at hr⟩
  case cpy => exact ⟨copy_keep he, fun r hr => by simp [reads] at hr⟩
  case clr =>
    split at he <;> try simp at he
    · obtain ⟨_, rfl⟩ := he
      exact .refl
    · split at he
      · exact here _ he
      · split at he <;> simp at he
        rename_i hst
        rw [← he.2]
        exact ⟨(storeAt_keep hst).1, fun r hr => by simp [reads] at hr⟩
  case min => exact pure' _ he
  case max => exact pure' _ he
  case no => simp at he
theorem runOps_keep {call : V → List V → H → RO} (hc : ∀ f args h v h', call f args h = .ok v h' → Keep h h') : ∀ (l : List O) (t : List V) (h : H) (t' : List V) (h' : H), runOps call l t h = .ok t' h' → Keep h h'
  | [], t, h, t', h', he => by simp [runOps] at he; rw [← he.2]; exact .refl _
  | o :: l, t, h, t', h', he => by
    simp only [runOps] at he
    split at he
    · split at he <;> try simp at he
      rename_i v h1 h2
      exact (evA_does hc h2).1.trans (runOps_keep hc l _ _ _ _ he)
    · exact runOps_keep hc l _ _ _ _ he
theorem oldOnes_lt {n : Nat} : ∀ {l : List Nat} {b : Nat}, b ∈ oldOnes n l → b < n ∧ b ∈ l
  | [], b, hb => by simp [oldOnes] at hb
  | x :: l, b, hb => by
    simp only [oldOnes] at hb
    split at hb
    · rename_i hx
      rcases List.mem_cons.1 hb with rfl | hb
      · exact ⟨by simpa [Nat.blt_eq] using hx, by simp⟩
      · have := oldOnes_lt hb
        exact ⟨this.1, by simp [this.2]⟩
    · have := oldOnes_lt hb
      exact ⟨this.1, by simp [this.2]⟩
theorem mem_oldOnes {n : Nat} : ∀ {l : List Nat} {b : Nat}, b < n → b ∈ l → b ∈ oldOnes n l
  | [], b, _, hb => by simp at hb
  | x :: l, b, hn, hb => by
    simp only [oldOnes]
    rcases List.mem_cons.1 hb with rfl | hb
    · rw [if_pos (by simpa [Nat.blt_eq] using hn)]; simp
    · split
      · exact List.mem_cons.2 (.inr (mem_oldOnes hn hb))
      · exact mem_oldOnes hn hb
theorem runDraw_keep {call : V → List V → H → RO} (hc : ∀ f args h v h', call f args h = .ok v h' → Keep h h') : ∀ (l : List O) (t : List V) (h : H) (f : List Foot) (t' : List V) (h' : H) (f' : List Foot), runDraw call l t h f = .ok t' h' f' → Keep h h'
  | [], t, h, f, t', h', f', he => by simp [runDraw] at he; rw [← he.2.1]; exact .refl _
  | o :: l, t, h, f, t', h', f', he => by
    simp only [runDraw] at he
    split at he
    · split at he <;> try simp at he
      rename_i v h1 h2
      refine Keep.trans ?_ (runDraw_keep hc l _ _ _ _ _ _ he)
      have k := (evA_does hc h2).1
      refine ⟨k.nx, fun w => ⟨(k.wf ⟨w.1, fun _ hb => by simp at hb⟩).1, fun b hb => ?_⟩, k.loop, ?_⟩
      case refine_2 =>
        obtain ⟨l, q1, q2, q3⟩ := k.wr
        simp only [List.append_nil] at q1
        subst q1
        exact ⟨_, rfl, fun b hb hl => q2 b hb (fun hm => hl (mem_oldOnes hb hm)), fun b hb hlt => q3 b (oldOnes_lt hb).2 hlt⟩
      rcases List.mem_append.1 hb with hb | hb
      · exact Nat.lt_of_lt_of_le (oldOnes_lt hb).1 k.nx
      · exact Nat.lt_of_lt_of_le (w.2 b hb) k.nx
    · exact runDraw_keep hc l _ _ _ _ _ _ he
section
variable {tbl : Nat → Option FI} {r : C → List V → H → RC}
theorem callV_keep (hr : ∀ c t h o t' h', r c t h = .ok o t' h' → Keep h h') (f : V) (args : List V) (h : H) (v : V) (h' : H) (he : callV tbl r f args h = .ok v h') : Keep h h' := by
  unfold callV at he
  split at he <;> try simp at he
  · split at he <;> try simp at he
    split at he <;> try simp at he
    rename_i hrun
    split at he <;> try simp at he
    split at he <;> simp at he
    rw [← he.2]
    exact hr _ _ _ _ _ _ hrun
  · split at he <;> try simp at he
    split at he <;> try simp at he
    split at he <;> try simp at he
    rename_i t1 h1 hasg
    split at he <;> try simp at he
    rename_i lp1 hg1
    split at he <;> try simp at he
    split at he <;> try simp at he
    rename_i o2 t2 h2 hbody
    split at he <;> try simp at he
    rename_i lp2 hg2
    split at he <;> try simp at he
    have k1 := hr _ _ _ _ _ _ hasg
    have k2 : Keep h1 (h1.put _ (.loop { lp1 with state := .busy })) := .put hg1 (fun lp _ => ⟨_, rfl⟩)
    have k3 := hr _ _ _ _ _ _ hbody
    split at he <;> simp at he <;> rw [← he.2]
    · exact k1.trans (k2.trans (k3.trans (.put hg2 (fun lp _ => ⟨_, rfl⟩))))
    · exact k1.trans (k2.trans (k3.trans (.put hg2 (fun lp _ => ⟨_, rfl⟩))))
theorem stepC_keep (hr : ∀ c t h o t' h', r c t h = .ok o t' h' → Keep h h') (c : C) (t : List V) (h : H) (o : Out) (t' : List V) (h' : H) (he : stepC tbl r c t h = .ok o t' h') : Keep h h' := by
  have hc := callV_keep (tbl := tbl) hr
  cases c <;> simp only [stepC] at he
  case skip => simp at he; rw [← he.2.2]; exact .refl _
  case ops => split at he <;> simp at he
              rename_i hrun
              rw [← he.2.2]; exact runOps_keep hc _ _ _ _ _ hrun
  case draw => split at he <;> try simp at he
               rename_i hrun
               split at he <;> simp at he
               obtain ⟨_, _, rfl⟩ := he
               exact runDraw_keep hc _ _ _ _ _ _ _ hrun
  case seq => split at he
              · rename_i hrun
                exact (hr _ _ _ _ _ _ hrun).trans (hr _ _ _ _ _ _ he)
              · exact hr _ _ _ _ _ _ he
  case cond => split at he <;> first | exact hr _ _ _ _ _ _ he | simp at he
  case block => split at he
                · rename_i hrun
                  split at he <;> simp at he <;> rw [← he.2.2] <;> exact hr _ _ _ _ _ _ hrun
                · exact hr _ _ _ _ _ _ he
  case loop => split at he
               · rename_i hrun
                 exact (hr _ _ _ _ _ _ hrun).trans (hr _ _ _ _ _ _ he)
               · exact hr _ _ _ _ _ _ he
  case exit => simp at he; rw [← he.2.2]; exact .refl _
  case ret => simp at he; rw [← he.2.2]; exact .refl _
  case rangeF =>
    split at he <;> try simp at he
    split at he <;> try simp at he
    rename_i hrun
    split at he <;> try simp at he
    rename_i hg
    split at he <;> simp at he
    obtain ⟨_, _, rfl⟩ := he
    exact (Keep.new _ _).trans ((hc _ _ _ _ _ hrun).trans (.put hg (fun lp _ => ⟨_, rfl⟩)))
end
theorem E_keep {tbl : Nat → Option FI} : ∀ (k : Nat) (c : C) (t : List V) (h : H) (o : Out) (t' : List V) (h' : H), E tbl k c t h = .ok o t' h' → Keep h h'
  | 0, _, _, _, _, _, _, he => by simp [E] at he
  | k + 1, c, t, h, o, t', h', he => stepC_keep (E_keep k) c t h o t' h' he
end Go.Air
namespace Go.Air
def Wd (ro : Option Nat) : Fence := { Fence.wide with round := ro }
def allB : Nat → Prop := fun _ => True
section
variable {P : Program} {F : Nat → Prop} {R R1 : Emb} {h h1 h' : H} {w w1 : World} {t t' : List V} {a : Act} {v : V}
theorem Sim.sub {G : Nat → Prop} (hs : Sim P F R h.get w) (hG : ∀ b, G b → F b) : Sim P G R h.get w :=
  ⟨fun b c sz x hb => hs.blk b c sz x (hG b hb), fun b b' c sz sz' x x' h1 h2 => hs.inj b b' c sz sz' x x' (hG b h1) (hG b' h2), hs.lt⟩
def Upon (P : Program) (nx : Next) (w : World) (Q : Value → World → Prop) : Prop :=
  match nx with
  | .value x => Q x w
  | .skip => Q undef w
  | .enter f args => ∀ ro n, CallsIn (Wd ro) n P f args w fun
    | .returned v, w'' => Q v w''
    | _, _ => False
  | .round l f tmps assign body => ∀ ro n, RoundIn (Wd ro) n P l f tmps assign body w fun
    | .returned v, w'' => Q v w''
    | _, _ => False
  | _ => False
def CallSnd (P : Program) (call : V → List V → H → RO) : Prop :=
  ∀ (f : V) (args : List V) (h h' : H) (v : V) (R : Emb) (w : World) (fv : Value) (vs : List Value), call f args h = .ok v h' → Sim P allB R h.get w → Fresh R h h' → WF h →
    conc R f = some fv → concL R args = some vs →
    ∃ nx, (do let d ← Deferred.ofValue fv vs.toArray; invoke d.target d.args : Sem Next).run P w = .ok nx w ∧ Upon P nx w (PostV P allB R h w v h')
theorem upon_in {o : Oper} {n : Nat} {ro : Option Nat} {next : Act → World → Prop} {Q : Exit → Act → World → Prop} {nx : Next} {K : Value → World → Prop} (hu : Upon P nx w K)
    (hn : ∀ x w', K x w' → next (a.put o.dst x) w') : o.uponIn (Wd ro) n P a next Q (.ok nx w) := by
  have room : ((Wd ro).depth.isSome = true → 1 ≤ n) := fun h => by simp [Wd, Fence.wide] at h
  cases nx <;> first | exact hu.elim | skip
  case value x => exact hn _ _ hu
  case skip => exact hn _ _ hu
  case enter f args =>
    refine ⟨room, (hu ro (n - 1)).mono ?_⟩
    intro e w' he
    cases e with
    | returned v => exact hn _ _ he
    | panicked _ => exact he.elim
    | outgrown => exact he.elim
  case round l f tmps assign body =>
    refine ⟨room, (hu ro (n - 1)).mono ?_⟩
    intro e w' he
    cases e with
    | returned v => exact hn _ _ he
    | panicked _ => exact he.elim
    | outgrown => exact he.elim
theorem envOk_of (ht : concL R t = some a.tmps.toList) : EnvOk R t a.eval := by
  intro x y hxy
  unfold okX at hxy
  split at hxy <;> try simp at hxy
  · subst hxy
    have := conc_nth ht ‹Nat›
    simp only [X.ev, Act.eval]
    rw [this]
    simp [Array.getD_eq_getD_getElem?, List.getD_eq_getElem?_getD]
  · exact conc_of_same R _ _ hxy
  · subst hxy
    simp [X.ev, Act.eval, conc, concL]
theorem op_wp {o : Oper} {ao : A} {n : Nat} {ro : Option Nat} {next : Act → World → Prop} {Q : Exit → Act → World → Prop} {call : V → List V → H → RO} (hc : CallSnd P call)
    (hok : okA P o.op ao = true) (hρ : EnvOk R t a.eval) (hs : Sim P F R h.get w) (hF : FootOk F (reads ao t)) (hfr : Fresh R h h') (hw : WF h) (he : evA call ao t h = .ok v h')
    (hn : ∀ x w', PostV P F R h w v h' x w' → next (a.put o.dst x) w') : o.wpIn (Wd ro) n P a w next Q := by
  refine ⟨fun _ _ => trivial, ?_⟩
  obtain ⟨dst, op, ty, pos, af, gd⟩ := o
  simp only at hok
  have hsem : Oper.semAt (Wd ro).round a.eval ⟨dst, op, ty, pos, af, gd⟩ = execOp a.eval ⟨dst, op, ty, pos, af, gd⟩ := by
    refine Oper.semAt_eq _ _ _ (fun c hcc => ?_)
    simp only at hcc
    subst hcc
    cases ao <;> first | exact (Bool.false_ne_true hok).elim | (simp [evA] at he; done)
  rw [hsem]
  by_cases hcall : ∃ f xs, ao = .call f xs
  · obtain ⟨f, xs, rfl⟩ := hcall
    have hall : ∀ b, F b := hF
    cases op <;> try exact (Bool.false_ne_true hok).elim
    rename_i c
    have hok : (match c.callee with
      | .value g => okX g f && okXs c.args.toList xs
      | _ => false) = true := hok
    split at hok <;> try simp at hok
    rename_i g hg
    obtain ⟨h1, h2⟩ := hok
    have hfv := hρ g f h1
    have hxs := okXs_conc hρ _ _ h2
    obtain ⟨nx, hr, hu⟩ := hc _ _ _ _ _ R w _ _ he (hs.sub fun b _ => hall b) hfr hw hfv hxs
    have hr' : (execOp a.eval ⟨dst, .call c, ty, pos, af, gd⟩).run P w = .ok nx w := by
      simp only [execOp, resolve, hg]
      rw [show c.args.map a.eval = (c.args.toList.map a.eval).toArray from Array.toList_inj.1 (by simp)]
      exact hr
    rw [hr']
    refine upon_in hu fun x w' ⟨R', l, q1, q2, q3⟩ => hn x w' ⟨R', l, q1, ?_, q3⟩
    exact ⟨fun b c sz x _ => q2.blk b c sz x trivial, fun b b' c sz sz' x x' _ _ => q2.inj b b' c sz sz' x x' trivial trivial, q2.lt⟩
  · obtain ⟨nx, x, w', hr, hnx, hp⟩ := run_any (dst := dst) (ty := ty) (pos := pos) (af := af) (gd := gd) hok (fun f xs e => hcall ⟨f, xs, e⟩) hρ hs hF hfr he
    rw [hr]
    rcases hnx with rfl | ⟨rfl, rfl⟩
    · exact hn _ _ hp
    · exact hn _ _ hp
theorem put_tmps {x : Value} {dst : Option Tmp} {d : Option Nat} (hd : okDst dst d = true) (ht : concL R t = some a.tmps.toList) (hv : conc R v = some x) :
    concL R (putD t d v) = some (a.put dst x).tmps.toList := by
  unfold okDst at hd
  split at hd <;> try simp at hd
  · exact ht
  · subst hd
    simp only [putD, Act.put, Array.toList_setIfInBounds]
    exact conc_upd _ ht hv
theorem put_defers {x : Value} {dst : Option Tmp} : (a.put dst x).defers = a.defers := by cases dst <;> rfl
theorem wanted_iff {ops : Array Oper} {o : Oper} {g : Option (Nat × Bool)} (hg : okG ops o.guard g = true) (ht : concL R t = some a.tmps.toList) :
    Region.wanted o (yielded ops a.tmps) = wants g t := by
  unfold okG at hg
  split at hg <;> try simp at hg
  · rename_i h1
    simp [Region.wanted, h1, wants]
  · rename_i j w1 d w2 h1
    obtain ⟨rfl, hd⟩ := hg
    split at hd <;> try simp at hd
    rename_i o' ho
    have hdst : o'.dst = some d := by
      cases hq : o'.dst with
      | none => rw [hq] at hd; exact (Bool.false_ne_true hd).elim
      | some e =>
        rw [hq] at hd
        have hd : Nat.beq e d = true := hd
        rw [Nat.beq_eq] at hd
        rw [hd]
    simp only [Region.wanted, h1, yielded, ho, hdst, Option.bind_some, wants]
    have hcn := conc_nth ht d
    rw [List.getD_eq_getElem?_getD, Array.getElem?_toList] at hcn
    cases hq : a.tmps[d]? with
    | none =>
      have : t.length ≤ d := by
        have e := concL_length ht
        rw [Array.getElem?_eq_none_iff] at hq
        simp at e
        omega
      have : nth t d = .undef := by rw [nth_eq]; simp [this]
      rw [this]
      rfl
    | some x =>
      rw [hq, Option.getD_some] at hcn
      cases hn : nth t d with
      | b y =>
        rw [hn] at hcn
        simp [conc] at hcn
        subst hcn
        cases y <;> cases w1 <;> rfl
      | _ =>
        rw [hn] at hcn
        have : ∀ b, x ≠ .bool b := by
          intro b e
          subst e
          first | (simp [conc] at hcn; done) | (simp only [conc] at hcn; split at hcn <;> simp at hcn; done) | (rename_i gr; cases gr <;> first | (simp [conc] at hcn; done) | (simp only [conc, Option.bind_eq_some_iff] at hcn; obtain ⟨y, _, h2⟩ := hcn; split at h2 <;> simp at h2; done))
        cases x <;> first | rfl | exact absurd rfl (this _)
end
end Go.Air
namespace Go.Air
theorem least {p : Nat → Prop} (h : ∃ j, p j) : ∃ m, p m ∧ ∀ j, p j → m ≤ j := by
  obtain ⟨j, hj⟩ := h
  induction j using Nat.strongRecOn with
  | _ j ih =>
    by_cases hl : ∃ i, i < j ∧ p i
    · obtain ⟨i, hi, hp⟩ := hl
      exact ih i hi hp
    · exact ⟨j, hj, fun i hi => Nat.le_of_not_lt fun hlt => hl ⟨i, hlt, hi⟩⟩
theorem wpIn_loop_rel {F : Fence} {n : Nat} {P : Program} {Q : Exit → Act → World → Prop} {a : Act} {w : World} {c : Code} (J : Nat → Act → World → Prop) (h0 : ∃ j, J j a w)
    (round : ∀ j a w, J j a w → c.wpIn F n P (Exit.then (fun a' w' => ∃ j', j' < j ∧ J j' a' w') Q) a w) : (Code.loop c).wpIn F n P Q a w := by
  classical
  refine wpIn_loop (fun a w => ∃ j, J j a w) (fun a w => if h : ∃ j, J j a w then Classical.choose (least h) else 0) h0 ?_
  intro a w hj
  have hfind := (Classical.choose_spec (least hj)).1
  refine wpIn_mono (round _ a w hfind) ?_
  intro e a' w' hq
  cases e with
  | normal =>
    obtain ⟨j', hlt, hj'⟩ := hq
    refine ⟨⟨j', hj'⟩, ?_⟩
    simp only [dif_pos hj, dif_pos (⟨j', hj'⟩ : ∃ j, J j a' w')]
    exact Nat.lt_of_le_of_lt ((Classical.choose_spec (least (⟨j', hj'⟩ : ∃ j, J j a' w'))).2 _ hj') hlt
  | _ => exact hq
section
variable {P : Program} {b : Frame} {a : Act} {k : List Item} {cs : List Frame} {w : World} {Q : Exit → Act → World → Prop} {F : Fence} {n : Nat}
theorem stepR_scope {c : Code} : step P (lone (b.atR a (.code (.scope c) :: k)) cs w) = .next (lone (b.atR a (.code c :: .inScope c :: k)) cs w) :=
  step_lone_go (by simp [stepG, stepG.exec, Frame.atR])
theorem stepR_inScope {c : Code} : step P (lone (b.atR a (.inScope c :: k)) cs w) = .next (lone (b.atR a k) cs w) :=
  step_lone_go (by simp [stepG, stepG.exec, Frame.atR])
theorem wpIn_scope_straight {c : Code} (h : c.wpIn F n P (Exit.noGoto Q) a w) : (Code.scope c).wpIn F n P Q a w := by
  intro b k cs hro hb hr
  have h0 : (lone (b.atR a (.code (.scope c) :: k)) cs w).fenced P F := fenced_calm hb hr rfl
  obtain ⟨e, a₁, w₁, hq, harr⟩ := h b (.inScope c :: k) cs hro hb hr
  cases e with
  | normal => exact ⟨.normal, a₁, w₁, hq, .head h0 stepR_scope (StepsIn.trans harr (.one (fenced_calm hb hr rfl) stepR_inScope))⟩
  | exit id =>
    have hx : exitTo id (.inScope c :: k) = exitTo id k := by simp [exitTo]
    exact ⟨.exit id, a₁, w₁, hq, fun k' hk => .head h0 stepR_scope (harr.1 k' (by rw [hx]; exact hk)),
      fun hr' hk => let ⟨k₁, h1, h2⟩ := harr.2 hr' (by rw [hx]; exact hk); ⟨k₁, h1, .head h0 stepR_scope h2⟩⟩
  | goto l => exact hq.elim
  | ret => exact ⟨_, a₁, w₁, hq, .of_steps (.one h0 stepR_scope) harr⟩
  | panic ch => exact ⟨_, a₁, w₁, hq, .of_steps (.one h0 stepR_scope) harr⟩
  | outgrown => exact ⟨_, a₁, w₁, hq, .of_steps (.one h0 stepR_scope) harr⟩
end
section
variable {P : Program} {R R1 R' : Emb} {h h1 h' : H} {w w1 w' : World} {t t' : List V} {a : Act} {v : V} {m : Nat}
def Marks (m : Nat) (R : Emb) (w : World) : List Deferred → Prop
  | [] => True
  | d :: ds => (∃ D, d = { target := .collected D, args := #[] } ∧ m ≤ D ∧ D < w.heap.size ∧ w.heap[D]? = some (.deferred (some [])) ∧ (∀ b sz, R b ≠ some (D, sz)) ∧
      ∀ e ∈ ds, e.target ≠ .collected D) ∧ Marks m R w ds
theorem Marks.fwd {l : List Nat} (f : Fwd R R' h h' w w' l) : ∀ {ds : List Deferred}, Marks m R w ds → Marks m R' w' ds
  | [], _ => trivial
  | d :: ds, ⟨⟨D, h1, h2, h3, h4, h5, h6⟩, hs⟩ => by
    refine ⟨⟨D, h1, h2, Nat.lt_of_lt_of_le h3 f.size, ?_, ?_, h6⟩, hs.fwd f⟩
    · rw [f.frame D h3 (fun b sz hb => absurd hb (h5 b sz))]; exact h4
    · intro b sz hb
      rcases f.new b D sz hb with q | ⟨_, _, q | ⟨b0, s0, q, _⟩⟩
      · exact h5 b sz q
      · omega
      · exact h5 b0 s0 q
theorem Marks.took {D : Nat} : ∀ {ds : List Deferred}, (∀ e ∈ ds, e.target ≠ .collected D) → Marks m R w ds → Marks m R (w.putObj D (.deferred none)) ds
  | [], _, _ => trivial
  | d :: ds, hne, ⟨⟨E, h1, h2, h3, h4, h5, h6⟩, hs⟩ => by
    have hED : E ≠ D := by
      intro e; subst e
      exact hne d (by simp) (by rw [h1])
    refine ⟨⟨E, h1, h2, by simpa using h3, ?_, h5, h6⟩, Marks.took (fun e he => hne e (by simp [he])) hs⟩
    rw [World.putObj_heap_other hED]; exact h4
def PostA (P : Program) (m : Nat) (R : Emb) (h : H) (w : World) (t' : List V) (h' : H) (a' : Act) (w' : World) : Prop :=
  ∃ R' l, Fwd R R' h h' w w' l ∧ Sim P allB R' h'.get w' ∧ concL R' t' = some a'.tmps.toList ∧ Marks m R' w' a'.defers
theorem PostA.step {a' : Act} {l : List Nat} (f : Fwd R R1 h h1 w w1 l) (hp : PostA P m R1 h1 w1 t' h' a' w') : PostA P m R h w t' h' a' w' :=
  let ⟨R', l', q1, q2⟩ := hp
  ⟨R', _, f.trans q1, q2⟩
theorem PostA.here (hs : Sim P allB R h.get w) (ht : concL R t = some a.tmps.toList) (hm : Marks m R w a.defers) : PostA P m R h w t h a w := ⟨R, [], .refl R h w, hs, ht, hm⟩
def Around (R : Emb) (h : H) : Option Nat → Prop
  | none => True
  | some c => ∃ b sz lp, R b = some (c, sz) ∧ b < h.next ∧ h.get b = some (.loop lp)
theorem Around.fwd {ro : Option Nat} {l : List Nat} (f : Fwd R R' h h' w w' l) (k : Keep h h') (ha : Around R h ro) : Around R' h' ro := by
  cases ro with
  | none => trivial
  | some c =>
    obtain ⟨b, sz, lp, h1, h2, h3⟩ := ha
    obtain ⟨lp', h4⟩ := k.loop b lp h2 h3
    exact ⟨b, sz, lp', f.le b _ h1, Nat.lt_of_lt_of_le h2 k.nx, h4⟩
theorem res_one {t : List V} {tmps : Array Value} (hs : Sim P allB R h.get w) (ht : concL R t = some tmps.toList) :
    ∀ {rs : List ResultVar} {ms : List ResV} {vs : List V}, okRes P rs ms = true → resultsOf t h ms = some vs →
      ∃ xs, (rs.mapM (m := Sem) fun
        | .tmp t => pure (tmps.getD t undef)
        | .cell a t => do loadVar t (← asAddr (tmps.getD a undef))).run P w = .ok xs w ∧ concL R vs = some xs
  | [], [], vs, _, hr => by
    simp [resultsOf] at hr
    subst hr
    exact ⟨[], by simp, concL_nil R⟩
  | [], _ :: _, _, ho, _ => by simp [okRes] at ho
  | .tmp _ :: _, [], _, ho, _ => by simp [okRes] at ho
  | .cell _ _ :: _, [], _, ho, _ => by simp [okRes] at ho
  | .tmp _ :: _, .cell _ _ :: _, _, ho, _ => by simp [okRes] at ho
  | .tmp _ :: _, .only _ :: _, _, ho, _ => by simp [okRes] at ho
  | .cell _ _ :: _, .only _ :: _, _, ho, _ => by simp [okRes] at ho
  | .cell _ _ :: _, .tmp _ :: _, _, ho, _ => by simp [okRes] at ho
  | .tmp x :: rs, .tmp y :: ms, vs, ho, hr => by
    simp only [okRes, Bool.and_eq_true, Nat.beq_eq] at ho
    obtain ⟨rfl, ho⟩ := ho
    simp only [resultsOf, resultOf, Option.map_eq_some_iff] at hr
    obtain ⟨vs', hr, rfl⟩ := hr
    obtain ⟨xs, h1, h2⟩ := res_one hs ht ho hr
    refine ⟨tmps.getD x undef :: xs, ?_, concL_cons.2 ⟨_, _, ?_, h2, rfl⟩⟩
    · rw [List.mapM_cons]
      simp only [Sem.run_bind, Sem.run_pure, Result.andThen_ok, h1]
    · have := conc_nth ht x
      rw [this]
      simp [Array.getD_eq_getD_getElem?, List.getD_eq_getElem?_getD]
  | .cell x ty :: rs, .cell y sz :: ms, vs, ho, hr => by
    simp only [okRes, Bool.and_eq_true, Nat.beq_eq] at ho
    obtain ⟨⟨rfl, hty⟩, ho⟩ := ho
    simp only [resultsOf] at hr
    split at hr <;> try simp at hr
    rename_i v0 hv0
    obtain ⟨vs', hr, rfl⟩ := hr
    obtain ⟨xs, h1, h2⟩ := res_one hs ht ho hr
    simp only [resultOf] at hv0
    split at hv0 <;> try simp at hv0
    rename_i b o hn
    split at hv0 <;> try simp at hv0
    rename_i cs hg
    have hx := conc_nth ht x
    rw [hn, List.getD_eq_getElem?_getD, Array.getElem?_toList] at hx
    obtain ⟨c, sz', hb, hxe⟩ := conc_p hx
    have hxe' : tmps.getD x undef = .pointer (some ⟨c, o, none⟩) := by rw [Array.getD_eq_getD_getElem?, hxe]
    obtain ⟨arr, e', ys, rest, g1, g2, g3, g4⟩ := cells_at hs trivial hb hg
    have hload : ∃ u, (loadVar ty ⟨c, o, none⟩).run P w = .ok u w ∧ conc R v0 = some u := by
      cases sz with
      | none =>
        simp only at hty hv0
        rw [nth?_eq] at hv0
        obtain ⟨u, hu, hc⟩ := concL_get g2 hv0
        have hcell : w.cell? ⟨c, o, none⟩ = some u := cell_at g1 (by rw [g3, List.getElem?_append_left (List.getElem?_eq_some_iff.1 hu).1]; exact hu)
        exact ⟨u, by simp [loadVar, run_isAgg_plain w hty, hcell], hc⟩
      | some k =>
        simp only [Bool.and_eq_true, Option.map_eq_some_iff] at hty hv0
        obtain ⟨l, hl, rfl⟩ := hv0
        obtain ⟨hle, rfl⟩ := cut_eq.1 hl
        have hlen := concL_length g2
        have hr := run_loadCells_at (P := P) g1 g3 (by omega : o + k ≤ ys.length)
        exact ⟨.agg ((ys.drop o).take k).toArray, by simp [loadVar, run_isAgg_agg w hty.1, run_size w hty.2, hr], by simp [conc, concL_take k (concL_drop o g2)]⟩
    obtain ⟨u, hu1, hu2⟩ := hload
    refine ⟨u :: xs, ?_, concL_cons.2 ⟨_, _, hu2, h2, rfl⟩⟩
    rw [List.mapM_cons]
    have has : (asAddr (tmps.getD x undef)).run P w = .ok ⟨c, o, none⟩ w := by rw [hxe']; simp [asAddr]
    simp only [Sem.run_bind, has, Sem.run_pure, Result.andThen_ok, hu1, h1]
theorem conc_pack {vs : List V} {xs : List Value} (hv : concL R vs = some xs) : conc R (packR vs) = some (if h : xs.toArray.size = 1 then xs.toArray[0] else .tuple xs.toArray) := by
  match vs, xs, hv with
  | [], xs, hv => simp [concL] at hv; subst hv; simp [packR, conc, concL]
  | [v], xs, hv =>
    obtain ⟨x, ys, h1, h2, rfl⟩ := concL_cons.1 hv
    simp [concL] at h2; subst h2
    simpa [packR] using h1
  | v :: v' :: vs, xs, hv =>
    obtain ⟨x, ys, h1, h2, rfl⟩ := concL_cons.1 hv
    obtain ⟨x', ys', h1', h2', rfl⟩ := concL_cons.1 h2
    simp [packR, conc, hv]
theorem run_results {fn : Func} {t : List V} {tmps : Array Value} {ms : List ResV} {vs : List V} (hs : Sim P allB R h.get w) (ht : concL R t = some tmps.toList) (ho : okRes P fn.results.toList ms = true)
    (hr : resultsOf t h ms = some vs) : ∃ x, (results fn tmps).run P w = .ok x w ∧ conc R (packR vs) = some x := by
  obtain ⟨xs, h1, h2⟩ := res_one hs ht ho hr
  refine ⟨_, ?_, conc_pack h2⟩
  unfold results
  rw [Array.mapM_eq_mapM_toList]
  simp only [Sem.run_bind, Sem.run_map, Functor.map_map, Sem.run_pure]
  erw [h1]
  rfl
theorem Sim.took {D : Nat} {o : Obj} (hs : Sim P allB R h.get w) (hD : ∀ b sz, R b ≠ some (D, sz)) : Sim P allB R h.get (w.putObj D o) :=
  ⟨fun b c sz x hF hb hx => (hs.blk b c sz x hF hb hx).mono P R.le_refl (World.putObj_heap_other (fun e => hD b sz (e ▸ hb))), hs.inj, fun b c sz hb => by simpa using hs.lt b c sz hb⟩
theorem Fwd.took {D : Nat} {o : Obj} {l : List Nat} (f : Fwd R R' h h' w w' l) (hD : w.heap.size ≤ D) : Fwd R R' h h' w (w'.putObj D o) l :=
  ⟨f.le, f.log, f.nx, by simpa using f.size, f.new, f.same, fun c hc hl => by rw [World.putObj_heap_other (by omega)]; exact f.frame c hc hl, f.own, f.io.trans ⟨rfl, rfl, rfl⟩⟩
theorem leaves {F : Fence} {n : Nat} {fn : Func} {t : List V} {tmps : Array Value} {ms : List ResV} {vs : List V} {l : List Nat} (ho : okRes P fn.results.toList ms = true) (ht : concL R' t = some tmps.toList)
    (hr : resultsOf t h' ms = some vs) : ∀ {ds : List Deferred} {w' : World}, Fwd R R' h h' w w' l → Sim P allB R' h'.get w' → Marks w.heap.size R' w' ds →
      LeavesInM F n P fn tmps (fun
        | .returned v, w'' => PostV P allB R h w (packR vs) h' v w''
        | _, _ => False) ds .returning w'
  | [], w', f, hs, _ => by
    obtain ⟨x, h1, h2⟩ := run_results hs ht ho hr
    exact ⟨x, h1, R', l, f, hs, h2⟩
  | d :: ds, w', f, hs, ⟨⟨D, h1, h2, h3, h4, h5, h6⟩, hm⟩ => by
    refine ⟨by simp, .inl ⟨D, w'.putObj D (.deferred none), by rw [h1], run_takeDeferred h4, ?_⟩⟩
    exact leaves ho ht hr (f.took h2) (hs.took h5) (hm.took h6)
theorem ops_wp {call : V → List V → H → RO} {ops : Array Oper} {n : Nat} {ro : Option Nat} {Q : Exit → Act → World → Prop} (hc : CallSnd P call) (hk : ∀ f args h v h', call f args h = .ok v h' → Keep h h') :
    ∀ (L : List Oper) (l : List O) (i : Nat) (t : List V) (h : H) (R : Emb) (w : World) (a : Act), (∀ j, j < L.length → ops[i + j]? = L[j]?) → okOps P ops L l = true → runOps call l t h = .ok t' h' →
      Sim P allB R h.get w → Fresh R h h' → WF h → concL R t = some a.tmps.toList → Marks m R w a.defers → (∀ a' w', PostA P m R h w t' h' a' w' → Q .normal a' w') →
      wpOpsIn (Wd ro) n P ops Q (List.range' i L.length) a w
  | [], [], i, t, h, R, w, a, _, _, he, hs, hfr, hw, ht, hm, hQ => by
    simp [runOps] at he
    obtain ⟨rfl, rfl⟩ := he
    exact hQ a w (.here hs ht hm)
  | [], _ :: _, _, _, _, _, _, _, _, ho, _, _, _, _, _, _, _ => by simp [okOps] at ho
  | _ :: _, [], _, _, _, _, _, _, _, ho, _, _, _, _, _, _, _ => by simp [okOps] at ho
  | o :: L, ao :: l, i, t, h, R, w, a, hL, ho, he, hs, hfr, hw, ht, hm, hQ => by
    simp only [okOps, okO, Bool.and_eq_true] at ho
    obtain ⟨⟨⟨hdst, hg⟩, hop⟩, ho⟩ := ho
    have hi : ops[i]? = some o := by simpa using hL 0 (by simp)
    have hL' : ∀ j, j < L.length → ops[i + 1 + j]? = L[j]? := fun j hj => by
      have := hL (j + 1) (by simp; omega)
      rw [show i + 1 + j = i + (j + 1) by omega]
      simpa using this
    simp only [List.length_cons, List.range'_succ, wpOpsIn, hi]
    rw [wanted_iff hg ht]
    simp only [runOps] at he
    cases hwt : wants ao.g t with
    | true =>
      simp only [hwt] at he
      simp only [if_true]
      split at he <;> try simp at he
      rename_i v h1 hev
      have k1 := (evA_does hk hev).1
      have k2 := runOps_keep hk l _ _ _ _ he
      refine op_wp hc hop (envOk_of ht) hs (F := allB) ?_ (hfr.left k2.nx) hw hev ?_
      · cases reads ao.op t <;> simp [FootOk, allB]
      · rintro x w1 ⟨R1, l1, q1, q2, q3⟩
        refine ops_wp hc hk L l (i + 1) _ h1 R1 w1 _ hL' ho he q2 (hfr.right q1) (k1.wf hw) (put_tmps hdst (concL_mono q1.le _ _ ht) q3) (by rw [put_defers]; exact hm.fwd q1) ?_
        exact fun a' w' hp => hQ a' w' (hp.step q1)
    | false =>
      simp only [hwt] at he
      simp only [Bool.false_eq_true, if_false]
      refine ⟨fun _ _ => trivial, ?_⟩
      exact ops_wp hc hk L l (i + 1) _ h R w _ hL' ho he hs hfr hw (put_tmps hdst ht (conc_undef R)) (by rw [put_defers]; exact hm) hQ
end
end Go.Air
namespace Go.Air
def exitOf : Out → Exit
  | .norm => .normal
  | .exit i => .exit i
  | .ret => .ret
section
variable {P : Program} {tbl : Nat → Option FI} {R R1 R' : Emb} {h h1 h' : H} {w w1 w' : World} {t t' : List V} {a : Act} {v : V} {m : Nat}
def Snd (P : Program) (r : C → List V → H → RC) : Prop :=
  ∀ (c : Code) (ac : C) (t : List V) (h : H) (o : Out) (t' : List V) (h' : H) (R : Emb) (w : World) (a : Act) (m n : Nat) (ro : Option Nat),
    r ac t h = .ok o t' h' → okC P c ac = true → Sim P allB R h.get w → Fresh R h h' → WF h → concL R t = some a.tmps.toList → Marks m R w a.defers → m ≤ w.heap.size → Around R h ro →
    c.wpIn (Wd ro) n P (fun e a' w' => e = exitOf o ∧ PostA P m R h w t' h' a' w') a w
def DrawSnd (P : Program) (call : V → List V → H → RO) : Prop :=
  ∀ (ops : Array Oper) (l : List O) (crit : List (Nat × Nat)) (t : List V) (h : H) (t' : List V) (h' : H) (f : List Foot) (R : Emb) (w : World) (a : Act) (m n : Nat) (ro : Option Nat)
    (Q : Exit → Act → World → Prop) (order : Nat), okOps P ops ops.toList l = true → okDraw ops l crit = true → runDraw call l t h [] = .ok t' h' f → critOk f crit = true →
    Sim P allB R h.get w → Fresh R h h' → WF h → concL R t = some a.tmps.toList → Marks m R w a.defers → (∀ a' w', PostA P m R h w t' h' a' w' → Q .normal a' w') →
    wpOpsIn (Wd ro) n P ops Q (Region.schedule (P.follows .mixedOrders) ops order) a w
theorem concL_pad {l : List V} {vs : List Value} (hl : concL R l = some vs) (n : Nat) : concL R (pad l n) = some (vs.toArray ++ Array.replicate (n - vs.toArray.size) undef).toList := by
  have e := concL_length hl
  unfold pad
  rw [concL_append hl (concL_replicate (conc_undef R) _)]
  simp [e]
theorem okFI_inv {k : Nat} {fi : FI} (hok : okFI P k fi = true) : ∃ fn c, P.funcs[k]? = some fn ∧ fn.body = some c ∧ fn.ntmps = fi.ntmps ∧ (fn.name == "runtime.NumGoroutine") = false ∧ okRes P fn.results.toList fi.res = true ∧ okC P c fi.body = true := by
  unfold okFI at hok
  split at hok <;> try simp at hok
  rename_i fn hfn
  obtain ⟨⟨⟨h1, h2⟩, h3⟩, h4⟩ := hok
  split at h4 <;> try simp at h4
  rename_i c hc
  exact ⟨fn, c, hfn, hc, h1, by simpa using h2, h3, h4⟩
def TrueFn (P : Program) (g : Nat) : Prop := (∀ w : World, (callFunc g #[]).run P w = .ok (.enter g #[]) w) ∧ ∀ (w : World) (ro : Option Nat) (n : Nat), CallsIn (Wd ro) n P g #[] w fun
  | .returned x, w' => x = .bool true ∧ SameIO w w' ∧ w.heap.size ≤ w'.heap.size ∧ ∀ c, c < w.heap.size → w'.heap[c]? = w.heap[c]?
  | _, _ => False
def trueFI : FI := ⟨0, [.only (.b true)], .skip⟩
def FnOk (P : Program) (k : Nat) (fi : FI) : Prop := okFI P k fi = true ∨ fi = trueFI ∧ TrueFn P k
def Skips (r : C → List V → H → RC) : Prop := ∀ t h o t' h', r .skip t h = .ok o t' h' → t' = t ∧ h' = h
theorem true_snd {r : C → List V → H → RC} (hskip : Skips r) {g : Nat} {first caps args : List V} {f1 c1 vs : List Value} (hg : tbl g = some trueFI) (ht : TrueFn P g)
    (he : callV tbl r (.fn g first caps) args h = .ok v h') (hs : Sim P allB R h.get w) (hf : concL R first = some f1) (hcp : concL R caps = some c1) (hv : concL R args = some vs) :
    (callFunc g (f1.toArray ++ vs.toArray ++ c1.toArray)).run P w = .ok (.enter g (f1.toArray ++ vs.toArray ++ c1.toArray)) w ∧
    ∀ ro n, CallsIn (Wd ro) n P g (f1.toArray ++ vs.toArray ++ c1.toArray) w fun
      | .returned x, w'' => PostV P allB R h w v h' x w''
      | _, _ => False := by
  simp only [callV, hg] at he
  split at he <;> try simp only [reduceCtorEq] at he
  rename_i o t' h1 hrun
  obtain ⟨rfl, rfl⟩ := hskip _ _ _ _ _ hrun
  have key : pad (first ++ args ++ caps) 0 = [] ∧ v = .b true ∧ h' = h1 := by
    cases o <;> simp only [reduceCtorEq] at he <;> (
      split at he <;> simp only [RO.ok.injEq, reduceCtorEq] at he
      rename_i l hl
      simp only [trueFI, resultsOf, resultOf] at hl
      split at hl <;> try simp only [reduceCtorEq] at hl
      rename_i u hu
      split at hu <;> simp only [Option.some.injEq, reduceCtorEq] at hu
      rename_i hp
      subst hu
      simp only [Option.map_some, Option.some.injEq] at hl
      subst hl
      exact ⟨hp, he.1.symm, he.2.symm⟩)
  obtain ⟨hp, rfl, rfl⟩ := key
  simp only [pad, List.append_eq_nil_iff] at hp
  obtain ⟨⟨⟨rfl, rfl⟩, rfl⟩, _⟩ := hp
  simp only [concL, Option.some.injEq] at hf hcp hv
  subst hf hcp hv
  refine ⟨ht.1 w, fun ro n => (ht.2 w ro n).mono ?_⟩
  intro e w' q
  cases e with
  | returned x =>
    obtain ⟨rfl, qio, q1, q2⟩ := q
    refine ⟨R, [], ⟨R.le_refl, rfl, Nat.le_refl _, q1, fun _ _ _ hb => .inl hb, fun _ _ _ => rfl, fun c hc _ => q2 c hc, fun _ hb => by simp at hb, qio⟩, ⟨?_, hs.inj, ?_⟩, by simp [conc]⟩
    · intro b c sz x hF hb hx
      exact (hs.blk b c sz x hF hb hx).mono P R.le_refl (q2 c (hs.lt b c sz hb))
    · intro b c sz hb
      exact Nat.lt_of_lt_of_le (hs.lt b c sz hb) q1
  | _ => exact q.elim
theorem fn_snd {r : C → List V → H → RC} (hsnd : Snd P r) (hskip : Skips r) (htbl : ∀ k fi, tbl k = some fi → FnOk P k fi) {g : Nat} {first caps args : List V} {f1 c1 vs : List Value}
    (he : callV tbl r (.fn g first caps) args h = .ok v h') (hs : Sim P allB R h.get w) (hfr : Fresh R h h') (hw : WF h) (hf : concL R first = some f1) (hcp : concL R caps = some c1) (hv : concL R args = some vs) :
    (callFunc g (f1.toArray ++ vs.toArray ++ c1.toArray)).run P w = .ok (.enter g (f1.toArray ++ vs.toArray ++ c1.toArray)) w ∧
    ∀ ro n, CallsIn (Wd ro) n P g (f1.toArray ++ vs.toArray ++ c1.toArray) w fun
      | .returned x, w'' => PostV P allB R h w v h' x w''
      | _, _ => False := by
  have he0 := he
  simp only [callV] at he
  split at he <;> try simp at he
  rename_i fi hfi
  rcases htbl g fi hfi with hfo | ⟨rfl, htr⟩
  case inr => exact true_snd hskip hfi htr he0 hs hf hcp hv
  clear he0
  obtain ⟨fn, c, q1, q2, q3, q4, q5, q6⟩ := okFI_inv hfo
  split at he <;> try simp at he
  rename_i o t' h1 hrun
  refine ⟨by simp [callFunc, q1, by simpa using q4, q2], fun ro n => ?_⟩
  have hall : concL R (first ++ args ++ caps) = some (f1 ++ vs ++ c1) := concL_append (concL_append hf hv) hcp
  have hpad := concL_pad hall fi.ntmps
  rw [List.append_assoc] at hpad
  have hcall : CallsIn Fence.wide n P g (f1.toArray ++ vs.toArray ++ c1.toArray) w fun
      | .returned x, w'' => PostV P allB R h w v h' x w''
      | _, _ => False := by
    refine callsIn_of_wp_marks q1 q2 trivial ?_
    have hres : o = .norm ∨ o = .ret := by
      cases o with
      | exit i => simp at he
      | norm => exact .inl rfl
      | ret => exact .inr rfl
    have hres2 : ∃ ls, resultsOf t' h1 fi.res = some ls ∧ v = packR ls ∧ h' = h1 := by
      rcases hres with rfl | rfl <;>
      · simp only at he
        split at he <;> simp at he
        rename_i ls hls
        exact ⟨ls, hls, he.1.symm, he.2.symm⟩
    obtain ⟨ls, hls, rfl, rfl⟩ := hres2
    have := hsnd c fi.body _ h o t' h' R w { tmps := f1.toArray ++ vs.toArray ++ c1.toArray ++ Array.replicate (fn.ntmps - (f1.toArray ++ vs.toArray ++ c1.toArray).size) undef, defers := [] } w.heap.size n none hrun q6 hs hfr hw
      (by rw [hpad, q3]; simp) trivial (Nat.le_refl _) trivial
    refine wpIn_mono this ?_
    rintro e a' w' ⟨rfl, R', l, f, hs', ht', hm'⟩
    rcases hres with rfl | rfl
    · exact leaves q5 ht' hls f hs' hm'
    · exact leaves q5 ht' hls f hs' hm'
  exact hcall
theorem updAll_conc : ∀ {ps : List Nat} {t : List V} {args : List V} {tmps : Array Value} {vs : List Value}, concL R t = some tmps.toList → concL R args = some vs →
    concL R (updAll t ps args) = some ((ps.zip vs).foldl (fun (tmps : Array Value) (x : Nat × Value) => tmps.setIfInBounds x.1 x.2) tmps).toList
  | [], t, args, tmps, vs, ht, _ => by simpa [updAll] using ht
  | p :: ps, t, [], tmps, vs, ht, hv => by
    simp [concL] at hv
    subst hv
    simpa [updAll] using ht
  | p :: ps, t, x :: args, tmps, vs, ht, hv => by
    obtain ⟨y, ys, h1, h2, rfl⟩ := concL_cons.1 hv
    simp only [updAll, List.zip_cons_cons, List.foldl_cons]
    refine updAll_conc ?_ h2
    rw [Array.toList_setIfInBounds]
    exact conc_upd p ht h1
theorem loop_at {b c sz : Nat} {lp : Loop} (hs : Sim P allB R h.get w) (hb : R b = some (c, sz)) (hg : h.get b = some (.loop lp)) :
    ∃ L : Go.Loop, w.heap[c]? = some (.loop L) ∧ L.state = stateOf lp.state ∧ L.pending = pendOf lp.pending ∧ concL R lp.tmps = some L.tmps.toList ∧
      L.params.toList = lp.params ∧ okC P L.assign lp.asg = true ∧ okC P L.body lp.body = true := hs.blk b c sz _ trivial hb hg
theorem put_loop {b c sz : Nat} {lp : Loop} {L : Go.Loop} (lp' : Loop) (L' : Go.Loop) (hs : Sim P allB R h.get w) (hb : R b = some (c, sz)) (hg : h.get b = some (.loop lp)) (hL : w.heap[c]? = some (.loop L))
    (h1 : L'.state = stateOf lp'.state) (h2 : L'.pending = pendOf lp'.pending) (h3 : concL R lp'.tmps = some L'.tmps.toList) (h4 : L'.params.toList = lp'.params) (h5 : okC P L'.assign lp'.asg = true) (h6 : okC P L'.body lp'.body = true) :
    Fwd R R h (h.put b (.loop lp')) w (w.putObj c (.loop L')) [b] ∧ Sim P allB R (h.put b (.loop lp')).get (w.putObj c (.loop L')) :=
  put_step hs trivial hb hg ⟨rfl, rfl, rfl⟩ (by simp) (fun d hd => World.putObj_heap_other hd) ⟨L', World.putObj_heap_same (hs.lt b c sz hb), h1, h2, h3, h4, h5, h6⟩
theorem yld_snd {r : C → List V → H → RC} (hsnd : Snd P r) (hkeep : ∀ c t h o t' h', r c t h = .ok o t' h' → Keep h h') {l c sz : Nat} {args : List V} {vs : List Value}
    (he : callV tbl r (.yld l) args h = .ok v h') (hs : Sim P allB R h.get w) (hfr : Fresh R h h') (hw : WF h) (hb : R l = some (c, sz)) (hv : concL R args = some vs) :
    ∃ nx, (Instr.yield c vs.toArray).run P w = .ok nx w ∧ Upon P nx w (PostV P allB R h w v h') := by
  simp only [callV] at he
  split at he <;> try simp at he
  rename_i lp hg
  obtain ⟨L, g1, g2, g3, g4, g5, g6, g7⟩ := loop_at hs hb hg
  split at he <;> try simp at he
  rename_i hlen
  split at he <;> try simp at he
  rename_i t1 h1 hasg
  split at he <;> try simp at he
  rename_i lp1 hg1
  split at he <;> try simp at he
  rename_i hst1
  split at he <;> try simp at he
  rename_i o t2 h2 hbody
  split at he <;> try simp at he
  rename_i lp2 hg2
  split at he <;> try simp at he
  rename_i hst2
  have hpl : L.params.size = lp.params.length := by rw [← g5]; simp
  have hvl := concL_length hv
  refine ⟨_, run_yield g1 (by simp; omega), fun ro n => ?_⟩
  have k1 := hkeep _ _ _ _ _ _ hasg
  have k2 : Keep h1 (h1.put l (.loop { lp1 with state := .busy })) := .put hg1 (fun lp _ => ⟨_, rfl⟩)
  have k3 := hkeep _ _ _ _ _ _ hbody
  -- the last step, whatever it writes
  obtain ⟨lp3, hh3, hfin⟩ : ∃ lp3, h' = h2.put l (.loop lp3) ∧ (o = .norm ∧ v = .b true ∧ lp3 = { lp2 with state := .ready, pending := none } ∨ o ≠ .norm ∧ v = .b false ∧ lp3 = { lp2 with state := .done, pending := some o }) := by
    cases o <;> simp at he
    · exact ⟨_, he.2.symm, .inl ⟨rfl, he.1.symm, rfl⟩⟩
    · exact ⟨_, he.2.symm, .inr ⟨by simp, he.1.symm, rfl⟩⟩
    · exact ⟨_, he.2.symm, .inr ⟨by simp, he.1.symm, rfl⟩⟩
  have hn3 : h2.next ≤ h'.next := by rw [hh3]; simp
  have hn2 := k3.nx
  have hn1 : h1.next ≤ h'.next := Nat.le_trans (Nat.le_trans (by simp) hn2) hn3
  refine roundIn_of_wpIn (F := Wd ro) trivial ?_
  have hzip : concL R (updAll lp.tmps lp.params args) = some ((L.params.zip vs.toArray).foldl (fun tmps (t, a) => tmps.setIfInBounds t a) L.tmps).toList := by
    have := updAll_conc (R := R) (ps := lp.params) g4 hv
    rw [this, ← g5, ← Array.foldl_toList, Array.toList_zip]
  have w1 := hsnd L.assign lp.asg _ h _ t1 h1 R w { tmps := (L.params.zip vs.toArray).foldl (fun tmps (t, a) => tmps.setIfInBounds t a) L.tmps, defers := [] } w.heap.size n (some c) hasg g6 hs (hfr.left hn1) hw hzip trivial (Nat.le_refl _)
    ⟨l, sz, lp, hb, hw.lt hg, hg⟩
  refine wpIn_mono w1 ?_
  rintro e a1 w1 ⟨rfl, R1, l1, f1, s1, ht1, hm1⟩
  obtain ⟨L1, p1, p2, p3, p4, p5, p6, p7⟩ := loop_at s1 (f1.le _ _ hb) hg1
  have hw1 := k1.wf hw
  refine ⟨_, run_beginRound p1 (by rw [p2, hst1]; rfl), ?_⟩
  obtain ⟨f2, s2⟩ := put_loop { lp1 with state := .busy } { L1 with state := .busy } s1 (f1.le _ _ hb) hg1 p1 rfl p3 p4 p5 p6 p7
  have hfr1 := (hfr.right f1).right f2
  have w2 := hsnd L.body lp.body t1 _ o t2 h2 R1 _ a1 w.heap.size n (some c) hbody g7 s2 (hfr1.left hn3) (k2.wf hw1) ht1 (hm1.fwd f2) (by simpa using f1.size)
    ⟨l, sz, _, f1.le _ _ hb, by simp; exact hw1.lt hg1, by rw [H.get_put, if_pos rfl]⟩
  refine wpIn_mono w2 ?_
  rintro e a2 w3 ⟨rfl, R2, l2, f3, s3, ht2, hm2⟩
  have hb2 := f3.le _ _ (f1.le _ _ hb)
  obtain ⟨L2, r1, r2, r3, r4, r5, r6, r7⟩ := loop_at s3 hb2 hg2
  have fall := f1.trans (f2.trans f3)
  rcases hfin with ⟨rfl, rfl, rfl⟩ | ⟨hne, rfl, rfl⟩
  · obtain ⟨f4, s4⟩ := put_loop { lp2 with state := .ready, pending := none } { L2 with state := .ready, pending := none } s3 hb2 hg2 r1 rfl rfl r4 r5 r6 r7
    subst hh3
    exact ⟨_, _, run_endRound none r1, R2, _, fall.trans f4, s4, by simp [conc]⟩
  · subst hh3
    cases o with
    | norm => exact absurd rfl hne
    | exit i =>
      obtain ⟨f4, s4⟩ := put_loop { lp2 with state := .done, pending := some (.exit i) } { L2 with state := .done, pending := some (.exit i) } s3 hb2 hg2 r1 rfl rfl r4 r5 r6 r7
      exact ⟨_, _, run_endRound (some (.exit i)) r1, R2, _, fall.trans f4, s4, by simp [conc]⟩
    | ret =>
      obtain ⟨f4, s4⟩ := put_loop { lp2 with state := .done, pending := some .ret } { L2 with state := .done, pending := some .ret } s3 hb2 hg2 r1 rfl rfl r4 r5 r6 r7
      exact ⟨_, _, run_endRound (some .ret) r1, R2, _, fall.trans f4, s4, by simp [conc]⟩
theorem call_snd {r : C → List V → H → RC} (hsnd : Snd P r) (hskip : Skips r) (hkeep : ∀ c t h o t' h', r c t h = .ok o t' h' → Keep h h') (htbl : ∀ k fi, tbl k = some fi → FnOk P k fi) : CallSnd P (callV tbl r) := by
  intro f args h h' v R w fv vs he hs hfr hw hf hv
  cases f <;> try (simp [callV] at he; done)
  case fn g first caps =>
    obtain ⟨f1, c1, q1, q2, rfl⟩ := conc_fn hf
    obtain ⟨p1, p2⟩ := fn_snd hsnd hskip htbl he hs hfr hw q1 q2 hv
    exact ⟨.enter g _, by simpa [Deferred.ofValue, invoke] using p1, p2⟩
  case yld l =>
    obtain ⟨c, sz, q1, rfl⟩ := conc_yld hf
    obtain ⟨nx, p1, p2⟩ := yld_snd hsnd hkeep he hs hfr hw q1 hv
    exact ⟨nx, by simpa [Deferred.ofValue, invoke] using p1, p2⟩
end
end Go.Air
namespace Go.Air
section
variable {P : Program} {tbl : Nat → Option FI} {R R1 R' : Emb} {h h1 h' : H} {w w1 w' : World} {t t' : List V} {a : Act} {v : V} {m : Nat}
theorem alloc_other {o : Obj} (hs : Sim P allB R h.get w) : Fwd R R h h w (w.alloc o) [] ∧ Sim P allB R h.get (w.alloc o) := by
  refine ⟨⟨R.le_refl, rfl, Nat.le_refl _, by simp, fun _ _ _ h => .inl h, fun _ _ _ => rfl, fun c hc _ => heap_push_lt hc, fun _ hb => by simp at hb, ⟨rfl, rfl, rfl⟩⟩, ⟨?_, hs.inj, ?_⟩⟩
  · intro b c sz x hF hb hx
    exact (hs.blk b c sz x hF hb hx).mono P R.le_refl (heap_push_lt (hs.lt b c sz hb))
  · intro b c sz hb
    have := hs.lt b c sz hb
    simp; omega
theorem new_loop {lp : Loop} {L : Go.Loop} (hs : Sim P allB R h.get w) (hf : R h.next = none) (h1 : L.state = stateOf lp.state) (h2 : L.pending = pendOf lp.pending) (h3 : concL R lp.tmps = some L.tmps.toList)
    (h4 : L.params.toList = lp.params) (h5 : okC P L.assign lp.asg = true) (h6 : okC P L.body lp.body = true) :
    Fwd R (R.add h.next (w.heap.size, 0)) h (h.new (.loop lp)) w (w.alloc (.loop L)) [] ∧ Sim P allB (R.add h.next (w.heap.size, 0)) (h.new (.loop lp)).get (w.alloc (.loop L)) :=
  new_step hs hf fun w' hw' => ⟨L, hw', h1, h2, concL_mono (Emb.le_add hf) _ _ h3, h4, h5, h6⟩
theorem pending_case {F : Fence} {n : Nat} {K : Act → World → Prop} {p : Option Out} {j : Option Code} (hj : j = pendOf p) (hK : K a w) :
    (match (generalizing := false) j with
    | none => Exit.normal = exitOf (p.getD .norm) ∧ K a w
    | some c => c.wpIn F n P (fun e a' w' => e = exitOf (p.getD .norm) ∧ K a' w') a w) := by
  subst hj
  cases p with
  | none => exact ⟨rfl, hK⟩
  | some o =>
    cases o with
    | norm => exact ⟨rfl, hK⟩
    | exit i => exact wpIn_exit ⟨rfl, hK⟩
    | ret => exact wpIn_ret ⟨rfl, hK⟩
theorem range_snd {r : C → List V → H → RC} (hsnd : Snd P r) (hskip : Skips r) (hkeep : ∀ c t h o t' h', r c t h = .ok o t' h' → Keep h h') (htbl : ∀ k fi, tbl k = some fi → FnOk P k fi)
    {g : Operand} {f : X} {ps : Array Tmp} {qs : List Nat} {asg body : Code} {aasg abody : C} {n : Nat} {ro : Option Nat} {o : Out}
    (he : stepC tbl r (.rangeF f qs aasg abody) t h = .ok o t' h') (hgf : okX g f = true) (hps : ps.toList = qs) (hasg : okC P asg aasg = true) (hbody : okC P body abody = true)
    (hs : Sim P allB R h.get w) (hfr : Fresh R h h') (hw : WF h) (ht : concL R t = some a.tmps.toList) (hm : Marks m R w a.defers) (hmw : m ≤ w.heap.size) (har : Around R h ro) :
    (Code.rangeFunc g ps asg body).wpIn (Wd ro) n P (fun e a' w' => e = exitOf o ∧ PostA P m R h w t' h' a' w') a w := by
  simp only [stepC] at he
  split at he <;> try simp at he
  rename_i gf first caps hfe
  split at he <;> try simp at he
  rename_i vr hr hcall
  split at he <;> try simp at he
  rename_i lp hlp
  split at he <;> simp at he
  rename_i hbusy
  obtain ⟨rfl, rfl, rfl⟩ := he
  have hg := envOk_of ht g f hgf
  rw [hfe] at hg
  obtain ⟨f1, c1, hf1, hc1, hge⟩ := conc_fn hg
  have hfn : R h.next = none := hfr h.next (Nat.le_refl _) (by
    have := (callV_keep hkeep _ _ _ _ _ hcall).nx
    simp at this ⊢; omega)
  have hnr : h.next < hr.next := by
    have := (callV_keep hkeep _ _ _ _ _ hcall).nx
    simp at this; omega
  -- the record is laid: the world, the mark
  have lay : ∀ fn, ∃ (l : Nat) (mark : List Deferred) (w₁ : World), (Instr.enterLoop fn a.tmps ps asg body ro).run P w = .ok (l, mark) w₁ ∧
      Fwd R (R.add h.next (l, 0)) h (h.new (.loop ⟨.ready, none, t, qs, aasg, abody⟩)) w w₁ [] ∧ Sim P allB (R.add h.next (l, 0)) (h.new (.loop ⟨.ready, none, t, qs, aasg, abody⟩)).get w₁ ∧
      Marks m (R.add h.next (l, 0)) w₁ (mark ++ a.defers) := by
    intro fn
    cases ro with
    | none =>
      obtain ⟨f2, s2⟩ := alloc_other (o := .deferred (some [])) hs
      obtain ⟨f3, s3⟩ := new_loop (lp := ⟨.ready, none, t, qs, aasg, abody⟩) (L := { state := .ready, pending := none, fn, tmps := a.tmps, params := ps, assign := asg, body, defers := w.heap.size }) s2 hfn rfl rfl ht hps hasg hbody
      rw [World.size_alloc] at f3 s3
      refine ⟨w.heap.size + 1, _, _, run_enterLoop_outer fn a.tmps ps asg body, f2.trans f3, s3, ⟨⟨w.heap.size, rfl, hmw, by simp; omega, ?_, ?_, ?_⟩, hm.fwd (f2.trans f3)⟩⟩
      · rw [heap_push_lt (by simp)]; exact heap_push_eq
      · intro b sz hb
        simp only [Emb.add] at hb
        split at hb
        · simp at hb
        · have := hs.lt b _ sz hb
          omega
      · intro e he hee
        have : ∀ {ds : List Deferred}, Marks m R w ds → e ∈ ds → e.target = .collected w.heap.size → False := by
          intro ds
          induction ds with
          | nil => intro _ h1; simp at h1
          | cons d ds ih =>
            rintro ⟨⟨D, q1, q2, q3, _⟩, hrest⟩ hin hee
            rcases List.mem_cons.1 hin with rfl | hin
            · rw [q1] at hee
              simp at hee
              omega
            · exact ih hrest hin hee
        exact this hm he hee
    | some l₀ =>
      obtain ⟨b, sz, lp0, b1, b2, b3⟩ := har
      obtain ⟨L0, g1, _⟩ := loop_at hs b1 b3
      obtain ⟨f3, s3⟩ := new_loop (lp := ⟨.ready, none, t, qs, aasg, abody⟩) (L := { state := .ready, pending := none, fn, tmps := a.tmps, params := ps, assign := asg, body, defers := L0.defers }) hs hfn rfl rfl ht hps hasg hbody
      exact ⟨w.heap.size, [], _, run_enterLoop_inner g1 fn a.tmps ps asg body, f3, s3, hm.fwd f3⟩
  refine wpIn_rangeFunc fun fn _ => ?_
  obtain ⟨l, mark, w₁, e1, f1', s1, m1⟩ := lay fn
  have hfr1 : Fresh (R.add h.next (l, 0)) (h.new (.loop ⟨.ready, none, t, qs, aasg, abody⟩)) hr := (hfr.left (h1 := hr) (by simp)).right f1'
  have hyl : concL (R.add h.next (l, 0)) [.yld h.next] = some [.func (.yield l) #[] #[]] := by simp [concL, conc, Emb.add_self]
  obtain ⟨p1, p2⟩ := fn_snd hsnd hskip htbl hcall s1 hfr1 ((Keep.new h _).wf hw) (concL_mono f1'.le _ _ hf1) (concL_mono f1'.le _ _ hc1) hyl
  refine ⟨l, mark, w₁, { target := .fn (.func gf) c1.toArray, args := f1.toArray ++ #[.func (.yield l) #[] #[]] }, w₁, gf, f1.toArray ++ #[.func (.yield l) #[] #[]] ++ c1.toArray, w₁, e1, ?_, fun _ _ => trivial, ?_, fun hd => by simp [Wd, Fence.wide] at hd, ?_⟩
  · have : a.eval g = .func (.func gf) f1.toArray c1.toArray := hge
    simp only [resolve, rangeCall]
    rw [this]
    simp [Deferred.ofValue, Act.eval]
  · simpa [invoke] using p1
  · refine (p2 ro (n - 1)).mono ?_
    intro e w₃ hq
    cases e with
    | panicked _ => exact hq.elim
    | outgrown => exact hq.elim
    | returned x =>
      obtain ⟨R3, l3, f3, s3, _⟩ := hq
      have hb3 : R3 h.next = some (l, 0) := f3.le _ _ Emb.add_self
      obtain ⟨L, q1, q2, q3, q4, q5, q6, q7⟩ := loop_at s3 hb3 hlp
      have hnb : L.state ≠ .busy := by
        rw [q2]
        intro e
        apply hbusy
        revert e
        cases lp.state <;> simp [stateOf]
      obtain ⟨f4, s4⟩ := put_loop { lp with state := .over } { L with state := .exhausted } s3 hb3 hlp q1 rfl q3 q4 q5 q6 q7
      have fall := f1'.trans (f3.trans f4)
      have hpost : PostA P m R h w t (hr.put h.next (.loop { lp with state := .over })) { a with defers := mark ++ a.defers } (w₃.putObj l (.loop { L with state := .exhausted })) :=
        ⟨R3, _, fall, s4, concL_mono fall.le _ _ ht, (m1.fwd f3).fwd f4⟩
      exact ⟨_, _, run_endLoop q1 hnb, pending_case (F := Wd ro) (n := n) (K := fun a' w' => PostA P m R h w t (hr.put h.next (.loop { lp with state := .over })) a' w') q3 hpost⟩
theorem Marks.drew : ∀ {ds : List Deferred}, Marks m R w ds → Marks m R w.drew ds
  | [], _ => trivial
  | _ :: _, ⟨⟨D, h1, h2, h3, h4, h5, h6⟩, hs⟩ => ⟨⟨D, h1, h2, h3, h4, h5, h6⟩, hs.drew⟩
theorem okC_scope {c : Code} {ac : C} : okC P (.scope c) ac = okC P c ac := by cases ac <;> rfl
theorem E_skips : ∀ k, Skips (E tbl k)
  | 0, _, _, _, _, _, he => by cases he
  | k + 1, t, h, o, t', h', he => by simp only [E, stepC, RC.ok.injEq] at he; exact ⟨he.2.1.symm, he.2.2.symm⟩
theorem step_snd {k : Nat} (ih : ∀ j, j ≤ k → Snd P (E tbl j)) (htbl : ∀ k fi, tbl k = some fi → FnOk P k fi) (hdraw : ∀ call, CallSnd P call → (∀ f args h v h', call f args h = .ok v h' → Keep h h') → DrawSnd P call) :
    Snd P (stepC tbl (E tbl k)) := by
  have ihk := ih k (Nat.le_refl _)
  have hkeep := E_keep (tbl := tbl) k
  have hcs := call_snd ihk (E_skips k) hkeep htbl
  have hck := callV_keep (tbl := tbl) hkeep
  intro c
  induction c with
  | scope c ihc =>
    intro ac t h o t' h' R w a m n ro he hok hs hfr hw ht hm hmw har
    rw [okC_scope] at hok
    refine wpIn_scope_straight (wpIn_mono (ihc ac t h o t' h' R w a m n ro he hok hs hfr hw ht hm hmw har) ?_)
    rintro e a' w' ⟨rfl, hp⟩
    cases o <;> exact ⟨rfl, hp⟩
  | skip =>
    intro ac t h o t' h' R w a m n ro he hok hs hfr hw ht hm hmw har
    cases ac <;> try exact (Bool.false_ne_true hok).elim
    simp only [stepC, RC.ok.injEq] at he
    obtain ⟨rfl, rfl, rfl⟩ := he
    exact wpIn_skip ⟨rfl, .here hs ht hm⟩
  | label l =>
    intro ac t h o t' h' R w a m n ro he hok hs hfr hw ht hm hmw har
    cases ac <;> try exact (Bool.false_ne_true hok).elim
    simp only [stepC, RC.ok.injEq] at he
    obtain ⟨rfl, rfl, rfl⟩ := he
    exact wpIn_label ⟨rfl, .here hs ht hm⟩
  | region id ops dr =>
    intro ac t h o t' h' R w a m n ro he hok hs hfr hw ht hm hmw har
    cases dr with
    | false =>
      cases ac <;> try exact (Bool.false_ne_true hok).elim
      rename_i l
      have hok : okOps P ops ops.toList l = true := hok
      simp only [stepC] at he
      split at he <;> simp at he
      rename_i t1 h1 hrun
      obtain ⟨rfl, rfl, rfl⟩ := he
      refine wpIn_region ?_
      rw [List.range_eq_range']
      exact ops_wp hcs hck ops.toList l 0 t h R w a (fun j _ => by simp) hok hrun hs hfr hw ht hm (fun a' w' hp => ⟨rfl, hp⟩)
    | true =>
      cases ac <;> try exact (Bool.false_ne_true hok).elim
      rename_i l crit
      have hok : (okOps P ops ops.toList l && okDraw ops l crit) = true := hok
      rw [Bool.and_eq_true] at hok
      simp only [stepC] at he
      split at he <;> try simp at he
      rename_i t1 h1 f hrun
      split at he <;> simp at he
      rename_i hcrit
      obtain ⟨rfl, rfl, rfl⟩ := he
      refine wpIn_region_draw fun order => ?_
      have hs' : Sim P allB R h.get { w with drawn := w.drawn + 1 } := hs.drew
      refine hdraw _ hcs hck ops l crit t h t1 h1 f R { w with drawn := w.drawn + 1 } a m n ro _ order hok.1 hok.2 hrun hcrit hs' hfr hw ht ?_ (fun a' w' hp => ⟨rfl, ?_⟩)
      · exact hm.drew
      · obtain ⟨R', l', q1, q2⟩ := hp
        exact ⟨R', l', ⟨q1.le, q1.log, q1.nx, q1.size, q1.new, q1.same, q1.frame, q1.own, q1.io⟩, q2⟩
  | seq x y _ _ =>
    intro ac t h o t' h' R w a m n ro he hok hs hfr hw ht hm hmw har
    cases ac <;> try exact (Bool.false_ne_true hok).elim
    rename_i ax ay
    have hok : (okC P x ax && okC P y ay) = true := hok
    rw [Bool.and_eq_true] at hok
    simp only [stepC] at he
    split at he
    · rename_i t1 h1 hrun
      have k1 := hkeep _ _ _ _ _ _ hrun
      have k2 := hkeep _ _ _ _ _ _ he
      refine wpIn_seq (wpIn_mono (ihk x ax t h _ t1 h1 R w a m n ro hrun hok.1 hs (hfr.left k2.nx) hw ht hm hmw har) ?_)
      rintro e a1 w1 ⟨rfl, R1, l1, f1, s1, ht1, hm1⟩
      refine wpIn_mono (ihk y ay t1 h1 o t' h' R1 w1 a1 m n ro he hok.2 s1 (hfr.right f1) (k1.wf hw) ht1 hm1 (Nat.le_trans hmw f1.size) (har.fwd f1 k1)) ?_
      rintro e a' w' ⟨rfl, hp⟩
      exact ⟨rfl, hp.step f1⟩
    · rename_i hne
      refine wpIn_seq (wpIn_mono (ihk x ax t h o t' h' R w a m n ro he hok.1 hs hfr hw ht hm hmw har) ?_)
      rintro e a1 w1 ⟨rfl, hp⟩
      cases o with
      | norm => exact absurd he (hne t' h')
      | exit i => exact ⟨rfl, hp⟩
      | ret => exact ⟨rfl, hp⟩
  | cond x y z _ _ =>
    intro ac t h o t' h' R w a m n ro he hok hs hfr hw ht hm hmw har
    cases ac <;> try exact (Bool.false_ne_true hok).elim
    rename_i ax ay az
    have hok : (okX x ax && okC P y ay && okC P z az) = true := hok
    rw [Bool.and_eq_true, Bool.and_eq_true] at hok
    obtain ⟨⟨hx, hy⟩, hz⟩ := hok
    have hxe := envOk_of ht x ax hx
    simp only [stepC] at he
    split at he <;> try simp at he
    · rename_i hb
      rw [hb] at hxe
      refine wpIn_cond_true ?_ (ihk y ay t h o t' h' R w a m n ro he hy hs hfr hw ht hm hmw har)
      simpa [conc, eq_comm] using hxe
    · rename_i hb
      rw [hb] at hxe
      refine wpIn_cond_false ?_ (ihk z az t h o t' h' R w a m n ro he hz hs hfr hw ht hm hmw har)
      simpa [conc, eq_comm] using hxe
  | block i x _ =>
    intro ac t h o t' h' R w a m n ro he hok hs hfr hw ht hm hmw har
    cases ac <;> try exact (Bool.false_ne_true hok).elim
    rename_i j ax
    have hok1 : (Nat.beq i j && okC P x ax) = true := hok
    rw [Bool.and_eq_true, Nat.beq_eq] at hok1
    clear hok
    obtain ⟨hij, hok⟩ := hok1
    subst hij
    simp only [stepC] at he
    split at he
    · rename_i e t1 h1 hrun
      by_cases hei : e = i
      · subst hei
        simp at he
        obtain ⟨rfl, rfl, rfl⟩ := he
        refine wpIn_block (wpIn_mono (ihk x ax t h _ t1 h1 R w a m n ro hrun hok hs hfr hw ht hm hmw har) ?_)
        rintro e' a1 w1 ⟨rfl, hp⟩
        simp only [exitOf, Exit.inBlock, if_true]
        exact ⟨trivial, hp⟩
      · rw [if_neg (by simpa using hei)] at he
        simp at he
        obtain ⟨rfl, rfl, rfl⟩ := he
        refine wpIn_block (wpIn_mono (ihk x ax t h _ t1 h1 R w a m n ro hrun hok hs hfr hw ht hm hmw har) ?_)
        rintro e' a1 w1 ⟨rfl, hp⟩
        simp only [exitOf, Exit.inBlock, hei, if_false]
        exact ⟨trivial, hp⟩
    · rename_i hne
      refine wpIn_block (wpIn_mono (ihk x ax t h o t' h' R w a m n ro he hok hs hfr hw ht hm hmw har) ?_)
      rintro e a1 w1 ⟨rfl, hp⟩
      cases o with
      | exit e => exact absurd he (hne e t' h')
      | norm => exact ⟨rfl, hp⟩
      | ret => exact ⟨rfl, hp⟩
  | loop x _ =>
    intro ac t h o t' h' R w a m n ro he hok hs hfr hw ht hm hmw har
    cases ac <;> try exact (Bool.false_ne_true hok).elim
    rename_i ax
    have hok : okC P x ax = true := hok
    have he' : E tbl (k + 1) (.loop ax) t h = .ok o t' h' := he
    refine wpIn_loop_rel (fun j a1 w1 => j ≤ k + 1 ∧ ∃ t1 h1 R1 l1, E tbl j (.loop ax) t1 h1 = .ok o t' h' ∧ Fwd R R1 h h1 w w1 l1 ∧ Keep h h1 ∧ Sim P allB R1 h1.get w1 ∧
      concL R1 t1 = some a1.tmps.toList ∧ Marks m R1 w1 a1.defers) ⟨k + 1, Nat.le_refl _, t, h, R, [], he', .refl R h w, .refl h, hs, ht, hm⟩ ?_
    rintro j a1 w1 ⟨hj, t1, h1, R1, l1, he1, f1, k1, s1, ht1, hm1⟩
    cases j with
    | zero => simp [E] at he1
    | succ j =>
      have ihj := ih j (by omega)
      have hkj := E_keep (tbl := tbl) j
      simp only [E, stepC] at he1
      split at he1
      · rename_i t2 h2 hrun
        have k2 := hkj _ _ _ _ _ _ hrun
        have k3 := hkj _ _ _ _ _ _ he1
        refine wpIn_mono (ihj x ax t1 h1 _ t2 h2 R1 w1 a1 m n ro hrun hok s1 ((hfr.right f1).left k3.nx) (k1.wf hw) ht1 hm1 (Nat.le_trans hmw f1.size) (har.fwd f1 k1)) ?_
        rintro e a2 w2 ⟨rfl, R2, l2, f2, s2, ht2, hm2⟩
        exact ⟨j, by omega, by omega, t2, h2, R2, _, he1, f1.trans f2, k1.trans k2, s2, ht2, hm2⟩
      · rename_i hne
        refine wpIn_mono (ihj x ax t1 h1 o t' h' R1 w1 a1 m n ro he1 hok s1 (hfr.right f1) (k1.wf hw) ht1 hm1 (Nat.le_trans hmw f1.size) (har.fwd f1 k1)) ?_
        rintro e a2 w2 ⟨rfl, hp⟩
        cases o with
        | norm => exact absurd he1 (hne t' h')
        | exit i => exact ⟨rfl, hp.step f1⟩
        | ret => exact ⟨rfl, hp.step f1⟩
  | exit i =>
    intro ac t h o t' h' R w a m n ro he hok hs hfr hw ht hm hmw har
    cases ac <;> try exact (Bool.false_ne_true hok).elim
    rename_i j
    have hok : Nat.beq i j = true := hok
    rw [Nat.beq_eq] at hok
    subst hok
    simp only [stepC, RC.ok.injEq] at he
    obtain ⟨rfl, rfl, rfl⟩ := he
    exact wpIn_exit ⟨rfl, .here hs ht hm⟩
  | ret =>
    intro ac t h o t' h' R w a m n ro he hok hs hfr hw ht hm hmw har
    cases ac <;> try exact (Bool.false_ne_true hok).elim
    simp only [stepC, RC.ok.injEq] at he
    obtain ⟨rfl, rfl, rfl⟩ := he
    exact wpIn_ret ⟨rfl, .here hs ht hm⟩
  | rangeFunc g ps x y _ _ =>
    intro ac t h o t' h' R w a m n ro he hok hs hfr hw ht hm hmw har
    cases ac <;> try exact (Bool.false_ne_true hok).elim
    rename_i f qs ax ay
    have hok : (okX g f && decide (ps.toList = qs) && okC P x ax && okC P y ay) = true := hok
    simp only [Bool.and_eq_true, decide_eq_true_eq] at hok
    obtain ⟨⟨⟨h1, h2⟩, h3⟩, h4⟩ := hok
    exact range_snd ihk (E_skips k) hkeep htbl he h1 h2 h3 h4 hs hfr hw ht hm hmw har
  | _ =>
    intro ac t h o t' h' R w a m n ro he hok
    cases ac <;> exact (Bool.false_ne_true hok).elim
theorem snd (htbl : ∀ k fi, tbl k = some fi → FnOk P k fi) (hdraw : ∀ call, CallSnd P call → (∀ f args h v h', call f args h = .ok v h' → Keep h h') → DrawSnd P call) : ∀ k j, j ≤ k → Snd P (E tbl j)
  | _, 0, _ => fun c ac t h o t' h' R w a m n ro he => by simp [E] at he
  | 0, j + 1, hj => by omega
  | k + 1, j + 1, hj => step_snd (fun i hi => snd htbl hdraw k i (by omega)) htbl hdraw
end
end Go.Air
