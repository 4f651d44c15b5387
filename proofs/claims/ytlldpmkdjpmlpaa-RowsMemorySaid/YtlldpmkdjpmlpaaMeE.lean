/-
  A part of the proof of: The row RowsMemory, from the law in Air.
-/
import Derived.Test.YtlldpmkdjpmlpaaMeD
set_option linter.unusedSectionVars false
set_option linter.unusedVariables false
set_option linter.unusedSimpArgs false
namespace Go.Air
section
variable {t t' : List V}
theorem ev_congr {x : X} (h : ∀ n ∈ xT x, nth t n = nth t' n) : x.ev t = x.ev t' := by
  cases x <;> simp only [X.ev]
  exact h _ (by simp [xT])
theorem evL_congr {xs : List X} (h : ∀ n ∈ xs.flatMap xT, nth t n = nth t' n) : xs.map (X.ev t) = xs.map (X.ev t') := by
  apply List.map_congr_left
  intro x hx
  exact ev_congr fun n hn => h n (List.mem_flatMap.2 ⟨x, hx, hn⟩)
theorem fill_congr : ∀ {ps : List (Nat × Nat × X)} {z : List V}, (∀ n ∈ ps.flatMap (fun p => xT p.2.2), nth t n = nth t' n) → fill t z ps = fill t' z ps
  | [], _, _ => rfl
  | (off, sz, x) :: ps, z, h => by
    have hx : x.ev t = x.ev t' := ev_congr fun n hn => h n (by simp [hn])
    have ih : ∀ z, fill t z ps = fill t' z ps := fun z => fill_congr fun n hn => h n (by simp only [List.flatMap_cons, List.mem_append]; exact .inr hn)
    simp only [fill, hx, ih]
theorem bounds_congr {len cap : Nat} {lo hi : Option X} (h1 : ∀ n ∈ xoT lo, nth t n = nth t' n) (h2 : ∀ n ∈ xoT hi, nth t n = nth t' n) : bounds t len cap lo hi = bounds t' len cap lo hi := by
  cases lo <;> cases hi <;> simp only [bounds]
  · rw [ev_congr h2]
  · rw [ev_congr h1]
  · rw [ev_congr h1, ev_congr h2]
theorem sliceV_congr {esz : Nat} {lo hi : Option X} {v : V} (h1 : ∀ n ∈ xoT lo, nth t n = nth t' n) (h2 : ∀ n ∈ xoT hi, nth t n = nth t' n) : sliceV esz t lo hi v = sliceV esz t' lo hi v := by
  cases v <;> simp only [sliceV, bounds_congr h1 h2]
theorem sliceV3_congr {esz : Nat} {lo hi : Option X} {m : X} {v : V} (h1 : ∀ n ∈ xoT lo, nth t n = nth t' n) (h2 : ∀ n ∈ xoT hi, nth t n = nth t' n) (h3 : ∀ n ∈ xT m, nth t n = nth t' n) :
    sliceV3 esz t lo hi m v = sliceV3 esz t' lo hi m v := by
  cases v <;> simp only [sliceV3, bounds_congr h1 h2, ev_congr h3]
theorem evA_congr {call : V → List V → H → RO} {op : A} {h : H} (hu : ∀ n ∈ uses op, nth t n = nth t' n) : evA call op t h = evA call op t' h := by
  cases op <;> simp only [uses, List.mem_append] at hu <;> simp only [evA]
  case mov x => rw [ev_congr hu]
  case pick a b c => rw [ev_congr (x := a) fun n hn => hu n (.inl (.inl hn)), ev_congr (x := b) fun n hn => hu n (.inl (.inr hn)), ev_congr (x := c) fun n hn => hu n (.inr hn)]
  case box x => rw [ev_congr hu]
  case build z ps => rw [fill_congr hu]
  case buildSl z n ps => rw [fill_congr hu]
  case ld x => rw [ev_congr hu]
  case ldn n x => rw [ev_congr hu]
  case st n a b => rw [ev_congr (x := a) fun n hn => hu n (.inl hn), ev_congr (x := b) fun n hn => hu n (.inr hn)]
  case nilck x => rw [ev_congr hu]
  case bin o a b => rw [ev_congr (x := a) fun n hn => hu n (.inl hn), ev_congr (x := b) fun n hn => hu n (.inr hn)]
  case eqv o k a b => rw [ev_congr (x := a) fun n hn => hu n (.inl hn), ev_congr (x := b) fun n hn => hu n (.inr hn)]
  case un o x => rw [ev_congr hu]
  case conv o x => rw [ev_congr hu]
  case mkI o x => rw [ev_congr hu]
  case mkFn f a c => rw [evL_congr (xs := a) fun n hn => hu n (.inl hn), evL_congr (xs := c) fun n hn => hu n (.inr hn)]
  case mkSl z n a b => rw [ev_congr (x := a) fun n hn => hu n (.inl hn), ev_congr (x := b) fun n hn => hu n (.inr hn)]
  case slc e x a b c =>
    have h1 : ∀ n ∈ xT x, nth t n = nth t' n := fun n hn => hu n (.inl (.inl (.inl hn)))
    have h2 : ∀ n ∈ xoT a, nth t n = nth t' n := fun n hn => hu n (.inl (.inl (.inr hn)))
    have h3 : ∀ n ∈ xoT b, nth t n = nth t' n := fun n hn => hu n (.inl (.inr hn))
    have h4 : ∀ n ∈ xoT c, nth t n = nth t' n := fun n hn => hu n (.inr hn)
    cases c with
    | none => simp only; rw [ev_congr h1, sliceV_congr h2 h3]
    | some m => simp only; rw [ev_congr h1, sliceV3_congr h2 h3 h4]
  case slcA n e x a b => rw [ev_congr (x := x) fun n hn => hu n (.inl (.inl hn)), bounds_congr (fun n hn => hu n (.inl (.inr hn))) fun n hn => hu n (.inr hn)]
  case slcS x a b =>
    rw [ev_congr (x := x) fun n hn => hu n (.inl (.inl hn))]
    split
    · rw [bounds_congr (fun n hn => hu n (.inl (.inr hn))) fun n hn => hu n (.inr hn)]
    · rfl
  case fld o x => rw [ev_congr hu]
  case fldv o s x => rw [ev_congr hu]
  case ixS e a b => rw [ev_congr (x := a) fun n hn => hu n (.inl hn), ev_congr (x := b) fun n hn => hu n (.inr hn)]
  case ixA m e a b => rw [ev_congr (x := a) fun n hn => hu n (.inl hn), ev_congr (x := b) fun n hn => hu n (.inr hn)]
  case ixStr a b => rw [ev_congr (x := a) fun n hn => hu n (.inl hn), ev_congr (x := b) fun n hn => hu n (.inr hn)]
  case ixV m e g a b => rw [ev_congr (x := a) fun n hn => hu n (.inl hn), ev_congr (x := b) fun n hn => hu n (.inr hn)]
  case look k z o a b => rw [ev_congr (x := a) fun n hn => hu n (.inl hn), ev_congr (x := b) fun n hn => hu n (.inr hn)]
  case mapSet k a b c => rw [ev_congr (x := a) fun n hn => hu n (.inl (.inl hn)), ev_congr (x := b) fun n hn => hu n (.inl (.inr hn)), ev_congr (x := c) fun n hn => hu n (.inr hn)]
  case ext x n => rw [ev_congr hu]
  case call f xs => rw [ev_congr (x := f) fun n hn => hu n (.inl hn), evL_congr (xs := xs) fun n hn => hu n (.inr hn)]
  case lenS x => rw [ev_congr hu]
  case lenL x => rw [ev_congr hu]
  case lenM x => rw [ev_congr hu]
  case app e b x y => rw [ev_congr (x := x) fun n hn => hu n (.inl hn), ev_congr (x := y) fun n hn => hu n (.inr hn)]
  case cpy e x y => rw [ev_congr (x := x) fun n hn => hu n (.inl hn), ev_congr (x := y) fun n hn => hu n (.inr hn)]
  case clr z x => rw [ev_congr hu]
  case min xs => rw [evL_congr hu]
  case max xs => rw [evL_congr hu]
theorem reads_congr {op : A} (hu : ∀ n ∈ uses op, nth t n = nth t' n) : reads op t = reads op t' := by
  cases op <;> simp only [uses, List.mem_append] at hu <;> simp only [reads]
  case ld x => rw [ev_congr hu]
  case ldn n x => rw [ev_congr hu]
  case st n a b => rw [ev_congr (x := a) fun n hn => hu n (.inl hn)]
  case look k z o a b => rw [ev_congr (x := a) fun n hn => hu n (.inl hn)]
  case mapSet k a b c => rw [ev_congr (x := a) fun n hn => hu n (.inl (.inl hn))]
  case lenM x => rw [ev_congr hu]
theorem wants_congr {g : Option (Nat × Bool)} (hu : ∀ n ∈ (match g with | some (n, _) => [n] | none => []), nth t n = nth t' n) : wants g t = wants g t' := by
  cases g with
  | none => rfl
  | some p => simp only [wants]; rw [hu p.1 (by simp)]
end
theorem cls_reads {op : A} {t : List V} (h : cls op ≠ .writes) : ∃ r, reads op t = some r ∧ (cls op = .idle → r = []) := by
  cases op <;> first | (exact absurd rfl h) | exact ⟨_, rfl, fun _ => rfl⟩ | exact ⟨_, rfl, fun e => by cases e⟩
theorem cls_log {call : V → List V → H → RO} {op : A} {t : List V} {h h' : H} {v : V} (hc : cls op ≠ .writes) (he : evA call op t h = .ok v h') : h'.log = h.log := by
  have pure' : ∀ (o : Option V), RO.ofV h o = .ok v h' → h'.log = h.log := fun o ho => by rw [(ofV_ok ho).2]
  have here : ∀ u, RO.ok u h = .ok v h' → h'.log = h.log := fun u hu => by simp at hu; rw [← hu.2]
  have fresh : ∀ u x, RO.ok u (h.new x) = .ok v h' → h'.log = h.log := fun u x hu => by simp at hu; rw [← hu.2]; rfl
  cases op <;> try exact absurd rfl hc
  all_goals simp only [evA] at he
  case mov => exact here _ he
  case pick => split at he <;> first | exact here _ he | simp at he
  case alloc => exact fresh _ _ he
  case box => exact fresh _ _ he
  case build => split at he <;> first | exact here _ he | simp at he
  case buildSl => split at he <;> first | exact fresh _ _ he | simp at he
  case ld => split at he <;> try simp at he
             split at he <;> try simp at he
             exact pure' _ he
  case ldn => split at he <;> try simp at he
              split at he <;> try simp at he
              split at he <;> first | exact here _ he | simp at he
  case nilck => split at he <;> first | exact here _ he | simp at he
  case bin => exact pure' _ he
  case eqv => split at he <;> first | exact here _ he | simp at he
  case un => exact pure' _ he
  case conv => split at he <;> first | exact here _ he | simp at he
  case mkI => exact here _ he
  case mkFn => exact here _ he
  case mkMap => exact fresh _ _ he
  case mkSl => split at he <;> try simp at he
               split at he <;> first | exact fresh _ _ he | simp at he
  case slc => split at he <;> exact pure' _ he
  case slcA => split at he <;> try simp at he
               split at he <;> first | exact here _ he | simp at he
  case slcS => split at he <;> try simp at he
               split at he <;> first | exact here _ he | simp at he
  case fld => split at he <;> first | exact here _ he | simp at he
  case fldv => split at he <;> try simp at he
               split at he <;> first | exact pure' _ he | (split at he <;> first | exact here _ he | simp at he)
  case ixS => split at he <;> try simp at he
              split at he <;> first | exact here _ he | simp at he
  case ixA => split at he <;> try simp at he
              split at he <;> first | exact here _ he | simp at he
  case ixStr => split at he <;> try simp at he
                split at he <;> first | exact here _ he | simp at he
  case ixV => split at he <;> try simp at he
              split at he <;> try simp at he
              split at he <;> first | exact pure' _ he | (split at he <;> first | exact here _ he | simp at he)
  case look => split at he <;> try simp at he
               split at he <;> first | exact here _ he | simp at he
  case ext => split at he <;> first | exact pure' _ he | simp at he
  case lenS => split at he <;> first | exact here _ he | simp at he
  case lenL => split at he <;> first | exact here _ he | simp at he
  case lenC => exact here _ he
  case lenM => split at he <;> try simp only [reduceCtorEq] at he
               · exact here _ he
               · split at he <;> first | exact here _ he | simp at he
  case min => exact pure' _ he
  case max => exact pure' _ he
  case no => simp at he
structure At (call : V → List V → H → RO) (o : O) (t : List V) (h : H) (t' : List V) (h' : H) (ft : Foot) : Prop where
  nx : h.next ≤ h'.next
  wf : WF h → WF h'
  log : h'.log = ft.wr ++ h.log
  same : ∀ b, b < h.next → b ∉ ft.wr → h'.get b = h.get b
  had : ∀ b ∈ ft.wr, b < h.next ∧ ∃ y, h.get b = some y
  sub : ∀ r, ft.rd = some r → ∀ b ∈ ft.wr, b ∈ r
  idle : cls o.op = .idle → ft = ⟨some [], []⟩
  rds : cls o.op ≠ .writes → ft.wr = [] ∧ ∃ r, ft.rd = some r
  run : (wants o.g t = true ∧ ∃ v hh, evA call o.op t ⟨h.next, h.mem, []⟩ = .ok v hh ∧ t' = putD t o.dst v ∧ h' = ⟨hh.next, hh.mem, ft.wr ++ h.log⟩ ∧ ft.rd = reads o.op t ∧ ft.wr = oldOnes h.next hh.log ∧ (WF h → WF hh)) ∨
    (wants o.g t = false ∧ t' = putD t o.dst .undef ∧ h' = h ∧ ft = ⟨some [], []⟩)
def Chain (call : V → List V → H → RO) : List O → List Foot → List V → H → List V → H → Prop
  | [], [], t, h, t', h' => t = t' ∧ h = h'
  | o :: l, ft :: fs, t, h, t', h' => ∃ t1 h1, At call o t h t1 h1 ft ∧ Chain call l fs t1 h1 t' h'
  | _, _, _, _, _, _ => False
theorem chain_of {call : V → List V → H → RO} (hk : ∀ f args h v h', call f args h = .ok v h' → Keep h h') : ∀ (l : List O) (t : List V) (h : H) (f : List Foot) (t' : List V) (h' : H) (f' : List Foot),
    runDraw call l t h f = .ok t' h' f' → ∃ fs, f' = f ++ fs ∧ Chain call l fs t h t' h'
  | [], t, h, f, t', h', f', he => by
    simp [runDraw] at he
    exact ⟨[], by simp [he.2.2], he.1, he.2.1⟩
  | o :: l, t, h, f, t', h', f', he => by
    simp only [runDraw] at he
    split at he
    · rename_i hwt
      split at he <;> try simp at he
      rename_i v hh hev
      obtain ⟨fs, q1, q2⟩ := chain_of hk l _ _ _ _ _ _ he
      obtain ⟨k, hsub⟩ := evA_does hk hev
      obtain ⟨w, w1, w2, w3⟩ := k.wr
      simp only [List.append_nil] at w1
      subst w1
      refine ⟨_ :: fs, by rw [q1, List.append_assoc]; rfl, _, ⟨hh.next, hh.mem, oldOnes h.next hh.log ++ h.log⟩, ⟨k.nx, ?_, rfl, ?_, ?_, ?_, ?_, ?_, .inl ⟨hwt, v, hh, hev, rfl, rfl, rfl, rfl, fun hw => k.wf ⟨hw.1, fun _ hb => by simp at hb⟩⟩⟩, q2⟩
      · intro hw
        refine ⟨(k.wf ⟨hw.1, fun _ hb => by simp at hb⟩).1, fun b hb => ?_⟩
        rcases List.mem_append.1 hb with hb | hb
        · exact Nat.lt_of_lt_of_le (oldOnes_lt hb).1 k.nx
        · exact Nat.lt_of_lt_of_le (hw.2 b hb) k.nx
      · exact fun b hb hl => w2 b hb (fun hm => hl (mem_oldOnes hb hm))
      · exact fun b hb => ⟨(oldOnes_lt hb).1, w3 b (oldOnes_lt hb).2 (oldOnes_lt hb).1⟩
      · intro r hr b hb
        obtain ⟨l', e1, e2⟩ := hsub r hr
        simp only [List.append_nil] at e1
        exact e2 b (e1 ▸ (oldOnes_lt hb).2)
      · intro hc
        obtain ⟨r, r1, r2⟩ := cls_reads (op := o.op) (t := t) (by rw [hc]; simp)
        have := cls_log (by rw [hc]; simp) hev
        simp only at this
        rw [this, r1, r2 hc]
        rfl
      · intro hc
        obtain ⟨r, r1, _⟩ := cls_reads (op := o.op) (t := t) hc
        have := cls_log hc hev
        simp only at this
        exact ⟨by rw [this]; rfl, r, r1⟩
    · rename_i hwt
      obtain ⟨fs, q1, q2⟩ := chain_of hk l _ _ _ _ _ _ he
      refine ⟨_ :: fs, by rw [q1, List.append_assoc]; rfl, _, _, ⟨Nat.le_refl _, id, rfl, fun _ _ _ => rfl, fun _ hb => by simp at hb, fun _ _ _ hb => by simp at hb, fun _ => rfl, fun _ => ⟨rfl, _, rfl⟩, .inr ⟨hwt, rfl, rfl, rfl⟩⟩, q2⟩
theorem Chain.states {call : V → List V → H → RO} : ∀ {l : List O} {fs : List Foot} {t t' : List V} {h h' : H}, Chain call l fs t h t' h' →
    fs.length = l.length ∧ ∃ (T : Nat → List V) (S : Nat → H), T 0 = t ∧ S 0 = h ∧ T l.length = t' ∧ S l.length = h' ∧
      ∀ i o ft, l[i]? = some o → fs[i]? = some ft → At call o (T i) (S i) (T (i + 1)) (S (i + 1)) ft
  | [], [], t, t', h, h', hc => ⟨rfl, fun _ => t, fun _ => h, rfl, rfl, hc.1, hc.2, fun i o ft hi => by simp at hi⟩
  | [], _ :: _, _, _, _, _, hc => hc.elim
  | _ :: _, [], _, _, _, _, hc => hc.elim
  | o :: l, ft :: fs, t, t', h, h', ⟨t1, h1, ha, hc⟩ => by
    obtain ⟨e, T, S, q1, q2, q3, q4, q5⟩ := hc.states
    refine ⟨by simp [e], fun i => match i with | 0 => t | i + 1 => T i, fun i => match i with | 0 => h | i + 1 => S i, rfl, rfl, q3, q4, ?_⟩
    intro i o' ft' hi hf
    cases i with
    | zero =>
      simp at hi hf
      subst hi hf
      simp only [q1, q2]
      exact ha
    | succ i => exact q5 i o' ft' (by simpa using hi) (by simpa using hf)
end Go.Air
namespace Go.Air
def Mem (f g : Foot) : Prop := ∀ b ∈ f.wr, (∀ r, g.rd = some r → b ∉ r) ∧ g.rd ≠ none ∧ b ∉ g.wr
structure Ind (a b : O) (f g : Foot) : Prop where
  d1 : ∀ d, a.dst = some d → d ∉ usesO b ∧ b.dst ≠ some d
  d2 : ∀ d, b.dst = some d → d ∉ usesO a
  m1 : Mem f g
  m2 : Mem g f
theorem putD_length {t : List V} {d : Option Nat} {v : V} : (putD t d v).length = t.length := by
  cases d <;> simp [putD, upd_eq]
theorem nth_putD {t : List V} {d : Option Nat} {v : V} {x : Nat} (h : d ≠ some x) : nth (putD t d v) x = nth t x := by
  cases d with
  | none => rfl
  | some d =>
    have : d ≠ x := fun e => h (by rw [e])
    simp only [putD, upd_eq, nth_eq, List.getD_eq_getElem?_getD, List.getElem?_set_ne this]
theorem nth_putD_same {t t' : List V} {v : V} {x : Nat} (h : t.length = t'.length) : nth (putD t (some x) v) x = nth (putD t' (some x) v) x := by
  simp only [putD, upd_eq, nth_eq, List.getD_eq_getElem?_getD, List.getElem?_set, h]
  by_cases hl : x < t'.length
  · simp [hl]
  · simp [hl]
section
open Classical
variable {P : Program} {call : V → List V → H → RO} (N : Nat) (o : Nat → O) (ft : Nat → Foot) (T : Nat → List V) (S : Nat → H)
def touch (i b : Nat) : Prop := b ∈ (ft i).wr ∨ ((S i).next ≤ b ∧ b < (S (i + 1)).next)
noncomputable def ver (D : Nat → Prop) (b : Nat) : Nat → Option Blk
  | 0 => (S 0).get b
  | n + 1 => if D n ∧ touch ft S n b then (S (n + 1)).get b else ver D b n
noncomputable def vt (D : Nat → Prop) (x : Nat) : Nat → V
  | 0 => nth (T 0) x
  | n + 1 => if D n ∧ (o n).dst = some x then nth (T (n + 1)) x else vt D x n
structure Run (call : V → List V → H → RO) (pr : Nat → Nat → Prop) : Prop where
  at' : ∀ i, i < N → At call (o i) (T i) (S i) (T (i + 1)) (S (i + 1)) (ft i)
  ind : ∀ i j, i < j → j < N → ¬ pr i j → Ind (o i) (o j) (ft i) (ft j)
  wf : WF (S 0)
variable {N o ft T S}
variable {pr : Nat → Nat → Prop} {D D' : Nat → Prop} {i j n m b x : Nat}
theorem Run.nx (hr : Run N o ft T S call pr) : ∀ (j i : Nat), i ≤ j → j ≤ N → (S i).next ≤ (S j).next
  | 0, i, h1, _ => by rw [Nat.le_zero.1 h1]; exact Nat.le_refl _
  | j + 1, i, h1, h2 => by
    rcases Nat.lt_or_ge j i with h | h
    · rw [show i = j + 1 by omega]; exact Nat.le_refl _
    · exact Nat.le_trans (hr.nx j i h (by omega)) (hr.at' j (by omega)).nx
theorem Run.wfs (hr : Run N o ft T S call pr) : ∀ (i : Nat), i ≤ N → WF (S i)
  | 0, _ => hr.wf
  | i + 1, h => (hr.at' i (by omega)).wf (hr.wfs i (by omega))
theorem Run.len (hr : Run N o ft T S call pr) : ∀ (i : Nat), i ≤ N → (T i).length = (T 0).length
  | 0, _ => rfl
  | i + 1, h => by
    have a := (hr.at' i (by omega)).run
    rw [← hr.len i (by omega)]
    rcases a with ⟨_, v, hh, _, e, _⟩ | ⟨_, e, _⟩ <;> rw [e, putD_length]
theorem Run.same (hr : Run N o ft T S call pr) (hi : i < N) (ht : ¬ touch ft S i b) : (S (i + 1)).get b = (S i).get b := by
  have a := hr.at' i hi
  rw [touch, not_or] at ht
  by_cases hb : b < (S i).next
  · exact a.same b hb ht.1
  · rw [(hr.wfs i (by omega)).1 b (by omega), (hr.wfs (i + 1) (by omega)).1 b (Nat.le_of_not_lt fun h => ht.2 ⟨by omega, h⟩)]
theorem Run.sameT (hr : Run N o ft T S call pr) (hi : i < N) (ht : (o i).dst ≠ some x) : nth (T (i + 1)) x = nth (T i) x := by
  rcases (hr.at' i hi).run with ⟨_, v, hh, _, e, _⟩ | ⟨_, e, _⟩ <;> rw [e, nth_putD ht]
theorem ver_text (hr : Run N o ft T S call pr) : ∀ (n : Nat), n ≤ N → (∀ j, j < n → touch ft S j b → D j) → ver ft S D b n = (S n).get b
  | 0, _, _ => rfl
  | n + 1, hn, h => by
    rw [ver]
    split
    · rfl
    · rename_i hno
      have ht : ¬ touch ft S n b := fun ht => hno ⟨h n (by omega) ht, ht⟩
      rw [ver_text hr n (by omega) (fun j hj => h j (by omega)), hr.same (by omega) ht]
theorem vt_text (hr : Run N o ft T S call pr) : ∀ (n : Nat), n ≤ N → (∀ j, j < n → (o j).dst = some x → D j) → vt o T D x n = nth (T n) x
  | 0, _, _ => rfl
  | n + 1, hn, h => by
    rw [vt]
    split
    · rfl
    · rename_i hno
      have ht : (o n).dst ≠ some x := fun ht => hno ⟨h n (by omega) ht, ht⟩
      rw [vt_text hr n (by omega) (fun j hj => h j (by omega)), hr.sameT (by omega) ht]
theorem ver_stop (n : Nat) : ∀ (m : Nat), n ≤ m → (∀ j, n ≤ j → j < m → ¬ (D j ∧ touch ft S j b)) → ver ft S D b m = ver ft S D b n
  | 0, h, _ => by rw [Nat.le_zero.1 h]
  | m + 1, h, hno => by
    rcases Nat.lt_or_ge m n with hl | hl
    · rw [show n = m + 1 by omega]
    · rw [ver, if_neg (hno m hl (by omega))]
      exact ver_stop n m hl fun j h1 h2 => hno j h1 (by omega)
theorem vt_stop (n : Nat) : ∀ (m : Nat), n ≤ m → (∀ j, n ≤ j → j < m → ¬ (D j ∧ (o j).dst = some x)) → vt o T D x m = vt o T D x n
  | 0, h, _ => by rw [Nat.le_zero.1 h]
  | m + 1, h, hno => by
    rcases Nat.lt_or_ge m n with hl | hl
    · rw [show n = m + 1 by omega]
    · rw [vt, if_neg (hno m hl (by omega))]
      exact vt_stop n m hl fun j h1 h2 => hno j h1 (by omega)
theorem ver_hit (hi : D i) (ht : touch ft S i b) (him : i < m) (hno : ∀ j, i < j → j < m → ¬ (D j ∧ touch ft S j b)) : ver ft S D b m = (S (i + 1)).get b := by
  rw [ver_stop (i + 1) m him (fun j h1 h2 => hno j h1 h2), ver, if_pos ⟨hi, ht⟩]
theorem vt_hit (hi : D i) (ht : (o i).dst = some x) (him : i < m) (hno : ∀ j, i < j → j < m → ¬ (D j ∧ (o j).dst = some x)) : vt o T D x m = nth (T (i + 1)) x := by
  rw [vt_stop (i + 1) m him (fun j h1 h2 => hno j h1 h2), vt, if_pos ⟨hi, ht⟩]
theorem ver_same : ∀ (m : Nat), (∀ j, j < m → touch ft S j b → (D j ↔ D' j)) → ver ft S D b m = ver ft S D' b m
  | 0, _ => rfl
  | m + 1, h => by
    rw [ver, ver, ver_same m fun j hj => h j (by omega)]
    by_cases ht : touch ft S m b
    · simp only [h m (by omega) ht]
    · simp [ht]
theorem vt_same : ∀ (m : Nat), (∀ j, j < m → (o j).dst = some x → (D j ↔ D' j)) → vt o T D x m = vt o T D' x m
  | 0, _ => rfl
  | m + 1, h => by
    rw [vt, vt, vt_same m fun j hj => h j (by omega)]
    by_cases ht : (o m).dst = some x
    · simp only [h m (by omega) ht]
    · simp [ht]
def born (S : Nat → H) (i b : Nat) : Prop := (S i).next ≤ b ∧ b < (S (i + 1)).next
theorem born_one (hr : Run N o ft T S call pr) (hi : i < N) (hj : j < N) (h1 : born S i b) (h2 : born S j b) : i = j := by
  rcases Nat.lt_trichotomy i j with h | h | h
  · have := hr.nx j (i + 1) h (by omega)
    have := h1.2; have := h2.1; omega
  · exact h
  · have := hr.nx i (j + 1) h (by omega)
    have := h1.1; have := h2.2; omega
structure Inv (P : Program) (N : Nat) (o : Nat → O) (ft : Nat → Foot) (T : Nat → List V) (S : Nat → H) (mk : Nat) (R0 : Emb) (w0 : World) (D : Nat → Prop) (R : Emb) (w : World) (a : Act) : Prop where
  sub : ∀ j, D j → j < N
  tm : ∃ th, concL R th = some a.tmps.toList ∧ th.length = (T 0).length ∧ ∀ x, nth th x = vt o T D x N
  sim : Sim P allB R (fun b => ver ft S D b N) w
  brn : ∀ b x, R b = some x → b < (S 0).next ∨ (S N).next ≤ b ∨ ∃ j, D j ∧ born S j b
  own : ∀ j, D j → ∀ b ∈ (ft j).wr, ∃ x, R b = some x
  le : R0.le R
  size : w0.heap.size ≤ w.heap.size
  new : ∀ b c sz, R b = some (c, sz) → R0 b = some (c, sz) ∨ ((S 0).next ≤ b ∧ b < (S N).next ∧ (w0.heap.size ≤ c ∨ ∃ b0 sz0, R0 b0 = some (c, sz0) ∧ ∃ j, j < N ∧ b0 ∈ (ft j).wr))
  frame : ∀ c, c < w0.heap.size → (∀ b sz, R0 b = some (c, sz) → ¬ ∃ j, j < N ∧ b ∈ (ft j).wr) → w.heap[c]? = w0.heap[c]?
  marks : Marks mk R w a.defers
  io : SameIO w0 w
variable {mk : Nat} {R0 R R' : Emb} {w0 w w' : World} {a : Act}
structure Nxt (N : Nat) (pr : Nat → Nat → Prop) (D : Nat → Prop) (i : Nat) : Prop where
  lt : i < N
  not : ¬ D i
  pre : ∀ p, pr p i → D p
  cl : ∀ j p, D j → pr p j → D p
  sub : ∀ j, D j → j < N
theorem Nxt.before (hn : Nxt N pr D i) (hr : Run N o ft T S call pr) (hj : j < i) (hD : ¬ D j) : Ind (o j) (o i) (ft j) (ft i) := hr.ind j i hj hn.lt fun hp => hD (hn.pre j hp)
theorem Nxt.after (hn : Nxt N pr D i) (hr : Run N o ft T S call pr) (hj : i < j) (hjN : j < N) (hD : D j) : Ind (o i) (o j) (ft i) (ft j) := hr.ind i j hj hjN fun hp => hn.not (hn.cl j i hD hp)
theorem Nxt.tmp (hn : Nxt N pr D i) (hr : Run N o ft T S call pr) (hx : x ∈ usesO (o i)) : vt o T D x N = nth (T i) x := by
  have hi := hn.lt
  rw [vt_stop i N (by omega), vt_text hr i (by omega)]
  · intro j hj hd
    exact Classical.byContradiction fun hD => ((hn.before hr hj hD).d1 x hd).1 hx
  · rintro j h1 h2 ⟨hD, hd⟩
    rcases Nat.eq_or_lt_of_le h1 with rfl | h1
    · exact hn.not hD
    · exact (hn.after hr h1 h2 hD).d2 x hd hx
theorem Nxt.blk (hn : Nxt N pr D i) (hr : Run N o ft T S call pr) (hborn : ∀ y, R b = some y → b < (S 0).next ∨ (S N).next ≤ b ∨ ∃ j, D j ∧ born S j b) {y : Nat × Nat} (hR : R b = some y)
    (hF : ∀ r, (ft i).rd = some r → b ∈ r) (hb : b < (S i).next) : ver ft S D b N = (S i).get b := by
  have hi := hn.lt
  rw [ver_stop i N (by omega), ver_text hr i (by omega)]
  · rintro j hj (ht | ht)
    · refine Classical.byContradiction fun hD => ?_
      obtain ⟨q1, q2, _⟩ := (hn.before hr hj hD).m1 b ht
      cases hrd : (ft i).rd with
      | none => exact q2 hrd
      | some r => exact q1 r hrd (hF r hrd)
    · rcases hborn y hR with h | h | ⟨j', hD, hj'⟩
      · have := hr.nx j 0 (by omega) (by omega)
        have := ht.1; omega
      · have := hr.nx N (j + 1) (by omega) (by omega)
        have := ht.2; omega
      · rw [born_one hr (by omega) (hn.sub j' hD) ht hj']; exact hD
  · rintro j h1 h2 ⟨hD, ht⟩
    rcases Nat.eq_or_lt_of_le h1 with rfl | h1
    · exact hn.not hD
    · rcases ht with ht | ht
      · obtain ⟨q1, q2, _⟩ := (hn.after hr h1 h2 hD).m2 b ht
        cases hrd : (ft i).rd with
        | none => exact q2 hrd
        | some r => exact q1 r hrd (hF r hrd)
      · have := hr.nx j i (by omega) (by omega)
        have := ht.1; omega
end
end Go.Air
namespace Go.Air
section
open Classical
variable {P : Program} {call : V → List V → H → RO} {N : Nat} {o : Nat → O} {ft : Nat → Foot} {T : Nat → List V} {S : Nat → H}
variable {pr : Nat → Nat → Prop} {D : Nat → Prop} {i j n m b x : Nat} {mk : Nat} {R0 R R' : Emb} {w0 w w' : World} {a : Act}
def more (D : Nat → Prop) (i : Nat) : Nat → Prop := fun j => D j ∨ j = i
theorem more_off (h : j ≠ i) : more D i j ↔ D j := ⟨fun q => q.resolve_right h, .inl⟩
theorem step_tm (hr : Run N o ft T S call pr) (hn : Nxt N pr D i) {th : List V} {v : V} (hlen : th.length = (T 0).length) (hth : ∀ x, nth th x = vt o T D x N) (hT : T (i + 1) = putD (T i) (o i).dst v) :
    (putD th (o i).dst v).length = (T 0).length ∧ ∀ x, nth (putD th (o i).dst v) x = vt o T (more D i) x N := by
  refine ⟨by rw [putD_length]; exact hlen, fun x => ?_⟩
  have hi := hn.lt
  by_cases hx : (o i).dst = some x
  · rw [vt_hit (i := i) (D := more D i) (.inr rfl) hx hi, hT, hx]
    · exact nth_putD_same (by rw [hlen, hr.len i (by omega)])
    · rintro j h1 h2 ⟨hD, hd⟩
      have hD' : D j := hD.resolve_right (by omega)
      exact ((hn.after hr h1 h2 hD').d1 x hx).2 hd
  · rw [nth_putD hx, hth, vt_same]
    intro j hj hd
    exact (more_off (by rintro rfl; exact hx hd)).symm
theorem Inv.skip (hr : Run N o ft T S call pr) (hn : Nxt N pr D i) (I : Inv P N o ft T S mk R0 w0 D R w a) {dst : Option Tmp} (hd : okDst dst (o i).dst = true) (hwt : wants (o i).g (T i) = false) :
    Inv P N o ft T S mk R0 w0 (more D i) R w (a.put dst undef) := by
  have hi := hn.lt
  obtain ⟨hT, hS, hf⟩ : T (i + 1) = putD (T i) (o i).dst .undef ∧ S (i + 1) = S i ∧ ft i = ⟨some [], []⟩ := by
    rcases (hr.at' i hi).run with ⟨h1, _⟩ | ⟨_, h⟩
    · rw [hwt] at h1; cases h1
    · exact h
  have hno : ∀ b, ¬ touch ft S i b := by
    rintro b (h | h)
    · rw [hf] at h; simp at h
    · rw [hS] at h; omega
  have hver : (fun b => ver ft S (more D i) b N) = fun b => ver ft S D b N := by
    funext b
    refine ver_same N fun j _ ht => more_off ?_
    rintro rfl
    exact hno b ht
  obtain ⟨th, h1, h2, h3⟩ := I.tm
  refine ⟨?_, ⟨_, put_tmps hd h1 (conc_undef R), step_tm hr hn h2 h3 hT⟩, by rw [hver]; exact I.sim, ?_, ?_, I.le, I.size, I.new, I.frame, by rw [put_defers]; exact I.marks, I.io⟩
  · rintro j (h | rfl)
    · exact I.sub j h
    · exact hi
  · intro b y hb
    rcases I.brn b y hb with h | h | ⟨j, h, h'⟩
    · exact .inl h
    · exact .inr (.inl h)
    · exact .inr (.inr ⟨j, .inl h, h'⟩)
  · rintro j (h | rfl) b hb
    · exact I.own j h b hb
    · rw [hf] at hb; simp at hb
def footF (ft : Nat → Foot) (S : Nat → H) (i : Nat) : Nat → Prop := fun b => ∀ r, (ft i).rd = some r → b ∈ r ∨ (S i).next ≤ b
theorem Inv.sim_at (hr : Run N o ft T S call pr) (hn : Nxt N pr D i) (I : Inv P N o ft T S mk R0 w0 D R w a) : Sim P (footF ft S i) R (S i).get w := by
  have key : ∀ b c sz y, footF ft S i b → R b = some (c, sz) → (S i).get b = some y → ver ft S D b N = some y := by
    intro b c sz y hF hR hy
    have hlt := (hr.wfs i (by have := hn.lt; omega)).lt hy
    rw [hn.blk hr (I.brn b) hR (fun r hrd => (hF r hrd).resolve_right (by omega)) hlt]
    exact hy
  exact ⟨fun b c sz y hF hR hy => I.sim.blk b c sz y trivial hR (key b c sz y hF hR hy),
    fun b b' c sz sz' y y' hF hF' hR hR' hy hy' => I.sim.inj b b' c sz sz' y y' trivial trivial hR hR' (key b c sz y hF hR hy) (key b' c sz' y' hF' hR' hy'), I.sim.lt⟩
theorem Inv.fresh (hr : Run N o ft T S call pr) (hn : Nxt N pr D i) (I : Inv P N o ft T S mk R0 w0 D R w a) (hb : born S i b) : R b = none := by
  have hi := hn.lt
  cases hR : R b with
  | none => rfl
  | some y =>
    exfalso
    rcases I.brn b y hR with h | h | ⟨j, h, h'⟩
    · have := hr.nx i 0 (by omega) (by omega)
      have := hb.1; omega
    · have := hr.nx N (i + 1) (by omega) (by omega)
      have := hb.2; omega
    · rw [← born_one hr hi (I.sub j h) hb h'] at h
      exact hn.not h
theorem Inv.done (hr : Run N o ft T S call pr) (hn : Nxt N pr D i) (I : Inv P N o ft T S mk R0 w0 D R w a) {dst : Option Tmp} {v : V} {hh : H} {u : Value} {th : List V} (hd : okDst dst (o i).dst = true)
    (hth1 : concL R th = some a.tmps.toList) (hth2 : th.length = (T 0).length) (hth3 : ∀ x, nth th x = vt o T D x N)
    (hT : T (i + 1) = putD (T i) (o i).dst v) (hS : S (i + 1) = ⟨hh.next, hh.mem, (ft i).wr ++ (S i).log⟩) (hwr : (ft i).wr = oldOnes (S i).next hh.log) (hwfh : WF hh)
    (hp : PostV P (footF ft S i) R ⟨(S i).next, (S i).mem, []⟩ w v hh u w') : ∃ R', Inv P N o ft T S mk R0 w0 (more D i) R' w' (a.put dst u) := by
  have hi := hn.lt
  obtain ⟨R', l, f, s, hu⟩ := hp
  have hll : l = hh.log := by have := f.log; simpa using this.symm
  subst hll
  have hnext : (S (i + 1)).next = hh.next := by rw [hS]
  have hget : ∀ b, (S (i + 1)).get b = hh.get b := by intro b; rw [hS]; rfl
  have hnewR : ∀ b c sz, R' b = some (c, sz) → R b = some (c, sz) ∨ (born S i b ∧ (w.heap.size ≤ c ∨ ∃ b0 sz0, R b0 = some (c, sz0) ∧ b0 ∈ hh.log)) := by
    intro b c sz hb
    rcases f.new b c sz hb with h | ⟨h1, h2, h3⟩
    · exact .inl h
    · exact .inr ⟨⟨h1, by rw [hnext]; exact h2⟩, h3⟩
  -- a block written that is embedded is one of before, and lives
  have hwrit : ∀ b y, R b = some y → b ∈ hh.log → b ∈ (ft i).wr ∧ ∃ z, ver ft S D b N = some z := by
    intro b y hR hb
    have hlt := hwfh.2 b hb
    have hltS : b < (S i).next := by
      rcases Nat.lt_or_ge b (S i).next with h | h
      · exact h
      · have := I.fresh hr hn (b := b) ⟨h, by rw [hnext]; exact hlt⟩
        rw [this] at hR; cases hR
    have hin : b ∈ (ft i).wr := by rw [hwr]; exact mem_oldOnes hltS hb
    obtain ⟨_, z, hz⟩ := (hr.at' i hi).had b hin
    refine ⟨hin, z, ?_⟩
    rw [hn.blk hr (I.brn b) hR (fun r hrd => (hr.at' i hi).sub r hrd b hin) hltS]
    exact hz
  have hwrR : ∀ b ∈ (ft i).wr, ∃ y, R b = some y := by
    intro b hb
    rw [hwr] at hb
    have hlt := (oldOnes_lt hb).1
    rcases f.own b (oldOnes_lt hb).2 with h | h
    · exact absurd h.1 (by simp; exact hlt)
    · exact h.1
  -- the version after the step
  have hvtouch : ∀ b, touch ft S i b → ver ft S (more D i) b N = hh.get b := by
    intro b ht
    rw [ver_hit (i := i) (D := more D i) (.inr rfl) ht hi, hget]
    rintro j h1 h2 ⟨hD, htj⟩
    have hD' : D j := hD.resolve_right (by omega)
    have hni := hr.nx j (i + 1) (by omega) (by omega)
    rcases htj with htj | htj
    · rcases ht with ht | ht
      · exact ((hn.after hr h1 h2 hD').m1 b ht).2.2 htj
      · obtain ⟨y, hy⟩ := I.own j hD' b htj
        rw [I.fresh hr hn ht] at hy; cases hy
    · rcases ht with ht | ht
      · rw [hwr] at ht
        have := (oldOnes_lt ht).1
        have := htj.1
        have := (hr.at' i hi).nx
        omega
      · have := ht.2; have := htj.1; omega
  have hvoff : ∀ b, ¬ touch ft S i b → ver ft S (more D i) b N = ver ft S D b N := by
    intro b ht
    refine ver_same N fun j _ htj => more_off ?_
    rintro rfl
    exact ht htj
  have hFt : ∀ b, touch ft S i b → footF ft S i b := by
    rintro b (h | h) r hrd
    · exact .inl ((hr.at' i hi).sub r hrd b h)
    · exact .inr h.1
  have hold : ∀ b c sz, ¬ touch ft S i b → R' b = some (c, sz) → R b = some (c, sz) := by
    intro b c sz ht hb
    rcases hnewR b c sz hb with h | ⟨h, _⟩
    · exact h
    · exact absurd (.inr h) ht
  -- two at one place, one touched and one not
  have hmix : ∀ b1 b2 c s1 s2 z1 z2, touch ft S i b1 → ¬ touch ft S i b2 → R' b1 = some (c, s1) → R' b2 = some (c, s2) → ver ft S (more D i) b1 N = some z1 → ver ft S (more D i) b2 N = some z2 → False := by
    intro b1 b2 c s1 s2 z1 z2 h1 h2 r1 r2 v1 v2
    have r2' := hold b2 c s2 h2 r2
    rw [hvoff b2 h2] at v2
    rcases hnewR b1 c s1 r1 with h | ⟨hb, h | ⟨b0, s0, h, h'⟩⟩
    · rcases h1 with h1 | h1
      · obtain ⟨y, hy⟩ := hwrit b1 _ h (by rw [hwr] at h1; exact (oldOnes_lt h1).2)
        obtain ⟨z, hz⟩ := hy
        have := I.sim.inj b1 b2 c s1 s2 z z2 trivial trivial h r2' hz v2
        subst this
        exact h2 (.inl y)
      · rw [I.fresh hr hn h1] at h; cases h
    · have := I.sim.lt b2 c s2 r2'
      omega
    · obtain ⟨y, z, hz⟩ := hwrit b0 _ h h'
      have := I.sim.inj b0 b2 c s0 s2 z z2 trivial trivial h r2' hz v2
      subst this
      exact h2 (.inl y)
  have hLL : ∀ b, b ∈ (ft i).wr → ∃ j, j < N ∧ b ∈ (ft j).wr := fun b hb => ⟨i, hi, hb⟩
  refine ⟨R', ⟨?_, ⟨_, put_tmps hd (concL_mono f.le _ _ hth1) hu, step_tm hr hn hth2 hth3 hT⟩, ⟨?_, ?_, s.lt⟩, ?_, ?_, Emb.le_trans I.le f.le, Nat.le_trans I.size f.size, ?_, ?_, by rw [put_defers]; exact I.marks.fwd f, I.io.trans f.io⟩⟩
  · rintro j (h | rfl)
    · exact I.sub j h
    · exact hi
  · intro b c sz y _ hb hy
    by_cases ht : touch ft S i b
    · rw [hvtouch b ht] at hy
      exact s.blk b c sz y (hFt b ht) hb hy
    · have hb' := hold b c sz ht hb
      have hy' := hy
      rw [hvoff b ht] at hy'
      refine (I.sim.blk b c sz y trivial hb' hy').mono P f.le (f.frame c (I.sim.lt b c sz hb') ?_)
      intro b' sz' hb1 hb2
      obtain ⟨h1, z, h2⟩ := hwrit b' _ hb1 hb2
      have := I.sim.inj b b' c sz sz' y z trivial trivial hb' hb1 hy' h2
      subst this
      exact ht (.inl h1)
  · intro b1 b2 c s1 s2 z1 z2 _ _ r1 r2 v1 v2
    by_cases h1 : touch ft S i b1
    · by_cases h2 : touch ft S i b2
      · simp only [hvtouch b1 h1] at v1
        simp only [hvtouch b2 h2] at v2
        exact s.inj b1 b2 c s1 s2 z1 z2 (hFt b1 h1) (hFt b2 h2) r1 r2 v1 v2
      · exact (hmix b1 b2 c s1 s2 z1 z2 h1 h2 r1 r2 v1 v2).elim
    · by_cases h2 : touch ft S i b2
      · exact (hmix b2 b1 c s2 s1 z2 z1 h2 h1 r2 r1 v2 v1).elim
      · simp only [hvoff b1 h1] at v1
        simp only [hvoff b2 h2] at v2
        exact I.sim.inj b1 b2 c s1 s2 z1 z2 trivial trivial (hold b1 c s1 h1 r1) (hold b2 c s2 h2 r2) v1 v2
  · intro b y hb
    obtain ⟨c, sz⟩ := y
    rcases hnewR b c sz hb with h | ⟨h, _⟩
    · rcases I.brn b _ h with h | h | ⟨j, h, h'⟩
      · exact .inl h
      · exact .inr (.inl h)
      · exact .inr (.inr ⟨j, .inl h, h'⟩)
    · exact .inr (.inr ⟨i, .inr rfl, h⟩)
  · rintro j (h | rfl) b hb
    · obtain ⟨y, hy⟩ := I.own j h b hb
      exact ⟨y, f.le _ _ hy⟩
    · obtain ⟨y, hy⟩ := hwrR b hb
      exact ⟨y, f.le _ _ hy⟩
  · intro b c sz hb
    rcases hnewR b c sz hb with h | ⟨h, h'⟩
    · exact I.new b c sz h
    · refine .inr ⟨Nat.le_trans (hr.nx i 0 (by omega) (by omega)) h.1, Nat.lt_of_lt_of_le h.2 (hr.nx N (i + 1) (by omega) (by omega)), ?_⟩
      rcases h' with h' | ⟨b0, s0, h1, h2⟩
      · exact .inl (Nat.le_trans I.size h')
      · rcases I.new b0 c s0 h1 with h3 | ⟨_, _, h3⟩
        · exact .inr ⟨b0, s0, h3, hLL b0 (hwrit b0 _ h1 h2).1⟩
        · exact h3
  · intro c hc hno
    rw [f.frame c (Nat.lt_of_lt_of_le hc I.size) ?_, I.frame c hc hno]
    intro b sz hb hbl
    rcases I.new b c sz hb with h | ⟨_, _, h | ⟨b0, s0, h1, h2⟩⟩
    · exact hno b sz h (hLL b (hwrit b _ hb hbl).1)
    · omega
    · exact hno b0 s0 h1 h2
end
end Go.Air
namespace Go.Air
inductive Prec (ops : Array Oper) : Nat → Nat → Prop
  | one {j : Nat} {o : Oper} {e : Edge} : ops[j]? = some o → e ∈ o.after.toList → Region.binds .any e = true → Prec ops e.on j
  | more {i j : Nat} {o : Oper} {e : Edge} : ops[j]? = some o → e ∈ o.after.toList → Region.binds .any e = true → Prec ops i e.on → Prec ops i j
theorem bits_inner (acc : List Nat) (i : Nat) : ∀ (l : List Edge) (s : Nat), (l.foldl (fun s e => if Region.binds .any e then s ||| 2 ^ e.on ||| acc.getD e.on 0 else s) s).testBit i = true →
    s.testBit i = true ∨ ∃ e ∈ l, Region.binds .any e = true ∧ (i = e.on ∨ (acc.getD e.on 0).testBit i = true)
  | [], s, h => .inl h
  | e :: l, s, h => by
    simp only [List.foldl_cons] at h
    rcases bits_inner acc i l _ h with h | ⟨e', h1, h2⟩
    · split at h
      · rename_i hb
        simp only [Nat.testBit_or, Bool.or_eq_true, Nat.testBit_two_pow, decide_eq_true_eq] at h
        rcases h with (h | h) | h
        · exact .inl h
        · exact .inr ⟨e, by simp, hb, .inl h.symm⟩
        · exact .inr ⟨e, by simp, hb, .inr h⟩
      · exact .inl h
    · exact .inr ⟨e', by simp [h1], h2⟩
theorem bits_outer {ops : Array Oper} : ∀ (L pre : List Oper) (acc : List Nat), ops.toList = pre ++ L → acc.length = pre.length → (∀ j i, (acc.getD j 0).testBit i = true → Prec ops i j) →
    ∀ j i, ((L.foldl (fun acc o => acc ++ [o.after.toList.foldl (fun s e => if Region.binds .any e then s ||| 2 ^ e.on ||| acc.getD e.on 0 else s) 0]) acc).getD j 0).testBit i = true → Prec ops i j
  | [], _, _, _, _, h => h
  | o :: L, pre, acc, he, hl, h => by
    simp only [List.foldl_cons]
    refine bits_outer L (pre ++ [o]) _ (by simp [he]) (by simp [hl]) ?_
    intro j i hb
    rcases Nat.lt_trichotomy j acc.length with hj | hj | hj
    · refine h j i ?_
      rw [List.getD_eq_getElem?_getD, List.getElem?_append_left hj] at hb
      rw [List.getD_eq_getElem?_getD]; exact hb
    · subst hj
      rw [List.getD_eq_getElem?_getD, List.getElem?_append_right (Nat.le_refl _)] at hb
      simp only [Nat.sub_self, List.getElem?_cons_zero, Option.getD_some] at hb
      have ho : ops[acc.length]? = some o := by
        rw [← Array.getElem?_toList, he, hl, List.getElem?_append_right (Nat.le_refl _)]
        simp
      rcases bits_inner acc i _ _ hb with hb | ⟨e, h1, h2, h3 | h3⟩
      · simp at hb
      · rw [h3]; exact .one ho h1 h2
      · exact .more ho h1 h2 (h _ _ h3)
    · rw [List.getD_eq_getElem?_getD, List.getElem?_eq_none (by simp; omega)] at hb
      simp at hb
theorem bits_prec {ops : Array Oper} {i j : Nat} (h : ((bitsBefore ops).getD j 0).testBit i = true) : Prec ops i j :=
  bits_outer ops.toList [] [] (by simp) rfl (by intro j i h; simp at h) j i h
theorem okEdges_lt : ∀ (L : List Oper) (k : Nat), okEdges k L = true → ∀ j o, L[j]? = some o → ∀ e ∈ o.after.toList, Region.binds .any e = true → e.on < k + j
  | [], _, _, _, _, h, _, _, _ => by simp at h
  | o :: L, k, h, j, o', ho, e, he, hb => by
    simp only [okEdges, Bool.and_eq_true, List.all_eq_true] at h
    cases j with
    | zero =>
      simp at ho
      subst ho
      have := h.1 e he
      simp only [hb, Bool.not_true, Bool.false_or, Nat.blt_eq] at this
      omega
    | succ j =>
      have := okEdges_lt L (k + 1) h.2 j o' (by simpa using ho) e he hb
      omega
theorem okOps_get {P : Program} {ops : Array Oper} : ∀ {L : List Oper} {l : List O}, okOps P ops L l = true → L.length = l.length ∧ ∀ (i : Nat) (x : Oper), L[i]? = some x → ∃ y, l[i]? = some y ∧ okO P ops x y = true
  | [], [], _ => ⟨rfl, fun i x h => by simp at h⟩
  | [], _ :: _, h => by simp [okOps] at h
  | _ :: _, [], h => by simp [okOps] at h
  | a :: L, b :: l, h => by
    simp only [okOps, Bool.and_eq_true] at h
    obtain ⟨e, q⟩ := okOps_get h.2
    refine ⟨by simp [e], fun i x hx => ?_⟩
    cases i with
    | zero => simp at hx; subst hx; exact ⟨b, by simp, h.1⟩
    | succ i => simpa using q i x (by simpa using hx)
theorem go_acc (m : Region.Mode) (ops : Array Oper) : ∀ (fuel t : Nat) (listed : Array Bool) (acc : List Nat), Region.linearise.go m ops fuel t listed acc = acc.reverse ++ Region.linearise.go m ops fuel t listed []
  | 0, t, listed, acc => by simp [Region.linearise.go]
  | fuel + 1, t, listed, acc => by
    simp only [Region.linearise.go]
    split
    · rename_i i _
      rw [go_acc m ops fuel _ _ (i :: acc), go_acc m ops fuel _ _ [i]]
      simp
    · simp
def unl (N : Nat) (listed : Array Bool) : List Nat := (List.range N).filter fun i => !listed.getD i true
theorem unl_less {N i : Nat} {listed : Array Bool} (hi : i < N) (hs : listed.size = N) (hl : listed.getD i true = false) : (unl N (listed.setIfInBounds i true)).length < (unl N listed).length := by
  have e : unl N (listed.setIfInBounds i true) = (unl N listed).filter fun j => j != i := by
    unfold unl
    rw [List.filter_filter]
    apply List.filter_congr
    intro j _
    by_cases hj : j = i
    · subst hj
      simp [Array.getD_eq_getD_getElem?, hs, hi]
    · have : (listed.setIfInBounds i true).getD j true = listed.getD j true := by
        simp only [Array.getD_eq_getD_getElem?]
        rw [Array.getElem?_setIfInBounds_ne (Ne.symm hj)]
      rw [this]
      simp [hj]
  rw [e]
  exact List.length_filter_lt_length_iff_exists.2 ⟨i, by simp only [unl, List.mem_filter, List.mem_range]; exact ⟨hi, by rw [hl]; rfl⟩, by simp⟩
section
open Classical
variable {P : Program} {call : V → List V → H → RO} {N : Nat} {o : Nat → O} {ft : Nat → Foot} {T : Nat → List V} {S : Nat → H}
variable {D : Nat → Prop} {i j n b x : Nat} {mk : Nat} {R0 R R' : Emb} {w0 w w' : World} {a : Act}
theorem order_wp {ops : Array Oper} {ro : Option Nat} {Q : Exit → Act → World → Prop} (hc : CallSnd P call) (hr : Run N o ft T S call (Prec ops)) (hN : ops.size = N)
    (hok : ∀ i x, ops[i]? = some x → okO P ops x (o i) = true) (hedge : ∀ j x, ops[j]? = some x → ∀ e ∈ x.after.toList, Region.binds .any e = true → e.on < j)
    (hQ : ∀ D R w a, (∀ j, j < N → D j) → Inv P N o ft T S mk R0 w0 D R w a → Q .normal a w) :
    ∀ (fuel t : Nat) (listed : Array Bool) (D : Nat → Prop) (R : Emb) (w : World) (a : Act), listed.size = N → (∀ j, j < N → (listed.getD j true = true ↔ D j)) → (unl N listed).length ≤ fuel →
      (∀ j p, D j → Prec ops p j → D p) → Inv P N o ft T S mk R0 w0 D R w a → wpOpsIn (Wd ro) n P ops Q (Region.linearise.go .any ops fuel t listed []) a w
  | 0, t, listed, D, R, w, a, hs, hl, hu, hcl, I => by
    simp only [Region.linearise.go, List.reverse_nil, wpOpsIn]
    refine hQ D R w a (fun j hj => ?_) I
    rw [← hl j hj]
    refine Classical.byContradiction fun hne => ?_
    have : j ∈ unl N listed := by
      simp only [unl, List.mem_filter, List.mem_range]
      exact ⟨hj, by simpa using hne⟩
    have := List.length_pos_of_mem this
    omega
  | fuel + 1, t, listed, D, R, w, a, hs, hl, hu, hcl, I => by
    simp only [Region.linearise.go]
    split
    · rename_i i hi
      have hmem := List.mem_of_getElem? hi
      simp only [List.mem_filter, List.mem_range, Bool.and_eq_true, Bool.not_eq_true'] at hmem
      obtain ⟨hiN, hli, hrdy⟩ := hmem
      rw [hN] at hiN
      rw [go_acc]
      simp only [List.reverse_cons, List.reverse_nil, List.nil_append, List.singleton_append]
      cases hop : ops[i]? with
      | none => rw [hop] at hrdy; simp at hrdy
      | some x =>
        rw [hop] at hrdy
        simp only [Option.map_some, Option.getD_some, Array.all_eq_true'] at hrdy
        have hdir : ∀ e ∈ x.after.toList, Region.binds .any e = true → D e.on := by
          intro e he hb
          have h1 := hrdy e (by simpa using he)
          simp only [hb, Bool.not_true, Bool.false_or] at h1
          have hlt : e.on < N := by have := hedge i x hop e he hb; omega
          rw [← hl e.on hlt]
          rw [Array.getD_eq_getD_getElem?] at h1 ⊢
          cases hq : listed[e.on]? with
          | none => rfl
          | some v => rw [hq] at h1; exact h1
        have hnot : ¬ D i := by
          rw [← hl i hiN, hli]; simp
        have hn : Nxt N (Prec ops) D i := by
          refine ⟨hiN, hnot, ?_, hcl, I.sub⟩
          intro p hp
          cases hp with
          | one h1 h2 h3 =>
            rw [hop] at h1; cases h1
            exact hdir _ h2 h3
          | more h1 h2 h3 h4 =>
            rw [hop] at h1; cases h1
            exact hcl _ _ (hdir _ h2 h3) h4
        have hcl' : ∀ j p, more D i j → Prec ops p j → more D i p := by
          rintro j p (h | rfl) hp
          · exact .inl (hcl j p h hp)
          · exact .inl (hn.pre p hp)
        have next : ∀ R w a, Inv P N o ft T S mk R0 w0 (more D i) R w a →
            wpOpsIn (Wd ro) n P ops Q (Region.linearise.go .any ops fuel (t / ((List.range ops.size).filter fun i => !listed.getD i true && ((ops[i]?).map (·.after.all fun e => !Region.binds .any e || listed.getD e.on false)).getD false).length) (listed.setIfInBounds i true) []) a w := by
          intro R w a I'
          refine order_wp hc hr hN hok hedge hQ fuel _ _ (more D i) R w a (by simpa using hs) ?_ ?_ hcl' I'
          · intro j hj
            by_cases hji : j = i
            · subst hji
              simp [more, Array.getD_eq_getD_getElem?, hs, hj]
            · rw [more_off hji, ← hl j hj]
              simp only [Array.getD_eq_getD_getElem?]
              rw [Array.getElem?_setIfInBounds_ne (Ne.symm hji)]
          · have := unl_less hiN hs hli
            omega
        have hoi := hok i x hop
        simp only [okO, Bool.and_eq_true] at hoi
        obtain ⟨⟨hdst, hg⟩, hopa⟩ := hoi
        obtain ⟨th, h1, h2, h3⟩ := I.tm
        have huse : ∀ y ∈ usesO (o i), nth th y = nth (T i) y := fun y hy => by rw [h3 y, hn.tmp hr hy]
        have hw : wants (o i).g th = wants (o i).g (T i) := wants_congr fun y hy => huse y (by
          unfold usesO
          exact List.mem_append.2 (.inr hy))
        have huo : ∀ y ∈ uses (o i).op, nth th y = nth (T i) y := fun y hy => huse y (by
          unfold usesO
          exact List.mem_append.2 (.inl hy))
        simp only [wpOpsIn, hop]
        rw [wanted_iff hg h1, hw]
        cases hwt : wants (o i).g (T i) with
        | false =>
          simp only [Bool.false_eq_true, if_false]
          exact ⟨fun _ _ => trivial, next R w _ (I.skip hr hn hdst hwt)⟩
        | true =>
          simp only [if_true]
          rcases (hr.at' i hiN).run with ⟨_, v, hh, hev, hT, hS, hrd, hwr, hwfh0⟩ | ⟨hwf, _⟩
          · have hwfi : WF ⟨(S i).next, (S i).mem, []⟩ := ⟨(hr.wfs i (by omega)).1, fun _ hb => by simp at hb⟩
            have hev' : evA call (o i).op th ⟨(S i).next, (S i).mem, []⟩ = .ok v hh := by rw [evA_congr huo]; exact hev
            refine op_wp hc hopa (envOk_of h1) (h := ⟨(S i).next, (S i).mem, []⟩) (F := footF ft S i) (I.sim_at hr hn) ?_ ?_ hwfi hev' ?_
            · rw [reads_congr huo, ← hrd]
              cases hq : (ft i).rd with
              | none => intro b r hr'; rw [hq] at hr'; cases hr'
              | some r =>
                intro b hb r' hr'
                rw [hq] at hr'
                cases hr'
                exact .inl hb
            · intro b hb1 hb2
              exact I.fresh hr hn ⟨hb1, by rw [hS]; exact hb2⟩
            · intro u w' hp
              have hwfh : WF hh := hwfh0 (hr.wfs i (by omega))
              obtain ⟨R', I'⟩ := I.done hr hn hdst h1 h2 h3 hT hS hwr hwfh hp
              exact next R' w' _ I'
          · rw [hwt] at hwf; cases hwf
    · -- nothing is ready: all is done
      rename_i hno
      simp only [List.reverse_nil, wpOpsIn]
      refine hQ D R w a (fun j hj => ?_) I
      rw [← hl j hj]
      induction j using Nat.strongRecOn with
      | _ j ih =>
        refine Classical.byContradiction fun hne => ?_
        have hop : ops[j]? = some (ops[j]'(by omega)) := by simp [hN, hj]
        have hin : j ∈ (List.range ops.size).filter fun i => !listed.getD i true && ((ops[i]?).map (·.after.all fun e => !Region.binds .any e || listed.getD e.on false)).getD false := by
          simp only [List.mem_filter, List.mem_range, Bool.and_eq_true, Bool.not_eq_true']
          refine ⟨by omega, by simpa using hne, ?_⟩
          rw [hop]
          simp only [Option.map_some, Option.getD_some, Array.all_eq_true']
          intro e he
          cases hb : Region.binds .any e with
          | false => rfl
          | true =>
            have hlt := hedge j _ hop e (by simpa using he) hb
            have := ih e.on hlt (by omega)
            simp only [Bool.not_true, Bool.false_or]
            rw [Array.getD_eq_getD_getElem?] at this ⊢
            rw [Array.getElem?_eq_getElem (by omega)] at this ⊢
            exact this
        have hpos := List.length_pos_of_mem hin
        rw [List.getElem?_eq_none_iff] at hno
        have := Nat.mod_lt t hpos
        omega
end
end Go.Air
namespace Go.Air
section
open Classical
variable {P : Program} {call : V → List V → H → RO} {N : Nat} {o : Nat → O} {ft : Nat → Foot} {T : Nat → List V} {S : Nat → H} {pr : Nat → Nat → Prop}
variable {D : Nat → Prop} {mk : Nat} {R0 R : Emb} {w0 w : World} {a : Act}
theorem list_nth_ext : ∀ {a b : List V}, a.length = b.length → (∀ x, nth a x = nth b x) → a = b
  | [], [], _, _ => rfl
  | [], _ :: _, h, _ => by simp at h
  | _ :: _, [], h, _ => by simp at h
  | x :: a, y :: b, h, hx => by
    have h0 : x = y := hx 0
    rw [h0, list_nth_ext (by simpa using h) fun n => hx (n + 1)]
theorem Run.logs (hr : Run N o ft T S call pr) : ∀ (n : Nat), n ≤ N → ∃ L, (S n).log = L ++ (S 0).log ∧ ∀ b, b ∈ L ↔ ∃ j, j < n ∧ b ∈ (ft j).wr
  | 0, _ => ⟨[], rfl, fun b => by simp⟩
  | n + 1, hn => by
    obtain ⟨L, h1, h2⟩ := hr.logs n (by omega)
    refine ⟨(ft n).wr ++ L, by rw [(hr.at' n (by omega)).log, h1, List.append_assoc], fun b => ?_⟩
    rw [List.mem_append, h2 b]
    constructor
    · rintro (h | ⟨j, hj, h⟩)
      · exact ⟨n, by omega, h⟩
      · exact ⟨j, by omega, h⟩
    · rintro ⟨j, hj, h⟩
      rcases Nat.eq_or_lt_of_le (Nat.le_of_lt_succ hj) with rfl | hj
      · exact .inl h
      · exact .inr ⟨j, hj, h⟩
theorem Run.kept (hr : Run N o ft T S call pr) {b : Nat} (hb : b < (S 0).next) : ∀ (n : Nat), n ≤ N → (∀ j, j < n → b ∉ (ft j).wr) → (S n).get b = (S 0).get b
  | 0, _, _ => rfl
  | n + 1, hn, h => by
    rw [(hr.at' n (by omega)).same b (Nat.lt_of_lt_of_le hb (hr.nx n 0 (by omega) (by omega))) (h n (by omega))]
    exact hr.kept hb n (by omega) fun j hj => h j (by omega)
theorem Run.lived (hr : Run N o ft T S call pr) {b : Nat} (hb : b < (S 0).next) : ∀ (n : Nat), n ≤ N → (∃ y, (S n).get b = some y) → ∃ y, (S 0).get b = some y
  | 0, _, h => h
  | n + 1, hn, ⟨y, hy⟩ => by
    refine hr.lived hb n (by omega) ?_
    by_cases h : b ∈ (ft n).wr
    · exact ((hr.at' n (by omega)).had b h).2
    · rw [(hr.at' n (by omega)).same b (Nat.lt_of_lt_of_le hb (hr.nx n 0 (by omega) (by omega))) h] at hy
      exact ⟨y, hy⟩
theorem Inv.fin (hr : Run N o ft T S call pr) (hall : ∀ j, j < N → D j) (I : Inv P N o ft T S mk R0 w0 D R w a) : PostA P mk R0 (S 0) w0 (T N) (S N) a w := by
  obtain ⟨L, h1, h2⟩ := hr.logs N (Nat.le_refl _)
  obtain ⟨th, q1, q2, q3⟩ := I.tm
  have hth : th = T N := by
    refine list_nth_ext (by rw [q2, hr.len N (Nat.le_refl _)]) fun x => ?_
    rw [q3, vt_text hr N (Nat.le_refl _) fun j hj _ => hall j hj]
  have hv : (fun b => ver ft S D b N) = (S N).get := by
    funext b
    exact ver_text hr N (Nat.le_refl _) fun j hj _ => hall j hj
  refine ⟨R, L, ⟨I.le, h1, hr.nx N 0 (Nat.zero_le _) (Nat.le_refl _), I.size, ?_, ?_, ?_, ?_, I.io⟩, hv ▸ I.sim, hth ▸ q1, I.marks⟩
  · intro b c sz hb
    rcases I.new b c sz hb with h | ⟨p1, p2, p3 | ⟨b0, s0, p3, p4⟩⟩
    · exact .inl h
    · exact .inr ⟨p1, p2, .inl p3⟩
    · exact .inr ⟨p1, p2, .inr ⟨b0, s0, p3, (h2 b0).2 p4⟩⟩
  · intro b hb hl
    exact hr.kept hb N (Nat.le_refl _) fun j hj hm => hl ((h2 b).2 ⟨j, hj, hm⟩)
  · intro c hc hno
    exact I.frame c hc fun b sz hb hm => hno b sz hb ((h2 b).2 hm)
  · intro b hb
    obtain ⟨j, hj, hm⟩ := (h2 b).1 hb
    obtain ⟨⟨c, sz⟩, hy⟩ := I.own j (hall j hj) b hm
    rcases I.new b c sz hy with h | ⟨p1, p2, _⟩
    · exact .inr ⟨⟨_, h⟩, fun hlt => hr.lived hlt j (by omega) ((hr.at' j hj).had b hm).2⟩
    · exact .inl ⟨p1, p2⟩
theorem apart_mem {f g : Foot} (h : apart f g = true) : Mem f g ∧ Mem g f := by
  simp only [apart, Bool.and_eq_true, List.all_eq_true, Bool.not_eq_true', List.contains_eq_mem, decide_eq_false_iff_not] at h
  obtain ⟨⟨h1, h2⟩, h3⟩ := h
  constructor
  · intro b hb
    refine ⟨fun r hr => ?_, fun hr => ?_, h3 b hb⟩
    · rw [hr] at h1
      simp only [List.all_eq_true, Bool.not_eq_true', decide_eq_false_iff_not] at h1
      exact h1 b hb
    · rw [hr] at h1
      simp only [List.isEmpty_iff] at h1
      rw [h1] at hb; simp at hb
  · intro b hb
    refine ⟨fun r hr => ?_, fun hr => ?_, fun hb' => h3 b hb' hb⟩
    · rw [hr] at h2
      simp only [List.all_eq_true, Bool.not_eq_true', decide_eq_false_iff_not] at h2
      exact h2 b hb
    · rw [hr] at h2
      simp only [List.isEmpty_iff] at h2
      rw [h2] at hb; simp at hb
theorem draw_snd (hmix : P.follows .mixedOrders = true) (call : V → List V → H → RO) (hc : CallSnd P call) (hk : ∀ f args h v h', call f args h = .ok v h' → Keep h h') : DrawSnd P call := by
  intro ops l crit t h t' h' f R w a m n ro Q order hok hdr hrun hcrit hs hfr hw ht hm hQ
  obtain ⟨fs, hfs, hch⟩ := chain_of hk l t h [] t' h' f hrun
  simp only [List.nil_append] at hfs
  subst hfs
  obtain ⟨hlen, T, S, e1, e2, e3, e4, hat⟩ := hch.states
  obtain ⟨hol, hoget⟩ := okOps_get hok
  have hN : ops.size = l.length := by simpa using hol
  let o : Nat → O := fun i => l.getD i default
  let ft : Nat → Foot := fun i => f.getD i ⟨none, []⟩
  have ho : ∀ i, i < l.length → l[i]? = some (o i) := fun i hi => by simp [o, List.getD_eq_getElem?_getD, hi]
  have hf : ∀ i, i < l.length → f[i]? = some (ft i) := fun i hi => by
    have : i < f.length := by omega
    simp [ft, List.getD_eq_getElem?_getD, this]
  simp only [okDraw, Bool.and_eq_true] at hdr
  obtain ⟨hed, hpairs⟩ := hdr
  have hat' : ∀ i, i < l.length → At call (o i) (T i) (S i) (T (i + 1)) (S (i + 1)) (ft i) := fun i hi => hat i _ _ (ho i hi) (hf i hi)
  have hr : Run l.length o ft T S call (Prec ops) := by
    refine ⟨hat', ?_, by rw [e2]; exact hw⟩
    intro i j hij hj hnp
    simp only [okPairs, List.all_eq_true, List.mem_range] at hpairs
    have hp := hpairs j hj i hij
    rw [Bool.or_eq_true] at hp
    have hp := hp.resolve_left fun hb => hnp (bits_prec hb)
    rw [ho i (by omega), ho j hj] at hp
    simp only [free, Bool.and_eq_true, Bool.not_eq_true', Bool.or_eq_true] at hp
    obtain ⟨⟨hd1, hd2⟩, hmem⟩ := hp
    have hmm : Mem (ft i) (ft j) ∧ Mem (ft j) (ft i) := by
      rcases hmem with hseen | hcls
      · rw [List.any_eq_true] at hseen
        obtain ⟨⟨p, q⟩, hpq, hpe⟩ := hseen
        simp only [Bool.and_eq_true, Nat.beq_eq] at hpe
        obtain ⟨rfl, rfl⟩ := hpe
        simp only [critOk, List.all_eq_true] at hcrit
        have := hcrit (p, q) hpq
        simp only [hf p (by omega), hf q hj] at this
        exact apart_mem this
      · have idle : ∀ x y, x < l.length → cls (o x).op = .idle → Mem (ft x) (ft y) ∧ Mem (ft y) (ft x) := by
          intro x y hx hcl
          have := (hat' x hx).idle hcl
          rw [this]
          refine ⟨fun b hb => by simp at hb, fun b hb => ⟨fun r hr => ?_, by simp, by simp⟩⟩
          simp at hr
          subst hr
          simp
        cases hci : cls (o i).op with
        | idle => exact idle i j (by omega) hci
        | reads =>
          cases hcj : cls (o j).op with
          | idle => exact (idle j i hj hcj).symm
          | reads =>
            obtain ⟨w1, _⟩ := (hat' i (by omega)).rds (by rw [hci]; simp)
            obtain ⟨w2, _⟩ := (hat' j hj).rds (by rw [hcj]; simp)
            exact ⟨fun b hb => by rw [w1] at hb; simp at hb, fun b hb => by rw [w2] at hb; simp at hb⟩
          | writes => rw [hci, hcj] at hcls; simp at hcls
        | writes =>
          cases hcj : cls (o j).op with
          | idle => exact (idle j i hj hcj).symm
          | reads => rw [hci, hcj] at hcls; simp at hcls
          | writes => rw [hci, hcj] at hcls; simp at hcls
    refine ⟨fun d hd => ?_, fun d hd => ?_, hmm.1, hmm.2⟩
    · rw [hd] at hd1
      simp only [touches, List.contains_eq_mem, List.mem_append, decide_eq_false_iff_not, not_or] at hd1
      refine ⟨hd1.1, fun he => ?_⟩
      rw [he] at hd1
      simp at hd1
    · rw [hd] at hd2
      simpa [touches] using hd2
  have hsch : Region.schedule (P.follows .mixedOrders) ops order = Region.linearise .any ops order := by simp [Region.schedule, hmix]
  rw [hsch]
  unfold Region.linearise
  have I : Inv P l.length o ft T S m R w (fun _ => False) R w a := by
    have hv : ∀ (D : Nat → Prop) b n, (∀ j, ¬ D j) → ver ft S D b n = (S 0).get b := by
      intro D b n hD
      induction n with
      | zero => rfl
      | succ n ih => rw [ver, if_neg (fun h => hD n h.1), ih]
    have ht' : ∀ (D : Nat → Prop) x n, (∀ j, ¬ D j) → vt o T D x n = nth (T 0) x := by
      intro D x n hD
      induction n with
      | zero => rfl
      | succ n ih => rw [vt, if_neg (fun h => hD n h.1), ih]
    refine ⟨fun _ h => h.elim, ⟨t, ht, by rw [e1], fun x => by rw [ht' _ x _ (fun _ h => h), e1]⟩, ?_, ?_, fun _ h => h.elim, Emb.le_refl R, Nat.le_refl _, fun _ _ _ h => .inl h, fun _ _ _ => rfl, hm, .refl w⟩
    · have : (fun b => ver ft S (fun _ => False) b l.length) = h.get := by
        funext b
        rw [hv _ b _ (fun _ h => h), e2]
      rw [this]; exact hs
    · intro b y hb
      rcases Nat.lt_or_ge b (S 0).next with h1 | h1
      · exact .inl h1
      · rcases Nat.lt_or_ge b (S l.length).next with h2 | h2
        · rw [hfr b (by rw [← e2]; exact h1) (by rw [← e4]; exact h2)] at hb; cases hb
        · exact .inr (.inl h2)
  refine order_wp hc hr hN ?_ ?_ ?_ ops.size order _ (fun _ => False) R w a (by simp [hN]) ?_ ?_ (fun _ _ h => h.elim) I
  · intro i x hx
    obtain ⟨y, h1, h2⟩ := hoget i x (by simpa using hx)
    have hi : i < l.length := (List.getElem?_eq_some_iff.1 h1).1
    rw [ho i hi] at h1
    cases h1
    exact h2
  · intro j x hx e he hb
    have := okEdges_lt ops.toList 0 hed j x (by simpa using hx) e he hb
    omega
  · intro D R' w' a' hall I'
    have := I'.fin hr hall
    rw [e2, e3, e4] at this
    exact hQ a' w' this
  · intro j hj
    have : (Array.replicate ops.size false).getD j true = false := by simp [Array.getD_eq_getD_getElem?, hN, hj]
    rw [this]
    simp
  · have h1 : (unl l.length (Array.replicate ops.size false)).length ≤ (List.range l.length).length := List.length_filter_le _ _
    simp at h1
    omega
end
theorem air_fn {P : Program} {tbl : Nat → Option FI} (hmix : P.follows .mixedOrders = true) (htbl : ∀ k fi, tbl k = some fi → FnOk P k fi) {k g : Nat} {args : List V} {vs : List Value} {R : Emb} {h h' : H} {w : World} {v : V}
    (he : callV tbl (E tbl k) (.fn g [] []) args h = .ok v h') (hs : Sim P allB R h.get w) (hfr : Fresh R h h') (hw : WF h) (hv : concL R args = some vs) :
    (callFunc g vs.toArray).run P w = .ok (.enter g vs.toArray) w ∧ ∀ ro n, CallsIn (Wd ro) n P g vs.toArray w fun
      | .returned x, w'' => PostV P allB R h w v h' x w''
      | _, _ => False := by
  have := fn_snd (snd htbl (fun call => draw_snd hmix call) k k (Nat.le_refl _)) (E_skips k) htbl he hs hfr hw (concL_nil R) (concL_nil R) hv
  rw [show ([] : List Value).toArray ++ vs.toArray ++ ([] : List Value).toArray = vs.toArray by simp] at this
  exact this
end Go.Air
