/-
  Open orders, first part: what an operation looks at of the temporaries; what it writes by its kind; a run in the text's order, step by step.
-/
import Derived.Test.YtlldpmkdjpmlpaaCode3
set_option linter.unusedSectionVars false
set_option linter.unusedVariables false
set_option linter.unusedSimpArgs false
namespace Go.Air

section
variable {t t' : List V}

theorem ev_congr {x : X} (h : ∀ n ∈ xT x, nth t n = nth t' n) : x.ev t = x.ev t' := by
  cases x <;> simp only [X.ev]
  exact h _ (by simp [xT])
theorem evL_congr {xs : List X} (h : ∀ n ∈ xs.flatMap xT, nth t n = nth t' n) : xs.map (X.ev t) = xs.map (X.ev t') := by
  apply List.map_congr_left
  intro x hx
  exact ev_congr fun n hn => h n (List.mem_flatMap.2 ⟨x, hx, hn⟩)
theorem fill_congr : ∀ {ps : List (Nat × Nat × X)} {z : List V}, (∀ n ∈ ps.flatMap (fun p => xT p.2.2), nth t n = nth t' n) → fill t z ps = fill t' z ps
  | [], _, _ => rfl
  | (off, sz, x) :: ps, z, h => by
    have hx : x.ev t = x.ev t' := ev_congr fun n hn => h n (by simp [hn])
    have ih : ∀ z, fill t z ps = fill t' z ps := fun z => fill_congr fun n hn => h n (by simp only [List.flatMap_cons, List.mem_append]; exact .inr hn)
    simp only [fill, hx, ih]
theorem evo_congr {x : Option X} {f : V → Option Nat} {d : Option Nat} (h : ∀ n ∈ xoT x, nth t n = nth t' n) :
    (match x with | none => d | some x => f (x.ev t)) = (match x with | none => d | some x => f (x.ev t')) := by
  cases x with
  | none => rfl
  | some x => simp only; rw [ev_congr h]
theorem bounds_congr {len cap : Nat} {lo hi : Option X} (h1 : ∀ n ∈ xoT lo, nth t n = nth t' n) (h2 : ∀ n ∈ xoT hi, nth t n = nth t' n) : bounds t len cap lo hi = bounds t' len cap lo hi := by
  cases lo <;> cases hi <;> simp only [bounds]
  · rw [ev_congr h2]
  · rw [ev_congr h1]
  · rw [ev_congr h1, ev_congr h2]
theorem sliceV_congr {esz : Nat} {lo hi : Option X} {v : V} (h1 : ∀ n ∈ xoT lo, nth t n = nth t' n) (h2 : ∀ n ∈ xoT hi, nth t n = nth t' n) : sliceV esz t lo hi v = sliceV esz t' lo hi v := by
  cases v <;> simp only [sliceV, bounds_congr h1 h2]
theorem sliceV3_congr {esz : Nat} {lo hi : Option X} {m : X} {v : V} (h1 : ∀ n ∈ xoT lo, nth t n = nth t' n) (h2 : ∀ n ∈ xoT hi, nth t n = nth t' n) (h3 : ∀ n ∈ xT m, nth t n = nth t' n) :
    sliceV3 esz t lo hi m v = sliceV3 esz t' lo hi m v := by
  cases v <;> simp only [sliceV3, bounds_congr h1 h2, ev_congr h3]

theorem evA_congr {call : V → List V → H → RO} {op : A} {h : H} (hu : ∀ n ∈ uses op, nth t n = nth t' n) : evA call op t h = evA call op t' h := by
  cases op <;> simp only [uses, List.mem_append] at hu <;> simp only [evA]
  case mov x => rw [ev_congr hu]
  case pick a b c => rw [ev_congr (x := a) fun n hn => hu n (.inl (.inl hn)), ev_congr (x := b) fun n hn => hu n (.inl (.inr hn)), ev_congr (x := c) fun n hn => hu n (.inr hn)]
  case box x => rw [ev_congr hu]
  case build z ps => rw [fill_congr hu]
  case buildSl z n ps => rw [fill_congr hu]
  case ld x => rw [ev_congr hu]
  case ldn n x => rw [ev_congr hu]
  case st n a b => rw [ev_congr (x := a) fun n hn => hu n (.inl hn), ev_congr (x := b) fun n hn => hu n (.inr hn)]
  case nilck x => rw [ev_congr hu]
  case bin o a b => rw [ev_congr (x := a) fun n hn => hu n (.inl hn), ev_congr (x := b) fun n hn => hu n (.inr hn)]
  case eqv o k a b => rw [ev_congr (x := a) fun n hn => hu n (.inl hn), ev_congr (x := b) fun n hn => hu n (.inr hn)]
  case un o x => rw [ev_congr hu]
  case conv o x => rw [ev_congr hu]
  case mkI o x => rw [ev_congr hu]
  case mkFn f a c => rw [evL_congr (xs := a) fun n hn => hu n (.inl hn), evL_congr (xs := c) fun n hn => hu n (.inr hn)]
  case mkSl z n a b => rw [ev_congr (x := a) fun n hn => hu n (.inl hn), ev_congr (x := b) fun n hn => hu n (.inr hn)]
  case slc e x a b c =>
    have h1 : ∀ n ∈ xT x, nth t n = nth t' n := fun n hn => hu n (.inl (.inl (.inl hn)))
    have h2 : ∀ n ∈ xoT a, nth t n = nth t' n := fun n hn => hu n (.inl (.inl (.inr hn)))
    have h3 : ∀ n ∈ xoT b, nth t n = nth t' n := fun n hn => hu n (.inl (.inr hn))
    have h4 : ∀ n ∈ xoT c, nth t n = nth t' n := fun n hn => hu n (.inr hn)
    cases c with
    | none => simp only; rw [ev_congr h1, sliceV_congr h2 h3]
    | some m => simp only; rw [ev_congr h1, sliceV3_congr h2 h3 h4]
  case slcA n e x a b => rw [ev_congr (x := x) fun n hn => hu n (.inl (.inl hn)), bounds_congr (fun n hn => hu n (.inl (.inr hn))) fun n hn => hu n (.inr hn)]
  case slcS x a b =>
    rw [ev_congr (x := x) fun n hn => hu n (.inl (.inl hn))]
    split
    · rw [bounds_congr (fun n hn => hu n (.inl (.inr hn))) fun n hn => hu n (.inr hn)]
    · rfl
  case fld o x => rw [ev_congr hu]
  case fldv o s x => rw [ev_congr hu]
  case ixS e a b => rw [ev_congr (x := a) fun n hn => hu n (.inl hn), ev_congr (x := b) fun n hn => hu n (.inr hn)]
  case ixA m e a b => rw [ev_congr (x := a) fun n hn => hu n (.inl hn), ev_congr (x := b) fun n hn => hu n (.inr hn)]
  case ixStr a b => rw [ev_congr (x := a) fun n hn => hu n (.inl hn), ev_congr (x := b) fun n hn => hu n (.inr hn)]
  case ixV m e g a b => rw [ev_congr (x := a) fun n hn => hu n (.inl hn), ev_congr (x := b) fun n hn => hu n (.inr hn)]
  case look k z o a b => rw [ev_congr (x := a) fun n hn => hu n (.inl hn), ev_congr (x := b) fun n hn => hu n (.inr hn)]
  case mapSet k a b c => rw [ev_congr (x := a) fun n hn => hu n (.inl (.inl hn)), ev_congr (x := b) fun n hn => hu n (.inl (.inr hn)), ev_congr (x := c) fun n hn => hu n (.inr hn)]
  case ext x n => rw [ev_congr hu]
  case call f xs => rw [ev_congr (x := f) fun n hn => hu n (.inl hn), evL_congr (xs := xs) fun n hn => hu n (.inr hn)]
  case lenS x => rw [ev_congr hu]
  case lenL x => rw [ev_congr hu]
  case lenM x => rw [ev_congr hu]
  case app e b x y => rw [ev_congr (x := x) fun n hn => hu n (.inl hn), ev_congr (x := y) fun n hn => hu n (.inr hn)]
  case cpy e x y => rw [ev_congr (x := x) fun n hn => hu n (.inl hn), ev_congr (x := y) fun n hn => hu n (.inr hn)]
  case clr z x => rw [ev_congr hu]
  case min xs => rw [evL_congr hu]
  case max xs => rw [evL_congr hu]

theorem reads_congr {op : A} (hu : ∀ n ∈ uses op, nth t n = nth t' n) : reads op t = reads op t' := by
  cases op <;> simp only [uses, List.mem_append] at hu <;> simp only [reads]
  case ld x => rw [ev_congr hu]
  case ldn n x => rw [ev_congr hu]
  case st n a b => rw [ev_congr (x := a) fun n hn => hu n (.inl hn)]
  case look k z o a b => rw [ev_congr (x := a) fun n hn => hu n (.inl hn)]
  case mapSet k a b c => rw [ev_congr (x := a) fun n hn => hu n (.inl (.inl hn))]
  case lenM x => rw [ev_congr hu]

theorem wants_congr {g : Option (Nat × Bool)} (hu : ∀ n ∈ (match g with | some (n, _) => [n] | none => []), nth t n = nth t' n) : wants g t = wants g t' := by
  cases g with
  | none => rfl
  | some p => simp only [wants]; rw [hu p.1 (by simp)]
end

theorem cls_reads {op : A} {t : List V} (h : cls op ≠ .writes) : ∃ r, reads op t = some r ∧ (cls op = .idle → r = []) := by
  cases op <;> first | (exact absurd rfl h) | exact ⟨_, rfl, fun _ => rfl⟩ | exact ⟨_, rfl, fun e => by cases e⟩

theorem cls_log {call : V → List V → H → RO} {op : A} {t : List V} {h h' : H} {v : V} (hc : cls op ≠ .writes) (he : evA call op t h = .ok v h') : h'.log = h.log := by
  have pure' : ∀ (o : Option V), RO.ofV h o = .ok v h' → h'.log = h.log := fun o ho => by rw [(ofV_ok ho).2]
  have here : ∀ u, RO.ok u h = .ok v h' → h'.log = h.log := fun u hu => by simp at hu; rw [← hu.2]
  have fresh : ∀ u x, RO.ok u (h.new x) = .ok v h' → h'.log = h.log := fun u x hu => by simp at hu; rw [← hu.2]; rfl
  cases op <;> try exact absurd rfl hc
  all_goals simp only [evA] at he
  case mov => exact here _ he
  case pick => split at he <;> first | exact here _ he | simp at he
  case alloc => exact fresh _ _ he
  case box => exact fresh _ _ he
  case build => split at he <;> first | exact here _ he | simp at he
  case buildSl => split at he <;> first | exact fresh _ _ he | simp at he
  case ld => split at he <;> try simp at he
             split at he <;> try simp at he
             exact pure' _ he
  case ldn => split at he <;> try simp at he
              split at he <;> try simp at he
              split at he <;> first | exact here _ he | simp at he
  case nilck => split at he <;> first | exact here _ he | simp at he
  case bin => exact pure' _ he
  case eqv => split at he <;> first | exact here _ he | simp at he
  case un => exact pure' _ he
  case conv => split at he <;> first | exact here _ he | simp at he
  case mkI => exact here _ he
  case mkFn => exact here _ he
  case mkMap => exact fresh _ _ he
  case mkSl => split at he <;> try simp at he
               split at he <;> first | exact fresh _ _ he | simp at he
  case slc => split at he <;> exact pure' _ he
  case slcA => split at he <;> try simp at he
               split at he <;> first | exact here _ he | simp at he
  case slcS => split at he <;> try simp at he
               split at he <;> first | exact here _ he | simp at he
  case fld => split at he <;> first | exact here _ he | simp at he
  case fldv => split at he <;> try simp at he
               split at he <;> first | exact pure' _ he | (split at he <;> first | exact here _ he | simp at he)
  case ixS => split at he <;> try simp at he
              split at he <;> first | exact here _ he | simp at he
  case ixA => split at he <;> try simp at he
              split at he <;> first | exact here _ he | simp at he
  case ixStr => split at he <;> try simp at he
                split at he <;> first | exact here _ he | simp at he
  case ixV => split at he <;> try simp at he
              split at he <;> try simp at he
              split at he <;> first | exact pure' _ he | (split at he <;> first | exact here _ he | simp at he)
  case look => split at he <;> try simp at he
               split at he <;> first | exact here _ he | simp at he
  case ext => split at he <;> first | exact pure' _ he | simp at he
  case lenS => split at he <;> first | exact here _ he | simp at he
  case lenL => split at he <;> first | exact here _ he | simp at he
  case lenC => exact here _ he
  case lenM => split at he <;> try simp only [reduceCtorEq] at he
               · exact here _ he
               · split at he <;> first | exact here _ he | simp at he
  case min => exact pure' _ he
  case max => exact pure' _ he
  case no => simp at he

/-! ### The run in the text's order -/
/-- What the run does at one operation. -/
structure At (call : V → List V → H → RO) (o : O) (t : List V) (h : H) (t' : List V) (h' : H) (ft : Foot) : Prop where
  nx : h.next ≤ h'.next
  wf : WF h → WF h'
  log : h'.log = ft.wr ++ h.log
  same : ∀ b, b < h.next → b ∉ ft.wr → h'.get b = h.get b
  had : ∀ b ∈ ft.wr, b < h.next ∧ ∃ y, h.get b = some y
  sub : ∀ r, ft.rd = some r → ∀ b ∈ ft.wr, b ∈ r
  idle : cls o.op = .idle → ft = ⟨some [], []⟩
  rds : cls o.op ≠ .writes → ft.wr = [] ∧ ∃ r, ft.rd = some r
  run : (wants o.g t = true ∧ ∃ v hh, evA call o.op t ⟨h.next, h.mem, []⟩ = .ok v hh ∧ t' = putD t o.dst v ∧ h' = ⟨hh.next, hh.mem, ft.wr ++ h.log⟩ ∧ ft.rd = reads o.op t ∧ ft.wr = oldOnes h.next hh.log ∧ (WF h → WF hh)) ∨
    (wants o.g t = false ∧ t' = putD t o.dst .undef ∧ h' = h ∧ ft = ⟨some [], []⟩)

/-- A run as a chain. -/
def Chain (call : V → List V → H → RO) : List O → List Foot → List V → H → List V → H → Prop
  | [], [], t, h, t', h' => t = t' ∧ h = h'
  | o :: l, ft :: fs, t, h, t', h' => ∃ t1 h1, At call o t h t1 h1 ft ∧ Chain call l fs t1 h1 t' h'
  | _, _, _, _, _, _ => False

theorem chain_of {call : V → List V → H → RO} (hk : ∀ f args h v h', call f args h = .ok v h' → Keep h h') : ∀ (l : List O) (t : List V) (h : H) (f : List Foot) (t' : List V) (h' : H) (f' : List Foot),
    runDraw call l t h f = .ok t' h' f' → ∃ fs, f' = f ++ fs ∧ Chain call l fs t h t' h'
  | [], t, h, f, t', h', f', he => by
    simp [runDraw] at he
    exact ⟨[], by simp [he.2.2], he.1, he.2.1⟩
  | o :: l, t, h, f, t', h', f', he => by
    simp only [runDraw] at he
    split at he
    · rename_i hwt
      split at he <;> try simp at he
      rename_i v hh hev
      obtain ⟨fs, q1, q2⟩ := chain_of hk l _ _ _ _ _ _ he
      obtain ⟨k, hsub⟩ := evA_does hk hev
      obtain ⟨w, w1, w2, w3⟩ := k.wr
      simp only [List.append_nil] at w1
      subst w1
      refine ⟨_ :: fs, by rw [q1, List.append_assoc]; rfl, _, ⟨hh.next, hh.mem, oldOnes h.next hh.log ++ h.log⟩, ⟨k.nx, ?_, rfl, ?_, ?_, ?_, ?_, ?_, .inl ⟨hwt, v, hh, hev, rfl, rfl, rfl, rfl, fun hw => k.wf ⟨hw.1, fun _ hb => by simp at hb⟩⟩⟩, q2⟩
      · intro hw
        refine ⟨(k.wf ⟨hw.1, fun _ hb => by simp at hb⟩).1, fun b hb => ?_⟩
        rcases List.mem_append.1 hb with hb | hb
        · exact Nat.lt_of_lt_of_le (oldOnes_lt hb).1 k.nx
        · exact Nat.lt_of_lt_of_le (hw.2 b hb) k.nx
      · exact fun b hb hl => w2 b hb (fun hm => hl (mem_oldOnes hb hm))
      · exact fun b hb => ⟨(oldOnes_lt hb).1, w3 b (oldOnes_lt hb).2 (oldOnes_lt hb).1⟩
      · intro r hr b hb
        obtain ⟨l', e1, e2⟩ := hsub r hr
        simp only [List.append_nil] at e1
        exact e2 b (e1 ▸ (oldOnes_lt hb).2)
      · intro hc
        obtain ⟨r, r1, r2⟩ := cls_reads (op := o.op) (t := t) (by rw [hc]; simp)
        have := cls_log (by rw [hc]; simp) hev
        simp only at this
        rw [this, r1, r2 hc]
        rfl
      · intro hc
        obtain ⟨r, r1, _⟩ := cls_reads (op := o.op) (t := t) hc
        have := cls_log hc hev
        simp only at this
        exact ⟨by rw [this]; rfl, r, r1⟩
    · rename_i hwt
      obtain ⟨fs, q1, q2⟩ := chain_of hk l _ _ _ _ _ _ he
      refine ⟨_ :: fs, by rw [q1, List.append_assoc]; rfl, _, _, ⟨Nat.le_refl _, id, rfl, fun _ _ _ => rfl, fun _ hb => by simp at hb, fun _ _ _ hb => by simp at hb, fun _ => rfl, fun _ => ⟨rfl, _, rfl⟩, .inr ⟨hwt, rfl, rfl, rfl⟩⟩, q2⟩

/-- the states along a chain. -/
theorem Chain.states {call : V → List V → H → RO} : ∀ {l : List O} {fs : List Foot} {t t' : List V} {h h' : H}, Chain call l fs t h t' h' →
    fs.length = l.length ∧ ∃ (T : Nat → List V) (S : Nat → H), T 0 = t ∧ S 0 = h ∧ T l.length = t' ∧ S l.length = h' ∧
      ∀ i o ft, l[i]? = some o → fs[i]? = some ft → At call o (T i) (S i) (T (i + 1)) (S (i + 1)) ft
  | [], [], t, t', h, h', hc => ⟨rfl, fun _ => t, fun _ => h, rfl, rfl, hc.1, hc.2, fun i o ft hi => by simp at hi⟩
  | [], _ :: _, _, _, _, _, hc => hc.elim
  | _ :: _, [], _, _, _, _, hc => hc.elim
  | o :: l, ft :: fs, t, t', h, h', ⟨t1, h1, ha, hc⟩ => by
    obtain ⟨e, T, S, q1, q2, q3, q4, q5⟩ := hc.states
    refine ⟨by simp [e], fun i => match i with | 0 => t | i + 1 => T i, fun i => match i with | 0 => h | i + 1 => S i, rfl, rfl, q3, q4, ?_⟩
    intro i o' ft' hi hf
    cases i with
    | zero =>
      simp at hi hf
      subst hi hf
      simp only [q1, q2]
      exact ha
    | succ i => exact q5 i o' ft' (by simpa using hi) (by simpa using hf)
end Go.Air
