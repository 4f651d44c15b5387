/-
  Open orders, last part: what comes before what; every order that the machine may draw; the whole.
-/
import Derived.Test.YtlldpmkdjpmlpaaDraw3
set_option linter.unusedSectionVars false
set_option linter.unusedVariables false
set_option linter.unusedSimpArgs false
namespace Go.Air

inductive Prec (ops : Array Oper) : Nat → Nat → Prop
  | one {j : Nat} {o : Oper} {e : Edge} : ops[j]? = some o → e ∈ o.after.toList → Region.binds .any e = true → Prec ops e.on j
  | more {i j : Nat} {o : Oper} {e : Edge} : ops[j]? = some o → e ∈ o.after.toList → Region.binds .any e = true → Prec ops i e.on → Prec ops i j

theorem bits_inner (acc : List Nat) (i : Nat) : ∀ (l : List Edge) (s : Nat), (l.foldl (fun s e => if Region.binds .any e then s ||| 2 ^ e.on ||| acc.getD e.on 0 else s) s).testBit i = true →
    s.testBit i = true ∨ ∃ e ∈ l, Region.binds .any e = true ∧ (i = e.on ∨ (acc.getD e.on 0).testBit i = true)
  | [], s, h => .inl h
  | e :: l, s, h => by
    simp only [List.foldl_cons] at h
    rcases bits_inner acc i l _ h with h | ⟨e', h1, h2⟩
    · split at h
      · rename_i hb
        simp only [Nat.testBit_or, Bool.or_eq_true, Nat.testBit_two_pow, decide_eq_true_eq] at h
        rcases h with (h | h) | h
        · exact .inl h
        · exact .inr ⟨e, by simp, hb, .inl h.symm⟩
        · exact .inr ⟨e, by simp, hb, .inr h⟩
      · exact .inl h
    · exact .inr ⟨e', by simp [h1], h2⟩

theorem bits_outer {ops : Array Oper} : ∀ (L pre : List Oper) (acc : List Nat), ops.toList = pre ++ L → acc.length = pre.length → (∀ j i, (acc.getD j 0).testBit i = true → Prec ops i j) →
    ∀ j i, ((L.foldl (fun acc o => acc ++ [o.after.toList.foldl (fun s e => if Region.binds .any e then s ||| 2 ^ e.on ||| acc.getD e.on 0 else s) 0]) acc).getD j 0).testBit i = true → Prec ops i j
  | [], _, _, _, _, h => h
  | o :: L, pre, acc, he, hl, h => by
    simp only [List.foldl_cons]
    refine bits_outer L (pre ++ [o]) _ (by simp [he]) (by simp [hl]) ?_
    intro j i hb
    rcases Nat.lt_trichotomy j acc.length with hj | hj | hj
    · refine h j i ?_
      rw [List.getD_eq_getElem?_getD, List.getElem?_append_left hj] at hb
      rw [List.getD_eq_getElem?_getD]; exact hb
    · subst hj
      rw [List.getD_eq_getElem?_getD, List.getElem?_append_right (Nat.le_refl _)] at hb
      simp only [Nat.sub_self, List.getElem?_cons_zero, Option.getD_some] at hb
      have ho : ops[acc.length]? = some o := by
        rw [← Array.getElem?_toList, he, hl, List.getElem?_append_right (Nat.le_refl _)]
        simp
      rcases bits_inner acc i _ _ hb with hb | ⟨e, h1, h2, h3 | h3⟩
      · simp at hb
      · rw [h3]; exact .one ho h1 h2
      · exact .more ho h1 h2 (h _ _ h3)
    · rw [List.getD_eq_getElem?_getD, List.getElem?_eq_none (by simp; omega)] at hb
      simp at hb

theorem bits_prec {ops : Array Oper} {i j : Nat} (h : ((bitsBefore ops).getD j 0).testBit i = true) : Prec ops i j :=
  bits_outer ops.toList [] [] (by simp) rfl (by intro j i h; simp at h) j i h

theorem okEdges_lt : ∀ (L : List Oper) (k : Nat), okEdges k L = true → ∀ j o, L[j]? = some o → ∀ e ∈ o.after.toList, Region.binds .any e = true → e.on < k + j
  | [], _, _, _, _, h, _, _, _ => by simp at h
  | o :: L, k, h, j, o', ho, e, he, hb => by
    simp only [okEdges, Bool.and_eq_true, List.all_eq_true] at h
    cases j with
    | zero =>
      simp at ho
      subst ho
      have := h.1 e he
      simp only [hb, Bool.not_true, Bool.false_or, Nat.blt_eq] at this
      omega
    | succ j =>
      have := okEdges_lt L (k + 1) h.2 j o' (by simpa using ho) e he hb
      omega

theorem okOps_get {P : Program} {ops : Array Oper} : ∀ {L : List Oper} {l : List O}, okOps P ops L l = true → L.length = l.length ∧ ∀ (i : Nat) (x : Oper), L[i]? = some x → ∃ y, l[i]? = some y ∧ okO P ops x y = true
  | [], [], _ => ⟨rfl, fun i x h => by simp at h⟩
  | [], _ :: _, h => by simp [okOps] at h
  | _ :: _, [], h => by simp [okOps] at h
  | a :: L, b :: l, h => by
    simp only [okOps, Bool.and_eq_true] at h
    obtain ⟨e, q⟩ := okOps_get h.2
    refine ⟨by simp [e], fun i x hx => ?_⟩
    cases i with
    | zero => simp at hx; subst hx; exact ⟨b, by simp, h.1⟩
    | succ i => simpa using q i x (by simpa using hx)

/-! ### The orders that may be drawn -/
theorem go_acc (m : Region.Mode) (ops : Array Oper) : ∀ (fuel t : Nat) (listed : Array Bool) (acc : List Nat), Region.linearise.go m ops fuel t listed acc = acc.reverse ++ Region.linearise.go m ops fuel t listed []
  | 0, t, listed, acc => by simp [Region.linearise.go]
  | fuel + 1, t, listed, acc => by
    simp only [Region.linearise.go]
    split
    · rename_i i _
      rw [go_acc m ops fuel _ _ (i :: acc), go_acc m ops fuel _ _ [i]]
      simp
    · simp

def unl (N : Nat) (listed : Array Bool) : List Nat := (List.range N).filter fun i => !listed.getD i true

theorem unl_less {N i : Nat} {listed : Array Bool} (hi : i < N) (hs : listed.size = N) (hl : listed.getD i true = false) : (unl N (listed.setIfInBounds i true)).length < (unl N listed).length := by
  have e : unl N (listed.setIfInBounds i true) = (unl N listed).filter fun j => j != i := by
    unfold unl
    rw [List.filter_filter]
    apply List.filter_congr
    intro j _
    by_cases hj : j = i
    · subst hj
      simp [Array.getD_eq_getD_getElem?, hs, hi]
    · have : (listed.setIfInBounds i true).getD j true = listed.getD j true := by
        simp only [Array.getD_eq_getD_getElem?]
        rw [Array.getElem?_setIfInBounds_ne (Ne.symm hj)]
      rw [this]
      simp [hj]
  rw [e]
  exact List.length_filter_lt_length_iff_exists.2 ⟨i, by simp only [unl, List.mem_filter, List.mem_range]; exact ⟨hi, by rw [hl]; rfl⟩, by simp⟩

section
open Classical
variable {P : Program} {call : V → List V → H → RO} {N : Nat} {o : Nat → O} {ft : Nat → Foot} {T : Nat → List V} {S : Nat → H}
variable {D : Nat → Prop} {i j n b x : Nat} {mk : Nat} {R0 R R' : Emb} {w0 w w' : World} {a : Act}

theorem order_wp {ops : Array Oper} {ro : Option Nat} {Q : Exit → Act → World → Prop} (hc : CallSnd P call) (hr : Run N o ft T S call (Prec ops)) (hN : ops.size = N)
    (hok : ∀ i x, ops[i]? = some x → okO P ops x (o i) = true) (hedge : ∀ j x, ops[j]? = some x → ∀ e ∈ x.after.toList, Region.binds .any e = true → e.on < j)
    (hQ : ∀ D R w a, (∀ j, j < N → D j) → Inv P N o ft T S mk R0 w0 D R w a → Q .normal a w) :
    ∀ (fuel t : Nat) (listed : Array Bool) (D : Nat → Prop) (R : Emb) (w : World) (a : Act), listed.size = N → (∀ j, j < N → (listed.getD j true = true ↔ D j)) → (unl N listed).length ≤ fuel →
      (∀ j p, D j → Prec ops p j → D p) → Inv P N o ft T S mk R0 w0 D R w a → wpOpsIn (Wd ro) n P ops Q (Region.linearise.go .any ops fuel t listed []) a w
  | 0, t, listed, D, R, w, a, hs, hl, hu, hcl, I => by
    simp only [Region.linearise.go, List.reverse_nil, wpOpsIn]
    refine hQ D R w a (fun j hj => ?_) I
    rw [← hl j hj]
    refine Classical.byContradiction fun hne => ?_
    have : j ∈ unl N listed := by
      simp only [unl, List.mem_filter, List.mem_range]
      exact ⟨hj, by simpa using hne⟩
    have := List.length_pos_of_mem this
    omega
  | fuel + 1, t, listed, D, R, w, a, hs, hl, hu, hcl, I => by
    simp only [Region.linearise.go]
    split
    · rename_i i hi
      have hmem := List.mem_of_getElem? hi
      simp only [List.mem_filter, List.mem_range, Bool.and_eq_true, Bool.not_eq_true'] at hmem
      obtain ⟨hiN, hli, hrdy⟩ := hmem
      rw [hN] at hiN
      rw [go_acc]
      simp only [List.reverse_cons, List.reverse_nil, List.nil_append, List.singleton_append]
      cases hop : ops[i]? with
      | none => rw [hop] at hrdy; simp at hrdy
      | some x =>
        rw [hop] at hrdy
        simp only [Option.map_some, Option.getD_some, Array.all_eq_true'] at hrdy
        have hdir : ∀ e ∈ x.after.toList, Region.binds .any e = true → D e.on := by
          intro e he hb
          have h1 := hrdy e (by simpa using he)
          simp only [hb, Bool.not_true, Bool.false_or] at h1
          have hlt : e.on < N := by have := hedge i x hop e he hb; omega
          rw [← hl e.on hlt]
          rw [Array.getD_eq_getD_getElem?] at h1 ⊢
          cases hq : listed[e.on]? with
          | none => rfl
          | some v => rw [hq] at h1; exact h1
        have hnot : ¬ D i := by
          rw [← hl i hiN, hli]; simp
        have hn : Nxt N (Prec ops) D i := by
          refine ⟨hiN, hnot, ?_, hcl, I.sub⟩
          intro p hp
          cases hp with
          | one h1 h2 h3 =>
            rw [hop] at h1; cases h1
            exact hdir _ h2 h3
          | more h1 h2 h3 h4 =>
            rw [hop] at h1; cases h1
            exact hcl _ _ (hdir _ h2 h3) h4
        have hcl' : ∀ j p, more D i j → Prec ops p j → more D i p := by
          rintro j p (h | rfl) hp
          · exact .inl (hcl j p h hp)
          · exact .inl (hn.pre p hp)
        have next : ∀ R w a, Inv P N o ft T S mk R0 w0 (more D i) R w a →
            wpOpsIn (Wd ro) n P ops Q (Region.linearise.go .any ops fuel (t / ((List.range ops.size).filter fun i => !listed.getD i true && ((ops[i]?).map (·.after.all fun e => !Region.binds .any e || listed.getD e.on false)).getD false).length) (listed.setIfInBounds i true) []) a w := by
          intro R w a I'
          refine order_wp hc hr hN hok hedge hQ fuel _ _ (more D i) R w a (by simpa using hs) ?_ ?_ hcl' I'
          · intro j hj
            by_cases hji : j = i
            · subst hji
              simp [more, Array.getD_eq_getD_getElem?, hs, hj]
            · rw [more_off hji, ← hl j hj]
              simp only [Array.getD_eq_getD_getElem?]
              rw [Array.getElem?_setIfInBounds_ne (Ne.symm hji)]
          · have := unl_less hiN hs hli
            omega
        have hoi := hok i x hop
        simp only [okO, Bool.and_eq_true] at hoi
        obtain ⟨⟨hdst, hg⟩, hopa⟩ := hoi
        obtain ⟨th, h1, h2, h3⟩ := I.tm
        have huse : ∀ y ∈ usesO (o i), nth th y = nth (T i) y := fun y hy => by rw [h3 y, hn.tmp hr hy]
        have hw : wants (o i).g th = wants (o i).g (T i) := wants_congr fun y hy => huse y (by
          unfold usesO
          exact List.mem_append.2 (.inr hy))
        have huo : ∀ y ∈ uses (o i).op, nth th y = nth (T i) y := fun y hy => huse y (by
          unfold usesO
          exact List.mem_append.2 (.inl hy))
        simp only [wpOpsIn, hop]
        rw [wanted_iff hg h1, hw]
        cases hwt : wants (o i).g (T i) with
        | false =>
          simp only [Bool.false_eq_true, if_false]
          exact ⟨fun _ _ => trivial, next R w _ (I.skip hr hn hdst hwt)⟩
        | true =>
          simp only [if_true]
          rcases (hr.at' i hiN).run with ⟨_, v, hh, hev, hT, hS, hrd, hwr, hwfh0⟩ | ⟨hwf, _⟩
          · have hwfi : WF ⟨(S i).next, (S i).mem, []⟩ := ⟨(hr.wfs i (by omega)).1, fun _ hb => by simp at hb⟩
            have hev' : evA call (o i).op th ⟨(S i).next, (S i).mem, []⟩ = .ok v hh := by rw [evA_congr huo]; exact hev
            refine op_wp hc hopa (envOk_of h1) (h := ⟨(S i).next, (S i).mem, []⟩) (F := footF ft S i) (I.sim_at hr hn) ?_ ?_ hwfi hev' ?_
            · rw [reads_congr huo, ← hrd]
              cases hq : (ft i).rd with
              | none => intro b r hr'; rw [hq] at hr'; cases hr'
              | some r =>
                intro b hb r' hr'
                rw [hq] at hr'
                cases hr'
                exact .inl hb
            · intro b hb1 hb2
              exact I.fresh hr hn ⟨hb1, by rw [hS]; exact hb2⟩
            · intro u w' hp
              have hwfh : WF hh := hwfh0 (hr.wfs i (by omega))
              obtain ⟨R', I'⟩ := I.done hr hn hdst h1 h2 h3 hT hS hwr hwfh hp
              exact next R' w' _ I'
          · rw [hwt] at hwf; cases hwf
    · -- nothing is ready: all is done
      rename_i hno
      simp only [List.reverse_nil, wpOpsIn]
      refine hQ D R w a (fun j hj => ?_) I
      rw [← hl j hj]
      induction j using Nat.strongRecOn with
      | _ j ih =>
        refine Classical.byContradiction fun hne => ?_
        have hop : ops[j]? = some (ops[j]'(by omega)) := by simp [hN, hj]
        have hin : j ∈ (List.range ops.size).filter fun i => !listed.getD i true && ((ops[i]?).map (·.after.all fun e => !Region.binds .any e || listed.getD e.on false)).getD false := by
          simp only [List.mem_filter, List.mem_range, Bool.and_eq_true, Bool.not_eq_true']
          refine ⟨by omega, by simpa using hne, ?_⟩
          rw [hop]
          simp only [Option.map_some, Option.getD_some, Array.all_eq_true']
          intro e he
          cases hb : Region.binds .any e with
          | false => rfl
          | true =>
            have hlt := hedge j _ hop e (by simpa using he) hb
            have := ih e.on hlt (by omega)
            simp only [Bool.not_true, Bool.false_or]
            rw [Array.getD_eq_getD_getElem?] at this ⊢
            rw [Array.getElem?_eq_getElem (by omega)] at this ⊢
            exact this
        have hpos := List.length_pos_of_mem hin
        rw [List.getElem?_eq_none_iff] at hno
        have := Nat.mod_lt t hpos
        omega
end
end Go.Air
