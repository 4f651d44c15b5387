/-
  A part of the proof of: The row of BulletinTexts and its tied card, out of the lifted form.
-/
import Derived.Lib.AtoiAllCases
import Derived.Shelf.Strings.CaseAny
import Derived.Test.YtekdhcpjoeikkaaGreatDoorTxC
set_option linter.unusedSectionVars false
set_option linter.unusedVariables false
set_option linter.unusedSimpArgs false
namespace Go.Air
inductive Prec (ops : Array Oper) : Nat → Nat → Prop
  | one {j : Nat} {o : Oper} {e : Edge} : ops[j]? = some o → e ∈ o.after.toList → Region.binds .any e = true → Prec ops e.on j
  | more {i j : Nat} {o : Oper} {e : Edge} : ops[j]? = some o → e ∈ o.after.toList → Region.binds .any e = true → Prec ops i e.on → Prec ops i j
theorem bits_inner (acc : List Nat) (i : Nat) : ∀ (l : List Edge) (s : Nat), (l.foldl (fun s e => if Region.binds .any e then s ||| 2 ^ e.on ||| acc.getD e.on 0 else s) s).testBit i = true →
    s.testBit i = true ∨ ∃ e ∈ l, Region.binds .any e = true ∧ (i = e.on ∨ (acc.getD e.on 0).testBit i = true)
  | [], s, h => .inl h
  | e :: l, s, h => by
    simp only [List.foldl_cons] at h
    rcases bits_inner acc i l _ h with h | ⟨e', h1, h2⟩
    · split at h
      · rename_i hb
        simp only [Nat.testBit_or, Bool.or_eq_true, Nat.testBit_two_pow, decide_eq_true_eq] at h
        rcases h with (h | h) | h
        · exact .inl h
        · exact .inr ⟨e, by simp, hb, .inl h.symm⟩
        · exact .inr ⟨e, by simp, hb, .inr h⟩
      · exact .inl h
    · exact .inr ⟨e', by simp [h1], h2⟩
theorem bits_outer {ops : Array Oper} : ∀ (L pre : List Oper) (acc : List Nat), ops.toList = pre ++ L → acc.length = pre.length → (∀ j i, (acc.getD j 0).testBit i = true → Prec ops i j) →
    ∀ j i, ((L.foldl (fun acc o => acc ++ [o.after.toList.foldl (fun s e => if Region.binds .any e then s ||| 2 ^ e.on ||| acc.getD e.on 0 else s) 0]) acc).getD j 0).testBit i = true → Prec ops i j
  | [], _, _, _, _, h => h
  | o :: L, pre, acc, he, hl, h => by
    simp only [List.foldl_cons]
    refine bits_outer L (pre ++ [o]) _ (by simp [he]) (by simp [hl]) ?_
    intro j i hb
    rcases Nat.lt_trichotomy j acc.length with hj | hj | hj
    · refine h j i ?_
      rw [List.getD_eq_getElem?_getD, List.getElem?_append_left hj] at hb
      rw [List.getD_eq_getElem?_getD]; exact hb
    · subst hj
      rw [List.getD_eq_getElem?_getD, List.getElem?_append_right (Nat.le_refl _)] at hb
      simp only [Nat.sub_self, List.getElem?_cons_zero, Option.getD_some] at hb
      have ho : ops[acc.length]? = some o := by
        rw [← Array.getElem?_toList, he, hl, List.getElem?_append_right (Nat.le_refl _)]
        simp
      rcases bits_inner acc i _ _ hb with hb | ⟨e, h1, h2, h3 | h3⟩
      · simp at hb
      · rw [h3]; exact .one ho h1 h2
      · exact .more ho h1 h2 (h _ _ h3)
    · rw [List.getD_eq_getElem?_getD, List.getElem?_eq_none (by simp; omega)] at hb
      simp at hb
theorem bits_prec {ops : Array Oper} {i j : Nat} (h : ((bitsBefore ops).getD j 0).testBit i = true) : Prec ops i j :=
  bits_outer ops.toList [] [] (by simp) rfl (by intro j i h; simp at h) j i h
theorem okEdges_lt : ∀ (L : List Oper) (k : Nat), okEdges k L = true → ∀ j o, L[j]? = some o → ∀ e ∈ o.after.toList, Region.binds .any e = true → e.on < k + j
  | [], _, _, _, _, h, _, _, _ => by simp at h
  | o :: L, k, h, j, o', ho, e, he, hb => by
    simp only [okEdges, Bool.and_eq_true, List.all_eq_true] at h
    cases j with
    | zero =>
      simp at ho
      subst ho
      have := h.1 e he
      simp only [hb, Bool.not_true, Bool.false_or, Nat.blt_eq] at this
      omega
    | succ j =>
      have := okEdges_lt L (k + 1) h.2 j o' (by simpa using ho) e he hb
      omega
theorem okOps_get {P : Program} {ops : Array Oper} : ∀ {L : List Oper} {l : List O}, okOps P ops L l = true → L.length = l.length ∧ ∀ (i : Nat) (x : Oper), L[i]? = some x → ∃ y, l[i]? = some y ∧ okO P ops x y = true
  | [], [], _ => ⟨rfl, fun i x h => by simp at h⟩
  | [], _ :: _, h => by simp [okOps] at h
  | _ :: _, [], h => by simp [okOps] at h
  | a :: L, b :: l, h => by
    simp only [okOps, Bool.and_eq_true] at h
    obtain ⟨e, q⟩ := okOps_get h.2
    refine ⟨by simp [e], fun i x hx => ?_⟩
    cases i with
    | zero => simp at hx; subst hx; exact ⟨b, by simp, h.1⟩
    | succ i => simpa using q i x (by simpa using hx)
theorem go_acc (m : Region.Mode) (ops : Array Oper) : ∀ (fuel t : Nat) (listed : Array Bool) (acc : List Nat), Region.linearise.go m ops fuel t listed acc = acc.reverse ++ Region.linearise.go m ops fuel t listed []
  | 0, t, listed, acc => by simp [Region.linearise.go]
  | fuel + 1, t, listed, acc => by
    simp only [Region.linearise.go]
    split
    · rename_i i _
      rw [go_acc m ops fuel _ _ (i :: acc), go_acc m ops fuel _ _ [i]]
      simp
    · simp
def unl (N : Nat) (listed : Array Bool) : List Nat := (List.range N).filter fun i => !listed.getD i true
theorem unl_less {N i : Nat} {listed : Array Bool} (hi : i < N) (hs : listed.size = N) (hl : listed.getD i true = false) : (unl N (listed.setIfInBounds i true)).length < (unl N listed).length := by
  have e : unl N (listed.setIfInBounds i true) = (unl N listed).filter fun j => j != i := by
    unfold unl
    rw [List.filter_filter]
    apply List.filter_congr
    intro j _
    by_cases hj : j = i
    · subst hj
      simp [Array.getD_eq_getD_getElem?, hs, hi]
    · have : (listed.setIfInBounds i true).getD j true = listed.getD j true := by
        simp only [Array.getD_eq_getD_getElem?]
        rw [Array.getElem?_setIfInBounds_ne (Ne.symm hj)]
      rw [this]
      simp [hj]
  rw [e]
  exact List.length_filter_lt_length_iff_exists.2 ⟨i, by simp only [unl, List.mem_filter, List.mem_range]; exact ⟨hi, by rw [hl]; rfl⟩, by simp⟩
section
open Classical
variable {P : Program} {call : V → List V → H → RO} {N : Nat} {o : Nat → O} {ft : Nat → Foot} {T : Nat → List V} {S : Nat → H}
variable {D : Nat → Prop} {i j n b x : Nat} {mk : List Deferred × Nat} {R0 R R' : Emb} {w0 w w' : World} {a : Act}
theorem order_wp {ops : Array Oper} {ro : Option Nat} {Q : Exit → Act → World → Prop} (hc : CallSnd P call) (hr : Run N o ft T S call (Prec ops)) (hN : ops.size = N)
    (hok : ∀ i x, ops[i]? = some x → okO P ops x (o i) = true) (hedge : ∀ j x, ops[j]? = some x → ∀ e ∈ x.after.toList, Region.binds .any e = true → e.on < j)
    (hQ : ∀ D R w a, (∀ j, j < N → D j) → Inv P N o ft T S mk R0 w0 D R w a → Q .normal a w) :
    ∀ (fuel t : Nat) (listed : Array Bool) (D : Nat → Prop) (R : Emb) (w : World) (a : Act), listed.size = N → (∀ j, j < N → (listed.getD j true = true ↔ D j)) → (unl N listed).length ≤ fuel →
      (∀ j p, D j → Prec ops p j → D p) → Inv P N o ft T S mk R0 w0 D R w a → wpOpsIn (Wd ro) n P ops Q (Region.linearise.go .any ops fuel t listed []) a w
  | 0, t, listed, D, R, w, a, hs, hl, hu, hcl, I => by
    simp only [Region.linearise.go, List.reverse_nil, wpOpsIn]
    refine hQ D R w a (fun j hj => ?_) I
    rw [← hl j hj]
    refine Classical.byContradiction fun hne => ?_
    have : j ∈ unl N listed := by
      simp only [unl, List.mem_filter, List.mem_range]
      exact ⟨hj, by simpa using hne⟩
    have := List.length_pos_of_mem this
    omega
  | fuel + 1, t, listed, D, R, w, a, hs, hl, hu, hcl, I => by
    simp only [Region.linearise.go]
    split
    · rename_i i hi
      have hmem := List.mem_of_getElem? hi
      simp only [List.mem_filter, List.mem_range, Bool.and_eq_true, Bool.not_eq_true'] at hmem
      obtain ⟨hiN, hli, hrdy⟩ := hmem
      rw [hN] at hiN
      rw [go_acc]
      simp only [List.reverse_cons, List.reverse_nil, List.nil_append, List.singleton_append]
      cases hop : ops[i]? with
      | none => rw [hop] at hrdy; simp at hrdy
      | some x =>
        rw [hop] at hrdy
        simp only [Option.map_some, Option.getD_some, Array.all_eq_true'] at hrdy
        have hdir : ∀ e ∈ x.after.toList, Region.binds .any e = true → D e.on := by
          intro e he hb
          have h1 := hrdy e (by simpa using he)
          simp only [hb, Bool.not_true, Bool.false_or] at h1
          have hlt : e.on < N := by have := hedge i x hop e he hb; omega
          rw [← hl e.on hlt]
          rw [Array.getD_eq_getD_getElem?] at h1 ⊢
          cases hq : listed[e.on]? with
          | none => rfl
          | some v => rw [hq] at h1; exact h1
        have hnot : ¬ D i := by
          rw [← hl i hiN, hli]; simp
        have hn : Nxt N (Prec ops) D i := by
          refine ⟨hiN, hnot, ?_, hcl, I.sub⟩
          intro p hp
          cases hp with
          | one h1 h2 h3 =>
            rw [hop] at h1; cases h1
            exact hdir _ h2 h3
          | more h1 h2 h3 h4 =>
            rw [hop] at h1; cases h1
            exact hcl _ _ (hdir _ h2 h3) h4
        have hcl' : ∀ j p, more D i j → Prec ops p j → more D i p := by
          rintro j p (h | rfl) hp
          · exact .inl (hcl j p h hp)
          · exact .inl (hn.pre p hp)
        have next : ∀ R w a, Inv P N o ft T S mk R0 w0 (more D i) R w a →
            wpOpsIn (Wd ro) n P ops Q (Region.linearise.go .any ops fuel (t / ((List.range ops.size).filter fun i => !listed.getD i true && ((ops[i]?).map (·.after.all fun e => !Region.binds .any e || listed.getD e.on false)).getD false).length) (listed.setIfInBounds i true) []) a w := by
          intro R w a I'
          refine order_wp hc hr hN hok hedge hQ fuel _ _ (more D i) R w a (by simpa using hs) ?_ ?_ hcl' I'
          · intro j hj
            by_cases hji : j = i
            · subst hji
              simp [more, Array.getD_eq_getD_getElem?, hs, hj]
            · rw [more_off hji, ← hl j hj]
              simp only [Array.getD_eq_getD_getElem?]
              rw [Array.getElem?_setIfInBounds_ne (Ne.symm hji)]
          · have := unl_less hiN hs hli
            omega
        have hoi := hok i x hop
        simp only [okO, Bool.and_eq_true] at hoi
        obtain ⟨⟨hdst, hg⟩, hopa⟩ := hoi
        obtain ⟨th, h1, h2, h3⟩ := I.tm
        have huse : ∀ y ∈ usesO (o i), nth th y = nth (T i) y := fun y hy => by rw [h3 y, hn.tmp hr hy]
        have hw : wants (o i).g th = wants (o i).g (T i) := wants_congr fun y hy => huse y (by
          unfold usesO
          exact List.mem_append.2 (.inr hy))
        have huo : ∀ y ∈ uses (o i).op, nth th y = nth (T i) y := fun y hy => huse y (by
          unfold usesO
          exact List.mem_append.2 (.inl hy))
        simp only [wpOpsIn, hop]
        rw [wanted_iff hg h1, hw]
        cases hwt : wants (o i).g (T i) with
        | false =>
          simp only [Bool.false_eq_true, if_false]
          exact ⟨fun _ _ => trivial, next R w _ (I.skip hr hn hdst hwt)⟩
        | true =>
          simp only [if_true]
          rcases (hr.at' i hiN).run with ⟨_, v, hh, hev, hT, hS, hrd, hwr, hwfh0⟩ | ⟨hwf, _⟩
          · have hwfi : WF ⟨(S i).next, (S i).mem, []⟩ := ⟨(hr.wfs i (by omega)).1, fun _ hb => by simp at hb⟩
            have hev' : evA call (o i).op th ⟨(S i).next, (S i).mem, []⟩ = .ok v hh := by rw [evA_congr huo]; exact hev
            refine op_wp hc hopa (envOk_of h1) (h := ⟨(S i).next, (S i).mem, []⟩) (F := footF ft S i) (I.sim_at hr hn) ?_ ?_ hwfi hev' RO.gives_ok ?_ (fun v' x w' hv _ => by cases hv)
            · rw [reads_congr huo, ← hrd]
              cases hq : (ft i).rd with
              | none => intro b r hr'; rw [hq] at hr'; cases hr'
              | some r =>
                intro b hb r' hr'
                rw [hq] at hr'
                cases hr'
                exact .inl hb
            · intro b hb1 hb2
              exact I.fresh hr hn ⟨hb1, by rw [hS]; exact hb2⟩
            · intro v' u w' hv hp
              simp only [RO.ok.injEq] at hv
              obtain ⟨rfl, _⟩ := hv
              have hwfh : WF hh := hwfh0 (hr.wfs i (by omega))
              obtain ⟨R', I'⟩ := I.done hr hn hdst h1 h2 h3 hT hS hwr hwfh hp
              exact next R' w' _ I'
          · rw [hwt] at hwf; cases hwf
    ·
      rename_i hno
      simp only [List.reverse_nil, wpOpsIn]
      refine hQ D R w a (fun j hj => ?_) I
      rw [← hl j hj]
      induction j using Nat.strongRecOn with
      | _ j ih =>
        refine Classical.byContradiction fun hne => ?_
        have hop : ops[j]? = some (ops[j]'(by omega)) := by simp [hN, hj]
        have hin : j ∈ (List.range ops.size).filter fun i => !listed.getD i true && ((ops[i]?).map (·.after.all fun e => !Region.binds .any e || listed.getD e.on false)).getD false := by
          simp only [List.mem_filter, List.mem_range, Bool.and_eq_true, Bool.not_eq_true']
          refine ⟨by omega, by simpa using hne, ?_⟩
          rw [hop]
          simp only [Option.map_some, Option.getD_some, Array.all_eq_true']
          intro e he
          cases hb : Region.binds .any e with
          | false => rfl
          | true =>
            have hlt := hedge j _ hop e (by simpa using he) hb
            have := ih e.on hlt (by omega)
            simp only [Bool.not_true, Bool.false_or]
            rw [Array.getD_eq_getD_getElem?] at this ⊢
            rw [Array.getElem?_eq_getElem (by omega)] at this ⊢
            exact this
        have hpos := List.length_pos_of_mem hin
        rw [List.getElem?_eq_none_iff] at hno
        have := Nat.mod_lt t hpos
        omega
end
end Go.Air
namespace Go.Air
section
open Classical
variable {P : Program} {call : V → List V → H → RO} {N : Nat} {o : Nat → O} {ft : Nat → Foot} {T : Nat → List V} {S : Nat → H} {pr : Nat → Nat → Prop}
variable {D : Nat → Prop} {mk : List Deferred × Nat} {R0 R : Emb} {w0 w : World} {a : Act}
theorem list_nth_ext : ∀ {a b : List V}, a.length = b.length → (∀ x, nth a x = nth b x) → a = b
  | [], [], _, _ => rfl
  | [], _ :: _, h, _ => by simp at h
  | _ :: _, [], h, _ => by simp at h
  | x :: a, y :: b, h, hx => by
    have h0 : x = y := hx 0
    rw [h0, list_nth_ext (by simpa using h) fun n => hx (n + 1)]
theorem Run.logs (hr : Run N o ft T S call pr) : ∀ (n : Nat), n ≤ N → ∃ L, (S n).log = L ++ (S 0).log ∧ ∀ b, b ∈ L ↔ ∃ j, j < n ∧ b ∈ (ft j).wr
  | 0, _ => ⟨[], rfl, fun b => by simp⟩
  | n + 1, hn => by
    obtain ⟨L, h1, h2⟩ := hr.logs n (by omega)
    refine ⟨(ft n).wr ++ L, by rw [(hr.at' n (by omega)).log, h1, List.append_assoc], fun b => ?_⟩
    rw [List.mem_append, h2 b]
    constructor
    · rintro (h | ⟨j, hj, h⟩)
      · exact ⟨n, by omega, h⟩
      · exact ⟨j, by omega, h⟩
    · rintro ⟨j, hj, h⟩
      rcases Nat.eq_or_lt_of_le (Nat.le_of_lt_succ hj) with rfl | hj
      · exact .inl h
      · exact .inr ⟨j, hj, h⟩
theorem Run.kept (hr : Run N o ft T S call pr) {b : Nat} (hb : b < (S 0).next) : ∀ (n : Nat), n ≤ N → (∀ j, j < n → b ∉ (ft j).wr) → (S n).get b = (S 0).get b
  | 0, _, _ => rfl
  | n + 1, hn, h => by
    rw [(hr.at' n (by omega)).same b (Nat.lt_of_lt_of_le hb (hr.nx n 0 (by omega) (by omega))) (h n (by omega))]
    exact hr.kept hb n (by omega) fun j hj => h j (by omega)
theorem Run.lived (hr : Run N o ft T S call pr) {b : Nat} (hb : b < (S 0).next) : ∀ (n : Nat), n ≤ N → (∃ y, (S n).get b = some y) → ∃ y, (S 0).get b = some y
  | 0, _, h => h
  | n + 1, hn, ⟨y, hy⟩ => by
    refine hr.lived hb n (by omega) ?_
    by_cases h : b ∈ (ft n).wr
    · exact ((hr.at' n (by omega)).had b h).2
    · rw [(hr.at' n (by omega)).same b (Nat.lt_of_lt_of_le hb (hr.nx n 0 (by omega) (by omega))) h] at hy
      exact ⟨y, hy⟩
theorem Inv.fin (hr : Run N o ft T S call pr) (hall : ∀ j, j < N → D j) (I : Inv P N o ft T S mk R0 w0 D R w a) : PostA P mk.1 mk.2 R0 (S 0) w0 (T N) (S N) a w := by
  obtain ⟨L, h1, h2⟩ := hr.logs N (Nat.le_refl _)
  obtain ⟨th, q1, q2, q3⟩ := I.tm
  have hth : th = T N := by
    refine list_nth_ext (by rw [q2, hr.len N (Nat.le_refl _)]) fun x => ?_
    rw [q3, vt_text hr N (Nat.le_refl _) fun j hj _ => hall j hj]
  have hv : (fun b => ver ft S D b N) = (S N).get := by
    funext b
    exact ver_text hr N (Nat.le_refl _) fun j hj _ => hall j hj
  refine ⟨R, L, rfl, ⟨I.le, h1, hr.nx N 0 (Nat.zero_le _) (Nat.le_refl _), I.size, ?_, ?_, ?_, ?_, I.io⟩, hv ▸ I.sim, hth ▸ q1, I.marks⟩
  · intro b c sz hb
    rcases I.new b c sz hb with h | ⟨p1, p2, p3 | ⟨b0, s0, p3, p4⟩⟩
    · exact .inl h
    · exact .inr ⟨p1, p2, .inl p3⟩
    · exact .inr ⟨p1, p2, .inr ⟨b0, s0, p3, (h2 b0).2 p4⟩⟩
  · intro b hb hl
    exact hr.kept hb N (Nat.le_refl _) fun j hj hm => hl ((h2 b).2 ⟨j, hj, hm⟩)
  · intro c hc hno
    exact I.frame c hc fun b sz hb hm => hno b sz hb ((h2 b).2 hm)
  · intro b hb
    obtain ⟨j, hj, hm⟩ := (h2 b).1 hb
    obtain ⟨⟨c, sz⟩, hy⟩ := I.own j (hall j hj) b hm
    rcases I.new b c sz hy with h | ⟨p1, p2, _⟩
    · exact .inr ⟨⟨_, h⟩, fun hlt => hr.lived hlt j (by omega) ((hr.at' j hj).had b hm).2⟩
    · exact .inl ⟨p1, p2⟩
theorem apart_mem {f g : Foot} (h : apart f g = true) : Mem f g ∧ Mem g f := by
  simp only [apart, Bool.and_eq_true, List.all_eq_true, Bool.not_eq_true', List.contains_eq_mem, decide_eq_false_iff_not] at h
  obtain ⟨⟨h1, h2⟩, h3⟩ := h
  constructor
  · intro b hb
    refine ⟨fun r hr => ?_, fun hr => ?_, h3 b hb⟩
    · rw [hr] at h1
      simp only [List.all_eq_true, Bool.not_eq_true', decide_eq_false_iff_not] at h1
      exact h1 b hb
    · rw [hr] at h1
      simp only [List.isEmpty_iff] at h1
      rw [h1] at hb; simp at hb
  · intro b hb
    refine ⟨fun r hr => ?_, fun hr => ?_, fun hb' => h3 b hb' hb⟩
    · rw [hr] at h2
      simp only [List.all_eq_true, Bool.not_eq_true', decide_eq_false_iff_not] at h2
      exact h2 b hb
    · rw [hr] at h2
      simp only [List.isEmpty_iff] at h2
      rw [h2] at hb; simp at hb
theorem draw_snd (hmix : P.follows .mixedOrders = true) (call : V → List V → H → RO) (hc : CallSnd P call) (hk : KeepC call) : DrawSnd P call := by
  intro ops l crit t h t' h' f R w a D0 m n ro Q order hok hdr hrun hcrit hs hfr hw ht hm hQ
  obtain ⟨fs, hfs, hch⟩ := chain_of hk l t h [] t' h' f hrun
  simp only [List.nil_append] at hfs
  subst hfs
  obtain ⟨hlen, T, S, e1, e2, e3, e4, hat⟩ := hch.states
  obtain ⟨hol, hoget⟩ := okOps_get hok
  have hN : ops.size = l.length := by simpa using hol
  let o : Nat → O := fun i => l.getD i default
  let ft : Nat → Foot := fun i => f.getD i ⟨none, []⟩
  have ho : ∀ i, i < l.length → l[i]? = some (o i) := fun i hi => by simp [o, List.getD_eq_getElem?_getD, hi]
  have hf : ∀ i, i < l.length → f[i]? = some (ft i) := fun i hi => by
    have : i < f.length := by omega
    simp [ft, List.getD_eq_getElem?_getD, this]
  simp only [okDraw, Bool.and_eq_true] at hdr
  obtain ⟨hed, hpairs⟩ := hdr
  have hat' : ∀ i, i < l.length → At call (o i) (T i) (S i) (T (i + 1)) (S (i + 1)) (ft i) := fun i hi => hat i _ _ (ho i hi) (hf i hi)
  have hr : Run l.length o ft T S call (Prec ops) := by
    refine ⟨hat', ?_, by rw [e2]; exact hw⟩
    intro i j hij hj hnp
    simp only [okPairs, List.all_eq_true, List.mem_range] at hpairs
    have hp := hpairs j hj i hij
    rw [Bool.or_eq_true] at hp
    have hp := hp.resolve_left fun hb => hnp (bits_prec hb)
    rw [ho i (by omega), ho j hj] at hp
    simp only [free, Bool.and_eq_true, Bool.not_eq_true', Bool.or_eq_true] at hp
    obtain ⟨⟨hd1, hd2⟩, hmem⟩ := hp
    have hmm : Mem (ft i) (ft j) ∧ Mem (ft j) (ft i) := by
      rcases hmem with hseen | hcls
      · rw [List.any_eq_true] at hseen
        obtain ⟨⟨p, q⟩, hpq, hpe⟩ := hseen
        simp only [Bool.and_eq_true, Nat.beq_eq] at hpe
        obtain ⟨rfl, rfl⟩ := hpe
        simp only [critOk, List.all_eq_true] at hcrit
        have := hcrit (p, q) hpq
        simp only [hf p (by omega), hf q hj] at this
        exact apart_mem this
      · have idle : ∀ x y, x < l.length → cls (o x).op = .idle → Mem (ft x) (ft y) ∧ Mem (ft y) (ft x) := by
          intro x y hx hcl
          have := (hat' x hx).idle hcl
          rw [this]
          refine ⟨fun b hb => by simp at hb, fun b hb => ⟨fun r hr => ?_, by simp, by simp⟩⟩
          simp at hr
          subst hr
          simp
        cases hci : cls (o i).op with
        | idle => exact idle i j (by omega) hci
        | reads =>
          cases hcj : cls (o j).op with
          | idle => exact (idle j i hj hcj).symm
          | reads =>
            obtain ⟨w1, _⟩ := (hat' i (by omega)).rds (by rw [hci]; simp)
            obtain ⟨w2, _⟩ := (hat' j hj).rds (by rw [hcj]; simp)
            exact ⟨fun b hb => by rw [w1] at hb; simp at hb, fun b hb => by rw [w2] at hb; simp at hb⟩
          | writes => rw [hci, hcj] at hcls; simp at hcls
        | writes =>
          cases hcj : cls (o j).op with
          | idle => exact (idle j i hj hcj).symm
          | reads => rw [hci, hcj] at hcls; simp at hcls
          | writes => rw [hci, hcj] at hcls; simp at hcls
    refine ⟨fun d hd => ?_, fun d hd => ?_, hmm.1, hmm.2⟩
    · rw [hd] at hd1
      simp only [touches, List.contains_eq_mem, List.mem_append, decide_eq_false_iff_not, not_or] at hd1
      refine ⟨hd1.1, fun he => ?_⟩
      rw [he] at hd1
      simp at hd1
    · rw [hd] at hd2
      simpa [touches] using hd2
  have hsch : Region.schedule (P.follows .mixedOrders) ops order = Region.linearise .any ops order := by simp [Region.schedule, hmix]
  rw [hsch]
  unfold Region.linearise
  have I : Inv P l.length o ft T S (D0, m) R w (fun _ => False) R w a := by
    have hv : ∀ (D : Nat → Prop) b n, (∀ j, ¬ D j) → ver ft S D b n = (S 0).get b := by
      intro D b n hD
      induction n with
      | zero => rfl
      | succ n ih => rw [ver, if_neg (fun h => hD n h.1), ih]
    have ht' : ∀ (D : Nat → Prop) x n, (∀ j, ¬ D j) → vt o T D x n = nth (T 0) x := by
      intro D x n hD
      induction n with
      | zero => rfl
      | succ n ih => rw [vt, if_neg (fun h => hD n h.1), ih]
    refine ⟨fun _ h => h.elim, ⟨t, ht, by rw [e1], fun x => by rw [ht' _ x _ (fun _ h => h), e1]⟩, ?_, ?_, fun _ h => h.elim, Emb.le_refl R, Nat.le_refl _, fun _ _ _ h => .inl h, fun _ _ _ => rfl, hm, .refl w⟩
    · have : (fun b => ver ft S (fun _ => False) b l.length) = h.get := by
        funext b
        rw [hv _ b _ (fun _ h => h), e2]
      rw [this]; exact hs
    · intro b y hb
      rcases Nat.lt_or_ge b (S 0).next with h1 | h1
      · exact .inl h1
      · rcases Nat.lt_or_ge b (S l.length).next with h2 | h2
        · rw [hfr b (by rw [← e2]; exact h1) (by rw [← e4]; exact h2)] at hb; cases hb
        · exact .inr (.inl h2)
  refine order_wp hc hr hN ?_ ?_ ?_ ops.size order _ (fun _ => False) R w a (by simp [hN]) ?_ ?_ (fun _ _ h => h.elim) I
  · intro i x hx
    obtain ⟨y, h1, h2⟩ := hoget i x (by simpa using hx)
    have hi : i < l.length := (List.getElem?_eq_some_iff.1 h1).1
    rw [ho i hi] at h1
    cases h1
    exact h2
  · intro j x hx e he hb
    have := okEdges_lt ops.toList 0 hed j x (by simpa using hx) e he hb
    omega
  · intro D R' w' a' hall I'
    have := I'.fin hr hall
    rw [e2, e3, e4] at this
    exact hQ a' w' this
  · intro j hj
    have : (Array.replicate ops.size false).getD j true = false := by simp [Array.getD_eq_getD_getElem?, hN, hj]
    rw [this]
    simp
  · have h1 : (unl l.length (Array.replicate ops.size false)).length ≤ (List.range l.length).length := List.length_filter_le _ _
    simp at h1
    omega
end
theorem air_fn {P : Program} {tbl : Tb} (hmix : P.follows .mixedOrders = true) (htbl : ∀ k fi, tbl k = some fi → FnOk P tbl k fi) {k g : Nat} {args : List V} {vs : List Value} {R : Emb} {h h' : H} {w : World} {v : V}
    (hx : tbl.ext g = false) (he : callV tbl (E tbl k) (.fn g [] []) args h = .ok v h') (hs : Sim P allB R h.get w) (hfr : Fresh R h h') (hw : WF h) (hv : concL R args = some vs) :
    (callFunc g vs.toArray).run P w = .ok (.enter g vs.toArray) w ∧ ∀ ro n, CallsIn (Wd ro) n P g vs.toArray w (PostR P allB R h w (.ok v h')) := by
  have hall : ∀ j, j ≤ k → Snd P (E tbl j) := fun j hj => snd htbl (fun call => draw_snd hmix call) k j hj
  have := fn_snd hall (fun j hj => call_snd htbl j fun i hi => hall i (by omega)) htbl (fun _ _ h => by rw [hx] at h; cases h.1) he RO.gives_ok hs hfr hw (concL_nil R) (concL_nil R) hv
  rw [show ([] : List Value).toArray ++ vs.toArray ++ ([] : List Value).toArray = vs.toArray by simp] at this
  exact this
end Go.Air
set_option maxRecDepth 100000
namespace Go.Air
theorem prim_of {P : Program} {tbl : Tb} (hmix : P.follows .mixedOrders = true) (htbl : ∀ k fi, tbl k = some fi → FnOk P tbl k fi) {pr : Prims} {g m n : Nat} (hx : tbl.ext g = false)
    (H : ∀ (args : List V) (h : H) (v : V) (ob : Option Blk) (R : Emb) (w : World) (vs : List Value), WF h → pr n (pad args m) h = some (v, ob) → Sim P allB R h.get w → concL R args = some vs → ob = none ∧ (∀ R R' : Emb, conc R v = conc R' v) ∧
      ∃ (h2 : Air.H) (R2 : Emb), WF h2 ∧ Sim P allB R2 h2.get w ∧ (∀ b, h2.next ≤ b → R2 b = none) ∧ concL R2 args = some vs ∧ WC tbl (.fn g [] []) args h2 fun u h' => u = v ∧ ∃ l, h'.log = l ++ h2.log ∧ ∀ b ∈ l, h2.next ≤ b) : PrimOk P pr g (primFI m n) := by
  refine ⟨m, n, rfl, ?_⟩
  intro args h v ob R w vs hp hs hfr hw hargs
  obtain ⟨rfl, hflat, h2, R2, hw2, hs2, hf2, ha2, k, r, he, hq⟩ := H args h v ob R w vs hw hp hs hargs
  cases r with
  | fail => exact hq.elim
  | pan v h' => exact hq.elim
  | ok u h' =>
    obtain ⟨rfl, ext⟩ := hq
    obtain ⟨q1, q2⟩ := air_fn hmix htbl hx he hs2 (fun b hb _ => hf2 b hb) hw2 ha2
    refine ⟨q1, fun ro k => (q2 ro k).mono ?_⟩
    intro e w' q
    cases e with
    | panicked _ => exact q.elim
    | outgrown => exact q.elim
    | returned x =>
      obtain ⟨R', l, f, _, hc⟩ := q
      have hkeep : ∀ c, c < w.heap.size → w'.heap[c]? = w.heap[c]? := by
        intro c hc
        refine f.frame c hc fun b sz hb hl => ?_
        obtain ⟨l', e1, e2⟩ := ext
        have e3 := f.log
        rw [e1] at e3
        obtain rfl : l' = l := List.append_cancel_right e3
        rw [hf2 b (e2 b hl)] at hb
        cases hb
      refine ⟨R, [], ⟨R.le_refl, rfl, Nat.le_refl _, f.size, fun _ _ _ h => .inl h, fun _ _ _ => rfl, fun c hc _ => hkeep c hc, fun _ hb => by simp at hb, f.io⟩, ?_, (hflat R R').trans hc⟩
      exact ⟨fun b c sz x hF hb hx => BlkRel.mono P (Emb.le_refl R) (hs.blk b c sz x hF hb hx) (hkeep c (hs.lt b c sz hb)), hs.inj, fun b c sz hb => Nat.lt_of_lt_of_le (hs.lt b c sz hb) f.size, hs.fix⟩
theorem cutO_of : ∀ {cs : List (Option V)} {o n : Nat} {l : List V}, l.length = n → (∀ (i : Nat) (v : V), l[i]? = some v → cs[o + i]? = some (some v)) → o + n ≤ cs.length → cutO cs o n = some l
  | [], 0, 0, l, hl, _, _ => by
    obtain rfl := List.eq_nil_of_length_eq_zero hl
    rfl
  | _ :: _, 0, 0, l, hl, _, _ => by
    obtain rfl := List.eq_nil_of_length_eq_zero hl
    rfl
  | [], 0, n + 1, _, _, _, h => by simp at h
  | [], o + 1, n, _, _, _, h => by simp at h
  | x :: cs, 0, n + 1, l, hl, h, hle => by
    cases l with
    | nil => simp at hl
    | cons v l =>
      have h0 := h 0 v rfl
      simp only [Nat.add_zero, List.getElem?_cons_zero, Option.some.injEq] at h0
      subst h0
      have ih := cutO_of (cs := cs) (o := 0) (n := n) (l := l) (by simpa using hl) (fun i v hi => by
        have := h (i + 1) v (by simpa using hi)
        rw [show 0 + (i + 1) = (0 + i) + 1 by omega] at this
        simpa using this) (by simp at hle ⊢; omega)
      simp only [cutO, ih, Option.map_some]
  | x :: cs, o + 1, n, l, hl, h, hle => by
    simp only [cutO]
    refine cutO_of (o := o) hl (fun i v hi => ?_) (by simp at hle; omega)
    have := h i v hi
    rw [show o + 1 + i = (o + i) + 1 by omega] at this
    simpa using this
theorem nthO_get : ∀ {cs : List (Option V)} {o : Nat} {v : V}, nthO cs o = some v → cs[o]? = some (some v)
  | [], _, _, h => by cases h
  | x :: _, 0, _, h => by simpa [nthO] using h
  | _ :: cs, o + 1, v, h => by simpa using nthO_get (cs := cs) (o := o) (by simpa [nthO] using h)
theorem cutO_le : ∀ {cs : List (Option V)} {o n : Nat} {l : List V}, cutO cs o n = some l → o + n ≤ cs.length
  | [], 0, 0, _, _ => by simp
  | _ :: _, 0, 0, _, _ => by simp
  | [], 0, _ + 1, _, h => by simp [cutO] at h
  | [], _ + 1, _, _, h => by simp [cutO] at h
  | x :: cs, 0, n + 1, l, h => by
    cases x with
    | none => simp [cutO] at h
    | some v =>
      simp only [cutO, Option.map_eq_some_iff] at h
      obtain ⟨l', h, rfl⟩ := h
      have := cutO_le h
      simp; omega
  | _ :: cs, o + 1, n, l, h => by
    have := cutO_le (cs := cs) (o := o) (n := n) (l := l) (by simpa [cutO] using h)
    simp; omega
theorem blk_cells {P : Program} {R : Emb} {w : World} {c sz : Nat} {bl : Blk} {o n : Nat} {cs : List V} (hb : BlkRel P R w c sz bl) (hr : bl.rd o n = some cs) :
    ∃ arr e f, w.heap[c]? = some (.cells arr e f) ∧ o + n ≤ arr.size ∧ ∀ (i : Nat) (u : V), cs[i]? = some u → ∃ x, arr.toList[o + i]? = some x ∧ conc R u = some x := by
  have hlen := rd_length hr
  cases bl with
  | cells l =>
    obtain ⟨arr, e, vs, rest, h1, h2, h3, h4⟩ := hb
    have hll := concL_length h2
    obtain ⟨q1, _⟩ := cut_eq.1 hr
    refine ⟨arr, _, _, h1, ?_, fun i u hi => ?_⟩
    · have : arr.size = (vs ++ rest).length := by rw [← h3]; simp
      simp at this; omega
    · have hin : i < n := by rw [← hlen]; exact (List.getElem?_eq_some_iff.1 hi).1
      have h5 := rd_nth hr hin
      rw [hi] at h5
      simp only [Blk.rd1, nth?_eq] at h5
      obtain ⟨x, q1, q2⟩ := concL_get h2 h5
      refine ⟨x, ?_, q2⟩
      rw [h3, List.getElem?_append_left (List.getElem?_eq_some_iff.1 q1).1]
      exact q1
  | ro l =>
    obtain ⟨arr, e, f, h1, h2, h3⟩ := hb
    have q := (cutO_eq hr).2
    refine ⟨arr, e, f, h1, by have := cutO_le hr; omega, fun i u hi => ?_⟩
    have hin : i < n := by rw [← hlen]; exact (List.getElem?_eq_some_iff.1 hi).1
    have h5 := rd_nth hr hin
    rw [hi] at h5
    exact h3 _ _ (nthO_get h5)
  | map _ => cases hr
  | loop _ => cases hr
theorem u8s_map : ∀ {cs : List V} {b : List Nat}, u8s cs = some b → cs = b.map u8 ∧ ∀ c ∈ b, c < 256
  | [], b, h => by simp [u8s] at h; subst h; exact ⟨rfl, by simp⟩
  | x :: cs, b, h => by
    unfold u8s at h
    split at h <;> try cases h
    rename_i c h1
    obtain ⟨r, h2, rfl⟩ := Option.map_eq_some_iff.1 h
    obtain ⟨rfl, h3⟩ := u8s_map h2
    unfold u8Of at h1
    split at h1 <;> try cases h1
    split at h1 <;> simp only [Option.some.injEq, reduceCtorEq] at h1
    rename_i hlt
    subst h1
    rw [Nat.blt_eq] at hlt
    refine ⟨rfl, fun d hd => ?_⟩
    rcases List.mem_cons.1 hd with rfl | hd
    · exact hlt
    · exact h3 d hd
theorem map_u8s : ∀ {b : List Nat}, (∀ c ∈ b, c < 256) → u8s (b.map u8) = some b
  | [], _ => rfl
  | c :: b, h => by
    have h1 : u8Of (u8 c) = some c := by
      show (if Nat.blt c 256 then some c else none) = _
      rw [if_pos (by rw [Nat.blt_eq]; exact h c (by simp))]
    have h2 : u8s (b.map u8) = some b := map_u8s fun d hd => h d (List.mem_cons_of_mem _ hd)
    simp only [List.map_cons, u8s, h1, h2, Option.map_some]
def emb1 (R : Emb) (b : Nat) : Emb := fun c => if c = b ∨ c ∈ fixB then R c else none
theorem emb1_le {R : Emb} {b c : Nat} {x : Nat × Nat} (h : emb1 R b c = some x) : R c = some x ∧ (c = b ∨ c ∈ fixB) := by
  unfold emb1 at h
  split at h
  · rename_i hc; exact ⟨h, hc⟩
  · cases h
theorem emb1_self (R : Emb) (b : Nat) : emb1 R b b = R b := if_pos (.inl rfl)
theorem emb1_fix {R : Emb} (b : Nat) (h : Fix R) : Fix (emb1 R b) := fun c hc => (if_pos (.inr hc)).trans (h c hc)
def bareH : H := ⟨topBlk, .e, []⟩
theorem bare_get (b : Nat) : bareH.get b = none := by cases b <;> rfl
theorem bare_wf : WF bareH := ⟨fun b _ => bare_get b, fun _ hb => by simp [bareH] at hb⟩
theorem bare_sim {P : Program} {R : Emb} {h : H} {w : World} (hs : Sim P allB R h.get w) : Sim P allB (emb1 R tabBlk) bareH.get w :=
  ⟨fun b _ _ _ _ _ hx => (by rw [bare_get] at hx; cases hx), fun b _ _ _ _ _ _ _ _ _ _ hx => (by rw [bare_get] at hx; cases hx), fun b c sz hb => hs.lt b c sz (emb1_le hb).1, emb1_fix _ hs.fix⟩
theorem bare_fresh (R : Emb) (b : Nat) (hb : bareH.next ≤ b) : emb1 R tabBlk b = none := by
  have hb : topBlk ≤ b := hb
  refine if_neg ?_
  rintro (rfl | h)
  · exact absurd (fix_lt tab_mem) (by omega)
  · exact absurd (fix_lt h) (by omega)
def view (off : Nat) (cs : List V) (size : Nat) : List (Option V) := List.replicate off none ++ cs.map some ++ List.replicate (size - (off + cs.length)) none
theorem view_get {off size i : Nat} {cs : List V} {v : V} (h : (view off cs size)[i]? = some (some v)) : ∃ j, i = off + j ∧ cs[j]? = some v := by
  unfold view at h
  rcases Nat.lt_or_ge i off with h1 | h1
  · rw [List.append_assoc, List.getElem?_append_left (by simpa using h1), List.getElem?_replicate, if_pos h1] at h
    cases h
  · rw [List.append_assoc, List.getElem?_append_right (by simpa using h1), List.length_replicate] at h
    rcases Nat.lt_or_ge (i - off) cs.length with h2 | h2
    · rw [List.getElem?_append_left (by simpa using h2), List.getElem?_map, List.getElem?_eq_getElem h2] at h
      refine ⟨i - off, by omega, ?_⟩
      rw [List.getElem?_eq_getElem h2]
      simpa using h
    · rw [List.getElem?_append_right (by simpa using h2), List.getElem?_replicate] at h
      split at h <;> cases h
theorem bytes_alone {P : Program} {h : H} {v : V} {bs : List Nat} {R : Emb} {w : World} {vs : List Value} (hw : WF h) (hb : bytesAt h v = some bs) (hs : Sim P allB R h.get w) (hv : concL R [v] = some vs) :
    (bs.length ≤ 10000000 ∧ ∀ c ∈ bs, c < 256) ∧ ∃ (h2 : H) (R2 : Emb), WF h2 ∧ Sim P allB R2 h2.get w ∧ (∀ b, h2.next ≤ b → R2 b = none) ∧ concL R2 [v] = some vs ∧ Sl 1 h2 v bs.length (bs.map u8) := by
  unfold bytesAt at hb
  split at hb <;> try cases hb
  rename_i hstr
  split at hb <;> try cases hb
  rename_i n hn
  split at hb <;> try cases hb
  rename_i cs hcs
  split at hb <;> try cases hb
  rename_i hle
  have hle := Nat.le_of_ble_eq_true hle
  obtain ⟨rfl, hlt⟩ := u8s_map hb
  rw [List.length_map] at hle
  refine ⟨⟨hle, hlt⟩, ?_⟩
  have hempty : ∀ v, (v = .sn ∨ ∃ a, v = .se a) → concL R [v] = some vs → bs = [] → ∃ (h2 : H) (R2 : Emb), WF h2 ∧ Sim P allB R2 h2.get w ∧ (∀ b, h2.next ≤ b → R2 b = none) ∧ concL R2 [v] = some vs ∧ Sl 1 h2 v bs.length (bs.map u8) := by
    rintro v hv' hvs rfl
    refine ⟨bareH, emb1 R tabBlk, bare_wf, bare_sim hs, bare_fresh R, ?_, .inl ⟨rfl, rfl, hv'⟩⟩
    rcases hv' with rfl | ⟨a, rfl⟩ <;> (simp only [concL, conc] at hvs ⊢; exact hvs)
  cases v <;> simp only [sourceLen, reduceCtorEq, Option.some.injEq] at hn
  case s x => exact (hstr rfl).elim
  case sn =>
    subst hn
    exact hempty _ (.inl rfl) hv (by cases bs with | nil => rfl | cons _ _ => simp [sourceCells] at hcs)
  case se a =>
    subst hn
    exact hempty _ (.inr ⟨a, rfl⟩) hv (by cases bs with | nil => rfl | cons _ _ => simp [sourceCells] at hcs)
  case sl b off len cap g =>
    subst hn
    simp only [sourceCells, Nat.mul_one] at hcs
    split at hcs <;> try cases hcs
    rename_i bl hg
    have hlen := rd_length hcs
    rw [List.length_map] at hlen
    cases hR : R b with
    | none =>
      exfalso
      cases g <;> simp [concL, conc, hR] at hv
    | some x =>
      obtain ⟨c, sz⟩ := x
      obtain ⟨arr, e, f, q1, q2, q3⟩ := blk_cells (hs.blk b c sz bl trivial hR hg) hcs
      have hget : ∀ d, (T.set (T.e : T Blk) b (some (.ro (view off (bs.map u8) arr.size)))).get d = if d = b then some (.ro (view off (bs.map u8) arr.size)) else none := by
        intro d
        rw [T.get_set]
        split
        · rfl
        · cases d <;> rfl
      have hvl : (view off (bs.map u8) arr.size).length = arr.size := by
        unfold view; simp; omega
      refine ⟨⟨max b topBlk + 1, T.set .e b (some (.ro (view off (bs.map u8) arr.size))), []⟩, emb1 R b, ⟨?_, fun _ hb => by simp at hb⟩, ⟨?_, ?_, ?_, emb1_fix _ hs.fix⟩, ?_, ?_, ?_⟩
      · intro d hd
        have hd : max b topBlk + 1 ≤ d := hd
        exact (hget d).trans (if_neg (by omega))
      · intro d c' sz' y _ hd hy
        have hy := (hget d).symm.trans hy
        split at hy <;> try cases hy
        rename_i e'
        subst e'
        rw [emb1_self, hR] at hd
        cases hd
        refine ⟨arr, e, f, q1, hvl.symm, fun i u hi => ?_⟩
        obtain ⟨j, rfl, hj⟩ := view_get hi
        obtain ⟨x, q4, q5⟩ := q3 j u hj
        refine ⟨x, q4, ?_⟩
        rw [List.getElem?_map, Option.map_eq_some_iff] at hj
        obtain ⟨n, _, rfl⟩ := hj
        exact q5
      · intro d d' c' s1 s2 y y' _ _ _ _ hy hy'
        have hy := (hget d).symm.trans hy
        have hy' := (hget d').symm.trans hy'
        by_cases e1 : d = b
        · by_cases e2 : d' = b
          · rw [e1, e2]
          · rw [if_neg e2] at hy'; cases hy'
        · rw [if_neg e1] at hy; cases hy
      · intro d c' s1 hd
        exact hs.lt _ _ _ (emb1_le hd).1
      · intro d hd
        have hd : max b topBlk + 1 ≤ d := hd
        refine if_neg ?_
        rintro (rfl | h)
        · omega
        · exact absurd (fix_lt h) (by omega)
      · have he : emb1 R b b = R b := emb1_self R b
        cases g <;> (simp only [concL, conc, he] at hv ⊢; exact hv)
      · refine .inr ⟨b, off, cap, g, _, by rw [hlen], (by show b < max b topBlk + 1; omega), (hget b).trans (if_pos rfl), ?_⟩
        simp only [Blk.rd]
        refine cutO_of (by simp) (fun i u hi => ?_) (by rw [hvl]; omega)
        have hi' := (List.getElem?_eq_some_iff.1 hi).1
        unfold view
        rw [List.append_assoc, List.getElem?_append_right (by simp), List.length_replicate, Nat.add_sub_cancel_left, List.getElem?_append_left (by simpa using hi'), List.getElem?_map, hi]
        rfl
end Go.Air
set_option maxRecDepth 100000
namespace Go.Air.Try
def fi1 (k : Nat) : Option FI := match k with
  | 4 => some (primFI 0 9)
  | 9 => some (primFI 1 0)
  | 68 => some (primFI 1 0)
  | 37 => some (primFI 1 1)
  | k => tree.get k
def tb1 : Tb := ⟨fi1, primV, ext⟩
end Go.Air.Try
namespace Go.Air
open Go.Air.Try
section
variable {S Sp : V → H → Prop} {h : H}
@[go_sem ↓] theorem fn1_alive : WX tb1 (.fn 4 [] []) [] h S Sp ↔ S (.b true) h := WC_prim (m := 0) (n := 9) (b := none) rfl rfl
def sumV (bs : List Nat) : V := .agg ((Sha.sum bs).map u8)
theorem prim_sum {v : V} {bs : List Nat} (hv : bytesAt h v = some bs) : primV 0 (pad [v] 1) h = some (sumV bs, none) := by
  show (bytesAt h v).map _ = _
  rw [hv]; rfl
theorem fn1_sum {v : V} {bs : List Nat} (hv : bytesAt h v = some bs) : WX tb1 (.fn 9 [] []) [v] h S Sp ↔ S (sumV bs) h := WC_prim (m := 1) (n := 0) (b := none) rfl (prim_sum hv)
theorem fn1_rsum {v : V} {bs : List Nat} (hv : bytesAt h v = some bs) : WX tb1 (.fn 68 [] []) [v] h S Sp ↔ S (sumV bs) h := WC_prim (m := 1) (n := 0) (b := none) rfl (prim_sum hv)
end
theorem bytes_of {h : H} {v : V} {bs : List Nat} (hv : Sl 1 h v bs.length (bs.map u8)) (hlt : ∀ c ∈ bs, c < 256) (hl : bs.length ≤ 10000000) : bytesAt h v = some bs := by
  have h1 := hv.slen
  have h2 := hv.src
  have h3 : isStr v = false := by
    rcases hv with ⟨_, _, rfl | ⟨a, rfl⟩⟩ | ⟨b, off, cap, g, bl, rfl, _⟩ <;> rfl
  unfold bytesAt
  rw [h3, h1]
  simp only [Bool.false_eq_true, if_false, h2]
  rw [if_pos (by rw [Nat.ble_eq, List.length_map]; exact hl), map_u8s hlt]
theorem fit_u8 : ∀ (l : List Nat), fitL (List.replicate l.length (.i .u8 : KT)) (l.map u8) = true
  | [] => rfl
  | c :: l => by
    show (KT.fits (.i .u8) (u8 c) && fitL (List.replicate l.length (.i .u8 : KT)) (l.map u8)) = true
    rw [fit_u8 l]; rfl
theorem cellsEq_u8 : ∀ (l m : List Nat), cellsEq (l.map u8) (m.map u8) = decide (l = m)
  | [], [] => rfl
  | [], _ :: _ => by simp [cellsEq]
  | _ :: _, [] => by simp [cellsEq]
  | c :: l, d :: m => by
    show (decide ((c : Int) = (d : Int)) && cellsEq (l.map u8) (m.map u8)) = _
    rw [cellsEq_u8 l m]
    simp only [List.cons.injEq, Bool.decide_and]
    congr 1
    simp only [Int.natCast_inj]
theorem eq_u8s {l m : List Nat} {n : Nat} (hl : l.length = n) (hm : m.length = n) : eqV (.agg (List.replicate n (.i .u8))) (.agg (l.map u8)) (.agg (m.map u8)) = some (decide (l = m)) := by
  have h1 : fitL (List.replicate n (.i .u8 : KT)) (l.map u8) = true := by rw [← hl]; exact fit_u8 l
  have h2 : fitL (List.replicate n (.i .u8 : KT)) (m.map u8) = true := by rw [← hm]; exact fit_u8 m
  simp only [eqV, h1, h2, Bool.and_self, if_true, cellsEq_u8]
theorem sum_len (bs : List Nat) : (Sha.sum bs).length = 32 := rfl
@[go_sem] theorem eq_sum (a b : List Nat) : eqV (.agg (List.replicate 32 (.i .u8))) (sumV a) (sumV b) = some (decide (Sha.sum a = Sha.sum b)) := eq_u8s (sum_len a) (sum_len b)
end Go.Air
set_option maxRecDepth 100000
namespace Go.Air
open Go.Air.Try
structure Tb4 (h : H) : Prop where
  lt : topBlk ≤ h.next
  is : isTab (h.get tabBlk) = true
  syn : isErr (h.get synBlk) = true
  rng : isErr (h.get rngBlk) = true
theorem Tb4.ext {h h' : H} (t : Tb4 h) (e : Ext h h') : Tb4 h' := by
  have key : ∀ b ∈ fixB, h'.get b = h.get b := fun b hb => e.same _ (Nat.lt_of_lt_of_le (fix_lt hb) t.lt)
  exact ⟨Nat.le_trans t.lt e.nx, by rw [key _ tab_mem]; exact t.is, by rw [key _ syn_mem]; exact t.syn, by rw [key _ rng_mem]; exact t.rng⟩
theorem Tb4.bare {h : H} (t : Tb4 h) : Tb4 h.bare := ⟨t.lt, t.is, t.syn, t.rng⟩
def I64 (n : Int) : Prop := -9223372036854775808 ≤ n ∧ n ≤ 9223372036854775807
section
variable {S Sp : V → H → Prop} {h : H}
theorem fn_itoa (ht : Tb4 h) {n : Int} (hn : I64 n) : WX tb1 (.fn 37 [] []) [.i .i64 n] h S Sp ↔ S (.s (itoa n)) h := by
  refine WC_prim (m := 1) (n := 1) (b := none) rfl ?_
  show (if isTab (h.get tabBlk) && (decide (-9223372036854775808 ≤ n) && decide (n ≤ 9223372036854775807)) then some (V.s (itoa n), (none : Option Blk)) else none) = _
  rw [show isTab (h.get tabBlk) = true from ht.is, decide_eq_true hn.1, decide_eq_true hn.2]
  rfl
theorem digitsF_len : ∀ (f n : Nat) (acc : List Nat), (digitsF f n acc).length ≤ f + acc.length
  | 0, _, _ => by simp [digitsF]
  | f + 1, n, acc => by
    rw [digitsF]
    split
    · simp; omega
    · refine Nat.le_trans (digitsF_len f _ _) ?_
      simp; omega
theorem itoa_len (n : Int) : (itoa n).length ≤ 21 := by
  unfold itoa
  split
  · have := digitsF_len 20 n.natAbs []
    simp [digits] at this ⊢; omega
  · have := digitsF_len 20 n.toNat []
    simp [digits] at this ⊢; omega
theorem digitsF_lt : ∀ (f n : Nat) (acc : List Nat), (∀ c ∈ acc, c < 256) → ∀ c ∈ digitsF f n acc, c < 256
  | 0, _, _, h => h
  | f + 1, n, acc, h => by
    rw [digitsF]
    split
    · intro c hc; rcases List.mem_cons.1 hc with rfl | hc
      · omega
      · exact h c hc
    · refine digitsF_lt f _ _ fun c hc => ?_
      rcases List.mem_cons.1 hc with rfl | hc
      · omega
      · exact h c hc
theorem itoa_lt (n : Int) : ∀ c ∈ itoa n, c < 256 := by
  unfold itoa
  split
  · intro c hc; rcases List.mem_cons.1 hc with rfl | hc
    · omega
    · exact digitsF_lt 20 _ _ (by simp) c hc
  · exact digitsF_lt 20 _ _ (by simp)
def btw (a lo hi : Int) : Bool := decide (lo ≤ a) && decide (a ≤ hi)
theorem t80 : tb1 31 = some a31 := by kernel_rfl
theorem t83 : tb1 39 = some a39 := by kernel_rfl
theorem t89 : tb1 18 = some a18 := by kernel_rfl
@[go_sem ↓] theorem fn_between {a b c : Int} : WX tb1 (.fn 31 [] []) [.i .i64 a, .i .i64 b, .i .i64 c] h S Sp ↔ S (.b (btw a b c)) h := by
  rw [WC_in t80]
  unfold btw
  by_cases h1 : b ≤ a
  · simp only [go_sem, ↓reduceIte, r31_0, r31_1, h1]
    rfl
  · simp only [go_sem, ↓reduceIte, r31_0, r31_1, h1]
    rfl
@[go_sem ↓] theorem fn_within {a b c : Int} : WX tb1 (.fn 39 [] []) [.i .i64 a, .i .i64 b, .i .i64 c] h S Sp ↔ S (.b (btw a b c)) h := by
  rw [WC_in t83]
  unfold btw
  by_cases h1 : b ≤ a
  · simp only [go_sem, ↓reduceIte, r39_0, r39_1, h1]
    rfl
  · simp only [go_sem, ↓reduceIte, r39_0, r39_1, h1]
    rfl
theorem fn_num (ht : Tb4 h) {n : Int} (hn : I64 n) : WX tb1 (.fn 18 [] []) [.i .i64 n] h S Sp ↔ S (.s (32 :: itoa n)) h := by
  rw [WC_in t89]
  have := itoa_len n
  have e : binV .add (.s [32]) (.s (itoa n)) = some (.s ([32] ++ itoa n)) := bin_sadd (by simp; omega)
  simp only [go_sem, ↓reduceIte, r18_0, r18_1, fn_itoa ht hn, e]
  rfl
end
def numText (xs : List Int) : List Nat := joinL [32] (xs.map itoa)
theorem fill1_s {l : List Nat} : fill1 (.s l) = some [.s l] := rfl
theorem t87 : tb1 15 = some a15 := by kernel_rfl
theorem strsOf_s : ∀ l : List (List Nat), strsOf (l.map V.s) = some l
  | [] => rfl
  | x :: l => by rw [List.map_cons, strsOf, strsOf_s l]; rfl
theorem joinL_len (sep : List Nat) : ∀ (l : List (List Nat)) (m : Nat), (∀ x ∈ l, x.length ≤ m) → (joinL sep l).length ≤ l.length * (m + sep.length)
  | [], m, _ => by simp [joinL]
  | [x], m, h => by have := h x (by simp); simp [joinL]; omega
  | x :: y :: l, m, h => by
    have ih := joinL_len sep (y :: l) m fun z hz => h z (List.mem_cons_of_mem _ hz)
    have h1 := h x (by simp)
    simp only [joinL, List.length_append, List.length_cons] at ih ⊢
    rw [Nat.add_mul]
    omega
theorem fn_join {S Sp : V → H → Prop} {h h0 : H} {v : V} {l : List (List Nat)} (o : Own h0 1 h v l.length (l.map V.s)) (hl : l.length ≤ 1000) (hm : ∀ x ∈ l, x.length ≤ 21) : WX tb1 (.fn 38 [] []) [v, .s [32]] h S Sp ↔ S (.s (joinL [32] l)) h := by
  refine WC_prim (m := 2) (n := 2) (b := none) rfl ?_
  have hs : strsAt h v = some l := by
    obtain ⟨hlen, ⟨h0, rfl⟩ | ⟨b, g, rfl, _, _, h2, h3⟩⟩ := o
    · obtain rfl := List.eq_nil_of_length_eq_zero h0
      rfl
    · have h3 : h.get b = some (.cells (l.map V.s)) := h3
      have hc : cut (l.map V.s) 0 (l.length * 1) = some (l.map V.s) := cut_eq.2 ⟨by simp, by rw [Nat.mul_one, List.drop_zero, List.take_of_length_le (by simp)]⟩
      have hble : Nat.ble l.length l.length = true := by rw [Nat.ble_eq]; exact Nat.le_refl _
      simp only [strsAt, hble, if_true, sourceCells, h3, Blk.rd, hc, strsOf_s]
  have hj := joinL_len [32] l 21 hm
  show (match strsAt h v with
    | none => none
    | some l => if Nat.ble l.length 140737488355328 && Nat.ble (joinL [32] l).length 140737488355328 then some (V.s (joinL [32] l), (none : Option Blk)) else none) = _
  rw [hs]
  have h1 : Nat.ble l.length 140737488355328 = true := by rw [Nat.ble_eq]; omega
  have h2 : Nat.ble (joinL [32] l).length 140737488355328 = true := by
    rw [Nat.ble_eq]
    have : l.length * (21 + [32].length) ≤ 1000 * 22 := Nat.mul_le_mul hl (by simp)
    omega
  simp only [h1, h2, Bool.and_self, if_true]
theorem nums_len (xs : List Int) : (numText xs).length ≤ xs.length * 22 := by
  have := joinL_len [32] (xs.map itoa) 21 (fun x hx => by obtain ⟨n, _, rfl⟩ := List.mem_map.1 hx; exact itoa_len n)
  simpa [numText] using this
structure M87 (h hh : H) (u : V) (l : List (List Nat)) : Prop where
  ext : Ext h hh
  own : Own h 1 hh u l.length (l.map V.s)
theorem one_s {h0 hh : H} (e : Ext h0 hh) (c : List Nat) : Sl 1 (hh.new (.cells [.s c])) (.sl hh.next 0 1 1 none) 1 [.s c] := (Own.lit (esz := 1) e [.s c] 1 rfl).1.sl
theorem M87.app {h hh : H} {u : V} {l : List (List Nat)} (q : M87 h hh u l) (hn : l.length ≤ 1000) (c : List Nat) :
    ∃ u' h', appendV 1 16 (hh.new (.cells [.s c])) u (.sl hh.next 0 1 1 none) = .ok u' h' ∧ M87 h h' u' (l ++ [c]) := by
  have e1 : Ext h (hh.new (.cells [.s c])) := q.ext.new _
  obtain ⟨v', h', q1, q2, q3, _⟩ := (q.own.ext ((Ext.refl hh).new _)).app (bytes := 16) e1 (one_s q.ext c) (by intro u hu; simp at hu; subst hu; rfl) (by omega) (by omega) (by omega)
  exact ⟨v', h', q1, q2, by simpa using q3⟩
theorem fn_numbers {h : H} (ht : Tb4 h) {v : V} {xs : List Int} (hv : Sl 1 h v xs.length (xs.map (V.i .i64))) (hx : ∀ x ∈ xs, I64 x) (hn : xs.length ≤ 1000) :
    WC tb1 (.fn 15 [] []) [v] h fun u h' => u = .s (numText xs) ∧ Ext h h' := by
  refine (WC_in t87).2 ?_
  have hlv := hv.len
  simp only [go_sem, ↓reduceIte, r15_0, r15_1, r15_2, hlv]
  refine W_while (fun k t h' => ∃ i u, k = xs.length - i ∧ i ≤ xs.length ∧ t.length = 20 ∧ nth t 3 = u ∧ nth t 6 = v ∧ nth t 7 = .i .i64 (xs.length : Int) ∧ nth t 8 = .i .i64 (i : Int) ∧ M87 h h' u ((xs.take i).map itoa)) ?_ xs.length ?_
  · rintro k t h' ⟨i, u, rfl, hi, tl, t3, t6, t7, t8, q⟩
    unfold b15_0
    by_cases hin : i < xs.length
    · have hI : (i : Int) < (xs.length : Int) := by omega
      have hs := hv.ext q.ext
      have hix := hs.ix hin
      have hd := hs.ld1 hin
      have hg : (xs.map (V.i .i64))[i]? = some (.i .i64 xs[i]) := by rw [List.getElem?_map, List.getElem?_eq_getElem hin]; rfl
      rw [hg] at hd
      have hxi : I64 xs[i] := hx _ (List.getElem_mem hin)
      obtain ⟨u', h2, a1, a2⟩ := q.app (by simp; omega) (itoa xs[i])
      simp only [go_sem, ↓reduceIte, r15_3, r15_4, r15_5, r15_6, tl, t3, t6, t7, t8, hI, hix, hd, fn_itoa (ht.ext q.ext) hxi, fill1_s, a1, wrap_succ (show i < 1000000000 by omega)]
      refine ⟨xs.length - (i + 1), by omega, i + 1, u', rfl, by omega, rfl, rfl, ?_⟩
      rw [take_succ' (List.getElem?_eq_getElem hin), List.map_append]
      exact a2
    · have hI : ¬ (i : Int) < (xs.length : Int) := by omega
      obtain rfl : i = xs.length := by omega
      rw [List.take_of_length_le (Nat.le_refl _)] at q
      simp only [go_sem, ↓reduceIte, r15_3, r15_7, tl, t3, t7, t8, hI]
      refine (fn_join (l := xs.map itoa) q.own (by simpa using hn) (fun x hx => by
        obtain ⟨n, _, rfl⟩ := List.mem_map.1 hx
        exact itoa_len n)).2 ?_
      simp only [go_sem, ↓reduceIte, tl]
      exact ⟨rfl, q.ext⟩
  · exact ⟨0, .sn, by omega, by omega, by simp only [go_sem, ↓reduceIte], by simp only [go_sem, ↓reduceIte], by simp only [go_sem, ↓reduceIte], by simp only [go_sem, ↓reduceIte], by simp only [go_sem, ↓reduceIte], .refl h, .nil⟩
end Go.Air
set_option maxRecDepth 100000
namespace Go.Air
open Go.Air.Try
def cutL (c : Nat) : List Nat → Option (List Nat × List Nat)
  | [] => none
  | x :: l => if x = c then some ([], l) else (cutL c l).map fun p => (x :: p.1, p.2)
def splitL (c : Nat) : List Nat → List (List Nat)
  | [] => [[]]
  | x :: l => if x = c then [] :: splitL c l else match splitL c l with
    | [] => [[x]]
    | w :: ws => (x :: w) :: ws
theorem cutL_some {c : Nat} : ∀ {l a b : List Nat}, cutL c l = some (a, b) → l = a ++ c :: b ∧ c ∉ a
  | [], _, _, h => by cases h
  | x :: l, a, b, h => by
    rw [cutL] at h
    split at h
    · rename_i e; subst e; cases h; exact ⟨rfl, by simp⟩
    · rename_i e
      obtain ⟨⟨a', b'⟩, h1, h2⟩ := Option.map_eq_some_iff.1 h
      cases h2
      obtain ⟨rfl, h4⟩ := cutL_some h1
      refine ⟨rfl, ?_⟩
      rw [List.mem_cons, not_or]
      exact ⟨fun q => e q.symm, h4⟩
theorem cutL_none {c : Nat} : ∀ {l : List Nat}, cutL c l = none → c ∉ l
  | [], _ => by simp
  | x :: l, h => by
    rw [cutL] at h
    split at h
    · cases h
    · rename_i e
      rw [Option.map_eq_none_iff] at h
      rw [List.mem_cons, not_or]
      exact ⟨fun q => e q.symm, cutL_none h⟩
theorem cutL_of {c : Nat} : ∀ {a b : List Nat}, c ∉ a → cutL c (a ++ c :: b) = some (a, b)
  | [], b, _ => by simp [cutL]
  | x :: a, b, h => by
    rw [List.mem_cons, not_or] at h
    rw [List.cons_append, cutL, if_neg (fun e => h.1 e.symm), cutL_of h.2]; rfl
theorem splitL_ne (c : Nat) : ∀ l, splitL c l ≠ []
  | [] => by simp [splitL]
  | x :: l => by
    rw [splitL]
    split
    · simp
    · split <;> simp
theorem splitL_none {c : Nat} : ∀ {l : List Nat}, c ∉ l → splitL c l = [l]
  | [], _ => rfl
  | x :: l, h => by
    rw [List.mem_cons, not_or] at h
    rw [splitL, if_neg (fun e => h.1 e.symm), splitL_none h.2]
theorem splitL_cut {c : Nat} : ∀ {a b : List Nat}, c ∉ a → splitL c (a ++ c :: b) = a :: splitL c b
  | [], b, _ => by simp [splitL]
  | x :: a, b, h => by
    rw [List.mem_cons, not_or] at h
    rw [List.cons_append, splitL, if_neg (fun e => h.1 e.symm), splitL_cut h.2]
theorem splitL_length (c : Nat) : ∀ l : List Nat, (splitL c l).length = l.countP (Nat.beq c) + 1
  | [] => rfl
  | x :: l => by
    have ih := splitL_length c l
    rw [splitL, List.countP_cons]
    split
    · rename_i e; subst e; simp [ih]
    · rename_i e
      have : Nat.beq c x = false := by rw [Bool.eq_false_iff, ne_eq, Nat.beq_eq]; exact fun q => e q.symm
      rw [this]
      split
      · rename_i q; exact (splitL_ne c l q).elim
      · rename_i w ws q; rw [q] at ih; simpa using ih
theorem count_cut {c : Nat} {a b : List Nat} (h : c ∉ a) : (a ++ c :: b).countP (Nat.beq c) = b.countP (Nat.beq c) + 1 := by
  have h1 : a.countP (Nat.beq c) = 0 := by
    rw [List.countP_eq_zero]
    intro x hx e
    rw [Nat.beq_eq] at e
    subst e; exact h hx
  rw [List.countP_append, h1, List.countP_cons]
  simp
theorem count_none {c : Nat} {l : List Nat} (h : c ∉ l) : l.countP (Nat.beq c) = 0 := by
  rw [List.countP_eq_zero]
  intro x hx e
  rw [Nat.beq_eq] at e
  subst e; exact h hx
theorem idxB_none {c : Nat} : ∀ {l : List Nat} (i : Nat), c ∉ l → idxB c l i = -1
  | [], _, _ => rfl
  | x :: l, i, h => by
    rw [List.mem_cons, not_or] at h
    rw [idxB, if_neg (fun e => h.1 e.symm), idxB_none _ h.2]
theorem idxB_cut {c : Nat} : ∀ {a b : List Nat} (i : Nat), c ∉ a → idxB c (a ++ c :: b) i = ((a.length + i : Nat) : Int)
  | [], b, i, _ => by simp [idxB]
  | x :: a, b, i, h => by
    rw [List.mem_cons, not_or] at h
    rw [List.cons_append, idxB, if_neg (fun e => h.1 e.symm), idxB_cut (i + 1) h.2]
    simp; omega
section
variable {S Sp : V → H → Prop} {h : H}
theorem fn_idxB {l : List Nat} {c : Nat} (hc : c < 256) : WX tb1 (.fn 116 [] []) [.s l, .i .u8 (c : Int)] h S Sp ↔ S (.i .i64 (idxB c l 0)) h := by
  refine WC_prim (m := 2) (n := 5) (b := none) rfl ?_
  show (if Nat.blt c 256 then some (V.i .i64 (idxB c l 0), (none : Option Blk)) else none) = _
  rw [if_pos (by rw [Nat.blt_eq]; exact hc)]
theorem fn_cntB {l : List Nat} {c : Nat} (hc : c < 256) : WX tb1 (.fn 234 [] []) [.s l, .i .u8 (c : Int)] h S Sp ↔ S (.i .i64 ((l.countP (Nat.beq c) : Nat) : Int)) h := by
  refine WC_prim (m := 2) (n := 6) (b := none) rfl ?_
  show (if Nat.blt c 256 then some (V.i .i64 (.ofNat (l.countP (Nat.beq c))), (none : Option Blk)) else none) = _
  rw [if_pos (by rw [Nat.blt_eq]; exact hc)]; rfl
theorem t374 : tb1 76 = some a76 := by kernel_rfl
theorem t385 : tb1 169 = some a169 := by kernel_rfl
theorem t386 : tb1 166 = some a166 := by kernel_rfl
theorem t269 : tb1 104 = some a104 := by kernel_rfl
theorem t166 : tb1 69 = some a69 := by kernel_rfl
theorem t384 : tb1 168 = some a168 := by kernel_rfl
theorem t268 : tb1 105 = some a105 := by kernel_rfl
theorem t165 : tb1 70 = some a70 := by kernel_rfl
theorem fn_indexByte {l : List Nat} {c : Nat} (hc : c < 256) : WX tb1 (.fn 76 [] []) [.s l, .i .u8 (c : Int)] h S Sp ↔ S (.i .i64 (idxB c l 0)) h := by
  rw [WC_in t374]
  simp only [go_sem, ↓reduceIte, r76_0, r76_1, fn_idxB hc]
theorem ixS_one {c : Nat} : ixSV (.s [c]) (.i .i64 0) = some (.i .u8 (c : Int)) := rfl
theorem fn_index {l : List Nat} {c : Nat} (hc : c < 256) : WX tb1 (.fn 166 [] []) [.s l, .s [c]] h S Sp ↔ S (.i .i64 (idxB c l 0)) h := by
  rw [WC_in t386]
  by_cases e : [c] = l
  · subst e
    have e1 : binV .eql (.s [c]) (.s [c]) = some (.b true) := by rw [bin_seq]; simp
    have e2 : idxB c [c] 0 = 0 := by simp [idxB]
    simp only [go_sem, ↓reduceIte, r166_0, r166_1, r166_2, r166_3, e1, e2, natCast_one, Int.reduceEq]
  · have e1 : binV .eql (.s [c]) (.s l) = some (.b false) := by rw [bin_seq, decide_eq_false e]
    simp only [go_sem, ↓reduceIte, r166_0, r166_1, r166_2, r166_4, r166_5, e1, natCast_one, Int.reduceEq, ixS_one, fn_indexByte hc]
theorem fn_Index {l : List Nat} {c : Nat} (hc : c < 256) : WX tb1 (.fn 169 [] []) [.s l, .s [c]] h S Sp ↔ S (.i .i64 (idxB c l 0)) h := by
  rw [WC_in t385]
  simp only [go_sem, ↓reduceIte, r169_0, r169_1, fn_index hc]
theorem slc_hi {t : List V} {l : List Nat} {k n : Nat} (hk : nth t k = .i .i64 (n : Int)) (hn : n ≤ l.length) : slcSV t (.s l) none (some (.t k)) = some (.s (l.take n)) := by
  have hb : bounds t l.length l.length none (some (.t k)) = some (0, n) := bounds_hi (by rw [ev_t, hk]; rfl) hn
  simp only [slcSV, hb, Option.map_some, List.drop_zero, Nat.sub_zero]
theorem slc_lo {t : List V} {l : List Nat} {k n : Nat} (hk : nth t k = .i .i64 (n : Int)) (hn : n ≤ l.length) : slcSV t (.s l) (some (.t k)) none = some (.s (l.drop n)) := by
  have hb : bounds t l.length l.length (some (.t k)) none = some (n, l.length) := bounds_lo (by rw [ev_t, hk]; rfl) (Nat.le_refl _) hn
  simp only [slcSV, hb, Option.map_some]
  rw [List.take_of_length_le (by simp)]
def cutR (c : Nat) (l : List Nat) : V := match cutL c l with
  | some (a, b) => .tup [.s a, .s b, .b true]
  | none => .tup [.s l, .s [], .b false]
theorem fn_cut0 {l : List Nat} {c : Nat} (hc : c < 256) (hl : l.length ≤ 1000000000) : WX tb1 (.fn 104 [] []) [.s l, .s [c]] h S Sp ↔ S (cutR c l) h := by
  rw [WC_in t269]
  unfold cutR
  cases hq : cutL c l with
  | none =>
    have h1 := idxB_none 0 (cutL_none hq)
    simp only [go_sem, ↓reduceIte, r104_0, r104_1, r104_2, r104_4, fn_index hc, h1]
  | some p =>
    obtain ⟨a, b⟩ := p
    obtain ⟨rfl, hca⟩ := cutL_some hq
    have h1 := idxB_cut (b := b) 0 hca
    rw [Nat.add_zero] at h1
    have h2 : (0 : Int) ≤ (a.length : Int) := by omega
    have hlen : (a ++ c :: b).length = a.length + b.length + 1 := by simp; omega
    have h3 : IntKind.i64.wrap ((a.length : Int) + 1) = ((a.length + 1 : Nat) : Int) := wrap_succ (by omega)
    have k1 : (a ++ c :: b).take a.length = a := List.take_left' rfl
    have k2 : (a ++ c :: b).drop (a.length + 1) = b := by
      rw [← List.drop_drop, List.drop_left' rfl]; rfl
    simp only [go_sem, ↓reduceIte, r104_0, r104_1, r104_2, r104_3, fn_index hc, h1, h2, natCast_one]
    rw [slc_hi (k := 14) (n := a.length) (by simp only [go_sem, ↓reduceIte]) (by omega)]
    simp only [go_sem, ↓reduceIte, natCast_one, h3]
    rw [slc_lo (k := 20) (n := a.length + 1) (by simp only [go_sem, ↓reduceIte]) (by omega)]
    simp only [go_sem, ↓reduceIte, k1, k2]
theorem fn_Cut {l : List Nat} {c : Nat} (hc : c < 256) (hl : l.length ≤ 1000000000) : WX tb1 (.fn 69 [] []) [.s l, .s [c]] h S Sp ↔ S (cutR c l) h := by
  rw [WC_in t166]
  have key : ∃ x y z, cutR c l = .tup [x, y, z] := by unfold cutR; cases cutL c l <;> exact ⟨_, _, _, rfl⟩
  obtain ⟨x, y, z, hk⟩ := key
  simp only [go_sem, ↓reduceIte, r69_0, r69_1, fn_cut0 hc hl, hk, extV_2]
theorem fn_count {l : List Nat} {c : Nat} (hc : c < 256) : WX tb1 (.fn 168 [] []) [.s l, .s [c]] h S Sp ↔ S (.i .i64 ((l.countP (Nat.beq c) : Nat) : Int)) h := by
  rw [WC_in t384]
  simp only [go_sem, ↓reduceIte, r168_0, r168_1, r168_3, r168_4, natCast_one, Int.reduceEq, ixS_one, fn_cntB hc]
end
end Go.Air
set_option maxRecDepth 100000
namespace Go.Air
open Go.Air.Try
theorem digitsF_dig : ∀ (f n : Nat) (acc : List Nat), (∀ c ∈ acc, 48 ≤ c ∧ c ≤ 57) → ∀ c ∈ digitsF f n acc, 48 ≤ c ∧ c ≤ 57
  | 0, _, _, h => h
  | f + 1, n, acc, h => by
    rw [digitsF]
    split
    · intro c hc
      rcases List.mem_cons.1 hc with rfl | hc
      · omega
      · exact h c hc
    · refine digitsF_dig f _ _ fun c hc => ?_
      rcases List.mem_cons.1 hc with rfl | hc
      · omega
      · exact h c hc
theorem digitsF_ne : ∀ (f n : Nat) (acc : List Nat), acc ≠ [] → digitsF f n acc ≠ []
  | 0, _, _, h => h
  | f + 1, n, acc, h => by
    rw [digitsF]
    split
    · simp
    · exact digitsF_ne f _ _ (by simp)
theorem digits_ne (n : Nat) : digits n ≠ [] := by
  unfold digits
  rw [digitsF]
  split
  · simp
  · exact digitsF_ne _ _ _ (by simp)
theorem digits_dig (n : Nat) : ∀ c ∈ digits n, 48 ≤ c ∧ c ≤ 57 := digitsF_dig 20 n [] (by simp)
theorem itoa_pos {n : Int} (h : 0 ≤ n) : itoa n = digits n.toNat := by
  unfold itoa
  rw [if_neg (by omega)]
theorem itoa_dig {n : Int} (h : 0 ≤ n) : ∀ c ∈ itoa n, 48 ≤ c ∧ c ≤ 57 := by rw [itoa_pos h]; exact digits_dig _
theorem itoa_ne {n : Int} (h : 0 ≤ n) : itoa n ≠ [] := by rw [itoa_pos h]; exact digits_ne _
theorem u8_nat {c : Nat} (h : c < 256) : (UInt8.ofNat c).toNat = c := by simp [Nat.mod_eq_of_lt h]
theorem parse_step {acc d : Nat} {r : List UInt8} (hd : d < 10) (ha : acc * 10 + d < 9223372036854775808) : Lib.parseUint10 acc (UInt8.ofNat (48 + d) :: r) = Lib.parseUint10 (acc * 10 + d) r := by
  have h1 : (UInt8.ofNat (48 + d)).toNat = 48 + d := u8_nat (by omega)
  rw [Lib.parseUint10, h1, if_pos ⟨by omega, by omega⟩, if_neg (by omega), if_neg (by omega)]
  congr 1
  omega
theorem parse_digits : ∀ (f n : Nat) (acc : List Nat), n < 10 ^ f → n < 9223372036854775808 → 0 < f → Lib.parseUint10 0 ((digitsF f n acc).map UInt8.ofNat) = Lib.parseUint10 n (acc.map UInt8.ofNat)
  | 0, _, _, _, _, h => by omega
  | f + 1, n, acc, hf, hn, _ => by
    rw [digitsF]
    split
    · rename_i h
      rw [List.map_cons, parse_step h (by omega)]
      congr 1
      omega
    · rename_i h
      have h1 : n / 10 < 10 ^ f := by rw [Nat.div_lt_iff_lt_mul (by omega)]; rw [Nat.pow_succ] at hf; exact hf
      have h2 : 0 < f := by
        rcases Nat.eq_zero_or_pos f with rfl | q
        · simp at hf; omega
        · exact q
      rw [parse_digits f (n / 10) _ h1 (by omega) h2, List.map_cons, parse_step (by omega) (by omega)]
      congr 1
      omega
theorem atoiE_itoa {n : Int} (h0 : 0 ≤ n) (h1 : n ≤ 9223372036854775807) : atoiE (itoa n) = .ok n := by
  unfold atoiE
  have hd := itoa_dig h0
  have hp := parse_digits 20 n.toNat [] (by omega) (by omega) (by omega)
  have he : (itoa n).map UInt8.ofNat = (digitsF 20 n.toNat []).map UInt8.ofNat := by rw [itoa_pos h0]; rfl
  cases hl : itoa n with
  | nil => exact (itoa_ne h0 hl).elim
  | cons c r =>
    rw [hl] at hd he
    have hc := hd c (by simp)
    rw [List.map_cons, Lib.atoiAll_plain _ _ (by rw [u8_nat (by omega)]; omega) (by rw [u8_nat (by omega)]; omega), ← List.map_cons, he]
    unfold Lib.parseMag
    rw [if_neg (by rw [← he]; simp), hp]
    simp only [List.map_nil, Lib.parseUint10, Lib.signless]
    rw [if_neg (by omega)]
    congr 1
    omega
def numOf (w : List Nat) : Option Int := match atoiE w with
  | .ok k => if k < 0 then none else if itoa k = w then some k else none
  | _ => none
def NumB (n : Int) : Prop := 0 ≤ n ∧ n ≤ 9223372036854775807
theorem NumB.i64 {n : Int} (h : NumB n) : I64 n := ⟨by have := h.1; omega, h.2⟩
theorem numOf_itoa {n : Int} (h : NumB n) : numOf (itoa n) = some n := by
  unfold numOf
  rw [atoiE_itoa h.1 h.2]
  simp only [if_neg (show ¬ n < 0 by have := h.1; omega), if_true]
theorem numOf_some {w : List Nat} {n : Int} (h : numOf w = some n) : w = itoa n ∧ NumB n := by
  unfold numOf at h
  split at h <;> try cases h
  rename_i k hk
  split at h <;> try cases h
  split at h <;> try cases h
  rename_i h1 h2
  exact ⟨h2.symm, by omega, (Lib.atoiAll_bounds hk).2⟩
def numsOf : List (List Nat) → Option (List Int)
  | [] => some []
  | w :: ws => match numOf w with
    | none => none
    | some n => (numsOf ws).map (n :: ·)
theorem numsOf_some : ∀ {ws : List (List Nat)} {ns : List Int}, numsOf ws = some ns → ws = ns.map itoa ∧ ∀ n ∈ ns, NumB n
  | [], ns, h => by cases h; exact ⟨rfl, by simp⟩
  | w :: ws, ns, h => by
    rw [numsOf] at h
    split at h <;> try cases h
    rename_i n hn
    obtain ⟨ms, h1, rfl⟩ := Option.map_eq_some_iff.1 h
    obtain ⟨rfl, h2⟩ := numsOf_some h1
    obtain ⟨rfl, h3⟩ := numOf_some hn
    exact ⟨rfl, by simpa using ⟨h3, h2⟩⟩
theorem numsOf_itoa : ∀ {ns : List Int}, (∀ n ∈ ns, NumB n) → numsOf (ns.map itoa) = some ns
  | [], _ => rfl
  | n :: ns, h => by
    rw [List.map_cons, numsOf, numOf_itoa (h n (by simp)), numsOf_itoa fun m hm => h m (by simp [hm])]; rfl
theorem numsOf_bad : ∀ {ws : List (List Nat)} {i : Nat} {w : List Nat}, ws[i]? = some w → numOf w = none → numsOf ws = none
  | [], _, _, h, _ => by simp at h
  | x :: ws, 0, w, h, hb => by
    simp only [List.getElem?_cons_zero, Option.some.injEq] at h
    subst h
    rw [numsOf, hb]
  | x :: ws, i + 1, w, h, hb => by
    simp only [List.getElem?_cons_succ] at h
    rw [numsOf]
    split
    · rfl
    · rw [numsOf_bad h hb]; rfl
theorem numsOf_snoc : ∀ {ws : List (List Nat)} {ns : List Int} {w : List Nat} {n : Int}, numsOf ws = some ns → numOf w = some n → numsOf (ws ++ [w]) = some (ns ++ [n])
  | [], ns, w, n, h, hn => by cases h; simp [numsOf, hn]
  | x :: ws, ns, w, n, h, hn => by
    rw [numsOf] at h
    split at h <;> try cases h
    rename_i m hm
    obtain ⟨ms, h1, rfl⟩ := Option.map_eq_some_iff.1 h
    rw [List.cons_append, numsOf, hm, numsOf_snoc h1 hn]; rfl
def lineT (first : List Nat) (ns : List Int) : List Nat := first ++ (ns.flatMap fun n => 32 :: itoa n) ++ [10]
def lineOf (first s : List Nat) : Option (List (List Nat) × List Nat) := match cutL 10 s with
  | none => none
  | some (a, rest) => match splitL 32 a with
    | [] => none
    | w :: ws => if w = first then some (ws, rest) else none
def intsOf (first : List Nat) (n : Int) (s : List Nat) : Option (List Int × List Nat) := match lineOf first s with
  | none => none
  | some (ws, rest) => match numsOf ws with
    | none => none
    | some ns => if 0 ≤ n ∧ (ns.length : Int) ≠ n then none else some (ns, rest)
theorem split_words : ∀ {first : List Nat} {ns : List Int}, 32 ∉ first → (∀ n ∈ ns, 0 ≤ n) → splitL 32 (first ++ ns.flatMap fun n => 32 :: itoa n) = first :: ns.map itoa
  | first, [], hf, _ => by simpa using splitL_none hf
  | first, n :: ns, hf, h => by
    have hi : 32 ∉ itoa n := fun hm => by have := itoa_dig (h n (by simp)) _ hm; omega
    rw [List.flatMap_cons, List.cons_append, splitL_cut hf, split_words hi fun m hm => h m (by simp [hm])]
    rfl
theorem splitL_words {c : Nat} : ∀ {l w : List Nat} {ws : List (List Nat)}, splitL c l = w :: ws → l = w ++ ws.flatMap (c :: ·)
  | [], w, ws, h => by simp [splitL] at h; obtain ⟨rfl, rfl⟩ := h; rfl
  | x :: l, w, ws, h => by
    rw [splitL] at h
    split at h
    · rename_i e
      subst e
      cases hl : splitL x l with
      | nil => exact (splitL_ne _ _ hl).elim
      | cons v vs =>
        rw [hl] at h
        cases h
        rw [List.nil_append, List.flatMap_cons, List.cons_append, ← splitL_words hl]
    · split at h
      · rename_i q; exact (splitL_ne _ _ q).elim
      · rename_i v vs q
        cases h
        rw [List.cons_append, ← splitL_words q]
theorem line_no10 {first : List Nat} {ns : List Int} (hf : 10 ∉ first) (h : ∀ n ∈ ns, 0 ≤ n) : 10 ∉ first ++ ns.flatMap fun n => 32 :: itoa n := by
  intro hm
  rcases List.mem_append.1 hm with hm | hm
  · exact hf hm
  · obtain ⟨n, hn, hm⟩ := List.mem_flatMap.1 hm
    rcases List.mem_cons.1 hm with e | hm
    · omega
    · have := itoa_dig (h n hn) _ hm; omega
theorem lineOf_line {first : List Nat} {ns : List Int} {rest : List Nat} (hf : 32 ∉ first) (hf2 : 10 ∉ first) (h : ∀ n ∈ ns, 0 ≤ n) : lineOf first (lineT first ns ++ rest) = some (ns.map itoa, rest) := by
  unfold lineOf lineT
  rw [List.append_assoc, List.singleton_append, cutL_of (line_no10 hf2 h)]
  simp only [split_words hf h, if_true]
theorem intsOf_line {first : List Nat} {ns : List Int} {rest : List Nat} {k : Int} (hf : 32 ∉ first) (hf2 : 10 ∉ first) (h : ∀ n ∈ ns, NumB n) (hk : k < 0 ∨ k = (ns.length : Int)) : intsOf first k (lineT first ns ++ rest) = some (ns, rest) := by
  unfold intsOf
  rw [lineOf_line hf hf2 fun n hn => (h n hn).1]
  simp only [numsOf_itoa h]
  rw [if_neg (by omega)]
theorem intsOf_some {first s rest : List Nat} {ns : List Int} {k : Int} (h : intsOf first k s = some (ns, rest)) : s = lineT first ns ++ rest ∧ (∀ n ∈ ns, NumB n) ∧ (k < 0 ∨ k = (ns.length : Int)) := by
  unfold intsOf at h
  split at h <;> try cases h
  rename_i ws rest' hl
  split at h <;> try cases h
  rename_i ms hn
  split at h <;> try cases h
  rename_i hk
  unfold lineOf at hl
  split at hl <;> try cases hl
  rename_i a rest'' hc
  split at hl <;> try cases hl
  rename_i w ws' hs
  split at hl <;> try cases hl
  rename_i hw
  subst hw
  obtain ⟨rfl, _⟩ := cutL_some hc
  obtain ⟨rfl, hb⟩ := numsOf_some hn
  have := splitL_words hs
  refine ⟨?_, hb, by omega⟩
  unfold lineT
  rw [this, List.flatMap_map]
  simp
theorem intsOf_len {first s rest : List Nat} {ns : List Int} {k : Int} (h : intsOf first k s = some (ns, rest)) : rest.length < s.length := by
  obtain ⟨rfl, _⟩ := intsOf_some h
  unfold lineT
  simp; omega
theorem numText_cons : ∀ (n : Int) (ns : List Int), numText (n :: ns) = itoa n ++ ns.flatMap fun m => 32 :: itoa m
  | n, [] => by simp [numText, joinL]
  | n, m :: ns => by
    have ih := numText_cons m ns
    unfold numText at ih ⊢
    have e : joinL [32] (List.map itoa (n :: m :: ns)) = itoa n ++ [32] ++ joinL [32] (List.map itoa (m :: ns)) := rfl
    rw [e, ih]
    simp
theorem line_numText (w : List Nat) (n : Int) (ns : List Int) : lineT w (n :: ns) = w ++ [32] ++ numText (n :: ns) ++ [10] := by
  rw [numText_cons]
  simp [lineT]
end Go.Air
set_option maxRecDepth 100000
namespace Go.Air
open Go.Air.Try
def digN : Nat → List Nat → Nat
  | acc, [] => acc
  | acc, c :: r => if c < 48 ∨ 57 < c then 0 else digN (acc * 10 + (c - 48)) r
def smallN (w : List Nat) : Int := if 16 < w.length then 0 else (digN 0 w : Nat)
theorem digN_lt : ∀ (w : List Nat) (acc : Nat), digN acc w < (acc + 1) * 10 ^ w.length
  | [], acc => by simp [digN]
  | c :: r, acc => by
    rw [digN]
    split
    · exact Nat.mul_pos (by omega) (Nat.pow_pos (by omega))
    · have ih := digN_lt r (acc * 10 + (c - 48))
      have h1 : acc * 10 + (c - 48) + 1 ≤ (acc + 1) * 10 := by omega
      have h2 := Nat.mul_le_mul_right (10 ^ r.length) h1
      rw [List.length_cons, Nat.pow_succ', ← Nat.mul_assoc]
      omega
theorem smallN_bound (w : List Nat) : 0 ≤ smallN w ∧ smallN w ≤ 10000000000000000 := by
  unfold smallN
  split
  · omega
  · have h1 := digN_lt w 0
    have h2 : 10 ^ w.length ≤ 10 ^ 16 := Nat.pow_le_pow_right (by omega) (by omega)
    omega
theorem digN_step {acc d : Nat} {r : List Nat} (hd : d < 10) : digN acc ((48 + d) :: r) = digN (acc * 10 + d) r := by
  rw [digN, if_neg (by omega)]
  congr 1
  omega
theorem digN_digits : ∀ (f n : Nat) (acc : List Nat), n < 10 ^ f → 0 < f → digN 0 (digitsF f n acc) = digN n acc
  | 0, _, _, _, h => by omega
  | f + 1, n, acc, hf, _ => by
    rw [digitsF]
    split
    · rename_i h
      rw [digN_step h]
      congr 1
      omega
    · rename_i h
      have h1 : n / 10 < 10 ^ f := by rw [Nat.div_lt_iff_lt_mul (by omega)]; rw [Nat.pow_succ] at hf; exact hf
      have h2 : 0 < f := by
        rcases Nat.eq_zero_or_pos f with rfl | q
        · simp at hf; omega
        · exact q
      rw [digN_digits f (n / 10) _ h1 h2, digN_step (by omega)]
      congr 1
      omega
theorem digitsF_short : ∀ (k f n : Nat) (acc : List Nat), n < 10 ^ k → 0 < k → (digitsF f n acc).length ≤ acc.length + k
  | 0, _, _, _, _, h => by omega
  | _, 0, _, _, _, _ => by simp [digitsF]
  | k + 1, f + 1, n, acc, hk, _ => by
    rw [digitsF]
    split
    · simp
    · rename_i h
      have h1 : n / 10 < 10 ^ k := by rw [Nat.div_lt_iff_lt_mul (by omega)]; rw [Nat.pow_succ] at hk; exact hk
      have h2 : 0 < k := by
        rcases Nat.eq_zero_or_pos k with rfl | q
        · simp at hk; omega
        · exact q
      have := digitsF_short k f (n / 10) ((48 + n % 10) :: acc) h1 h2
      rw [List.length_cons] at this
      omega
def atN (ws : List (List Nat)) (i : Nat) : Int := match ws[i]? with
  | none => 0
  | some w => smallN w
def lineL (s : List Nat) : List Nat × List Nat := match cutL 10 s with
  | some p => p
  | none => (s, [])
end Go.Air
set_option maxRecDepth 100000
namespace Go.Air
open Go.Air.Try
def sealOf (salt : Int) (body : List Nat) : List Nat := Sha.sum ([115] ++ itoa salt ++ [47] ++ body)
theorem t81 : tb1 32 = some a32 := by kernel_rfl
theorem t84 : tb1 40 = some a40 := by kernel_rfl
theorem str_sl {h : H} (l : List Nat) : Sl 1 (h.new (.cells (l.map fun c : Nat => V.i .u8 (c : Int)))) (.sl h.next 0 l.length l.length (some 1)) l.length (l.map u8) :=
  .inr ⟨h.next, 0, _, _, _, rfl, by simp, get_new_eq rfl, cut_eq.2 ⟨by simp, by rw [Nat.mul_one, List.drop_zero, List.take_of_length_le (by simp)]; rfl⟩⟩
theorem fn_seal {h : H} (ht : Tb4 h) {salt : Int} (hs : I64 salt) {body : List Nat} (hb : ∀ c ∈ body, c < 256) (hl : body.length ≤ 1000000) :
    WC tb1 (.fn 32 [] []) [.i .i64 salt, .s body] h fun u h' => u = .agg ((sealOf salt body).map u8) ∧ Ext h h' := by
  refine (WC_in t81).2 ?_
  have e1 : Ext h (h.new (.cells (List.replicate 32 (V.i .u8 0)))) := (Ext.refl h).new _
  have hil := itoa_len salt
  have b1 : binV .add (.s [115]) (.s (itoa salt)) = some (.s ([115] ++ itoa salt)) := bin_sadd (by simp; omega)
  have b2 : binV .add (.s ([115] ++ itoa salt)) (.s [47]) = some (.s ([115] ++ itoa salt ++ [47])) := bin_sadd (by simp; omega)
  have b3 : binV .add (.s ([115] ++ itoa salt ++ [47])) (.s body) = some (.s ([115] ++ itoa salt ++ [47] ++ body)) := bin_sadd (by simp; omega)
  simp only [go_sem, ↓reduceIte, r32_0, r32_1, fn_itoa (ht.ext e1) hs, b1, b2, b3]
  generalize hm : [115] ++ itoa salt ++ [47] ++ body = m
  have hso : sealOf salt body = Sha.sum m := by rw [← hm]; rfl
  have hml : m.length ≤ 10000000 := by subst hm; simp; omega
  have hlt : ∀ c ∈ m, c < 256 := by
    subst hm
    intro c hc
    simp only [List.mem_append, List.mem_cons, List.not_mem_nil, or_false] at hc
    rcases hc with ((rfl | hc) | rfl) | hc
    · omega
    · exact itoa_lt salt c hc
    · omega
    · exact hb c hc
  have hby := bytes_of (str_sl (h := h.new (.cells (List.replicate 32 (V.i .u8 0)))) m) hlt hml
  have e2 : Ext h ((h.new (.cells (List.replicate 32 (V.i .u8 0)))).new (.cells (m.map fun c : Nat => V.i .u8 (c : Int)))) := e1.new _
  have g1 : ((h.new (.cells (List.replicate 32 (V.i .u8 0)))).new (.cells (m.map fun c : Nat => V.i .u8 (c : Int)))).get h.next = some (.cells (List.replicate 32 (V.i .u8 0))) := by
    rw [get_new_lt (by simp), get_new_eq rfl]
  have hst := blk_stn (k := 32) (d := (Sha.sum m).map u8) g1 rfl rfl (u8s_one _)
  simp only [fn1_sum hby, sumV, go_sem, ↓reduceIte, hst]
  rw [res_cell (n := 4) (k := 32) (b := h.next) (cs := (Sha.sum m).map u8) (by simp only [go_sem, ↓reduceIte]) get_put_eq rfl, hso]
  exact ⟨rfl, e2.put (Nat.le_refl _) _⟩
theorem fn_rseal {h : H} (ht : Tb4 h) {salt : Int} (hs : I64 salt) {body : List Nat} (hb : ∀ c ∈ body, c < 256) (hl : body.length ≤ 1000000) :
    WC tb1 (.fn 40 [] []) [.i .i64 salt, .s body] h fun u h' => u = .agg ((sealOf salt body).map u8) ∧ Ext h h' := by
  refine (WC_in t84).2 ?_
  have e1 : Ext h (h.new (.cells (List.replicate 32 (V.i .u8 0)))) := (Ext.refl h).new _
  have hil := itoa_len salt
  have b1 : binV .add (.s [115]) (.s (itoa salt)) = some (.s ([115] ++ itoa salt)) := bin_sadd (by simp; omega)
  have b2 : binV .add (.s ([115] ++ itoa salt)) (.s [47]) = some (.s ([115] ++ itoa salt ++ [47])) := bin_sadd (by simp; omega)
  have b3 : binV .add (.s ([115] ++ itoa salt ++ [47])) (.s body) = some (.s ([115] ++ itoa salt ++ [47] ++ body)) := bin_sadd (by simp; omega)
  simp only [go_sem, ↓reduceIte, r40_0, r40_1, fn_itoa (ht.ext e1) hs, b1, b2, b3]
  generalize hm : [115] ++ itoa salt ++ [47] ++ body = m
  have hso : sealOf salt body = Sha.sum m := by rw [← hm]; rfl
  have hml : m.length ≤ 10000000 := by subst hm; simp; omega
  have hlt : ∀ c ∈ m, c < 256 := by
    subst hm
    intro c hc
    simp only [List.mem_append, List.mem_cons, List.not_mem_nil, or_false] at hc
    rcases hc with ((rfl | hc) | rfl) | hc
    · omega
    · exact itoa_lt salt c hc
    · omega
    · exact hb c hc
  have hby := bytes_of (str_sl (h := h.new (.cells (List.replicate 32 (V.i .u8 0)))) m) hlt hml
  have e2 : Ext h ((h.new (.cells (List.replicate 32 (V.i .u8 0)))).new (.cells (m.map fun c : Nat => V.i .u8 (c : Int)))) := e1.new _
  have g1 : ((h.new (.cells (List.replicate 32 (V.i .u8 0)))).new (.cells (m.map fun c : Nat => V.i .u8 (c : Int)))).get h.next = some (.cells (List.replicate 32 (V.i .u8 0))) := by
    rw [get_new_lt (by simp), get_new_eq rfl]
  have hst := blk_stn (k := 32) (d := (Sha.sum m).map u8) g1 rfl rfl (u8s_one _)
  simp only [fn1_rsum hby, sumV, go_sem, ↓reduceIte, hst]
  rw [res_cell (n := 4) (k := 32) (b := h.next) (cs := (Sha.sum m).map u8) (by simp only [go_sem, ↓reduceIte]) get_put_eq rfl, hso]
  exact ⟨rfl, e2.put (Nat.le_refl _) _⟩
end Go.Air
set_option maxRecDepth 100000
namespace Go.Air
open Go.Air.Try
structure Bul where
  (n at' by' : Int)
  kind : Nat
  hid : Bool
  body : List Nat
  salt : Int
  (dig prev : List Nat)
  deriving DecidableEq
def Bul.head (b : Bul) : List V := [.i .i64 b.n, .i .i64 b.at', .i .i64 b.by', .i .u8 (b.kind : Int), .b b.hid, .s b.body, .i .i64 b.salt]
def Bul.cells (b : Bul) : List V := b.head ++ (b.dig.map u8 ++ b.prev.map u8)
structure Bul.Ok (b : Bul) : Prop where
  n : I64 b.n
  at' : I64 b.at'
  by' : I64 b.by'
  kind : b.kind < 256
  salt : I64 b.salt
  body : ∀ c ∈ b.body, c < 256
  len : b.body.length ≤ 9223372036854775807
  dig : b.dig.length = 32
  prev : b.prev.length = 32
  digB : ∀ c ∈ b.dig, c < 256
  prevB : ∀ c ∈ b.prev, c < 256
def Bul.formed (b : Bul) : Bool := (((btw b.n 0 1999 && btw b.at' 0 100000) && btw b.by' 0 7) && btw b.kind 1 7) &&
  if b.hid then decide (b.body = []) && decide (b.salt = 0) else (decide ((b.body.length : Int) ≤ 7000) && btw b.salt 0 9007199254740992) && decide (b.dig = sealOf b.salt b.body)
theorem cells_len {b : Bul} (h : b.Ok) : b.cells.length = 71 := by simp [Bul.cells, Bul.head, h.dig, h.prev]
theorem cells_one (b : Bul) : ∀ u ∈ b.cells, u.oneCell = true := by
  intro u hu
  unfold Bul.cells at hu
  rcases List.mem_append.1 hu with hu | hu
  · simp only [Bul.head, List.mem_cons, List.not_mem_nil, or_false] at hu
    rcases hu with rfl | rfl | rfl | rfl | rfl | rfl | rfl <;> rfl
  · rcases List.mem_append.1 hu with hu | hu <;> exact u8s_one _ u hu
structure BulAt (h : H) (k : Nat) (b : Bul) : Prop where
  get : h.get k = some (.cells b.cells)
section
variable {h : H} {k : Nat} {b : Bul} (q : h.get k = some (.cells b.cells))
include q
theorem bl0 : ldV h (.p k 0) = some (.i .i64 b.n) := blk_ld q rfl
theorem bl1 : ldV h (.p k 1) = some (.i .i64 b.at') := blk_ld q rfl
theorem bl2 : ldV h (.p k 2) = some (.i .i64 b.by') := blk_ld q rfl
theorem bl3 : ldV h (.p k 3) = some (.i .u8 (b.kind : Int)) := blk_ld q rfl
theorem bl4 : ldV h (.p k 4) = some (.b b.hid) := blk_ld q rfl
theorem bl5 : ldV h (.p k 5) = some (.s b.body) := blk_ld q rfl
theorem bl6 : ldV h (.p k 6) = some (.i .i64 b.salt) := blk_ld q rfl
theorem bl7 (hb : b.Ok) : ldnV h 32 (.p k 7) = some (.agg (b.dig.map u8)) := by
  have : cut b.cells 7 32 = some (b.dig.map u8) := by
    refine cut_eq.2 ⟨by rw [cells_len hb]; omega, ?_⟩
    show _ = (b.dig.map u8 ++ b.prev.map u8).take 32
    rw [List.take_left' (by simpa using hb.dig)]
  simp [ldnV, q, Blk.rd, this]
theorem bl71 (hb : b.Ok) : ldnV h 71 (.p k 0) = some (.agg b.cells) := blk_ldn q (cells_len hb)
end
theorem t85 : tb1 14 = some a14 := by kernel_rfl
theorem t126 : tb1 17 = some a17 := by kernel_rfl
theorem conv_kind {n : Nat} (h : n < 256) : convV .i64 (.i .u8 (n : Int)) = some (.i .i64 (n : Int)) := by
  simp only [convV]; rw [wrap_in (by omega) (by omega)]
theorem fn_formed {h : H} (ht : Tb4 h) {b : Bul} (hb : b.Ok) : WC tb1 (.fn 14 [] []) [.agg b.cells] h fun u h' => u = .b b.formed ∧ Ext h h' := by
  refine (WC_in t85).2 ?_
  have hc : (V.agg b.cells).cells = b.cells := rfl
  have e1 : Ext h (h.new (.cells b.cells)) := (Ext.refl h).new _
  have g : (h.new (.cells b.cells)).get h.next = some (.cells b.cells) := get_new_eq rfl
  have hk := conv_kind hb.kind
  simp only [go_sem, ↓reduceIte, r14_0, hc]
  cases c1 : btw b.n 0 1999
  · simp only [go_sem, ↓reduceIte, r14_1, r14_2, bl0 g, bl1 g, bl2 g, bl3 g, hk, c1]
    refine ⟨by simp [Bul.formed, c1], e1⟩
  cases c2 : btw b.at' 0 100000
  · simp only [go_sem, ↓reduceIte, r14_1, r14_2, bl0 g, bl1 g, bl2 g, bl3 g, hk, c1, c2]
    refine ⟨by simp [Bul.formed, c2], e1⟩
  cases c3 : btw b.by' 0 7
  · simp only [go_sem, ↓reduceIte, r14_1, r14_2, bl0 g, bl1 g, bl2 g, bl3 g, hk, c1, c2, c3]
    refine ⟨by simp [Bul.formed, c3], e1⟩
  cases c4 : btw b.kind 1 7
  · simp only [go_sem, ↓reduceIte, r14_1, r14_2, bl0 g, bl1 g, bl2 g, bl3 g, hk, c1, c2, c3, c4]
    refine ⟨by simp [Bul.formed, c4], e1⟩
  cases c5 : b.hid
  · simp only [go_sem, ↓reduceIte, r14_1, r14_3, bl0 g, bl1 g, bl2 g, bl3 g, bl4 g, hk, c1, c2, c3, c4, c5]
    refine WD_gen (fun t => t.length = 55 ∧ nth t 1 = .p h.next 0) (by simp only [go_sem, ↓reduceIte]) ?_
    rintro t ⟨tl, t1⟩
    cases c6 : decide ((b.body.length : Int) ≤ 7000)
    · simp only [go_sem, ↓reduceIte, r14_5, tl, t1, bl5 g, bl6 g, c6, old_bare, List.cons_append, List.nil_append]
      exact ⟨rfl, by simp only [Bul.formed, c1, c2, c3, c4, c5, c6]; rfl, e1⟩
    cases c7 : btw b.salt 0 9007199254740992
    · simp only [go_sem, ↓reduceIte, r14_5, tl, t1, bl5 g, bl6 g, c6, c7, old_bare, List.cons_append, List.nil_append]
      exact ⟨rfl, by simp only [Bul.formed, c1, c2, c3, c4, c5, c6, c7]; rfl, e1⟩
    simp only [go_sem, ↓reduceIte, r14_5, tl, t1, bl5 g, bl6 g, bl7 g hb, c6, c7, old_bare, List.cons_append, List.nil_append]
    have c6' := of_decide_eq_true c6
    refine (fn_seal (ht.ext e1).bare hb.salt hb.body (by omega)).mono ?_
    rintro u h' ⟨rfl, e⟩
    have hq : eqV (.agg (List.replicate 32 (.i .u8))) (.agg (b.dig.map u8)) (.agg ((sealOf b.salt b.body).map u8)) = some (decide (b.dig = sealOf b.salt b.body)) := eq_u8s hb.dig (sum_len _)
    have ho := e.old
    simp only [go_sem, ↓reduceIte, tl, ho, hq, List.cons_append, List.nil_append]
    exact ⟨rfl, by simp only [Bul.formed, c1, c2, c3, c4, c5, c6, c7]; rfl, e1.trans e.back⟩
  cases c6 : decide (b.body = [])
  · have s6 : binV .eql (.s b.body) (.s []) = some (.b false) := by rw [bin_seq, c6]
    simp only [go_sem, ↓reduceIte, r14_1, r14_3, r14_4, bl0 g, bl1 g, bl2 g, bl3 g, bl4 g, bl5 g, bl6 g, hk, c1, c2, c3, c4, c5, s6]
    exact ⟨by simp only [Bul.formed, c1, c2, c3, c4, c5, c6]; rfl, e1⟩
  have s6 : binV .eql (.s b.body) (.s []) = some (.b true) := by rw [bin_seq, c6]
  cases c7 : decide (b.salt = 0)
  · simp only [go_sem, ↓reduceIte, r14_1, r14_3, r14_4, bl0 g, bl1 g, bl2 g, bl3 g, bl4 g, bl5 g, bl6 g, hk, c1, c2, c3, c4, c5, s6, c7]
    exact ⟨by simp only [Bul.formed, c1, c2, c3, c4, c5, c6, c7]; rfl, e1⟩
  · simp only [go_sem, ↓reduceIte, r14_1, r14_3, r14_4, bl0 g, bl1 g, bl2 g, bl3 g, bl4 g, bl5 g, bl6 g, hk, c1, c2, c3, c4, c5, s6, c7]
    exact ⟨by simp only [Bul.formed, c1, c2, c3, c4, c5, c6, c7]; rfl, e1⟩
structure MB (h hh : H) (u : V) (m : List Nat) : Prop where
  ext : Ext h hh
  own : Own h 1 hh u m.length (m.map u8)
theorem MB.app {h hh : H} {u v : V} {m l : List Nat} (q : MB h hh u m) (hs : Sl 1 hh v l.length (l.map u8)) (hn : m.length + l.length ≤ 1000000) :
    ∃ u' h', appendV 1 1 hh u v = .ok u' h' ∧ MB h h' u' (m ++ l) := by
  obtain ⟨v', h', q1, q2, q3, _⟩ := q.own.app (bytes := 1) q.ext hs (u8s_one l) (by omega) (by omega) (by omega)
  exact ⟨v', h', q1, q2, by simpa using q3⟩
theorem MB.lit {h hh : H} (e : Ext h hh) (m : List Nat) : MB h (hh.new (.cells (m.map fun c : Nat => V.i .u8 (c : Int)))) (.sl hh.next 0 m.length m.length (some 1)) m :=
  ⟨e.new _, by simp, .inr ⟨hh.next, some 1, rfl, .inr rfl, e.nx, by simp, get_new_eq rfl⟩⟩
theorem MB.sl {h hh : H} {u : V} {m : List Nat} (q : MB h hh u m) : Sl 1 hh u m.length (m.map u8) := q.own.sl
theorem zero_u8 (n : Nat) : (List.replicate n (V.i .u8 0)) = (List.replicate n 0).map u8 := by rw [List.map_replicate]; rfl
def zeroB : Bul := ⟨0, 0, 0, 0, false, [], 0, List.replicate 32 0, List.replicate 32 0⟩
theorem zero_ok : zeroB.Ok := ⟨by unfold I64; decide, by unfold I64; decide, by unfold I64; decide, by decide, by unfold I64; decide, by simp [zeroB], by simp [zeroB], rfl, rfl, fun c hc => by simp [zeroB] at hc; omega, fun c hc => by simp [zeroB] at hc; omega⟩
def zc : List V := [.i .i64 0, .i .i64 0, .i .i64 0] ++ [.i .u8 0] ++ [.b false] ++ [.s []] ++ [.i .i64 0] ++ List.replicate 64 (.i .u8 0)
section
variable {h : H} {k : Nat} {b : Bul} (q : h.get k = some (.cells b.cells)) (hb : b.Ok)
include q hb
end
theorem joinL_lt : ∀ (l : List (List Nat)), (∀ x ∈ l, ∀ c ∈ x, c < 256) → ∀ c ∈ joinL [32] l, c < 256
  | [], _ => by simp [joinL]
  | [x], h => h x (by simp)
  | x :: y :: l, h => by
    have ih := joinL_lt (y :: l) fun z hz => h z (List.mem_cons_of_mem _ hz)
    intro c hc
    have hc : c ∈ x ++ [32] ++ joinL [32] (y :: l) := hc
    simp only [List.mem_append, List.mem_cons, List.not_mem_nil, or_false] at hc
    rcases hc with (hc | rfl) | hc
    · exact h x (by simp) c hc
    · omega
    · exact ih c hc
end Go.Air
set_option maxRecDepth 100000
namespace Go.Air
open Go.Air.Try
def hexC (n : Nat) : Nat := if n < 10 then 48 + n else 87 + n
def hexT (l : List Nat) : List Nat := l.flatMap fun x => [hexC (x / 16), hexC (x % 16)]
def figOf (c : Nat) : Option Nat := if 48 ≤ c ∧ c ≤ 57 then some (c - 48) else if 97 ≤ c ∧ c ≤ 102 then some (c - 87) else none
def fgc (c : Nat) : Nat := (figOf c).getD 0
def fg (w : List Nat) (j : Nat) : Nat := fgc (w.getD j 0)
def part (w : List Nat) (i k : Nat) : Nat := if 2 * k + 1 < i then fg w (2 * k) * 16 + fg w (2 * k + 1) else if 2 * k < i then fg w (2 * k) else 0
def hpart (w : List Nat) (i : Nat) : List Nat := (List.range 32).map (part w i)
def unhexL (w : List Nat) : List Nat := (List.range 32).map fun k => fg w (2 * k) * 16 + fg w (2 * k + 1)
def unhexP : List Nat → List Nat
  | a :: b :: l => (fgc a * 16 + fgc b) :: unhexP l
  | _ => []
def figs (w : List Nat) : Bool := w.all fun c => (figOf c).isSome
theorem fgc_lt (c : Nat) : fgc c < 16 := by
  unfold fgc figOf
  split
  · simp; omega
  · split
    · simp; omega
    · simp
theorem fg_lt (w : List Nat) (j : Nat) : fg w j < 16 := fgc_lt _
theorem hexC_lt {n : Nat} (h : n < 16) : hexC n < 256 := by unfold hexC; split <;> omega
theorem fig_hexC {n : Nat} (h : n < 16) : figOf (hexC n) = some n := by
  unfold hexC figOf
  split
  · rw [if_pos (by omega)]; congr 1; omega
  · rw [if_neg (by omega), if_pos (by omega)]; congr 1; omega
theorem fgc_hexC {n : Nat} (h : n < 16) : fgc (hexC n) = n := by unfold fgc; rw [fig_hexC h]; rfl
theorem hexC_fgc {c : Nat} (h : (figOf c).isSome = true) : hexC (fgc c) = c := by
  unfold fgc
  unfold figOf at h ⊢
  unfold hexC
  split
  · simp only [Option.getD_some]
    split <;> omega
  · split
    · simp only [Option.getD_some]
      split <;> omega
    · rename_i h1 h2
      simp [h1, h2] at h
theorem hexC_plain {n : Nat} (h : n < 16) : hexC n ≠ 10 ∧ hexC n ≠ 32 := by unfold hexC; split <;> omega
theorem hpart_64 (w : List Nat) : hpart w 64 = unhexL w := by
  unfold hpart unhexL
  apply List.map_congr_left
  intro k hk
  rw [List.mem_range] at hk
  unfold part
  rw [if_pos (by omega)]
theorem hpart_len (w : List Nat) (i : Nat) : (hpart w i).length = 32 := by simp [hpart]
theorem unhexL_len (w : List Nat) : (unhexL w).length = 32 := by simp [unhexL]
theorem unhexL_lt (w : List Nat) : ∀ c ∈ unhexL w, c < 256 := by
  intro c hc
  obtain ⟨k, _, rfl⟩ := List.mem_map.1 hc
  have := fg_lt w (2 * k)
  have := fg_lt w (2 * k + 1)
  omega
theorem hpart_0 (w : List Nat) : hpart w 0 = List.replicate 32 0 := by
  apply List.ext_getElem?
  intro k
  simp only [hpart, List.getElem?_map, List.getElem?_replicate]
  by_cases h : k < 32
  · rw [List.getElem?_range h, if_pos h]; rfl
  · rw [List.getElem?_eq_none (by simp; omega), if_neg h]; rfl
theorem hpart_step (w : List Nat) {i : Nat} (hi : i < 64) : (hpart w i).set (i / 2) ((hpart w i).getD (i / 2) 0 * 16 % 256 + fg w i) = hpart w (i + 1) := by
  have hk : i / 2 < 32 := by omega
  have hg : (hpart w i).getD (i / 2) 0 = part w i (i / 2) := by
    unfold hpart
    rw [List.getD_eq_getElem?_getD, List.getElem?_map, List.getElem?_range hk]; rfl
  rw [hg]
  apply List.ext_getElem?
  intro k
  rw [List.getElem?_set]
  by_cases h : k < 32
  · have e1 : (hpart w (i + 1))[k]? = some (part w (i + 1) k) := by unfold hpart; rw [List.getElem?_map, List.getElem?_range h]; rfl
    have e0 : (hpart w i)[k]? = some (part w i k) := by unfold hpart; rw [List.getElem?_map, List.getElem?_range h]; rfl
    rw [e1, e0, hpart_len]
    have b1 := fg_lt w (2 * k)
    split
    · rename_i e
      subst e
      congr 1
      unfold part
      by_cases ev : i % 2 = 0
      · have e2 : 2 * (i / 2) = i := by omega
        rw [if_neg (by omega), if_neg (by omega), if_neg (by omega), if_pos (by omega), e2]; omega
      · have e2 : 2 * (i / 2) + 1 = i := by omega
        rw [if_neg (by omega), if_pos (by omega), if_pos (by omega), e2]; omega
    · rename_i e
      congr 1
      unfold part
      by_cases c1 : 2 * k + 1 < i
      · rw [if_pos c1, if_pos (by omega)]
      · rw [if_neg c1]
        by_cases c2 : 2 * k < i
        · exfalso; omega
        · rw [if_neg c2, if_neg (by omega), if_neg (by omega)]
  · rw [if_neg (by omega), List.getElem?_eq_none (by rw [hpart_len]; omega), List.getElem?_eq_none (by rw [hpart_len]; omega)]
theorem unhex_range : ∀ (n : Nat) (w : List Nat), w.length = 2 * n → (List.range n).map (fun k => fg w (2 * k) * 16 + fg w (2 * k + 1)) = unhexP w
  | 0, w, h => by
    obtain rfl := List.eq_nil_of_length_eq_zero (by omega : w.length = 0)
    rfl
  | n + 1, w, h => by
    match w, h with
    | a :: b :: l, h =>
      rw [List.range_succ_eq_map, List.map_cons, List.map_map, unhexP]
      congr 1
      rw [← unhex_range n l (by simp at h; omega)]
      apply List.map_congr_left
      intro k _
      have e1 : fg (a :: b :: l) (2 * (k + 1)) = fg l (2 * k) := by
        unfold fg; rw [show 2 * (k + 1) = 2 * k + 1 + 1 by omega]; rfl
      have e2 : fg (a :: b :: l) (2 * (k + 1) + 1) = fg l (2 * k + 1) := by
        unfold fg; rw [show 2 * (k + 1) + 1 = 2 * k + 1 + 1 + 1 by omega]; rfl
      show fg (a :: b :: l) (2 * (k + 1)) * 16 + fg (a :: b :: l) (2 * (k + 1) + 1) = _
      rw [e1, e2]
    | [], h => simp at h
    | [_], h => simp at h; omega
theorem unhexL_P {w : List Nat} (h : w.length = 64) : unhexL w = unhexP w := unhex_range 32 w h
theorem hexT_cons (x : Nat) (l : List Nat) : hexT (x :: l) = hexC (x / 16) :: hexC (x % 16) :: hexT l := rfl
theorem hexT_len : ∀ l : List Nat, (hexT l).length = 2 * l.length
  | [] => rfl
  | x :: l => by rw [hexT_cons, List.length_cons, List.length_cons, hexT_len l, List.length_cons]; omega
theorem unhexP_hexT : ∀ {l : List Nat}, (∀ c ∈ l, c < 256) → unhexP (hexT l) = l
  | [], _ => rfl
  | x :: l, h => by
    have hx := h x (by simp)
    rw [hexT_cons, unhexP, fgc_hexC (by omega), fgc_hexC (by omega), unhexP_hexT fun c hc => h c (by simp [hc])]
    congr 1; omega
theorem hexT_unhexP : ∀ (n : Nat) {w : List Nat}, w.length = 2 * n → figs w = true → hexT (unhexP w) = w
  | 0, w, h, _ => by
    obtain rfl := List.eq_nil_of_length_eq_zero (by omega : w.length = 0)
    rfl
  | n + 1, w, h, hf => by
    match w, h with
    | a :: b :: l, h =>
      unfold figs at hf
      rw [List.all_cons, List.all_cons, Bool.and_eq_true, Bool.and_eq_true] at hf
      obtain ⟨ha, hb, hl⟩ := hf
      have b1 := fgc_lt a
      have b2 := fgc_lt b
      rw [unhexP, hexT_cons, hexT_unhexP n (by simp at h; omega) hl]
      rw [show (fgc a * 16 + fgc b) / 16 = fgc a by omega, show (fgc a * 16 + fgc b) % 16 = fgc b by omega, hexC_fgc ha, hexC_fgc hb]
    | [], h => simp at h
    | [_], h => simp at h; omega
theorem unhexL_hexT {l : List Nat} (hl : l.length = 32) (h : ∀ c ∈ l, c < 256) : unhexL (hexT l) = l := by
  rw [unhexL_P (by rw [hexT_len]; omega), unhexP_hexT h]
theorem hexT_unhexL {w : List Nat} (hl : w.length = 64) (h : figs w = true) : hexT (unhexL w) = w := by
  rw [unhexL_P hl, hexT_unhexP 32 (by omega) h]
theorem figs_hexT : ∀ {l : List Nat}, (∀ c ∈ l, c < 256) → figs (hexT l) = true
  | [], _ => rfl
  | x :: l, h => by
    have hx := h x (by simp)
    have ih := figs_hexT (l := l) fun c hc => h c (by simp [hc])
    unfold figs at ih ⊢
    rw [hexT_cons, List.all_cons, List.all_cons, ih, fig_hexC (by omega), fig_hexC (by omega)]; rfl
theorem hexT_plain {l : List Nat} (h : ∀ c ∈ l, c < 256) : 10 ∉ hexT l ∧ 32 ∉ hexT l := by
  have key : ∀ c ∈ hexT l, c ≠ 10 ∧ c ≠ 32 := by
    intro c hc
    obtain ⟨x, hx, hc⟩ := List.mem_flatMap.1 hc
    have := h x hx
    simp only [List.mem_cons, List.not_mem_nil, or_false] at hc
    rcases hc with rfl | rfl
    · exact hexC_plain (by omega)
    · exact hexC_plain (by omega)
  exact ⟨fun hm => (key _ hm).1 rfl, fun hm => (key _ hm).2 rfl⟩
def wBul : List Nat := [98, 117, 108, 108, 101, 116, 105, 110]
def wSeal : List Nat := [115, 101, 97, 108]
def wPrev : List Nat := [112, 114, 101, 118]
def lineH (w d : List Nat) : List Nat := w ++ 32 :: hexT d ++ [10]
def Bul.nums (b : Bul) : List Int := [b.n, b.at', b.by', (b.kind : Int), if b.hid then 1 else 0, b.salt, (b.body.length : Int)]
def Bul.text (b : Bul) : List Nat := lineT wBul b.nums ++ (lineH wSeal b.dig ++ (lineH wPrev b.prev ++ b.body))
def hashOf (first s : List Nat) : Option (List Nat × List Nat) := match lineOf first s with
  | some ([w], rest) => if w.length = 64 ∧ figs w = true then some (unhexL w, rest) else none
  | _ => none
def bulOf (s : List Nat) : Option Bul := match intsOf wBul 7 s with
  | some ([n, a, y, k, hd, sa, len], s1) => if 7 < k ∨ 1 < hd then none else match hashOf wSeal s1 with
    | some (d, s2) => match hashOf wPrev s2 with
      | some (p, s3) => if (s3.length : Int) = len then some ⟨n, a, y, k.toNat, decide (hd = 1), s3, sa, d, p⟩ else none
      | none => none
    | none => none
  | _ => none
theorem lineOf_H {w d rest : List Nat} (h1 : 32 ∉ w) (h2 : 10 ∉ w) (hd : ∀ c ∈ d, c < 256) : lineOf w (lineH w d ++ rest) = some ([hexT d], rest) := by
  obtain ⟨p1, p2⟩ := hexT_plain hd
  have hn : 10 ∉ w ++ 32 :: hexT d := by
    intro hm
    rcases List.mem_append.1 hm with hm | hm
    · exact h2 hm
    · rcases List.mem_cons.1 hm with e | hm
      · omega
      · exact p1 hm
  have e : lineH w d ++ rest = (w ++ 32 :: hexT d) ++ 10 :: rest := by simp [lineH]
  unfold lineOf
  rw [e, cutL_of hn]
  simp only [splitL_cut h1, splitL_none p2, if_true]
theorem hashOf_H {w d rest : List Nat} (h1 : 32 ∉ w) (h2 : 10 ∉ w) (hl : d.length = 32) (hd : ∀ c ∈ d, c < 256) : hashOf w (lineH w d ++ rest) = some (d, rest) := by
  unfold hashOf
  rw [lineOf_H h1 h2 hd]
  simp only [hexT_len, hl, figs_hexT hd, unhexL_hexT hl hd, and_self, if_true]
theorem hashOf_some {w s d rest : List Nat} (h : hashOf w s = some (d, rest)) : s = lineH w d ++ rest ∧ d.length = 32 ∧ ∀ c ∈ d, c < 256 := by
  unfold hashOf at h
  split at h <;> try cases h
  rename_i x rest' hl
  split at h <;> try cases h
  rename_i hx
  refine ⟨?_, unhexL_len _, unhexL_lt _⟩
  unfold lineOf at hl
  split at hl <;> try cases hl
  rename_i a r hc
  split at hl <;> try cases hl
  rename_i w' ws' hs
  split at hl <;> try cases hl
  rename_i hw
  subst hw
  obtain ⟨rfl, _⟩ := cutL_some hc
  have := splitL_words hs
  rw [lineH, hexT_unhexL hx.1 hx.2, this]
  simp
structure Bul.Wr (b : Bul) : Prop where
  n : NumB b.n
  at' : NumB b.at'
  by' : NumB b.by'
  kind : b.kind ≤ 7
  salt : NumB b.salt
  len : b.body.length ≤ 9223372036854775807
  dig : b.dig.length = 32
  prev : b.prev.length = 32
  digB : ∀ c ∈ b.dig, c < 256
  prevB : ∀ c ∈ b.prev, c < 256
theorem Bul.Wr.nums {b : Bul} (h : b.Wr) : ∀ x ∈ b.nums, NumB x := by
  intro x hx
  have hk := h.kind
  have hl := h.len
  simp only [Bul.nums, List.mem_cons, List.not_mem_nil, or_false] at hx
  rcases hx with rfl | rfl | rfl | rfl | rfl | rfl | rfl
  · exact h.n
  · exact h.at'
  · exact h.by'
  · exact ⟨by omega, by omega⟩
  · split
    · exact ⟨by omega, by omega⟩
    · exact ⟨by omega, by omega⟩
  · exact h.salt
  · exact ⟨by omega, by omega⟩
theorem bulOf_text {b : Bul} (h : b.Wr) : bulOf b.text = some b := by
  have h1 : intsOf wBul 7 b.text = some (b.nums, _) := intsOf_line (by decide) (by decide) h.nums (.inr rfl)
  have h2 : hashOf wSeal (lineH wSeal b.dig ++ (lineH wPrev b.prev ++ b.body)) = some (b.dig, _) := hashOf_H (by decide) (by decide) h.dig h.digB
  have h3 : hashOf wPrev (lineH wPrev b.prev ++ b.body) = some (b.prev, _) := hashOf_H (by decide) (by decide) h.prev h.prevB
  have hk := h.kind
  simp only [bulOf, h1, Bul.nums, h2, h3]
  rw [if_neg (by
    rintro (h | h)
    · omega
    · split at h <;> omega), if_pos trivial]
  cases b with
  | mk n a y k hd bo sa d p => cases hd <;> simp
theorem bulOf_some {s : List Nat} {b : Bul} (h : bulOf s = some b) : s = b.text ∧ b.Wr := by
  unfold bulOf at h
  split at h <;> try cases h
  rename_i n a y k hd sa len s1 h1
  split at h <;> try cases h
  rename_i hk
  split at h <;> try cases h
  rename_i d s2 h2
  split at h <;> try cases h
  rename_i p s3 h3
  split at h <;> try cases h
  rename_i hl
  obtain ⟨rfl, b1, _⟩ := intsOf_some h1
  obtain ⟨rfl, d1, d2⟩ := hashOf_some h2
  obtain ⟨rfl, p1, p2⟩ := hashOf_some h3
  simp only [List.mem_cons, List.not_mem_nil, or_false, forall_eq_or_imp, forall_eq] at b1
  obtain ⟨n1, n2, n3, n4, n5, n6, n7⟩ := b1
  have ek : ((k.toNat : Nat) : Int) = k := Int.toNat_of_nonneg n4.1
  have eh : (if decide (hd = 1) = true then (1 : Int) else 0) = hd := by
    have := n5.1
    by_cases e : hd = 1
    · simp [e]
    · simp [e]; omega
  refine ⟨?_, ⟨n1, n2, n3, by show k.toNat ≤ 7; omega, n6, by show s3.length ≤ _; have := n7.2; omega, d1, p1, d2, p2⟩⟩
  unfold Bul.text Bul.nums
  simp only [ek, eh, hl]
theorem formed_wr {b : Bul} (ho : b.Ok) (h : b.formed = true) : b.Wr ∧ b.salt ≤ 9007199254740992 ∧ b.body.length ≤ 7000 := by
  unfold Bul.formed at h
  simp only [Bool.and_eq_true] at h
  obtain ⟨⟨⟨⟨h1, h2⟩, h3⟩, h4⟩, h5⟩ := h
  have g1 : 0 ≤ b.n ∧ b.n ≤ 1999 := by simpa [btw] using h1
  have g2 : 0 ≤ b.at' ∧ b.at' ≤ 100000 := by simpa [btw] using h2
  have g3 : 0 ≤ b.by' ∧ b.by' ≤ 7 := by simpa [btw] using h3
  have g4 : (1 : Int) ≤ b.kind ∧ (b.kind : Int) ≤ 7 := by simpa [btw] using h4
  have g5 : 0 ≤ b.salt ∧ b.salt ≤ 9007199254740992 ∧ b.body.length ≤ 7000 := by
    split at h5
    · simp only [Bool.and_eq_true, decide_eq_true_eq] at h5
      rw [h5.1, h5.2]; simp
    · simp only [Bool.and_eq_true, decide_eq_true_eq] at h5
      have : 0 ≤ b.salt ∧ b.salt ≤ 9007199254740992 := by simpa [btw] using h5.1.2
      exact ⟨this.1, this.2, by omega⟩
  exact ⟨⟨⟨by omega, by omega⟩, ⟨by omega, by omega⟩, ⟨by omega, by omega⟩, by omega, ⟨by omega, by omega⟩, by omega, ho.dig, ho.prev, ho.digB, ho.prevB⟩, g5.2.1, g5.2.2⟩
theorem smallN_itoa' {n : Int} (h0 : 0 ≤ n) (h1 : n < 10000000000000000) : smallN (itoa n) = n := by
  have hl : (itoa n).length ≤ 0 + 16 := by
    rw [itoa_pos h0]
    exact digitsF_short 16 20 n.toNat [] (by omega) (by omega)
  unfold smallN
  rw [if_neg (by omega), itoa_pos h0]
  unfold digits
  rw [digN_digits 20 n.toNat [] (by omega) (by omega), digN]
  omega
def hashN (ws : List (List Nat)) : List Nat := match ws[1]? with
  | some w => if w.length = 64 then unhexL w else List.replicate 32 0
  | none => List.replicate 32 0
def looseB (s : List Nat) : Bul :=
  let w := splitL 32 (lineL s).1
  let s1 := (lineL s).2
  let s2 := (lineL s1).2
  ⟨atN w 1, atN w 2, atN w 3, (atN w 4).toNat, decide (atN w 5 = 1), (lineL s2).2, atN w 6, hashN (splitL 32 (lineL s1).1), hashN (splitL 32 (lineL s2).1)⟩
theorem lineL_H {w d rest : List Nat} (h2 : 10 ∉ w) (hd : ∀ c ∈ d, c < 256) : lineL (lineH w d ++ rest) = (w ++ 32 :: hexT d, rest) := by
  obtain ⟨p1, _⟩ := hexT_plain hd
  have hn : 10 ∉ w ++ 32 :: hexT d := by
    intro hm
    rcases List.mem_append.1 hm with hm | hm
    · exact h2 hm
    · rcases List.mem_cons.1 hm with e | hm
      · omega
      · exact p1 hm
  have e : lineH w d ++ rest = (w ++ 32 :: hexT d) ++ 10 :: rest := by simp [lineH]
  unfold lineL
  rw [e, cutL_of hn]
theorem hashN_H {w d : List Nat} (h1 : 32 ∉ w) (hl : d.length = 32) (hd : ∀ c ∈ d, c < 256) : hashN (splitL 32 (w ++ 32 :: hexT d)) = d := by
  obtain ⟨_, p2⟩ := hexT_plain hd
  rw [splitL_cut h1, splitL_none p2]
  unfold hashN
  simp only [List.getElem?_cons_succ, List.getElem?_cons_zero, hexT_len, hl, if_true, unhexL_hexT hl hd]
theorem lineL_T {w : List Nat} {ns : List Int} {rest : List Nat} (hw : 10 ∉ w) (h : ∀ n ∈ ns, 0 ≤ n) : lineL (lineT w ns ++ rest) = (w ++ ns.flatMap fun n => 32 :: itoa n, rest) := by
  unfold lineL lineT
  rw [List.append_assoc, List.singleton_append, cutL_of (line_no10 hw h)]
theorem looseB_text {b : Bul} (ho : b.Ok) (hf : b.formed = true) : looseB b.text = b := by
  obtain ⟨hw, hs, _⟩ := formed_wr ho hf
  have hn : ∀ n ∈ b.nums, 0 ≤ n := fun n hn => (hw.nums n hn).1
  have l1 : lineL b.text = _ := lineL_T (w := wBul) (rest := lineH wSeal b.dig ++ (lineH wPrev b.prev ++ b.body)) (by decide) hn
  have l2 : lineL (lineH wSeal b.dig ++ (lineH wPrev b.prev ++ b.body)) = _ := lineL_H (by decide) hw.digB
  have l3 : lineL (lineH wPrev b.prev ++ b.body) = _ := lineL_H (by decide) hw.prevB
  unfold looseB
  simp only [l1, l2, l3, split_words (first := wBul) (by decide) hn, hashN_H (w := wSeal) (by decide) hw.dig hw.digB, hashN_H (w := wPrev) (by decide) hw.prev hw.prevB]
  have hb := hf
  unfold Bul.formed at hb
  simp only [Bool.and_eq_true] at hb
  obtain ⟨⟨⟨⟨h1, h2⟩, h3⟩, h4⟩, _⟩ := hb
  have g1 : 0 ≤ b.n ∧ b.n ≤ 1999 := by simpa [btw] using h1
  have g2 : 0 ≤ b.at' ∧ b.at' ≤ 100000 := by simpa [btw] using h2
  have g3 : 0 ≤ b.by' ∧ b.by' ≤ 7 := by simpa [btw] using h3
  have g4 : (1 : Int) ≤ b.kind ∧ (b.kind : Int) ≤ 7 := by simpa [btw] using h4
  have g6 := hw.salt.1
  have e5 : smallN (itoa (if b.hid then 1 else 0)) = if b.hid then 1 else 0 := by
    split
    · exact smallN_itoa' (by omega) (by omega)
    · exact smallN_itoa' (by omega) (by omega)
  simp only [Bul.nums, List.map_cons, List.map_nil, atN, List.getElem?_cons_succ, List.getElem?_cons_zero, smallN_itoa' g1.1 (by omega), smallN_itoa' g2.1 (by omega), smallN_itoa' g3.1 (by omega), smallN_itoa' (n := (b.kind : Int)) (by omega) (by omega), e5, smallN_itoa' g6 (by omega)]
  cases b with
  | mk n a y k hd bo sa d p => cases hd <;> simp
def readB (s : List Nat) : Option Bul := match bulOf s with
  | some b => if b.formed then some b else none
  | none => none
theorem bulOf_ok {s : List Nat} {b : Bul} (hs : ∀ c ∈ s, c < 256) (h : bulOf s = some b) : b.Ok := by
  obtain ⟨rfl, w⟩ := bulOf_some h
  have hk := w.kind
  refine ⟨w.n.i64, w.at'.i64, w.by'.i64, by omega, w.salt.i64, fun c hc => hs c ?_, w.len, w.dig, w.prev, w.digB, w.prevB⟩
  unfold Bul.text
  simp [hc]
theorem atN_bound (ws : List (List Nat)) (i : Nat) : 0 ≤ atN ws i ∧ atN ws i ≤ 10000000000000000 := by
  unfold atN
  split
  · omega
  · exact smallN_bound _
theorem lineL_mem {s : List Nat} : ∀ c ∈ (lineL s).2, c ∈ s := by
  intro c hc
  unfold lineL at hc
  split at hc
  · rename_i p hp
    obtain ⟨x, y⟩ := p
    obtain ⟨rfl, _⟩ := cutL_some hp
    simp [show c ∈ y from hc]
  · simp at hc
theorem hashN_len (ws : List (List Nat)) : (hashN ws).length = 32 ∧ ∀ c ∈ hashN ws, c < 256 := by
  have z : (List.replicate 32 0).length = 32 ∧ ∀ c ∈ List.replicate 32 0, c < 256 := ⟨by simp, fun c hc => by have := List.eq_of_mem_replicate hc; omega⟩
  unfold hashN
  split
  · split
    · exact ⟨unhexL_len _, unhexL_lt _⟩
    · exact z
  · exact z
theorem lineL_len2 (s : List Nat) : (lineL s).2.length ≤ s.length := by
  unfold lineL
  split
  · rename_i p hp
    obtain ⟨x, y⟩ := p
    obtain ⟨rfl, _⟩ := cutL_some hp
    simp; omega
  · simp
theorem looseB_ok {s : List Nat} (hs : ∀ c ∈ s, c < 256) (hl : s.length ≤ 1000000) (hk : (looseB s).kind ≤ 7) : (looseB s).Ok := by
  have h : ∀ (ws : List (List Nat)) (i : Nat), I64 (atN ws i) := fun ws i => by
    have := atN_bound ws i
    exact ⟨by omega, by omega⟩
  refine ⟨h _ _, h _ _, h _ _, by omega, h _ _, fun c hc => hs c (lineL_mem c (lineL_mem c (lineL_mem c hc))), ?_, (hashN_len _).1, (hashN_len _).1, (hashN_len _).2, (hashN_len _).2⟩
  have e : (looseB s).body = (lineL (lineL (lineL s).2).2).2 := rfl
  have h1 := lineL_len2 s
  have h2 := lineL_len2 (lineL s).2
  have h3 := lineL_len2 (lineL (lineL s).2).2
  rw [e]
  omega
theorem looseB_law {s : List Nat} (hs : ∀ c ∈ s, c < 256) (hl : s.length ≤ 1000000) : readB s = if (looseB s).kind ≤ 7 ∧ (looseB s).formed = true ∧ (looseB s).text = s then some (looseB s) else none := by
  unfold readB
  split
  · rename_i b hb
    have ho := bulOf_ok hs hb
    obtain ⟨he, hw⟩ := bulOf_some hb
    cases hf : b.formed
    · rw [if_neg (by simp), if_neg]
      rintro ⟨h1, h2, h3⟩
      have := bulOf_text (formed_wr (looseB_ok hs hl h1) h2).1
      rw [h3, hb] at this
      cases this
      rw [h2] at hf
      cases hf
    · have := looseB_text ho hf
      rw [← he] at this
      rw [if_pos rfl, if_pos ⟨by rw [this]; exact hw.kind, by rw [this]; exact hf, by rw [this]; exact he.symm⟩, this]
  · rename_i hb
    rw [if_neg]
    rintro ⟨h1, h2, h3⟩
    have := bulOf_text (formed_wr (looseB_ok hs hl h1) h2).1
    rw [h3, hb] at this
    cases this
theorem readB_text {b : Bul} (ho : b.Ok) (hf : b.formed = true) : readB b.text = some b := by
  unfold readB
  rw [bulOf_text (formed_wr ho hf).1]
  simp only [hf, if_true]
theorem readB_some {s : List Nat} {b : Bul} (hs : ∀ c ∈ s, c < 256) (h : readB s = some b) : s = b.text ∧ b.formed = true ∧ b.Ok := by
  unfold readB at h
  split at h <;> try cases h
  rename_i b' hb
  split at h <;> try cases h
  rename_i hf
  exact ⟨(bulOf_some hb).1, hf, bulOf_ok hs hb⟩
end Go.Air
set_option maxRecDepth 100000
namespace Go.Air
open Go.Air.Try
theorem rep_one (z : V) : ∀ n, rep [z] n = List.replicate n z
  | 0 => rfl
  | n + 1 => by rw [rep, rep_one z n]; rfl
theorem minL_2 {k : IntKind} {a b : Int} : minL false [.i k a, .i k b] = some (.i k (if b < a then b else a)) := rfl
section
variable {h : H}
theorem mkSl_ok {z : V} {n bytes : Nat} (hb : bytes ≤ 64) (hn : n ≤ 2000000000) : mkSlR h [z] bytes (some n) (some n) = .ok (.sl h.next 0 n n none) (h.new (.cells (List.replicate n z))) := by
  have h1 : Nat.ble n n = true := by rw [Nat.ble_eq]; exact Nat.le_refl _
  have h2 : Nat.ble n 281474976710656 = true := by rw [Nat.ble_eq]; omega
  have h3 : Nat.ble (bytes * n) 281474976710656 = true := by
    rw [Nat.ble_eq]
    have : bytes * n ≤ 64 * 2000000000 := Nat.mul_le_mul hb hn
    omega
  simp only [mkSlR, h1, h2, h3, Bool.and_self, if_true, rep_one]
theorem set_next {pre : List (List Nat)} {k : Nat} {w : List Nat} {z : V} : (pre.map V.s ++ List.replicate (k + 1) z).set pre.length (.s w) = (pre ++ [w]).map V.s ++ List.replicate k z := by
  have h1 : (pre.map V.s).length = pre.length := by simp
  rw [List.set_eq_take_append_cons_drop, if_pos (by simp)]
  rw [List.take_left' h1, List.map_append, List.append_assoc]
  congr 1
  rw [← List.drop_drop, List.drop_left' h1]
  simp
structure SplitR (h : H) (u : V) (h' : H) (ws : List (List Nat)) : Prop where
  ext : Ext h h'
  eq : u = .sl h.next 0 ws.length ws.length none
  nx : h.next < h'.next
  get : h'.get h.next = some (.cells (ws.map V.s))
theorem SplitR.arg {h h' : H} {u : V} {ws : List (List Nat)} (q : SplitR h u h' ws) : Arg 1 h' u ws.length (ws.map V.s) :=
  .inr ⟨h.next, 0, _, _, q.eq, Nat.le_refl _, q.nx, q.get, cut_eq.2 ⟨by simp, by rw [Nat.mul_one, List.drop_zero, List.take_of_length_le (by simp)]⟩⟩
structure M268 (h hh : H) (l : List Nat) (c n : Nat) (pre : List (List Nat)) (s : List Nat) : Prop where
  ext : Ext h hh
  nx : h.next < hh.next
  get : hh.get h.next = some (.cells (pre.map V.s ++ List.replicate (n + 1 - pre.length) (.s [])))
  eq : splitL c l = pre ++ splitL c s
  cnt : s.countP (Nat.beq c) + pre.length = n
  len : s.length ≤ l.length
theorem M268.put {h hh : H} {l : List Nat} {c n : Nat} {pre : List (List Nat)} {s w : List Nat} (q : M268 h hh l c n pre s) : stV hh 1 (.p h.next (0 + pre.length * 1)) (.s w) = some (hh.put h.next (.cells ((pre ++ [w]).map V.s ++ List.replicate (n - pre.length) (.s [])))) := by
  have hle : pre.length ≤ n := by have := q.cnt; omega
  have := blk_st0 (x := .s w) (i := pre.length) q.get (by simp; omega) rfl rfl
  rw [this, show n + 1 - pre.length = (n - pre.length) + 1 by omega, set_next]
theorem fn_genSplit {l : List Nat} {c : Nat} (hc : c < 256) (hl : l.length ≤ 100000000) :
    WC tb1 (.fn 105 [] []) [.s l, .s [c], .i .i64 0, .i .i64 (-1)] h fun u h' => SplitR h u h' (splitL c l) := by
  refine (WC_in t268).2 ?_
  have hcl : l.countP (Nat.beq c) ≤ l.length := List.countP_le_length
  have w1 : IntKind.i64.wrap (((l.countP (Nat.beq c) : Nat) : Int) + 1) = ((l.countP (Nat.beq c) + 1 : Nat) : Int) := wrap_succ (by omega)
  have w2 : IntKind.i64.wrap ((l.length : Int) + 1) = ((l.length + 1 : Nat) : Int) := wrap_succ (by omega)
  have w3 : IntKind.i64.wrap (((l.countP (Nat.beq c) + 1 : Nat) : Int) - 1) = ((l.countP (Nat.beq c) : Nat) : Int) := by rw [wrap_in (by omega) (by omega)]; omega
  have e1 : binV .eql (.s [c]) (.s []) = some (.b false) := by rw [bin_seq]; simp
  have m1 : (if ((l.length + 1 : Nat) : Int) < ((l.countP (Nat.beq c) + 1 : Nat) : Int) then ((l.length + 1 : Nat) : Int) else ((l.countP (Nat.beq c) + 1 : Nat) : Int)) = ((l.countP (Nat.beq c) + 1 : Nat) : Int) := if_neg (by omega)
  have mk := mkSl_ok (h := h) (z := .s []) (n := l.countP (Nat.beq c) + 1) (bytes := 16) (by omega) (by omega)
  simp only [go_sem, ↓reduceIte, r105_0, r105_1, r105_3, r105_5, r105_6, r105_7, r105_8, r105_9, r105_10, e1, fn_count hc, w1, w2, minL_2, m1, mk, w3]
  generalize hn : l.countP (Nat.beq c) = n
  rw [hn] at hcl
  refine W_while (fun k t h' => ∃ pre s, k = n - pre.length ∧ t.length = 66 ∧ nth t 0 = .s s ∧ nth t 1 = .s [c] ∧ nth t 2 = .i .i64 0 ∧ nth t 3 = .i .i64 (n : Int) ∧ nth t 9 = .sl h.next 0 (n + 1) (n + 1) none ∧ nth t 10 = .i .i64 (pre.length : Int) ∧ M268 h h' l c n pre s) ?_ n ?_
  · rintro k t h' ⟨pre, s, rfl, tl, u0, u1, u2, u3, u9, u10, q⟩
    unfold b105_0
    have hle : pre.length ≤ n := by have := q.cnt; omega
    have hix : ixV 1 (.sl h.next 0 (n + 1) (n + 1) none) (.i .i64 (pre.length : Int)) = some (.p h.next (0 + pre.length * 1)) := by
      have hs : Sl 1 h' (.sl h.next 0 (n + 1) (n + 1) none) (n + 1) (pre.map V.s ++ List.replicate (n + 1 - pre.length) (.s [])) := .inr ⟨h.next, 0, _, _, _, rfl, q.nx, q.get, cut_eq.2 ⟨by simp; omega, by rw [List.drop_zero, List.take_of_length_le (by simp; omega)]⟩⟩
      exact hs.ix (by omega)
    have w4 : IntKind.i64.wrap ((pre.length : Int) + 1) = ((pre.length + 1 : Nat) : Int) := wrap_succ (by omega)
    by_cases hin : pre.length < n
    · have hI : (pre.length : Int) < (n : Int) := by omega
      cases hq : cutL c s with
      | none =>
        have h1 := count_none (cutL_none hq)
        have := q.cnt
        omega
      | some p =>
        obtain ⟨a, b⟩ := p
        obtain ⟨rfl, hca⟩ := cutL_some hq
        have h1 := idxB_cut (b := b) 0 hca
        rw [Nat.add_zero] at h1
        have h2 : ¬ (a.length : Int) < 0 := by omega
        have hlen : (a ++ c :: b).length = a.length + b.length + 1 := by simp; omega
        have hql := q.len
        have w5 : IntKind.i64.wrap ((a.length : Int) + 0) = (a.length : Int) := by rw [wrap_in (by omega) (by omega)]; omega
        have w6 : IntKind.i64.wrap ((a.length : Int) + 1) = ((a.length + 1 : Nat) : Int) := wrap_succ (by omega)
        have k1 : (a ++ c :: b).take a.length = a := List.take_left' rfl
        have k2 : (a ++ c :: b).drop (a.length + 1) = b := by
          rw [← List.drop_drop, List.drop_left' rfl]; rfl
        have hput := q.put (w := a)
        simp only [go_sem, ↓reduceIte, r105_11, r105_12, r105_13, r105_14, tl, u0, u1, u2, u3, u9, u10, hI, fn_Index hc, h1, h2, w5]
        rw [slc_hi (k := 47) (n := a.length) (by simp only [go_sem, ↓reduceIte, tl]) (by omega)]
        simp only [go_sem, ↓reduceIte, r105_15, tl, u0, u1, u2, u3, u9, u10, k1, hix, hput, natCast_one, w6]
        rw [slc_lo (k := 54) (n := a.length + 1) (by simp only [go_sem, ↓reduceIte, tl]) (by omega)]
        simp only [go_sem, ↓reduceIte, r105_16, tl, u0, u1, u2, u3, u9, u10, k2, w4]
        refine ⟨n - (pre ++ [a]).length, by simp; omega, pre ++ [a], b, rfl, ?_⟩
        refine ⟨by simp, by simp, q.ext.put (Nat.le_refl _) _, q.nx, ?_, ?_, ?_, by omega⟩
        · rw [get_put_eq]
          congr 4
          simp
        · rw [q.eq, splitL_cut hca]; simp
        · have := q.cnt
          rw [count_cut hca] at this
          simp; omega
    · have hI : ¬ (pre.length : Int) < (n : Int) := by omega
      obtain rfl : pre.length = n := by omega
      have hcs : c ∉ s := by
        have h0 : s.countP (Nat.beq c) = 0 := by have := q.cnt; omega
        intro hm
        have := List.countP_eq_zero.1 h0 c hm
        simp at this
      have hput := q.put (w := s)
      have hsp : splitL c l = pre ++ [s] := by rw [q.eq, splitL_none hcs]
      have p1 : slHi 1 (.sl h.next 0 (pre.length + 1) (pre.length + 1) none) (.i .i64 ((pre.length + 1 : Nat) : Int)) = some (.sl h.next 0 (pre.length + 1) (pre.length + 1) none) := by
        have hb : ∀ t : List V, t = [.i .i64 ((pre.length + 1 : Nat) : Int)] → bounds t (pre.length + 1) (pre.length + 1) none (some (.t 0)) = some (0, pre.length + 1) := by
          rintro t rfl
          exact bounds_hi rfl (Nat.le_refl _)
        simp only [slHi, sliceV, hb _ rfl]
        simp
      simp only [go_sem, ↓reduceIte, r105_11, r105_17, r105_18, tl, u0, u1, u2, u3, u9, u10, hI, hix, hput, w4, p1]
      rw [hsp]
      refine ⟨q.ext.put (Nat.le_refl _) _, by simp, q.nx, ?_⟩
      rw [get_put_eq]
      simp
  · exact ⟨[], l, rfl, by simp only [go_sem, ↓reduceIte], by simp only [go_sem, ↓reduceIte], by simp only [go_sem, ↓reduceIte], by simp only [go_sem, ↓reduceIte], by simp only [go_sem, ↓reduceIte], by simp only [go_sem, ↓reduceIte], by simp only [go_sem, ↓reduceIte], (Ext.refl h).new _, by simp, by rw [get_new_eq rfl]; rfl, rfl, by simpa using hn, Nat.le_refl _⟩
theorem fn_Split {l : List Nat} {c : Nat} (hc : c < 256) (hl : l.length ≤ 100000000) :
    WC tb1 (.fn 70 [] []) [.s l, .s [c]] h fun u h' => SplitR h u h' (splitL c l) := by
  refine (WC_in t165).2 ?_
  simp only [go_sem, ↓reduceIte, r70_0, r70_1]
  refine (fn_genSplit hc hl).mono ?_
  rintro u h' q
  simp only [go_sem, ↓reduceIte]
  exact q
variable {S Sp : V → H → Prop}
end
end Go.Air
set_option maxRecDepth 100000
namespace Go.Air
open Go.Air.Try
def misT : Nat := 58
def misV : V := .ifc misT (.agg [])
structure Ch (b : Nat) (h h' : H) : Prop where
  nx : h.next ≤ h'.next
  same : ∀ c, c < h.next → c ≠ b → h'.get c = h.get c
  log : ∃ l, h'.log = l ++ h.log ∧ ∀ x ∈ l, h.next ≤ x ∨ x = b
theorem Ch.of_ext {b : Nat} {h h' : H} (e : Ext h h') : Ch b h h' := by
  obtain ⟨l, h1, h2⟩ := e.log
  exact ⟨e.nx, fun c hc _ => e.same c hc, l, h1, fun x hx => .inl (h2 x hx)⟩
theorem Ch.put {b : Nat} {h h' : H} (q : Ch b h h') (x : Blk) : Ch b h (h'.put b x) := by
  obtain ⟨l, h1, h2⟩ := q.log
  refine ⟨q.nx, fun c hc hb => by rw [get_put_ne hb]; exact q.same c hc hb, b :: l, by simp [h1], fun y hy => ?_⟩
  rcases List.mem_cons.1 hy with rfl | hy
  · exact .inr rfl
  · exact h2 y hy
theorem Ch.then {b : Nat} {h h1 h2 : H} (q : Ch b h h1) (e : Ext h1 h2) : Ch b h h2 := by
  obtain ⟨l, a1, a2⟩ := q.log
  obtain ⟨m, b1, b2⟩ := e.log
  refine ⟨Nat.le_trans q.nx e.nx, fun c hc hb => (e.same c (Nat.lt_of_lt_of_le hc q.nx)).trans (q.same c hc hb), m ++ l, by rw [b1, a1, List.append_assoc], fun x hx => ?_⟩
  rcases List.mem_append.1 hx with hx | hx
  · exact .inl (Nat.le_trans q.nx (b2 x hx))
  · exact a2 x hx
theorem Ch.ext {b : Nat} {h0 h h' : H} (q : Ch b h h') (e : Ext h0 h) (hb : h0.next ≤ b) : Ext h0 h' := by
  obtain ⟨l, a1, a2⟩ := q.log
  obtain ⟨m, b1, b2⟩ := e.log
  refine ⟨Nat.le_trans e.nx q.nx, fun c hc => (q.same c (Nat.lt_of_lt_of_le hc e.nx) (by omega)).trans (e.same c hc), l ++ m, by rw [a1, b1, List.append_assoc], fun x hx => ?_⟩
  rcases List.mem_append.1 hx with hx | hx
  · rcases a2 x hx with q' | rfl
    · exact Nat.le_trans e.nx q'
    · exact hb
  · exact b2 x hx
theorem Ch.tb {b : Nat} {h h' : H} (q : Ch b h h') (t : Tb4 h) (hb : topBlk ≤ b) : Tb4 h' := by
  have key : ∀ c ∈ fixB, h'.get c = h.get c := fun c hc => q.same _ (Nat.lt_of_lt_of_le (fix_lt hc) t.lt) (by have := fix_lt hc; omega)
  exact ⟨Nat.le_trans t.lt q.nx, by rw [key _ tab_mem]; exact t.is, by rw [key _ syn_mem]; exact t.syn, by rw [key _ rng_mem]; exact t.rng⟩
section
variable {h : H}
theorem fill0 {t : List V} : fill t [] [] = some [] := rfl
theorem t160 : tb1 42 = some a42 := by kernel_rfl
theorem t92 : tb1 22 = some a22 := by kernel_rfl
theorem Arg.ix0 {v : V} {n : Nat} {cs : List V} (s : Arg 1 h v n cs) (hn : 0 < n) : ixV 1 v (.i .i64 0) = some (.p (blkV v) (offV v + 0 * 1)) := s.sl.ix0 hn
theorem fn_line {b : Nat} {s first : List Nat} (hb : b < h.next) (hg : h.get b = some (.cells [.s s])) (hs : s.length ≤ 1000000) :
    WX tb1 (.fn 42 [] []) [.p b 0, .s first] h
      (fun u h' => ∃ ws rest, lineOf first s = some (ws, rest) ∧ Arg 1 h' u ws.length (ws.map V.s) ∧ h'.get b = some (.cells [.s rest]) ∧ Ch b h h')
      (fun u h' => lineOf first s = none ∧ u = misV ∧ Ch b h h') := by
  refine (WC_in t160).2 ?_
  have hld : ldV h (.p b (0 + 0)) = some (.s s) := blk_ld (i := 0) hg rfl
  unfold lineOf
  cases hc : cutL 10 s with
  | none =>
    have hr : cutR 10 s = .tup [.s s, .s [], .b false] := by unfold cutR; rw [hc]
    simp only [go_sem, ↓reduceIte, r42_0, r42_1, r42_2, hld, fn_Cut (show 10 < 256 by omega) (show s.length ≤ 1000000000 by omega), hr]
    refine (fn_Split (show 32 < 256 by omega) (show s.length ≤ 100000000 by omega)).mono ?_
    rintro u h1 q1
    simp only [go_sem, ↓reduceIte, r42_3, r42_4, fill0]
    exact ⟨rfl, .of_ext q1.ext⟩
  | some p =>
    obtain ⟨a, rest⟩ := p
    obtain ⟨rfl, _⟩ := cutL_some hc
    have hr : cutR 10 (a ++ 10 :: rest) = .tup [.s a, .s rest, .b true] := by unfold cutR; rw [hc]
    have hal : a.length ≤ 1000000 := by simp at hs; omega
    simp only [go_sem, ↓reduceIte, r42_0, r42_1, r42_2, hld, fn_Cut (show 10 < 256 by omega) (show (a ++ 10 :: rest).length ≤ 1000000000 by omega), hr]
    refine (fn_Split (show 32 < 256 by omega) (show a.length ≤ 100000000 by omega)).mono ?_
    rintro u h1 q1
    cases hsp : splitL 32 a with
    | nil => exact (splitL_ne _ _ hsp).elim
    | cons w ws =>
      rw [hsp] at q1
      have a1 := q1.arg
      have e1 := q1.ext
      have hn0 : 0 < (w :: ws).length := by simp
      have i0 := a1.ix0 hn0
      have l0 := a1.sl.ld1 (i := 0) hn0
      rw [List.map_cons, List.getElem?_cons_zero] at l0
      simp only [go_sem, ↓reduceIte, r42_3, i0, l0, bin_sne]
      by_cases hw : w = first
      · subst hw
        have g1 : h1.get b = some (.cells [.s (a ++ 10 :: rest)]) := e1.get hb hg
        have hst : stV h1 1 (.p b (0 + 0)) (.s rest) = some (h1.put b (.cells [.s rest])) := blk_st (i := 0) g1 (by simp) rfl rfl
        have a2 : Arg 1 (h1.put b (.cells [.s rest])) u (w :: ws).length ((w :: ws).map V.s) :=
          SplitR.arg (h := h) ⟨e1.trans ⟨Nat.le_refl _, fun _ _ => rfl, [], rfl, fun _ hb => by simp at hb⟩, q1.eq, q1.nx, q1.get⟩ |> fun q => by
            rcases q with q | ⟨b', off, cap, bl, q1', q2, q3, q4, q5⟩
            · exact .inl q
            · refine .inr ⟨b', off, cap, bl, q1', q2, q3, ?_, q5⟩
              have : b' = h.next := by have := q1.eq.symm.trans q1'; cases this; rfl
              rw [get_put_ne (by omega)]; exact q4
        obtain ⟨u', p1, p2⟩ := a2.lo (a := 1) (by simp)
        rw [natCast_one] at p1
        simp only [go_sem, ↓reduceIte, r42_5, r42_6, hst, p1]
        refine ⟨ws, rest, rfl, ?_, get_put_eq, (Ch.of_ext e1).put _⟩
        have e2 : ((w :: ws).map V.s).drop (1 * 1) = ws.map V.s := rfl
        rw [e2] at p2
        simpa using p2
      · simp only [go_sem, ↓reduceIte, r42_4, hw, fill0]
        exact ⟨rfl, .of_ext e1⟩
theorem eqi_00 : eqV .iface .in0 .in0 = some true := rfl
theorem eqi_v0 {t : Nat} {v : V} : eqV .iface (.ifc t v) .in0 = some false := rfl
theorem prim3 {l : List Nat} (ht : Tb4 h) (hl : l.length ≤ 1000000) : primV 3 (pad [.s l] 1) h = match atoiE l with
    | .ok n => some (.tup [.i .i64 n, .in0], none)
    | Lib.NumEnd.syntax => some (.tup [.i .i64 0, .ifc numErrT (.p h.next 0)], some (.ro [none, none, none]))
    | .range => some (.tup [.i .i64 (Lib.atoiSat (l.map UInt8.ofNat)), .ifc numErrT (.p h.next 0)], some (.ro [none, none, none])) := by
  have h1 : Nat.ble l.length 281474976710656 = true := by rw [Nat.ble_eq]; omega
  show (if isErr (h.get synBlk) && (isErr (h.get rngBlk) && Nat.ble l.length 281474976710656) then _ else none) = _
  rw [ht.syn, ht.rng, h1]
  rfl
theorem fn_atoi_ok {S Sp : V → H → Prop} {l : List Nat} {n : Int} (ht : Tb4 h) (hl : l.length ≤ 1000000) (he : atoiE l = .ok n) : WX tb1 (.fn 43 [] []) [.s l] h S Sp ↔ S (.tup [.i .i64 n, .in0]) h := by
  refine WC_prim (m := 1) (n := 3) (b := none) rfl ?_
  show primV 3 (pad [.s l] 1) h = _
  rw [prim3 ht hl, he]
theorem fn_atoi_err {l : List Nat} (ht : Tb4 h) (hl : l.length ≤ 1000000) (he : ∀ n, atoiE l ≠ .ok n) : ∃ x : Int, ∀ (S Sp : V → H → Prop), WX tb1 (.fn 43 [] []) [.s l] h S Sp ↔ S (.tup [.i .i64 x, .ifc numErrT (.p h.next 0)]) (h.new (.ro [none, none, none])) := by
  cases hq : atoiE l with
  | ok n => exact (he n hq).elim
  | range =>
    refine ⟨Lib.atoiSat (l.map UInt8.ofNat), fun S Sp => WC_prim (m := 1) (n := 3) (b := some (.ro [none, none, none])) rfl ?_⟩
    show primV 3 (pad [.s l] 1) h = _
    rw [prim3 ht hl, hq]
  | _ =>
    refine ⟨0, fun S Sp => WC_prim (m := 1) (n := 3) (b := some (.ro [none, none, none])) rfl ?_⟩
    show primV 3 (pad [.s l] 1) h = _
    rw [prim3 ht hl, hq]
structure M92 (h1 hh : H) (u : V) (ns : List Int) : Prop where
  ext : Ext h1 hh
  own : Own h1 1 hh u ns.length (ns.map (V.i .i64))
theorem one_i {h0 hh : H} (e : Ext h0 hh) (n : Int) : Sl 1 (hh.new (.cells [.i .i64 n])) (.sl hh.next 0 1 1 none) 1 [.i .i64 n] := (Own.lit (esz := 1) e [.i .i64 n] 1 rfl).1.sl
theorem M92.app {h1 hh : H} {u : V} {ns : List Int} (q : M92 h1 hh u ns) (hn : ns.length ≤ 2000000) (n : Int) :
    ∃ u' h', appendV 1 8 (hh.new (.cells [.i .i64 n])) u (.sl hh.next 0 1 1 none) = .ok u' h' ∧ M92 h1 h' u' (ns ++ [n]) := by
  have e1 : Ext h1 (hh.new (.cells [.i .i64 n])) := q.ext.new _
  obtain ⟨v', h', q1, q2, q3, _⟩ := (q.own.ext ((Ext.refl hh).new _)).app (bytes := 8) e1 (one_i q.ext n) (by intro u hu; simp at hu; subst hu; rfl) (by omega) (by omega) (by omega)
  exact ⟨v', h', q1, q2, by simpa using q3⟩
theorem lineOf_len {first s rest : List Nat} {ws : List (List Nat)} (h : lineOf first s = some (ws, rest)) : ws.length ≤ s.length ∧ ∀ w ∈ ws, w.length ≤ s.length := by
  unfold lineOf at h
  split at h <;> try cases h
  rename_i a rest' hc
  split at h <;> try cases h
  rename_i w ws' hs
  split at h <;> try cases h
  obtain ⟨rfl, _⟩ := cutL_some hc
  have h1 := splitL_length 32 a
  rw [hs] at h1
  have h2 : a.countP (Nat.beq 32) ≤ a.length := List.countP_le_length
  simp only [List.length_cons, List.length_append] at h1 ⊢
  refine ⟨by omega, fun x hx => ?_⟩
  have h3 := splitL_words hs
  have h4 : x.length ≤ (ws.flatMap (32 :: ·)).length := by
    obtain ⟨l1, l2, rfl⟩ := List.append_of_mem hx
    simp; omega
  have h5 := congrArg List.length h3
  rw [List.length_append] at h5
  omega
def IntsS (b : Nat) (h : H) (first : List Nat) (k : Int) (s : List Nat) (u : V) (h' : H) : Prop := ∃ ns rest, intsOf first k s = some (ns, rest) ∧ Own h 1 h' u ns.length (ns.map (V.i .i64)) ∧ h'.get b = some (.cells [.s rest]) ∧ Ch b h h'
def IntsP (b : Nat) (h : H) (first : List Nat) (k : Int) (s : List Nat) (u : V) (h' : H) : Prop := intsOf first k s = none ∧ u = misV ∧ Ch b h h'
theorem fn_ints (ht : Tb4 h) {b : Nat} {s first : List Nat} {k : Int} (hb : b < h.next) (hb2 : topBlk ≤ b) (hg : h.get b = some (.cells [.s s])) (hs : s.length ≤ 1000000) (hk : -1 ≤ k ∧ k ≤ 1000) :
    WX tb1 (.fn 22 [] []) [.p b 0, .s first, .i .i64 k] h (IntsS b h first k s) (IntsP b h first k s) := by
  refine (WC_in t92).2 ?_
  simp only [go_sem, ↓reduceIte, r22_0, r22_1, r22_2]
  refine (fn_line hb hg hs).mono ?_ ?_
  · rintro u h1 ⟨ws, rest, hl, a1, g1, c1⟩
    have hlv := a1.sl.len
    obtain ⟨hwl, hww⟩ := lineOf_len hl
    have ht1 := c1.tb ht hb2
    have hb1 : b < h1.next := Nat.lt_of_lt_of_le hb c1.nx
    simp only [go_sem, ↓reduceIte, hlv]
    refine W_while (fun m t hh => ∃ ns u', m = ws.length - ns.length ∧ numsOf (ws.take ns.length) = some ns ∧ ns.length ≤ ws.length ∧ t.length = 55 ∧ nth t 2 = .i .i64 k ∧ nth t 7 = u' ∧ nth t 14 = u ∧ nth t 15 = .i .i64 (ws.length : Int) ∧ nth t 16 = .i .i64 (ns.length : Int) ∧ M92 h1 hh u' ns) ?_ ws.length ?_
    · rintro m t hh ⟨ns, u', rfl, hns, hle, tl, t2, t7, t14, t15, t16, q⟩
      unfold b22_0
      by_cases hin : ns.length < ws.length
      · have hI : (ns.length : Int) < (ws.length : Int) := by omega
        have a2 := a1.ext q.ext
        have hix := a2.sl.ix hin
        have hd := a2.sl.ld1 hin
        have hw : ws[ns.length]? = some ws[ns.length] := List.getElem?_eq_getElem hin
        rw [List.getElem?_map, hw, Option.map_some] at hd
        generalize hwd : ws[ns.length] = w at hw hd
        have hwl2 : w.length ≤ 1000000 := Nat.le_trans (hww w (List.mem_of_getElem? hw)) hs
        have ht2 := ht1.ext q.ext
        have bad : numOf w = none → intsOf first k s = none := fun hn => by
          unfold intsOf
          rw [hl]
          simp only [numsOf_bad hw hn]
        simp only [go_sem, ↓reduceIte, r22_3, r22_4, r22_5, tl, t2, t7, t14, t15, t16, hI, hix, hd]
        cases hat : atoiE w with
        | ok n =>
          simp only [go_sem, ↓reduceIte, fn_atoi_ok ht2 hwl2 hat, tl, t2, t7, t14, t15, t16]
          have hn64 : I64 n := by
            have := Lib.atoiAll_bounds hat
            exact this
          by_cases hneg : n < 0
          · have hbad : numOf w = none := by unfold numOf; rw [hat]; simp only [if_pos hneg]
            simp only [go_sem, ↓reduceIte, r22_6, r22_7, tl, t2, t7, t14, t15, t16, eqi_00, hneg, fill0]
            exact ⟨bad hbad, rfl, c1.then q.ext⟩
          · by_cases hit : itoa n = w
            · have hok : numOf w = some n := by unfold numOf; rw [hat]; simp only [if_neg hneg, if_pos hit]
              have w1 : IntKind.i64.wrap ((ns.length : Int) + 1) = ((ns.length + 1 : Nat) : Int) := wrap_succ (by omega)
              obtain ⟨u2, h2, p1, p2⟩ := q.app (by omega) n
              simp only [go_sem, ↓reduceIte, r22_6, r22_8, r22_9, tl, t2, t7, t14, t15, t16, eqi_00, hneg, fn_itoa ht2 hn64, bin_sne, hit, p1, w1]
              refine ⟨ws.length - (ns ++ [n]).length, by simp; omega, ns ++ [n], u2, rfl, ?_, by simp; omega, by simp, by simp, p2⟩
              have : (ns ++ [n]).length = ns.length + 1 := by simp
              rw [this, take_succ' hw]
              exact numsOf_snoc hns hok
            · have hbad : numOf w = none := by unfold numOf; rw [hat]; simp only [if_neg hneg, if_neg hit]
              simp only [go_sem, ↓reduceIte, r22_6, r22_7, tl, t2, t7, t14, t15, t16, eqi_00, hneg, fn_itoa ht2 hn64, bin_sne, hit, fill0]
              exact ⟨bad hbad, rfl, c1.then q.ext⟩
        | range =>
          obtain ⟨x, hx⟩ := fn_atoi_err ht2 hwl2 (fun n => by rw [hat]; exact fun e => by cases e)
          have hbad : numOf w = none := by unfold numOf; rw [hat]
          simp only [go_sem, ↓reduceIte, hx, r22_6, r22_7, tl, t2, t7, t14, t15, t16, eqi_v0, fill0]
          exact ⟨bad hbad, rfl, c1.then (q.ext.new _)⟩
        | _ =>
          obtain ⟨x, hx⟩ := fn_atoi_err ht2 hwl2 (fun n => by rw [hat]; exact fun e => by cases e)
          have hbad : numOf w = none := by unfold numOf; rw [hat]
          simp only [go_sem, ↓reduceIte, hx, r22_6, r22_7, tl, t2, t7, t14, t15, t16, eqi_v0, fill0]
          exact ⟨bad hbad, rfl, c1.then (q.ext.new _)⟩
      · have hI : ¬ (ns.length : Int) < (ws.length : Int) := by omega
        have hnl : ns.length = ws.length := by omega
        rw [hnl, List.take_of_length_le (Nat.le_refl _)] at hns
        have hol := q.own.sl.len
        have hown : Own h 1 hh u' ns.length (ns.map (V.i .i64)) := q.own.mono c1.nx
        have g2 : hh.get b = some (.cells [.s rest]) := q.ext.get hb1 g1
        by_cases hk0 : 0 ≤ k
        · by_cases hkn : (ns.length : Int) = k
          · have hr : intsOf first k s = some (ns, rest) := by
              unfold intsOf; rw [hl]; simp only [hns]
              rw [if_neg (by omega)]
            subst hkn
            simp only [go_sem, ↓reduceIte, r22_3, r22_10, r22_12, tl, t2, t7, t14, t15, t16, hI, hk0, hol]
            exact ⟨ns, rest, hr, hown, g2, c1.then q.ext⟩
          · have hr : intsOf first k s = none := by
              unfold intsOf; rw [hl]; simp only [hns]
              rw [if_pos ⟨hk0, hkn⟩]
            simp only [go_sem, ↓reduceIte, r22_3, r22_10, r22_11, tl, t2, t7, t14, t15, t16, hI, hk0, hol, hkn, fill0]
            exact ⟨hr, rfl, c1.then q.ext⟩
        · have hr : intsOf first k s = some (ns, rest) := by
            unfold intsOf; rw [hl]; simp only [hns]
            rw [if_neg (by omega)]
          simp only [go_sem, ↓reduceIte, r22_3, r22_10, r22_12, tl, t2, t7, t14, t15, t16, hI, hk0]
          exact ⟨ns, rest, hr, hown, g2, c1.then q.ext⟩
    · exact ⟨[], .sn, rfl, rfl, by simp, by simp only [go_sem, ↓reduceIte], by simp only [go_sem, ↓reduceIte], by simp only [go_sem, ↓reduceIte], by simp only [go_sem, ↓reduceIte], by simp only [go_sem, ↓reduceIte], by simp only [go_sem, ↓reduceIte], .refl _, .nil⟩
  · rintro u h1 ⟨hl, rfl, c1⟩
    simp only [go_sem, ↓reduceIte]
    refine ⟨?_, rfl, c1⟩
    unfold intsOf
    rw [hl]
end
end Go.Air
set_option maxRecDepth 100000
namespace Go.Air
open Go.Air.Try
theorem WX_iff {f : V} {args : List V} {h : H} {x : V} {S Sp : V → H → Prop} (hw : WC tb1 f args h fun u h' => u = x ∧ h' = h) : WX tb1 f args h S Sp ↔ S x h := by
  constructor
  · rintro ⟨k, r, e, q⟩
    obtain ⟨m, v, h', e', rfl, rfl⟩ := WC_ok hw
    have a1 := call_up tb1 (Nat.le_max_left k m) e q.ne
    have a2 := call_up tb1 (Nat.le_max_right k m) e' (by simp)
    rw [a1] at a2
    subst a2
    exact q
  · intro hs
    exact hw.mono fun v h' q => by obtain ⟨rfl, rfl⟩ := q; exact hs
theorem slc_lh {t : List V} {l : List Nat} {k1 k2 m n : Nat} (h1 : nth t k1 = .i .i64 (m : Int)) (h2 : nth t k2 = .i .i64 (n : Int)) (hm : m ≤ n) (hn : n ≤ l.length) : slcSV t (.s l) (some (.t k1)) (some (.t k2)) = some (.s ((l.drop m).take (n - m))) := by
  have hb : bounds t l.length l.length (some (.t k1)) (some (.t k2)) = some (m, n) := bounds_lh (by rw [ev_t, h1]; rfl) (by rw [ev_t, h2]; rfl) hn hm
  simp only [slcSV, hb, Option.map_some]
theorem ixS_at {l : List Nat} {i c : Nat} (hc : l[i]? = some c) : ixSV (.s l) (.i .i64 (i : Int)) = some (.i .u8 (c : Int)) := by
  have : natOf (.i .i64 (i : Int)) = some i := rfl
  simp [ixSV, this, hc]
section
variable {h : H} {S Sp : V → H → Prop}
theorem t163 : tb1 46 = some a46 := by kernel_rfl
theorem t96 : tb1 26 = some a26 := by kernel_rfl
theorem t95 : tb1 25 = some a25 := by kernel_rfl
theorem t94 : tb1 24 = some a24 := by kernel_rfl
theorem fn_small0 {w : List Nat} (hw : w.length ≤ 100000000) : WC tb1 (.fn 46 [] []) [.s w] h fun u h' => u = .i .i64 (smallN w) ∧ h' = h := by
  refine (WC_in t163).2 ?_
  unfold smallN
  by_cases h16 : 16 < w.length
  · have hI : (16 : Int) < (w.length : Int) := by omega
    simp only [go_sem, ↓reduceIte, r46_0, r46_1, r46_2, hI, h16]
  have hI : ¬ (16 : Int) < (w.length : Int) := by omega
  rw [if_neg h16]
  simp only [go_sem, ↓reduceIte, r46_0, r46_1, r46_3, r46_4, hI]
  refine W_while (fun k t h' => ∃ i acc, k = w.length - i ∧ i ≤ w.length ∧ t.length = 33 ∧ nth t 0 = .s w ∧ nth t 3 = .i .i64 ((acc : Nat) : Int) ∧ nth t 4 = .i .i64 (i : Int) ∧ digN 0 w = digN acc (w.drop i) ∧ acc < 10 ^ i ∧ h' = h) ?_ w.length ?_
  · rintro k t h' ⟨i, acc, rfl, hi, tl, t0, t3, t4, hd, ha, rfl⟩
    unfold b46_0
    by_cases hin : i < w.length
    · have hI : (i : Int) < (w.length : Int) := by omega
      have hp : w[i]? = some w[i] := List.getElem?_eq_getElem hin
      have hdr : w.drop i = w[i] :: w.drop (i + 1) := List.drop_eq_getElem_cons hin
      generalize w[i] = c at hp hdr
      rw [hdr, digN] at hd
      have hix := ixS_at hp
      by_cases c1 : (c : Int) < 48
      · rw [if_pos (by omega)] at hd
        simp only [go_sem, ↓reduceIte, r46_5, r46_7, r46_8, tl, t0, t4, hI, hix, c1]
        rw [hd]; rfl
      by_cases c2 : (57 : Int) < (c : Int)
      · rw [if_pos (by omega)] at hd
        simp only [go_sem, ↓reduceIte, r46_5, r46_7, r46_8, tl, t0, t4, hI, hix, c1, c2]
        rw [hd]; rfl
      rw [if_neg (by omega)] at hd
      have hp16 : 10 ^ i ≤ 10 ^ 16 := Nat.pow_le_pow_right (by omega) (by omega)
      have w1 : IntKind.i64.wrap ((i : Int) + 1) = ((i + 1 : Nat) : Int) := wrap_succ (by omega)
      have w2 : IntKind.i64.wrap ((acc : Int) * 10) = ((acc * 10 : Nat) : Int) := by rw [wrap_in (by omega) (by omega)]; omega
      have b3 : binV .sub (.i .u8 (c : Int)) (.i .u8 48) = some (.i .u8 ((c - 48 : Nat) : Int)) := by
        have : binV .sub (.i .u8 (c : Int)) (.i .u8 48) = some (.i .u8 (IntKind.u8.wrap ((c : Int) - 48))) := rfl
        rw [this]
        have : IntKind.u8.wrap ((c : Int) - 48) = ((c - 48 : Nat) : Int) := by
          have e : (c : Int) - 48 = ((c - 48 : Nat) : Int) := by omega
          rw [e]
          have : c - 48 < 10 := by omega
          generalize c - 48 = d at this
          match d, this with
          | 0, _ => rfl
          | 1, _ => rfl
          | 2, _ => rfl
          | 3, _ => rfl
          | 4, _ => rfl
          | 5, _ => rfl
          | 6, _ => rfl
          | 7, _ => rfl
          | 8, _ => rfl
          | 9, _ => rfl
        rw [this]
      have b4 : convV .i64 (.i .u8 ((c - 48 : Nat) : Int)) = some (.i .i64 ((c - 48 : Nat) : Int)) := by
        have : convV .i64 (.i .u8 ((c - 48 : Nat) : Int)) = some (.i .i64 (IntKind.i64.wrap ((c - 48 : Nat) : Int))) := rfl
        rw [this, wrap_in (by omega) (by omega)]
      have w5 : IntKind.i64.wrap (((acc * 10 : Nat) : Int) + ((c - 48 : Nat) : Int)) = ((acc * 10 + (c - 48) : Nat) : Int) := by rw [wrap_in (by omega) (by omega)]; omega
      simp only [go_sem, ↓reduceIte, r46_5, r46_6, r46_7, r46_9, tl, t0, t3, t4, hI, hix, c1, c2, w1, w2, b3, b4, w5]
      refine ⟨w.length - (i + 1), by omega, i + 1, acc * 10 + (c - 48), rfl, by omega, rfl, rfl, hd, ?_⟩
      rw [Nat.pow_succ]
      omega
    · have hI : ¬ (i : Int) < (w.length : Int) := by omega
      rw [List.drop_of_length_le (by omega), digN] at hd
      simp only [go_sem, ↓reduceIte, r46_5, r46_10, tl, t0, t3, t4, hI]
      rw [hd]
  · refine ⟨0, 0, rfl, by omega, ?_, ?_, ?_, ?_, rfl, by simp, rfl⟩ <;> simp only [go_sem, ↓reduceIte]
theorem fn_small {w : List Nat} (hw : w.length ≤ 100000000) : WX tb1 (.fn 46 [] []) [.s w] h S Sp ↔ S (.i .i64 (smallN w)) h := WX_iff (fn_small0 hw)
theorem fn_at {u : V} {ws : List (List Nat)} {n : Nat} {k : Int} (q : Sl 1 h u ws.length (ws.map V.s)) (hl : ∀ w ∈ ws, w.length ≤ 100000000) (hk : k = (n : Int)) : WX tb1 (.fn 26 [] []) [u, .i .i64 k] h S Sp ↔ S (.i .i64 (atN ws n)) h := by
  subst hk
  refine WX_iff ((WC_in t96).2 ?_)
  have hlv := q.len
  unfold atN
  by_cases hn : n < ws.length
  · have hI : ¬ (ws.length : Int) ≤ (n : Int) := by omega
    have hp : ws[n]? = some ws[n] := List.getElem?_eq_getElem hn
    generalize hw : ws[n] = w at hp
    have hix := q.ix hn
    have hld := q.ld1 hn
    rw [List.getElem?_map, hp] at hld
    simp only [go_sem, ↓reduceIte, r26_0, r26_1, r26_3, hlv, hI, hix, hld, Option.map_some, fn_small (hl w (List.mem_of_getElem? hp))]
    simp only [hp]
  · have hI : (ws.length : Int) ≤ (n : Int) := by omega
    simp only [go_sem, ↓reduceIte, r26_0, r26_1, r26_2, hlv, hI]
    rw [List.getElem?_eq_none (by omega)]
theorem cutL_out {c : Nat} {l : List Nat} (h : c ∉ l) : cutL c l = none := by
  cases hq : cutL c l with
  | none => rfl
  | some p =>
    obtain ⟨a, b⟩ := p
    obtain ⟨rfl, _⟩ := cutL_some hq
    exact absurd (by simp) h
theorem not_mem_snoc {c x : Nat} {l : List Nat} {i : Nat} (h : c ∉ l.take i) (hx : l[i]? = some x) (hne : x ≠ c) : c ∉ l.take (i + 1) := by
  rw [take_succ' hx, List.mem_append, List.mem_singleton, not_or]
  exact ⟨h, fun e => hne e.symm⟩
theorem split_at {l : List Nat} {i x : Nat} (hx : l[i]? = some x) : l = l.take i ++ x :: l.drop (i + 1) := by
  obtain ⟨hi, e⟩ := List.getElem?_eq_some_iff.1 hx
  rw [← e, ← List.drop_eq_getElem_cons hi, List.take_append_drop]
theorem fn_rline {b : Nat} {s : List Nat} (hb : b < h.next) (g : h.get b = some (.cells [.s s])) (hs : s.length ≤ 1000000) : WC tb1 (.fn 25 [] []) [.p b 0] h fun u h' => u = .s (lineL s).1 ∧ h' = h.put b (.cells [.s (lineL s).2]) := by
  refine (WC_in t95).2 ?_
  have hld : ldV h (.p b (0 + 0)) = some (.s s) := blk_ld (i := 0) g rfl
  simp only [go_sem, ↓reduceIte, r25_0, r25_1]
  refine W_while (fun k t h' => ∃ i, k = s.length - i ∧ i ≤ s.length ∧ t.length = 47 ∧ nth t 0 = .p b 0 ∧ nth t 3 = .i .i64 (i : Int) ∧ 10 ∉ s.take i ∧ h' = h) ?_ s.length ?_
  · rintro k t h' ⟨i, rfl, hi, tl, t0, t3, hno, rfl⟩
    unfold b25_0
    by_cases hin : i < s.length
    · have hI : (i : Int) < (s.length : Int) := by omega
      have hp : s[i]? = some s[i] := List.getElem?_eq_getElem hin
      generalize s[i] = c at hp
      have hix := ixS_at hp
      have w1 : IntKind.i64.wrap ((i : Int) + 1) = ((i + 1 : Nat) : Int) := wrap_succ (by omega)
      by_cases hc : c = 10
      · subst hc
        have hcut : cutL 10 s = some (s.take i, s.drop (i + 1)) := by
          have e := split_at hp
          have := cutL_of (b := s.drop (i + 1)) hno
          rw [← e] at this
          exact this
        have hL : lineL s = (s.take i, s.drop (i + 1)) := by unfold lineL; rw [hcut]
        have hst : stV h' 1 (.p b (0 + 0)) (.s (s.drop (i + 1))) = some (h'.put b (.cells [.s (s.drop (i + 1))])) := blk_st (i := 0) g (by simp) rfl rfl
        have c1 : ((10 : Nat) : Int) = 10 := rfl
        rw [hL]
        simp only [go_sem, ↓reduceIte, r25_2, r25_4, r25_5, tl, t0, t3, hld, hI, hix, c1]
        rw [slc_hi (k := 26) (n := i) (by simp only [go_sem, ↓reduceIte, tl, t3]) hi]
        simp only [go_sem, ↓reduceIte, r25_6, tl, t0, t3, hld, w1]
        rw [slc_lo (k := 34) (n := i + 1) (by simp only [go_sem, ↓reduceIte, tl, t3]) (by omega)]
        simp only [go_sem, ↓reduceIte, r25_7, tl, t0, t3, hst]
      · have hcI : ¬ (c : Int) = 10 := by omega
        simp only [go_sem, ↓reduceIte, r25_2, r25_3, r25_4, tl, t0, t3, hld, hI, hix, hcI, w1]
        exact ⟨s.length - (i + 1), by omega, i + 1, rfl, by omega, rfl, not_mem_snoc hno hp hc⟩
    · have hI : ¬ (i : Int) < (s.length : Int) := by omega
      rw [List.take_of_length_le (by omega)] at hno
      have hL : lineL s = (s, []) := by unfold lineL; rw [cutL_out hno]
      have hst : stV h' 1 (.p b (0 + 0)) (.s []) = some (h'.put b (.cells [.s []])) := blk_st (i := 0) g (by simp) rfl rfl
      rw [hL]
      simp only [go_sem, ↓reduceIte, r25_2, r25_8, r25_9, r25_10, tl, t0, t3, hld, hI, hst]
  · refine ⟨0, rfl, by omega, ?_, ?_, ?_, by simp, rfl⟩ <;> simp only [go_sem, ↓reduceIte]
theorem splitL_len (c : Nat) : ∀ l, (splitL c l).length ≤ l.length + 1
  | [] => by simp [splitL]
  | x :: l => by
    have ih := splitL_len c l
    rw [splitL]
    split
    · simp; omega
    · split
      · simp
      · rename_i h
        rw [h] at ih
        simp at ih ⊢; omega
def Wds (l : List Nat) (pre : List (List Nat)) (a i : Nat) : Prop :=
  (i ≤ l.length ∧ a ≤ i ∧ splitL 32 l = pre ++ splitL 32 (l.drop a) ∧ 32 ∉ (l.drop a).take (i - a)) ∨ (i = l.length + 1 ∧ splitL 32 l = pre)
theorem fn_words {l : List Nat} (hl : l.length ≤ 1000000) : WC tb1 (.fn 24 [] []) [.s l] h fun u h' => Ext h h' ∧ Own h 1 h' u (splitL 32 l).length ((splitL 32 l).map V.s) := by
  refine (WC_in t94).2 ?_
  simp only [go_sem, ↓reduceIte, r24_0, r24_1, r24_2, r24_3]
  refine W_while (fun k t h' => ∃ (a i : Nat) (u : V) (pre : List (List Nat)), k = l.length + 1 - i ∧ i ≤ l.length + 1 ∧ t.length = 32 ∧ nth t 0 = .s l ∧ nth t 3 = u ∧ nth t 4 = .i .i64 (a : Int) ∧ nth t 5 = .i .i64 (i : Int) ∧ Wds l pre a i ∧ M87 h h' u pre) ?_ (l.length + 1) ?_
  · rintro k t h' ⟨a, i, u, pre, rfl, hi, tl, t0, t3, t4, t5, hw, q⟩
    unfold b24_0
    have hpl : pre.length ≤ 1000001 := by
      have h1 := splitL_len 32 l
      rcases hw with ⟨_, _, e, _⟩ | ⟨_, e⟩
      · rw [e, List.length_append] at h1; omega
      · rw [e] at h1; omega
    have app : ∀ c : List Nat, ∃ u' h2, appendV 1 16 (h'.new (.cells [.s c])) u (.sl h'.next 0 1 1 none) = .ok u' h2 ∧ M87 h h2 u' (pre ++ [c]) := fun c => by
      obtain ⟨v', h2, q1, q2, q3, _⟩ := (q.own.ext ((Ext.refl h').new _)).app (bytes := 16) (q.ext.new _) (one_s q.ext c) (by intro u hu; simp at hu; subst hu; rfl) (by omega) (by omega) (by omega)
      exact ⟨v', h2, q1, q2, by simpa using q3⟩
    rcases hw with ⟨h1, h2, e, hno⟩ | ⟨rfl, e⟩
    · have hI : (i : Int) ≤ (l.length : Int) := by omega
      have w1 : IntKind.i64.wrap ((i : Int) + 1) = ((i + 1 : Nat) : Int) := wrap_succ (by omega)
      have hslc := fun (t : List V) (k1 k2 : Nat) (a1 : nth t k1 = .i .i64 (a : Int)) (a2 : nth t k2 = .i .i64 (i : Int)) => slc_lh (l := l) a1 a2 h2 h1
      obtain ⟨u', h3, p1, p2⟩ := app ((l.drop a).take (i - a))
      by_cases hie : i = l.length
      · subst hie
        simp only [go_sem, ↓reduceIte, r24_4, r24_6, r24_7, tl, t0, t3, t4, t5, hI]
        rw [hslc _ 24 25 (by simp only [go_sem, ↓reduceIte, tl, t4]) (by simp only [go_sem, ↓reduceIte, tl, t5])]
        simp only [go_sem, ↓reduceIte, r24_5, r24_8, tl, t0, t3, t4, t5, fill1_s, p1, w1]
        refine ⟨l.length + 1 - (l.length + 1), by omega, l.length + 1, l.length + 1, u', pre ++ [(l.drop a).take (l.length - a)], rfl, by omega, rfl, rfl, rfl, .inr ⟨rfl, ?_⟩, p2⟩
        rw [e, List.take_of_length_le (by simp)]
        rw [List.take_of_length_le (by simp)] at hno
        rw [splitL_none hno]
      · have hIe : ¬ (i : Int) = (l.length : Int) := by omega
        have hin : i < l.length := by omega
        have hp : l[i]? = some l[i] := List.getElem?_eq_getElem hin
        generalize l[i] = c at hp
        have hix := ixS_at hp
        have hpd : (l.drop a)[i - a]? = some c := by rw [List.getElem?_drop, show a + (i - a) = i by omega]; exact hp
        by_cases hc : c = 32
        · subst hc
          have c1 : ((32 : Nat) : Int) = 32 := rfl
          simp only [go_sem, ↓reduceIte, r24_4, r24_6, r24_7, tl, t0, t3, t4, t5, hI, hIe, hix, c1]
          rw [hslc _ 24 25 (by simp only [go_sem, ↓reduceIte, tl, t4]) (by simp only [go_sem, ↓reduceIte, tl, t5])]
          simp only [go_sem, ↓reduceIte, r24_5, r24_8, tl, t0, t3, t4, t5, fill1_s, p1, w1]
          refine ⟨l.length + 1 - (i + 1), by omega, i + 1, i + 1, u', pre ++ [(l.drop a).take (i - a)], rfl, by omega, rfl, rfl, rfl, .inl ⟨by omega, Nat.le_refl _, ?_, by simp⟩, p2⟩
          have es := split_at hpd
          rw [e]
          conv => lhs; rw [es]
          rw [splitL_cut hno, List.drop_drop, show a + (i - a + 1) = i + 1 by omega]
          simp
        · have hcI : ¬ (c : Int) = 32 := by omega
          simp only [go_sem, ↓reduceIte, r24_4, r24_5, r24_6, tl, t0, t3, t4, t5, hI, hIe, hix, hcI, w1]
          refine ⟨l.length + 1 - (i + 1), by omega, a, i + 1, u, pre, rfl, by omega, rfl, rfl, rfl, .inl ⟨by omega, by omega, e, ?_⟩, q⟩
          rw [show i + 1 - a = (i - a) + 1 by omega]
          exact not_mem_snoc hno hpd hc
    · have hI : ¬ ((l.length + 1 : Nat) : Int) ≤ (l.length : Int) := by omega
      simp only [go_sem, ↓reduceIte, r24_4, r24_9, tl, t0, t3, t4, t5, hI]
      rw [e]
      exact ⟨q.ext, q.own⟩
  · exact ⟨0, 0, .sn, [], rfl, by omega, by simp only [go_sem, ↓reduceIte], by simp only [go_sem, ↓reduceIte], by simp only [go_sem, ↓reduceIte], by simp only [go_sem, ↓reduceIte], by simp only [go_sem, ↓reduceIte], .inl ⟨by omega, by omega, by simp, by simp⟩, .refl h, .nil⟩
end
end Go.Air
set_option maxRecDepth 100000
namespace Go.Air
open Go.Air.Try
def figL : List Nat := [48, 49, 50, 51, 52, 53, 54, 55, 56, 57, 97, 98, 99, 100, 101, 102]
theorem fig_get : ∀ n : Fin 16, figL[n.val]? = some (hexC n.val) := by decide
theorem ixS_fig {n : Nat} (h : n < 16) : ixSV (.s figL) (u8 n) = some (u8 (hexC n)) := by
  have h1 : natOf (u8 n) = some n := rfl
  have h2 : figL[n]? = some (hexC n) := fig_get ⟨n, h⟩
  simp only [ixSV, h1, h2, Option.map_some]
  rfl
theorem and15_N : ∀ n : Fin 256, IntKind.u8.wrap ((BitVec.ofInt 8 (n.val : Int) &&& BitVec.ofInt 8 15).toNat : Int) = ((n.val % 16 : Nat) : Int) := by decide +kernel
theorem and15 {n : Nat} (h : n < 256) : binV .and (u8 n) (.i .u8 15) = some (u8 (n % 16)) := by
  have := and15_N ⟨n, h⟩
  show some (V.i .u8 (IntKind.u8.wrap ((BitVec.ofInt 8 (n : Int) &&& BitVec.ofInt 8 15).toNat : Int))) = _
  rw [this]; rfl
theorem shr4 {n : Nat} : binV .shr (u8 n) (.i .u64 4) = some (u8 (n / 16)) := by
  show some (V.i .u8 (Int.fdiv (n : Int) 16)) = _
  have : Int.fdiv (n : Int) 16 = ((n / 16 : Nat) : Int) := by rw [Int.fdiv_eq_ediv_of_nonneg _ (by omega)]; omega
  rw [this]; rfl
theorem ixVV_u8 {l : List Nat} {i c : Nat} (hi : i < 32) (hc : l[i]? = some c) : ixVV 32 1 false (.agg (l.map u8)) (.i .i64 (i : Int)) = some (u8 c) := by
  have h1 : natOf (.i .i64 (i : Int)) = some i := rfl
  have h2 : nth? (l.map u8) (i * 1) = some (u8 c) := by
    rw [Nat.mul_one]
    have : (l.map u8)[i]? = some (u8 c) := by rw [List.getElem?_map, hc]; rfl
    simpa [nth?_eq] using this
  simp only [ixVV, h1, hi, if_true, Bool.false_eq_true, if_false, h2]
theorem bytesOf_u8 : ∀ {l : List Nat}, (∀ c ∈ l, c < 256) → bytesOf (l.map u8) = some l
  | [], _ => rfl
  | c :: l, h => by
    have h1 : byteOf (u8 c) = some c := by
      have hc := h c (by simp)
      simp only [byteOf, u8]
      simp [hc]
    rw [List.map_cons, bytesOf, h1, bytesOf_u8 fun x hx => h x (by simp [hx])]
theorem strOf_sl {h : H} {v : V} {m : List Nat} (q : Sl 1 h v m.length (m.map u8)) (hm : ∀ c ∈ m, c < 256) : strOf h v = some (.s m) := by
  have h1 := q.slen
  have h2 := q.src
  have h3 : strOf h v = match sourceLen v with
    | none => none
    | some n => match sourceCells 1 n h v with
      | none => none
      | some cs => (bytesOf cs).map .s := by
    rcases q with ⟨_, _, rfl | ⟨a, rfl⟩⟩ | ⟨b, off, cap, g, bl, rfl, _⟩ <;> rfl
  rw [h3, h1]
  simp only [h2, bytesOf_u8 hm, Option.map_some]
theorem hexT_lt : ∀ {l : List Nat}, (∀ c ∈ l, c < 256) → ∀ c ∈ hexT l, c < 256 := by
  intro l h c hc
  obtain ⟨x, hx, hc⟩ := List.mem_flatMap.1 hc
  have := h x hx
  simp only [List.mem_cons, List.not_mem_nil, or_false] at hc
  rcases hc with rfl | rfl
  · exact hexC_lt (by omega)
  · exact hexC_lt (by omega)
theorem hexT_snoc {l : List Nat} {i c : Nat} (hc : l[i]? = some c) : hexT (l.take (i + 1)) = hexT (l.take i) ++ [hexC (c / 16), hexC (c % 16)] := by
  rw [take_succ' hc]; simp [hexT]
section
variable {h : H}
theorem t142 : tb1 16 = some a16 := by kernel_rfl
theorem t143 : tb1 19 = some a19 := by kernel_rfl
theorem fn_written {d : List Nat} (hd : d.length = 32) (hb : ∀ c ∈ d, c < 256) : WC tb1 (.fn 16 [] []) [.agg (d.map u8)] h fun u h' => u = .s (hexT d) ∧ Ext h h' := by
  refine (WC_in t142).2 ?_
  have e1 : Ext h (h.new (.cells (d.map u8))) := (Ext.refl h).new _
  have g : (h.new (.cells (d.map u8))).get h.next = some (.cells (d.map u8)) := get_new_eq rfl
  have hc : (V.agg (d.map u8)).cells = d.map u8 := rfl
  have ln := blk_ldn g (k := 32) (by simpa using hd)
  have hfig : [48, 49, 50, 51, 52, 53, 54, 55, 56, 57, 97, 98, 99, 100, 101, 102] = figL := rfl
  simp only [go_sem, ↓reduceIte, r16_0, r16_1, r16_2, hc, ln]
  refine W_while (fun k t hh => ∃ i u, k = 32 - i ∧ i ≤ 32 ∧ t.length = 22 ∧ nth t 3 = u ∧ nth t 6 = .agg (d.map u8) ∧ nth t 7 = .i .i64 (i : Int) ∧ MB h hh u (hexT (d.take i))) ?_ 32 ?_
  · rintro k t hh ⟨i, u, rfl, hi, tl, t3, t6, t7, q⟩
    unfold b16_0
    by_cases hin : i < 32
    · have hI : (i : Int) < 32 := by omega
      have hp : d[i]? = some d[i] := List.getElem?_eq_getElem (by omega)
      generalize d[i] = c at hp
      have hcb := hb c (List.mem_of_getElem? hp)
      have hl := hexT_len (d.take i)
      rw [List.length_take] at hl
      have w1 : IntKind.i64.wrap ((i : Int) + 1) = ((i + 1 : Nat) : Int) := wrap_succ (by omega)
      have f2 : fill2 (u8 (hexC (c / 16))) (u8 (hexC (c % 16))) = some [u8 (hexC (c / 16)), u8 (hexC (c % 16))] := rfl
      have hs : Sl 1 (hh.new (.cells [u8 (hexC (c / 16)), u8 (hexC (c % 16))])) (.sl hh.next 0 2 2 none) 2 [u8 (hexC (c / 16)), u8 (hexC (c % 16))] := (Own.lit (esz := 1) (Ext.refl hh) [u8 (hexC (c / 16)), u8 (hexC (c % 16))] 2 rfl).1.sl
      obtain ⟨u', hb', g2, p1, p2, p3, p4, _, _, _⟩ := (q.own.ext ((Ext.refl hh).new _)).appB (bytes := 1) (q.ext.new _) hs (u8s_one [hexC (c / 16), hexC (c % 16)]) (by omega) (by omega) (by omega)
      have a2 : MB h g2 u' (hexT (d.take i) ++ [hexC (c / 16), hexC (c % 16)]) := ⟨p3, by simpa using p4⟩
      simp only [go_sem, ↓reduceIte, r16_3, r16_4, r16_5, r16_6, tl, t3, t6, t7, hI, ixVV_u8 hin hp, shr4, and15 hcb, hfig, ixS_fig (show c / 16 < 16 by omega), ixS_fig (show c % 16 < 16 by omega), f2, old_bare, H.back_bare, H.back_new, List.cons_append, List.nil_append, p1, p2, r16_6, w1]
      refine ⟨32 - (i + 1), by omega, i + 1, u', rfl, by omega, rfl, rfl, ?_⟩
      rw [hexT_snoc hp]
      exact a2
    · have hI : ¬ (i : Int) < 32 := by omega
      obtain rfl : i = 32 := by omega
      rw [List.take_of_length_le (by omega)] at q
      simp only [go_sem, ↓reduceIte, r16_3, r16_7, tl, t3, t7, hI, strOf_sl q.sl (hexT_lt hb)]
      exact q.ext
  · exact ⟨0, .sn, by omega, by omega, by simp only [go_sem, ↓reduceIte], by simp only [go_sem, ↓reduceIte], by simp only [go_sem, ↓reduceIte], by simp only [go_sem, ↓reduceIte], e1, .nil⟩
theorem quo16 {n : Nat} (h : n < 256) : binV .quo (u8 n) (.i .u8 16) = some (u8 (n / 16)) := by
  show some (V.i .u8 (IntKind.u8.wrap (Int.tdiv (n : Int) 16))) = _
  have : Int.tdiv (n : Int) 16 = ((n / 16 : Nat) : Int) := rfl
  rw [this, wrap_u8, Int.emod_eq_of_lt (by omega) (by omega)]; rfl
theorem rem16 {n : Nat} : binV .rem (u8 n) (.i .u8 16) = some (u8 (n % 16)) := rfl
theorem conv_u8i {n : Nat} (h : n < 256) : convV .i64 (u8 n) = some (.i .i64 (n : Int)) := conv_kind h
theorem slc_fig {t : List V} {k1 k2 n : Nat} (h : n < 16) (h1 : nth t k1 = .i .i64 (n : Int)) (h2 : nth t k2 = .i .i64 ((n + 1 : Nat) : Int)) : slcSV t (.s figL) (some (.t k1)) (some (.t k2)) = some (.s [hexC n]) := by
  rw [slc_lh h1 h2 (by omega) (by simp [figL]; omega)]
  have : (figL.drop n).take (n + 1 - n) = [hexC n] := by
    have hg : figL[n]? = some (hexC n) := fig_get ⟨n, h⟩
    rw [show n + 1 - n = 1 by omega]
    have := List.drop_eq_getElem_cons (l := figL) (i := n) (by simp [figL]; omega)
    rw [this]
    rw [List.getElem?_eq_getElem (by simp [figL]; omega)] at hg
    simp only [Option.some.injEq] at hg
    rw [hg]; rfl
  rw [this]
theorem fn_Hex {d : List Nat} (hd : d.length = 32) (hb : ∀ c ∈ d, c < 256) : WC tb1 (.fn 19 [] []) [.agg (d.map u8)] h fun u h' => u = .s (hexT d) ∧ Ext h h' := by
  refine (WC_in t143).2 ?_
  have e1 : Ext h (h.new (.cells (d.map u8))) := (Ext.refl h).new _
  have g : (h.new (.cells (d.map u8))).get h.next = some (.cells (d.map u8)) := get_new_eq rfl
  have hc : (V.agg (d.map u8)).cells = d.map u8 := rfl
  have hfig : [48, 49, 50, 51, 52, 53, 54, 55, 56, 57, 97, 98, 99, 100, 101, 102] = figL := rfl
  simp only [go_sem, ↓reduceIte, r19_0, r19_1, r19_2, r19_3, hc, hfig]
  generalize h.new (.cells (d.map u8)) = h1 at e1 g
  refine W_while (fun k t hh => ∃ i, k = 32 - i ∧ i ≤ 32 ∧ t.length = 36 ∧ nth t 1 = .p h.next 0 ∧ nth t 3 = .s figL ∧ nth t 4 = .s (hexT (d.take i)) ∧ nth t 5 = .i .i64 (i : Int) ∧ hh = h1) ?_ 32 ?_
  · rintro k t hh ⟨i, rfl, hi, tl, t1, t3, t4, t5, rfl⟩
    unfold b19_0
    by_cases hin : i < 32
    · have hI : (i : Int) < 32 := by omega
      have hp : d[i]? = some d[i] := List.getElem?_eq_getElem (by omega)
      generalize d[i] = c at hp
      have hcb := hb c (List.mem_of_getElem? hp)
      have hl := hexT_len (d.take i)
      rw [List.length_take] at hl
      have w1 : IntKind.i64.wrap ((i : Int) + 1) = ((i + 1 : Nat) : Int) := wrap_succ (by omega)
      have w2 : IntKind.i64.wrap (((c / 16 : Nat) : Int) + 1) = ((c / 16 + 1 : Nat) : Int) := wrap_succ (by omega)
      have w3 : IntKind.i64.wrap (((c % 16 : Nat) : Int) + 1) = ((c % 16 + 1 : Nat) : Int) := wrap_succ (by omega)
      have hix : ixAV 32 1 (.p h.next 0) (.i .i64 (i : Int)) = some (.p h.next i) := by rw [ixA_ok hin]; simp
      have hld : ldV hh (.p h.next i) = some (u8 c) := blk_ld g (by rw [List.getElem?_map, hp]; rfl)
      have b1 : binV .add (.s (hexT (d.take i))) (.s [hexC (c / 16)]) = some (.s (hexT (d.take i) ++ [hexC (c / 16)])) := bin_sadd (by simp; omega)
      have b2 : binV .add (.s (hexT (d.take i) ++ [hexC (c / 16)])) (.s [hexC (c % 16)]) = some (.s (hexT (d.take (i + 1)))) := by
        rw [bin_sadd (by simp; omega), hexT_snoc hp]; simp
      simp only [go_sem, ↓reduceIte, r19_4, r19_6, r19_7, r19_8, tl, t1, t3, t4, t5, hI, hix, hld, quo16 hcb, rem16, conv_u8i (show c / 16 < 256 by omega), conv_u8i (show c % 16 < 256 by omega), w2, w3, old_bare, H.back_bare, List.cons_append, List.nil_append]
      rw [slc_fig (n := c / 16) (by omega) (by simp only [go_sem, ↓reduceIte, tl]) (by simp only [go_sem, ↓reduceIte, tl])]
      simp only [go_sem, ↓reduceIte, tl, t1, t3, t4, t5, b1, w3, old_bare, H.back_bare, List.cons_append, List.nil_append]
      rw [slc_fig (n := c % 16) (by omega) (by simp only [go_sem, ↓reduceIte, tl]) (by simp only [go_sem, ↓reduceIte, tl])]
      simp only [go_sem, ↓reduceIte, tl, b2, old_bare, H.back_bare, List.cons_append, List.nil_append, r19_5, t1, t3, t4, t5, w1]
      exact ⟨32 - (i + 1), by omega, i + 1, rfl, by omega, rfl, rfl⟩
    · have hI : ¬ (i : Int) < 32 := by omega
      obtain rfl : i = 32 := by omega
      rw [List.take_of_length_le (by omega)] at t4
      simp only [go_sem, ↓reduceIte, r19_4, r19_9, tl, t4, t5, hI]
      exact e1
  · exact ⟨0, by omega, by omega, by simp only [go_sem, ↓reduceIte], by simp only [go_sem, ↓reduceIte], by simp only [go_sem, ↓reduceIte], by simp only [go_sem, ↓reduceIte]; rfl, by simp only [go_sem, ↓reduceIte], rfl⟩
end
end Go.Air
set_option maxRecDepth 100000
namespace Go.Air
open Go.Air.Try
structure TbU (h : H) : Prop where
  lt : topBlk ≤ h.next
  is : isU h = true
theorem roI_same {h h' : H} {b : Nat} (e : h'.get b = h.get b) (i : Nat) : roI h' b i = roI h b i := by unfold roI; rw [e]
theorem isRow_same {h h' : H} {b : Nat} (e : h'.get b = h.get b) (o i : Nat) : isRow h' b o i = isRow h b o i := by
  unfold isRow
  rw [roI_same e, roI_same e, roI_same e, roI_same e, roI_same e]
theorem caseOf_lt {h : H} {b o : Nat} (q : caseOf h = some (b, o)) : b < h.next := by
  unfold caseOf at q
  split at q
  · split at q
    · rename_i hc
      rw [Bool.and_eq_true, Nat.blt_eq] at hc
      cases q
      exact hc.2
    · cases q
  · cases q
theorem TbU.keep {h h' : H} (t : TbU h) (hn : h.next ≤ h'.next) (hs : ∀ b, b < h.next → (match h.get b with | some (.ro _) => True | _ => False) → h'.get b = h.get b) : TbU h' := by
  obtain ⟨lt, is⟩ := t
  refine ⟨Nat.le_trans lt hn, ?_⟩
  unfold isU at is ⊢
  rw [Bool.and_eq_true, Bool.and_eq_true] at is
  obtain ⟨i1, i2, i3⟩ := is
  have ro : ∀ b i x, b < h.next → roI h b i = some x → h'.get b = h.get b := by
    intro b i x hb hx
    refine hs b hb ?_
    unfold roI at hx
    split at hx
    · rename_i l hl; rw [hl]; trivial
    · cases hx
  have f1 : h'.get firstBlk = h.get firstBlk := by
    have := List.all_eq_true.1 i1 0 (by simp)
    exact ro _ _ _ (Nat.lt_of_lt_of_le (fix_lt first_mem) lt) (of_decide_eq_true this)
  have f2 : h'.get accBlk = h.get accBlk := by
    have := List.all_eq_true.1 i2 0 (by simp)
    rw [Bool.and_eq_true] at this
    exact ro _ _ _ (Nat.lt_of_lt_of_le (fix_lt acc_mem) lt) (of_decide_eq_true this.1)
  cases hc : caseOf h with
  | none => rw [hc] at i3; cases i3
  | some p =>
    obtain ⟨b, o⟩ := p
    rw [hc] at i3
    have hb := caseOf_lt hc
    have f4 : h'.get b = h.get b := by
      have := List.all_eq_true.1 i3 0 (by simp)
      unfold isRow at this
      rw [Bool.and_eq_true] at this
      exact ro _ _ _ hb (of_decide_eq_true this.1)
    have f3 : caseOf h' = some (b, o) := by
      have hg : h'.get caseBlk = h.get caseBlk := by
        refine hs _ (Nat.lt_of_lt_of_le (fix_lt case_mem) lt) ?_
        unfold caseOf at hc
        split at hc
        · rename_i q; rw [q]; trivial
        · cases hc
      unfold caseOf at hc ⊢
      rw [hg]
      split at hc
      · rename_i b' o' n' cp' q
        split at hc
        · rename_i hh
          rw [Bool.and_eq_true, Nat.blt_eq] at hh
          rw [if_pos]
          · exact hc
          · rw [Bool.and_eq_true, Nat.blt_eq]
            exact ⟨hh.1, Nat.lt_of_lt_of_le hh.2 hn⟩
        · cases hc
      · cases hc
    rw [f3, Bool.and_eq_true, Bool.and_eq_true]
    refine ⟨?_, ?_, ?_⟩
    · rw [← i1]
      congr 1
      funext c
      rw [roI_same f1]
    · rw [← i2]
      congr 1
      funext c
      rw [roI_same f2, roI_same f2]
    · rw [← i3]
      show (List.range 336).all (fun i => isRow h' b o i) = (List.range 336).all (fun i => isRow h b o i)
      congr 1
      funext i
      exact isRow_same f4 o i
theorem TbU.ext {h h' : H} (t : TbU h) (e : Ext h h') : TbU h' := t.keep e.nx fun b hb _ => e.same b hb
theorem TbU.bare {h : H} (t : TbU h) : TbU h.bare := ⟨t.lt, t.is⟩
theorem TbU.ch {b : Nat} {c : List V} {h h' : H} (t : TbU h) (q : Ch b h h') (g : h.get b = some (.cells c)) : TbU h' := t.keep q.nx fun k hk hr => q.same k hk (by
  rintro rfl
  rw [g] at hr
  exact hr)
theorem lowerL_figs {w : List Nat} (h : figs w = true) : lowerL w = w := by
  have key : ∀ c ∈ w, (figOf c).isSome = true := List.all_eq_true.1 h
  have hlt : ∀ c ∈ w, c < 128 := fun c hc => by
    have := key c hc
    unfold figOf at this
    split at this
    · omega
    · split at this
      · omega
      · cases this
  unfold lowerL
  rw [Lib.toLowerD_ascii _ (by
    intro b hb
    obtain ⟨c, hc, rfl⟩ := List.mem_map.1 hb
    have := hlt c hc
    rw [u8_nat (by omega)]
    exact this)]
  have fix : ∀ c : Fin 128, (figOf c.val).isSome = true → (Lib.lowerB (UInt8.ofNat c.val)).toNat = c.val := by decide +kernel
  have : ∀ l : List Nat, (∀ c ∈ l, c < 128 ∧ (figOf c).isSome = true) → (Lib.toLowerA (l.map UInt8.ofNat)).map UInt8.toNat = l := by
    intro l hl
    induction l with
    | nil => rfl
    | cons c l ih =>
      have hc := hl c (by simp)
      have ih := ih fun x hx => hl x (by simp [hx])
      unfold Lib.toLowerA at ih ⊢
      simp only [List.map_cons] at ih ⊢
      rw [ih, fix ⟨c, hc.1⟩ hc.2]
  exact this w fun c hc => ⟨hlt c hc, key c hc⟩
section
variable {h : H} {S Sp : V → H → Prop}
theorem fn_lower (t : TbU h) {l : List Nat} (hl : l.length ≤ 1000000) : WX tb1 (.fn 44 [] []) [.s l] h S Sp ↔ S (.s (lowerL l)) h := by
  refine WC_prim (m := 1) (n := 4) (b := none) rfl ?_
  show (if isU h && Nat.ble l.length 1000000 then some (V.s (lowerL l), (none : Option Blk)) else none) = _
  rw [t.is, show Nat.ble l.length 1000000 = true from by rw [Nat.ble_eq]; exact hl]
  rfl
def figI (c : Nat) : Int := match figOf c with
  | some n => n
  | none => -1
theorem idx_fig : ∀ c : Fin 256, idxB c.val figL 0 = figI c.val := by decide +kernel
theorem t257 : tb1 45 = some a45 := by kernel_rfl
theorem fn_IndexByte {c : Nat} (hc : c < 256) : WX tb1 (.fn 45 [] []) [.s figL, u8 c] h S Sp ↔ S (.i .i64 (figI c)) h := by
  rw [WC_in t257]
  have e : u8 c = .i .u8 (c : Int) := rfl
  have hi := idx_fig ⟨c, hc⟩
  simp only at hi
  simp only [go_sem, ↓reduceIte, r45_0, r45_1, e, fn_indexByte hc, hi]
end
end Go.Air
set_option maxRecDepth 100000
namespace Go.Air
open Go.Air.Try
theorem Ch.pre {b : Nat} {h h1 h2 : H} (e : Ext h h1) (q : Ch b h1 h2) : Ch b h h2 := by
  obtain ⟨l, a1, a2⟩ := e.log
  obtain ⟨m, b1, b2⟩ := q.log
  refine ⟨Nat.le_trans e.nx q.nx, fun c hc hb => (q.same c (Nat.lt_of_lt_of_le hc e.nx) hb).trans (e.same c hc), m ++ l, by rw [b1, a1, List.append_assoc], fun x hx => ?_⟩
  rcases List.mem_append.1 hx with hx | hx
  · rcases b2 x hx with h | h
    · exact .inl (Nat.le_trans e.nx h)
    · exact .inr h
  · exact .inl (a2 x hx)
theorem Ch.put2 {b k : Nat} {h h' : H} (q : Ch b h h') (hk : h.next ≤ k) (x : Blk) : Ch b h (h'.put k x) := by
  obtain ⟨l, h1, h2⟩ := q.log
  refine ⟨q.nx, fun c hc hb => by rw [get_put_ne (by omega)]; exact q.same c hc hb, k :: l, by simp [h1], fun y hy => ?_⟩
  rcases List.mem_cons.1 hy with rfl | hy
  · exact .inl hk
  · exact h2 y hy
theorem quo2 {n : Nat} (h : n ≤ 1000) : binV .quo (.i .i64 (n : Int)) (.i .i64 2) = some (.i .i64 ((n / 2 : Nat) : Int)) := by
  show some (V.i .i64 (IntKind.i64.wrap (Int.tdiv (n : Int) 2))) = _
  have : Int.tdiv (n : Int) 2 = ((n / 2 : Nat) : Int) := rfl
  rw [this, wrap_in (by omega) (by omega)]
theorem shl4 {n : Nat} : binV .shl (u8 n) (.i .u64 4) = some (u8 (n * 16 % 256)) := by
  show some (V.i .u8 (IntKind.u8.wrap ((n : Int) * 16))) = _
  rw [wrap_u8]
  congr 2
theorem or16_N : ∀ m x : Fin 16, IntKind.u8.wrap ((BitVec.ofInt 8 ((m.val * 16 : Nat) : Int) ||| BitVec.ofInt 8 (x.val : Int)).toNat : Int) = ((m.val * 16 + x.val : Nat) : Int) := by decide +kernel
theorem or16 {n x : Nat} (hx : x < 16) : binV .or (u8 (n * 16 % 256)) (u8 x) = some (u8 (n * 16 % 256 + x)) := by
  have e : n * 16 % 256 = n % 16 * 16 := by omega
  have := or16_N ⟨n % 16, by omega⟩ ⟨x, hx⟩
  rw [e]
  show some (V.i .u8 (IntKind.u8.wrap ((BitVec.ofInt 8 ((n % 16 * 16 : Nat) : Int) ||| BitVec.ofInt 8 (x : Int)).toNat : Int))) = _
  rw [this]; rfl
theorem conv_to8 {n : Nat} (h : n < 256) : convV .u8 (.i .i64 (n : Int)) = some (u8 n) := by
  simp only [convV]; rw [wrap_u8, Int.emod_eq_of_lt (by omega) (by omega)]; rfl
def HashS (b : Nat) (h : H) (first s : List Nat) (u : V) (h' : H) : Prop := ∃ d rest, hashOf first s = some (d, rest) ∧ u = .agg (d.map u8) ∧ h'.get b = some (.cells [.s rest]) ∧ Ch b h h'
def HashP (b : Nat) (h : H) (first s : List Nat) (u : V) (h' : H) : Prop := hashOf first s = none ∧ u = misV ∧ Ch b h h'
theorem lineOf_mem {first s rest : List Nat} {ws : List (List Nat)} (h : lineOf first s = some (ws, rest)) : (∀ w ∈ ws, ∀ c ∈ w, c ∈ s) ∧ ∀ c ∈ rest, c ∈ s := by
  unfold lineOf at h
  split at h <;> try cases h
  rename_i a rest' hc
  split at h <;> try cases h
  rename_i w ws' hs
  split at h <;> try cases h
  obtain ⟨rfl, _⟩ := cutL_some hc
  have := splitL_words hs
  refine ⟨fun x hx c hcx => ?_, fun c hc => by simp [hc]⟩
  rw [this]
  simp only [List.mem_append, List.mem_flatMap]
  exact .inl (.inr ⟨x, hx, by simp [hcx]⟩)
theorem ix32 {b n : Nat} (h : n < 32) : ixAV 32 1 (.p b 0) (.i .i64 (n : Int)) = some (.p b n) := by rw [ixA_ok h]; simp
section
variable {h : H}
theorem t145 : tb1 23 = some a23 := by kernel_rfl
theorem fn_hash (ht : TbU h) {b : Nat} {s first : List Nat} (hb : b < h.next) (hg : h.get b = some (.cells [.s s])) (hs : s.length ≤ 1000000) (hsb : ∀ c ∈ s, c < 256) :
    WX tb1 (.fn 23 [] []) [.p b 0, .s first] h (HashS b h first s) (HashP b h first s) := by
  refine (WC_in t145).2 ?_
  have hz : List.replicate 32 (V.i .u8 0) = (List.replicate 32 0).map u8 := zero_u8 32
  simp only [go_sem, ↓reduceIte, r23_0, r23_1, hz]
  have e1 : Ext h (h.new (.cells ((List.replicate 32 0).map u8))) := (Ext.refl h).new _
  have g1 : (h.new (.cells ((List.replicate 32 0).map u8))).get h.next = some (.cells ((List.replicate 32 0).map u8)) := get_new_eq rfl
  have n1 : (h.new (.cells ((List.replicate 32 0).map u8))).next = h.next + 1 := rfl
  generalize h.new (.cells ((List.replicate 32 0).map u8)) = h1 at e1 g1 n1
  have hg1 := e1.get hb hg
  refine (fn_line (by omega) hg1 hs).mono ?_ ?_
  rotate_left
  · rintro u h2 ⟨hl, rfl, c1⟩
    simp only [go_sem, ↓reduceIte]
    exact ⟨by unfold hashOf; rw [hl], rfl, .pre e1 c1⟩
  rintro u h2 ⟨ws, rest, hl, a1, gr2, c1⟩
  obtain ⟨hwl, hww⟩ := lineOf_len hl
  have c2 : Ch b h h2 := .pre e1 c1
  have g2 : h2.get h.next = some (.cells ((List.replicate 32 0).map u8)) := (c1.same _ (by omega) (by omega)).trans g1
  have n2 : h.next < h2.next := by have := c1.nx; omega
  have ht2 : TbU h2 := ht.ch c2 hg
  have e3 : Ext h2 (h2.new (.cells ((List.replicate 32 0).map u8))) := (Ext.refl h2).new _
  have g3 : (h2.new (.cells ((List.replicate 32 0).map u8))).get h2.next = some (.cells ((List.replicate 32 0).map u8)) := get_new_eq rfl
  have n3 : (h2.new (.cells ((List.replicate 32 0).map u8))).next = h2.next + 1 := rfl
  simp only [go_sem, ↓reduceIte, r23_2, hz]
  generalize h2.new (.cells ((List.replicate 32 0).map u8)) = h3 at e3 g3 n3
  have ht3 := ht2.ext e3
  have a3 := a1.ext e3
  have hlv := a3.sl.len
  have ce := c2.then e3
  have mis : ∀ (hh : H), Ch b h hh → hashOf first s = none → (HashP b h first s) misV hh := fun hh c hn => ⟨hn, rfl, c⟩
  match ws, hl, a1, a3, hlv, hwl, hww with
  | [], hl, a1, a3, hlv, _, _ =>
    have hn : hashOf first s = none := by unfold hashOf; rw [hl]
    simp only [List.length_nil] at hlv
    simp only [go_sem, ↓reduceIte, r23_3, r23_4, hlv, old_bare, H.back_bare, List.cons_append, List.nil_append, fill0, natCast_zero, Int.reduceEq, decide_false, Bool.not_false]
    exact ⟨rfl, mis _ ce hn⟩
  | w :: v :: ws, hl, a1, a3, hlv, _, _ =>
    have hn : hashOf first s = none := by unfold hashOf; rw [hl]
    have hne : ¬ ((ws.length + 1 + 1 : Nat) : Int) = 1 := by omega
    simp only [go_sem, ↓reduceIte, r23_3, r23_4, hlv, hne, old_bare, H.back_bare, List.cons_append, List.nil_append, fill0, Bool.not_false]
    exact ⟨rfl, mis _ ce hn⟩
  | [w], hl, a1, a3, hlv, _, hww =>
    have hlv1 : lenV u = some 1 := hlv
    have hwl : w.length ≤ 1000000 := Nat.le_trans (hww w (by simp)) hs
    have i0 := a3.ix0 (by simp)
    have l0 : ldV h3 (.p (blkV u) (offV u + 0 * 1)) = some (.s w) := a3.sl.ld1 (i := 0) (by simp)
    by_cases c64 : w.length = 64
    rotate_left
    · have hn : hashOf first s = none := by
        unfold hashOf; rw [hl]
        simp only [c64, false_and, if_false]
      have hne : ¬ (w.length : Int) = 64 := by omega
      simp only [go_sem, ↓reduceIte, r23_3, r23_4, hlv1, i0, l0, hne, old_bare, H.back_bare, List.cons_append, List.nil_append, fill0, natCast_one, decide_false, decide_true, Bool.not_false, Bool.not_true]
      exact ⟨rfl, mis _ ce hn⟩
    have he : (w.length : Int) = 64 := by omega
    by_cases cl : lowerL w = w
    rotate_left
    · have hn : hashOf first s = none := by
        unfold hashOf; rw [hl]
        simp only [c64, true_and]
        rw [if_neg fun hf => cl (lowerL_figs hf)]
      simp only [go_sem, ↓reduceIte, r23_3, r23_4, hlv1, i0, l0, he, fn_lower ht3.bare hwl, bin_sne, cl, old_bare, H.back_bare, List.cons_append, List.nil_append, fill0, natCast_one, decide_false, decide_true, Bool.not_false, Bool.not_true]
      exact ⟨rfl, mis _ ce hn⟩
    simp only [go_sem, ↓reduceIte, r23_3, r23_5, hlv1, i0, l0, he, fn_lower ht3.bare hwl, bin_sne, cl, old_bare, H.back_bare, List.cons_append, List.nil_append, natCast_one, decide_false, decide_true, Bool.not_false, Bool.not_true]
    refine ⟨rfl, ?_⟩
    have hwb : ∀ c ∈ w, c < 256 := fun c hc => hsb c ((lineOf_mem hl).1 w (by simp) c hc)
    refine W_while (fun k t hh => ∃ i, k = 64 - i ∧ i ≤ 64 ∧ t.length = 60 ∧ nth t 4 = .p h.next 0 ∧ nth t 5 = u ∧ nth t 6 = .p h2.next 0 ∧ nth t 34 = .i .i64 (i : Int) ∧ Ext h2 hh ∧ hh.get h2.next = some (.cells ((hpart w i).map u8)) ∧ h2.next < hh.next ∧ (w.take i).all (fun c => (figOf c).isSome) = true) ?_ 64 ?_
    · rintro k t hh ⟨i, rfl, hi, tl, t4, t5, t6, t34, ex, gx, nx, hall⟩
      unfold b23_0
      have ce2 : Ch b h hh := c2.then ex
      by_cases hin : i < 64
      · have hI : (i : Int) < 64 := by omega
        have hp : w[i]? = some w[i] := List.getElem?_eq_getElem (by omega)
        generalize hcd : w[i] = c at hp
        have hcb := hwb c (List.mem_of_getElem? hp)
        have w1 : IntKind.i64.wrap ((i : Int) + 1) = ((i + 1 : Nat) : Int) := wrap_succ (by omega)
        have a4 := a1.ext ex
        have i4 := a4.ix0 (by simp)
        have l4 : ldV hh (.p (blkV u) (offV u + 0 * 1)) = some (.s w) := a4.sl.ld1 (i := 0) (by simp)
        have hix := ixS_at hp
        have eu : V.i .u8 (c : Int) = u8 c := rfl
        have hfl : [48, 49, 50, 51, 52, 53, 54, 55, 56, 57, 97, 98, 99, 100, 101, 102] = figL := rfl
        simp only [go_sem, ↓reduceIte, r23_6, r23_7, r23_8, tl, t4, t5, t6, t34, hI, i4, l4, hix, eu, hfl, fn_IndexByte hcb]
        cases hfc : figOf c with
        | none =>
          have hfi : figI c = -1 := by unfold figI; rw [hfc]
          have hn : hashOf first s = none := by
            unfold hashOf; rw [hl]
            simp only [c64, true_and]
            rw [if_neg]
            intro hf
            have := List.all_eq_true.1 hf c (List.mem_of_getElem? hp)
            rw [hfc] at this
            cases this
          simp only [go_sem, ↓reduceIte, r23_9, r23_10, tl, hfi, fill0]
          exact mis _ ce2 hn
        | some n =>
          have hfi : figI c = (n : Int) := by unfold figI; rw [hfc]
          have hfg : fg w i = n := by
            unfold fg fgc
            rw [List.getD_eq_getElem?_getD, hp, Option.getD_some, hfc]; rfl
          have hn16 : n < 16 := by rw [← hfg]; exact fg_lt _ _
          have hnn : ¬ (n : Int) < 0 := by omega
          have h2k : i / 2 < 32 := by omega
          have hpk : (hpart w i)[i / 2]? = some ((hpart w i).getD (i / 2) 0) := by
            rw [List.getD_eq_getElem?_getD]
            cases hq : (hpart w i)[i / 2]? with
            | none => rw [List.getElem?_eq_none_iff, hpart_len] at hq; omega
            | some x => rfl
          have ld2 : ldV hh (.p h2.next (i / 2)) = some (u8 ((hpart w i).getD (i / 2) 0)) := blk_ld gx (by rw [List.getElem?_map, hpk]; rfl)
          have st2 := blk_st (x := u8 ((hpart w i).getD (i / 2) 0 * 16 % 256 + n)) (i := i / 2) gx (by simp [hpart_len]; omega) rfl rfl
          have hset : ((hpart w i).map u8).set (i / 2) (u8 ((hpart w i).getD (i / 2) 0 * 16 % 256 + n)) = (hpart w (i + 1)).map u8 := by
            rw [← hpart_step w hin, hfg, List.map_set]
          rw [hset] at st2
          simp only [go_sem, ↓reduceIte, r23_9, r23_11, r23_12, tl, t4, t5, t6, t34, hfi, hnn, quo2 (show i ≤ 1000 by omega), ix32 h2k, ld2, shl4, conv_to8 (show n < 256 by omega), or16 hn16, st2, w1]
          refine ⟨64 - (i + 1), by omega, i + 1, rfl, by omega, rfl, ex.put (Nat.le_refl _) _, get_put_eq, nx, ?_⟩
          rw [take_succ' hp, List.all_append, hall, List.all_cons, hfc]; rfl
      · have hI : ¬ (i : Int) < 64 := by omega
        obtain rfl : i = 64 := by omega
        rw [List.take_of_length_le (by omega)] at hall
        rw [hpart_64] at gx
        have hh1 : hashOf first s = some (unhexL w, rest) := by
          unfold hashOf; rw [hl]
          have hf : figs w = true := hall
          simp only [c64, true_and, hf, if_true]
        have gh := ex.get n2 g2
        have ld := blk_ldn gx (k := 32) (by simp [unhexL_len])
        have st := blk_stn (k := 32) (d := (unhexL w).map u8) gh rfl (by simp [unhexL_len]) (u8s_one _)
        simp only [go_sem, ↓reduceIte, r23_6, r23_13, tl, t4, t5, t6, t34, hI, ld, st]
        rw [res_cell (n := 4) (k := 32) (b := h.next) (cs := (unhexL w).map u8) (by simp only [go_sem, ↓reduceIte, tl, t4]) get_put_eq (by simp [unhexL_len])]
        have gr := ex.get (Nat.lt_of_lt_of_le hb c2.nx) gr2
        exact ⟨unhexL w, rest, hh1, rfl, by rw [get_put_ne (by omega)]; exact gr, ce2.put2 (Nat.le_refl _) _⟩
    · refine ⟨0, rfl, by omega, ?_, ?_, ?_, ?_, ?_, e3, by rw [hpart_0]; exact g3, by omega, rfl⟩ <;> simp only [go_sem, ↓reduceIte]
end
end Go.Air
set_option maxRecDepth 100000
namespace Go.Air
structure Ann where
  (id host lang lot known day : Int)
  guests : List (Int × Int)
  (old passed : Int)
  order : List Int
  (off moved : Int)
  deriving DecidableEq
def wAnnounce : List Nat := [97, 110, 110, 111, 117, 110, 99, 101]
def wScene : List Nat := [115, 99, 101, 110, 101]
def wGuest : List Nat := [103, 117, 101, 115, 116]
def wOrder : List Nat := [111, 114, 100, 101, 114]
def guestsT (g : List (Int × Int)) : List Nat := g.flatMap fun p => lineT wGuest [p.1, p.2]
def Ann.text (a : Ann) : List Nat := lineT wAnnounce [a.id, a.old, a.passed, a.off, a.moved] ++ (lineT wScene [a.host, a.lang, a.lot, a.known, a.day] ++ (guestsT a.guests ++ lineT wOrder a.order))
structure Ann.Num (a : Ann) : Prop where
  one : ∀ n ∈ [a.id, a.old, a.passed, a.off, a.moved], NumB n
  two : ∀ n ∈ [a.host, a.lang, a.lot, a.known, a.day], NumB n
  gs : ∀ p ∈ a.guests, NumB p.1 ∧ NumB p.2
  ord : ∀ n ∈ a.order, NumB n
end Go.Air
set_option maxRecDepth 100000
namespace Go.Air
open Go.Air.Try
def I (n : Int) : V := .i .i64 n
def cells2 (g : List (Int × Int)) : List V := g.flatMap fun p => [I p.1, I p.2]
def Ann.cells (a : Ann) (gv ov : V) : List V := [I a.id, I a.host, I a.lang, I a.lot, I a.known, I a.day, gv, I a.old, I a.passed, ov, I a.off, I a.moved]
theorem Own.at {h0 h : H} {u : V} {n : Nat} {cs : List V} {esz : Nat} (o : Own h0 esz h u n cs) (hn : 0 < n) : ∃ bk g, u = .sl bk 0 n n g ∧ h0.next ≤ bk ∧ bk < h.next ∧ h.get bk = some (.cells cs) := by
  obtain ⟨_, ⟨rfl, _⟩ | ⟨b, g, rfl, _, h1, h2, h3⟩⟩ := o
  · omega
  · exact ⟨b, g, rfl, h1, h2, h3⟩
theorem st_bare {h : H} {b i : Nat} {c c' : List V} {x : V} (g : h.get b = some (.cells c)) (hi : i < c.length) (hx : x.cells = [x]) (ho : x.oneCell = true) (hc : c.set i x = c') : stV h.bare 1 (.p b i) x = some (h.bare.put b (.cells c')) := by
  subst hc
  exact blk_st (h := h.bare) g hi hx ho
structure At91 (h0 hS hh : H) (rb ab : Nat) (s : List Nat) (c : List V) : Prop where
  ext : Ext h0 hh
  tb : Tb4 h0
  gr : hh.get rb = some (.cells [.s s])
  ga : hh.get ab = some (.cells c)
  nx : hS.next ≤ hh.next
  kp : ∀ k, k < hS.next → k ≠ rb → k ≠ ab → hh.get k = hS.get k
structure B91 (h0 hS : H) (rb ab : Nat) : Prop where
  r : h0.next ≤ rb
  a : h0.next ≤ ab
  ne : rb ≠ ab
  lr : rb < hS.next
  la : ab < hS.next
section
variable {h0 hS hh h' : H} {rb ab : Nat} {s rest : List Nat} {c : List V}
theorem At91.lr (q : At91 h0 hS hh rb ab s c) (B : B91 h0 hS rb ab) : rb < hh.next := Nat.lt_of_lt_of_le B.lr q.nx
theorem At91.la (q : At91 h0 hS hh rb ab s c) (B : B91 h0 hS rb ab) : ab < hh.next := Nat.lt_of_lt_of_le B.la q.nx
theorem At91.ch (q : At91 h0 hS hh rb ab s c) (B : B91 h0 hS rb ab) (ch : Ch rb hh h') (g : h'.get rb = some (.cells [.s rest])) : At91 h0 hS h' rb ab rest c :=
  ⟨ch.ext q.ext B.r, q.tb, g, (ch.same _ (q.la B) (fun e => B.ne e.symm)).trans q.ga, Nat.le_trans q.nx ch.nx, fun k h1 h2 h3 => (ch.same _ (Nat.lt_of_lt_of_le h1 q.nx) h2).trans (q.kp k h1 h2 h3)⟩
theorem At91.put (q : At91 h0 hS hh rb ab s c) (B : B91 h0 hS rb ab) (c' : List V) : At91 h0 hS (hh.put ab (.cells c')) rb ab s c' :=
  ⟨q.ext.put B.a _, q.tb, by rw [get_put_ne B.ne]; exact q.gr, get_put_eq, q.nx, fun k h1 h2 h3 => by rw [get_put_ne h3]; exact q.kp k h1 h2 h3⟩
theorem At91.st (q : At91 h0 hS hh rb ab s c) (B : B91 h0 hS rb ab) (i : Nat) (x : V) (c' : List V) (hx : x.cells = [x]) (ho : x.oneCell = true) (hi : i < c.length) (hc : c.set i x = c') :
    ∃ hb h2, stV hh.bare 1 (.p ab i) x = some hb ∧ hh.back hb = h2 ∧ At91 h0 hS h2 rb ab s c' ∧ (∀ k, k ≠ ab → h2.get k = hh.get k) ∧ h2.next = hh.next :=
  ⟨_, _, st_bare q.ga hi hx ho hc, back_put (q.la B) _, q.put B c', fun _ hk => get_put_ne hk, rfl⟩
theorem At91.step (q : At91 h0 hS hh rb ab s c) (B : B91 h0 hS rb ab) (e : Ext hh h') : At91 h0 hS h' rb ab s c :=
  ⟨q.ext.trans e, q.tb, e.get (q.lr B) q.gr, e.get (q.la B) q.ga, Nat.le_trans q.nx e.nx, fun k h1 h2 h3 => (e.same k (Nat.lt_of_lt_of_le h1 q.nx)).trans (q.kp k h1 h2 h3)⟩
theorem At91.ints {first : List Nat} {k : Int} (q : At91 h0 hS hh rb ab s c) (B : B91 h0 hS rb ab) (hs : s.length ≤ 1000000) (hk : -1 ≤ k ∧ k ≤ 1000) :
    WX tb1 (.fn 22 [] []) [.p rb 0, .s first, .i .i64 k] hh (IntsS rb hh first k s) (IntsP rb hh first k s) :=
  fn_ints (q.tb.ext q.ext) (q.lr B) (Nat.le_trans q.tb.lt B.r) q.gr hs hk
end
end Go.Air
set_option maxRecDepth 100000
namespace Go.Air
open Go.Air.Try
theorem hpart_step2 (w : List Nat) {i : Nat} (hi : i < 32) : (hpart w (2 * i)).set i (fg w (2 * i) * 16 + fg w (2 * i + 1)) = hpart w (2 * (i + 1)) := by
  apply List.ext_getElem?
  intro k
  rw [List.getElem?_set]
  by_cases h : k < 32
  · have e1 : (hpart w (2 * (i + 1)))[k]? = some (part w (2 * (i + 1)) k) := by unfold hpart; rw [List.getElem?_map, List.getElem?_range h]; rfl
    have e0 : (hpart w (2 * i))[k]? = some (part w (2 * i) k) := by unfold hpart; rw [List.getElem?_map, List.getElem?_range h]; rfl
    rw [e1, e0, hpart_len]
    split
    · rename_i e
      subst e
      congr 1
      unfold part
      rw [if_pos (by omega)]
    · rename_i e
      congr 1
      unfold part
      by_cases c1 : 2 * k + 1 < 2 * i
      · rw [if_pos c1, if_pos (by omega)]
      · rw [if_neg c1, if_neg (by omega), if_neg (by omega), if_neg (by omega)]
  · rw [if_neg (by omega), List.getElem?_eq_none (by rw [hpart_len]; omega), List.getElem?_eq_none (by rw [hpart_len]; omega)]
theorem mul2 {n : Nat} (h : n ≤ 1000) : binV .mul (.i .i64 2) (.i .i64 (n : Int)) = some (.i .i64 ((2 * n : Nat) : Int)) := by
  show some (V.i .i64 (IntKind.i64.wrap (2 * (n : Int)))) = _
  rw [wrap_in (by omega) (by omega)]; rfl
theorem mul16 {n : Nat} (h : n < 16) : binV .mul (u8 n) (.i .u8 16) = some (u8 (n * 16)) := by
  show some (V.i .u8 (IntKind.u8.wrap ((n : Int) * 16))) = _
  rw [wrap_u8, Int.emod_eq_of_lt (by omega) (by omega)]; rfl
theorem add_u8 {a b : Nat} (h : a + b < 256) : binV .add (u8 a) (u8 b) = some (u8 (a + b)) := by
  show some (V.i .u8 (IntKind.u8.wrap ((a : Int) + (b : Int)))) = _
  rw [wrap_u8, Int.emod_eq_of_lt (by omega) (by omega)]; rfl
section
variable {h : H} {S Sp : V → H → Prop}
theorem t258 : tb1 47 = some a47 := by kernel_rfl
theorem t146 : tb1 27 = some a27 := by kernel_rfl
theorem fn_half0 {c : Nat} (hc : c < 256) : WC tb1 (.fn 47 [] []) [u8 c] h fun u h' => u = u8 (fgc c) ∧ h' = h := by
  refine (WC_in t258).2 ?_
  have e : u8 c = .i .u8 (c : Int) := rfl
  have s1 : binV .sub (.i .u8 (c : Int)) (.i .u8 48) = some (.i .u8 (IntKind.u8.wrap ((c : Int) - 48))) := rfl
  have s2 : binV .sub (.i .u8 (c : Int)) (.i .u8 97) = some (.i .u8 (IntKind.u8.wrap ((c : Int) - 97))) := rfl
  by_cases h1 : 48 ≤ (c : Int)
  · by_cases h2 : (c : Int) ≤ 57
    · have hf : fgc c = c - 48 := by unfold fgc figOf; rw [if_pos (by omega)]; rfl
      have w : IntKind.u8.wrap ((c : Int) - 48) = ((c - 48 : Nat) : Int) := by rw [wrap_u8, Int.emod_eq_of_lt (by omega) (by omega)]; omega
      rw [w] at s1
      rw [e]
      simp only [go_sem, ↓reduceIte, r47_0, r47_1, r47_2, h1, h2, s1]
      rw [hf]; rfl
    · by_cases h3 : 97 ≤ (c : Int)
      · by_cases h4 : (c : Int) ≤ 102
        · have hf : fgc c = c - 87 := by unfold fgc figOf; rw [if_neg (by omega), if_pos (by omega)]; rfl
          have w : IntKind.u8.wrap ((c : Int) - 97) = ((c - 97 : Nat) : Int) := by rw [wrap_u8, Int.emod_eq_of_lt (by omega) (by omega)]; omega
          rw [w] at s2
          have s3 : binV .add (.i .u8 ((c - 97 : Nat) : Int)) (.i .u8 10) = some (.i .u8 ((c - 87 : Nat) : Int)) := by
            show some (V.i .u8 (IntKind.u8.wrap (((c - 97 : Nat) : Int) + 10))) = _
            rw [wrap_u8, Int.emod_eq_of_lt (by omega) (by omega)]
            congr 2; omega
          rw [e]
          simp only [go_sem, ↓reduceIte, r47_0, r47_1, r47_3, r47_4, h1, h2, h3, h4, s2, s3]
          rw [hf]; rfl
        · have hf : fgc c = 0 := by unfold fgc figOf; rw [if_neg (by omega), if_neg (by omega)]; rfl
          rw [e]
          simp only [go_sem, ↓reduceIte, r47_0, r47_1, r47_3, r47_5, h1, h2, h3, h4]
          rw [hf]; rfl
      · have hf : fgc c = 0 := by unfold fgc figOf; rw [if_neg (by omega), if_neg (by omega)]; rfl
        rw [e]
        simp only [go_sem, ↓reduceIte, r47_0, r47_1, r47_3, r47_5, h1, h2, h3]
        rw [hf]; rfl
  · have h3 : ¬ 97 ≤ (c : Int) := by omega
    have hf : fgc c = 0 := by unfold fgc figOf; rw [if_neg (by omega), if_neg (by omega)]; rfl
    rw [e]
    simp only [go_sem, ↓reduceIte, r47_0, r47_1, r47_3, r47_5, h1, h3]
    rw [hf]; rfl
theorem fn_half {c : Nat} (hc : c < 256) : WX tb1 (.fn 47 [] []) [u8 c] h S Sp ↔ S (u8 (fgc c)) h := WX_iff (fn_half0 hc)
theorem fn_rhash {u : V} {ws : List (List Nat)} (q : Sl 1 h u ws.length (ws.map V.s)) (hlw : ws.length ≤ 1000001) (hwl : ∀ w ∈ ws, w.length ≤ 1000000) (hwb : ∀ w ∈ ws, ∀ c ∈ w, c < 256) :
    WC tb1 (.fn 27 [] []) [u] h fun v h' => v = .agg ((hashN ws).map u8) ∧ Ext h h' := by
  refine (WC_in t146).2 ?_
  have hz : List.replicate 32 (V.i .u8 0) = (List.replicate 32 0).map u8 := zero_u8 32
  have hlv := q.len
  simp only [go_sem, ↓reduceIte, r27_0, r27_1, hz]
  have n0 : (h.new (.cells ((List.replicate 32 0).map u8))).next = h.next + 1 := rfl
  rw [n0]
  generalize hh1 : (h.new (.cells ((List.replicate 32 0).map u8))).new (.cells ((List.replicate 32 0).map u8)) = h1
  have n1 : h1.next = h.next + 2 := by subst hh1; rfl
  have e1 : Ext h h1 := by subst hh1; exact ((Ext.refl h).new _).new _
  have g1 : h1.get (h.next + 1) = some (.cells ((List.replicate 32 0).map u8)) := by subst hh1; exact get_new_eq rfl
  have g0 : h1.get h.next = some (.cells ((List.replicate 32 0).map u8)) := by subst hh1; rw [get_new_lt (by simp), get_new_eq rfl]
  have zl : ((List.replicate 32 0).map u8).length = 32 := by simp
  have zero : ∀ (t : List V), nth t 2 = .p h.next 0 → hashN ws = List.replicate 32 0 →
      resOk (resultsOf t (h1.put h.next (.cells ((List.replicate 32 0).map u8))) [.cell 2 (some 32)]) (h1.put h.next (.cells ((List.replicate 32 0).map u8))) fun v h' => v = .agg ((hashN ws).map u8) ∧ Ext h h' := by
    intro t ht hh
    rw [res_cell (n := 2) (k := 32) (b := h.next) (cs := (List.replicate 32 0).map u8) ht get_put_eq zl, hh]
    exact ⟨rfl, e1.put (Nat.le_refl _) _⟩
  have lz := blk_ldn g1 (k := 32) zl
  have sz := blk_stn (k := 32) (d := (List.replicate 32 0).map u8) g0 zl zl (u8s_one _)
  by_cases c2 : (ws.length : Int) < 2
  · have hh : hashN ws = List.replicate 32 0 := by unfold hashN; rw [List.getElem?_eq_none (by omega)]
    simp only [go_sem, ↓reduceIte, r27_2, r27_3, hlv, c2, lz, sz]
    exact zero _ (by simp only [go_sem, ↓reduceIte]) hh
  have q1 : Sl 1 h1 u ws.length (ws.map V.s) := Sl.ext q e1
  have hp1 : ws[1]? = some ws[1] := List.getElem?_eq_getElem (by omega)
  generalize hwd : ws[1] = w at hp1
  have hww := hwl w (List.mem_of_getElem? hp1)
  have hwb := hwb w (List.mem_of_getElem? hp1)
  have ix1 : ixV 1 u (.i .i64 1) = some (.p (blkV u) (offV u + 1 * 1)) := q1.ix (i := 1) (by omega)
  have ld1 : ldV h1 (.p (blkV u) (offV u + 1 * 1)) = some (.s w) := by
    have := q1.ld1 (i := 1) (by omega)
    rw [List.getElem?_map, hp1] at this
    exact this
  by_cases c64 : (w.length : Int) = 64
  rotate_left
  · have hh : hashN ws = List.replicate 32 0 := by unfold hashN; rw [hp1]; simp only; rw [if_neg (by omega)]
    simp only [go_sem, ↓reduceIte, r27_2, r27_3, hlv, c2, ix1, ld1, c64, lz, sz]
    exact zero _ (by simp only [go_sem, ↓reduceIte]) hh
  have hh : hashN ws = unhexL w := by unfold hashN; rw [hp1]; simp only; rw [if_pos (by omega)]
  rw [hh]
  simp only [go_sem, ↓reduceIte, r27_2, r27_4, hlv, c2, ix1, ld1, c64]
  refine W_while (fun k t hh => ∃ i, k = 32 - i ∧ i ≤ 32 ∧ t.length = 40 ∧ nth t 0 = u ∧ nth t 2 = .p h.next 0 ∧ nth t 3 = .p (h.next + 1) 0 ∧ nth t 4 = .i .i64 (i : Int) ∧ Ext h hh ∧ hh.get (h.next + 1) = some (.cells ((hpart w (2 * i)).map u8)) ∧ hh.get h.next = some (.cells ((List.replicate 32 0).map u8)) ∧ h.next + 1 < hh.next) ?_ 32 ?_
  · rintro k t hh ⟨i, rfl, hi, tl, t0, t2, t3, t4, ex, gx, gz, nx⟩
    unfold b27_0
    by_cases hin : i < 32
    · have hI : (i : Int) < 32 := by omega
      have hpa : w[2 * i]? = some w[2 * i] := List.getElem?_eq_getElem (by omega)
      have hpb : w[2 * i + 1]? = some w[2 * i + 1] := List.getElem?_eq_getElem (by omega)
      generalize w[2 * i] = ca at hpa
      generalize w[2 * i + 1] = cb at hpb
      have hca := hwb ca (List.mem_of_getElem? hpa)
      have hcb := hwb cb (List.mem_of_getElem? hpb)
      have fa : fg w (2 * i) = fgc ca := by unfold fg; rw [List.getD_eq_getElem?_getD, hpa]; rfl
      have fb : fg w (2 * i + 1) = fgc cb := by unfold fg; rw [List.getD_eq_getElem?_getD, hpb]; rfl
      have la := fgc_lt ca
      have lb := fgc_lt cb
      have w1 : IntKind.i64.wrap ((i : Int) + 1) = ((i + 1 : Nat) : Int) := wrap_succ (by omega)
      have w2 : IntKind.i64.wrap (((2 * i : Nat) : Int) + 1) = ((2 * i + 1 : Nat) : Int) := wrap_succ (by omega)
      have q2 : Sl 1 hh u ws.length (ws.map V.s) := Sl.ext q ex
      have ld2 : ldV hh (.p (blkV u) (offV u + 1 * 1)) = some (.s w) := by
        have := q2.ld1 (i := 1) (by omega)
        rw [List.getElem?_map, hp1] at this
        exact this
      have xa := ixS_at hpa
      have xb := ixS_at hpb
      have ua : V.i .u8 (ca : Int) = u8 ca := rfl
      have ub : V.i .u8 (cb : Int) = u8 cb := rfl
      rw [ua] at xa
      rw [ub] at xb
      have st2 := st_bare (x := u8 (fgc ca * 16 + fgc cb)) (i := i) gx (by simp [hpart_len]; omega) rfl rfl rfl
      have hset : ((hpart w (2 * i)).map u8).set i (u8 (fgc ca * 16 + fgc cb)) = (hpart w (2 * (i + 1))).map u8 := by
        rw [← hpart_step2 w hin, fa, fb, List.map_set]
      rw [hset] at st2
      have bp := back_put nx (.cells ((hpart w (2 * (i + 1))).map u8))
      simp only [go_sem, ↓reduceIte, r27_5, r27_7, tl, t0, t2, t3, t4, hI, ix1, ld2, mul2 (show i ≤ 1000 by omega), xa, xb, fn_half hca, fn_half hcb, mul16 la, add_u8 (show fgc ca * 16 + fgc cb < 256 by omega), ix32 hin, w2, st2, bp, old_bare, H.back_bare, List.cons_append, List.nil_append]
      refine ⟨rfl, ?_⟩
      simp only [go_sem, ↓reduceIte, r27_6, tl, t0, t2, t3, t4, w1]
      exact ⟨32 - (i + 1), by omega, i + 1, rfl, by omega, rfl, ex.put (by omega) _, get_put_eq, by rw [get_put_ne (by omega)]; exact gz, nx⟩
    · have hI : ¬ (i : Int) < 32 := by omega
      obtain rfl : i = 32 := by omega
      have gx : hh.get (h.next + 1) = some (.cells ((hpart w 64).map u8)) := gx
      rw [hpart_64] at gx
      have ld := blk_ldn gx (k := 32) (by simp [unhexL_len])
      have st := blk_stn (k := 32) (d := (unhexL w).map u8) gz zl (by simp [unhexL_len]) (u8s_one _)
      simp only [go_sem, ↓reduceIte, r27_5, r27_8, tl, t2, t3, t4, hI, ld, st]
      rw [res_cell (n := 2) (k := 32) (b := h.next) (cs := (unhexL w).map u8) (by simp only [go_sem, ↓reduceIte, tl, t2]) get_put_eq (by simp [unhexL_len])]
      exact ⟨rfl, ex.put (Nat.le_refl _) _⟩
  · refine ⟨0, rfl, by omega, ?_, ?_, ?_, ?_, ?_, e1, by rw [Nat.mul_zero, hpart_0]; exact g1, g0, by omega⟩ <;> simp only [go_sem, ↓reduceIte]
end
end Go.Air
set_option maxRecDepth 100000
namespace Go.Air
open Go.Air.Try
structure AnnAt (h0 hh : H) (ab : Nat) (a : Ann) (gv ov : V) : Prop where
  get : hh.get ab = some (.cells (a.cells gv ov))
  gs : Own h0 2 hh gv a.guests.length (cells2 a.guests)
  ord : Own h0 1 hh ov a.order.length (a.order.map I)
def Keeps (hS hh : H) (rb ab : Nat) : Prop := hS.next ≤ hh.next ∧ ∀ k, k < hS.next → k ≠ rb → k ≠ ab → hh.get k = hS.get k
theorem Ch.keeps {hS hh h' : H} {rb ab : Nat} (k : Keeps hS hh rb ab) (c : Ch rb hh h') : Keeps hS h' rb ab :=
  ⟨Nat.le_trans k.1 c.nx, fun j h1 h2 h3 => (c.same j (Nat.lt_of_lt_of_le h1 k.1) h2).trans (k.2 j h1 h2 h3)⟩
section
variable {h0 hS : H} {rb ab : Nat} {s : List Nat}
theorem At91.keeps {hh : H} {c : List V} (q : At91 h0 hS hh rb ab s c) : Keeps hS hh rb ab := ⟨q.nx, q.kp⟩
end
end Go.Air
set_option maxRecDepth 100000
namespace Go.Air
open Go.Air.Try
def Kd (S : H → Prop) (o : Out) (_ : List V) (h : H) : Prop := match o with
  | .norm => S h
  | .ret => S h
  | _ => False
section
variable {tbl : Tb} {h : H} {S Sp : V → H → Prop} {t : List V}
@[go_sem ↓] theorem Kd_norm {R : H → Prop} : Kd R .norm t h ↔ R h := Iff.rfl
@[go_sem ↓] theorem Kd_ret {R : H → Prop} : Kd R .ret t h ↔ R h := Iff.rfl
theorem WD1_in {g n m : Nat} {res : List ResV} {body : C} {caps : List V} {v : V} {R : H → Prop} (ht : tbl g = some ⟨m, res, body, none, some n⟩) : WD1 tbl (.fn g [] caps) v h R ↔ W tbl body (upd (pad caps m) n v) h (Kd R) :=
  WD1_fn ht rfl
def Kdf (tbl : Tb) (f : V) (res : List ResV) (S : V → H → Prop) (o : Out) (t : List V) (h : H) : Prop := match o with
  | .exit _ => False
  | .norm => WD1 tbl f .in0 h fun h2 => resOk (resultsOf t h2 res) h2 S
  | .ret => WD1 tbl f .in0 h fun h2 => resOk (resultsOf t h2 res) h2 S
  | .pan v => WD1 tbl f v h fun h2 => resOk (resultsOf t h2 res) h2 S
def Kpre (tbl : Tb) (body : C) (x : X) (res : List ResV) (S : V → H → Prop) (o : Out) (t : List V) (h : H) : Prop := o = .norm ∧ W tbl body t h (Kdf tbl (x.ev t) res S)
@[go_sem ↓] theorem Kpre_norm {body : C} {x : X} {res : List ResV} : Kpre tbl body x res S .norm t h ↔ W tbl body t h (Kdf tbl (x.ev t) res S) := by simp [Kpre]
@[go_sem ↓] theorem Kdf_ret {f : V} {res : List ResV} : Kdf tbl f res S .ret t h ↔ WD1 tbl f .in0 h fun h2 => resOk (resultsOf t h2 res) h2 S := Iff.rfl
@[go_sem ↓] theorem Kdf_pan {f v : V} {res : List ResV} : Kdf tbl f res S (.pan v) t h ↔ WD1 tbl f v h fun h2 => resOk (resultsOf t h2 res) h2 S := Iff.rfl
theorem WC_dfr_in {g m : Nat} {first caps args : List V} {res : List ResV} {body pre : C} {x : X} (ht : tbl g = some ⟨m, res, body, some (pre, x), none⟩) (hw : W tbl pre (pad (first ++ args ++ caps) m) h (Kpre tbl body x res S)) : WX tbl (.fn g first caps) args h S Sp := by
  refine WC_dfr ht rfl rfl (hw.mono ?_)
  rintro o t' h' ⟨rfl, q⟩
  refine ⟨rfl, q.mono ?_⟩
  intro o t1 h1 q1
  cases o <;> exact q1
end
theorem t90 : tb1 20 = some a20 := by kernel_rfl
theorem t159 : tb1 41 = some a41 := by kernel_rfl
theorem Ch.refl (b : Nat) (h : H) : Ch b h h := ⟨Nat.le_refl _, fun _ _ _ => rfl, [], rfl, fun _ hx => by simp at hx⟩
theorem res_cell1 {h : H} {t : List V} {n b : Nat} {x : V} (hn : nth t n = .p b 0) (hg : h.get b = some (.cells [x])) : resultsOf t h [.cell n none] = some [x] := by
  simp only [resultsOf, resultOf, hn, hg, nth?, Option.map_some]
theorem res_cell2 {h : H} {t : List V} {n b k m : Nat} {cs : List V} (hn : nth t n = .p b 0) (hg : h.get b = some (.cells cs)) (hk : cs.length = k) : resultsOf t h [.cell n (some k), .tmp m] = some [.agg cs, nth t m] := by
  have : cut cs 0 k = some cs := cut_eq.2 ⟨by omega, by simp [← hk]⟩
  simp only [resultsOf, resultOf, hn, hg, this, Option.map_some]
section
variable {h : H}
theorem dfr_ok {ob : Nat} {S : H → Prop} (hS : S h) : WD1 tb1 (.fn 41 [] [.p ob 0]) .in0 h S := by
  rw [WD1_in t159]
  simp only [go_sem, ↓reduceIte, r41_0, r41_1, eqi_00]
  exact hS
theorem dfr_pan {ob : Nat} {S : H → Prop} {x : V} (g : h.get ob = some (.cells [x])) (hb : ob < h.next) (hS : ∀ h', Ch ob h h' → h'.get ob = some (.cells [.b false]) → S h') : WD1 tb1 (.fn 41 [] [.p ob 0]) misV h S := by
  rw [WD1_in t159]
  have e1 : eqV .iface misV .in0 = some false := rfl
  have e2 : taV misT (.agg []) true misV = some (.tup [.agg [], .b true]) := by simp [taV, misV]
  have e2' := e2
  simp only [misT] at e2'
  have g1 : (h.new (.cells [])).get h.next = some (.cells []) := get_new_eq rfl
  have s1 : stV (h.new (.cells [])) 0 (.p h.next 0) (.agg []) = some ((h.new (.cells [])).put h.next (.cells [])) := by
    simp [stV, V.cells, storeAt, g1, lay]
  have g2 : ((h.new (.cells [])).put h.next (.cells [])).get ob = some (.cells [x]) := by
    rw [get_put_ne (by omega), get_new_lt hb]; exact g
  have s2 : stV ((h.new (.cells [])).put h.next (.cells [])) 1 (.p ob 0) (.b false) = some (((h.new (.cells [])).put h.next (.cells [])).put ob (.cells [.b false])) := blk_st g2 (by simp) rfl rfl
  simp only [go_sem, ↓reduceIte, r41_0, r41_1, r41_2, r41_3, r41_5, e1, e2', s1, s2]
  exact hS _ ((Ch.of_ext (((Ext.refl h).new _).put (Nat.le_refl _) _)).put _) get_put_eq
theorem fn_tried {s : List Nat} {g : Nat} {caps : List V} {SS PP : V → H → Prop}
    (hr : WX tb1 (.fn g [] caps) [.p (h.next + 1) 0] ((h.new (.cells [.b false])).new (.cells [.s s])) SS PP)
    (hs : ∀ u h', SS u h' → h'.get h.next = some (.cells [.b false]) ∧ h.next < h'.next) (hp : ∀ u h', PP u h' → u = misV ∧ h'.get h.next = some (.cells [.b false]) ∧ h.next < h'.next) :
    WC tb1 (.fn 20 [] []) [.s s, .fn g [] caps] h fun u h' => (u = .b true ∧ ∃ v h1, SS v h1 ∧ Ch h.next h1 h') ∨ (u = .b false ∧ ∃ v h1, PP v h1 ∧ Ch h.next h1 h') := by
  refine WC_dfr_in t90 ?_
  simp only [go_sem, ↓reduceIte, r20_0, r20_1, List.nil_append, List.append_nil]
  have f1 : fill1 (.s s) = some [.s s] := rfl
  have hc : (V.agg [.s s]).cells = [.s s] := rfl
  simp only [go_sem, ↓reduceIte, r20_2, f1, hc, H.next_new]
  refine hr.mono ?_ ?_
  · intro u h1 q
    obtain ⟨q1, q2⟩ := hs u h1 q
    have st : stV h1 1 (.p h.next 0) (.b true) = some (h1.put h.next (.cells [.b true])) := blk_st (x := .b true) (i := 0) q1 (by simp) rfl rfl
    simp only [go_sem, ↓reduceIte, r20_3, st]
    refine dfr_ok ?_
    rw [res_cell1 (b := h.next) (x := .b true) (by simp only [go_sem, ↓reduceIte]) get_put_eq]
    exact .inl ⟨rfl, u, h1, q, (Ch.refl _ _).put _⟩
  · intro u h1 q
    obtain ⟨rfl, q1, q2⟩ := hp u h1 q
    simp only [go_sem, ↓reduceIte]
    refine dfr_pan q1 q2 ?_
    intro h' c g'
    rw [res_cell1 (b := h.next) (x := .b false) (by simp only [go_sem, ↓reduceIte]) g']
    exact .inr ⟨rfl, misV, h1, q, c⟩
end
end Go.Air
set_option maxRecDepth 100000
namespace Go.Air
open Go.Air.Try
theorem len7 {ns : List Int} (h : (7 : Int) < 0 ∨ 7 = (ns.length : Int)) : ∃ a b c d e f g, ns = [a, b, c, d, e, f, g] := by
  match ns, h with
  | [a, b, c, d, e, f, g], _ => exact ⟨a, b, c, d, e, f, g, rfl⟩
  | [], h => simp at h
  | [_], h => simp at h
  | [_, _], h => simp at h
  | [_, _, _], h => simp at h
  | [_, _, _, _], h => simp at h
  | [_, _, _, _, _], h => simp at h
  | [_, _, _, _, _, _], h => simp at h
  | _ :: _ :: _ :: _ :: _ :: _ :: _ :: _ :: l, h => simp at h; omega
theorem fillG {t : List V} {x0 x1 x2 x3 x4 x6 : X} {n a y sa : Int} {k : Nat} {hd : Bool} (h0 : x0.ev t = .i .i64 n) (h1 : x1.ev t = .i .i64 a) (h2 : x2.ev t = .i .i64 y) (h3 : x3.ev t = .i .u8 (k : Int)) (h4 : x4.ev t = .b hd) (h6 : x6.ev t = .i .i64 sa) :
    fill t zc [(0, 1, x0), (1, 1, x1), (2, 1, x2), (3, 1, x3), (4, 1, x4), (6, 1, x6)] = some (⟨n, a, y, k, hd, [], sa, List.replicate 32 0, List.replicate 32 0⟩ : Bul).cells := by
  have e1 : ∀ n : V, Nat.beq (List.length [n]) 1 = true := fun _ => rfl
  have ci : ∀ (kd : IntKind) (n : Int), (V.i kd n).cells = [V.i kd n] := fun _ _ => rfl
  have cb : ∀ (x : Bool), (V.b x).cells = [V.b x] := fun _ => rfl
  have zl : zc.length = 71 := rfl
  simp only [fill, h0, h1, h2, h3, h4, h6, ci, cb, e1, if_true]
  rw [lay_one (by rw [zl]; omega)]
  simp only []
  rw [lay_one (by simp [zl])]
  simp only []
  rw [lay_one (by simp [zl])]
  simp only []
  rw [lay_one (by simp [zl])]
  simp only []
  rw [lay_one (by simp [zl])]
  simp only []
  rw [lay_one (by simp [zl])]
  rfl
section
variable {h : H} {k : Nat} {b : Bul} (q : h.get k = some (.cells b.cells)) (hd : b.dig.length = 32) (hp : b.prev.length = 32) {d : List Nat} (hl : d.length = 32)
include q hd hp hl
theorem bst7 : stV h 32 (.p k 7) (.agg (d.map u8)) = some (h.put k (.cells ({ b with dig := d } : Bul).cells)) := by
  have h1 : lay b.cells 7 (d.map u8) = some ({ b with dig := d } : Bul).cells := lay_eq.2 ⟨by simp [Bul.cells, Bul.head, hd, hp, hl], by
    have e1 : b.cells.take 7 = b.head := List.take_left' rfl
    have e2 : b.cells.drop 39 = b.prev.map u8 := by
      unfold Bul.cells
      rw [← List.append_assoc, List.drop_left' (by simp [Bul.head, hd])]
    rw [e1, show 7 + (d.map u8).length = 39 by simp [hl], e2]
    simp [Bul.cells, Bul.head]⟩
  have h2 : (d.map u8).all V.oneCell = true := List.all_eq_true.2 (u8s_one d)
  have h3 : Nat.beq (d.map u8).length 32 = true := by rw [Nat.beq_eq, List.length_map]; exact hl
  simp only [stV, V.cells, h3, if_true, storeAt, q, h1, h2]
theorem bst39 : stV h 32 (.p k 39) (.agg (d.map u8)) = some (h.put k (.cells ({ b with prev := d } : Bul).cells)) := by
  have h1 : lay b.cells 39 (d.map u8) = some ({ b with prev := d } : Bul).cells := lay_eq.2 ⟨by simp [Bul.cells, Bul.head, hd, hp, hl], by
    have e1 : b.cells.take 39 = b.head ++ b.dig.map u8 := by
      unfold Bul.cells
      rw [← List.append_assoc, List.take_left' (by simp [Bul.head, hd])]
    have e2 : b.cells.drop 71 = [] := List.drop_of_length_le (by simp [Bul.cells, Bul.head, hd, hp])
    rw [e1, show 39 + (d.map u8).length = 71 by simp [hl], e2]
    simp [Bul.cells, Bul.head]⟩
  have h2 : (d.map u8).all V.oneCell = true := List.all_eq_true.2 (u8s_one d)
  have h3 : Nat.beq (d.map u8).length 32 = true := by rw [Nat.beq_eq, List.length_map]; exact hl
  simp only [stV, V.cells, h3, if_true, storeAt, q, h1, h2]
end
def S144 (h0 hS : H) (rb ab : Nat) (s : List Nat) (u : V) (h' : H) : Prop := u = .tup [] ∧ Ext h0 h' ∧ Keeps hS h' rb ab ∧ ∃ b, bulOf s = some b ∧ h'.get ab = some (.cells b.cells)
def P144 (h0 hS : H) (rb ab : Nat) (s : List Nat) (u : V) (h' : H) : Prop := u = misV ∧ Ext h0 h' ∧ Keeps hS h' rb ab ∧ bulOf s = none
section
variable {h0 hS : H} {rb ab : Nat} {s : List Nat}
theorem pan144 {hh h' : H} {c : List V} {s0 s1 : List Nat} (q : At91 h0 hS hh rb ab s1 c) (B : B91 h0 hS rb ab) (ch : Ch rb hh h') (hn : bulOf s0 = none) : P144 h0 hS rb ab s0 misV h' :=
  ⟨rfl, ch.ext q.ext B.r, ch.keeps q.keeps, hn⟩
theorem t144 : tb1 21 = some a21 := by kernel_rfl
theorem hashOf_rest {first s d rest : List Nat} (h : hashOf first s = some (d, rest)) : rest.length < s.length ∧ d.length = 32 ∧ (∀ c ∈ rest, c ∈ s) := by
  obtain ⟨rfl, h1, _⟩ := hashOf_some h
  exact ⟨by simp [lineH]; omega, h1, fun c hc => by simp [hc]⟩
theorem fn_144 (ht : Tb4 h0) (hu : TbU h0) (e0 : Ext h0 hS) (B : B91 h0 hS rb ab) (gr : hS.get rb = some (.cells [.s s])) (ga : hS.get ab = some (.cells zc)) (hs : s.length ≤ 1000000) (hsb : ∀ c ∈ s, c < 256) :
    WX tb1 (.fn 21 [] [.p ab 0]) [.p rb 0] hS (S144 h0 hS rb ab s) (P144 h0 hS rb ab s) := by
  refine (WC_cap t144).2 ?_
  have q0 : At91 h0 hS hS rb ab s zc := ⟨e0, ht, gr, ga, Nat.le_refl _, fun _ _ _ _ => rfl⟩
  have hzc : [V.i .i64 0, .i .i64 0, .i .i64 0] ++ [.i .u8 0] ++ [.b false] ++ [.s []] ++ [.i .i64 0] ++ List.replicate 64 (.i .u8 0) = zc := rfl
  simp only [go_sem, ↓reduceIte, r21_0, List.nil_append, List.cons_append, List.append_nil]
  refine (q0.ints B hs (by omega)).mono ?_ ?_
  rotate_left
  · rintro u h1 ⟨hn, rfl, c1⟩
    simp only [go_sem, ↓reduceIte]
    refine pan144 q0 B c1 ?_
    have hn : intsOf wBul 7 s = none := hn
    simp only [bulOf, hn]
  rintro u1 h1 ⟨ns1, s1, hi1, o1, g1, c1⟩
  obtain ⟨n, a, y, kd, hd, sa, len, rfl⟩ := len7 (intsOf_some hi1).2.2
  have hi1 : intsOf wBul 7 s = some ([n, a, y, kd, hd, sa, len], s1) := hi1
  have hl1 : s1.length ≤ 1000000 := by have := intsOf_len hi1; omega
  have hb1 : ∀ c ∈ s1, c < 256 := by
    obtain ⟨rfl, _⟩ := intsOf_some hi1
    exact fun c hc => hsb c (by simp [hc])
  have hnb := (intsOf_some hi1).2.1
  have hkn : NumB kd := hnb kd (by simp)
  have hhn : NumB hd := hnb hd (by simp)
  obtain ⟨bk, gg, rfl, hkl, hk2, hg1⟩ := o1.at (by simp)
  have hg1 : h1.get bk = some (.cells [.i .i64 n, .i .i64 a, .i .i64 y, .i .i64 kd, .i .i64 hd, .i .i64 sa, .i .i64 len]) := hg1
  have q1 := q0.ch B c1 g1
  have i0 : ixV 1 (.sl bk 0 7 7 gg) (.i .i64 0) = some (.p bk 0) := rfl
  have i1 : ixV 1 (.sl bk 0 7 7 gg) (.i .i64 1) = some (.p bk 1) := rfl
  have i2 : ixV 1 (.sl bk 0 7 7 gg) (.i .i64 2) = some (.p bk 2) := rfl
  have i3 : ixV 1 (.sl bk 0 7 7 gg) (.i .i64 3) = some (.p bk 3) := rfl
  have i4 : ixV 1 (.sl bk 0 7 7 gg) (.i .i64 4) = some (.p bk 4) := rfl
  have i5 : ixV 1 (.sl bk 0 7 7 gg) (.i .i64 5) = some (.p bk 5) := rfl
  have i6 : ixV 1 (.sl bk 0 7 7 gg) (.i .i64 6) = some (.p bk 6) := rfl
  have l0 : ldV h1 (.p bk 0) = some (.i .i64 n) := blk_ld hg1 rfl
  have l1 : ldV h1 (.p bk 1) = some (.i .i64 a) := blk_ld hg1 rfl
  have l2 : ldV h1 (.p bk 2) = some (.i .i64 y) := blk_ld hg1 rfl
  have l3 : ldV h1 (.p bk 3) = some (.i .i64 kd) := blk_ld hg1 rfl
  have l4 : ldV h1 (.p bk 4) = some (.i .i64 hd) := blk_ld hg1 rfl
  have l5 : ldV h1 (.p bk 5) = some (.i .i64 sa) := blk_ld hg1 rfl
  simp only [go_sem, ↓reduceIte]
  refine WL_gen (fun t => t.length = 59 ∧ nth t 0 = .p rb 0 ∧ nth t 1 = .p ab 0 ∧ nth t 3 = .sl bk 0 7 7 gg) (by simp only [go_sem, ↓reduceIte]) ?_
  rintro t ⟨tl, t0, t1, t3⟩
  by_cases c3 : 7 < kd
  · simp only [go_sem, ↓reduceIte, r21_1, r21_2, tl, t0, t1, t3, i3, l3, c3, decide_true, Bool.true_eq_false, fill0]
    refine pan144 q1 B (Ch.refl _ _) ?_
    simp only [bulOf, hi1, c3, true_or, if_true]
  by_cases c4 : 1 < hd
  · simp only [go_sem, ↓reduceIte, r21_1, r21_2, tl, t0, t1, t3, i3, l3, i4, l4, c3, c4, decide_true, decide_false, Bool.true_eq_false, fill0]
    refine pan144 q1 B (Ch.refl _ _) ?_
    simp only [bulOf, hi1, c4, or_true, if_true]
  have hcv : convV .u8 (.i .i64 kd) = some (.i .u8 ((kd.toNat : Nat) : Int)) := by
    have := hkn.1
    simp only [convV]
    rw [wrap_u8, Int.emod_eq_of_lt (by omega) (by omega), Int.toNat_of_nonneg (by omega)]
  have stb : stV h1.bare 71 (.p ab 0) (.agg (⟨n, a, y, kd.toNat, decide (hd = 1), [], sa, List.replicate 32 0, List.replicate 32 0⟩ : Bul).cells) = some (h1.bare.put ab (.cells (⟨n, a, y, kd.toNat, decide (hd = 1), [], sa, List.replicate 32 0, List.replicate 32 0⟩ : Bul).cells)) :=
    blk_stn (h := h1.bare) q1.ga rfl rfl (cells_one _)
  have bkp := back_put (q1.la B) (.cells (⟨n, a, y, kd.toNat, decide (hd = 1), [], sa, List.replicate 32 0, List.replicate 32 0⟩ : Bul).cells)
  have hbo : bulOf s = match hashOf wSeal s1 with
      | some (d, s2) => match hashOf wPrev s2 with
        | some (p, s3) => if (s3.length : Int) = len then some ⟨n, a, y, kd.toNat, decide (hd = 1), s3, sa, d, p⟩ else none
        | none => none
      | none => none := by
    simp only [bulOf, hi1]
    exact (if_neg (by omega)).trans rfl
  simp only [go_sem, ↓reduceIte, r21_1, r21_3, tl, t0, t1, t3, i3, l3, i4, l4, c3, c4, decide_false]
  simp only [go_sem, ↓reduceIte, tl, t0, t1, t3, i0, i1, i2, i3, i4, i5, l0, l1, l2, l3, l4, l5, hcv, hzc]
  rw [fillG (n := n) (a := a) (y := y) (k := kd.toNat) (hd := decide (hd = 1)) (sa := sa) (by simp only [go_sem, ↓reduceIte, tl]) (by simp only [go_sem, ↓reduceIte, tl]) (by simp only [go_sem, ↓reduceIte, tl]) (by simp only [go_sem, ↓reduceIte, tl]) (by simp only [go_sem, ↓reduceIte, tl]) (by simp only [go_sem, ↓reduceIte, tl])]
  simp only [go_sem, ↓reduceIte, tl, t0, t1, t3, stb, bkp]
  have q2 := q1.put B (⟨n, a, y, kd.toNat, decide (hd = 1), [], sa, List.replicate 32 0, List.replicate 32 0⟩ : Bul).cells
  have hg2 : (h1.put ab (.cells (⟨n, a, y, kd.toNat, decide (hd = 1), [], sa, List.replicate 32 0, List.replicate 32 0⟩ : Bul).cells)).get bk = some (.cells [.i .i64 n, .i .i64 a, .i .i64 y, .i .i64 kd, .i .i64 hd, .i .i64 sa, .i .i64 len]) := by
    rw [get_put_ne (by have := B.la; omega)]; exact hg1
  have hbk2 : bk < (h1.put ab (.cells (⟨n, a, y, kd.toNat, decide (hd = 1), [], sa, List.replicate 32 0, List.replicate 32 0⟩ : Bul).cells)).next := hk2
  generalize h1.put ab (.cells (⟨n, a, y, kd.toNat, decide (hd = 1), [], sa, List.replicate 32 0, List.replicate 32 0⟩ : Bul).cells) = h2 at q2 hg2 hbk2
  have hrb : ∀ {hh : H} {c : List V} {z : List Nat}, At91 h0 hS hh rb ab z c → TbU hh := fun q => hu.ext q.ext
  refine WL_gen (fun t => t.length = 59 ∧ nth t 0 = .p rb 0 ∧ nth t 1 = .p ab 0 ∧ nth t 3 = .sl bk 0 7 7 gg) (by simp only [go_sem, ↓reduceIte, tl, t0, t1, t3]) ?_
  clear t0 t1 t3 tl t
  rintro t ⟨tl, t0, t1, t3⟩
  simp only [go_sem, ↓reduceIte, r21_4, tl, t0, t1, t3]
  refine (fn_hash (hrb q2) (q2.lr B) q2.gr hl1 hb1).mono ?_ ?_
  rotate_left
  · rintro u h3 ⟨hn, rfl, c3⟩
    simp only [go_sem, ↓reduceIte]
    refine pan144 q2 B c3 ?_
    have hn : hashOf wSeal s1 = none := hn
    rw [hbo, hn]
  rintro u h3 ⟨d, s2, hd1, rfl, g3, c3⟩
  have hd1 : hashOf wSeal s1 = some (d, s2) := hd1
  obtain ⟨hl2, hdl, hm2⟩ := hashOf_rest hd1
  have q3 := q2.ch B c3 g3
  have hg3 := (c3.same bk hbk2 (by have := B.lr; omega)).trans hg2
  have st3 := bst7 q3.ga rfl rfl hdl
  simp only [go_sem, ↓reduceIte, tl, t0, t1, t3, st3]
  have q4 := q3.put B ({ (⟨n, a, y, kd.toNat, decide (hd = 1), [], sa, List.replicate 32 0, List.replicate 32 0⟩ : Bul) with dig := d } : Bul).cells
  have hbk3 : bk < h3.next := Nat.lt_of_lt_of_le hbk2 c3.nx
  have hg4 := (get_put_ne (h := h3) (x := .cells ({ (⟨n, a, y, kd.toNat, decide (hd = 1), [], sa, List.replicate 32 0, List.replicate 32 0⟩ : Bul) with dig := d } : Bul).cells) (show bk ≠ ab by have := B.la; omega)).trans hg3
  have hbk4 : bk < (h3.put ab (.cells ({ (⟨n, a, y, kd.toNat, decide (hd = 1), [], sa, List.replicate 32 0, List.replicate 32 0⟩ : Bul) with dig := d } : Bul).cells)).next := hbk3
  generalize h3.put ab (.cells ({ (⟨n, a, y, kd.toNat, decide (hd = 1), [], sa, List.replicate 32 0, List.replicate 32 0⟩ : Bul) with dig := d } : Bul).cells) = h4 at q4 hg4 hbk4
  refine WL_gen (fun t => t.length = 59 ∧ nth t 0 = .p rb 0 ∧ nth t 1 = .p ab 0 ∧ nth t 3 = .sl bk 0 7 7 gg) (by simp only [go_sem, ↓reduceIte, tl, t0, t1, t3]) ?_
  clear t0 t1 t3 tl t
  rintro t ⟨tl, t0, t1, t3⟩
  simp only [go_sem, ↓reduceIte, r21_5, tl, t0, t1, t3]
  refine (fn_hash (hrb q4) (q4.lr B) q4.gr (by omega) (fun c hc => hb1 c (hm2 c hc))).mono ?_ ?_
  rotate_left
  · rintro u h5 ⟨hn, rfl, c5⟩
    simp only [go_sem, ↓reduceIte]
    refine pan144 q4 B c5 ?_
    have hn : hashOf wPrev s2 = none := hn
    rw [hbo, hd1]
    simp only [hn]
  rintro u h5 ⟨p, s3, hp1, rfl, g5, c5⟩
  have hp1 : hashOf wPrev s2 = some (p, s3) := hp1
  obtain ⟨hl3, hpl, hm3⟩ := hashOf_rest hp1
  have q5 := q4.ch B c5 g5
  have hg5 := (c5.same bk hbk4 (by have := B.lr; omega)).trans hg4
  have st5 := bst39 q5.ga hdl rfl hpl
  have q6 := q5.put B (⟨n, a, y, kd.toNat, decide (hd = 1), [], sa, d, p⟩ : Bul).cells
  have ld6 : ldV (h5.put ab (.cells (⟨n, a, y, kd.toNat, decide (hd = 1), [], sa, d, p⟩ : Bul).cells)) (.p rb (0 + 0)) = some (.s s3) := blk_ld (i := 0) q6.gr rfl
  have hcl : (⟨n, a, y, kd.toNat, decide (hd = 1), [], sa, d, p⟩ : Bul).cells.length = 71 := by simp [Bul.cells, Bul.head, hdl, hpl]
  have st6 : stV (h5.put ab (.cells (⟨n, a, y, kd.toNat, decide (hd = 1), [], sa, d, p⟩ : Bul).cells)) 1 (.p ab 5) (.s s3) = some ((h5.put ab (.cells (⟨n, a, y, kd.toNat, decide (hd = 1), [], sa, d, p⟩ : Bul).cells)).put ab (.cells (⟨n, a, y, kd.toNat, decide (hd = 1), s3, sa, d, p⟩ : Bul).cells)) :=
    blk_st (i := 5) q6.ga (by rw [hcl]; omega) rfl rfl
  have q7 := q6.put B (⟨n, a, y, kd.toNat, decide (hd = 1), s3, sa, d, p⟩ : Bul).cells
  have hg7 : ((h5.put ab (.cells (⟨n, a, y, kd.toNat, decide (hd = 1), [], sa, d, p⟩ : Bul).cells)).put ab (.cells (⟨n, a, y, kd.toNat, decide (hd = 1), s3, sa, d, p⟩ : Bul).cells)).get bk = some (.cells [.i .i64 n, .i .i64 a, .i .i64 y, .i .i64 kd, .i .i64 hd, .i .i64 sa, .i .i64 len]) := by
    rw [get_put_ne (by have := B.la; omega), get_put_ne (by have := B.la; omega)]; exact hg5
  simp only [go_sem, ↓reduceIte, r21_6, tl, t0, t1, t3, st5, ld6, st6]
  generalize (h5.put ab (.cells (⟨n, a, y, kd.toNat, decide (hd = 1), [], sa, d, p⟩ : Bul).cells)).put ab (.cells (⟨n, a, y, kd.toNat, decide (hd = 1), s3, sa, d, p⟩ : Bul).cells) = h7 at q7 hg7
  have l5' : ldV h7 (.p ab 5) = some (.s s3) := blk_ld q7.ga rfl
  have l6' : ldV h7 (.p bk 6) = some (.i .i64 len) := blk_ld hg7 rfl
  by_cases hle : (s3.length : Int) = len
  · simp only [go_sem, ↓reduceIte, r21_7, tl, t0, t1, t3, l5', l6', i6, hle, decide_true, Bool.not_true, old_bare, H.back_bare, List.cons_append, List.nil_append]
    refine ⟨rfl, q7.ext, q7.keeps, _, ?_, q7.ga⟩
    rw [hbo, hd1]
    simp only [hp1, hle, if_true]
  · simp only [go_sem, ↓reduceIte, r21_7, r21_8, tl, t0, t1, t3, l5', l6', i6, hle, decide_false, Bool.not_false, old_bare, H.back_bare, List.cons_append, List.nil_append, fill0]
    refine ⟨rfl, q7.ext, q7.keeps, ?_⟩
    rw [hbo, hd1]
    simp only [hp1, hle, if_false]
end
end Go.Air
set_option maxRecDepth 100000
namespace Go.Air
open Go.Air.Try
theorem fn_wellformed {h : H} (ht : Tb4 h) {b : Bul} (hb : b.Ok) : WC tb1 (.fn 17 [] []) [.agg b.cells] h fun u h' => u = .b b.formed ∧ Ext h h' := by
  refine (WC_in t126).2 ?_
  have hc : (V.agg b.cells).cells = b.cells := rfl
  have e1 : Ext h (h.new (.cells b.cells)) := (Ext.refl h).new _
  have g : (h.new (.cells b.cells)).get h.next = some (.cells b.cells) := get_new_eq rfl
  have hk := conv_kind hb.kind
  simp only [go_sem, ↓reduceIte, r17_0, hc]
  cases c1 : btw b.n 0 1999
  · simp only [go_sem, ↓reduceIte, r17_1, r17_2, r17_3, bl0 g, bl1 g, bl2 g, bl3 g, hk, c1]
    refine ⟨by simp [Bul.formed, c1], e1⟩
  cases c2 : btw b.at' 0 100000
  · simp only [go_sem, ↓reduceIte, r17_1, r17_2, r17_3, bl0 g, bl1 g, bl2 g, bl3 g, hk, c1, c2]
    refine ⟨by simp [Bul.formed, c2], e1⟩
  cases c3 : btw b.by' 0 7
  · simp only [go_sem, ↓reduceIte, r17_1, r17_2, r17_3, bl0 g, bl1 g, bl2 g, bl3 g, hk, c1, c2, c3]
    refine ⟨by simp [Bul.formed, c3], e1⟩
  cases c4 : btw b.kind 1 7
  · simp only [go_sem, ↓reduceIte, r17_1, r17_2, r17_3, bl0 g, bl1 g, bl2 g, bl3 g, hk, c1, c2, c3, c4]
    refine ⟨by simp [Bul.formed, c4], e1⟩
  cases c5 : b.hid
  · simp only [go_sem, ↓reduceIte, r17_1, r17_2, r17_4, bl0 g, bl1 g, bl2 g, bl3 g, bl4 g, hk, c1, c2, c3, c4, c5]
    refine WL_gen (fun t => t.length = 56 ∧ nth t 1 = .p h.next 0) (by simp only [go_sem, ↓reduceIte]) ?_
    rintro t ⟨tl, t1⟩
    cases c7 : btw b.salt 0 9007199254740992
    · simp only [go_sem, ↓reduceIte, r17_6, r17_7, tl, t1, bl5 g, bl6 g, c7, old_bare, List.cons_append, List.nil_append]
      exact ⟨rfl, by simp only [Bul.formed, c1, c2, c3, c4, c5, c7, Bool.and_false]; rfl, e1⟩
    cases c6 : decide ((b.body.length : Int) ≤ 7000)
    · simp only [go_sem, ↓reduceIte, r17_6, r17_7, tl, t1, bl5 g, bl6 g, c6, c7, old_bare, List.cons_append, List.nil_append]
      exact ⟨rfl, by simp only [Bul.formed, c1, c2, c3, c4, c5, c6]; rfl, e1⟩
    simp only [go_sem, ↓reduceIte, r17_6, r17_7, tl, t1, bl5 g, bl6 g, bl7 g hb, c6, c7, old_bare, List.cons_append, List.nil_append]
    have c6' := of_decide_eq_true c6
    refine (fn_rseal (ht.ext e1).bare hb.salt hb.body (by omega)).mono ?_
    rintro u h' ⟨rfl, e⟩
    have hq : eqV (.agg (List.replicate 32 (.i .u8))) (.agg (b.dig.map u8)) (.agg ((sealOf b.salt b.body).map u8)) = some (decide (b.dig = sealOf b.salt b.body)) := eq_u8s hb.dig (sum_len _)
    have ho := e.old
    simp only [go_sem, ↓reduceIte, tl, ho, hq, List.cons_append, List.nil_append]
    exact ⟨rfl, by simp only [Bul.formed, c1, c2, c3, c4, c5, c6, c7]; rfl, e1.trans e.back⟩
  cases c6 : decide (b.body = [])
  · have s6 : binV .eql (.s b.body) (.s []) = some (.b false) := by rw [bin_seq, c6]
    simp only [go_sem, ↓reduceIte, r17_1, r17_2, r17_4, r17_5, bl0 g, bl1 g, bl2 g, bl3 g, bl4 g, bl5 g, bl6 g, hk, c1, c2, c3, c4, c5, s6]
    exact ⟨by simp only [Bul.formed, c1, c2, c3, c4, c5, c6]; rfl, e1⟩
  have s6 : binV .eql (.s b.body) (.s []) = some (.b true) := by rw [bin_seq, c6]
  cases c7 : decide (b.salt = 0)
  · simp only [go_sem, ↓reduceIte, r17_1, r17_2, r17_4, r17_5, bl0 g, bl1 g, bl2 g, bl3 g, bl4 g, bl5 g, bl6 g, hk, c1, c2, c3, c4, c5, s6, c7]
    exact ⟨by simp only [Bul.formed, c1, c2, c3, c4, c5, c6, c7]; rfl, e1⟩
  · simp only [go_sem, ↓reduceIte, r17_1, r17_2, r17_4, r17_5, bl0 g, bl1 g, bl2 g, bl3 g, bl4 g, bl5 g, bl6 g, hk, c1, c2, c3, c4, c5, s6, c7]
    exact ⟨by simp only [Bul.formed, c1, c2, c3, c4, c5, c6, c7]; rfl, e1⟩
end Go.Air
set_option maxRecDepth 100000
namespace Go.Air
open Go.Air.Try
theorem fill_7 {t : List V} {z0 z1 z2 z3 z4 z5 z6 v0 v1 v2 v3 v4 v5 v6 : V} {x0 x1 x2 x3 x4 x5 x6 : X} (e0 : x0.ev t = v0) (e1 : x1.ev t = v1) (e2 : x2.ev t = v2) (e3 : x3.ev t = v3) (e4 : x4.ev t = v4) (e5 : x5.ev t = v5) (e6 : x6.ev t = v6)
    (c0 : v0.cells = [v0]) (c1 : v1.cells = [v1]) (c2 : v2.cells = [v2]) (c3 : v3.cells = [v3]) (c4 : v4.cells = [v4]) (c5 : v5.cells = [v5]) (c6 : v6.cells = [v6]) :
    fill t [z0, z1, z2, z3, z4, z5, z6] [(0, 1, x0), (1, 1, x1), (2, 1, x2), (3, 1, x3), (4, 1, x4), (5, 1, x5), (6, 1, x6)] = some [v0, v1, v2, v3, v4, v5, v6] := by
  simp [fill, lay, e0, e1, e2, e3, e4, e5, e6, c0, c1, c2, c3, c4, c5, c6]
def hidN (b : Bul) : Int := if b.hid then 1 else 0
def Bul.numV (b : Bul) : List V := [.i .i64 b.n, .i .i64 b.at', .i .i64 b.by', .i .i64 (b.kind : Int), .i .i64 (hidN b), .i .i64 b.salt, .i .i64 (b.body.length : Int)]
def putB (b : Bul) : V := if b.formed then .tup [.s b.text, .i .i64 0] else .tup [.s [], .i .i64 1]
theorem text_eqB (b : Bul) : [98, 117, 108, 108, 101, 116, 105, 110, 32] ++ numText b.nums ++ [10, 115, 101, 97, 108, 32] ++ hexT b.dig ++ [10, 112, 114, 101, 118, 32] ++ hexT b.prev ++ [10] ++ b.body = b.text := by
  have h : lineT wBul b.nums = wBul ++ [32] ++ numText b.nums ++ [10] := line_numText wBul _ _
  unfold Bul.text lineH
  rw [h]
  simp [wBul, wSeal, wPrev]
theorem nums_i64 {b : Bul} (hb : b.Ok) : ∀ x ∈ b.nums, I64 x := by
  intro x hx
  have hk := hb.kind
  have hl := hb.len
  simp only [Bul.nums, List.mem_cons, List.not_mem_nil, or_false] at hx
  rcases hx with rfl | rfl | rfl | rfl | rfl | rfl | rfl
  · exact hb.n
  · exact hb.at'
  · exact hb.by'
  · exact ⟨by omega, by omega⟩
  · split
    · exact ⟨by omega, by omega⟩
    · exact ⟨by omega, by omega⟩
  · exact hb.salt
  · exact ⟨by omega, by omega⟩
section
variable {h : H} {k : Nat} {b : Bul} (q : h.get k = some (.cells b.cells))
include q
theorem bl39 (hb : b.Ok) : ldnV h 32 (.p k 39) = some (.agg (b.prev.map u8)) := by
  have : cut b.cells 39 32 = some (b.prev.map u8) := by
    refine cut_eq.2 ⟨by rw [cells_len hb]; omega, ?_⟩
    have e : b.cells.drop 39 = b.prev.map u8 := by
      unfold Bul.cells
      rw [← List.append_assoc, List.drop_left' (by simp [Bul.head, hb.dig])]
    rw [e, List.take_of_length_le (by simp [hb.prev])]
  simp [ldnV, q, Blk.rd, this]
end
section
variable {h : H}
theorem t73 : tb1 5 = some a5 := by kernel_rfl
theorem t74 : tb1 6 = some a6 := by kernel_rfl
theorem fn_Put (ht : Tb4 h) {b : Bul} (hb : b.Ok) (hl : b.body.length ≤ 1000000) : WC tb1 (.fn 5 [] []) [.agg b.cells] h fun u h' => u = putB b ∧ Ext h h' := by
  refine (WC_in t73).2 ?_
  have e1 : Ext h (h.new (.cells b.cells)) := (Ext.refl h).new _
  have g : (h.new (.cells b.cells)).get h.next = some (.cells b.cells) := get_new_eq rfl
  have n1 : (h.new (.cells b.cells)).next = h.next + 1 := rfl
  have hc : (V.agg b.cells).cells = b.cells := rfl
  have ln := bl71 g hb
  simp only [go_sem, ↓reduceIte, r5_0, r5_1, hc, ln]
  generalize h.new (.cells b.cells) = h1 at e1 g n1
  refine (fn_formed (ht.ext e1) hb).mono ?_
  rintro u h2 ⟨rfl, e2⟩
  have g2 := e2.get (by omega) g
  have n2 : h.next < h2.next := by have := e2.nx; omega
  have e02 := e1.trans e2
  unfold putB
  cases hf : b.formed
  · simp only [go_sem, ↓reduceIte, r5_2]
    exact e02
  have hk := conv_kind hb.kind
  have hx := nums_i64 hb
  have htx := text_eqB b
  have l0 := bl0 g2
  have l1 := bl1 g2
  have l2 := bl2 g2
  have l3 := bl3 g2
  have l4 := bl4 g2
  have l5 := bl5 g2
  have l6 := bl6 g2
  have hN : nums_len b.nums = nums_len b.nums := rfl
  cases c5 : b.hid
  case' false => simp only [go_sem, ↓reduceIte, r5_3, r5_4, l4, c5]
  case' true => simp only [go_sem, ↓reduceIte, r5_3, r5_4, r5_5, l4, c5]
  all_goals
    refine WD_gen (fun t => t.length = 42 ∧ nth t 1 = .p h.next 0 ∧ nth t 4 = .i .i64 (hidN b)) ?_ ?_
    · simp only [go_sem, ↓reduceIte, hidN, c5, Bool.false_eq_true]
    rintro t ⟨tl, t1, t4⟩
    have e3b : Tb4 h2.bare := (ht.ext e02).bare
    simp only [go_sem, ↓reduceIte, r5_6, tl, t1, t4, l0, l1, l2, l3, l5, l6, hk, old_bare, H.back_bare, List.cons_append, List.nil_append]
    rw [fill_7 (v0 := .i .i64 b.n) (v1 := .i .i64 b.at') (v2 := .i .i64 b.by') (v3 := .i .i64 (b.kind : Int)) (v4 := .i .i64 (hidN b)) (v5 := .i .i64 b.salt) (v6 := .i .i64 (b.body.length : Int))
      (by simp only [go_sem, ↓reduceIte, tl]) (by simp only [go_sem, ↓reduceIte, tl]) (by simp only [go_sem, ↓reduceIte, tl]) (by simp only [go_sem, ↓reduceIte, tl]) (by simp only [go_sem, ↓reduceIte, tl]) (by simp only [go_sem, ↓reduceIte, tl]) (by simp only [go_sem, ↓reduceIte, tl]) rfl rfl rfl rfl rfl rfl rfl]
    have hnv : [V.i .i64 b.n, .i .i64 b.at', .i .i64 b.by', .i .i64 (b.kind : Int), .i .i64 (hidN b), .i .i64 b.salt, .i .i64 (b.body.length : Int)] = b.numV := rfl
    simp only [go_sem, ↓reduceIte, tl, H.back_new, hnv]
    have g5 : (h2.new (.cells b.numV)).bare.get h2.next = some (.cells b.numV) := get_new_eq rfl
    have e5 : Ext h2 (h2.new (.cells b.numV)) := (Ext.refl h2).new _
    refine (fn_numbers (xs := b.nums) (ht.ext (e02.trans e5)).bare (.inr ⟨h2.next, 0, 7, none, _, rfl, Nat.lt_succ_self _, g5, rfl⟩) hx (by simp [Bul.nums])).mono ?_
    rintro u h3 ⟨rfl, e3⟩
    have ho3 := e3.old
    have e3' := e5.trans e3.back
    rw [Kdrw_eq, ho3]
    generalize (h2.new (.cells b.numV)).back h3 = h4 at e3'
    have hnl := nums_len b.nums
    generalize numText b.nums = N at hnl htx
    have hnl : N.length ≤ 154 := hnl
    have b1 : binV .add (.s [98, 117, 108, 108, 101, 116, 105, 110, 32]) (.s N) = some (.s _) := bin_sadd (by simp only [List.length_cons, List.length_nil]; omega)
    generalize hA : [98, 117, 108, 108, 101, 116, 105, 110, 32] ++ N = A at b1 htx
    have lA : A.length ≤ 170 := by subst hA; simp only [List.length_append, List.length_cons, List.length_nil]; omega
    have b2 : binV .add (.s A) (.s [10, 115, 101, 97, 108, 32]) = some (.s _) := bin_sadd (by simp only [List.length_cons, List.length_nil]; omega)
    generalize hB : A ++ [10, 115, 101, 97, 108, 32] = B at b2 htx
    have lB : B.length ≤ 180 := by subst hB; simp only [List.length_append, List.length_cons, List.length_nil]; omega
    have g4 := e3'.get n2 g2
    have d7 := bl7 g4 hb
    have ln4 : h.next < h4.next := Nat.lt_of_lt_of_le n2 e3'.nx
    simp only [go_sem, ↓reduceIte, tl, t1, b1, b2, d7, old_bare, H.back_bare, List.cons_append, List.nil_append]
    refine (fn_written hb.dig hb.digB).mono ?_
    rintro u h5 ⟨rfl, e6⟩
    have ho5 := e6.old
    have e6' := e6.back
    rw [Kdrw_eq, ho5]
    generalize h4.back h5 = h6 at e6'
    have g6 := e6'.get ln4 g4
    have d39 := bl39 g6 hb
    have hd1 := hexT_len b.dig
    rw [hb.dig] at hd1
    have b3 : binV .add (.s B) (.s (hexT b.dig)) = some (.s _) := bin_sadd (by omega)
    generalize hC : B ++ hexT b.dig = C at b3 htx
    have lC : C.length ≤ 244 := by subst hC; simp only [List.length_append]; omega
    have b4 : binV .add (.s C) (.s [10, 112, 114, 101, 118, 32]) = some (.s _) := bin_sadd (by simp only [List.length_cons, List.length_nil]; omega)
    generalize hD : C ++ [10, 112, 114, 101, 118, 32] = D at b4 htx
    have lD : D.length ≤ 250 := by subst hD; simp only [List.length_append, List.length_cons, List.length_nil]; omega
    simp only [go_sem, ↓reduceIte, tl, t1, b3, b4, d39, old_bare, H.back_bare, List.cons_append, List.nil_append]
    refine (fn_written hb.prev hb.prevB).mono ?_
    rintro u h7 ⟨rfl, e8⟩
    have ho7 := e8.old
    have e8' := e8.back
    rw [Kdrw_eq, ho7]
    generalize h6.back h7 = h8 at e8'
    have g8 := e8'.get (Nat.lt_of_lt_of_le ln4 e6'.nx) g6
    have l58 := bl5 g8
    have hd2 := hexT_len b.prev
    rw [hb.prev] at hd2
    have b5 : binV .add (.s D) (.s (hexT b.prev)) = some (.s _) := bin_sadd (by omega)
    generalize hE : D ++ hexT b.prev = E at b5 htx
    have lE : E.length ≤ 314 := by subst hE; simp only [List.length_append]; omega
    have b6 : binV .add (.s E) (.s [10]) = some (.s _) := bin_sadd (by simp only [List.length_cons, List.length_nil]; omega)
    generalize hF : E ++ [10] = F at b6 htx
    have lF : F.length ≤ 315 := by subst hF; simp only [List.length_append, List.length_cons, List.length_nil]; omega
    have b7 : binV .add (.s F) (.s b.body) = some (.s _) := bin_sadd (by omega)
    rw [htx] at b7
    simp only [go_sem, ↓reduceIte, tl, t1, b5, b6, b7, l58, old_bare, H.back_bare, List.cons_append, List.nil_append]
    exact ⟨rfl, e02.trans ((e3'.trans e6').trans e8')⟩
theorem fn_rPut (ht : Tb4 h) {b : Bul} (hb : b.Ok) (hl : b.body.length ≤ 1000000) : WC tb1 (.fn 6 [] []) [.agg b.cells] h fun u h' => u = putB b ∧ Ext h h' := by
  refine (WC_in t74).2 ?_
  have e1 : Ext h (h.new (.cells b.cells)) := (Ext.refl h).new _
  have g : (h.new (.cells b.cells)).get h.next = some (.cells b.cells) := get_new_eq rfl
  have n1 : (h.new (.cells b.cells)).next = h.next + 1 := rfl
  have hc : (V.agg b.cells).cells = b.cells := rfl
  have ln := bl71 g hb
  simp only [go_sem, ↓reduceIte, r6_0, r6_1, hc, ln]
  generalize h.new (.cells b.cells) = h1 at e1 g n1
  refine (fn_wellformed (ht.ext e1) hb).mono ?_
  rintro u h2 ⟨rfl, e2⟩
  have g2 := e2.get (by omega) g
  have n2 : h.next < h2.next := by have := e2.nx; omega
  have e02 := e1.trans e2
  unfold putB
  cases hf : b.formed
  · simp only [go_sem, ↓reduceIte, r6_2, r6_3]
    exact e02
  have hk := conv_kind hb.kind
  have hx := nums_i64 hb
  have htx := text_eqB b
  have l0 := bl0 g2
  have l1 := bl1 g2
  have l2 := bl2 g2
  have l3 := bl3 g2
  have l4 := bl4 g2
  have l5 := bl5 g2
  have l6 := bl6 g2
  have i0 : I64 b.n := hb.n
  have i1 : I64 b.at' := hb.at'
  have i2 : I64 b.by' := hb.by'
  have i3 : I64 (b.kind : Int) := by have := hb.kind; exact ⟨by omega, by omega⟩
  have i4 : I64 (hidN b) := by unfold hidN; split <;> exact ⟨by omega, by omega⟩
  have i5 : I64 b.salt := hb.salt
  have i6 : I64 (b.body.length : Int) := ⟨by omega, by omega⟩
  have k0 := itoa_len b.n
  have k1 := itoa_len b.at'
  have k2 := itoa_len b.by'
  have k3 := itoa_len (b.kind : Int)
  have k4 := itoa_len (hidN b)
  have k5 := itoa_len b.salt
  have k6 := itoa_len (b.body.length : Int)
  have hhead : [98, 117, 108, 108, 101, 116, 105, 110] ++ (32 :: itoa b.n) ++ (32 :: itoa b.at') ++ (32 :: itoa b.by') ++ (32 :: itoa (b.kind : Int)) ++ (32 :: itoa (hidN b)) ++ (32 :: itoa b.salt) ++ (32 :: itoa (b.body.length : Int)) ++ [10] = [98, 117, 108, 108, 101, 116, 105, 110, 32] ++ numText b.nums ++ [10] := by
    unfold Bul.nums
    rw [numText_cons]
    simp [hidN]
  have htb : Tb4 h2.bare := (ht.ext e02).bare
  have b1 : binV .add (.s [98, 117, 108, 108, 101, 116, 105, 110]) (.s (32 :: itoa b.n)) = some (.s _) := bin_sadd (by simp only [List.length_cons, List.length_nil]; omega)
  generalize hX1 : [98, 117, 108, 108, 101, 116, 105, 110] ++ (32 :: itoa b.n) = X1 at b1 hhead
  have lX1 : X1.length ≤ 30 := by rw [← hX1]; simp only [List.length_append, List.length_cons, List.length_nil]; omega
  have b2 : binV .add (.s X1) (.s (32 :: itoa b.at')) = some (.s _) := bin_sadd (by simp only [List.length_cons, List.length_nil]; omega)
  generalize hX2 : X1 ++ (32 :: itoa b.at') = X2 at b2 hhead
  have lX2 : X2.length ≤ 52 := by rw [← hX2]; simp only [List.length_append, List.length_cons, List.length_nil]; omega
  have b3 : binV .add (.s X2) (.s (32 :: itoa b.by')) = some (.s _) := bin_sadd (by simp only [List.length_cons, List.length_nil]; omega)
  generalize hX3 : X2 ++ (32 :: itoa b.by') = X3 at b3 hhead
  have lX3 : X3.length ≤ 74 := by rw [← hX3]; simp only [List.length_append, List.length_cons, List.length_nil]; omega
  have b4 : binV .add (.s X3) (.s (32 :: itoa (b.kind : Int))) = some (.s _) := bin_sadd (by simp only [List.length_cons, List.length_nil]; omega)
  generalize hX4 : X3 ++ (32 :: itoa (b.kind : Int)) = X4 at b4 hhead
  have lX4 : X4.length ≤ 96 := by rw [← hX4]; simp only [List.length_append, List.length_cons, List.length_nil]; omega
  have b5 : binV .add (.s X4) (.s (32 :: itoa (hidN b))) = some (.s _) := bin_sadd (by simp only [List.length_cons, List.length_nil]; omega)
  generalize hX5 : X4 ++ (32 :: itoa (hidN b)) = X5 at b5 hhead
  have lX5 : X5.length ≤ 118 := by rw [← hX5]; simp only [List.length_append, List.length_cons, List.length_nil]; omega
  have b6 : binV .add (.s X5) (.s (32 :: itoa b.salt)) = some (.s _) := bin_sadd (by simp only [List.length_cons, List.length_nil]; omega)
  generalize hX6 : X5 ++ (32 :: itoa b.salt) = X6 at b6 hhead
  have lX6 : X6.length ≤ 140 := by rw [← hX6]; simp only [List.length_append, List.length_cons, List.length_nil]; omega
  have b7 : binV .add (.s X6) (.s (32 :: itoa (b.body.length : Int))) = some (.s _) := bin_sadd (by simp only [List.length_cons, List.length_nil]; omega)
  generalize hX7 : X6 ++ (32 :: itoa (b.body.length : Int)) = X7 at b7 hhead
  have lX7 : X7.length ≤ 162 := by rw [← hX7]; simp only [List.length_append, List.length_cons, List.length_nil]; omega
  have b8 : binV .add (.s X7) (.s [10]) = some (.s _) := bin_sadd (by simp only [List.length_cons, List.length_nil]; omega)
  generalize hX8 : X7 ++ [10] = X8 at b8 hhead
  have lX8 : X8.length ≤ 163 := by rw [← hX8]; simp only [List.length_append, List.length_cons, List.length_nil]; omega
  have htx2 : X8 ++ [115, 101, 97, 108, 32] ++ hexT b.dig ++ [10, 112, 114, 101, 118, 32] ++ hexT b.prev ++ [10] ++ b.body = b.text := by
    rw [hhead, ← htx]
    simp
  clear hhead htx hX1 hX2 hX3 hX4 hX5 hX6 hX7 hX8
  cases c5 : b.hid
  case' false => simp only [go_sem, ↓reduceIte, r6_2, r6_4, r6_5, l4, c5]
  case' true => simp only [go_sem, ↓reduceIte, r6_2, r6_4, r6_5, r6_6, l4, c5]
  all_goals
    refine WD_gen (fun t => t.length = 58 ∧ nth t 1 = .p h.next 0 ∧ nth t 5 = .i .i64 (hidN b)) ?_ ?_
    · simp only [go_sem, ↓reduceIte, hidN, c5, Bool.false_eq_true]
    rintro t ⟨tl, t1, t5⟩
    simp only [go_sem, ↓reduceIte, r6_7, tl, t1, t5, l0, l1, l2, l3, l5, l6, hk, fn_num htb i0, fn_num htb i1, fn_num htb i2, fn_num htb i3, fn_num htb i4, fn_num htb i5, fn_num htb i6, b1, b2, b3, b4, b5, b6, b7, b8, old_bare, H.back_bare, List.cons_append, List.nil_append]
    refine ⟨rfl, ?_⟩
    refine WD_gen (fun t => t.length = 58 ∧ nth t 1 = .p h.next 0 ∧ nth t 6 = .s X8) ?_ ?_
    · exact ⟨by simp only [go_sem, ↓reduceIte, tl], by simp only [go_sem, ↓reduceIte, tl, t1], by simp only [go_sem, ↓reduceIte, tl]⟩
    clear t1 t5 tl t
    rintro t ⟨tl, t1, t6⟩
    have d7 := bl7 g2 hb
    have c1 : binV .add (.s X8) (.s [115, 101, 97, 108, 32]) = some (.s _) := bin_sadd (by simp only [List.length_cons, List.length_nil]; omega)
    generalize hB : X8 ++ [115, 101, 97, 108, 32] = B at c1 htx2
    have lB : B.length ≤ 180 := by subst hB; simp only [List.length_append, List.length_cons, List.length_nil]; omega
    simp only [go_sem, ↓reduceIte, r6_8, tl, t1, t6, c1, d7, old_bare, H.back_bare, List.cons_append, List.nil_append]
    refine (fn_Hex hb.dig hb.digB).mono ?_
    rintro u h5 ⟨rfl, e6⟩
    have ho5 := e6.old
    have e6' := e6.back
    rw [Kdrw_eq, ho5]
    generalize h2.back h5 = h6 at e6'
    have g6 := e6'.get n2 g2
    have d39 := bl39 g6 hb
    have hd1 := hexT_len b.dig
    rw [hb.dig] at hd1
    have b3 : binV .add (.s B) (.s (hexT b.dig)) = some (.s _) := bin_sadd (by omega)
    generalize hC : B ++ hexT b.dig = C at b3 htx2
    have lC : C.length ≤ 244 := by subst hC; simp only [List.length_append]; omega
    have b4 : binV .add (.s C) (.s [10, 112, 114, 101, 118, 32]) = some (.s _) := bin_sadd (by simp only [List.length_cons, List.length_nil]; omega)
    generalize hD : C ++ [10, 112, 114, 101, 118, 32] = D at b4 htx2
    have lD : D.length ≤ 250 := by subst hD; simp only [List.length_append, List.length_cons, List.length_nil]; omega
    simp only [go_sem, ↓reduceIte, tl, t1, b3, b4, d39, old_bare, H.back_bare, List.cons_append, List.nil_append]
    refine (fn_Hex hb.prev hb.prevB).mono ?_
    rintro u h7 ⟨rfl, e8⟩
    have ho7 := e8.old
    have e8' := e8.back
    rw [Kdrw_eq, ho7]
    generalize h6.back h7 = h8 at e8'
    have g8 := e8'.get (Nat.lt_of_lt_of_le n2 e6'.nx) g6
    have l58 := bl5 g8
    have hd2 := hexT_len b.prev
    rw [hb.prev] at hd2
    have b5 : binV .add (.s D) (.s (hexT b.prev)) = some (.s _) := bin_sadd (by omega)
    generalize hE : D ++ hexT b.prev = E at b5 htx2
    have lE : E.length ≤ 314 := by subst hE; simp only [List.length_append]; omega
    have b6 : binV .add (.s E) (.s [10]) = some (.s _) := bin_sadd (by simp only [List.length_cons, List.length_nil]; omega)
    generalize hF : E ++ [10] = F at b6 htx2
    have lF : F.length ≤ 315 := by subst hF; simp only [List.length_append, List.length_cons, List.length_nil]; omega
    have b7 : binV .add (.s F) (.s b.body) = some (.s _) := bin_sadd (by omega)
    rw [htx2] at b7
    simp only [go_sem, ↓reduceIte, tl, t1, b5, b6, b7, l58, old_bare, H.back_bare, List.cons_append, List.nil_append]
    exact ⟨rfl, e02.trans (e6'.trans e8')⟩
end
end Go.Air
set_option maxRecDepth 100000
namespace Go.Air
open Go.Air.Try
def getV (s : List Nat) : V := match readB s with
  | some b => .tup [.agg b.cells, .i .i64 0]
  | none => .tup [.agg zeroB.cells, .i .i64 4]
section
variable {h : H}
theorem t75 : tb1 7 = some a7 := by kernel_rfl
theorem fn_Get (ht : Tb4 h) (hu : TbU h) {s : List Nat} (hs : s.length ≤ 1000000) (hsb : ∀ c ∈ s, c < 256) : WC tb1 (.fn 7 [] []) [.s s] h fun u h' => u = getV s ∧ Ext h h' := by
  refine (WC_in t75).2 ?_
  have hzc : [V.i .i64 0, .i .i64 0, .i .i64 0] ++ [.i .u8 0] ++ [.b false] ++ [.s []] ++ [.i .i64 0] ++ List.replicate 64 (.i .u8 0) = zc := rfl
  simp only [hzc, go_sem, ↓reduceIte, r7_0, r7_1, r7_2]
  have hn1 : (h.new (.cells zc)).next = h.next + 1 := rfl
  generalize hh2 : (h.new (.cells zc)).new (.cells zc) = h2
  have n2 : h2.next = h.next + 2 := by subst hh2; rfl
  have e2 : Ext h h2 := by subst hh2; exact ((Ext.refl h).new _).new _
  have ga2 : h2.get (h.next + 1) = some (.cells zc) := by subst hh2; exact get_new_eq rfl
  have gr2 : h2.get h.next = some (.cells zc) := by subst hh2; rw [get_new_lt (by simp), get_new_eq rfl]
  generalize hhS : (h2.new (.cells [.b false])).new (.cells [.s s]) = hS
  have nS : hS.next = h.next + 4 := by subst hhS; show h2.next + 2 = _; omega
  have eS : Ext h2 hS := by subst hhS; exact ((Ext.refl h2).new _).new _
  have gS1 : hS.get (h2.next + 1) = some (.cells [.s s]) := by subst hhS; exact get_new_eq rfl
  have gS0 : hS.get h2.next = some (.cells [.b false]) := by subst hhS; rw [get_new_lt (by simp), get_new_eq rfl]
  have B : B91 h hS (h2.next + 1) (h.next + 1) := ⟨by omega, by omega, by omega, by omega, by omega⟩
  have hr := fn_144 ht hu (e2.trans eS) B gS1 (eS.get (by omega) ga2) hs hsb
  have kp : ∀ h', Keeps hS h' (h2.next + 1) (h.next + 1) → h'.get h2.next = some (.cells [.b false]) ∧ h2.next < h'.next := fun h' k => ⟨(k.2 _ (by omega) (by omega) (by omega)).trans gS0, by have := k.1; omega⟩
  rw [← hhS] at hr
  have key := fn_tried hr (fun u h' q => by rw [hhS] at q; exact kp h' q.2.2.1) (fun u h' q => by rw [hhS] at q; exact ⟨q.1, kp h' q.2.2.1⟩)
  rw [hhS] at key
  rw [hn1]
  refine key.mono ?_
  have zl : zc.length = 71 := rfl
  have zo : ∀ u ∈ zc, u.oneCell = true := cells_one zeroB
  have hf : ∀ t : List V, fill t zc [] = some zc := fun _ => rfl
  rintro u h3 (⟨rfl, v, h1, ⟨_, x1, k1, b, hb, gb⟩, c⟩ | ⟨rfl, v, h1, ⟨_, x1, k1, hb⟩, c⟩)
  · have hla : h.next + 1 < h1.next := by have := k1.1; omega
    have ga3 : h3.get (h.next + 1) = some (.cells b.cells) := (c.same _ hla (by omega)).trans gb
    have gr3 : h3.get h.next = some (.cells zc) := (c.same _ (by omega) (by omega)).trans ((k1.2 _ (by omega) (by omega) (by omega)).trans (eS.get (by omega) gr2))
    have e3 : Ext h h3 := c.ext x1 (by omega)
    have n3 : h.next + 1 < h3.next := Nat.lt_of_lt_of_le hla c.nx
    have ok := bulOf_ok hsb hb
    have ln := bl71 ga3 ok
    simp only [go_sem, ↓reduceIte, r7_3, ln, Bool.not_true]
    refine (fn_formed (ht.ext e3) ok).mono ?_
    rintro u h4 ⟨rfl, e4⟩
    have gr4 := e4.get (by omega) gr3
    have ga4 := e4.get n3 ga3
    have ln4 := bl71 ga4 ok
    cases hfm : b.formed
    · have hrd : getV s = .tup [.agg zeroB.cells, .i .i64 4] := by unfold getV readB; rw [hb]; simp only [hfm]; rfl
      have st := blk_stn (k := 71) (d := zc) gr4 zl zl zo
      simp only [go_sem, ↓reduceIte, r7_4, hzc, hf, st]
      rw [res_cell2 (n := 2) (k := 71) (b := h.next) (cs := zc) (by simp only [go_sem, ↓reduceIte]) get_put_eq zl]
      simp only [go_sem, ↓reduceIte]
      exact ⟨hrd.symm, (e3.trans e4).put (Nat.le_refl _) _⟩
    · have hrd : getV s = .tup [.agg b.cells, .i .i64 0] := by unfold getV readB; rw [hb]; simp only [hfm, if_true]
      have st := blk_stn (k := 71) (d := b.cells) gr4 zl (cells_len ok) (cells_one b)
      simp only [go_sem, ↓reduceIte, r7_5, ln4, st]
      rw [res_cell2 (n := 2) (k := 71) (b := h.next) (cs := b.cells) (by simp only [go_sem, ↓reduceIte]) get_put_eq (cells_len ok)]
      simp only [go_sem, ↓reduceIte]
      exact ⟨hrd.symm, (e3.trans e4).put (Nat.le_refl _) _⟩
  · have gr3 : h3.get h.next = some (.cells zc) := (c.same _ (by have := k1.1; omega) (by omega)).trans ((k1.2 _ (by omega) (by omega) (by omega)).trans (eS.get (by omega) gr2))
    have e3 : Ext h h3 := c.ext x1 (by omega)
    have hrd : getV s = .tup [.agg zeroB.cells, .i .i64 4] := by unfold getV readB; rw [hb]
    have st := blk_stn (k := 71) (d := zc) gr3 zl zl zo
    simp only [go_sem, ↓reduceIte, r7_3, r7_4, hzc, hf, st, Bool.not_false]
    rw [res_cell2 (n := 2) (k := 71) (b := h.next) (cs := zc) (by simp only [go_sem, ↓reduceIte]) get_put_eq zl]
    simp only [go_sem, ↓reduceIte]
    exact ⟨hrd.symm, e3.put (Nat.le_refl _) _⟩
end
end Go.Air
set_option maxRecDepth 100000
namespace Go.Air
open Go.Air.Try
theorem splitL_mem2 (c : Nat) : ∀ {l w : List Nat}, w ∈ splitL c l → w.length ≤ l.length ∧ ∀ x ∈ w, x ∈ l
  | [], w, h => by
    simp [splitL] at h
    subst h
    simp
  | x :: l, w, h => by
    rw [splitL] at h
    split at h
    · rcases List.mem_cons.1 h with rfl | h
      · simp
      · have := splitL_mem2 c h
        exact ⟨by simp; omega, fun y hy => by simp [this.2 y hy]⟩
    · split at h
      · simp at h; subst h; simp
      · rename_i v vs hs
        rcases List.mem_cons.1 h with rfl | h
        · have := splitL_mem2 c (l := l) (w := v) (by rw [hs]; simp)
          refine ⟨by simp; omega, fun y hy => ?_⟩
          rcases List.mem_cons.1 hy with rfl | hy
          · simp
          · simp [this.2 y hy]
        · have := splitL_mem2 c (l := l) (w := w) (by rw [hs]; simp [h])
          exact ⟨by simp; omega, fun y hy => by simp [this.2 y hy]⟩
theorem lineL_parts (s : List Nat) : ((lineL s).1.length ≤ s.length ∧ (lineL s).2.length ≤ s.length) ∧ (∀ c ∈ (lineL s).1, c ∈ s) ∧ ∀ c ∈ (lineL s).2, c ∈ s := by
  unfold lineL
  split
  · rename_i p hp
    obtain ⟨x, y⟩ := p
    obtain ⟨rfl, _⟩ := cutL_some hp
    exact ⟨⟨by simp, by simp; omega⟩, fun c hc => by simp [show c ∈ x from hc], fun c hc => by simp [show c ∈ y from hc]⟩
  · exact ⟨⟨by simp, by simp⟩, fun c hc => hc, fun c hc => by simp at hc⟩
structure L76 (h hh : H) (s' : List Nat) (b : Bul) : Prop where
  ext : Ext h hh
  z : hh.get h.next = some (.cells zc)
  gr : hh.get (h.next + 1) = some (.cells [.s s'])
  ga : hh.get (h.next + 2) = some (.cells b.cells)
  nx : h.next + 2 < hh.next
  dl : b.dig.length = 32
  pl : b.prev.length = 32
section
variable {h hh h' : H} {s' : List Nat} {b : Bul}
theorem L76.cl (q : L76 h hh s' b) : b.cells.length = 71 := by simp [Bul.cells, Bul.head, q.dl, q.pl]
theorem L76.step (q : L76 h hh s' b) (e : Ext hh h') : L76 h h' s' b :=
  ⟨q.ext.trans e, e.get (by have := q.nx; omega) q.z, e.get (by have := q.nx; omega) q.gr, e.get q.nx q.ga, Nat.lt_of_lt_of_le q.nx e.nx, q.dl, q.pl⟩
theorem L76.line (q : L76 h hh s' b) (r : List Nat) : L76 h (hh.put (h.next + 1) (.cells [.s r])) r b :=
  ⟨q.ext.put (by omega) _, by rw [get_put_ne (by omega)]; exact q.z, get_put_eq, by rw [get_put_ne (by omega)]; exact q.ga, q.nx, q.dl, q.pl⟩
theorem L76.put (q : L76 h hh s' b) (b' : Bul) (hd : b'.dig.length = 32) (hp : b'.prev.length = 32) : L76 h (hh.put (h.next + 2) (.cells b'.cells)) s' b' :=
  ⟨q.ext.put (by omega) _, by rw [get_put_ne (by omega)]; exact q.z, by rw [get_put_ne (by omega)]; exact q.gr, get_put_eq, q.nx, hd, hp⟩
theorem L76.st (q : L76 h hh s' b) {i : Nat} {x : V} (b' : Bul) (hi : i < 71) (hx : x.cells = [x]) (ho : x.oneCell = true) (hc : b.cells.set i x = b'.cells) (hd : b'.dig.length = 32) (hp : b'.prev.length = 32) :
    ∃ h', stV hh 1 (.p (h.next + 2) i) x = some h' ∧ L76 h h' s' b' ∧ (∀ k, k ≠ h.next + 2 → h'.get k = hh.get k) ∧ h'.next = hh.next := by
  have := blk_st (i := i) (x := x) q.ga (by rw [q.cl]; exact hi) hx ho
  rw [hc] at this
  exact ⟨_, this, q.put b' hd hp, fun _ hk => get_put_ne hk, rfl⟩
end
section
variable {h : H}
theorem t76 : tb1 8 = some a8 := by kernel_rfl
theorem fn_rGet (ht : Tb4 h) {s : List Nat} (hs : s.length ≤ 1000000) (hsb : ∀ c ∈ s, c < 256) : WC tb1 (.fn 8 [] []) [.s s] h fun u h' => u = getV s ∧ Ext h h' := by
  refine (WC_in t76).2 ?_
  have hzc : [V.i .i64 0, .i .i64 0, .i .i64 0] ++ [.i .u8 0] ++ [.b false] ++ [.s []] ++ [.i .i64 0] ++ List.replicate 64 (.i .u8 0) = zc := rfl
  have f1 : fill1 (.s s) = some [.s s] := rfl
  have hc1 : (V.agg [.s s]).cells = [.s s] := rfl
  have hf : ∀ t : List V, fill t zc [] = some zc := fun _ => rfl
  have zl : zc.length = 71 := rfl
  have zo : ∀ u ∈ zc, u.oneCell = true := cells_one zeroB
  simp only [hzc, go_sem, ↓reduceIte, r8_0, r8_1, r8_2, f1, hc1]
  have n1 : (h.new (.cells zc)).next = h.next + 1 := rfl
  have n2 : ((h.new (.cells zc)).new (.cells [.s s])).next = h.next + 2 := rfl
  simp only [n1, n2]
  generalize hh3 : ((h.new (.cells zc)).new (.cells [.s s])).new (.cells zc) = h3
  have L3 : L76 h h3 s zeroB := by
    subst hh3
    exact ⟨(((Ext.refl h).new _).new _).new _, by rw [get_new_lt (by simp; omega), get_new_lt (by simp), get_new_eq rfl], by rw [get_new_lt (by simp)]; exact get_new_eq rfl, get_new_eq rfl, Nat.lt_succ_self _, rfl, rfl⟩
  have hn3 := L3.nx
  simp only [go_sem, ↓reduceIte, r8_3]
  refine (fn_rline (by omega) L3.gr hs).mono ?_
  rintro u h4 ⟨rfl, rfl⟩
  have L4 := L3.line (lineL s).2
  obtain ⟨⟨pl1, pl2⟩, pm1, pm2⟩ := lineL_parts s
  have hlo : looseB s = ⟨atN (splitL 32 (lineL s).1) 1, atN (splitL 32 (lineL s).1) 2, atN (splitL 32 (lineL s).1) 3, (atN (splitL 32 (lineL s).1) 4).toNat, decide (atN (splitL 32 (lineL s).1) 5 = 1), (lineL (lineL (lineL s).2).2).2, atN (splitL 32 (lineL s).1) 6, hashN (splitL 32 (lineL (lineL s).2).1), hashN (splitL 32 (lineL (lineL (lineL s).2).2).1)⟩ := rfl
  have hlaw := looseB_law hsb hs
  have hok := looseB_ok hsb hs
  have hn4 : (h3.put (h.next + 1) (.cells [.s (lineL s).2])).next = h3.next := rfl
  generalize h3.put (h.next + 1) (.cells [.s (lineL s).2]) = h4 at L4 hn4
  simp only [go_sem, ↓reduceIte]
  refine (fn_words (l := (lineL s).1) (by omega)).mono ?_
  rintro u h5 ⟨e5, O⟩
  have L5 := L4.step e5
  have hwl : ∀ w ∈ splitL 32 (lineL s).1, w.length ≤ 100000000 := fun w hw => by have := (splitL_mem2 32 hw).1; omega
  have hub : u = .sn ∨ h4.next ≤ blkV u := by
    obtain ⟨_, ⟨_, rfl⟩ | ⟨b, g, rfl, _, hb, _⟩⟩ := O
    · exact .inl rfl
    · exact .inr hb
  have kb : ∀ n : Nat, 0 ≤ atN (splitL 32 (lineL s).1) n ∧ atN (splitL 32 (lineL s).1) n ≤ 10000000000000000 := fun n => atN_bound _ n
  generalize splitL 32 (lineL s).1 = ws at O hwl hlo kb
  generalize hr1 : (lineL s).2 = s1 at L4 L5 pl2 pm2 hlo
  have keep : ∀ {hh hz : H}, Own h4 1 hh u ws.length (ws.map V.s) → h4.next ≤ hh.next → (∀ k, k ≠ h.next + 2 → hz.get k = hh.get k) → hz.next = hh.next → Own h4 1 hz u ws.length (ws.map V.s) := by
    intro hh hz o hle hk hn
    refine o.keep (by omega) fun hb => hk _ ?_
    obtain ⟨_, ⟨_, rfl⟩ | ⟨b, g, rfl, _, hb2, _⟩⟩ := o
    · have : blkV .sn = 0 := rfl
      omega
    · have : blkV (V.sl b 0 ws.length ws.length g) = b := rfl
      omega
  have n5 := e5.nx
  obtain ⟨x1, s1', M1, k1, m1⟩ := L5.st (i := 0) (x := .i .i64 (atN ws 1)) { zeroB with n := atN ws 1 } (by omega) rfl rfl rfl rfl rfl
  have O1 := keep O n5 k1 m1
  obtain ⟨x2, s2', M2, k2, m2⟩ := M1.st (i := 1) (x := .i .i64 (atN ws 2)) { zeroB with n := atN ws 1, at' := atN ws 2 } (by omega) rfl rfl rfl rfl rfl
  have O2 := keep O1 (by omega) k2 m2
  obtain ⟨x3, s3', M3, k3, m3⟩ := M2.st (i := 2) (x := .i .i64 (atN ws 3)) { zeroB with n := atN ws 1, at' := atN ws 2, by' := atN ws 3 } (by omega) rfl rfl rfl rfl rfl
  have O3 := keep O2 (by omega) k3 m3
  obtain ⟨x4, s4', M4, k4, m4⟩ := M3.st (i := 4) (x := .b (decide (atN ws 5 = 1))) { zeroB with n := atN ws 1, at' := atN ws 2, by' := atN ws 3, hid := decide (atN ws 5 = 1) } (by omega) rfl rfl rfl rfl rfl
  have O4 := keep O3 (by omega) k4 m4
  obtain ⟨x5, s5', M5, k5, m5⟩ := M4.st (i := 6) (x := .i .i64 (atN ws 6)) { zeroB with n := atN ws 1, at' := atN ws 2, by' := atN ws 3, hid := decide (atN ws 5 = 1), salt := atN ws 6 } (by omega) rfl rfl rfl rfl rfl
  simp only [go_sem, ↓reduceIte, r8_4, r8_5, r8_6, r8_7, r8_8, r8_9, fn_at (n := 1) (k := 1) O.sl hwl rfl, fn_at (n := 2) (k := 2) O1.sl hwl rfl, fn_at (n := 3) (k := 3) O2.sl hwl rfl, fn_at (n := 4) (k := 4) O3.sl hwl rfl, fn_at (n := 5) (k := 5) O3.sl hwl rfl, fn_at (n := 6) (k := 6) O4.sl hwl rfl, s1', s2', s3', s4', s5']
  refine WL_gen (fun t => t.length = 69 ∧ nth t 0 = .s s ∧ nth t 2 = .p h.next 0 ∧ nth t 4 = .p (h.next + 1) 0 ∧ nth t 5 = .p (h.next + 2) 0 ∧ nth t 7 = .i .i64 (atN ws 4)) (by simp only [go_sem, ↓reduceIte]) ?_
  rintro t ⟨tl, t0, t2, t4, t5, t7⟩
  have k40 := kb 4
  by_cases c7 : 7 < atN ws 4
  · have hrd : getV s = .tup [.agg zeroB.cells, .i .i64 4] := by
      unfold getV
      rw [hlaw, if_neg]
      rintro ⟨h1, _⟩
      rw [hlo] at h1
      have h1 : (atN ws 4).toNat ≤ 7 := h1
      omega
    have st := blk_stn (k := 71) (d := zc) M5.z zl zl zo
    simp only [go_sem, ↓reduceIte, r8_10, r8_11, tl, t0, t2, t4, t5, t7, c7, hzc, hf, st]
    rw [res_cell2 (n := 2) (k := 71) (b := h.next) (cs := zc) (by simp only [go_sem, ↓reduceIte, tl, t2]) get_put_eq zl]
    simp only [go_sem, ↓reduceIte, tl]
    exact ⟨hrd.symm, M5.ext.put (Nat.le_refl _) _⟩
  have hcv : convV .u8 (.i .i64 (atN ws 4)) = some (.i .u8 (((atN ws 4).toNat : Nat) : Int)) := by
    simp only [convV]
    rw [wrap_u8, Int.emod_eq_of_lt (by omega) (by omega), Int.toNat_of_nonneg (by omega)]
  obtain ⟨x6, s6', M6, k6, m6⟩ := M5.st (i := 3) (x := .i .u8 (((atN ws 4).toNat : Nat) : Int)) { zeroB with n := atN ws 1, at' := atN ws 2, by' := atN ws 3, kind := (atN ws 4).toNat, hid := decide (atN ws 5 = 1), salt := atN ws 6 } (by omega) rfl rfl rfl rfl rfl
  have hn6 := M6.nx
  simp only [go_sem, ↓reduceIte, r8_10, r8_12, r8_13, tl, t0, t2, t4, t5, t7, c7, hcv, s6']
  refine (fn_rline (by omega) M6.gr (by omega)).mono ?_
  rintro u7 h7 ⟨rfl, rfl⟩
  have L7 := M6.line (lineL s1).2
  obtain ⟨⟨ql1, ql2⟩, qm1, qm2⟩ := lineL_parts s1
  generalize x6.put (h.next + 1) (.cells [.s (lineL s1).2]) = h7 at L7
  simp only [go_sem, ↓reduceIte, tl]
  refine (fn_words (l := (lineL s1).1) (by omega)).mono ?_
  rintro u8' h8 ⟨e8, O8⟩
  have L8 := L7.step e8
  have hl8 := splitL_len 32 (lineL s1).1
  simp only [go_sem, ↓reduceIte, tl]
  refine (fn_rhash O8.sl (by omega) (fun w hw => by have := (splitL_mem2 32 hw).1; omega) (fun w hw c hc => hsb c (pm2 c (qm1 c ((splitL_mem2 32 hw).2 c hc))))).mono ?_
  rintro u9 h9 ⟨rfl, e9⟩
  have L9 := L8.step e9
  have hd1 := (hashN_len (splitL 32 (lineL s1).1)).1
  generalize hashN (splitL 32 (lineL s1).1) = d at hd1 hlo
  have st9 := bst7 L9.ga L9.dl L9.pl hd1
  have L10 := L9.put (b' := { zeroB with n := atN ws 1, at' := atN ws 2, by' := atN ws 3, kind := (atN ws 4).toNat, hid := decide (atN ws 5 = 1), salt := atN ws 6, dig := d }) hd1 rfl
  generalize hr2 : (lineL s1).2 = s2 at L7 L8 L9 L10 ql2 qm2 hlo
  have hn10 := L10.nx
  simp only [go_sem, ↓reduceIte, r8_14, tl, t0, t2, t4, t5, st9]
  refine (fn_rline (by omega) L10.gr (by omega)).mono ?_
  rintro u11 h11 ⟨rfl, rfl⟩
  have L11 := L10.line (lineL s2).2
  obtain ⟨⟨rl1, rl2⟩, rm1, rm2⟩ := lineL_parts s2
  generalize H.put _ (h.next + 1) (.cells [.s (lineL s2).2]) = h11 at L11
  simp only [go_sem, ↓reduceIte, tl]
  refine (fn_words (l := (lineL s2).1) (by omega)).mono ?_
  rintro u12 h12 ⟨e12, O12⟩
  have L12 := L11.step e12
  have hl12 := splitL_len 32 (lineL s2).1
  simp only [go_sem, ↓reduceIte, tl]
  refine (fn_rhash O12.sl (by omega) (fun w hw => by have := (splitL_mem2 32 hw).1; omega) (fun w hw c hc => hsb c (pm2 c (qm2 c (rm1 c ((splitL_mem2 32 hw).2 c hc)))))).mono ?_
  rintro u13 h13 ⟨rfl, e13⟩
  have L13 := L12.step e13
  have hp1 := (hashN_len (splitL 32 (lineL s2).1)).1
  generalize hashN (splitL 32 (lineL s2).1) = p at hp1 hlo
  have st13 := bst39 L13.ga L13.dl L13.pl hp1
  have L14 := L13.put (b' := { zeroB with n := atN ws 1, at' := atN ws 2, by' := atN ws 3, kind := (atN ws 4).toNat, hid := decide (atN ws 5 = 1), salt := atN ws 6, dig := d, prev := p }) hd1 hp1
  generalize (lineL s2).2 = s3 at L11 L12 L13 L14 rl2 rm2 hlo
  simp only [go_sem, ↓reduceIte, r8_15, tl, t0, t2, t4, t5, st13]
  generalize H.put _ (h.next + 2) (.cells _) = h14 at L14
  have ld14 : ldV h14 (.p (h.next + 1) 0) = some (.s s3) := blk_ld (i := 0) L14.gr rfl
  obtain ⟨x15, s15', M15, k15, m15⟩ := L14.st (i := 5) (x := .s s3) (looseB s) (by omega) rfl rfl (by rw [hlo]; rfl) (by rw [hlo]; exact hd1) (by rw [hlo]; exact hp1)
  have hkd : (looseB s).kind ≤ 7 := by
    rw [hlo]
    show (atN ws 4).toNat ≤ 7
    omega
  have ok := hok hkd
  have ln15 := bl71 M15.ga ok
  have hbl : (looseB s).body.length ≤ 1000000 := by
    rw [hlo]
    show s3.length ≤ _
    omega
  simp only [go_sem, ↓reduceIte, r8_16, tl, t0, t2, t4, t5, ld14, s15', ln15]
  generalize hLB : looseB s = lb at M15 hkd ok ln15 hbl hlaw
  refine (fn_rPut (ht.ext M15.ext) ok hbl).mono ?_
  rintro u16 h16 ⟨rfl, e16⟩
  have L16 := M15.step e16
  have ln16 := bl71 L16.ga ok
  have stz := blk_stn (k := 71) (d := zc) L16.z zl zl zo
  have stb := blk_stn (k := 71) (d := lb.cells) L16.z zl (cells_len ok) (cells_one lb)
  have bad : ¬ (lb.formed = true ∧ lb.text = s) → getV s = .tup [.agg zeroB.cells, .i .i64 4] := by
    intro hno
    unfold getV
    rw [hlaw, if_neg]
    rintro ⟨_, h2⟩
    exact hno h2
  unfold putB
  cases hfm : lb.formed
  · simp only [go_sem, ↓reduceIte, Bool.false_eq_true, r8_17, r8_18, tl, t0, t2, t4, t5, hzc, hf, stz]
    rw [res_cell2 (n := 2) (k := 71) (b := h.next) (cs := zc) (by simp only [go_sem, ↓reduceIte, tl, t2]) get_put_eq zl]
    simp only [go_sem, ↓reduceIte, tl]
    exact ⟨(bad (by rw [hfm]; simp)).symm, L16.ext.put (Nat.le_refl _) _⟩
  · by_cases htx : lb.text = s
    · have hrd : getV s = .tup [.agg lb.cells, .i .i64 0] := by
        unfold getV
        rw [hlaw, if_pos ⟨hkd, hfm, htx⟩]
      simp only [go_sem, ↓reduceIte, r8_17, r8_19, tl, t0, t2, t4, t5, bin_sne, htx, ln16, stb]
      rw [res_cell2 (n := 2) (k := 71) (b := h.next) (cs := lb.cells) (by simp only [go_sem, ↓reduceIte, tl, t2]) get_put_eq (cells_len ok)]
      simp only [go_sem, ↓reduceIte, tl]
      exact ⟨hrd.symm, L16.ext.put (Nat.le_refl _) _⟩
    · simp only [go_sem, ↓reduceIte, r8_17, r8_18, tl, t0, t2, t4, t5, bin_sne, htx, hzc, hf, stz]
      rw [res_cell2 (n := 2) (k := 71) (b := h.next) (cs := zc) (by simp only [go_sem, ↓reduceIte, tl, t2]) get_put_eq zl]
      simp only [go_sem, ↓reduceIte, tl]
      exact ⟨(bad (fun q => htx q.2)).symm, L16.ext.put (Nat.le_refl _) _⟩
end
end Go.Air
set_option maxRecDepth 100000
namespace Go.Air
open Go.Air.Try
theorem fitL_app : ∀ {k1 k2 : List KT} {c1 c2 : List V}, fitL k1 c1 = true → fitL k2 c2 = true → fitL (k1 ++ k2) (c1 ++ c2) = true
  | [], k2, [], c2, _, h => h
  | [], _, _ :: _, _, h, _ => by cases h
  | _ :: _, _, [], _, h, _ => by cases h
  | k :: k1, k2, c :: c1, c2, h, h2 => by
    simp only [fitL, Bool.and_eq_true] at h
    show (k.fits c && fitL (k1 ++ k2) (c1 ++ c2)) = true
    rw [h.1, fitL_app h.2 h2]; rfl
theorem cellsEq_app : ∀ {a1 a2 c1 c2 : List V}, a1.length = c1.length → cellsEq (a1 ++ a2) (c1 ++ c2) = (cellsEq a1 c1 && cellsEq a2 c2)
  | [], _, [], _, _ => by simp [cellsEq]
  | [], _, _ :: _, _, h => by cases h
  | _ :: _, _, [], _, h => by cases h
  | x :: a1, a2, y :: c1, c2, h => by
    show (scalarEq x y && cellsEq (a1 ++ a2) (c1 ++ c2)) = (scalarEq x y && cellsEq a1 c1 && cellsEq a2 c2)
    rw [cellsEq_app (by simpa using h), Bool.and_assoc]
def ksB : List KT := [.i .i64, .i .i64, .i .i64, .i .u8, .b, .s, .i .i64, .i .u8, .i .u8, .i .u8, .i .u8, .i .u8, .i .u8, .i .u8, .i .u8, .i .u8, .i .u8, .i .u8, .i .u8, .i .u8, .i .u8, .i .u8, .i .u8, .i .u8, .i .u8, .i .u8, .i .u8, .i .u8, .i .u8, .i .u8, .i .u8, .i .u8, .i .u8, .i .u8, .i .u8, .i .u8, .i .u8, .i .u8, .i .u8, .i .u8, .i .u8, .i .u8, .i .u8, .i .u8, .i .u8, .i .u8, .i .u8, .i .u8, .i .u8, .i .u8, .i .u8, .i .u8, .i .u8, .i .u8, .i .u8, .i .u8, .i .u8, .i .u8, .i .u8, .i .u8, .i .u8, .i .u8, .i .u8, .i .u8, .i .u8, .i .u8, .i .u8, .i .u8, .i .u8, .i .u8, .i .u8]
theorem ksB_lit : EqK.agg [.i .i64, .i .i64, .i .i64, .i .u8, .b, .s, .i .i64, .i .u8, .i .u8, .i .u8, .i .u8, .i .u8, .i .u8, .i .u8, .i .u8, .i .u8, .i .u8, .i .u8, .i .u8, .i .u8, .i .u8, .i .u8, .i .u8, .i .u8, .i .u8, .i .u8, .i .u8, .i .u8, .i .u8, .i .u8, .i .u8, .i .u8, .i .u8, .i .u8, .i .u8, .i .u8, .i .u8, .i .u8, .i .u8, .i .u8, .i .u8, .i .u8, .i .u8, .i .u8, .i .u8, .i .u8, .i .u8, .i .u8, .i .u8, .i .u8, .i .u8, .i .u8, .i .u8, .i .u8, .i .u8, .i .u8, .i .u8, .i .u8, .i .u8, .i .u8, .i .u8, .i .u8, .i .u8, .i .u8, .i .u8, .i .u8, .i .u8, .i .u8, .i .u8, .i .u8, .i .u8] = .agg ksB := rfl
theorem ksB_eq : ksB = [.i .i64, .i .i64, .i .i64, .i .u8, .b, .s, .i .i64] ++ (List.replicate 32 (.i .u8) ++ List.replicate 32 (.i .u8)) := rfl
theorem fit_bul {b : Bul} (hb : b.Ok) : fitL ksB b.cells = true := by
  rw [ksB_eq]
  unfold Bul.cells
  refine fitL_app rfl (fitL_app ?_ ?_)
  · rw [← hb.dig]; exact fit_u8 _
  · rw [← hb.prev]; exact fit_u8 _
theorem eq_bul {b c : Bul} (hb : b.Ok) (hc : c.Ok) : eqV (.agg ksB) (.agg b.cells) (.agg c.cells) = some (decide (b = c)) := by
  simp only [eqV, fit_bul hb, fit_bul hc, Bool.and_self, if_true]
  congr 1
  unfold Bul.cells
  rw [cellsEq_app (a1 := b.head) (c1 := c.head) rfl, cellsEq_app (by simp [hb.dig, hc.dig]), cellsEq_u8, cellsEq_u8]
  obtain ⟨n, a, y, k, hd, bo, sa, di, pr⟩ := b
  obtain ⟨n', a', y', k', hd', bo', sa', di', pr'⟩ := c
  have hs : bytesEq bo bo' = decide (bo = bo') := by rw [Bool.eq_iff_iff, bytesEq_iff]; simp
  simp only [Bul.head, cellsEq, scalarEq, hs, Bool.and_true, Bul.mk.injEq]
  rw [Bool.eq_iff_iff]
  simp only [Bool.and_eq_true, decide_eq_true_eq, beq_iff_eq, Int.natCast_inj]
  constructor
  · rintro ⟨⟨h1, h2, h3, h4, h5, h6, h7⟩, h8, h9⟩; exact ⟨h1, h2, h3, h4, h5, h6, h7, h8, h9⟩
  · rintro ⟨h1, h2, h3, h4, h5, h6, h7, h8, h9⟩; exact ⟨⟨h1, h2, h3, h4, h5, h6, h7⟩, h8, h9⟩
end Go.Air
set_option maxRecDepth 100000
namespace Go.Air
open Go.Air.Try
def getB (s : List Nat) : Bul × Int := match readB s with
  | some b => (b, 0)
  | none => (zeroB, 4)
theorem getV_eq (s : List Nat) : getV s = .tup [.agg (getB s).1.cells, .i .i64 (getB s).2] := by
  unfold getV getB
  cases readB s <;> rfl
theorem getB_ok {s : List Nat} (hs : ∀ c ∈ s, c < 256) : (getB s).1.Ok := by
  unfold getB
  cases h : readB s with
  | none => exact zero_ok
  | some b => exact (readB_some hs h).2.2
theorem getB_err {s : List Nat} (hs : ∀ c ∈ s, c < 256) : ((getB s).2 = 0 ∧ (getB s).1.formed = true ∧ (getB s).1.text = s) ∨ (getB s).2 = 4 := by
  unfold getB
  cases h : readB s with
  | none => exact .inr rfl
  | some b =>
    obtain ⟨h1, h2, _⟩ := readB_some hs h
    exact .inl ⟨rfl, h2, h1.symm⟩
theorem getB_text {b : Bul} (ho : b.Ok) (hf : b.formed = true) : getB b.text = (b, 0) := by
  unfold getB
  rw [readB_text ho hf]
theorem textB_len {b : Bul} (ho : b.Ok) (hf : b.formed = true) : b.text.length ≤ 10000 := by
  obtain ⟨_, _, h3⟩ := formed_wr ho hf
  have h1 := nums_len b.nums
  have h4 := hexT_len b.dig
  have h5 := hexT_len b.prev
  have hn : b.nums.length = 7 := rfl
  rw [← text_eqB]
  rw [ho.dig] at h4
  rw [ho.prev] at h5
  simp only [List.length_append, List.length_cons, List.length_nil]
  omega
theorem textB_lt {b : Bul} (ho : b.Ok) : ∀ c ∈ b.text, c < 256 := by
  have hn : ∀ c ∈ numText b.nums, c < 256 := joinL_lt _ fun x hx => by
    obtain ⟨n, _, rfl⟩ := List.mem_map.1 hx
    exact itoa_lt n
  have h1 := hexT_lt ho.digB
  have h2 := hexT_lt ho.prevB
  have h3 := ho.body
  rw [← text_eqB]
  intro c hc
  simp only [List.mem_append, List.mem_cons, List.not_mem_nil, or_false] at hc
  rcases hc with ((((((hc | hc) | hc) | hc) | hc) | hc) | hc) | hc
  · omega
  · exact hn c hc
  · omega
  · exact h1 c hc
  · omega
  · exact h2 c hc
  · omega
  · exact h3 c hc
section
variable {h : H}
theorem t20 : tb1 3 = some a3 := by kernel_rfl
theorem law_texts (ht : Tb4 h) (hu : TbU h) {b : Bul} (hb : b.Ok) {s : List Nat} (hs : ∀ c ∈ s, c < 256) : WC tb1 (.fn 3 [] []) [.agg b.cells, .s s] h fun u h' => u = .b true ∧ Ext h h' := by
  refine (WC_in t20).2 ?_
  have hc : (V.agg b.cells).cells = b.cells := rfl
  have e1 : Ext h (h.new (.cells b.cells)) := (Ext.refl h).new _
  have g : (h.new (.cells b.cells)).get h.next = some (.cells b.cells) := get_new_eq rfl
  have n1 : (h.new (.cells b.cells)).next = h.next + 1 := rfl
  have hzc : [V.i .i64 0, .i .i64 0, .i .i64 0] ++ [.i .u8 0] ++ [.b false] ++ [.s []] ++ [.i .i64 0] ++ List.replicate 64 (.i .u8 0) = zc := rfl
  have zl : zc.length = 71 := rfl
  simp only [go_sem, ↓reduceIte, r3_0, hc]
  generalize h.new (.cells b.cells) = h1 at e1 g n1
  have l5 := bl5 g
  have ln := bl71 g hb
  by_cases c1 : (8000 : Int) < (b.body.length : Int)
  · simp only [go_sem, ↓reduceIte, r3_1, r3_2, l5, c1]
    exact e1
  by_cases c2 : (9000 : Int) < (s.length : Int)
  · simp only [go_sem, ↓reduceIte, r3_1, r3_2, l5, c1, c2]
    exact e1
  simp only [go_sem, ↓reduceIte, r3_1, r3_3, l5, c1, c2, ln]
  refine (fn_Put (ht.ext e1) hb (by omega)).mono ?_
  rintro u h2 ⟨rfl, e2⟩
  have g2 := e2.get (by omega) g
  have n2 : h.next < h2.next := by have := e2.nx; omega
  have e02 := e1.trans e2
  have ln2 := bl71 g2 hb
  obtain ⟨pt, pe, hput, hpe⟩ : ∃ (pt : List Nat) (pe : Int), putB b = .tup [.s pt, .i .i64 pe] ∧ ((pe = 0 ∧ b.formed = true ∧ pt = b.text) ∨ (pe = 1 ∧ b.formed = false)) := by
    unfold putB
    cases hg : b.formed
    · exact ⟨[], 1, rfl, .inr ⟨rfl, rfl⟩⟩
    · exact ⟨b.text, 0, rfl, .inl ⟨rfl, rfl, rfl⟩⟩
  simp only [go_sem, ↓reduceIte, r3_4, hput, ln2]
  refine (fn_rPut (ht.ext e02) hb (by omega)).mono ?_
  rintro u h3 ⟨rfl, e3⟩
  have e03 := e02.trans e3
  have g3 := e3.get n2 g2
  have n3 : h.next < h3.next := Nat.lt_of_lt_of_le n2 e3.nx
  simp only [go_sem, ↓reduceIte, r3_5, hput]
  refine (fn_Get (ht.ext e03) (hu.ext e03) (s := s) (by omega) hs).mono ?_
  rintro u h4 ⟨rfl, e4⟩
  have okr := getB_ok hs
  have her := getB_err hs
  rw [getV_eq]
  have hgv := getV_eq s
  generalize getB s = rr at okr her hgv
  obtain ⟨r, re⟩ := rr
  simp only at okr her hgv ⊢
  have s5 := blk_stn (h := h4.new (.cells zc)) (b := h4.next) (k := 71) (d := r.cells) (get_new_eq rfl) zl (cells_len okr) (cells_one r)
  have x5 : ((h4.new (.cells zc)).put h4.next (.cells r.cells)).get h4.next = some (.cells r.cells) := get_put_eq
  have e5 : Ext h4 ((h4.new (.cells zc)).put h4.next (.cells r.cells)) := ((Ext.refl h4).new _).put (Nat.le_refl _) _
  have n5 : h4.next < ((h4.new (.cells zc)).put h4.next (.cells r.cells)).next := Nat.lt_succ_self _
  simp only [go_sem, ↓reduceIte, hzc, s5]
  generalize (h4.new (.cells zc)).put h4.next (.cells r.cells) = h5 at x5 e5 n5
  have e05 := (e03.trans e4).trans e5
  simp only [go_sem, ↓reduceIte, r3_6]
  refine (fn_rGet (ht.ext e05) (s := s) (by omega) hs).mono ?_
  rintro u h6 ⟨rfl, e6⟩
  rw [hgv]
  have s7 := blk_stn (h := h6.new (.cells zc)) (b := h6.next) (k := 71) (d := r.cells) (get_new_eq rfl) zl (cells_len okr) (cells_one r)
  have x7 : ((h6.new (.cells zc)).put h6.next (.cells r.cells)).get h6.next = some (.cells r.cells) := get_put_eq
  have e7 : Ext h6 ((h6.new (.cells zc)).put h6.next (.cells r.cells)) := ((Ext.refl h6).new _).put (Nat.le_refl _) _
  simp only [go_sem, ↓reduceIte, hzc, s7]
  generalize (h6.new (.cells zc)).put h6.next (.cells r.cells) = h7 at x7 e7
  have e07 := (e05.trans e6).trans e7
  have e57 := e6.trans e7
  have x57 := e57.get n5 x5
  have g7 := ((((e3.trans e4).trans e5).trans e57).get n2 g2)
  have m5 := bl71 x57 okr
  have m7 := bl71 x7 okr
  have bs : binV .neq (.s pt) (.s pt) = some (.b false) := by rw [bin_sne]; simp
  have hq : eqV (.agg ksB) (.agg r.cells) (.agg r.cells) = some true := by rw [eq_bul okr okr]; simp
  refine WL_gen (fun t => t.length = 94 ∧ nth t 1 = .s s ∧ nth t 2 = .p h.next 0 ∧ nth t 5 = .s pt ∧ nth t 6 = .i .i64 pe ∧ nth t 7 = .s pt ∧ nth t 8 = .i .i64 pe ∧ nth t 9 = .p h4.next 0 ∧ nth t 10 = .i .i64 re ∧ nth t 11 = .p h6.next 0 ∧ nth t 12 = .i .i64 re) ?_ ?_
  · refine ⟨?_, ?_, ?_, ?_, ?_, ?_, ?_, ?_, ?_, ?_, ?_⟩ <;> simp only [go_sem, ↓reduceIte]
  rintro t ⟨tl, t1, t2, t5, t6, t7, t8, t9, t10, t11, t12⟩
  simp only [go_sem, ↓reduceIte, r3_7, ksB_lit, tl, t5, t6, t7, t8, t9, t10, t11, t12, bs, m5, m7, hq]
  have n7 : h.next < h7.next := by have := e57.nx; have := e5.nx; have := e4.nx; have := e3.nx; omega
  have n57 : h4.next < h7.next := Nat.lt_of_lt_of_le n5 e57.nx
  have tail : ∀ (t : List V) (hh : H), t.length = 94 → nth t 1 = .s s → nth t 9 = .p h4.next 0 → nth t 10 = .i .i64 re → Ext h hh → hh.get h4.next = some (.cells r.cells) →
      W tb1 (.seq (.seq (.ops r3_13) (.cond (.t 80) (.seq (.ops r3_14) (.seq (.ops r3_15) (.cond (.t 92) (.seq (.ops r3_16) (.ret)) (.skip)))) (.skip))) (.seq (.ops r3_17) (.ret))) t hh (Kfn [.tmp 4] (fun u h' => u = V.b true ∧ Ext h h') noPan) := by
    intro t hh tl t1 t9 t10 ex gx
    have lx := bl71 gx okr
    rcases her with ⟨rfl, hfm, rfl⟩ | rfl
    · have hpb : putB r = .tup [.s r.text, .i .i64 0] := by unfold putB; rw [hfm]; rfl
      have hrl := (formed_wr okr hfm).2.2
      have bt : binV .neq (.s r.text) (.s r.text) = some (.b false) := by rw [bin_sne]; simp
      simp only [go_sem, ↓reduceIte, r3_13, r3_14, tl, t1, t9, t10, lx]
      refine (fn_Put (ht.ext ex) okr (by omega)).mono ?_
      rintro u h9 ⟨rfl, e9⟩
      simp only [go_sem, ↓reduceIte, r3_15, r3_17, tl, t1, hpb, bt]
      exact ex.trans e9
    · simp only [go_sem, ↓reduceIte, r3_13, r3_17, tl, t10]
      exact ex
  simp only [W_seq', W_ops'] at tail
  rcases hpe with ⟨rfl, hgood, rfl⟩ | ⟨rfl, hgood⟩
  · simp only [go_sem, ↓reduceIte, r3_9, r3_10, tl, t5, t6]
    have htl := textB_len hb hgood
    refine (fn_Get (ht.ext e07) (hu.ext e07) (s := b.text) (by omega) (textB_lt hb)).mono ?_
    rintro u h9 ⟨rfl, e9⟩
    rw [getV_eq, getB_text hb hgood]
    have s10 := blk_stn (h := h9.new (.cells zc)) (b := h9.next) (k := 71) (d := b.cells) (get_new_eq rfl) zl (cells_len hb) (cells_one b)
    have x10 : ((h9.new (.cells zc)).put h9.next (.cells b.cells)).get h9.next = some (.cells b.cells) := get_put_eq
    have e10 : Ext h9 ((h9.new (.cells zc)).put h9.next (.cells b.cells)) := ((Ext.refl h9).new _).put (Nat.le_refl _) _
    simp only [go_sem, ↓reduceIte, tl, hzc, s10]
    generalize (h9.new (.cells zc)).put h9.next (.cells b.cells) = h10 at x10 e10
    have e7x := e9.trans e10
    have m10 := bl71 x10 hb
    have m2 := bl71 (e7x.get n7 g7) hb
    have hqb : eqV (.agg ksB) (.agg b.cells) (.agg b.cells) = some true := by rw [eq_bul hb hb]; simp
    simp only [go_sem, ↓reduceIte, r3_11, ksB_lit, tl, t2, m10, m2, hqb]
    refine tail _ _ ?_ ?_ ?_ ?_ (e07.trans e7x) (e7x.get n57 x57)
    · simp only [go_sem, ↓reduceIte, tl]
    · simp only [go_sem, ↓reduceIte, tl, t1]
    · simp only [go_sem, ↓reduceIte, tl, t9]
    · simp only [go_sem, ↓reduceIte, tl, t10]
  · simp only [go_sem, ↓reduceIte, r3_9, tl, t6]
    refine tail _ _ ?_ ?_ ?_ ?_ e07 x57
    · simp only [go_sem, ↓reduceIte, tl]
    · simp only [go_sem, ↓reduceIte, tl, t1]
    · simp only [go_sem, ↓reduceIte, tl, t9]
    · simp only [go_sem, ↓reduceIte, tl, t10]
end
end Go.Air
