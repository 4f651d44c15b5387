/-
  A part of the proof of: The row of BulletinAnnounces and its tied card, out of the lifted form.
-/
import Derived.Lib.AtoiAllCases
import Derived.Test.YtolfigdgknfdaaaGreatDoorAnC
set_option linter.unusedSectionVars false
set_option linter.unusedVariables false
set_option linter.unusedSimpArgs false
namespace Go.Air
inductive Prec (ops : Array Oper) : Nat → Nat → Prop
  | one {j : Nat} {o : Oper} {e : Edge} : ops[j]? = some o → e ∈ o.after.toList → Region.binds .any e = true → Prec ops e.on j
  | more {i j : Nat} {o : Oper} {e : Edge} : ops[j]? = some o → e ∈ o.after.toList → Region.binds .any e = true → Prec ops i e.on → Prec ops i j
theorem bits_inner (acc : List Nat) (i : Nat) : ∀ (l : List Edge) (s : Nat), (l.foldl (fun s e => if Region.binds .any e then s ||| 2 ^ e.on ||| acc.getD e.on 0 else s) s).testBit i = true →
    s.testBit i = true ∨ ∃ e ∈ l, Region.binds .any e = true ∧ (i = e.on ∨ (acc.getD e.on 0).testBit i = true)
  | [], s, h => .inl h
  | e :: l, s, h => by
    simp only [List.foldl_cons] at h
    rcases bits_inner acc i l _ h with h | ⟨e', h1, h2⟩
    · split at h
      · rename_i hb
        simp only [Nat.testBit_or, Bool.or_eq_true, Nat.testBit_two_pow, decide_eq_true_eq] at h
        rcases h with (h | h) | h
        · exact .inl h
        · exact .inr ⟨e, by simp, hb, .inl h.symm⟩
        · exact .inr ⟨e, by simp, hb, .inr h⟩
      · exact .inl h
    · exact .inr ⟨e', by simp [h1], h2⟩
theorem bits_outer {ops : Array Oper} : ∀ (L pre : List Oper) (acc : List Nat), ops.toList = pre ++ L → acc.length = pre.length → (∀ j i, (acc.getD j 0).testBit i = true → Prec ops i j) →
    ∀ j i, ((L.foldl (fun acc o => acc ++ [o.after.toList.foldl (fun s e => if Region.binds .any e then s ||| 2 ^ e.on ||| acc.getD e.on 0 else s) 0]) acc).getD j 0).testBit i = true → Prec ops i j
  | [], _, _, _, _, h => h
  | o :: L, pre, acc, he, hl, h => by
    simp only [List.foldl_cons]
    refine bits_outer L (pre ++ [o]) _ (by simp [he]) (by simp [hl]) ?_
    intro j i hb
    rcases Nat.lt_trichotomy j acc.length with hj | hj | hj
    · refine h j i ?_
      rw [List.getD_eq_getElem?_getD, List.getElem?_append_left hj] at hb
      rw [List.getD_eq_getElem?_getD]; exact hb
    · subst hj
      rw [List.getD_eq_getElem?_getD, List.getElem?_append_right (Nat.le_refl _)] at hb
      simp only [Nat.sub_self, List.getElem?_cons_zero, Option.getD_some] at hb
      have ho : ops[acc.length]? = some o := by
        rw [← Array.getElem?_toList, he, hl, List.getElem?_append_right (Nat.le_refl _)]
        simp
      rcases bits_inner acc i _ _ hb with hb | ⟨e, h1, h2, h3 | h3⟩
      · simp at hb
      · rw [h3]; exact .one ho h1 h2
      · exact .more ho h1 h2 (h _ _ h3)
    · rw [List.getD_eq_getElem?_getD, List.getElem?_eq_none (by simp; omega)] at hb
      simp at hb
theorem bits_prec {ops : Array Oper} {i j : Nat} (h : ((bitsBefore ops).getD j 0).testBit i = true) : Prec ops i j :=
  bits_outer ops.toList [] [] (by simp) rfl (by intro j i h; simp at h) j i h
theorem okEdges_lt : ∀ (L : List Oper) (k : Nat), okEdges k L = true → ∀ j o, L[j]? = some o → ∀ e ∈ o.after.toList, Region.binds .any e = true → e.on < k + j
  | [], _, _, _, _, h, _, _, _ => by simp at h
  | o :: L, k, h, j, o', ho, e, he, hb => by
    simp only [okEdges, Bool.and_eq_true, List.all_eq_true] at h
    cases j with
    | zero =>
      simp at ho
      subst ho
      have := h.1 e he
      simp only [hb, Bool.not_true, Bool.false_or, Nat.blt_eq] at this
      omega
    | succ j =>
      have := okEdges_lt L (k + 1) h.2 j o' (by simpa using ho) e he hb
      omega
theorem okOps_get {P : Program} {ops : Array Oper} : ∀ {L : List Oper} {l : List O}, okOps P ops L l = true → L.length = l.length ∧ ∀ (i : Nat) (x : Oper), L[i]? = some x → ∃ y, l[i]? = some y ∧ okO P ops x y = true
  | [], [], _ => ⟨rfl, fun i x h => by simp at h⟩
  | [], _ :: _, h => by simp [okOps] at h
  | _ :: _, [], h => by simp [okOps] at h
  | a :: L, b :: l, h => by
    simp only [okOps, Bool.and_eq_true] at h
    obtain ⟨e, q⟩ := okOps_get h.2
    refine ⟨by simp [e], fun i x hx => ?_⟩
    cases i with
    | zero => simp at hx; subst hx; exact ⟨b, by simp, h.1⟩
    | succ i => simpa using q i x (by simpa using hx)
theorem go_acc (m : Region.Mode) (ops : Array Oper) : ∀ (fuel t : Nat) (listed : Array Bool) (acc : List Nat), Region.linearise.go m ops fuel t listed acc = acc.reverse ++ Region.linearise.go m ops fuel t listed []
  | 0, t, listed, acc => by simp [Region.linearise.go]
  | fuel + 1, t, listed, acc => by
    simp only [Region.linearise.go]
    split
    · rename_i i _
      rw [go_acc m ops fuel _ _ (i :: acc), go_acc m ops fuel _ _ [i]]
      simp
    · simp
def unl (N : Nat) (listed : Array Bool) : List Nat := (List.range N).filter fun i => !listed.getD i true
theorem unl_less {N i : Nat} {listed : Array Bool} (hi : i < N) (hs : listed.size = N) (hl : listed.getD i true = false) : (unl N (listed.setIfInBounds i true)).length < (unl N listed).length := by
  have e : unl N (listed.setIfInBounds i true) = (unl N listed).filter fun j => j != i := by
    unfold unl
    rw [List.filter_filter]
    apply List.filter_congr
    intro j _
    by_cases hj : j = i
    · subst hj
      simp [Array.getD_eq_getD_getElem?, hs, hi]
    · have : (listed.setIfInBounds i true).getD j true = listed.getD j true := by
        simp only [Array.getD_eq_getD_getElem?]
        rw [Array.getElem?_setIfInBounds_ne (Ne.symm hj)]
      rw [this]
      simp [hj]
  rw [e]
  exact List.length_filter_lt_length_iff_exists.2 ⟨i, by simp only [unl, List.mem_filter, List.mem_range]; exact ⟨hi, by rw [hl]; rfl⟩, by simp⟩
section
open Classical
variable {P : Program} {call : V → List V → H → RO} {N : Nat} {o : Nat → O} {ft : Nat → Foot} {T : Nat → List V} {S : Nat → H}
variable {D : Nat → Prop} {i j n b x : Nat} {mk : List Deferred × Nat} {R0 R R' : Emb} {w0 w w' : World} {a : Act}
theorem order_wp {ops : Array Oper} {ro : Option Nat} {Q : Exit → Act → World → Prop} (hc : CallSnd P call) (hr : Run N o ft T S call (Prec ops)) (hN : ops.size = N)
    (hok : ∀ i x, ops[i]? = some x → okO P ops x (o i) = true) (hedge : ∀ j x, ops[j]? = some x → ∀ e ∈ x.after.toList, Region.binds .any e = true → e.on < j)
    (hQ : ∀ D R w a, (∀ j, j < N → D j) → Inv P N o ft T S mk R0 w0 D R w a → Q .normal a w) :
    ∀ (fuel t : Nat) (listed : Array Bool) (D : Nat → Prop) (R : Emb) (w : World) (a : Act), listed.size = N → (∀ j, j < N → (listed.getD j true = true ↔ D j)) → (unl N listed).length ≤ fuel →
      (∀ j p, D j → Prec ops p j → D p) → Inv P N o ft T S mk R0 w0 D R w a → wpOpsIn (Wd ro) n P ops Q (Region.linearise.go .any ops fuel t listed []) a w
  | 0, t, listed, D, R, w, a, hs, hl, hu, hcl, I => by
    simp only [Region.linearise.go, List.reverse_nil, wpOpsIn]
    refine hQ D R w a (fun j hj => ?_) I
    rw [← hl j hj]
    refine Classical.byContradiction fun hne => ?_
    have : j ∈ unl N listed := by
      simp only [unl, List.mem_filter, List.mem_range]
      exact ⟨hj, by simpa using hne⟩
    have := List.length_pos_of_mem this
    omega
  | fuel + 1, t, listed, D, R, w, a, hs, hl, hu, hcl, I => by
    simp only [Region.linearise.go]
    split
    · rename_i i hi
      have hmem := List.mem_of_getElem? hi
      simp only [List.mem_filter, List.mem_range, Bool.and_eq_true, Bool.not_eq_true'] at hmem
      obtain ⟨hiN, hli, hrdy⟩ := hmem
      rw [hN] at hiN
      rw [go_acc]
      simp only [List.reverse_cons, List.reverse_nil, List.nil_append, List.singleton_append]
      cases hop : ops[i]? with
      | none => rw [hop] at hrdy; simp at hrdy
      | some x =>
        rw [hop] at hrdy
        simp only [Option.map_some, Option.getD_some, Array.all_eq_true'] at hrdy
        have hdir : ∀ e ∈ x.after.toList, Region.binds .any e = true → D e.on := by
          intro e he hb
          have h1 := hrdy e (by simpa using he)
          simp only [hb, Bool.not_true, Bool.false_or] at h1
          have hlt : e.on < N := by have := hedge i x hop e he hb; omega
          rw [← hl e.on hlt]
          rw [Array.getD_eq_getD_getElem?] at h1 ⊢
          cases hq : listed[e.on]? with
          | none => rfl
          | some v => rw [hq] at h1; exact h1
        have hnot : ¬ D i := by
          rw [← hl i hiN, hli]; simp
        have hn : Nxt N (Prec ops) D i := by
          refine ⟨hiN, hnot, ?_, hcl, I.sub⟩
          intro p hp
          cases hp with
          | one h1 h2 h3 =>
            rw [hop] at h1; cases h1
            exact hdir _ h2 h3
          | more h1 h2 h3 h4 =>
            rw [hop] at h1; cases h1
            exact hcl _ _ (hdir _ h2 h3) h4
        have hcl' : ∀ j p, more D i j → Prec ops p j → more D i p := by
          rintro j p (h | rfl) hp
          · exact .inl (hcl j p h hp)
          · exact .inl (hn.pre p hp)
        have next : ∀ R w a, Inv P N o ft T S mk R0 w0 (more D i) R w a →
            wpOpsIn (Wd ro) n P ops Q (Region.linearise.go .any ops fuel (t / ((List.range ops.size).filter fun i => !listed.getD i true && ((ops[i]?).map (·.after.all fun e => !Region.binds .any e || listed.getD e.on false)).getD false).length) (listed.setIfInBounds i true) []) a w := by
          intro R w a I'
          refine order_wp hc hr hN hok hedge hQ fuel _ _ (more D i) R w a (by simpa using hs) ?_ ?_ hcl' I'
          · intro j hj
            by_cases hji : j = i
            · subst hji
              simp [more, Array.getD_eq_getD_getElem?, hs, hj]
            · rw [more_off hji, ← hl j hj]
              simp only [Array.getD_eq_getD_getElem?]
              rw [Array.getElem?_setIfInBounds_ne (Ne.symm hji)]
          · have := unl_less hiN hs hli
            omega
        have hoi := hok i x hop
        simp only [okO, Bool.and_eq_true] at hoi
        obtain ⟨⟨hdst, hg⟩, hopa⟩ := hoi
        obtain ⟨th, h1, h2, h3⟩ := I.tm
        have huse : ∀ y ∈ usesO (o i), nth th y = nth (T i) y := fun y hy => by rw [h3 y, hn.tmp hr hy]
        have hw : wants (o i).g th = wants (o i).g (T i) := wants_congr fun y hy => huse y (by
          unfold usesO
          exact List.mem_append.2 (.inr hy))
        have huo : ∀ y ∈ uses (o i).op, nth th y = nth (T i) y := fun y hy => huse y (by
          unfold usesO
          exact List.mem_append.2 (.inl hy))
        simp only [wpOpsIn, hop]
        rw [wanted_iff hg h1, hw]
        cases hwt : wants (o i).g (T i) with
        | false =>
          simp only [Bool.false_eq_true, if_false]
          exact ⟨fun _ _ => trivial, next R w _ (I.skip hr hn hdst hwt)⟩
        | true =>
          simp only [if_true]
          rcases (hr.at' i hiN).run with ⟨_, v, hh, hev, hT, hS, hrd, hwr, hwfh0⟩ | ⟨hwf, _⟩
          · have hwfi : WF ⟨(S i).next, (S i).mem, []⟩ := ⟨(hr.wfs i (by omega)).1, fun _ hb => by simp at hb⟩
            have hev' : evA call (o i).op th ⟨(S i).next, (S i).mem, []⟩ = .ok v hh := by rw [evA_congr huo]; exact hev
            refine op_wp hc hopa (envOk_of h1) (h := ⟨(S i).next, (S i).mem, []⟩) (F := footF ft S i) (I.sim_at hr hn) ?_ ?_ hwfi hev' RO.gives_ok ?_ (fun v' x w' hv _ => by cases hv)
            · rw [reads_congr huo, ← hrd]
              cases hq : (ft i).rd with
              | none => intro b r hr'; rw [hq] at hr'; cases hr'
              | some r =>
                intro b hb r' hr'
                rw [hq] at hr'
                cases hr'
                exact .inl hb
            · intro b hb1 hb2
              exact I.fresh hr hn ⟨hb1, by rw [hS]; exact hb2⟩
            · intro v' u w' hv hp
              simp only [RO.ok.injEq] at hv
              obtain ⟨rfl, _⟩ := hv
              have hwfh : WF hh := hwfh0 (hr.wfs i (by omega))
              obtain ⟨R', I'⟩ := I.done hr hn hdst h1 h2 h3 hT hS hwr hwfh hp
              exact next R' w' _ I'
          · rw [hwt] at hwf; cases hwf
    ·
      rename_i hno
      simp only [List.reverse_nil, wpOpsIn]
      refine hQ D R w a (fun j hj => ?_) I
      rw [← hl j hj]
      induction j using Nat.strongRecOn with
      | _ j ih =>
        refine Classical.byContradiction fun hne => ?_
        have hop : ops[j]? = some (ops[j]'(by omega)) := by simp [hN, hj]
        have hin : j ∈ (List.range ops.size).filter fun i => !listed.getD i true && ((ops[i]?).map (·.after.all fun e => !Region.binds .any e || listed.getD e.on false)).getD false := by
          simp only [List.mem_filter, List.mem_range, Bool.and_eq_true, Bool.not_eq_true']
          refine ⟨by omega, by simpa using hne, ?_⟩
          rw [hop]
          simp only [Option.map_some, Option.getD_some, Array.all_eq_true']
          intro e he
          cases hb : Region.binds .any e with
          | false => rfl
          | true =>
            have hlt := hedge j _ hop e (by simpa using he) hb
            have := ih e.on hlt (by omega)
            simp only [Bool.not_true, Bool.false_or]
            rw [Array.getD_eq_getD_getElem?] at this ⊢
            rw [Array.getElem?_eq_getElem (by omega)] at this ⊢
            exact this
        have hpos := List.length_pos_of_mem hin
        rw [List.getElem?_eq_none_iff] at hno
        have := Nat.mod_lt t hpos
        omega
end
end Go.Air
namespace Go.Air
section
open Classical
variable {P : Program} {call : V → List V → H → RO} {N : Nat} {o : Nat → O} {ft : Nat → Foot} {T : Nat → List V} {S : Nat → H} {pr : Nat → Nat → Prop}
variable {D : Nat → Prop} {mk : List Deferred × Nat} {R0 R : Emb} {w0 w : World} {a : Act}
theorem list_nth_ext : ∀ {a b : List V}, a.length = b.length → (∀ x, nth a x = nth b x) → a = b
  | [], [], _, _ => rfl
  | [], _ :: _, h, _ => by simp at h
  | _ :: _, [], h, _ => by simp at h
  | x :: a, y :: b, h, hx => by
    have h0 : x = y := hx 0
    rw [h0, list_nth_ext (by simpa using h) fun n => hx (n + 1)]
theorem Run.logs (hr : Run N o ft T S call pr) : ∀ (n : Nat), n ≤ N → ∃ L, (S n).log = L ++ (S 0).log ∧ ∀ b, b ∈ L ↔ ∃ j, j < n ∧ b ∈ (ft j).wr
  | 0, _ => ⟨[], rfl, fun b => by simp⟩
  | n + 1, hn => by
    obtain ⟨L, h1, h2⟩ := hr.logs n (by omega)
    refine ⟨(ft n).wr ++ L, by rw [(hr.at' n (by omega)).log, h1, List.append_assoc], fun b => ?_⟩
    rw [List.mem_append, h2 b]
    constructor
    · rintro (h | ⟨j, hj, h⟩)
      · exact ⟨n, by omega, h⟩
      · exact ⟨j, by omega, h⟩
    · rintro ⟨j, hj, h⟩
      rcases Nat.eq_or_lt_of_le (Nat.le_of_lt_succ hj) with rfl | hj
      · exact .inl h
      · exact .inr ⟨j, hj, h⟩
theorem Run.kept (hr : Run N o ft T S call pr) {b : Nat} (hb : b < (S 0).next) : ∀ (n : Nat), n ≤ N → (∀ j, j < n → b ∉ (ft j).wr) → (S n).get b = (S 0).get b
  | 0, _, _ => rfl
  | n + 1, hn, h => by
    rw [(hr.at' n (by omega)).same b (Nat.lt_of_lt_of_le hb (hr.nx n 0 (by omega) (by omega))) (h n (by omega))]
    exact hr.kept hb n (by omega) fun j hj => h j (by omega)
theorem Run.lived (hr : Run N o ft T S call pr) {b : Nat} (hb : b < (S 0).next) : ∀ (n : Nat), n ≤ N → (∃ y, (S n).get b = some y) → ∃ y, (S 0).get b = some y
  | 0, _, h => h
  | n + 1, hn, ⟨y, hy⟩ => by
    refine hr.lived hb n (by omega) ?_
    by_cases h : b ∈ (ft n).wr
    · exact ((hr.at' n (by omega)).had b h).2
    · rw [(hr.at' n (by omega)).same b (Nat.lt_of_lt_of_le hb (hr.nx n 0 (by omega) (by omega))) h] at hy
      exact ⟨y, hy⟩
theorem Inv.fin (hr : Run N o ft T S call pr) (hall : ∀ j, j < N → D j) (I : Inv P N o ft T S mk R0 w0 D R w a) : PostA P mk.1 mk.2 R0 (S 0) w0 (T N) (S N) a w := by
  obtain ⟨L, h1, h2⟩ := hr.logs N (Nat.le_refl _)
  obtain ⟨th, q1, q2, q3⟩ := I.tm
  have hth : th = T N := by
    refine list_nth_ext (by rw [q2, hr.len N (Nat.le_refl _)]) fun x => ?_
    rw [q3, vt_text hr N (Nat.le_refl _) fun j hj _ => hall j hj]
  have hv : (fun b => ver ft S D b N) = (S N).get := by
    funext b
    exact ver_text hr N (Nat.le_refl _) fun j hj _ => hall j hj
  refine ⟨R, L, rfl, ⟨I.le, h1, hr.nx N 0 (Nat.zero_le _) (Nat.le_refl _), I.size, ?_, ?_, ?_, ?_, I.io⟩, hv ▸ I.sim, hth ▸ q1, I.marks⟩
  · intro b c sz hb
    rcases I.new b c sz hb with h | ⟨p1, p2, p3 | ⟨b0, s0, p3, p4⟩⟩
    · exact .inl h
    · exact .inr ⟨p1, p2, .inl p3⟩
    · exact .inr ⟨p1, p2, .inr ⟨b0, s0, p3, (h2 b0).2 p4⟩⟩
  · intro b hb hl
    exact hr.kept hb N (Nat.le_refl _) fun j hj hm => hl ((h2 b).2 ⟨j, hj, hm⟩)
  · intro c hc hno
    exact I.frame c hc fun b sz hb hm => hno b sz hb ((h2 b).2 hm)
  · intro b hb
    obtain ⟨j, hj, hm⟩ := (h2 b).1 hb
    obtain ⟨⟨c, sz⟩, hy⟩ := I.own j (hall j hj) b hm
    rcases I.new b c sz hy with h | ⟨p1, p2, _⟩
    · exact .inr ⟨⟨_, h⟩, fun hlt => hr.lived hlt j (by omega) ((hr.at' j hj).had b hm).2⟩
    · exact .inl ⟨p1, p2⟩
theorem apart_mem {f g : Foot} (h : apart f g = true) : Mem f g ∧ Mem g f := by
  simp only [apart, Bool.and_eq_true, List.all_eq_true, Bool.not_eq_true', List.contains_eq_mem, decide_eq_false_iff_not] at h
  obtain ⟨⟨h1, h2⟩, h3⟩ := h
  constructor
  · intro b hb
    refine ⟨fun r hr => ?_, fun hr => ?_, h3 b hb⟩
    · rw [hr] at h1
      simp only [List.all_eq_true, Bool.not_eq_true', decide_eq_false_iff_not] at h1
      exact h1 b hb
    · rw [hr] at h1
      simp only [List.isEmpty_iff] at h1
      rw [h1] at hb; simp at hb
  · intro b hb
    refine ⟨fun r hr => ?_, fun hr => ?_, fun hb' => h3 b hb' hb⟩
    · rw [hr] at h2
      simp only [List.all_eq_true, Bool.not_eq_true', decide_eq_false_iff_not] at h2
      exact h2 b hb
    · rw [hr] at h2
      simp only [List.isEmpty_iff] at h2
      rw [h2] at hb; simp at hb
theorem draw_snd (hmix : P.follows .mixedOrders = true) (call : V → List V → H → RO) (hc : CallSnd P call) (hk : KeepC call) : DrawSnd P call := by
  intro ops l crit t h t' h' f R w a D0 m n ro Q order hok hdr hrun hcrit hs hfr hw ht hm hQ
  obtain ⟨fs, hfs, hch⟩ := chain_of hk l t h [] t' h' f hrun
  simp only [List.nil_append] at hfs
  subst hfs
  obtain ⟨hlen, T, S, e1, e2, e3, e4, hat⟩ := hch.states
  obtain ⟨hol, hoget⟩ := okOps_get hok
  have hN : ops.size = l.length := by simpa using hol
  let o : Nat → O := fun i => l.getD i default
  let ft : Nat → Foot := fun i => f.getD i ⟨none, []⟩
  have ho : ∀ i, i < l.length → l[i]? = some (o i) := fun i hi => by simp [o, List.getD_eq_getElem?_getD, hi]
  have hf : ∀ i, i < l.length → f[i]? = some (ft i) := fun i hi => by
    have : i < f.length := by omega
    simp [ft, List.getD_eq_getElem?_getD, this]
  simp only [okDraw, Bool.and_eq_true] at hdr
  obtain ⟨hed, hpairs⟩ := hdr
  have hat' : ∀ i, i < l.length → At call (o i) (T i) (S i) (T (i + 1)) (S (i + 1)) (ft i) := fun i hi => hat i _ _ (ho i hi) (hf i hi)
  have hr : Run l.length o ft T S call (Prec ops) := by
    refine ⟨hat', ?_, by rw [e2]; exact hw⟩
    intro i j hij hj hnp
    simp only [okPairs, List.all_eq_true, List.mem_range] at hpairs
    have hp := hpairs j hj i hij
    rw [Bool.or_eq_true] at hp
    have hp := hp.resolve_left fun hb => hnp (bits_prec hb)
    rw [ho i (by omega), ho j hj] at hp
    simp only [free, Bool.and_eq_true, Bool.not_eq_true', Bool.or_eq_true] at hp
    obtain ⟨⟨hd1, hd2⟩, hmem⟩ := hp
    have hmm : Mem (ft i) (ft j) ∧ Mem (ft j) (ft i) := by
      rcases hmem with hseen | hcls
      · rw [List.any_eq_true] at hseen
        obtain ⟨⟨p, q⟩, hpq, hpe⟩ := hseen
        simp only [Bool.and_eq_true, Nat.beq_eq] at hpe
        obtain ⟨rfl, rfl⟩ := hpe
        simp only [critOk, List.all_eq_true] at hcrit
        have := hcrit (p, q) hpq
        simp only [hf p (by omega), hf q hj] at this
        exact apart_mem this
      · have idle : ∀ x y, x < l.length → cls (o x).op = .idle → Mem (ft x) (ft y) ∧ Mem (ft y) (ft x) := by
          intro x y hx hcl
          have := (hat' x hx).idle hcl
          rw [this]
          refine ⟨fun b hb => by simp at hb, fun b hb => ⟨fun r hr => ?_, by simp, by simp⟩⟩
          simp at hr
          subst hr
          simp
        cases hci : cls (o i).op with
        | idle => exact idle i j (by omega) hci
        | reads =>
          cases hcj : cls (o j).op with
          | idle => exact (idle j i hj hcj).symm
          | reads =>
            obtain ⟨w1, _⟩ := (hat' i (by omega)).rds (by rw [hci]; simp)
            obtain ⟨w2, _⟩ := (hat' j hj).rds (by rw [hcj]; simp)
            exact ⟨fun b hb => by rw [w1] at hb; simp at hb, fun b hb => by rw [w2] at hb; simp at hb⟩
          | writes => rw [hci, hcj] at hcls; simp at hcls
        | writes =>
          cases hcj : cls (o j).op with
          | idle => exact (idle j i hj hcj).symm
          | reads => rw [hci, hcj] at hcls; simp at hcls
          | writes => rw [hci, hcj] at hcls; simp at hcls
    refine ⟨fun d hd => ?_, fun d hd => ?_, hmm.1, hmm.2⟩
    · rw [hd] at hd1
      simp only [touches, List.contains_eq_mem, List.mem_append, decide_eq_false_iff_not, not_or] at hd1
      refine ⟨hd1.1, fun he => ?_⟩
      rw [he] at hd1
      simp at hd1
    · rw [hd] at hd2
      simpa [touches] using hd2
  have hsch : Region.schedule (P.follows .mixedOrders) ops order = Region.linearise .any ops order := by simp [Region.schedule, hmix]
  rw [hsch]
  unfold Region.linearise
  have I : Inv P l.length o ft T S (D0, m) R w (fun _ => False) R w a := by
    have hv : ∀ (D : Nat → Prop) b n, (∀ j, ¬ D j) → ver ft S D b n = (S 0).get b := by
      intro D b n hD
      induction n with
      | zero => rfl
      | succ n ih => rw [ver, if_neg (fun h => hD n h.1), ih]
    have ht' : ∀ (D : Nat → Prop) x n, (∀ j, ¬ D j) → vt o T D x n = nth (T 0) x := by
      intro D x n hD
      induction n with
      | zero => rfl
      | succ n ih => rw [vt, if_neg (fun h => hD n h.1), ih]
    refine ⟨fun _ h => h.elim, ⟨t, ht, by rw [e1], fun x => by rw [ht' _ x _ (fun _ h => h), e1]⟩, ?_, ?_, fun _ h => h.elim, Emb.le_refl R, Nat.le_refl _, fun _ _ _ h => .inl h, fun _ _ _ => rfl, hm, .refl w⟩
    · have : (fun b => ver ft S (fun _ => False) b l.length) = h.get := by
        funext b
        rw [hv _ b _ (fun _ h => h), e2]
      rw [this]; exact hs
    · intro b y hb
      rcases Nat.lt_or_ge b (S 0).next with h1 | h1
      · exact .inl h1
      · rcases Nat.lt_or_ge b (S l.length).next with h2 | h2
        · rw [hfr b (by rw [← e2]; exact h1) (by rw [← e4]; exact h2)] at hb; cases hb
        · exact .inr (.inl h2)
  refine order_wp hc hr hN ?_ ?_ ?_ ops.size order _ (fun _ => False) R w a (by simp [hN]) ?_ ?_ (fun _ _ h => h.elim) I
  · intro i x hx
    obtain ⟨y, h1, h2⟩ := hoget i x (by simpa using hx)
    have hi : i < l.length := (List.getElem?_eq_some_iff.1 h1).1
    rw [ho i hi] at h1
    cases h1
    exact h2
  · intro j x hx e he hb
    have := okEdges_lt ops.toList 0 hed j x (by simpa using hx) e he hb
    omega
  · intro D R' w' a' hall I'
    have := I'.fin hr hall
    rw [e2, e3, e4] at this
    exact hQ a' w' this
  · intro j hj
    have : (Array.replicate ops.size false).getD j true = false := by simp [Array.getD_eq_getD_getElem?, hN, hj]
    rw [this]
    simp
  · have h1 : (unl l.length (Array.replicate ops.size false)).length ≤ (List.range l.length).length := List.length_filter_le _ _
    simp at h1
    omega
end
theorem air_fn {P : Program} {tbl : Tb} (hmix : P.follows .mixedOrders = true) (htbl : ∀ k fi, tbl k = some fi → FnOk P tbl k fi) {k g : Nat} {args : List V} {vs : List Value} {R : Emb} {h h' : H} {w : World} {v : V}
    (hx : tbl.ext g = false) (he : callV tbl (E tbl k) (.fn g [] []) args h = .ok v h') (hs : Sim P allB R h.get w) (hfr : Fresh R h h') (hw : WF h) (hv : concL R args = some vs) :
    (callFunc g vs.toArray).run P w = .ok (.enter g vs.toArray) w ∧ ∀ ro n, CallsIn (Wd ro) n P g vs.toArray w (PostR P allB R h w (.ok v h')) := by
  have hall : ∀ j, j ≤ k → Snd P (E tbl j) := fun j hj => snd htbl (fun call => draw_snd hmix call) k j hj
  have := fn_snd hall (fun j hj => call_snd htbl j fun i hi => hall i (by omega)) htbl (fun _ _ h => by rw [hx] at h; cases h.1) he RO.gives_ok hs hfr hw (concL_nil R) (concL_nil R) hv
  rw [show ([] : List Value).toArray ++ vs.toArray ++ ([] : List Value).toArray = vs.toArray by simp] at this
  exact this
end Go.Air
set_option maxRecDepth 100000
namespace Go.Air
theorem prim_of {P : Program} {tbl : Tb} (hmix : P.follows .mixedOrders = true) (htbl : ∀ k fi, tbl k = some fi → FnOk P tbl k fi) {pr : Prims} {g m n : Nat} (hx : tbl.ext g = false)
    (H : ∀ (args : List V) (h : H) (v : V) (ob : Option Blk) (R : Emb) (w : World) (vs : List Value), WF h → pr n (pad args m) h = some (v, ob) → Sim P allB R h.get w → concL R args = some vs → ob = none ∧ (∀ R R' : Emb, conc R v = conc R' v) ∧
      ∃ (h2 : Air.H) (R2 : Emb), WF h2 ∧ Sim P allB R2 h2.get w ∧ (∀ b, h2.next ≤ b → R2 b = none) ∧ concL R2 args = some vs ∧ WC tbl (.fn g [] []) args h2 fun u h' => u = v ∧ ∃ l, h'.log = l ++ h2.log ∧ ∀ b ∈ l, h2.next ≤ b) : PrimOk P pr g (primFI m n) := by
  refine ⟨m, n, rfl, ?_⟩
  intro args h v ob R w vs hp hs hfr hw hargs
  obtain ⟨rfl, hflat, h2, R2, hw2, hs2, hf2, ha2, k, r, he, hq⟩ := H args h v ob R w vs hw hp hs hargs
  cases r with
  | fail => exact hq.elim
  | pan v h' => exact hq.elim
  | ok u h' =>
    obtain ⟨rfl, ext⟩ := hq
    obtain ⟨q1, q2⟩ := air_fn hmix htbl hx he hs2 (fun b hb _ => hf2 b hb) hw2 ha2
    refine ⟨q1, fun ro k => (q2 ro k).mono ?_⟩
    intro e w' q
    cases e with
    | panicked _ => exact q.elim
    | outgrown => exact q.elim
    | returned x =>
      obtain ⟨R', l, f, _, hc⟩ := q
      have hkeep : ∀ c, c < w.heap.size → w'.heap[c]? = w.heap[c]? := by
        intro c hc
        refine f.frame c hc fun b sz hb hl => ?_
        obtain ⟨l', e1, e2⟩ := ext
        have e3 := f.log
        rw [e1] at e3
        obtain rfl : l' = l := List.append_cancel_right e3
        rw [hf2 b (e2 b hl)] at hb
        cases hb
      refine ⟨R, [], ⟨R.le_refl, rfl, Nat.le_refl _, f.size, fun _ _ _ h => .inl h, fun _ _ _ => rfl, fun c hc _ => hkeep c hc, fun _ hb => by simp at hb, f.io⟩, ?_, (hflat R R').trans hc⟩
      exact ⟨fun b c sz x hF hb hx => BlkRel.mono P (Emb.le_refl R) (hs.blk b c sz x hF hb hx) (hkeep c (hs.lt b c sz hb)), hs.inj, fun b c sz hb => Nat.lt_of_lt_of_le (hs.lt b c sz hb) f.size, hs.fix⟩
theorem cutO_of : ∀ {cs : List (Option V)} {o n : Nat} {l : List V}, l.length = n → (∀ (i : Nat) (v : V), l[i]? = some v → cs[o + i]? = some (some v)) → o + n ≤ cs.length → cutO cs o n = some l
  | [], 0, 0, l, hl, _, _ => by
    obtain rfl := List.eq_nil_of_length_eq_zero hl
    rfl
  | _ :: _, 0, 0, l, hl, _, _ => by
    obtain rfl := List.eq_nil_of_length_eq_zero hl
    rfl
  | [], 0, n + 1, _, _, _, h => by simp at h
  | [], o + 1, n, _, _, _, h => by simp at h
  | x :: cs, 0, n + 1, l, hl, h, hle => by
    cases l with
    | nil => simp at hl
    | cons v l =>
      have h0 := h 0 v rfl
      simp only [Nat.add_zero, List.getElem?_cons_zero, Option.some.injEq] at h0
      subst h0
      have ih := cutO_of (cs := cs) (o := 0) (n := n) (l := l) (by simpa using hl) (fun i v hi => by
        have := h (i + 1) v (by simpa using hi)
        rw [show 0 + (i + 1) = (0 + i) + 1 by omega] at this
        simpa using this) (by simp at hle ⊢; omega)
      simp only [cutO, ih, Option.map_some]
  | x :: cs, o + 1, n, l, hl, h, hle => by
    simp only [cutO]
    refine cutO_of (o := o) hl (fun i v hi => ?_) (by simp at hle; omega)
    have := h i v hi
    rw [show o + 1 + i = (o + i) + 1 by omega] at this
    simpa using this
theorem nthO_get : ∀ {cs : List (Option V)} {o : Nat} {v : V}, nthO cs o = some v → cs[o]? = some (some v)
  | [], _, _, h => by cases h
  | x :: _, 0, _, h => by simpa [nthO] using h
  | _ :: cs, o + 1, v, h => by simpa using nthO_get (cs := cs) (o := o) (by simpa [nthO] using h)
theorem cutO_le : ∀ {cs : List (Option V)} {o n : Nat} {l : List V}, cutO cs o n = some l → o + n ≤ cs.length
  | [], 0, 0, _, _ => by simp
  | _ :: _, 0, 0, _, _ => by simp
  | [], 0, _ + 1, _, h => by simp [cutO] at h
  | [], _ + 1, _, _, h => by simp [cutO] at h
  | x :: cs, 0, n + 1, l, h => by
    cases x with
    | none => simp [cutO] at h
    | some v =>
      simp only [cutO, Option.map_eq_some_iff] at h
      obtain ⟨l', h, rfl⟩ := h
      have := cutO_le h
      simp; omega
  | _ :: cs, o + 1, n, l, h => by
    have := cutO_le (cs := cs) (o := o) (n := n) (l := l) (by simpa [cutO] using h)
    simp; omega
theorem blk_cells {P : Program} {R : Emb} {w : World} {c sz : Nat} {bl : Blk} {o n : Nat} {cs : List V} (hb : BlkRel P R w c sz bl) (hr : bl.rd o n = some cs) :
    ∃ arr e f, w.heap[c]? = some (.cells arr e f) ∧ o + n ≤ arr.size ∧ ∀ (i : Nat) (u : V), cs[i]? = some u → ∃ x, arr.toList[o + i]? = some x ∧ conc R u = some x := by
  have hlen := rd_length hr
  cases bl with
  | cells l =>
    obtain ⟨arr, e, vs, rest, h1, h2, h3, h4⟩ := hb
    have hll := concL_length h2
    obtain ⟨q1, _⟩ := cut_eq.1 hr
    refine ⟨arr, _, _, h1, ?_, fun i u hi => ?_⟩
    · have : arr.size = (vs ++ rest).length := by rw [← h3]; simp
      simp at this; omega
    · have hin : i < n := by rw [← hlen]; exact (List.getElem?_eq_some_iff.1 hi).1
      have h5 := rd_nth hr hin
      rw [hi] at h5
      simp only [Blk.rd1, nth?_eq] at h5
      obtain ⟨x, q1, q2⟩ := concL_get h2 h5
      refine ⟨x, ?_, q2⟩
      rw [h3, List.getElem?_append_left (List.getElem?_eq_some_iff.1 q1).1]
      exact q1
  | ro l =>
    obtain ⟨arr, e, f, h1, h2, h3⟩ := hb
    have q := (cutO_eq hr).2
    refine ⟨arr, e, f, h1, by have := cutO_le hr; omega, fun i u hi => ?_⟩
    have hin : i < n := by rw [← hlen]; exact (List.getElem?_eq_some_iff.1 hi).1
    have h5 := rd_nth hr hin
    rw [hi] at h5
    exact h3 _ _ (nthO_get h5)
  | map _ => cases hr
  | loop _ => cases hr
theorem u8s_map : ∀ {cs : List V} {b : List Nat}, u8s cs = some b → cs = b.map u8 ∧ ∀ c ∈ b, c < 256
  | [], b, h => by simp [u8s] at h; subst h; exact ⟨rfl, by simp⟩
  | x :: cs, b, h => by
    unfold u8s at h
    split at h <;> try cases h
    rename_i c h1
    obtain ⟨r, h2, rfl⟩ := Option.map_eq_some_iff.1 h
    obtain ⟨rfl, h3⟩ := u8s_map h2
    unfold u8Of at h1
    split at h1 <;> try cases h1
    split at h1 <;> simp only [Option.some.injEq, reduceCtorEq] at h1
    rename_i hlt
    subst h1
    rw [Nat.blt_eq] at hlt
    refine ⟨rfl, fun d hd => ?_⟩
    rcases List.mem_cons.1 hd with rfl | hd
    · exact hlt
    · exact h3 d hd
def emb1 (R : Emb) (b : Nat) : Emb := fun c => if c = b ∨ c ∈ fixB then R c else none
theorem emb1_le {R : Emb} {b c : Nat} {x : Nat × Nat} (h : emb1 R b c = some x) : R c = some x ∧ (c = b ∨ c ∈ fixB) := by
  unfold emb1 at h
  split at h
  · rename_i hc; exact ⟨h, hc⟩
  · cases h
theorem emb1_self (R : Emb) (b : Nat) : emb1 R b b = R b := if_pos (.inl rfl)
theorem emb1_fix {R : Emb} (b : Nat) (h : Fix R) : Fix (emb1 R b) := fun c hc => (if_pos (.inr hc)).trans (h c hc)
def bareH : H := ⟨topBlk, .e, []⟩
theorem bare_get (b : Nat) : bareH.get b = none := by cases b <;> rfl
theorem bare_wf : WF bareH := ⟨fun b _ => bare_get b, fun _ hb => by simp [bareH] at hb⟩
theorem bare_sim {P : Program} {R : Emb} {h : H} {w : World} (hs : Sim P allB R h.get w) : Sim P allB (emb1 R tabBlk) bareH.get w :=
  ⟨fun b _ _ _ _ _ hx => (by rw [bare_get] at hx; cases hx), fun b _ _ _ _ _ _ _ _ _ _ hx => (by rw [bare_get] at hx; cases hx), fun b c sz hb => hs.lt b c sz (emb1_le hb).1, emb1_fix _ hs.fix⟩
theorem bare_fresh (R : Emb) (b : Nat) (hb : bareH.next ≤ b) : emb1 R tabBlk b = none := by
  have hb : topBlk ≤ b := hb
  refine if_neg ?_
  rintro (rfl | h)
  · exact absurd (fix_lt tab_mem) (by omega)
  · exact absurd (fix_lt h) (by omega)
def view (off : Nat) (cs : List V) (size : Nat) : List (Option V) := List.replicate off none ++ cs.map some ++ List.replicate (size - (off + cs.length)) none
theorem view_get {off size i : Nat} {cs : List V} {v : V} (h : (view off cs size)[i]? = some (some v)) : ∃ j, i = off + j ∧ cs[j]? = some v := by
  unfold view at h
  rcases Nat.lt_or_ge i off with h1 | h1
  · rw [List.append_assoc, List.getElem?_append_left (by simpa using h1), List.getElem?_replicate, if_pos h1] at h
    cases h
  · rw [List.append_assoc, List.getElem?_append_right (by simpa using h1), List.length_replicate] at h
    rcases Nat.lt_or_ge (i - off) cs.length with h2 | h2
    · rw [List.getElem?_append_left (by simpa using h2), List.getElem?_map, List.getElem?_eq_getElem h2] at h
      refine ⟨i - off, by omega, ?_⟩
      rw [List.getElem?_eq_getElem h2]
      simpa using h
    · rw [List.getElem?_append_right (by simpa using h2), List.getElem?_replicate] at h
      split at h <;> cases h
theorem bytes_alone {P : Program} {h : H} {v : V} {bs : List Nat} {R : Emb} {w : World} {vs : List Value} (hw : WF h) (hb : bytesAt h v = some bs) (hs : Sim P allB R h.get w) (hv : concL R [v] = some vs) :
    (bs.length ≤ 10000000 ∧ ∀ c ∈ bs, c < 256) ∧ ∃ (h2 : H) (R2 : Emb), WF h2 ∧ Sim P allB R2 h2.get w ∧ (∀ b, h2.next ≤ b → R2 b = none) ∧ concL R2 [v] = some vs ∧ Sl 1 h2 v bs.length (bs.map u8) := by
  unfold bytesAt at hb
  split at hb <;> try cases hb
  rename_i hstr
  split at hb <;> try cases hb
  rename_i n hn
  split at hb <;> try cases hb
  rename_i cs hcs
  split at hb <;> try cases hb
  rename_i hle
  have hle := Nat.le_of_ble_eq_true hle
  obtain ⟨rfl, hlt⟩ := u8s_map hb
  rw [List.length_map] at hle
  refine ⟨⟨hle, hlt⟩, ?_⟩
  have hempty : ∀ v, (v = .sn ∨ ∃ a, v = .se a) → concL R [v] = some vs → bs = [] → ∃ (h2 : H) (R2 : Emb), WF h2 ∧ Sim P allB R2 h2.get w ∧ (∀ b, h2.next ≤ b → R2 b = none) ∧ concL R2 [v] = some vs ∧ Sl 1 h2 v bs.length (bs.map u8) := by
    rintro v hv' hvs rfl
    refine ⟨bareH, emb1 R tabBlk, bare_wf, bare_sim hs, bare_fresh R, ?_, .inl ⟨rfl, rfl, hv'⟩⟩
    rcases hv' with rfl | ⟨a, rfl⟩ <;> (simp only [concL, conc] at hvs ⊢; exact hvs)
  cases v <;> simp only [sourceLen, reduceCtorEq, Option.some.injEq] at hn
  case s x => exact (hstr rfl).elim
  case sn =>
    subst hn
    exact hempty _ (.inl rfl) hv (by cases bs with | nil => rfl | cons _ _ => simp [sourceCells] at hcs)
  case se a =>
    subst hn
    exact hempty _ (.inr ⟨a, rfl⟩) hv (by cases bs with | nil => rfl | cons _ _ => simp [sourceCells] at hcs)
  case sl b off len cap g =>
    subst hn
    simp only [sourceCells, Nat.mul_one] at hcs
    split at hcs <;> try cases hcs
    rename_i bl hg
    have hlen := rd_length hcs
    rw [List.length_map] at hlen
    cases hR : R b with
    | none =>
      exfalso
      cases g <;> simp [concL, conc, hR] at hv
    | some x =>
      obtain ⟨c, sz⟩ := x
      obtain ⟨arr, e, f, q1, q2, q3⟩ := blk_cells (hs.blk b c sz bl trivial hR hg) hcs
      have hget : ∀ d, (T.set (T.e : T Blk) b (some (.ro (view off (bs.map u8) arr.size)))).get d = if d = b then some (.ro (view off (bs.map u8) arr.size)) else none := by
        intro d
        rw [T.get_set]
        split
        · rfl
        · cases d <;> rfl
      have hvl : (view off (bs.map u8) arr.size).length = arr.size := by
        unfold view; simp; omega
      refine ⟨⟨max b topBlk + 1, T.set .e b (some (.ro (view off (bs.map u8) arr.size))), []⟩, emb1 R b, ⟨?_, fun _ hb => by simp at hb⟩, ⟨?_, ?_, ?_, emb1_fix _ hs.fix⟩, ?_, ?_, ?_⟩
      · intro d hd
        have hd : max b topBlk + 1 ≤ d := hd
        exact (hget d).trans (if_neg (by omega))
      · intro d c' sz' y _ hd hy
        have hy := (hget d).symm.trans hy
        split at hy <;> try cases hy
        rename_i e'
        subst e'
        rw [emb1_self, hR] at hd
        cases hd
        refine ⟨arr, e, f, q1, hvl.symm, fun i u hi => ?_⟩
        obtain ⟨j, rfl, hj⟩ := view_get hi
        obtain ⟨x, q4, q5⟩ := q3 j u hj
        refine ⟨x, q4, ?_⟩
        rw [List.getElem?_map, Option.map_eq_some_iff] at hj
        obtain ⟨n, _, rfl⟩ := hj
        exact q5
      · intro d d' c' s1 s2 y y' _ _ _ _ hy hy'
        have hy := (hget d).symm.trans hy
        have hy' := (hget d').symm.trans hy'
        by_cases e1 : d = b
        · by_cases e2 : d' = b
          · rw [e1, e2]
          · rw [if_neg e2] at hy'; cases hy'
        · rw [if_neg e1] at hy; cases hy
      · intro d c' s1 hd
        exact hs.lt _ _ _ (emb1_le hd).1
      · intro d hd
        have hd : max b topBlk + 1 ≤ d := hd
        refine if_neg ?_
        rintro (rfl | h)
        · omega
        · exact absurd (fix_lt h) (by omega)
      · have he : emb1 R b b = R b := emb1_self R b
        cases g <;> (simp only [concL, conc, he] at hv ⊢; exact hv)
      · refine .inr ⟨b, off, cap, g, _, by rw [hlen], (by show b < max b topBlk + 1; omega), (hget b).trans (if_pos rfl), ?_⟩
        simp only [Blk.rd]
        refine cutO_of (by simp) (fun i u hi => ?_) (by rw [hvl]; omega)
        have hi' := (List.getElem?_eq_some_iff.1 hi).1
        unfold view
        rw [List.append_assoc, List.getElem?_append_right (by simp), List.length_replicate, Nat.add_sub_cancel_left, List.getElem?_append_left (by simpa using hi'), List.getElem?_map, hi]
        rfl
end Go.Air
set_option maxRecDepth 100000
namespace Go.Air.Try
def fi1 (k : Nat) : Option FI := match k with
  | 4 => some (primFI 0 9)
  | 10 => some (primFI 1 0)
  | 38 => some (primFI 1 1)
  | k => tree.get k
def tb1 : Tb := ⟨fi1, primV, ext⟩
end Go.Air.Try
namespace Go.Air
open Go.Air.Try
section
variable {S Sp : V → H → Prop} {h : H}
@[go_sem ↓] theorem fn1_alive : WX tb1 (.fn 4 [] []) [] h S Sp ↔ S (.b true) h := WC_prim (m := 0) (n := 9) (b := none) rfl rfl
def sumV (bs : List Nat) : V := .agg ((Sha.sum bs).map u8)
end
theorem fit_u8 : ∀ (l : List Nat), fitL (List.replicate l.length (.i .u8 : KT)) (l.map u8) = true
  | [] => rfl
  | c :: l => by
    show (KT.fits (.i .u8) (u8 c) && fitL (List.replicate l.length (.i .u8 : KT)) (l.map u8)) = true
    rw [fit_u8 l]; rfl
theorem cellsEq_u8 : ∀ (l m : List Nat), cellsEq (l.map u8) (m.map u8) = decide (l = m)
  | [], [] => rfl
  | [], _ :: _ => by simp [cellsEq]
  | _ :: _, [] => by simp [cellsEq]
  | c :: l, d :: m => by
    show (decide ((c : Int) = (d : Int)) && cellsEq (l.map u8) (m.map u8)) = _
    rw [cellsEq_u8 l m]
    simp only [List.cons.injEq, Bool.decide_and]
    congr 1
    simp only [Int.natCast_inj]
theorem eq_u8s {l m : List Nat} {n : Nat} (hl : l.length = n) (hm : m.length = n) : eqV (.agg (List.replicate n (.i .u8))) (.agg (l.map u8)) (.agg (m.map u8)) = some (decide (l = m)) := by
  have h1 : fitL (List.replicate n (.i .u8 : KT)) (l.map u8) = true := by rw [← hl]; exact fit_u8 l
  have h2 : fitL (List.replicate n (.i .u8 : KT)) (m.map u8) = true := by rw [← hm]; exact fit_u8 m
  simp only [eqV, h1, h2, Bool.and_self, if_true, cellsEq_u8]
theorem sum_len (bs : List Nat) : (Sha.sum bs).length = 32 := rfl
@[go_sem] theorem eq_sum (a b : List Nat) : eqV (.agg (List.replicate 32 (.i .u8))) (sumV a) (sumV b) = some (decide (Sha.sum a = Sha.sum b)) := eq_u8s (sum_len a) (sum_len b)
end Go.Air
set_option maxRecDepth 100000
namespace Go.Air
open Go.Air.Try
structure Tb4 (h : H) : Prop where
  lt : topBlk ≤ h.next
  is : isTab (h.get tabBlk) = true
  syn : isErr (h.get synBlk) = true
  rng : isErr (h.get rngBlk) = true
theorem Tb4.ext {h h' : H} (t : Tb4 h) (e : Ext h h') : Tb4 h' := by
  have key : ∀ b ∈ fixB, h'.get b = h.get b := fun b hb => e.same _ (Nat.lt_of_lt_of_le (fix_lt hb) t.lt)
  exact ⟨Nat.le_trans t.lt e.nx, by rw [key _ tab_mem]; exact t.is, by rw [key _ syn_mem]; exact t.syn, by rw [key _ rng_mem]; exact t.rng⟩
theorem Tb4.bare {h : H} (t : Tb4 h) : Tb4 h.bare := ⟨t.lt, t.is, t.syn, t.rng⟩
def I64 (n : Int) : Prop := -9223372036854775808 ≤ n ∧ n ≤ 9223372036854775807
section
variable {S Sp : V → H → Prop} {h : H}
theorem fn_itoa (ht : Tb4 h) {n : Int} (hn : I64 n) : WX tb1 (.fn 38 [] []) [.i .i64 n] h S Sp ↔ S (.s (itoa n)) h := by
  refine WC_prim (m := 1) (n := 1) (b := none) rfl ?_
  show (if isTab (h.get tabBlk) && (decide (-9223372036854775808 ≤ n) && decide (n ≤ 9223372036854775807)) then some (V.s (itoa n), (none : Option Blk)) else none) = _
  rw [show isTab (h.get tabBlk) = true from ht.is, decide_eq_true hn.1, decide_eq_true hn.2]
  rfl
theorem digitsF_len : ∀ (f n : Nat) (acc : List Nat), (digitsF f n acc).length ≤ f + acc.length
  | 0, _, _ => by simp [digitsF]
  | f + 1, n, acc => by
    rw [digitsF]
    split
    · simp; omega
    · refine Nat.le_trans (digitsF_len f _ _) ?_
      simp; omega
theorem itoa_len (n : Int) : (itoa n).length ≤ 21 := by
  unfold itoa
  split
  · have := digitsF_len 20 n.natAbs []
    simp [digits] at this ⊢; omega
  · have := digitsF_len 20 n.toNat []
    simp [digits] at this ⊢; omega
def btw (a lo hi : Int) : Bool := decide (lo ≤ a) && decide (a ≤ hi)
theorem t80 : tb1 29 = some a29 := by kernel_rfl
theorem t83 : tb1 40 = some a40 := by kernel_rfl
theorem t89 : tb1 17 = some a17 := by kernel_rfl
@[go_sem ↓] theorem fn_between {a b c : Int} : WX tb1 (.fn 29 [] []) [.i .i64 a, .i .i64 b, .i .i64 c] h S Sp ↔ S (.b (btw a b c)) h := by
  rw [WC_in t80]
  unfold btw
  by_cases h1 : b ≤ a
  · simp only [go_sem, ↓reduceIte, r29_0, r29_1, h1]
    rfl
  · simp only [go_sem, ↓reduceIte, r29_0, r29_1, h1]
    rfl
@[go_sem ↓] theorem fn_within {a b c : Int} : WX tb1 (.fn 40 [] []) [.i .i64 a, .i .i64 b, .i .i64 c] h S Sp ↔ S (.b (btw a b c)) h := by
  rw [WC_in t83]
  unfold btw
  by_cases h1 : b ≤ a
  · simp only [go_sem, ↓reduceIte, r40_0, r40_1, h1]
    rfl
  · simp only [go_sem, ↓reduceIte, r40_0, r40_1, h1]
    rfl
theorem fn_num (ht : Tb4 h) {n : Int} (hn : I64 n) : WX tb1 (.fn 17 [] []) [.i .i64 n] h S Sp ↔ S (.s (32 :: itoa n)) h := by
  rw [WC_in t89]
  have := itoa_len n
  have e : binV .add (.s [32]) (.s (itoa n)) = some (.s ([32] ++ itoa n)) := bin_sadd (by simp; omega)
  simp only [go_sem, ↓reduceIte, r17_0, r17_1, fn_itoa ht hn, e]
  rfl
end
def numText (xs : List Int) : List Nat := joinL [32] (xs.map itoa)
theorem fill1_s {l : List Nat} : fill1 (.s l) = some [.s l] := rfl
theorem t87 : tb1 15 = some a15 := by kernel_rfl
theorem strsOf_s : ∀ l : List (List Nat), strsOf (l.map V.s) = some l
  | [] => rfl
  | x :: l => by rw [List.map_cons, strsOf, strsOf_s l]; rfl
theorem joinL_len (sep : List Nat) : ∀ (l : List (List Nat)) (m : Nat), (∀ x ∈ l, x.length ≤ m) → (joinL sep l).length ≤ l.length * (m + sep.length)
  | [], m, _ => by simp [joinL]
  | [x], m, h => by have := h x (by simp); simp [joinL]; omega
  | x :: y :: l, m, h => by
    have ih := joinL_len sep (y :: l) m fun z hz => h z (List.mem_cons_of_mem _ hz)
    have h1 := h x (by simp)
    simp only [joinL, List.length_append, List.length_cons] at ih ⊢
    rw [Nat.add_mul]
    omega
theorem fn_join {S Sp : V → H → Prop} {h h0 : H} {v : V} {l : List (List Nat)} (o : Own h0 1 h v l.length (l.map V.s)) (hl : l.length ≤ 1000) (hm : ∀ x ∈ l, x.length ≤ 21) : WX tb1 (.fn 39 [] []) [v, .s [32]] h S Sp ↔ S (.s (joinL [32] l)) h := by
  refine WC_prim (m := 2) (n := 2) (b := none) rfl ?_
  have hs : strsAt h v = some l := by
    obtain ⟨hlen, ⟨h0, rfl⟩ | ⟨b, g, rfl, _, _, h2, h3⟩⟩ := o
    · obtain rfl := List.eq_nil_of_length_eq_zero h0
      rfl
    · have h3 : h.get b = some (.cells (l.map V.s)) := h3
      have hc : cut (l.map V.s) 0 (l.length * 1) = some (l.map V.s) := cut_eq.2 ⟨by simp, by rw [Nat.mul_one, List.drop_zero, List.take_of_length_le (by simp)]⟩
      have hble : Nat.ble l.length l.length = true := by rw [Nat.ble_eq]; exact Nat.le_refl _
      simp only [strsAt, hble, if_true, sourceCells, h3, Blk.rd, hc, strsOf_s]
  have hj := joinL_len [32] l 21 hm
  show (match strsAt h v with
    | none => none
    | some l => if Nat.ble l.length 140737488355328 && Nat.ble (joinL [32] l).length 140737488355328 then some (V.s (joinL [32] l), (none : Option Blk)) else none) = _
  rw [hs]
  have h1 : Nat.ble l.length 140737488355328 = true := by rw [Nat.ble_eq]; omega
  have h2 : Nat.ble (joinL [32] l).length 140737488355328 = true := by
    rw [Nat.ble_eq]
    have : l.length * (21 + [32].length) ≤ 1000 * 22 := Nat.mul_le_mul hl (by simp)
    omega
  simp only [h1, h2, Bool.and_self, if_true]
theorem nums_len (xs : List Int) : (numText xs).length ≤ xs.length * 22 := by
  have := joinL_len [32] (xs.map itoa) 21 (fun x hx => by obtain ⟨n, _, rfl⟩ := List.mem_map.1 hx; exact itoa_len n)
  simpa [numText] using this
structure M87 (h hh : H) (u : V) (l : List (List Nat)) : Prop where
  ext : Ext h hh
  own : Own h 1 hh u l.length (l.map V.s)
theorem one_s {h0 hh : H} (e : Ext h0 hh) (c : List Nat) : Sl 1 (hh.new (.cells [.s c])) (.sl hh.next 0 1 1 none) 1 [.s c] := (Own.lit (esz := 1) e [.s c] 1 rfl).1.sl
theorem M87.app {h hh : H} {u : V} {l : List (List Nat)} (q : M87 h hh u l) (hn : l.length ≤ 1000) (c : List Nat) :
    ∃ u' h', appendV 1 16 (hh.new (.cells [.s c])) u (.sl hh.next 0 1 1 none) = .ok u' h' ∧ M87 h h' u' (l ++ [c]) := by
  have e1 : Ext h (hh.new (.cells [.s c])) := q.ext.new _
  obtain ⟨v', h', q1, q2, q3, _⟩ := (q.own.ext ((Ext.refl hh).new _)).app (bytes := 16) e1 (one_s q.ext c) (by intro u hu; simp at hu; subst hu; rfl) (by omega) (by omega) (by omega)
  exact ⟨v', h', q1, q2, by simpa using q3⟩
theorem fn_numbers {h : H} (ht : Tb4 h) {v : V} {xs : List Int} (hv : Sl 1 h v xs.length (xs.map (V.i .i64))) (hx : ∀ x ∈ xs, I64 x) (hn : xs.length ≤ 1000) :
    WC tb1 (.fn 15 [] []) [v] h fun u h' => u = .s (numText xs) ∧ Ext h h' := by
  refine (WC_in t87).2 ?_
  have hlv := hv.len
  simp only [go_sem, ↓reduceIte, r15_0, r15_1, r15_2, hlv]
  refine W_while (fun k t h' => ∃ i u, k = xs.length - i ∧ i ≤ xs.length ∧ t.length = 20 ∧ nth t 3 = u ∧ nth t 6 = v ∧ nth t 7 = .i .i64 (xs.length : Int) ∧ nth t 8 = .i .i64 (i : Int) ∧ M87 h h' u ((xs.take i).map itoa)) ?_ xs.length ?_
  · rintro k t h' ⟨i, u, rfl, hi, tl, t3, t6, t7, t8, q⟩
    unfold b15_0
    by_cases hin : i < xs.length
    · have hI : (i : Int) < (xs.length : Int) := by omega
      have hs := hv.ext q.ext
      have hix := hs.ix hin
      have hd := hs.ld1 hin
      have hg : (xs.map (V.i .i64))[i]? = some (.i .i64 xs[i]) := by rw [List.getElem?_map, List.getElem?_eq_getElem hin]; rfl
      rw [hg] at hd
      have hxi : I64 xs[i] := hx _ (List.getElem_mem hin)
      obtain ⟨u', h2, a1, a2⟩ := q.app (by simp; omega) (itoa xs[i])
      simp only [go_sem, ↓reduceIte, r15_3, r15_4, r15_5, r15_6, tl, t3, t6, t7, t8, hI, hix, hd, fn_itoa (ht.ext q.ext) hxi, fill1_s, a1, wrap_succ (show i < 1000000000 by omega)]
      refine ⟨xs.length - (i + 1), by omega, i + 1, u', rfl, by omega, rfl, rfl, ?_⟩
      rw [take_succ' (List.getElem?_eq_getElem hin), List.map_append]
      exact a2
    · have hI : ¬ (i : Int) < (xs.length : Int) := by omega
      obtain rfl : i = xs.length := by omega
      rw [List.take_of_length_le (Nat.le_refl _)] at q
      simp only [go_sem, ↓reduceIte, r15_3, r15_7, tl, t3, t7, t8, hI]
      refine (fn_join (l := xs.map itoa) q.own (by simpa using hn) (fun x hx => by
        obtain ⟨n, _, rfl⟩ := List.mem_map.1 hx
        exact itoa_len n)).2 ?_
      simp only [go_sem, ↓reduceIte, tl]
      exact ⟨rfl, q.ext⟩
  · exact ⟨0, .sn, by omega, by omega, by simp only [go_sem, ↓reduceIte], by simp only [go_sem, ↓reduceIte], by simp only [go_sem, ↓reduceIte], by simp only [go_sem, ↓reduceIte], by simp only [go_sem, ↓reduceIte], .refl h, .nil⟩
end Go.Air
set_option maxRecDepth 100000
namespace Go.Air
open Go.Air.Try
def cutL (c : Nat) : List Nat → Option (List Nat × List Nat)
  | [] => none
  | x :: l => if x = c then some ([], l) else (cutL c l).map fun p => (x :: p.1, p.2)
def splitL (c : Nat) : List Nat → List (List Nat)
  | [] => [[]]
  | x :: l => if x = c then [] :: splitL c l else match splitL c l with
    | [] => [[x]]
    | w :: ws => (x :: w) :: ws
theorem cutL_some {c : Nat} : ∀ {l a b : List Nat}, cutL c l = some (a, b) → l = a ++ c :: b ∧ c ∉ a
  | [], _, _, h => by cases h
  | x :: l, a, b, h => by
    rw [cutL] at h
    split at h
    · rename_i e; subst e; cases h; exact ⟨rfl, by simp⟩
    · rename_i e
      obtain ⟨⟨a', b'⟩, h1, h2⟩ := Option.map_eq_some_iff.1 h
      cases h2
      obtain ⟨rfl, h4⟩ := cutL_some h1
      refine ⟨rfl, ?_⟩
      rw [List.mem_cons, not_or]
      exact ⟨fun q => e q.symm, h4⟩
theorem cutL_none {c : Nat} : ∀ {l : List Nat}, cutL c l = none → c ∉ l
  | [], _ => by simp
  | x :: l, h => by
    rw [cutL] at h
    split at h
    · cases h
    · rename_i e
      rw [Option.map_eq_none_iff] at h
      rw [List.mem_cons, not_or]
      exact ⟨fun q => e q.symm, cutL_none h⟩
theorem cutL_of {c : Nat} : ∀ {a b : List Nat}, c ∉ a → cutL c (a ++ c :: b) = some (a, b)
  | [], b, _ => by simp [cutL]
  | x :: a, b, h => by
    rw [List.mem_cons, not_or] at h
    rw [List.cons_append, cutL, if_neg (fun e => h.1 e.symm), cutL_of h.2]; rfl
theorem splitL_ne (c : Nat) : ∀ l, splitL c l ≠ []
  | [] => by simp [splitL]
  | x :: l => by
    rw [splitL]
    split
    · simp
    · split <;> simp
theorem splitL_none {c : Nat} : ∀ {l : List Nat}, c ∉ l → splitL c l = [l]
  | [], _ => rfl
  | x :: l, h => by
    rw [List.mem_cons, not_or] at h
    rw [splitL, if_neg (fun e => h.1 e.symm), splitL_none h.2]
theorem splitL_cut {c : Nat} : ∀ {a b : List Nat}, c ∉ a → splitL c (a ++ c :: b) = a :: splitL c b
  | [], b, _ => by simp [splitL]
  | x :: a, b, h => by
    rw [List.mem_cons, not_or] at h
    rw [List.cons_append, splitL, if_neg (fun e => h.1 e.symm), splitL_cut h.2]
theorem splitL_length (c : Nat) : ∀ l : List Nat, (splitL c l).length = l.countP (Nat.beq c) + 1
  | [] => rfl
  | x :: l => by
    have ih := splitL_length c l
    rw [splitL, List.countP_cons]
    split
    · rename_i e; subst e; simp [ih]
    · rename_i e
      have : Nat.beq c x = false := by rw [Bool.eq_false_iff, ne_eq, Nat.beq_eq]; exact fun q => e q.symm
      rw [this]
      split
      · rename_i q; exact (splitL_ne c l q).elim
      · rename_i w ws q; rw [q] at ih; simpa using ih
theorem count_cut {c : Nat} {a b : List Nat} (h : c ∉ a) : (a ++ c :: b).countP (Nat.beq c) = b.countP (Nat.beq c) + 1 := by
  have h1 : a.countP (Nat.beq c) = 0 := by
    rw [List.countP_eq_zero]
    intro x hx e
    rw [Nat.beq_eq] at e
    subst e; exact h hx
  rw [List.countP_append, h1, List.countP_cons]
  simp
theorem count_none {c : Nat} {l : List Nat} (h : c ∉ l) : l.countP (Nat.beq c) = 0 := by
  rw [List.countP_eq_zero]
  intro x hx e
  rw [Nat.beq_eq] at e
  subst e; exact h hx
theorem idxB_none {c : Nat} : ∀ {l : List Nat} (i : Nat), c ∉ l → idxB c l i = -1
  | [], _, _ => rfl
  | x :: l, i, h => by
    rw [List.mem_cons, not_or] at h
    rw [idxB, if_neg (fun e => h.1 e.symm), idxB_none _ h.2]
theorem idxB_cut {c : Nat} : ∀ {a b : List Nat} (i : Nat), c ∉ a → idxB c (a ++ c :: b) i = ((a.length + i : Nat) : Int)
  | [], b, i, _ => by simp [idxB]
  | x :: a, b, i, h => by
    rw [List.mem_cons, not_or] at h
    rw [List.cons_append, idxB, if_neg (fun e => h.1 e.symm), idxB_cut (i + 1) h.2]
    simp; omega
section
variable {S Sp : V → H → Prop} {h : H}
theorem fn_idxB {l : List Nat} {c : Nat} (hc : c < 256) : WX tb1 (.fn 296 [] []) [.s l, .i .u8 (c : Int)] h S Sp ↔ S (.i .i64 (idxB c l 0)) h := by
  refine WC_prim (m := 2) (n := 5) (b := none) rfl ?_
  show (if Nat.blt c 256 then some (V.i .i64 (idxB c l 0), (none : Option Blk)) else none) = _
  rw [if_pos (by rw [Nat.blt_eq]; exact hc)]
theorem fn_cntB {l : List Nat} {c : Nat} (hc : c < 256) : WX tb1 (.fn 214 [] []) [.s l, .i .u8 (c : Int)] h S Sp ↔ S (.i .i64 ((l.countP (Nat.beq c) : Nat) : Int)) h := by
  refine WC_prim (m := 2) (n := 6) (b := none) rfl ?_
  show (if Nat.blt c 256 then some (V.i .i64 (.ofNat (l.countP (Nat.beq c))), (none : Option Blk)) else none) = _
  rw [if_pos (by rw [Nat.blt_eq]; exact hc)]; rfl
theorem t374 : tb1 208 = some a208 := by kernel_rfl
theorem t385 : tb1 151 = some a151 := by kernel_rfl
theorem t386 : tb1 148 = some a148 := by kernel_rfl
theorem t269 : tb1 96 = some a96 := by kernel_rfl
theorem t166 : tb1 69 = some a69 := by kernel_rfl
theorem t384 : tb1 150 = some a150 := by kernel_rfl
theorem t268 : tb1 97 = some a97 := by kernel_rfl
theorem t165 : tb1 70 = some a70 := by kernel_rfl
theorem t162 : tb1 47 = some a47 := by kernel_rfl
theorem t93 : tb1 21 = some a21 := by kernel_rfl
theorem fn_indexByte {l : List Nat} {c : Nat} (hc : c < 256) : WX tb1 (.fn 208 [] []) [.s l, .i .u8 (c : Int)] h S Sp ↔ S (.i .i64 (idxB c l 0)) h := by
  rw [WC_in t374]
  simp only [go_sem, ↓reduceIte, r208_0, r208_1, fn_idxB hc]
theorem ixS_one {c : Nat} : ixSV (.s [c]) (.i .i64 0) = some (.i .u8 (c : Int)) := rfl
theorem fn_index {l : List Nat} {c : Nat} (hc : c < 256) : WX tb1 (.fn 148 [] []) [.s l, .s [c]] h S Sp ↔ S (.i .i64 (idxB c l 0)) h := by
  rw [WC_in t386]
  by_cases e : [c] = l
  · subst e
    have e1 : binV .eql (.s [c]) (.s [c]) = some (.b true) := by rw [bin_seq]; simp
    have e2 : idxB c [c] 0 = 0 := by simp [idxB]
    simp only [go_sem, ↓reduceIte, r148_0, r148_1, r148_2, r148_3, e1, e2, natCast_one, Int.reduceEq]
  · have e1 : binV .eql (.s [c]) (.s l) = some (.b false) := by rw [bin_seq, decide_eq_false e]
    simp only [go_sem, ↓reduceIte, r148_0, r148_1, r148_2, r148_4, r148_5, e1, natCast_one, Int.reduceEq, ixS_one, fn_indexByte hc]
theorem fn_Index {l : List Nat} {c : Nat} (hc : c < 256) : WX tb1 (.fn 151 [] []) [.s l, .s [c]] h S Sp ↔ S (.i .i64 (idxB c l 0)) h := by
  rw [WC_in t385]
  simp only [go_sem, ↓reduceIte, r151_0, r151_1, fn_index hc]
theorem slc_hi {t : List V} {l : List Nat} {k n : Nat} (hk : nth t k = .i .i64 (n : Int)) (hn : n ≤ l.length) : slcSV t (.s l) none (some (.t k)) = some (.s (l.take n)) := by
  have hb : bounds t l.length l.length none (some (.t k)) = some (0, n) := bounds_hi (by rw [ev_t, hk]; rfl) hn
  simp only [slcSV, hb, Option.map_some, List.drop_zero, Nat.sub_zero]
theorem slc_lo {t : List V} {l : List Nat} {k n : Nat} (hk : nth t k = .i .i64 (n : Int)) (hn : n ≤ l.length) : slcSV t (.s l) (some (.t k)) none = some (.s (l.drop n)) := by
  have hb : bounds t l.length l.length (some (.t k)) none = some (n, l.length) := bounds_lo (by rw [ev_t, hk]; rfl) (Nat.le_refl _) hn
  simp only [slcSV, hb, Option.map_some]
  rw [List.take_of_length_le (by simp)]
def cutR (c : Nat) (l : List Nat) : V := match cutL c l with
  | some (a, b) => .tup [.s a, .s b, .b true]
  | none => .tup [.s l, .s [], .b false]
theorem fn_cut0 {l : List Nat} {c : Nat} (hc : c < 256) (hl : l.length ≤ 1000000000) : WX tb1 (.fn 96 [] []) [.s l, .s [c]] h S Sp ↔ S (cutR c l) h := by
  rw [WC_in t269]
  unfold cutR
  cases hq : cutL c l with
  | none =>
    have h1 := idxB_none 0 (cutL_none hq)
    simp only [go_sem, ↓reduceIte, r96_0, r96_1, r96_2, r96_4, fn_index hc, h1]
  | some p =>
    obtain ⟨a, b⟩ := p
    obtain ⟨rfl, hca⟩ := cutL_some hq
    have h1 := idxB_cut (b := b) 0 hca
    rw [Nat.add_zero] at h1
    have h2 : (0 : Int) ≤ (a.length : Int) := by omega
    have hlen : (a ++ c :: b).length = a.length + b.length + 1 := by simp; omega
    have h3 : IntKind.i64.wrap ((a.length : Int) + 1) = ((a.length + 1 : Nat) : Int) := wrap_succ (by omega)
    have k1 : (a ++ c :: b).take a.length = a := List.take_left' rfl
    have k2 : (a ++ c :: b).drop (a.length + 1) = b := by
      rw [← List.drop_drop, List.drop_left' rfl]; rfl
    simp only [go_sem, ↓reduceIte, r96_0, r96_1, r96_2, r96_3, fn_index hc, h1, h2, natCast_one]
    rw [slc_hi (k := 14) (n := a.length) (by simp only [go_sem, ↓reduceIte]) (by omega)]
    simp only [go_sem, ↓reduceIte, natCast_one, h3]
    rw [slc_lo (k := 20) (n := a.length + 1) (by simp only [go_sem, ↓reduceIte]) (by omega)]
    simp only [go_sem, ↓reduceIte, k1, k2]
theorem fn_Cut {l : List Nat} {c : Nat} (hc : c < 256) (hl : l.length ≤ 1000000000) : WX tb1 (.fn 69 [] []) [.s l, .s [c]] h S Sp ↔ S (cutR c l) h := by
  rw [WC_in t166]
  have key : ∃ x y z, cutR c l = .tup [x, y, z] := by unfold cutR; cases cutL c l <;> exact ⟨_, _, _, rfl⟩
  obtain ⟨x, y, z, hk⟩ := key
  simp only [go_sem, ↓reduceIte, r69_0, r69_1, fn_cut0 hc hl, hk, extV_2]
theorem fn_count {l : List Nat} {c : Nat} (hc : c < 256) : WX tb1 (.fn 150 [] []) [.s l, .s [c]] h S Sp ↔ S (.i .i64 ((l.countP (Nat.beq c) : Nat) : Int)) h := by
  rw [WC_in t384]
  simp only [go_sem, ↓reduceIte, r150_0, r150_1, r150_3, r150_4, natCast_one, Int.reduceEq, ixS_one, fn_cntB hc]
end
end Go.Air
set_option maxRecDepth 100000
namespace Go.Air
open Go.Air.Try
theorem rep_one (z : V) : ∀ n, rep [z] n = List.replicate n z
  | 0 => rfl
  | n + 1 => by rw [rep, rep_one z n]; rfl
theorem minL_2 {k : IntKind} {a b : Int} : minL false [.i k a, .i k b] = some (.i k (if b < a then b else a)) := rfl
section
variable {h : H}
theorem mkSl_ok {z : V} {n bytes : Nat} (hb : bytes ≤ 64) (hn : n ≤ 2000000000) : mkSlR h [z] bytes (some n) (some n) = .ok (.sl h.next 0 n n none) (h.new (.cells (List.replicate n z))) := by
  have h1 : Nat.ble n n = true := by rw [Nat.ble_eq]; exact Nat.le_refl _
  have h2 : Nat.ble n 281474976710656 = true := by rw [Nat.ble_eq]; omega
  have h3 : Nat.ble (bytes * n) 281474976710656 = true := by
    rw [Nat.ble_eq]
    have : bytes * n ≤ 64 * 2000000000 := Nat.mul_le_mul hb hn
    omega
  simp only [mkSlR, h1, h2, h3, Bool.and_self, if_true, rep_one]
theorem set_next {pre : List (List Nat)} {k : Nat} {w : List Nat} {z : V} : (pre.map V.s ++ List.replicate (k + 1) z).set pre.length (.s w) = (pre ++ [w]).map V.s ++ List.replicate k z := by
  have h1 : (pre.map V.s).length = pre.length := by simp
  rw [List.set_eq_take_append_cons_drop, if_pos (by simp)]
  rw [List.take_left' h1, List.map_append, List.append_assoc]
  congr 1
  rw [← List.drop_drop, List.drop_left' h1]
  simp
structure SplitR (h : H) (u : V) (h' : H) (ws : List (List Nat)) : Prop where
  ext : Ext h h'
  eq : u = .sl h.next 0 ws.length ws.length none
  nx : h.next < h'.next
  get : h'.get h.next = some (.cells (ws.map V.s))
theorem SplitR.arg {h h' : H} {u : V} {ws : List (List Nat)} (q : SplitR h u h' ws) : Arg 1 h' u ws.length (ws.map V.s) :=
  .inr ⟨h.next, 0, _, _, q.eq, Nat.le_refl _, q.nx, q.get, cut_eq.2 ⟨by simp, by rw [Nat.mul_one, List.drop_zero, List.take_of_length_le (by simp)]⟩⟩
structure M268 (h hh : H) (l : List Nat) (c n : Nat) (pre : List (List Nat)) (s : List Nat) : Prop where
  ext : Ext h hh
  nx : h.next < hh.next
  get : hh.get h.next = some (.cells (pre.map V.s ++ List.replicate (n + 1 - pre.length) (.s [])))
  eq : splitL c l = pre ++ splitL c s
  cnt : s.countP (Nat.beq c) + pre.length = n
  len : s.length ≤ l.length
theorem M268.put {h hh : H} {l : List Nat} {c n : Nat} {pre : List (List Nat)} {s w : List Nat} (q : M268 h hh l c n pre s) : stV hh 1 (.p h.next (0 + pre.length * 1)) (.s w) = some (hh.put h.next (.cells ((pre ++ [w]).map V.s ++ List.replicate (n - pre.length) (.s [])))) := by
  have hle : pre.length ≤ n := by have := q.cnt; omega
  have := blk_st0 (x := .s w) (i := pre.length) q.get (by simp; omega) rfl rfl
  rw [this, show n + 1 - pre.length = (n - pre.length) + 1 by omega, set_next]
theorem fn_genSplit {l : List Nat} {c : Nat} (hc : c < 256) (hl : l.length ≤ 100000000) :
    WC tb1 (.fn 97 [] []) [.s l, .s [c], .i .i64 0, .i .i64 (-1)] h fun u h' => SplitR h u h' (splitL c l) := by
  refine (WC_in t268).2 ?_
  have hcl : l.countP (Nat.beq c) ≤ l.length := List.countP_le_length
  have w1 : IntKind.i64.wrap (((l.countP (Nat.beq c) : Nat) : Int) + 1) = ((l.countP (Nat.beq c) + 1 : Nat) : Int) := wrap_succ (by omega)
  have w2 : IntKind.i64.wrap ((l.length : Int) + 1) = ((l.length + 1 : Nat) : Int) := wrap_succ (by omega)
  have w3 : IntKind.i64.wrap (((l.countP (Nat.beq c) + 1 : Nat) : Int) - 1) = ((l.countP (Nat.beq c) : Nat) : Int) := by rw [wrap_in (by omega) (by omega)]; omega
  have e1 : binV .eql (.s [c]) (.s []) = some (.b false) := by rw [bin_seq]; simp
  have m1 : (if ((l.length + 1 : Nat) : Int) < ((l.countP (Nat.beq c) + 1 : Nat) : Int) then ((l.length + 1 : Nat) : Int) else ((l.countP (Nat.beq c) + 1 : Nat) : Int)) = ((l.countP (Nat.beq c) + 1 : Nat) : Int) := if_neg (by omega)
  have mk := mkSl_ok (h := h) (z := .s []) (n := l.countP (Nat.beq c) + 1) (bytes := 16) (by omega) (by omega)
  simp only [go_sem, ↓reduceIte, r97_0, r97_1, r97_3, r97_5, r97_6, r97_7, r97_8, r97_9, r97_10, e1, fn_count hc, w1, w2, minL_2, m1, mk, w3]
  generalize hn : l.countP (Nat.beq c) = n
  rw [hn] at hcl
  refine W_while (fun k t h' => ∃ pre s, k = n - pre.length ∧ t.length = 66 ∧ nth t 0 = .s s ∧ nth t 1 = .s [c] ∧ nth t 2 = .i .i64 0 ∧ nth t 3 = .i .i64 (n : Int) ∧ nth t 9 = .sl h.next 0 (n + 1) (n + 1) none ∧ nth t 10 = .i .i64 (pre.length : Int) ∧ M268 h h' l c n pre s) ?_ n ?_
  · rintro k t h' ⟨pre, s, rfl, tl, u0, u1, u2, u3, u9, u10, q⟩
    unfold b97_0
    have hle : pre.length ≤ n := by have := q.cnt; omega
    have hix : ixV 1 (.sl h.next 0 (n + 1) (n + 1) none) (.i .i64 (pre.length : Int)) = some (.p h.next (0 + pre.length * 1)) := by
      have hs : Sl 1 h' (.sl h.next 0 (n + 1) (n + 1) none) (n + 1) (pre.map V.s ++ List.replicate (n + 1 - pre.length) (.s [])) := .inr ⟨h.next, 0, _, _, _, rfl, q.nx, q.get, cut_eq.2 ⟨by simp; omega, by rw [List.drop_zero, List.take_of_length_le (by simp; omega)]⟩⟩
      exact hs.ix (by omega)
    have w4 : IntKind.i64.wrap ((pre.length : Int) + 1) = ((pre.length + 1 : Nat) : Int) := wrap_succ (by omega)
    by_cases hin : pre.length < n
    · have hI : (pre.length : Int) < (n : Int) := by omega
      cases hq : cutL c s with
      | none =>
        have h1 := count_none (cutL_none hq)
        have := q.cnt
        omega
      | some p =>
        obtain ⟨a, b⟩ := p
        obtain ⟨rfl, hca⟩ := cutL_some hq
        have h1 := idxB_cut (b := b) 0 hca
        rw [Nat.add_zero] at h1
        have h2 : ¬ (a.length : Int) < 0 := by omega
        have hlen : (a ++ c :: b).length = a.length + b.length + 1 := by simp; omega
        have hql := q.len
        have w5 : IntKind.i64.wrap ((a.length : Int) + 0) = (a.length : Int) := by rw [wrap_in (by omega) (by omega)]; omega
        have w6 : IntKind.i64.wrap ((a.length : Int) + 1) = ((a.length + 1 : Nat) : Int) := wrap_succ (by omega)
        have k1 : (a ++ c :: b).take a.length = a := List.take_left' rfl
        have k2 : (a ++ c :: b).drop (a.length + 1) = b := by
          rw [← List.drop_drop, List.drop_left' rfl]; rfl
        have hput := q.put (w := a)
        simp only [go_sem, ↓reduceIte, r97_11, r97_12, r97_13, r97_14, tl, u0, u1, u2, u3, u9, u10, hI, fn_Index hc, h1, h2, w5]
        rw [slc_hi (k := 47) (n := a.length) (by simp only [go_sem, ↓reduceIte, tl]) (by omega)]
        simp only [go_sem, ↓reduceIte, r97_15, tl, u0, u1, u2, u3, u9, u10, k1, hix, hput, natCast_one, w6]
        rw [slc_lo (k := 54) (n := a.length + 1) (by simp only [go_sem, ↓reduceIte, tl]) (by omega)]
        simp only [go_sem, ↓reduceIte, r97_16, tl, u0, u1, u2, u3, u9, u10, k2, w4]
        refine ⟨n - (pre ++ [a]).length, by simp; omega, pre ++ [a], b, rfl, ?_⟩
        refine ⟨by simp, by simp, q.ext.put (Nat.le_refl _) _, q.nx, ?_, ?_, ?_, by omega⟩
        · rw [get_put_eq]
          congr 4
          simp
        · rw [q.eq, splitL_cut hca]; simp
        · have := q.cnt
          rw [count_cut hca] at this
          simp; omega
    · have hI : ¬ (pre.length : Int) < (n : Int) := by omega
      obtain rfl : pre.length = n := by omega
      have hcs : c ∉ s := by
        have h0 : s.countP (Nat.beq c) = 0 := by have := q.cnt; omega
        intro hm
        have := List.countP_eq_zero.1 h0 c hm
        simp at this
      have hput := q.put (w := s)
      have hsp : splitL c l = pre ++ [s] := by rw [q.eq, splitL_none hcs]
      have p1 : slHi 1 (.sl h.next 0 (pre.length + 1) (pre.length + 1) none) (.i .i64 ((pre.length + 1 : Nat) : Int)) = some (.sl h.next 0 (pre.length + 1) (pre.length + 1) none) := by
        have hb : ∀ t : List V, t = [.i .i64 ((pre.length + 1 : Nat) : Int)] → bounds t (pre.length + 1) (pre.length + 1) none (some (.t 0)) = some (0, pre.length + 1) := by
          rintro t rfl
          exact bounds_hi rfl (Nat.le_refl _)
        simp only [slHi, sliceV, hb _ rfl]
        simp
      simp only [go_sem, ↓reduceIte, r97_11, r97_17, r97_18, tl, u0, u1, u2, u3, u9, u10, hI, hix, hput, w4, p1]
      rw [hsp]
      refine ⟨q.ext.put (Nat.le_refl _) _, by simp, q.nx, ?_⟩
      rw [get_put_eq]
      simp
  · exact ⟨[], l, rfl, by simp only [go_sem, ↓reduceIte], by simp only [go_sem, ↓reduceIte], by simp only [go_sem, ↓reduceIte], by simp only [go_sem, ↓reduceIte], by simp only [go_sem, ↓reduceIte], by simp only [go_sem, ↓reduceIte], by simp only [go_sem, ↓reduceIte], (Ext.refl h).new _, by simp, by rw [get_new_eq rfl]; rfl, rfl, by simpa using hn, Nat.le_refl _⟩
theorem fn_Split {l : List Nat} {c : Nat} (hc : c < 256) (hl : l.length ≤ 100000000) :
    WC tb1 (.fn 70 [] []) [.s l, .s [c]] h fun u h' => SplitR h u h' (splitL c l) := by
  refine (WC_in t165).2 ?_
  simp only [go_sem, ↓reduceIte, r70_0, r70_1]
  refine (fn_genSplit hc hl).mono ?_
  rintro u h' q
  simp only [go_sem, ↓reduceIte]
  exact q
variable {S Sp : V → H → Prop}
theorem fn_hasPrefix0 {l p : List Nat} (hl : l.length ≤ 100000000) (hp : p.length ≤ 100000000) : WX tb1 (.fn 47 [] []) [.s l, .s p] h S Sp ↔ S (.b (decide (l.take p.length = p))) h := by
  rw [WC_in t162]
  by_cases e : (p.length : Int) ≤ (l.length : Int)
  · simp only [go_sem, ↓reduceIte, r47_0, r47_1, e]
    rw [slc_hi (k := 13) (n := p.length) (by simp only [go_sem, ↓reduceIte]) (by omega)]
    simp only [go_sem, ↓reduceIte, bin_seq]
  · have : decide (l.take p.length = p) = false := by
      rw [decide_eq_false_iff_not]
      intro q
      have := congrArg List.length q
      simp at this
      omega
    rw [this]
    simp only [go_sem, ↓reduceIte, r47_0, r47_1, e]
theorem fn_hasPrefix {l p : List Nat} (hl : l.length ≤ 100000000) (hp : p.length ≤ 100000000) : WX tb1 (.fn 21 [] []) [.s l, .s p] h S Sp ↔ S (.b (decide (l.take p.length = p))) h := by
  rw [WC_in t93]
  simp only [go_sem, ↓reduceIte, r21_0, r21_1, fn_hasPrefix0 hl hp]
end
end Go.Air
set_option maxRecDepth 100000
namespace Go.Air
open Go.Air.Try
theorem digitsF_dig : ∀ (f n : Nat) (acc : List Nat), (∀ c ∈ acc, 48 ≤ c ∧ c ≤ 57) → ∀ c ∈ digitsF f n acc, 48 ≤ c ∧ c ≤ 57
  | 0, _, _, h => h
  | f + 1, n, acc, h => by
    rw [digitsF]
    split
    · intro c hc
      rcases List.mem_cons.1 hc with rfl | hc
      · omega
      · exact h c hc
    · refine digitsF_dig f _ _ fun c hc => ?_
      rcases List.mem_cons.1 hc with rfl | hc
      · omega
      · exact h c hc
theorem digitsF_ne : ∀ (f n : Nat) (acc : List Nat), acc ≠ [] → digitsF f n acc ≠ []
  | 0, _, _, h => h
  | f + 1, n, acc, h => by
    rw [digitsF]
    split
    · simp
    · exact digitsF_ne f _ _ (by simp)
theorem digits_ne (n : Nat) : digits n ≠ [] := by
  unfold digits
  rw [digitsF]
  split
  · simp
  · exact digitsF_ne _ _ _ (by simp)
theorem digits_dig (n : Nat) : ∀ c ∈ digits n, 48 ≤ c ∧ c ≤ 57 := digitsF_dig 20 n [] (by simp)
theorem itoa_pos {n : Int} (h : 0 ≤ n) : itoa n = digits n.toNat := by
  unfold itoa
  rw [if_neg (by omega)]
theorem itoa_dig {n : Int} (h : 0 ≤ n) : ∀ c ∈ itoa n, 48 ≤ c ∧ c ≤ 57 := by rw [itoa_pos h]; exact digits_dig _
theorem itoa_ne {n : Int} (h : 0 ≤ n) : itoa n ≠ [] := by rw [itoa_pos h]; exact digits_ne _
theorem u8_nat {c : Nat} (h : c < 256) : (UInt8.ofNat c).toNat = c := by simp [Nat.mod_eq_of_lt h]
theorem parse_step {acc d : Nat} {r : List UInt8} (hd : d < 10) (ha : acc * 10 + d < 9223372036854775808) : Lib.parseUint10 acc (UInt8.ofNat (48 + d) :: r) = Lib.parseUint10 (acc * 10 + d) r := by
  have h1 : (UInt8.ofNat (48 + d)).toNat = 48 + d := u8_nat (by omega)
  rw [Lib.parseUint10, h1, if_pos ⟨by omega, by omega⟩, if_neg (by omega), if_neg (by omega)]
  congr 1
  omega
theorem parse_digits : ∀ (f n : Nat) (acc : List Nat), n < 10 ^ f → n < 9223372036854775808 → 0 < f → Lib.parseUint10 0 ((digitsF f n acc).map UInt8.ofNat) = Lib.parseUint10 n (acc.map UInt8.ofNat)
  | 0, _, _, _, _, h => by omega
  | f + 1, n, acc, hf, hn, _ => by
    rw [digitsF]
    split
    · rename_i h
      rw [List.map_cons, parse_step h (by omega)]
      congr 1
      omega
    · rename_i h
      have h1 : n / 10 < 10 ^ f := by rw [Nat.div_lt_iff_lt_mul (by omega)]; rw [Nat.pow_succ] at hf; exact hf
      have h2 : 0 < f := by
        rcases Nat.eq_zero_or_pos f with rfl | q
        · simp at hf; omega
        · exact q
      rw [parse_digits f (n / 10) _ h1 (by omega) h2, List.map_cons, parse_step (by omega) (by omega)]
      congr 1
      omega
theorem atoiE_itoa {n : Int} (h0 : 0 ≤ n) (h1 : n ≤ 9223372036854775807) : atoiE (itoa n) = .ok n := by
  unfold atoiE
  have hd := itoa_dig h0
  have hp := parse_digits 20 n.toNat [] (by omega) (by omega) (by omega)
  have he : (itoa n).map UInt8.ofNat = (digitsF 20 n.toNat []).map UInt8.ofNat := by rw [itoa_pos h0]; rfl
  cases hl : itoa n with
  | nil => exact (itoa_ne h0 hl).elim
  | cons c r =>
    rw [hl] at hd he
    have hc := hd c (by simp)
    rw [List.map_cons, Lib.atoiAll_plain _ _ (by rw [u8_nat (by omega)]; omega) (by rw [u8_nat (by omega)]; omega), ← List.map_cons, he]
    unfold Lib.parseMag
    rw [if_neg (by rw [← he]; simp), hp]
    simp only [List.map_nil, Lib.parseUint10, Lib.signless]
    rw [if_neg (by omega)]
    congr 1
    omega
def numOf (w : List Nat) : Option Int := match atoiE w with
  | .ok k => if k < 0 then none else if itoa k = w then some k else none
  | _ => none
def NumB (n : Int) : Prop := 0 ≤ n ∧ n ≤ 9223372036854775807
theorem NumB.i64 {n : Int} (h : NumB n) : I64 n := ⟨by have := h.1; omega, h.2⟩
theorem numOf_itoa {n : Int} (h : NumB n) : numOf (itoa n) = some n := by
  unfold numOf
  rw [atoiE_itoa h.1 h.2]
  simp only [if_neg (show ¬ n < 0 by have := h.1; omega), if_true]
theorem numOf_some {w : List Nat} {n : Int} (h : numOf w = some n) : w = itoa n ∧ NumB n := by
  unfold numOf at h
  split at h <;> try cases h
  rename_i k hk
  split at h <;> try cases h
  split at h <;> try cases h
  rename_i h1 h2
  exact ⟨h2.symm, by omega, (Lib.atoiAll_bounds hk).2⟩
def numsOf : List (List Nat) → Option (List Int)
  | [] => some []
  | w :: ws => match numOf w with
    | none => none
    | some n => (numsOf ws).map (n :: ·)
theorem numsOf_some : ∀ {ws : List (List Nat)} {ns : List Int}, numsOf ws = some ns → ws = ns.map itoa ∧ ∀ n ∈ ns, NumB n
  | [], ns, h => by cases h; exact ⟨rfl, by simp⟩
  | w :: ws, ns, h => by
    rw [numsOf] at h
    split at h <;> try cases h
    rename_i n hn
    obtain ⟨ms, h1, rfl⟩ := Option.map_eq_some_iff.1 h
    obtain ⟨rfl, h2⟩ := numsOf_some h1
    obtain ⟨rfl, h3⟩ := numOf_some hn
    exact ⟨rfl, by simpa using ⟨h3, h2⟩⟩
theorem numsOf_itoa : ∀ {ns : List Int}, (∀ n ∈ ns, NumB n) → numsOf (ns.map itoa) = some ns
  | [], _ => rfl
  | n :: ns, h => by
    rw [List.map_cons, numsOf, numOf_itoa (h n (by simp)), numsOf_itoa fun m hm => h m (by simp [hm])]; rfl
theorem numsOf_bad : ∀ {ws : List (List Nat)} {i : Nat} {w : List Nat}, ws[i]? = some w → numOf w = none → numsOf ws = none
  | [], _, _, h, _ => by simp at h
  | x :: ws, 0, w, h, hb => by
    simp only [List.getElem?_cons_zero, Option.some.injEq] at h
    subst h
    rw [numsOf, hb]
  | x :: ws, i + 1, w, h, hb => by
    simp only [List.getElem?_cons_succ] at h
    rw [numsOf]
    split
    · rfl
    · rw [numsOf_bad h hb]; rfl
theorem numsOf_snoc : ∀ {ws : List (List Nat)} {ns : List Int} {w : List Nat} {n : Int}, numsOf ws = some ns → numOf w = some n → numsOf (ws ++ [w]) = some (ns ++ [n])
  | [], ns, w, n, h, hn => by cases h; simp [numsOf, hn]
  | x :: ws, ns, w, n, h, hn => by
    rw [numsOf] at h
    split at h <;> try cases h
    rename_i m hm
    obtain ⟨ms, h1, rfl⟩ := Option.map_eq_some_iff.1 h
    rw [List.cons_append, numsOf, hm, numsOf_snoc h1 hn]; rfl
def lineT (first : List Nat) (ns : List Int) : List Nat := first ++ (ns.flatMap fun n => 32 :: itoa n) ++ [10]
def lineOf (first s : List Nat) : Option (List (List Nat) × List Nat) := match cutL 10 s with
  | none => none
  | some (a, rest) => match splitL 32 a with
    | [] => none
    | w :: ws => if w = first then some (ws, rest) else none
def intsOf (first : List Nat) (n : Int) (s : List Nat) : Option (List Int × List Nat) := match lineOf first s with
  | none => none
  | some (ws, rest) => match numsOf ws with
    | none => none
    | some ns => if 0 ≤ n ∧ (ns.length : Int) ≠ n then none else some (ns, rest)
theorem split_words : ∀ {first : List Nat} {ns : List Int}, 32 ∉ first → (∀ n ∈ ns, 0 ≤ n) → splitL 32 (first ++ ns.flatMap fun n => 32 :: itoa n) = first :: ns.map itoa
  | first, [], hf, _ => by simpa using splitL_none hf
  | first, n :: ns, hf, h => by
    have hi : 32 ∉ itoa n := fun hm => by have := itoa_dig (h n (by simp)) _ hm; omega
    rw [List.flatMap_cons, List.cons_append, splitL_cut hf, split_words hi fun m hm => h m (by simp [hm])]
    rfl
theorem splitL_words {c : Nat} : ∀ {l w : List Nat} {ws : List (List Nat)}, splitL c l = w :: ws → l = w ++ ws.flatMap (c :: ·)
  | [], w, ws, h => by simp [splitL] at h; obtain ⟨rfl, rfl⟩ := h; rfl
  | x :: l, w, ws, h => by
    rw [splitL] at h
    split at h
    · rename_i e
      subst e
      cases hl : splitL x l with
      | nil => exact (splitL_ne _ _ hl).elim
      | cons v vs =>
        rw [hl] at h
        cases h
        rw [List.nil_append, List.flatMap_cons, List.cons_append, ← splitL_words hl]
    · split at h
      · rename_i q; exact (splitL_ne _ _ q).elim
      · rename_i v vs q
        cases h
        rw [List.cons_append, ← splitL_words q]
theorem line_no10 {first : List Nat} {ns : List Int} (hf : 10 ∉ first) (h : ∀ n ∈ ns, 0 ≤ n) : 10 ∉ first ++ ns.flatMap fun n => 32 :: itoa n := by
  intro hm
  rcases List.mem_append.1 hm with hm | hm
  · exact hf hm
  · obtain ⟨n, hn, hm⟩ := List.mem_flatMap.1 hm
    rcases List.mem_cons.1 hm with e | hm
    · omega
    · have := itoa_dig (h n hn) _ hm; omega
theorem lineOf_line {first : List Nat} {ns : List Int} {rest : List Nat} (hf : 32 ∉ first) (hf2 : 10 ∉ first) (h : ∀ n ∈ ns, 0 ≤ n) : lineOf first (lineT first ns ++ rest) = some (ns.map itoa, rest) := by
  unfold lineOf lineT
  rw [List.append_assoc, List.singleton_append, cutL_of (line_no10 hf2 h)]
  simp only [split_words hf h, if_true]
theorem intsOf_line {first : List Nat} {ns : List Int} {rest : List Nat} {k : Int} (hf : 32 ∉ first) (hf2 : 10 ∉ first) (h : ∀ n ∈ ns, NumB n) (hk : k < 0 ∨ k = (ns.length : Int)) : intsOf first k (lineT first ns ++ rest) = some (ns, rest) := by
  unfold intsOf
  rw [lineOf_line hf hf2 fun n hn => (h n hn).1]
  simp only [numsOf_itoa h]
  rw [if_neg (by omega)]
theorem intsOf_some {first s rest : List Nat} {ns : List Int} {k : Int} (h : intsOf first k s = some (ns, rest)) : s = lineT first ns ++ rest ∧ (∀ n ∈ ns, NumB n) ∧ (k < 0 ∨ k = (ns.length : Int)) := by
  unfold intsOf at h
  split at h <;> try cases h
  rename_i ws rest' hl
  split at h <;> try cases h
  rename_i ms hn
  split at h <;> try cases h
  rename_i hk
  unfold lineOf at hl
  split at hl <;> try cases hl
  rename_i a rest'' hc
  split at hl <;> try cases hl
  rename_i w ws' hs
  split at hl <;> try cases hl
  rename_i hw
  subst hw
  obtain ⟨rfl, _⟩ := cutL_some hc
  obtain ⟨rfl, hb⟩ := numsOf_some hn
  have := splitL_words hs
  refine ⟨?_, hb, by omega⟩
  unfold lineT
  rw [this, List.flatMap_map]
  simp
theorem intsOf_len {first s rest : List Nat} {ns : List Int} {k : Int} (h : intsOf first k s = some (ns, rest)) : rest.length < s.length := by
  obtain ⟨rfl, _⟩ := intsOf_some h
  unfold lineT
  simp; omega
end Go.Air
set_option maxRecDepth 100000
namespace Go.Air
open Go.Air.Try
def misT : Nat := 61
def misV : V := .ifc misT (.agg [])
structure Ch (b : Nat) (h h' : H) : Prop where
  nx : h.next ≤ h'.next
  same : ∀ c, c < h.next → c ≠ b → h'.get c = h.get c
  log : ∃ l, h'.log = l ++ h.log ∧ ∀ x ∈ l, h.next ≤ x ∨ x = b
theorem Ch.of_ext {b : Nat} {h h' : H} (e : Ext h h') : Ch b h h' := by
  obtain ⟨l, h1, h2⟩ := e.log
  exact ⟨e.nx, fun c hc _ => e.same c hc, l, h1, fun x hx => .inl (h2 x hx)⟩
theorem Ch.put {b : Nat} {h h' : H} (q : Ch b h h') (x : Blk) : Ch b h (h'.put b x) := by
  obtain ⟨l, h1, h2⟩ := q.log
  refine ⟨q.nx, fun c hc hb => by rw [get_put_ne hb]; exact q.same c hc hb, b :: l, by simp [h1], fun y hy => ?_⟩
  rcases List.mem_cons.1 hy with rfl | hy
  · exact .inr rfl
  · exact h2 y hy
theorem Ch.then {b : Nat} {h h1 h2 : H} (q : Ch b h h1) (e : Ext h1 h2) : Ch b h h2 := by
  obtain ⟨l, a1, a2⟩ := q.log
  obtain ⟨m, b1, b2⟩ := e.log
  refine ⟨Nat.le_trans q.nx e.nx, fun c hc hb => (e.same c (Nat.lt_of_lt_of_le hc q.nx)).trans (q.same c hc hb), m ++ l, by rw [b1, a1, List.append_assoc], fun x hx => ?_⟩
  rcases List.mem_append.1 hx with hx | hx
  · exact .inl (Nat.le_trans q.nx (b2 x hx))
  · exact a2 x hx
theorem Ch.ext {b : Nat} {h0 h h' : H} (q : Ch b h h') (e : Ext h0 h) (hb : h0.next ≤ b) : Ext h0 h' := by
  obtain ⟨l, a1, a2⟩ := q.log
  obtain ⟨m, b1, b2⟩ := e.log
  refine ⟨Nat.le_trans e.nx q.nx, fun c hc => (q.same c (Nat.lt_of_lt_of_le hc e.nx) (by omega)).trans (e.same c hc), l ++ m, by rw [a1, b1, List.append_assoc], fun x hx => ?_⟩
  rcases List.mem_append.1 hx with hx | hx
  · rcases a2 x hx with q' | rfl
    · exact Nat.le_trans e.nx q'
    · exact hb
  · exact b2 x hx
theorem Ch.tb {b : Nat} {h h' : H} (q : Ch b h h') (t : Tb4 h) (hb : topBlk ≤ b) : Tb4 h' := by
  have key : ∀ c ∈ fixB, h'.get c = h.get c := fun c hc => q.same _ (Nat.lt_of_lt_of_le (fix_lt hc) t.lt) (by have := fix_lt hc; omega)
  exact ⟨Nat.le_trans t.lt q.nx, by rw [key _ tab_mem]; exact t.is, by rw [key _ syn_mem]; exact t.syn, by rw [key _ rng_mem]; exact t.rng⟩
section
variable {h : H}
theorem fill0 {t : List V} : fill t [] [] = some [] := rfl
theorem t160 : tb1 45 = some a45 := by kernel_rfl
theorem t92 : tb1 20 = some a20 := by kernel_rfl
theorem Arg.ix0 {v : V} {n : Nat} {cs : List V} (s : Arg 1 h v n cs) (hn : 0 < n) : ixV 1 v (.i .i64 0) = some (.p (blkV v) (offV v + 0 * 1)) := s.sl.ix0 hn
theorem fn_line {b : Nat} {s first : List Nat} (hb : b < h.next) (hg : h.get b = some (.cells [.s s])) (hs : s.length ≤ 1000000) :
    WX tb1 (.fn 45 [] []) [.p b 0, .s first] h
      (fun u h' => ∃ ws rest, lineOf first s = some (ws, rest) ∧ Arg 1 h' u ws.length (ws.map V.s) ∧ h'.get b = some (.cells [.s rest]) ∧ Ch b h h')
      (fun u h' => lineOf first s = none ∧ u = misV ∧ Ch b h h') := by
  refine (WC_in t160).2 ?_
  have hld : ldV h (.p b (0 + 0)) = some (.s s) := blk_ld (i := 0) hg rfl
  unfold lineOf
  cases hc : cutL 10 s with
  | none =>
    have hr : cutR 10 s = .tup [.s s, .s [], .b false] := by unfold cutR; rw [hc]
    simp only [go_sem, ↓reduceIte, r45_0, r45_1, r45_2, hld, fn_Cut (show 10 < 256 by omega) (show s.length ≤ 1000000000 by omega), hr]
    refine (fn_Split (show 32 < 256 by omega) (show s.length ≤ 100000000 by omega)).mono ?_
    rintro u h1 q1
    simp only [go_sem, ↓reduceIte, r45_3, r45_4, fill0]
    exact ⟨rfl, .of_ext q1.ext⟩
  | some p =>
    obtain ⟨a, rest⟩ := p
    obtain ⟨rfl, _⟩ := cutL_some hc
    have hr : cutR 10 (a ++ 10 :: rest) = .tup [.s a, .s rest, .b true] := by unfold cutR; rw [hc]
    have hal : a.length ≤ 1000000 := by simp at hs; omega
    simp only [go_sem, ↓reduceIte, r45_0, r45_1, r45_2, hld, fn_Cut (show 10 < 256 by omega) (show (a ++ 10 :: rest).length ≤ 1000000000 by omega), hr]
    refine (fn_Split (show 32 < 256 by omega) (show a.length ≤ 100000000 by omega)).mono ?_
    rintro u h1 q1
    cases hsp : splitL 32 a with
    | nil => exact (splitL_ne _ _ hsp).elim
    | cons w ws =>
      rw [hsp] at q1
      have a1 := q1.arg
      have e1 := q1.ext
      have hn0 : 0 < (w :: ws).length := by simp
      have i0 := a1.ix0 hn0
      have l0 := a1.sl.ld1 (i := 0) hn0
      rw [List.map_cons, List.getElem?_cons_zero] at l0
      simp only [go_sem, ↓reduceIte, r45_3, i0, l0, bin_sne]
      by_cases hw : w = first
      · subst hw
        have g1 : h1.get b = some (.cells [.s (a ++ 10 :: rest)]) := e1.get hb hg
        have hst : stV h1 1 (.p b (0 + 0)) (.s rest) = some (h1.put b (.cells [.s rest])) := blk_st (i := 0) g1 (by simp) rfl rfl
        have a2 : Arg 1 (h1.put b (.cells [.s rest])) u (w :: ws).length ((w :: ws).map V.s) :=
          SplitR.arg (h := h) ⟨e1.trans ⟨Nat.le_refl _, fun _ _ => rfl, [], rfl, fun _ hb => by simp at hb⟩, q1.eq, q1.nx, q1.get⟩ |> fun q => by
            rcases q with q | ⟨b', off, cap, bl, q1', q2, q3, q4, q5⟩
            · exact .inl q
            · refine .inr ⟨b', off, cap, bl, q1', q2, q3, ?_, q5⟩
              have : b' = h.next := by have := q1.eq.symm.trans q1'; cases this; rfl
              rw [get_put_ne (by omega)]; exact q4
        obtain ⟨u', p1, p2⟩ := a2.lo (a := 1) (by simp)
        rw [natCast_one] at p1
        simp only [go_sem, ↓reduceIte, r45_5, r45_6, hst, p1]
        refine ⟨ws, rest, rfl, ?_, get_put_eq, (Ch.of_ext e1).put _⟩
        have e2 : ((w :: ws).map V.s).drop (1 * 1) = ws.map V.s := rfl
        rw [e2] at p2
        simpa using p2
      · simp only [go_sem, ↓reduceIte, r45_4, hw, fill0]
        exact ⟨rfl, .of_ext e1⟩
theorem eqi_00 : eqV .iface .in0 .in0 = some true := rfl
theorem eqi_v0 {t : Nat} {v : V} : eqV .iface (.ifc t v) .in0 = some false := rfl
theorem prim3 {l : List Nat} (ht : Tb4 h) (hl : l.length ≤ 1000000) : primV 3 (pad [.s l] 1) h = match atoiE l with
    | .ok n => some (.tup [.i .i64 n, .in0], none)
    | Lib.NumEnd.syntax => some (.tup [.i .i64 0, .ifc numErrT (.p h.next 0)], some (.ro [none, none, none]))
    | .range => some (.tup [.i .i64 (Lib.atoiSat (l.map UInt8.ofNat)), .ifc numErrT (.p h.next 0)], some (.ro [none, none, none])) := by
  have h1 : Nat.ble l.length 281474976710656 = true := by rw [Nat.ble_eq]; omega
  show (if isErr (h.get synBlk) && (isErr (h.get rngBlk) && Nat.ble l.length 281474976710656) then _ else none) = _
  rw [ht.syn, ht.rng, h1]
  rfl
theorem fn_atoi_ok {S Sp : V → H → Prop} {l : List Nat} {n : Int} (ht : Tb4 h) (hl : l.length ≤ 1000000) (he : atoiE l = .ok n) : WX tb1 (.fn 46 [] []) [.s l] h S Sp ↔ S (.tup [.i .i64 n, .in0]) h := by
  refine WC_prim (m := 1) (n := 3) (b := none) rfl ?_
  show primV 3 (pad [.s l] 1) h = _
  rw [prim3 ht hl, he]
theorem fn_atoi_err {l : List Nat} (ht : Tb4 h) (hl : l.length ≤ 1000000) (he : ∀ n, atoiE l ≠ .ok n) : ∃ x : Int, ∀ (S Sp : V → H → Prop), WX tb1 (.fn 46 [] []) [.s l] h S Sp ↔ S (.tup [.i .i64 x, .ifc numErrT (.p h.next 0)]) (h.new (.ro [none, none, none])) := by
  cases hq : atoiE l with
  | ok n => exact (he n hq).elim
  | range =>
    refine ⟨Lib.atoiSat (l.map UInt8.ofNat), fun S Sp => WC_prim (m := 1) (n := 3) (b := some (.ro [none, none, none])) rfl ?_⟩
    show primV 3 (pad [.s l] 1) h = _
    rw [prim3 ht hl, hq]
  | _ =>
    refine ⟨0, fun S Sp => WC_prim (m := 1) (n := 3) (b := some (.ro [none, none, none])) rfl ?_⟩
    show primV 3 (pad [.s l] 1) h = _
    rw [prim3 ht hl, hq]
structure M92 (h1 hh : H) (u : V) (ns : List Int) : Prop where
  ext : Ext h1 hh
  own : Own h1 1 hh u ns.length (ns.map (V.i .i64))
theorem one_i {h0 hh : H} (e : Ext h0 hh) (n : Int) : Sl 1 (hh.new (.cells [.i .i64 n])) (.sl hh.next 0 1 1 none) 1 [.i .i64 n] := (Own.lit (esz := 1) e [.i .i64 n] 1 rfl).1.sl
theorem M92.app {h1 hh : H} {u : V} {ns : List Int} (q : M92 h1 hh u ns) (hn : ns.length ≤ 2000000) (n : Int) :
    ∃ u' h', appendV 1 8 (hh.new (.cells [.i .i64 n])) u (.sl hh.next 0 1 1 none) = .ok u' h' ∧ M92 h1 h' u' (ns ++ [n]) := by
  have e1 : Ext h1 (hh.new (.cells [.i .i64 n])) := q.ext.new _
  obtain ⟨v', h', q1, q2, q3, _⟩ := (q.own.ext ((Ext.refl hh).new _)).app (bytes := 8) e1 (one_i q.ext n) (by intro u hu; simp at hu; subst hu; rfl) (by omega) (by omega) (by omega)
  exact ⟨v', h', q1, q2, by simpa using q3⟩
theorem lineOf_len {first s rest : List Nat} {ws : List (List Nat)} (h : lineOf first s = some (ws, rest)) : ws.length ≤ s.length ∧ ∀ w ∈ ws, w.length ≤ s.length := by
  unfold lineOf at h
  split at h <;> try cases h
  rename_i a rest' hc
  split at h <;> try cases h
  rename_i w ws' hs
  split at h <;> try cases h
  obtain ⟨rfl, _⟩ := cutL_some hc
  have h1 := splitL_length 32 a
  rw [hs] at h1
  have h2 : a.countP (Nat.beq 32) ≤ a.length := List.countP_le_length
  simp only [List.length_cons, List.length_append] at h1 ⊢
  refine ⟨by omega, fun x hx => ?_⟩
  have h3 := splitL_words hs
  have h4 : x.length ≤ (ws.flatMap (32 :: ·)).length := by
    obtain ⟨l1, l2, rfl⟩ := List.append_of_mem hx
    simp; omega
  have h5 := congrArg List.length h3
  rw [List.length_append] at h5
  omega
def IntsS (b : Nat) (h : H) (first : List Nat) (k : Int) (s : List Nat) (u : V) (h' : H) : Prop := ∃ ns rest, intsOf first k s = some (ns, rest) ∧ Own h 1 h' u ns.length (ns.map (V.i .i64)) ∧ h'.get b = some (.cells [.s rest]) ∧ Ch b h h'
def IntsP (b : Nat) (h : H) (first : List Nat) (k : Int) (s : List Nat) (u : V) (h' : H) : Prop := intsOf first k s = none ∧ u = misV ∧ Ch b h h'
theorem fn_ints (ht : Tb4 h) {b : Nat} {s first : List Nat} {k : Int} (hb : b < h.next) (hb2 : topBlk ≤ b) (hg : h.get b = some (.cells [.s s])) (hs : s.length ≤ 1000000) (hk : -1 ≤ k ∧ k ≤ 1000) :
    WX tb1 (.fn 20 [] []) [.p b 0, .s first, .i .i64 k] h (IntsS b h first k s) (IntsP b h first k s) := by
  refine (WC_in t92).2 ?_
  simp only [go_sem, ↓reduceIte, r20_0, r20_1, r20_2]
  refine (fn_line hb hg hs).mono ?_ ?_
  · rintro u h1 ⟨ws, rest, hl, a1, g1, c1⟩
    have hlv := a1.sl.len
    obtain ⟨hwl, hww⟩ := lineOf_len hl
    have ht1 := c1.tb ht hb2
    have hb1 : b < h1.next := Nat.lt_of_lt_of_le hb c1.nx
    simp only [go_sem, ↓reduceIte, hlv]
    refine W_while (fun m t hh => ∃ ns u', m = ws.length - ns.length ∧ numsOf (ws.take ns.length) = some ns ∧ ns.length ≤ ws.length ∧ t.length = 55 ∧ nth t 2 = .i .i64 k ∧ nth t 7 = u' ∧ nth t 14 = u ∧ nth t 15 = .i .i64 (ws.length : Int) ∧ nth t 16 = .i .i64 (ns.length : Int) ∧ M92 h1 hh u' ns) ?_ ws.length ?_
    · rintro m t hh ⟨ns, u', rfl, hns, hle, tl, t2, t7, t14, t15, t16, q⟩
      unfold b20_0
      by_cases hin : ns.length < ws.length
      · have hI : (ns.length : Int) < (ws.length : Int) := by omega
        have a2 := a1.ext q.ext
        have hix := a2.sl.ix hin
        have hd := a2.sl.ld1 hin
        have hw : ws[ns.length]? = some ws[ns.length] := List.getElem?_eq_getElem hin
        rw [List.getElem?_map, hw, Option.map_some] at hd
        generalize hwd : ws[ns.length] = w at hw hd
        have hwl2 : w.length ≤ 1000000 := Nat.le_trans (hww w (List.mem_of_getElem? hw)) hs
        have ht2 := ht1.ext q.ext
        have bad : numOf w = none → intsOf first k s = none := fun hn => by
          unfold intsOf
          rw [hl]
          simp only [numsOf_bad hw hn]
        simp only [go_sem, ↓reduceIte, r20_3, r20_4, r20_5, tl, t2, t7, t14, t15, t16, hI, hix, hd]
        cases hat : atoiE w with
        | ok n =>
          simp only [go_sem, ↓reduceIte, fn_atoi_ok ht2 hwl2 hat, tl, t2, t7, t14, t15, t16]
          have hn64 : I64 n := by
            have := Lib.atoiAll_bounds hat
            exact this
          by_cases hneg : n < 0
          · have hbad : numOf w = none := by unfold numOf; rw [hat]; simp only [if_pos hneg]
            simp only [go_sem, ↓reduceIte, r20_6, r20_7, tl, t2, t7, t14, t15, t16, eqi_00, hneg, fill0]
            exact ⟨bad hbad, rfl, c1.then q.ext⟩
          · by_cases hit : itoa n = w
            · have hok : numOf w = some n := by unfold numOf; rw [hat]; simp only [if_neg hneg, if_pos hit]
              have w1 : IntKind.i64.wrap ((ns.length : Int) + 1) = ((ns.length + 1 : Nat) : Int) := wrap_succ (by omega)
              obtain ⟨u2, h2, p1, p2⟩ := q.app (by omega) n
              simp only [go_sem, ↓reduceIte, r20_6, r20_8, r20_9, tl, t2, t7, t14, t15, t16, eqi_00, hneg, fn_itoa ht2 hn64, bin_sne, hit, p1, w1]
              refine ⟨ws.length - (ns ++ [n]).length, by simp; omega, ns ++ [n], u2, rfl, ?_, by simp; omega, by simp, by simp, p2⟩
              have : (ns ++ [n]).length = ns.length + 1 := by simp
              rw [this, take_succ' hw]
              exact numsOf_snoc hns hok
            · have hbad : numOf w = none := by unfold numOf; rw [hat]; simp only [if_neg hneg, if_neg hit]
              simp only [go_sem, ↓reduceIte, r20_6, r20_7, tl, t2, t7, t14, t15, t16, eqi_00, hneg, fn_itoa ht2 hn64, bin_sne, hit, fill0]
              exact ⟨bad hbad, rfl, c1.then q.ext⟩
        | range =>
          obtain ⟨x, hx⟩ := fn_atoi_err ht2 hwl2 (fun n => by rw [hat]; exact fun e => by cases e)
          have hbad : numOf w = none := by unfold numOf; rw [hat]
          simp only [go_sem, ↓reduceIte, hx, r20_6, r20_7, tl, t2, t7, t14, t15, t16, eqi_v0, fill0]
          exact ⟨bad hbad, rfl, c1.then (q.ext.new _)⟩
        | _ =>
          obtain ⟨x, hx⟩ := fn_atoi_err ht2 hwl2 (fun n => by rw [hat]; exact fun e => by cases e)
          have hbad : numOf w = none := by unfold numOf; rw [hat]
          simp only [go_sem, ↓reduceIte, hx, r20_6, r20_7, tl, t2, t7, t14, t15, t16, eqi_v0, fill0]
          exact ⟨bad hbad, rfl, c1.then (q.ext.new _)⟩
      · have hI : ¬ (ns.length : Int) < (ws.length : Int) := by omega
        have hnl : ns.length = ws.length := by omega
        rw [hnl, List.take_of_length_le (Nat.le_refl _)] at hns
        have hol := q.own.sl.len
        have hown : Own h 1 hh u' ns.length (ns.map (V.i .i64)) := q.own.mono c1.nx
        have g2 : hh.get b = some (.cells [.s rest]) := q.ext.get hb1 g1
        by_cases hk0 : 0 ≤ k
        · by_cases hkn : (ns.length : Int) = k
          · have hr : intsOf first k s = some (ns, rest) := by
              unfold intsOf; rw [hl]; simp only [hns]
              rw [if_neg (by omega)]
            subst hkn
            simp only [go_sem, ↓reduceIte, r20_3, r20_10, r20_12, tl, t2, t7, t14, t15, t16, hI, hk0, hol]
            exact ⟨ns, rest, hr, hown, g2, c1.then q.ext⟩
          · have hr : intsOf first k s = none := by
              unfold intsOf; rw [hl]; simp only [hns]
              rw [if_pos ⟨hk0, hkn⟩]
            simp only [go_sem, ↓reduceIte, r20_3, r20_10, r20_11, tl, t2, t7, t14, t15, t16, hI, hk0, hol, hkn, fill0]
            exact ⟨hr, rfl, c1.then q.ext⟩
        · have hr : intsOf first k s = some (ns, rest) := by
            unfold intsOf; rw [hl]; simp only [hns]
            rw [if_neg (by omega)]
          simp only [go_sem, ↓reduceIte, r20_3, r20_10, r20_12, tl, t2, t7, t14, t15, t16, hI, hk0]
          exact ⟨ns, rest, hr, hown, g2, c1.then q.ext⟩
    · exact ⟨[], .sn, rfl, rfl, by simp, by simp only [go_sem, ↓reduceIte], by simp only [go_sem, ↓reduceIte], by simp only [go_sem, ↓reduceIte], by simp only [go_sem, ↓reduceIte], by simp only [go_sem, ↓reduceIte], by simp only [go_sem, ↓reduceIte], .refl _, .nil⟩
  · rintro u h1 ⟨hl, rfl, c1⟩
    simp only [go_sem, ↓reduceIte]
    refine ⟨?_, rfl, c1⟩
    unfold intsOf
    rw [hl]
end
end Go.Air
set_option maxRecDepth 100000
namespace Go.Air
structure Ann where
  (id host lang lot known day : Int)
  guests : List (Int × Int)
  (old passed : Int)
  order : List Int
  (off moved : Int)
  deriving DecidableEq
def wAnnounce : List Nat := [97, 110, 110, 111, 117, 110, 99, 101]
def wScene : List Nat := [115, 99, 101, 110, 101]
def wGuest : List Nat := [103, 117, 101, 115, 116]
def wOrder : List Nat := [111, 114, 100, 101, 114]
def wGuestB : List Nat := [103, 117, 101, 115, 116, 32]
def guestsT (g : List (Int × Int)) : List Nat := g.flatMap fun p => lineT wGuest [p.1, p.2]
def Ann.text (a : Ann) : List Nat := lineT wAnnounce [a.id, a.old, a.passed, a.off, a.moved] ++ (lineT wScene [a.host, a.lang, a.lot, a.known, a.day] ++ (guestsT a.guests ++ lineT wOrder a.order))
structure Ann.Num (a : Ann) : Prop where
  one : ∀ n ∈ [a.id, a.old, a.passed, a.off, a.moved], NumB n
  two : ∀ n ∈ [a.host, a.lang, a.lot, a.known, a.day], NumB n
  gs : ∀ p ∈ a.guests, NumB p.1 ∧ NumB p.2
  ord : ∀ n ∈ a.order, NumB n
def gsF : Nat → List Nat → Option (List (Int × Int) × List Nat)
  | 0, _ => none
  | f + 1, s => if s.take 6 = wGuestB then match intsOf wGuest 2 s with
    | some ([p, q], rest) => (gsF f rest).map fun x => ((p, q) :: x.1, x.2)
    | _ => none
  else some ([], s)
theorem gsF_eq : ∀ (f f' : Nat) (s : List Nat), s.length < f → s.length < f' → gsF f s = gsF f' s
  | 0, _, s, h, _ => by omega
  | _, 0, s, _, h => by omega
  | f + 1, f' + 1, s, h, h' => by
    simp only [gsF]
    split
    · split
      · rename_i p q rest hi
        have := intsOf_len hi
        rw [gsF_eq f f' rest (by omega) (by omega)]
      · rfl
    · rfl
def gsOf (s : List Nat) : Option (List (Int × Int) × List Nat) := gsF (s.length + 1) s
theorem gsOf_none {s : List Nat} (h : ¬ s.take 6 = wGuestB) : gsOf s = some ([], s) := by
  simp only [gsOf, gsF, if_neg h]
theorem gsOf_bad {s : List Nat} (h : s.take 6 = wGuestB) (hi : intsOf wGuest 2 s = none) : gsOf s = none := by
  simp only [gsOf, gsF, if_pos h, hi]
theorem gsOf_cons {s rest : List Nat} {p q : Int} (h : s.take 6 = wGuestB) (hi : intsOf wGuest 2 s = some ([p, q], rest)) : gsOf s = (gsOf rest).map fun x => ((p, q) :: x.1, x.2) := by
  have := intsOf_len hi
  simp only [gsOf]
  rw [gsF]
  simp only [if_pos h, hi]
  rw [gsF_eq s.length (rest.length + 1) rest (by omega) (by omega)]
def annOf (s : List Nat) : Option Ann := match intsOf wAnnounce 5 s with
  | some ([id, old, passed, off, moved], s1) => match intsOf wScene 5 s1 with
    | some ([host, lang, lot, known, day], s2) => match gsOf s2 with
      | some (g, s3) => match intsOf wOrder (-1) s3 with
        | some (o, []) => some ⟨id, host, lang, lot, known, day, g, old, passed, o, off, moved⟩
        | _ => none
      | none => none
    | _ => none
  | _ => none
theorem lineT_take {p q : Int} (rest : List Nat) : (lineT wGuest [p, q] ++ rest).take 6 = wGuestB := by
  simp [lineT, wGuest, wGuestB]
theorem order_take {o : List Int} : ¬ (lineT wOrder o).take 6 = wGuestB := by
  simp [lineT, wOrder, wGuestB]
theorem gsOf_text : ∀ (g : List (Int × Int)) {o : List Int}, (∀ p ∈ g, NumB p.1 ∧ NumB p.2) → gsOf (guestsT g ++ lineT wOrder o) = some (g, lineT wOrder o)
  | [], o, _ => gsOf_none order_take
  | (p, q) :: g, o, h => by
    have hpq := h (p, q) (by simp)
    have ih := gsOf_text g (o := o) fun x hx => h x (by simp [hx])
    have e : guestsT ((p, q) :: g) ++ lineT wOrder o = lineT wGuest [p, q] ++ (guestsT g ++ lineT wOrder o) := by
      simp [guestsT]
    rw [e, gsOf_cons (lineT_take _) (intsOf_line (by decide) (by decide) (by simpa using hpq) (.inr rfl)), ih]
    rfl
theorem annOf_text {a : Ann} (h : a.Num) : annOf a.text = some a := by
  have h1 : intsOf wAnnounce 5 a.text = some ([a.id, a.old, a.passed, a.off, a.moved], _) := intsOf_line (by decide) (by decide) h.one (.inr rfl)
  have h2 : intsOf wScene 5 (lineT wScene [a.host, a.lang, a.lot, a.known, a.day] ++ (guestsT a.guests ++ lineT wOrder a.order)) = some ([a.host, a.lang, a.lot, a.known, a.day], _) := intsOf_line (by decide) (by decide) h.two (.inr rfl)
  have h3 := gsOf_text a.guests (o := a.order) h.gs
  have h4 : intsOf wOrder (-1) (lineT wOrder a.order) = some (a.order, []) := by
    have := intsOf_line (first := wOrder) (rest := []) (k := -1) (by decide) (by decide) h.ord (.inl (by omega))
    simpa using this
  simp only [annOf, h1, h2, h3, h4]
theorem gsF_some : ∀ (f : Nat) {s s3 : List Nat} {g : List (Int × Int)}, gsF f s = some (g, s3) → s = guestsT g ++ s3 ∧ ∀ p ∈ g, NumB p.1 ∧ NumB p.2
  | 0, _, _, _, h => by cases h
  | f + 1, s, s3, g, h => by
    simp only [gsF] at h
    split at h
    · split at h
      · rename_i p q rest hi
        obtain ⟨⟨g', s'⟩, h1, h2⟩ := Option.map_eq_some_iff.1 h
        cases h2
        obtain ⟨rfl, h3⟩ := gsF_some f h1
        obtain ⟨rfl, h4, _⟩ := intsOf_some hi
        refine ⟨by simp [guestsT], ?_⟩
        intro x hx
        rcases List.mem_cons.1 hx with rfl | hx
        · exact ⟨h4 _ (by simp), h4 _ (by simp)⟩
        · exact h3 x hx
      · cases h
    · cases h
      exact ⟨rfl, by simp⟩
theorem annOf_some {s : List Nat} {a : Ann} (h : annOf s = some a) : s = a.text ∧ a.Num := by
  unfold annOf at h
  split at h <;> try cases h
  rename_i id old passed off moved s1 h1
  split at h <;> try cases h
  rename_i host lang lot known day s2 h2
  split at h <;> try cases h
  rename_i g s3 h3
  split at h <;> try cases h
  rename_i o h4
  obtain ⟨rfl, b1, _⟩ := intsOf_some h1
  obtain ⟨rfl, b2, _⟩ := intsOf_some h2
  obtain ⟨rfl, b3⟩ := gsF_some _ h3
  obtain ⟨rfl, b4, _⟩ := intsOf_some h4
  exact ⟨by simp [Ann.text], b1, b2, b3, b4⟩
end Go.Air
set_option maxRecDepth 100000
namespace Go.Air
open Go.Air.Try
def I (n : Int) : V := .i .i64 n
def cells2 (g : List (Int × Int)) : List V := g.flatMap fun p => [I p.1, I p.2]
def Ann.cells (a : Ann) (gv ov : V) : List V := [I a.id, I a.host, I a.lang, I a.lot, I a.known, I a.day, gv, I a.old, I a.passed, ov, I a.off, I a.moved]
theorem Own.at {h0 h : H} {u : V} {n : Nat} {cs : List V} {esz : Nat} (o : Own h0 esz h u n cs) (hn : 0 < n) : ∃ bk g, u = .sl bk 0 n n g ∧ h0.next ≤ bk ∧ bk < h.next ∧ h.get bk = some (.cells cs) := by
  obtain ⟨_, ⟨rfl, _⟩ | ⟨b, g, rfl, _, h1, h2, h3⟩⟩ := o
  · omega
  · exact ⟨b, g, rfl, h1, h2, h3⟩
theorem st_bare {h : H} {b i : Nat} {c c' : List V} {x : V} (g : h.get b = some (.cells c)) (hi : i < c.length) (hx : x.cells = [x]) (ho : x.oneCell = true) (hc : c.set i x = c') : stV h.bare 1 (.p b i) x = some (h.bare.put b (.cells c')) := by
  subst hc
  exact blk_st (h := h.bare) g hi hx ho
theorem fill_5 {t : List V} {z0 z1 z2 z3 z4 v0 v1 v2 v3 v4 : V} {x0 x1 x2 x3 x4 : X} (e0 : x0.ev t = v0) (e1 : x1.ev t = v1) (e2 : x2.ev t = v2) (e3 : x3.ev t = v3) (e4 : x4.ev t = v4)
    (c0 : v0.cells = [v0]) (c1 : v1.cells = [v1]) (c2 : v2.cells = [v2]) (c3 : v3.cells = [v3]) (c4 : v4.cells = [v4]) :
    fill t [z0, z1, z2, z3, z4] [(0, 1, x0), (1, 1, x1), (2, 1, x2), (3, 1, x3), (4, 1, x4)] = some [v0, v1, v2, v3, v4] := by
  simp [fill, lay, e0, e1, e2, e3, e4, c0, c1, c2, c3, c4]
structure At91 (h0 hS hh : H) (rb ab : Nat) (s : List Nat) (c : List V) : Prop where
  ext : Ext h0 hh
  tb : Tb4 h0
  gr : hh.get rb = some (.cells [.s s])
  ga : hh.get ab = some (.cells c)
  nx : hS.next ≤ hh.next
  kp : ∀ k, k < hS.next → k ≠ rb → k ≠ ab → hh.get k = hS.get k
structure B91 (h0 hS : H) (rb ab : Nat) : Prop where
  r : h0.next ≤ rb
  a : h0.next ≤ ab
  ne : rb ≠ ab
  lr : rb < hS.next
  la : ab < hS.next
section
variable {h0 hS hh h' : H} {rb ab : Nat} {s rest : List Nat} {c : List V}
theorem At91.lr (q : At91 h0 hS hh rb ab s c) (B : B91 h0 hS rb ab) : rb < hh.next := Nat.lt_of_lt_of_le B.lr q.nx
theorem At91.la (q : At91 h0 hS hh rb ab s c) (B : B91 h0 hS rb ab) : ab < hh.next := Nat.lt_of_lt_of_le B.la q.nx
theorem At91.ch (q : At91 h0 hS hh rb ab s c) (B : B91 h0 hS rb ab) (ch : Ch rb hh h') (g : h'.get rb = some (.cells [.s rest])) : At91 h0 hS h' rb ab rest c :=
  ⟨ch.ext q.ext B.r, q.tb, g, (ch.same _ (q.la B) (fun e => B.ne e.symm)).trans q.ga, Nat.le_trans q.nx ch.nx, fun k h1 h2 h3 => (ch.same _ (Nat.lt_of_lt_of_le h1 q.nx) h2).trans (q.kp k h1 h2 h3)⟩
theorem At91.put (q : At91 h0 hS hh rb ab s c) (B : B91 h0 hS rb ab) (c' : List V) : At91 h0 hS (hh.put ab (.cells c')) rb ab s c' :=
  ⟨q.ext.put B.a _, q.tb, by rw [get_put_ne B.ne]; exact q.gr, get_put_eq, q.nx, fun k h1 h2 h3 => by rw [get_put_ne h3]; exact q.kp k h1 h2 h3⟩
theorem At91.st (q : At91 h0 hS hh rb ab s c) (B : B91 h0 hS rb ab) (i : Nat) (x : V) (c' : List V) (hx : x.cells = [x]) (ho : x.oneCell = true) (hi : i < c.length) (hc : c.set i x = c') :
    ∃ hb h2, stV hh.bare 1 (.p ab i) x = some hb ∧ hh.back hb = h2 ∧ At91 h0 hS h2 rb ab s c' ∧ (∀ k, k ≠ ab → h2.get k = hh.get k) ∧ h2.next = hh.next :=
  ⟨_, _, st_bare q.ga hi hx ho hc, back_put (q.la B) _, q.put B c', fun _ hk => get_put_ne hk, rfl⟩
theorem At91.step (q : At91 h0 hS hh rb ab s c) (B : B91 h0 hS rb ab) (e : Ext hh h') : At91 h0 hS h' rb ab s c :=
  ⟨q.ext.trans e, q.tb, e.get (q.lr B) q.gr, e.get (q.la B) q.ga, Nat.le_trans q.nx e.nx, fun k h1 h2 h3 => (e.same k (Nat.lt_of_lt_of_le h1 q.nx)).trans (q.kp k h1 h2 h3)⟩
theorem At91.ints {first : List Nat} {k : Int} (q : At91 h0 hS hh rb ab s c) (B : B91 h0 hS rb ab) (hs : s.length ≤ 1000000) (hk : -1 ≤ k ∧ k ≤ 1000) :
    WX tb1 (.fn 20 [] []) [.p rb 0, .s first, .i .i64 k] hh (IntsS rb hh first k s) (IntsP rb hh first k s) :=
  fn_ints (q.tb.ext q.ext) (q.lr B) (Nat.le_trans q.tb.lt B.r) q.gr hs hk
end
theorem len5 {ns : List Int} (h : (5 : Int) < 0 ∨ 5 = (ns.length : Int)) : ∃ a b c d e, ns = [a, b, c, d, e] := by
  match ns, h with
  | [a, b, c, d, e], _ => exact ⟨a, b, c, d, e, rfl⟩
  | [], h => simp at h
  | [_], h => simp at h
  | [_, _], h => simp at h
  | [_, _, _], h => simp at h
  | [_, _, _, _], h => simp at h
  | _ :: _ :: _ :: _ :: _ :: _ :: l, h => simp at h; omega
theorem len2 {ns : List Int} (h : (2 : Int) < 0 ∨ 2 = (ns.length : Int)) : ∃ a b, ns = [a, b] := by
  match ns, h with
  | [a, b], _ => exact ⟨a, b, rfl⟩
  | [], h => simp at h
  | [_], h => simp at h
  | _ :: _ :: _ :: l, h => simp at h; omega
def zeroC : List V := [I 0, I 0, I 0, I 0, I 0, I 0, .sn, I 0, I 0, .sn, I 0, I 0]
section
variable {h0 hS hh : H} {rb ab : Nat} {s : List Nat} {Q : Out → List V → H → Prop} {t : List V}
theorem W91a {bk : Nat} {g : Option Nat} {a b c d e : Int} (q : At91 h0 hS hh rb ab s zeroC) (B : B91 h0 hS rb ab) (hk : hh.get bk = some (.cells [I a, I b, I c, I d, I e])) (hbk : bk ≠ ab) (tl : t.length = 74) (t0 : nth t 0 = .p rb 0) (t1 : nth t 1 = .p ab 0) (t3 : nth t 3 = .sl bk 0 5 5 g)
    (K : ∀ t' h', t'.length = 74 → nth t' 0 = .p rb 0 → nth t' 1 = .p ab 0 → At91 h0 hS h' rb ab s [I a, I 0, I 0, I 0, I 0, I 0, .sn, I b, I c, .sn, I d, I e] → Q .norm t' h') : WE tb1 r19_1 t hh (Kops Q) := by
  have i0 : ixV 1 (.sl bk 0 5 5 g) (.i .i64 0) = some (.p bk 0) := rfl
  have i1 : ixV 1 (.sl bk 0 5 5 g) (.i .i64 1) = some (.p bk 1) := rfl
  have i2 : ixV 1 (.sl bk 0 5 5 g) (.i .i64 2) = some (.p bk 2) := rfl
  have i3 : ixV 1 (.sl bk 0 5 5 g) (.i .i64 3) = some (.p bk 3) := rfl
  have i4 : ixV 1 (.sl bk 0 5 5 g) (.i .i64 4) = some (.p bk 4) := rfl
  have l0 : ldV hh (.p bk 0) = some (I a) := blk_ld hk rfl
  have l1 : ldV hh (.p bk 1) = some (I b) := blk_ld hk rfl
  have l2 : ldV hh (.p bk 2) = some (I c) := blk_ld hk rfl
  have l3 : ldV hh (.p bk 3) = some (I d) := blk_ld hk rfl
  have l4 : ldV hh (.p bk 4) = some (I e) := blk_ld hk rfl
  obtain ⟨x1, h1, s0, b0, q1, _⟩ := q.st B 0 (I a) [I a, I 0, I 0, I 0, I 0, I 0, .sn, I 0, I 0, .sn, I 0, I 0] rfl rfl (by simp [zeroC]) rfl
  obtain ⟨x2, h2, s1, b1, q2, _⟩ := q1.st B 7 (I b) [I a, I 0, I 0, I 0, I 0, I 0, .sn, I b, I 0, .sn, I 0, I 0] rfl rfl (by simp) rfl
  obtain ⟨x3, h3, s2, b2, q3, _⟩ := q2.st B 8 (I c) [I a, I 0, I 0, I 0, I 0, I 0, .sn, I b, I c, .sn, I 0, I 0] rfl rfl (by simp) rfl
  obtain ⟨x4, h4, s3, b3, q4, _⟩ := q3.st B 10 (I d) [I a, I 0, I 0, I 0, I 0, I 0, .sn, I b, I c, .sn, I d, I 0] rfl rfl (by simp) rfl
  obtain ⟨x5, h5, s4, b4, q5, _⟩ := q4.st B 11 (I e) [I a, I 0, I 0, I 0, I 0, I 0, .sn, I b, I c, .sn, I d, I e] rfl rfl (by simp) rfl
  simp only [go_sem, ↓reduceIte, r19_1, tl, t0, t1, t3, i0, i1, i2, i3, i4, l0, l1, l2, l3, l4, s0, s1, s2, s3, s4, b0, b1, b2, b3, b4]
  exact K _ _ (by simp only [go_sem, ↓reduceIte, tl]) (by simp only [go_sem, ↓reduceIte, tl, t0]) (by simp only [go_sem, ↓reduceIte, tl, t1]) q5
theorem W91b {bk : Nat} {g : Option Nat} {n x y z m : V} {a b c d e : Int} {gv ov : V} (q : At91 h0 hS hh rb ab s [n, I 0, I 0, I 0, I 0, I 0, gv, x, y, ov, z, m]) (B : B91 h0 hS rb ab) (hk : hh.get bk = some (.cells [I a, I b, I c, I d, I e])) (tl : t.length = 74) (t0 : nth t 0 = .p rb 0) (t1 : nth t 1 = .p ab 0) (t3 : nth t 3 = .sl bk 0 5 5 g)
    (K : ∀ t' h', t'.length = 74 → nth t' 0 = .p rb 0 → nth t' 1 = .p ab 0 → At91 h0 hS h' rb ab s [n, I a, I b, I c, I d, I e, gv, x, y, ov, z, m] → Q .norm t' h') : WE tb1 r19_3 t hh (Kops Q) := by
  have i0 : ixV 1 (.sl bk 0 5 5 g) (.i .i64 0) = some (.p bk 0) := rfl
  have i1 : ixV 1 (.sl bk 0 5 5 g) (.i .i64 1) = some (.p bk 1) := rfl
  have i2 : ixV 1 (.sl bk 0 5 5 g) (.i .i64 2) = some (.p bk 2) := rfl
  have i3 : ixV 1 (.sl bk 0 5 5 g) (.i .i64 3) = some (.p bk 3) := rfl
  have i4 : ixV 1 (.sl bk 0 5 5 g) (.i .i64 4) = some (.p bk 4) := rfl
  have l0 : ldV hh (.p bk 0) = some (I a) := blk_ld hk rfl
  have l1 : ldV hh (.p bk 1) = some (I b) := blk_ld hk rfl
  have l2 : ldV hh (.p bk 2) = some (I c) := blk_ld hk rfl
  have l3 : ldV hh (.p bk 3) = some (I d) := blk_ld hk rfl
  have l4 : ldV hh (.p bk 4) = some (I e) := blk_ld hk rfl
  have hst : stV hh.bare 5 (.p ab (0 + 1)) (.agg [I a, I b, I c, I d, I e]) = some (hh.bare.put ab (.cells [n, I a, I b, I c, I d, I e, gv, x, y, ov, z, m])) := by
    have gb : hh.bare.get ab = _ := q.ga
    simp [stV, V.cells, storeAt, gb, lay, I, V.oneCell]
  have hbk := back_put (q.la B) (.cells [n, I a, I b, I c, I d, I e, gv, x, y, ov, z, m])
  simp only [go_sem, ↓reduceIte, r19_3, tl, t0, t1, t3, i0, i1, i2, i3, i4, l0, l1, l2, l3, l4]
  rw [fill_5 (v0 := I a) (v1 := I b) (v2 := I c) (v3 := I d) (v4 := I e) (by simp only [go_sem, ↓reduceIte, tl]) (by simp only [go_sem, ↓reduceIte, tl]) (by simp only [go_sem, ↓reduceIte, tl]) (by simp only [go_sem, ↓reduceIte, tl]) (by simp only [go_sem, ↓reduceIte, tl]) rfl rfl rfl rfl rfl]
  simp only [go_sem, ↓reduceIte, tl, t0, t1, t3, hst, hbk]
  exact K _ _ (by simp only [go_sem, ↓reduceIte, tl]) (by simp only [go_sem, ↓reduceIte, tl, t0]) (by simp only [go_sem, ↓reduceIte, tl, t1]) (q.put B _)
theorem W91g {bk : Nat} {g : Option Nat} {n0 n1 n2 n3 n4 n5 m7 m8 m9 m10 m11 : V} {a b : Int} {gl : List (Int × Int)} {gv : V} (q : At91 h0 hS hh rb ab s [n0, n1, n2, n3, n4, n5, gv, m7, m8, m9, m10, m11]) (B : B91 h0 hS rb ab)
    (o : Own h0 2 hh gv gl.length (cells2 gl)) (hgv : gv = .sn ∨ hS.next ≤ blkV gv) (hgl : gl.length ≤ 1000000)
    (hk : hh.get bk = some (.cells [I a, I b])) (tl : t.length = 74) (t0 : nth t 0 = .p rb 0) (t1 : nth t 1 = .p ab 0) (t3 : nth t 3 = .sl bk 0 2 2 g)
    (K : ∀ t' h' gv', t'.length = 74 → nth t' 0 = .p rb 0 → nth t' 1 = .p ab 0 → At91 h0 hS h' rb ab s [n0, n1, n2, n3, n4, n5, gv', m7, m8, m9, m10, m11] → Own h0 2 h' gv' (gl ++ [(a, b)]).length (cells2 (gl ++ [(a, b)])) → hS.next ≤ blkV gv' → Q .norm t' h') : WE tb1 r19_6 t hh (Kops Q) := by
  have i0 : ixV 1 (.sl bk 0 2 2 g) (.i .i64 0) = some (.p bk 0) := rfl
  have i1 : ixV 1 (.sl bk 0 2 2 g) (.i .i64 1) = some (.p bk 1) := rfl
  have l0 : ldV hh (.p bk 0) = some (I a) := blk_ld hk rfl
  have l1 : ldV hh (.p bk 1) = some (I b) := blk_ld hk rfl
  have l6 : ldV hh (.p ab 6) = some gv := blk_ld q.ga rfl
  have f2 : fill2 (I a) (I b) = some [I a, I b] := rfl
  have fA : fillA 2 (.agg [I a, I b]) = some [I a, I b] := rfl
  have e1 : Ext hh (hh.new (.cells [I a, I b])) := (Ext.refl hh).new _
  obtain ⟨v', hb, g2, p1, p2, p3, p4, p5, p6, p7⟩ := (o.ext e1).appB (bytes := 16) (q.ext.trans e1) (Own.lit (esz := 2) (Ext.refl hh) [I a, I b] 1 rfl).1.sl (by intro u hu; simp [I] at hu; rcases hu with rfl | rfl <;> rfl) (by omega) (by omega) (by omega)
  have p7 := p7 (by omega)
  have q1 := q.step B e1
  have hge := q.nx
  have hne : ∀ k, k < hS.next → g2.get k = (hh.new (.cells [I a, I b])).get k := fun k hk => p6 k (by simp; omega) (by
    rcases hgv with h | h
    · exact .inl h
    · exact .inr (by omega))
  have q2 : At91 h0 hS g2 rb ab s [n0, n1, n2, n3, n4, n5, gv, m7, m8, m9, m10, m11] :=
    ⟨p3, q.tb, (hne _ B.lr).trans q1.gr, (hne _ B.la).trans q1.ga, Nat.le_trans q1.nx p5, fun k h1 h2 h3 => (hne k h1).trans (q1.kp k h1 h2 h3)⟩
  have hv' : v'.cells = [v'] ∧ v'.oneCell = true := by
    obtain ⟨_, ⟨h, _⟩ | ⟨b, g, rfl, _⟩⟩ := p4
    · omega
    · exact ⟨rfl, rfl⟩
  obtain ⟨x3, h3, s3, b3, q3, k3, n3⟩ := q2.st B 6 v' [n0, n1, n2, n3, n4, n5, v', m7, m8, m9, m10, m11] hv'.1 hv'.2 (by simp) rfl
  simp only [go_sem, ↓reduceIte, r19_6, tl, t0, t1, t3, i0, i1, l0, l1, l6, f2, fA, p1, p2, s3, b3]
  have hlb : blkV v' = hh.next + 1 := p7
  refine K _ _ v' (by simp only [go_sem, ↓reduceIte, tl]) (by simp only [go_sem, ↓reduceIte, tl, t0]) (by simp only [go_sem, ↓reduceIte, tl, t1]) q3 ?_ (by omega)
  have : cells2 (gl ++ [(a, b)]) = cells2 gl ++ [I a, I b] := by simp [cells2]
  rw [this, List.length_append]
  exact p4.keep (by omega) fun _ => k3 _ (by have := q.la B; omega)
end
end Go.Air
set_option maxRecDepth 100000
namespace Go.Air
open Go.Air.Try
structure AnnAt (h0 hh : H) (ab : Nat) (a : Ann) (gv ov : V) : Prop where
  get : hh.get ab = some (.cells (a.cells gv ov))
  gs : Own h0 2 hh gv a.guests.length (cells2 a.guests)
  ord : Own h0 1 hh ov a.order.length (a.order.map I)
def Keeps (hS hh : H) (rb ab : Nat) : Prop := hS.next ≤ hh.next ∧ ∀ k, k < hS.next → k ≠ rb → k ≠ ab → hh.get k = hS.get k
def S91 (h0 hS : H) (rb ab : Nat) (s : List Nat) (u : V) (h' : H) : Prop := u = .tup [] ∧ Ext h0 h' ∧ Keeps hS h' rb ab ∧ ∃ a gv ov, annOf s = some a ∧ AnnAt h0 h' ab a gv ov
def P91 (h0 hS : H) (rb ab : Nat) (s : List Nat) (u : V) (h' : H) : Prop := u = misV ∧ Ext h0 h' ∧ Keeps hS h' rb ab ∧ annOf s = none
theorem Ch.keeps {hS hh h' : H} {rb ab : Nat} (k : Keeps hS hh rb ab) (c : Ch rb hh h') : Keeps hS h' rb ab :=
  ⟨Nat.le_trans k.1 c.nx, fun j h1 h2 h3 => (c.same j (Nat.lt_of_lt_of_le h1 k.1) h2).trans (k.2 j h1 h2 h3)⟩
section
variable {h0 hS : H} {rb ab : Nat} {s : List Nat}
theorem At91.keeps {hh : H} {c : List V} (q : At91 h0 hS hh rb ab s c) : Keeps hS hh rb ab := ⟨q.nx, q.kp⟩
theorem pan91 {hh h' : H} {c : List V} {s0 : List Nat} (q : At91 h0 hS hh rb ab s c) (B : B91 h0 hS rb ab) (ch : Ch rb hh h') (hn : annOf s0 = none) : P91 h0 hS rb ab s0 misV h' :=
  ⟨rfl, ch.ext q.ext B.r, ch.keeps q.keeps, hn⟩
theorem t91 : tb1 19 = some a19 := by kernel_rfl
theorem fn_91 (ht : Tb4 h0) (e0 : Ext h0 hS) (B : B91 h0 hS rb ab) (gr : hS.get rb = some (.cells [.s s])) (ga : hS.get ab = some (.cells zeroC)) (hs : s.length ≤ 1000000) :
    WX tb1 (.fn 19 [] [.p ab 0]) [.p rb 0] hS (S91 h0 hS rb ab s) (P91 h0 hS rb ab s) := by
  refine (WC_cap t91).2 ?_
  have q0 : At91 h0 hS hS rb ab s zeroC := ⟨e0, ht, gr, ga, Nat.le_refl _, fun _ _ _ _ => rfl⟩
  simp only [go_sem, ↓reduceIte, r19_0, List.nil_append, List.cons_append, List.append_nil]
  refine (q0.ints B hs (by omega)).mono ?_ ?_
  rotate_left
  · rintro u h1 ⟨hn, rfl, c1⟩
    simp only [go_sem, ↓reduceIte]
    refine pan91 q0 B c1 ?_
    have hn : intsOf wAnnounce 5 s = none := hn
    simp only [annOf, hn]
  rintro u1 h1 ⟨ns1, s1, hi1, o1, g1, c1⟩
  obtain ⟨id, old, passed, off, moved, rfl⟩ := len5 (intsOf_some hi1).2.2
  have hi1 : intsOf wAnnounce 5 s = some ([id, old, passed, off, moved], s1) := hi1
  have hl1 : s1.length ≤ 1000000 := by have := intsOf_len hi1; omega
  obtain ⟨bk1, gg1, rfl, hk1, _, hg1⟩ := o1.at (by simp)
  have q1 := q0.ch B c1 g1
  simp only [go_sem, ↓reduceIte]
  refine WE_gen (fun t => t.length = 74 ∧ nth t 0 = .p rb 0 ∧ nth t 1 = .p ab 0 ∧ nth t 3 = .sl bk1 0 5 5 gg1) (by simp only [go_sem, ↓reduceIte]) ?_
  rintro t ⟨tl, t0, t1, t3⟩
  refine W91a q1 B hg1 (by have := B.la; omega) tl t0 t1 t3 ?_
  intro t h2 tl t0 t1 q2
  simp only [go_sem, ↓reduceIte, r19_2, tl, t0, t1]
  refine (q2.ints B hl1 (by omega)).mono ?_ ?_
  rotate_left
  · rintro u h3 ⟨hn, rfl, c3⟩
    simp only [go_sem, ↓reduceIte]
    refine pan91 q2 B c3 ?_
    have hn : intsOf wScene 5 s1 = none := hn
    simp only [annOf, hi1, hn]
  rintro u2 h3 ⟨ns2, s2, hi2, o2, g2, c2⟩
  obtain ⟨host, lang, lot, known, day, rfl⟩ := len5 (intsOf_some hi2).2.2
  have hi2 : intsOf wScene 5 s1 = some ([host, lang, lot, known, day], s2) := hi2
  have hl2 : s2.length ≤ 1000000 := by have := intsOf_len hi2; omega
  obtain ⟨bk2, gg2, rfl, hk2, _, hg2⟩ := o2.at (by simp)
  have q3 := q2.ch B c2 g2
  simp only [go_sem, ↓reduceIte, tl]
  refine WE_gen (fun t => t.length = 74 ∧ nth t 0 = .p rb 0 ∧ nth t 1 = .p ab 0 ∧ nth t 3 = .sl bk2 0 5 5 gg2) (by simp only [go_sem, ↓reduceIte, tl, t0, t1]) ?_
  rintro t ⟨tl, t0, t1, t3⟩
  refine W91b q3 B hg2 tl t0 t1 t3 ?_
  intro t h4 tl t0 t1 q4
  simp only [go_sem, ↓reduceIte]
  refine W_while (fun k t hh => ∃ si gl gv, k = si.length ∧ si.length ≤ 1000000 ∧ t.length = 74 ∧ nth t 0 = .p rb 0 ∧ nth t 1 = .p ab 0 ∧ gl.length + si.length ≤ s2.length ∧ gsOf s2 = (gsOf si).map (fun x => (gl ++ x.1, x.2)) ∧ (gv = .sn ∨ hS.next ≤ blkV gv) ∧ Own h0 2 hh gv gl.length (cells2 gl) ∧
    At91 h0 hS hh rb ab si [I id, I host, I lang, I lot, I known, I day, gv, I old, I passed, .sn, I off, I moved]) ?_ s2.length ?_
  · rintro k t hh ⟨si, gl, gv, rfl, hsl, tl, t0, t1, hgl, hgs, hgv, o, q⟩
    unfold b19_0
    have hld : ldV hh (.p rb (0 + 0)) = some (.s si) := blk_ld (i := 0) q.gr rfl
    simp only [go_sem, ↓reduceIte, r19_4, tl, t0, t1, hld, fn_hasPrefix (show si.length ≤ 100000000 by omega) (show [103, 117, 101, 115, 116, 32].length ≤ 100000000 by decide)]
    have hp : si.take 6 = [103, 117, 101, 115, 116, 32] ↔ si.take 6 = wGuestB := Iff.rfl
    by_cases hpre : si.take 6 = [103, 117, 101, 115, 116, 32]
    · simp only [go_sem, ↓reduceIte, r19_5, tl, t0, t1, hpre]
      refine (q.ints B hsl (by omega)).mono ?_ ?_
      · rintro u5 h5 ⟨ns, sj, hi, o5, g5, c5⟩
        have hi : intsOf wGuest 2 si = some (ns, sj) := hi
        obtain ⟨p, r, rfl⟩ := len2 (intsOf_some hi).2.2
        have hlj := intsOf_len hi
        obtain ⟨bk, gg, rfl, hk, _, hg⟩ := o5.at (by simp)
        have q5 := q.ch B c5 g5
        have o' : Own h0 2 h5 gv gl.length (cells2 gl) := o.keep c5.nx fun hb => c5.same _ hb (by
          intro e
          rcases hgv with rfl | h
          · have : 0 < rb := by have := B.r; have := ht.lt; have : 0 < topBlk := by unfold topBlk; omega
                                omega
            have : blkV .sn = 0 := rfl
            omega
          · have := B.lr; omega)
        simp only [go_sem, ↓reduceIte, tl]
        refine WE_gen (fun t => t.length = 74 ∧ nth t 0 = .p rb 0 ∧ nth t 1 = .p ab 0 ∧ nth t 3 = .sl bk 0 2 2 gg) (by simp only [go_sem, ↓reduceIte, tl, t0, t1]) ?_
        rintro t ⟨tl, t0, t1, t3⟩
        refine W91g q5 B o' hgv (by omega) hg tl t0 t1 t3 ?_
        intro t h6 gv' tl t0 t1 q6 o6 hge
        simp only [go_sem, ↓reduceIte]
        refine ⟨sj.length, hlj, sj, gl ++ [(p, r)], gv', rfl, by omega, tl, t0, t1, by simp; omega, ?_, .inr hge, o6, q6⟩
        rw [hgs, gsOf_cons hpre hi]
        cases gsOf sj <;> simp
      · rintro u5 h5 ⟨hn, rfl, c5⟩
        have hn : intsOf wGuest 2 si = none := hn
        simp only [go_sem, ↓reduceIte]
        refine pan91 q B c5 ?_
        rw [gsOf_bad hpre hn] at hgs
        have hgs : gsOf s2 = none := hgs
        simp only [annOf, hi1, hi2, hgs]
    · rw [gsOf_none hpre] at hgs
      simp only [Option.map_some, List.append_nil] at hgs
      simp only [go_sem, ↓reduceIte, r19_7, tl, t0, t1, hpre]
      refine (q.ints B hsl (by omega)).mono ?_ ?_
      · rintro u5 h5 ⟨ns, sj, hi, o5, g5, c5⟩
        have hi : intsOf wOrder (-1) si = some (ns, sj) := hi
        have q5 := q.ch B c5 g5
        have o' : Own h0 2 h5 gv gl.length (cells2 gl) := o.keep c5.nx fun hb => c5.same _ hb (by
          intro e
          rcases hgv with rfl | h
          · have : 0 < rb := by have := B.r; have := ht.lt; have : 0 < topBlk := by unfold topBlk; omega
                                omega
            have : blkV .sn = 0 := rfl
            omega
          · have := B.lr; omega)
        have ou : u5.cells = [u5] ∧ u5.oneCell = true ∧ (u5 = .sn ∨ hh.next ≤ blkV u5) := by
          obtain ⟨_, ⟨_, rfl⟩ | ⟨b, g, rfl, _, hb, _⟩⟩ := o5
          · exact ⟨rfl, rfl, .inl rfl⟩
          · exact ⟨rfl, rfl, .inr hb⟩
        have hst : stV h5 1 (.p ab (0 + 9)) u5 = some (h5.put ab (.cells [I id, I host, I lang, I lot, I known, I day, gv, I old, I passed, u5, I off, I moved])) := blk_st (i := 9) q5.ga (by simp) ou.1 ou.2.1
        have q6 := q5.put B [I id, I host, I lang, I lot, I known, I day, gv, I old, I passed, u5, I off, I moved]
        have hld6 : ldV (h5.put ab (.cells [I id, I host, I lang, I lot, I known, I day, gv, I old, I passed, u5, I off, I moved])) (.p rb (0 + 0)) = some (.s sj) := blk_ld (i := 0) q6.gr rfl
        have hab : 0 < ab := by
          have := B.a; have := ht.lt
          have : 0 < topBlk := by unfold topBlk; omega
          omega
        have k1 : Own h0 2 (h5.put ab (.cells [I id, I host, I lang, I lot, I known, I day, gv, I old, I passed, u5, I off, I moved])) gv gl.length (cells2 gl) := o'.keep (Nat.le_refl _) fun hb => get_put_ne (by
          intro e
          rcases hgv with rfl | h
          · have : blkV .sn = 0 := rfl
            omega
          · have := B.la; omega)
        have k2 : Own h0 1 (h5.put ab (.cells [I id, I host, I lang, I lot, I known, I day, gv, I old, I passed, u5, I off, I moved])) u5 ns.length (ns.map I) := (o5.mono q.ext.nx).keep (Nat.le_refl _) fun hb => get_put_ne (by
          intro e
          rcases ou.2.2 with rfl | h
          · have : blkV .sn = 0 := rfl
            omega
          · have := B.la; have := q.nx; omega)
        simp only [go_sem, ↓reduceIte, r19_8, tl, t0, t1, hst, hld6, bin_sne]
        by_cases hsj : sj = []
        · subst hsj
          simp only [go_sem, ↓reduceIte]
          refine ⟨rfl, q6.ext, q6.keeps, ⟨id, host, lang, lot, known, day, gl, old, passed, ns, off, moved⟩, gv, u5, ?_, q6.ga, k1, k2⟩
          simp only [annOf, hi1, hi2, hgs, hi]
        · simp only [go_sem, ↓reduceIte, r19_9, hsj, fill0, tl]
          refine ⟨rfl, q6.ext, q6.keeps, ?_⟩
          simp only [annOf, hi1, hi2, hgs, hi]
          split
          · rename_i e
            simp only [Option.some.injEq, Prod.mk.injEq] at e
            exact (hsj e.2).elim
          · rfl
      · rintro u5 h5 ⟨hn, rfl, c5⟩
        have hn : intsOf wOrder (-1) si = none := hn
        simp only [go_sem, ↓reduceIte]
        refine pan91 q B c5 ?_
        simp only [annOf, hi1, hi2, hgs, hn]
  · refine ⟨s2, [], .sn, rfl, hl2, tl, t0, t1, by simp, ?_, .inl rfl, .nil, q4⟩
    cases gsOf s2 <;> simp
end
end Go.Air
set_option maxRecDepth 100000
namespace Go.Air
open Go.Air.Try
def Kd (S : H → Prop) (o : Out) (_ : List V) (h : H) : Prop := match o with
  | .norm => S h
  | .ret => S h
  | _ => False
section
variable {tbl : Tb} {h : H} {S Sp : V → H → Prop} {t : List V}
@[go_sem ↓] theorem Kd_norm {R : H → Prop} : Kd R .norm t h ↔ R h := Iff.rfl
@[go_sem ↓] theorem Kd_ret {R : H → Prop} : Kd R .ret t h ↔ R h := Iff.rfl
theorem WD1_in {g n m : Nat} {res : List ResV} {body : C} {caps : List V} {v : V} {R : H → Prop} (ht : tbl g = some ⟨m, res, body, none, some n⟩) : WD1 tbl (.fn g [] caps) v h R ↔ W tbl body (upd (pad caps m) n v) h (Kd R) :=
  WD1_fn ht rfl
def Kdf (tbl : Tb) (f : V) (res : List ResV) (S : V → H → Prop) (o : Out) (t : List V) (h : H) : Prop := match o with
  | .exit _ => False
  | .norm => WD1 tbl f .in0 h fun h2 => resOk (resultsOf t h2 res) h2 S
  | .ret => WD1 tbl f .in0 h fun h2 => resOk (resultsOf t h2 res) h2 S
  | .pan v => WD1 tbl f v h fun h2 => resOk (resultsOf t h2 res) h2 S
def Kpre (tbl : Tb) (body : C) (x : X) (res : List ResV) (S : V → H → Prop) (o : Out) (t : List V) (h : H) : Prop := o = .norm ∧ W tbl body t h (Kdf tbl (x.ev t) res S)
@[go_sem ↓] theorem Kpre_norm {body : C} {x : X} {res : List ResV} : Kpre tbl body x res S .norm t h ↔ W tbl body t h (Kdf tbl (x.ev t) res S) := by simp [Kpre]
@[go_sem ↓] theorem Kdf_ret {f : V} {res : List ResV} : Kdf tbl f res S .ret t h ↔ WD1 tbl f .in0 h fun h2 => resOk (resultsOf t h2 res) h2 S := Iff.rfl
@[go_sem ↓] theorem Kdf_pan {f v : V} {res : List ResV} : Kdf tbl f res S (.pan v) t h ↔ WD1 tbl f v h fun h2 => resOk (resultsOf t h2 res) h2 S := Iff.rfl
theorem WC_dfr_in {g m : Nat} {first caps args : List V} {res : List ResV} {body pre : C} {x : X} (ht : tbl g = some ⟨m, res, body, some (pre, x), none⟩) (hw : W tbl pre (pad (first ++ args ++ caps) m) h (Kpre tbl body x res S)) : WX tbl (.fn g first caps) args h S Sp := by
  refine WC_dfr ht rfl rfl (hw.mono ?_)
  rintro o t' h' ⟨rfl, q⟩
  refine ⟨rfl, q.mono ?_⟩
  intro o t1 h1 q1
  cases o <;> exact q1
end
theorem t90 : tb1 18 = some a18 := by kernel_rfl
theorem t159 : tb1 44 = some a44 := by kernel_rfl
theorem Ch.refl (b : Nat) (h : H) : Ch b h h := ⟨Nat.le_refl _, fun _ _ _ => rfl, [], rfl, fun _ hx => by simp at hx⟩
theorem res_cell1 {h : H} {t : List V} {n b : Nat} {x : V} (hn : nth t n = .p b 0) (hg : h.get b = some (.cells [x])) : resultsOf t h [.cell n none] = some [x] := by
  simp only [resultsOf, resultOf, hn, hg, nth?, Option.map_some]
section
variable {h : H}
theorem dfr_ok {ob : Nat} {S : H → Prop} (hS : S h) : WD1 tb1 (.fn 44 [] [.p ob 0]) .in0 h S := by
  rw [WD1_in t159]
  simp only [go_sem, ↓reduceIte, r44_0, r44_1, eqi_00]
  exact hS
theorem dfr_pan {ob : Nat} {S : H → Prop} {x : V} (g : h.get ob = some (.cells [x])) (hb : ob < h.next) (hS : ∀ h', Ch ob h h' → h'.get ob = some (.cells [.b false]) → S h') : WD1 tb1 (.fn 44 [] [.p ob 0]) misV h S := by
  rw [WD1_in t159]
  have e1 : eqV .iface misV .in0 = some false := rfl
  have e2 : taV misT (.agg []) true misV = some (.tup [.agg [], .b true]) := by simp [taV, misV]
  have e2' := e2
  simp only [misT] at e2'
  have g1 : (h.new (.cells [])).get h.next = some (.cells []) := get_new_eq rfl
  have s1 : stV (h.new (.cells [])) 0 (.p h.next 0) (.agg []) = some ((h.new (.cells [])).put h.next (.cells [])) := by
    simp [stV, V.cells, storeAt, g1, lay]
  have g2 : ((h.new (.cells [])).put h.next (.cells [])).get ob = some (.cells [x]) := by
    rw [get_put_ne (by omega), get_new_lt hb]; exact g
  have s2 : stV ((h.new (.cells [])).put h.next (.cells [])) 1 (.p ob 0) (.b false) = some (((h.new (.cells [])).put h.next (.cells [])).put ob (.cells [.b false])) := blk_st g2 (by simp) rfl rfl
  simp only [go_sem, ↓reduceIte, r44_0, r44_1, r44_2, r44_3, r44_5, e1, e2', s1, s2]
  exact hS _ ((Ch.of_ext (((Ext.refl h).new _).put (Nat.le_refl _) _)).put _) get_put_eq
theorem fn_tried {s : List Nat} {g : Nat} {caps : List V} {SS PP : V → H → Prop}
    (hr : WX tb1 (.fn g [] caps) [.p (h.next + 1) 0] ((h.new (.cells [.b false])).new (.cells [.s s])) SS PP)
    (hs : ∀ u h', SS u h' → h'.get h.next = some (.cells [.b false]) ∧ h.next < h'.next) (hp : ∀ u h', PP u h' → u = misV ∧ h'.get h.next = some (.cells [.b false]) ∧ h.next < h'.next) :
    WC tb1 (.fn 18 [] []) [.s s, .fn g [] caps] h fun u h' => (u = .b true ∧ ∃ v h1, SS v h1 ∧ Ch h.next h1 h') ∨ (u = .b false ∧ ∃ v h1, PP v h1 ∧ Ch h.next h1 h') := by
  refine WC_dfr_in t90 ?_
  simp only [go_sem, ↓reduceIte, r18_0, r18_1, List.nil_append, List.append_nil]
  have f1 : fill1 (.s s) = some [.s s] := rfl
  have hc : (V.agg [.s s]).cells = [.s s] := rfl
  simp only [go_sem, ↓reduceIte, r18_2, f1, hc, H.next_new]
  refine hr.mono ?_ ?_
  · intro u h1 q
    obtain ⟨q1, q2⟩ := hs u h1 q
    have st : stV h1 1 (.p h.next 0) (.b true) = some (h1.put h.next (.cells [.b true])) := blk_st (x := .b true) (i := 0) q1 (by simp) rfl rfl
    simp only [go_sem, ↓reduceIte, r18_3, st]
    refine dfr_ok ?_
    rw [res_cell1 (b := h.next) (x := .b true) (by simp only [go_sem, ↓reduceIte]) get_put_eq]
    exact .inl ⟨rfl, u, h1, q, (Ch.refl _ _).put _⟩
  · intro u h1 q
    obtain ⟨rfl, q1, q2⟩ := hp u h1 q
    simp only [go_sem, ↓reduceIte]
    refine dfr_pan q1 q2 ?_
    intro h' c g'
    rw [res_cell1 (b := h.next) (x := .b false) (by simp only [go_sem, ↓reduceIte]) g']
    exact .inr ⟨rfl, misV, h1, q, c⟩
end
end Go.Air
set_option maxRecDepth 100000
namespace Go.Air
open Go.Air.Try
def ints (l : List Int) : List V := l.map (V.i .i64)
def Ints (h : H) (v : V) (xs : List Int) : Prop := Sl 1 h v xs.length (ints xs)
theorem Ints.ext {h h' : H} {v : V} {xs : List Int} (s : Ints h v xs) (e : Ext h h') : Ints h' v xs := Sl.ext s e
theorem Ints.len {h : H} {v : V} {xs : List Int} (s : Ints h v xs) : lenV v = some xs.length := Sl.len s
theorem Ints.ix {h : H} {v : V} {xs : List Int} (s : Ints h v xs) {i : Nat} (hi : i < xs.length) : ixV 1 v (.i .i64 (i : Int)) = some (.p (blkV v) (offV v + i * 1)) := Sl.ix s hi
theorem Ints.ld {h : H} {v : V} {xs : List Int} (s : Ints h v xs) {i : Nat} {x : Int} (hx : xs[i]? = some x) : ldV h (.p (blkV v) (offV v + i * 1)) = some (.i .i64 x) := by
  have hi := (List.getElem?_eq_some_iff.1 hx).1
  rw [Sl.ld1 s hi]
  unfold ints
  rw [List.getElem?_map, hx]; rfl
theorem ix_own {b m j : Nat} (hj : j < m) : ixV 1 (.sl b 0 m m none) (.i .i64 (j : Int)) = some (.p b (0 + j * 1)) := by
  simp [ixV, natOf_nat, hj]
def GoodO (n : Int) (xs : List Int) : Prop := (xs.length : Int) = n ∧ (∀ x ∈ xs, 0 ≤ x ∧ x < n) ∧ xs.Nodup
instance (n : Int) (xs : List Int) : Decidable (GoodO n xs) := inferInstanceAs (Decidable (_ ∧ _ ∧ _))
def orderS (n : Int) (xs : List Int) : Int := if GoodO n xs then 0 else 1
def PreO (n : Int) (xs : List Int) : Prop := (∀ x ∈ xs, 0 ≤ x ∧ x < n) ∧ xs.Nodup
theorem preO_nil (n : Int) : PreO n [] := ⟨by simp, by simp⟩
theorem preO_step {n : Int} {xs : List Int} {i : Nat} {x : Int} (g : PreO n (xs.take i)) (hx : xs[i]? = some x) (h0 : 0 ≤ x) (h1 : x < n) (h2 : x ∉ xs.take i) : PreO n (xs.take (i + 1)) := by
  rw [take_succ' hx]
  refine ⟨fun y hy => ?_, List.nodup_append.2 ⟨g.2, by simp, fun a ha b hb => ?_⟩⟩
  · rcases List.mem_append.1 hy with hy | hy
    · exact g.1 y hy
    · simp at hy; subst hy; exact ⟨h0, h1⟩
  · simp at hb; subst hb
    rintro rfl; exact h2 ha
theorem goodO_bad {n : Int} {xs : List Int} {i : Nat} {x : Int} (hx : xs[i]? = some x) (h : x < 0 ∨ n ≤ x ∨ x ∈ xs.take i) : ¬ GoodO n xs := by
  intro g
  have hm := g.2.1 x (List.mem_of_getElem? hx)
  rcases h with h | h | h
  · omega
  · omega
  · obtain ⟨hi, e⟩ := List.getElem?_eq_some_iff.1 hx
    obtain ⟨j, hj, e2⟩ := List.getElem_of_mem h
    rw [List.getElem_take] at e2
    simp only [List.length_take] at hj
    exact List.pairwise_iff_getElem.1 g.2.2 j i (by omega) hi (by omega) (by rw [e, e2])
def seenB (m : Nat) (l : List Int) : List V := (List.range m).map fun (j : Nat) => V.b (decide ((j : Int) ∈ l))
theorem seenB_len (m : Nat) (l : List Int) : (seenB m l).length = m := by simp [seenB]
theorem seenB_get {m j : Nat} {l : List Int} (hj : j < m) : (seenB m l)[j]? = some (.b (decide ((j : Int) ∈ l))) := by simp [seenB, hj]
theorem seenB_nil (m : Nat) : seenB m [] = List.replicate m (.b false) := by
  apply List.ext_getElem?
  intro i
  by_cases hi : i < m
  · rw [seenB_get hi]; simp [hi]
  · rw [List.getElem?_eq_none (by rw [seenB_len]; omega), List.getElem?_eq_none (by simp; omega)]
theorem seenB_set {m j : Nat} {l : List Int} (hj : j < m) : (seenB m l).set j (.b true) = seenB m (l ++ [(j : Int)]) := by
  apply List.ext_getElem?
  intro i
  rw [List.getElem?_set]
  by_cases hi : i < m
  · rw [seenB_get hi, seenB_get hi]
    by_cases hji : j = i
    · subst hji; simp [seenB_len, hj]
    · have : ¬ (i : Int) = (j : Int) := by omega
      simp [hji, this]
  · rw [List.getElem?_eq_none (l := seenB m (l ++ [(j : Int)])) (by rw [seenB_len]; omega), List.getElem?_eq_none (l := seenB m l) (by rw [seenB_len]; omega)]
    have : j ≠ i := by omega
    simp [this]
theorem st_bool {h : H} {b j : Nat} {cs : List V} {x : Bool} (hg : h.get b = some (.cells cs)) (hj : j < cs.length) : stV h 1 (.p b (0 + j * 1)) (.b x) = some (h.put b (.cells (cs.set j (.b x)))) := blk_st0 hg hj rfl rfl
theorem ld_at {h : H} {b j : Nat} {cs : List V} {x : V} (hg : h.get b = some (.cells cs)) (hx : cs[j]? = some x) : ldV h (.p b (0 + j * 1)) = some x := blk_ld0 hg hx
theorem t124 : tb1 37 = some a37 := by kernel_rfl
theorem fn_CheckOrder {h : H} {n : Int} {v : V} {xs : List Int} (hs : Ints h v xs) (hn : xs.length ≤ 1000000) : WC tb1 (.fn 37 [] []) [.i .i64 n, v] h fun u h' => Ext h h' ∧ u = .i .i64 (orderS n xs) := by
  refine (WC_in t124).2 ?_
  by_cases c1 : ¬ (xs.length : Int) = n
  · simp only [go_sem, ↓reduceIte, r37_0, r37_1, r37_2, hs.len, c1]
    refine ⟨.refl h, ?_⟩
    rw [orderS, if_neg (fun g => c1 g.1)]
  replace c1 := Classical.not_not.1 c1
  subst c1
  simp only [go_sem, ↓reduceIte, r37_0, r37_1, r37_3, r37_4, hs.len, mkSl_ok (h := h) (z := .b false) (bytes := 1) (n := xs.length) (by omega) (by omega)]
  have e0 : Ext h (h.new (.cells (List.replicate xs.length (.b false)))) := (Ext.refl h).new _
  have s0 := hs.ext e0
  have g0 : (h.new (.cells (List.replicate xs.length (.b false)))).get h.next = some (.cells (seenB xs.length [])) := by rw [H.get_new, if_pos rfl, seenB_nil]
  have n0 : h.next < (h.new (.cells (List.replicate xs.length (.b false)))).next := by simp
  generalize hh : h.new (.cells (List.replicate xs.length (.b false))) = h0 at *
  generalize hm : xs.length = m at *
  refine W_while (fun k t h' => ∃ i, k = m - i ∧ i ≤ m ∧ t.length = 37 ∧ nth t 0 = .i .i64 (m : Int) ∧ nth t 5 = .sl h.next 0 m m none ∧ nth t 14 = v ∧ nth t 15 = .i .i64 (m : Int) ∧ nth t 16 = .i .i64 (i : Int) ∧ Ext h h' ∧ h.next < h'.next ∧ h'.get h.next = some (.cells (seenB m (xs.take i))) ∧ PreO m (xs.take i)) ?_ m ?_
  · rintro k t h' ⟨i, rfl, hi, tl, t0, t5, t14, t15, t16, e1, n1, g1, hp⟩
    unfold b37_0
    by_cases hlt : i < m
    · have hlt' : (i : Int) < (m : Int) := by omega
      have hlt2 : i < xs.length := by omega
      obtain ⟨x, hx⟩ : ∃ x, xs[i]? = some x := ⟨_, List.getElem?_eq_getElem hlt2⟩
      have s1 := hs.ext e1
      by_cases d1 : x < 0
      · simp only [go_sem, ↓reduceIte, r37_5, r37_6, r37_7, r37_8, tl, t0, t5, t14, t15, t16, hlt', s1.ix hlt2, s1.ld hx, d1]
        refine ⟨e1, ?_⟩
        rw [orderS, if_neg (goodO_bad hx (.inl d1))]
      by_cases d2 : (m : Int) ≤ x
      · simp only [go_sem, ↓reduceIte, r37_5, r37_6, r37_7, r37_8, tl, t0, t5, t14, t15, t16, hlt', s1.ix hlt2, s1.ld hx, d1, d2]
        refine ⟨e1, ?_⟩
        rw [orderS, if_neg (goodO_bad hx (.inr (.inl d2)))]
      obtain ⟨j, rfl⟩ := Int.eq_ofNat_of_zero_le (a := x) (by omega)
      have hj : j < m := by omega
      have hld := ld_at g1 (seenB_get (l := xs.take i) hj)
      by_cases d3 : (j : Int) ∈ xs.take i
      · simp only [go_sem, ↓reduceIte, r37_5, r37_6, r37_7, r37_8, tl, t0, t5, t14, t15, t16, hlt', s1.ix hlt2, s1.ld hx, d1, d2, ix_own hj, hld, d3]
        refine ⟨e1, ?_⟩
        rw [orderS, if_neg (goodO_bad hx (.inr (.inr d3)))]
      · simp only [go_sem, ↓reduceIte, r37_5, r37_6, r37_7, r37_9, r37_10, tl, t0, t5, t14, t15, t16, hlt', s1.ix hlt2, s1.ld hx, d1, d2, ix_own hj, hld, d3, st_bool g1 (show j < (seenB m (xs.take i)).length by rw [seenB_len]; exact hj), wrap_succ (show i < 1000000000 by omega)]
        refine ⟨m - (i + 1), by omega, i + 1, rfl, hlt, rfl, e1.put (Nat.le_refl _) _, by simpa using n1, ?_, preO_step hp hx (by omega) (by omega) d3⟩
        rw [H.get_put, if_pos rfl, seenB_set hj, take_succ' hx]
    · have hlt' : ¬ (i : Int) < (m : Int) := by omega
      simp only [go_sem, ↓reduceIte, r37_5, r37_11, tl, t0, t5, t14, t15, t16, hlt']
      rw [List.take_of_length_le (by omega)] at hp
      refine ⟨e1, ?_⟩
      rw [orderS, if_pos ⟨by omega, hp⟩]
  · refine ⟨0, by omega, by omega, ?_⟩
    simp only [go_sem, ↓reduceIte]
    exact ⟨e0, n0, g0, preO_nil _⟩
theorem t158 : tb1 43 = some a43 := by kernel_rfl
theorem fn_refCheckOrder {h : H} {n : Int} {v : V} {xs : List Int} (hs : Ints h v xs) (hn : xs.length ≤ 1000000) : WC tb1 (.fn 43 [] []) [.i .i64 n, v] h fun u h' => Ext h h' ∧ u = .i .i64 (orderS n xs) := by
  refine (WC_in t158).2 ?_
  by_cases c1 : ¬ (xs.length : Int) = n
  · simp only [go_sem, ↓reduceIte, r43_0, r43_1, r43_2, hs.len, c1]
    refine ⟨.refl h, ?_⟩
    rw [orderS, if_neg (fun g => c1 g.1)]
  replace c1 := Classical.not_not.1 c1
  subst c1
  simp only [go_sem, ↓reduceIte, r43_0, r43_1, r43_3, hs.len]
  generalize hm : xs.length = m at *
  refine W_while (fun k t h' => ∃ i, k = m - i ∧ i ≤ m ∧ t.length = 43 ∧ nth t 0 = .i .i64 (m : Int) ∧ nth t 1 = v ∧ nth t 5 = .i .i64 (i : Int) ∧ PreO m (xs.take i) ∧ h = h') ?_ m ?_
  · rintro k t h' ⟨i, rfl, hi, tl, t0, t1, t5, hp, rfl⟩
    unfold b43_1
    by_cases hlt : i < m
    · have hlt' : (i : Int) < (m : Int) := by omega
      have hlt2 : i < xs.length := by omega
      obtain ⟨x, hx⟩ : ∃ x, xs[i]? = some x := ⟨_, List.getElem?_eq_getElem hlt2⟩
      by_cases d1 : x < 0
      · simp only [go_sem, ↓reduceIte, r43_4, r43_6, r43_7, tl, t0, t1, t5, hlt', hs.ix hlt2, hs.ld hx, d1]
        refine ⟨.refl h, ?_⟩
        rw [orderS, if_neg (goodO_bad hx (.inl d1))]
      by_cases d2 : (m : Int) ≤ x
      · simp only [go_sem, ↓reduceIte, r43_4, r43_6, r43_7, tl, t0, t1, t5, hlt', hs.ix hlt2, hs.ld hx, d1, d2]
        refine ⟨.refl h, ?_⟩
        rw [orderS, if_neg (goodO_bad hx (.inr (.inl d2)))]
      simp only [go_sem, ↓reduceIte, r43_4, r43_6, r43_8, tl, t0, t1, t5, hlt', hs.ix hlt2, hs.ld hx, d1, d2]
      refine W_while (fun k t h' => ∃ j, k = i - j ∧ j ≤ i ∧ t.length = 43 ∧ nth t 0 = .i .i64 (m : Int) ∧ nth t 1 = v ∧ nth t 5 = .i .i64 (i : Int) ∧ nth t 6 = .i .i64 (j : Int) ∧ x ∉ xs.take j ∧ h = h') ?_ i ?_
      · rintro k t h' ⟨j, rfl, hj, tl, t0, t1, t5, t6, hno, rfl⟩
        unfold b43_0
        by_cases hlt3 : j < i
        · have hlt3' : (j : Int) < (i : Int) := by omega
          have hj2 : j < xs.length := by omega
          obtain ⟨y, hy⟩ : ∃ y, xs[j]? = some y := ⟨_, List.getElem?_eq_getElem hj2⟩
          by_cases d3 : y = x
          · simp only [go_sem, ↓reduceIte, r43_9, r43_11, r43_12, tl, t0, t1, t5, t6, hlt3', hs.ix hlt2, hs.ld hx, hs.ix hj2, hs.ld hy, d3]
            refine ⟨.refl h, ?_⟩
            rw [orderS, if_neg (goodO_bad hx (.inr (.inr ?_)))]
            subst d3
            exact List.mem_of_getElem? (i := j) (by rw [List.getElem?_take_of_lt hlt3]; exact hy)
          · simp only [go_sem, ↓reduceIte, r43_9, r43_10, r43_11, tl, t0, t1, t5, t6, hlt3', hs.ix hlt2, hs.ld hx, hs.ix hj2, hs.ld hy, d3, wrap_succ (show j < 1000000000 by omega)]
            refine ⟨i - (j + 1), by omega, j + 1, rfl, hlt3, rfl, ?_⟩
            rw [take_succ' hy]
            simp [hno, Ne.symm d3]
        · have hlt3' : ¬ (j : Int) < (i : Int) := by omega
          obtain rfl : j = i := by omega
          simp only [go_sem, ↓reduceIte, r43_9, r43_5, tl, t0, t1, t5, t6, hlt3', wrap_succ (show j < 1000000000 by omega)]
          exact ⟨m - (j + 1), by omega, j + 1, rfl, hlt, rfl, preO_step hp hx (by omega) (by omega) hno⟩
      · refine ⟨0, by omega, by omega, ?_⟩
        simp only [go_sem, ↓reduceIte, tl, t0, t1, t5]
        simp
    · have hlt' : ¬ (i : Int) < (m : Int) := by omega
      simp only [go_sem, ↓reduceIte, r43_4, r43_13, tl, t0, t1, t5, hlt']
      rw [List.take_of_length_le (by omega)] at hp
      refine ⟨.refl h, ?_⟩
      rw [orderS, if_pos ⟨by omega, hp⟩]
  · refine ⟨0, by omega, by omega, ?_⟩
    simp only [go_sem, ↓reduceIte]
    exact preO_nil _
end Go.Air
set_option maxRecDepth 100000
namespace Go.Air
open Go.Air.Try
def idOk (n : Int) : Bool := btw n 1 1000000
structure Scene where
  (host lang lot known day : Int)
  deriving DecidableEq
def Scene.cells (s : Scene) : List V := [I s.host, I s.lang, I s.lot, I s.known, I s.day]
def Scene.ok (s : Scene) : Bool := idOk s.host && (btw s.lang 1 3 && (btw s.lot 0 199 && (btw s.known 0 100000 && btw s.day 0 100000)))
def Scene.err (s : Scene) : Int := if s.ok = true then 0 else 1
section
variable {S Sp : V → H → Prop} {h : H}
theorem t260 : tb1 62 = some a62 := by kernel_rfl
theorem t261 : tb1 63 = some a63 := by kernel_rfl
theorem t265 : tb1 68 = some a68 := by kernel_rfl
theorem t153 : tb1 35 = some a35 := by kernel_rfl
theorem t156 : tb1 41 = some a41 := by kernel_rfl
theorem t154 : tb1 36 = some a36 := by kernel_rfl
theorem t157 : tb1 42 = some a42 := by kernel_rfl
@[go_sem ↓] theorem fn_isId {n : Int} : WX tb1 (.fn 62 [] []) [.i .i64 n] h S Sp ↔ S (.b (idOk n)) h := by
  rw [WC_in t260]
  unfold idOk btw
  by_cases h1 : 1 ≤ n
  · simp only [go_sem, ↓reduceIte, r62_0, r62_1, h1]; rfl
  · simp only [go_sem, ↓reduceIte, r62_0, r62_1, h1]; rfl
@[go_sem ↓] theorem fn_rid {n : Int} : WX tb1 (.fn 68 [] []) [.i .i64 n] h S Sp ↔ S (.b (idOk n)) h := by
  rw [WC_in t265]
  unfold idOk btw
  by_cases h1 : 1 ≤ n
  · simp only [go_sem, ↓reduceIte, r68_0, r68_1, h1]; rfl
  · simp only [go_sem, ↓reduceIte, r68_0, r68_1, h1]; rfl
@[go_sem ↓] theorem fn_in {a b c : Int} : WX tb1 (.fn 63 [] []) [.i .i64 a, .i .i64 b, .i .i64 c] h S Sp ↔ S (.b (btw a b c)) h := by
  rw [WC_in t261]
  unfold btw
  by_cases h1 : b ≤ a
  · simp only [go_sem, ↓reduceIte, r63_0, r63_1, h1]; rfl
  · simp only [go_sem, ↓reduceIte, r63_0, r63_1, h1]; rfl
theorem fn_scene {s : Scene} : WC tb1 (.fn 35 [] []) [.agg s.cells] h fun u h' => u = I s.err ∧ Ext h h' := by
  refine (WC_in t153).2 ?_
  have e1 : Ext h (h.new (.cells s.cells)) := (Ext.refl h).new _
  have g : (h.new (.cells s.cells)).get h.next = some (.cells s.cells) := get_new_eq rfl
  have hc : (V.agg s.cells).cells = s.cells := rfl
  have l0 : ldV (h.new (.cells s.cells)) (.p h.next 0) = some (.i .i64 s.host) := blk_ld g rfl
  have l1 : ldV (h.new (.cells s.cells)) (.p h.next 1) = some (.i .i64 s.lang) := blk_ld g rfl
  have l2 : ldV (h.new (.cells s.cells)) (.p h.next 2) = some (.i .i64 s.lot) := blk_ld g rfl
  have l3 : ldV (h.new (.cells s.cells)) (.p h.next 3) = some (.i .i64 s.known) := blk_ld g rfl
  have l4 : ldV (h.new (.cells s.cells)) (.p h.next 4) = some (.i .i64 s.day) := blk_ld g rfl
  unfold Scene.err Scene.ok
  cases c0 : idOk s.host
  · simp only [go_sem, ↓reduceIte, r35_0, r35_1, r35_2, hc, l0, c0]
    exact ⟨rfl, e1⟩
  cases c1 : btw s.lang 1 3
  · simp only [go_sem, ↓reduceIte, r35_0, r35_1, r35_2, hc, l0, l1, c0, c1]
    exact ⟨rfl, e1⟩
  cases c2 : btw s.lot 0 199
  · simp only [go_sem, ↓reduceIte, r35_0, r35_1, r35_2, hc, l0, l1, l2, c0, c1, c2]
    exact ⟨rfl, e1⟩
  cases c3 : btw s.known 0 100000
  · simp only [go_sem, ↓reduceIte, r35_0, r35_1, r35_2, hc, l0, l1, l2, l3, c0, c1, c2, c3]
    exact ⟨rfl, e1⟩
  cases c4 : btw s.day 0 100000
  · simp only [go_sem, ↓reduceIte, r35_0, r35_1, r35_2, hc, l0, l1, l2, l3, l4, c0, c1, c2, c3, c4]
    exact ⟨rfl, e1⟩
  · simp only [go_sem, ↓reduceIte, r35_0, r35_1, r35_3, hc, l0, l1, l2, l3, l4, c0, c1, c2, c3, c4]
    exact ⟨rfl, e1⟩
theorem btw_lo {a b c : Int} (h : a < b) : btw a b c = false := by unfold btw; rw [decide_eq_false (by omega), Bool.false_and]
theorem btw_hi {a b c : Int} (h : c < a) : btw a b c = false := by unfold btw; rw [decide_eq_false (p := a ≤ c) (by omega), Bool.and_false]
theorem btw_in {a b c : Int} (h1 : ¬ a < b) (h2 : ¬ c < a) : btw a b c = true := by unfold btw; rw [decide_eq_true (by omega), decide_eq_true (by omega)]; rfl
theorem fn_rscene {s : Scene} : WC tb1 (.fn 41 [] []) [.agg s.cells] h fun u h' => u = I s.err ∧ Ext h h' := by
  refine (WC_in t156).2 ?_
  have e1 : Ext h (h.new (.cells s.cells)) := (Ext.refl h).new _
  have g : (h.new (.cells s.cells)).get h.next = some (.cells s.cells) := get_new_eq rfl
  have hc : (V.agg s.cells).cells = s.cells := rfl
  have l0 : ldV (h.new (.cells s.cells)) (.p h.next 0) = some (.i .i64 s.host) := blk_ld g rfl
  have l1 : ldV (h.new (.cells s.cells)) (.p h.next 1) = some (.i .i64 s.lang) := blk_ld g rfl
  have l2 : ldV (h.new (.cells s.cells)) (.p h.next 2) = some (.i .i64 s.lot) := blk_ld g rfl
  have l3 : ldV (h.new (.cells s.cells)) (.p h.next 3) = some (.i .i64 s.known) := blk_ld g rfl
  have l4 : ldV (h.new (.cells s.cells)) (.p h.next 4) = some (.i .i64 s.day) := blk_ld g rfl
  have no : ∀ {x y z u w : Bool}, (x && (y && (z && (u && w)))) = false → (if (x && (y && (z && (u && w)))) = true then (0 : Int) else 1) = 1 := fun e => by rw [e]; rfl
  unfold Scene.err Scene.ok
  cases c0 : idOk s.host
  · simp only [go_sem, ↓reduceIte, r41_0, r41_1, r41_2, hc, l0, c0]
    exact ⟨rfl, e1⟩
  by_cases c1 : s.lang < 1
  · simp only [go_sem, ↓reduceIte, r41_0, r41_1, r41_2, hc, l0, l1, c0, c1, btw_lo c1]
    exact ⟨rfl, e1⟩
  by_cases c2 : 3 < s.lang
  · simp only [go_sem, ↓reduceIte, r41_0, r41_1, r41_2, hc, l0, l1, c0, c1, c2, btw_hi c2]
    exact ⟨rfl, e1⟩
  by_cases c3 : s.lot < 0
  · simp only [go_sem, ↓reduceIte, r41_0, r41_1, r41_2, hc, l0, l1, l2, c0, c1, c2, c3, btw_lo c3]
    exact ⟨by rw [no (by simp)]; rfl, e1⟩
  by_cases c4 : 199 < s.lot
  · simp only [go_sem, ↓reduceIte, r41_0, r41_1, r41_2, hc, l0, l1, l2, c0, c1, c2, c3, c4, btw_hi c4]
    exact ⟨by rw [no (by simp)]; rfl, e1⟩
  by_cases c5 : s.known < 0
  · simp only [go_sem, ↓reduceIte, r41_0, r41_1, r41_2, hc, l0, l1, l2, l3, c0, c1, c2, c3, c4, c5, btw_lo c5]
    exact ⟨by rw [no (by simp)]; rfl, e1⟩
  by_cases c6 : 100000 < s.known
  · simp only [go_sem, ↓reduceIte, r41_0, r41_1, r41_2, hc, l0, l1, l2, l3, c0, c1, c2, c3, c4, c5, c6, btw_hi c6]
    exact ⟨by rw [no (by simp)]; rfl, e1⟩
  by_cases c7 : s.day < 0
  · simp only [go_sem, ↓reduceIte, r41_0, r41_1, r41_2, hc, l0, l1, l2, l3, l4, c0, c1, c2, c3, c4, c5, c6, c7, btw_lo c7]
    exact ⟨by rw [no (by simp)]; rfl, e1⟩
  by_cases c8 : 100000 < s.day
  · simp only [go_sem, ↓reduceIte, r41_0, r41_1, r41_2, hc, l0, l1, l2, l3, l4, c0, c1, c2, c3, c4, c5, c6, c7, c8, btw_hi c8]
    exact ⟨by rw [no (by simp)]; rfl, e1⟩
  · simp only [go_sem, ↓reduceIte, r41_0, r41_1, r41_3, hc, l0, l1, l2, l3, l4, c0, c1, c2, c3, c4, c5, c6, c7, c8, btw_in c1 c2, btw_in c3 c4, btw_in c5 c6, btw_in c7 c8]
    exact ⟨rfl, e1⟩
end
end Go.Air
set_option maxRecDepth 100000
namespace Go.Air
open Go.Air.Try
def gE (seen : List Int) : List (Int × Int) → Int
  | [] => 0
  | p :: l => if (idOk p.1 && idOk p.2) = false then 1 else if p.1 ∈ seen then 6 else gE (seen ++ [p.1]) l
def guestsE (gs : List (Int × Int)) : Int := if 24 < gs.length then 2 else gE [] gs
def seenOf (gs : List (Int × Int)) (i : Nat) : List Int := (gs.take i).map Prod.fst
theorem gE_step {gs : List (Int × Int)} {i : Nat} {p : Int × Int} (hp : gs[i]? = some p) (h1 : (idOk p.1 && idOk p.2) = true) (h2 : p.1 ∉ seenOf gs i) : gE (seenOf gs i) (gs.drop i) = gE (seenOf gs (i + 1)) (gs.drop (i + 1)) := by
  obtain ⟨hi, e⟩ := List.getElem?_eq_some_iff.1 hp
  rw [List.drop_eq_getElem_cons hi, e, gE, if_neg (by rw [h1]; decide), if_neg h2]
  unfold seenOf
  rw [take_succ' hp, List.map_append]; rfl
theorem gE_bad {gs : List (Int × Int)} {i : Nat} {p : Int × Int} (hp : gs[i]? = some p) (h1 : (idOk p.1 && idOk p.2) = false) : gE (seenOf gs i) (gs.drop i) = 1 := by
  obtain ⟨hi, e⟩ := List.getElem?_eq_some_iff.1 hp
  rw [List.drop_eq_getElem_cons hi, e, gE, if_pos h1]
theorem gE_twice {gs : List (Int × Int)} {i : Nat} {p : Int × Int} (hp : gs[i]? = some p) (h1 : (idOk p.1 && idOk p.2) = true) (h2 : p.1 ∈ seenOf gs i) : gE (seenOf gs i) (gs.drop i) = 6 := by
  obtain ⟨hi, e⟩ := List.getElem?_eq_some_iff.1 hp
  rw [List.drop_eq_getElem_cons hi, e, gE, if_neg (by rw [h1]; decide), if_pos h2]
theorem cells2_len : ∀ gs : List (Int × Int), (cells2 gs).length = gs.length * 2
  | [] => rfl
  | p :: l => by
    have := cells2_len l
    simp only [cells2, List.flatMap_cons, List.length_append, List.length_cons, List.length_nil] at this ⊢
    omega
theorem cells2_drop : ∀ {gs : List (Int × Int)} {i : Nat} {p : Int × Int}, gs[i]? = some p → (cells2 gs).drop (i * 2) = I p.1 :: I p.2 :: cells2 (gs.drop (i + 1))
  | [], _, _, h => by simp at h
  | q :: l, 0, p, h => by simp at h; subst h; rfl
  | q :: l, i + 1, p, h => by
    have h : l[i]? = some p := by simpa using h
    have := cells2_drop h
    show ([I q.1, I q.2] ++ cells2 l).drop ((i + 1) * 2) = _
    rw [show (i + 1) * 2 = 2 + i * 2 by omega, ← List.drop_drop]
    exact this
theorem cells2_get {gs : List (Int × Int)} {i : Nat} {p : Int × Int} (h : gs[i]? = some p) : (cells2 gs)[i * 2 + 0]? = some (I p.1) ∧ (cells2 gs)[i * 2 + 1]? = some (I p.2) := by
  have := cells2_drop h
  constructor
  · have h1 := congrArg (·[0]?) this
    simpa [List.getElem?_drop] using h1
  · have h1 := congrArg (·[1]?) this
    simpa [List.getElem?_drop] using h1
theorem cells2_take {gs : List (Int × Int)} {i : Nat} {p : Int × Int} (h : gs[i]? = some p) : ((cells2 gs).drop (i * 2)).take 2 = [I p.1, I p.2] := by rw [cells2_drop h]; rfl
def Gsts (h : H) (v : V) (gs : List (Int × Int)) : Prop := Sl 2 h v gs.length (cells2 gs)
section
variable {h : H}
structure M154 (h hh : H) (mb : Nat) (seen : List Int) : Prop where
  ext : Ext h hh
  ge : h.next ≤ mb
  lt : mb < hh.next
  map : ∃ l, hh.get mb = some (.map (encM l)) ∧ ∀ x, lkp x l = if x ∈ seen then some (.b true) else none
theorem fn_guests {v : V} {gs : List (Int × Int)} (q : Gsts h v gs) (hn : gs.length ≤ 1000000) : WC tb1 (.fn 36 [] []) [v] h fun u h' => u = I (guestsE gs) ∧ Ext h h' := by
  refine (WC_in t154).2 ?_
  have hlv := Sl.len q
  by_cases c0 : (24 : Int) < (gs.length : Int)
  · simp only [go_sem, ↓reduceIte, r36_0, r36_1, r36_2, hlv, c0]
    exact ⟨by unfold guestsE; rw [if_pos (by omega)]; rfl, .refl h⟩
  have hE : guestsE gs = gE [] gs := by unfold guestsE; rw [if_neg (by omega)]
  simp only [go_sem, ↓reduceIte, r36_0, r36_1, r36_3, r36_4, hlv, c0]
  refine W_while (fun k t hh => ∃ i, k = gs.length - i ∧ i ≤ gs.length ∧ t.length = 34 ∧ nth t 3 = .m h.next ∧ nth t 10 = v ∧ nth t 11 = .i .i64 (gs.length : Int) ∧ nth t 12 = .i .i64 (i : Int) ∧ guestsE gs = gE (seenOf gs i) (gs.drop i) ∧ M154 h hh h.next (seenOf gs i)) ?_ gs.length ?_
  · rintro k t hh ⟨i, rfl, hi, tl, t3, t10, t11, t12, hg, m⟩
    unfold b36_0
    by_cases hin : i < gs.length
    · have hI : (i : Int) < (gs.length : Int) := by omega
      have hp : gs[i]? = some gs[i] := List.getElem?_eq_getElem hin
      generalize gs[i] = p at hp
      have q1 := Sl.ext q m.ext
      have hix := q1.ix hin
      have hldn := q1.ldn hin
      rw [cells2_take hp] at hldn
      obtain ⟨h2, s1, s2, s3, s4, s5, s6⟩ := st_new2 hh (I 0) (I 0) (x := I p.1) (y := I p.2) rfl rfl
      obtain ⟨l, g1, hl⟩ := m.map
      have g2 : h2.get h.next = some (.map (encM l)) := s2.get m.lt g1
      have hlk := lookV_int g2 p.1
      have w1 : IntKind.i64.wrap ((i : Int) + 1) = ((i + 1 : Nat) : Int) := wrap_succ (by omega)
      have s5 : ldV h2 (.p hh.next 0) = some (.i .i64 p.1) := s5
      have s6 : ldV h2 (.p hh.next 1) = some (.i .i64 p.2) := s6
      simp only [go_sem, ↓reduceIte, r36_5, r36_6, tl, t3, t10, t11, t12, hI, hix, hldn]
      have s1 : stV (hh.new (.cells [.i .i64 0, .i .i64 0])) 2 (.p hh.next 0) (.agg [I p.1, I p.2]) = some h2 := s1
      simp only [go_sem, ↓reduceIte, s1, r36_7, tl, t3, t10, t11, t12, s5]
      cases c1 : idOk p.1
      · simp only [go_sem, ↓reduceIte, c1, r36_8, tl]
        exact ⟨by rw [hg, gE_bad hp (by rw [c1]; rfl)]; rfl, m.ext.trans s2⟩
      cases c2 : idOk p.2
      · simp only [go_sem, ↓reduceIte, c1, c2, s6, r36_8, tl]
        exact ⟨by rw [hg, gE_bad hp (by rw [c1, c2]; rfl)]; rfl, m.ext.trans s2⟩
      have c12 : (idOk p.1 && idOk p.2) = true := by rw [c1, c2]; rfl
      simp only [go_sem, ↓reduceIte, c1, c2, s5, s6, r36_9, tl, t3, hlk, hl]
      by_cases c3 : p.1 ∈ seenOf gs i
      · simp only [go_sem, ↓reduceIte, c3, r36_10, tl]
        exact ⟨by rw [hg, gE_twice hp c12 c3]; rfl, m.ext.trans s2⟩
      · have hms := mapSetV_int g2 p.1 (.b true)
        simp only [go_sem, ↓reduceIte, c3, r36_11, r36_12, tl, t3, t10, t11, t12, s5, hms, w1]
        refine ⟨gs.length - (i + 1), by omega, i + 1, rfl, by omega, rfl, by rw [hg, gE_step hp c12 c3], (m.ext.trans s2).put (Nat.le_refl _) _, Nat.le_refl _, Nat.lt_of_lt_of_le m.lt s2.nx, _, get_put_eq, fun x => ?_⟩
        rw [lkp_ins, hl]
        have e : seenOf gs (i + 1) = seenOf gs i ++ [p.1] := by unfold seenOf; rw [take_succ' hp, List.map_append]; rfl
        rw [e]
        by_cases hx : x = p.1
        · subst hx; simp
        · simp [hx]
    · have hI : ¬ (i : Int) < (gs.length : Int) := by omega
      simp only [go_sem, ↓reduceIte, r36_5, r36_13, tl, t11, t12, hI]
      refine ⟨?_, m.ext⟩
      rw [hg, List.drop_of_length_le (by omega)]; rfl
  · refine ⟨0, rfl, by omega, by simp only [go_sem, ↓reduceIte], by simp only [go_sem, ↓reduceIte], by simp only [go_sem, ↓reduceIte], by simp only [go_sem, ↓reduceIte], by simp only [go_sem, ↓reduceIte], hE, (Ext.refl h).new _, Nat.le_refl _, by simp, [], get_new_eq rfl, fun x => by simp [seenOf, lkp]⟩
theorem fn_rguests {v : V} {gs : List (Int × Int)} (q : Gsts h v gs) (hn : gs.length ≤ 1000000) : WC tb1 (.fn 42 [] []) [v] h fun u h' => u = I (guestsE gs) ∧ Ext h h' := by
  refine (WC_in t157).2 ?_
  have hlv := Sl.len q
  by_cases c0 : (24 : Int) < (gs.length : Int)
  · simp only [go_sem, ↓reduceIte, r42_0, r42_1, r42_2, hlv, c0]
    exact ⟨by unfold guestsE; rw [if_pos (by omega)]; rfl, .refl h⟩
  have hE : guestsE gs = gE [] gs := by unfold guestsE; rw [if_neg (by omega)]
  simp only [go_sem, ↓reduceIte, r42_0, r42_1, r42_3, hlv, c0]
  refine W_while (fun k t hh => ∃ i, k = gs.length - i ∧ i ≤ gs.length ∧ t.length = 46 ∧ nth t 0 = v ∧ nth t 3 = .i .i64 (i : Int) ∧ guestsE gs = gE (seenOf gs i) (gs.drop i) ∧ hh = h) ?_ gs.length ?_
  · rintro k t hh ⟨i, rfl, hi, tl, t0, t3, hg, rfl⟩
    unfold b42_1
    by_cases hin : i < gs.length
    · have hI : (i : Int) < (gs.length : Int) := by omega
      have hp : gs[i]? = some gs[i] := List.getElem?_eq_getElem hin
      generalize gs[i] = p at hp
      have hix := Sl.ix q hin
      have hl0 := Sl.ld q hin (k := 0) (by omega)
      have hl1 := Sl.ld q hin (k := 1) (by omega)
      rw [(cells2_get hp).1] at hl0
      rw [(cells2_get hp).2] at hl1
      have hl0 : ldV hh (.p (blkV v) (offV v + i * 2 + 0)) = some (.i .i64 p.1) := hl0
      have hl1 : ldV hh (.p (blkV v) (offV v + i * 2 + 1)) = some (.i .i64 p.2) := hl1
      have w1 : IntKind.i64.wrap ((i : Int) + 1) = ((i + 1 : Nat) : Int) := wrap_succ (by omega)
      cases c1 : idOk p.1
      · simp only [go_sem, ↓reduceIte, r42_4, r42_6, r42_7, tl, t0, t3, hlv, hI, hix, hl0, c1]
        exact ⟨by rw [hg, gE_bad hp (by rw [c1]; rfl)]; rfl, .refl _⟩
      cases c2 : idOk p.2
      · simp only [go_sem, ↓reduceIte, r42_4, r42_6, r42_7, tl, t0, t3, hlv, hI, hix, hl0, hl1, c1, c2]
        exact ⟨by rw [hg, gE_bad hp (by rw [c1, c2]; rfl)]; rfl, .refl _⟩
      have c12 : (idOk p.1 && idOk p.2) = true := by rw [c1, c2]; rfl
      simp only [go_sem, ↓reduceIte, r42_4, r42_6, r42_8, tl, t0, t3, hlv, hI, hix, hl0, hl1, c1, c2]
      refine W_while (fun k t hh' => ∃ j, k = i - j ∧ j ≤ i ∧ t.length = 46 ∧ nth t 0 = v ∧ nth t 3 = .i .i64 (i : Int) ∧ nth t 4 = .i .i64 (j : Int) ∧ p.1 ∉ seenOf gs j ∧ hh' = hh) ?_ i ?_
      · rintro k t hh' ⟨j, rfl, hj, tl, t0, t3, t4, hno, rfl⟩
        unfold b42_0
        by_cases hlt3 : j < i
        · have hI3 : (j : Int) < (i : Int) := by omega
          have hjn : j < gs.length := by omega
          have hr : gs[j]? = some gs[j] := List.getElem?_eq_getElem hjn
          generalize gs[j] = r at hr
          have hjx := Sl.ix q hjn
          have hj0 := Sl.ld q hjn (k := 0) (by omega)
          rw [(cells2_get hr).1] at hj0
          have hj0 : ldV hh' (.p (blkV v) (offV v + j * 2 + 0)) = some (.i .i64 r.1) := hj0
          have w2 : IntKind.i64.wrap ((j : Int) + 1) = ((j + 1 : Nat) : Int) := wrap_succ (by omega)
          by_cases d3 : r.1 = p.1
          · simp only [go_sem, ↓reduceIte, r42_9, r42_11, r42_12, tl, t0, t3, t4, hI3, hix, hl0, hjx, hj0, d3]
            refine ⟨?_, .refl _⟩
            rw [hg, gE_twice hp c12]
            · rfl
            · unfold seenOf
              exact List.mem_map.2 ⟨r, List.mem_of_getElem? (i := j) (by rw [List.getElem?_take_of_lt hlt3]; exact hr), d3⟩
          · simp only [go_sem, ↓reduceIte, r42_9, r42_10, r42_11, tl, t0, t3, t4, hI3, hix, hl0, hjx, hj0, d3, w2]
            refine ⟨i - (j + 1), by omega, j + 1, rfl, by omega, rfl, ?_⟩
            have e : seenOf gs (j + 1) = seenOf gs j ++ [r.1] := by unfold seenOf; rw [take_succ' hr, List.map_append]; rfl
            rw [e]
            simp [hno, Ne.symm d3]
        · have hI3 : ¬ (j : Int) < (i : Int) := by omega
          obtain rfl : j = i := by omega
          simp only [go_sem, ↓reduceIte, r42_9, r42_5, tl, t0, t3, t4, hI3, w1]
          exact ⟨gs.length - (j + 1), by omega, j + 1, rfl, by omega, rfl, by rw [hg, gE_step hp c12 hno]⟩
      · refine ⟨0, by omega, by omega, by simp only [go_sem, ↓reduceIte, tl], by simp only [go_sem, ↓reduceIte, tl, t0], by simp only [go_sem, ↓reduceIte, tl, t3], by simp only [go_sem, ↓reduceIte, tl], by simp [seenOf], rfl⟩
    · have hI : ¬ (i : Int) < (gs.length : Int) := by omega
      simp only [go_sem, ↓reduceIte, r42_4, r42_13, tl, t0, t3, hlv, hI]
      refine ⟨?_, .refl _⟩
      rw [hg, List.drop_of_length_le (by omega)]; rfl
  · exact ⟨0, rfl, by omega, by simp only [go_sem, ↓reduceIte], by simp only [go_sem, ↓reduceIte], by simp only [go_sem, ↓reduceIte], hE, rfl⟩
end
end Go.Air
set_option maxRecDepth 100000
namespace Go.Air
open Go.Air.Try
def Ann.scene (a : Ann) : Scene := ⟨a.host, a.lang, a.lot, a.known, a.day⟩
def Ann.good (a : Ann) : Bool := (btw a.id 1 1000000 && (btw a.old 0 1000000 && (btw a.passed 0 24 && (btw a.moved 0 24 && btw a.off 0 1000000)))) &&
  (decide (a.scene.err = 0) && (decide (guestsE a.guests = 0) && decide (orderS a.guests.length a.order = 0)))
structure AnnV (h : H) (a : Ann) (gv ov : V) : Prop where
  gs : Gsts h gv a.guests
  ord : Ints h ov a.order
  gl : a.guests.length ≤ 1000000
  ol : a.order.length ≤ 1000000
theorem AnnV.ext {h h' : H} {a : Ann} {gv ov : V} (q : AnnV h a gv ov) (e : Ext h h') : AnnV h' a gv ov := ⟨Sl.ext q.gs e, q.ord.ext e, q.gl, q.ol⟩
section
variable {h : H}
theorem t86 : tb1 14 = some a14 := by kernel_rfl
theorem annL {hh : H} {b : Nat} {a : Ann} {gv ov : V} (g : hh.get b = some (.cells (a.cells gv ov))) :
    ldV hh (.p b 0) = some (.i .i64 a.id) ∧ ldV hh (.p b 7) = some (.i .i64 a.old) ∧ ldV hh (.p b 8) = some (.i .i64 a.passed) ∧ ldV hh (.p b 10) = some (.i .i64 a.off) ∧ ldV hh (.p b 11) = some (.i .i64 a.moved) ∧
    ldV hh (.p b 6) = some gv ∧ ldV hh (.p b 9) = some ov ∧ ldnV hh 5 (.p b 1) = some (.agg a.scene.cells) := by
  refine ⟨blk_ld g rfl, blk_ld g rfl, blk_ld g rfl, blk_ld g rfl, blk_ld g rfl, blk_ld g rfl, blk_ld g rfl, ?_⟩
  have : cut (a.cells gv ov) 1 5 = some a.scene.cells := rfl
  simp [ldnV, g, Blk.rd, this]
theorem fn_announced {a : Ann} {gv ov : V} (q : AnnV h a gv ov) : WC tb1 (.fn 14 [] []) [.agg (a.cells gv ov)] h fun u h' => u = .b a.good ∧ Ext h h' := by
  refine (WC_in t86).2 ?_
  have e1 : Ext h (h.new (.cells (a.cells gv ov))) := (Ext.refl h).new _
  have g : (h.new (.cells (a.cells gv ov))).get h.next = some (.cells (a.cells gv ov)) := get_new_eq rfl
  have hc : (V.agg (a.cells gv ov)).cells = a.cells gv ov := rfl
  obtain ⟨l0, l7, l8, l10, l11, _, _, _⟩ := annL g
  unfold Ann.good
  cases c0 : btw a.id 1 1000000
  · simp only [go_sem, ↓reduceIte, r14_0, r14_1, hc, l0, c0]
    exact ⟨rfl, e1⟩
  cases c1 : btw a.old 0 1000000
  · simp only [go_sem, ↓reduceIte, r14_0, r14_1, hc, l0, l7, c0, c1]
    exact ⟨rfl, e1⟩
  cases c2 : btw a.passed 0 24
  · simp only [go_sem, ↓reduceIte, r14_0, r14_1, hc, l0, l7, l8, c0, c1, c2]
    exact ⟨rfl, e1⟩
  cases c3 : btw a.moved 0 24
  · simp only [go_sem, ↓reduceIte, r14_0, r14_1, hc, l0, l7, l8, l11, c0, c1, c2, c3]
    exact ⟨rfl, e1⟩
  cases c4 : btw a.off 0 1000000
  · simp only [go_sem, ↓reduceIte, r14_0, r14_1, hc, l0, l7, l8, l10, l11, c0, c1, c2, c3, c4]
    exact ⟨rfl, e1⟩
  obtain ⟨_, _, _, _, _, _, _, ln⟩ := annL g
  simp only [go_sem, ↓reduceIte, r14_0, r14_1, hc, l0, l7, l8, l10, l11, ln, c0, c1, c2, c3, c4]
  refine (fn_scene).mono ?_
  rintro u h2 ⟨rfl, e2⟩
  have g2 := e2.get (by simp) g
  obtain ⟨_, _, _, _, _, l6, l9, _⟩ := annL g2
  have hI : ∀ n : Int, I n = .i .i64 n := fun _ => rfl
  simp only [go_sem, ↓reduceIte, hI]
  by_cases c5 : a.scene.err = 0
  · simp only [go_sem, ↓reduceIte, c5, l6]
    refine (fn_guests (q.ext (e1.trans e2)).gs q.gl).mono ?_
    rintro u h3 ⟨rfl, e3⟩
    have g3 := e3.get (Nat.lt_of_lt_of_le (by simp) e2.nx) g2
    obtain ⟨_, _, _, _, _, l6', l9', _⟩ := annL g3
    simp only [go_sem, ↓reduceIte, hI]
    by_cases c6 : guestsE a.guests = 0
    · have hlv := Sl.len (q.ext ((e1.trans e2).trans e3)).gs
      simp only [go_sem, ↓reduceIte, c6, l6', l9', hlv]
      refine (fn_CheckOrder (q.ext ((e1.trans e2).trans e3)).ord q.ol).mono ?_
      rintro u h4 ⟨e4, rfl⟩
      simp only [go_sem, ↓reduceIte]
      exact ⟨by simp, ((e1.trans e2).trans e3).trans e4⟩
    · simp only [go_sem, ↓reduceIte, c6]
      exact ⟨rfl, (e1.trans e2).trans e3⟩
  · simp only [go_sem, ↓reduceIte, c5]
    exact ⟨rfl, e1.trans e2⟩
end
end Go.Air
set_option maxRecDepth 100000
namespace Go.Air
open Go.Air.Try
theorem lineT_len (w : List Nat) : ∀ ns : List Int, ns.length ≤ (lineT w ns).length := by
  intro ns
  have : ∀ ns : List Int, ns.length ≤ (ns.flatMap fun n => 32 :: itoa n).length := by
    intro ns
    induction ns with
    | nil => simp
    | cons n ns ih => simp at ih ⊢; omega
  have := this ns
  unfold lineT
  simp at this ⊢; omega
theorem guestsT_len : ∀ g : List (Int × Int), g.length ≤ (guestsT g).length
  | [] => by simp [guestsT]
  | p :: g => by
    have := guestsT_len g
    simp [guestsT, lineT, wGuest] at this ⊢
    omega
theorem text_len (a : Ann) : a.guests.length ≤ a.text.length ∧ a.order.length ≤ a.text.length := by
  have h1 := guestsT_len a.guests
  have h2 := lineT_len wOrder a.order
  unfold Ann.text
  simp only [List.length_append]
  omega
def GetR (h h' : H) (s : List Nat) (u : V) : Prop :=
  (∃ a gv ov, annOf s = some a ∧ a.good = true ∧ u = .tup [.agg (a.cells gv ov), I 0] ∧ Own h 2 h' gv a.guests.length (cells2 a.guests) ∧ Own h 1 h' ov a.order.length (a.order.map I)) ∨
  ((∀ a, annOf s = some a → a.good = false) ∧ u = .tup [.agg zeroC, I 4])
theorem Own.ch {h0 h1 h' : H} {esz n ob : Nat} {v : V} {cs c : List V} (o : Own h0 esz h1 v n cs) (q : Ch ob h1 h') (g : h1.get ob = some (.cells c)) (hne : cs ≠ c) : Own h0 esz h' v n cs := by
  obtain ⟨hl, o | ⟨b, g', rfl, hv, a1, a2, a3⟩⟩ := o
  · exact ⟨hl, .inl o⟩
  · refine ⟨hl, .inr ⟨b, g', rfl, hv, a1, Nat.lt_of_lt_of_le a2 q.nx, (q.same b a2 ?_).trans a3⟩⟩
    rintro rfl
    rw [g] at a3
    cases a3
    exact hne rfl
theorem res_cell2 {h : H} {t : List V} {n b k m : Nat} {cs : List V} (hn : nth t n = .p b 0) (hg : h.get b = some (.cells cs)) (hk : cs.length = k) : resultsOf t h [.cell n (some k), .tmp m] = some [.agg cs, nth t m] := by
  have : cut cs 0 k = some cs := cut_eq.2 ⟨by omega, by simp [← hk]⟩
  simp only [resultsOf, resultOf, hn, hg, this, Option.map_some]
theorem cells12 (a : Ann) (gv ov : V) : (a.cells gv ov).length = 12 := rfl
theorem annOne {a : Ann} {gv ov : V} (hg : gv.oneCell = true) (ho : ov.oneCell = true) : ∀ u ∈ a.cells gv ov, u.oneCell = true := by
  intro u hu
  simp only [Ann.cells, List.mem_cons, List.not_mem_nil, or_false] at hu
  rcases hu with rfl | rfl | rfl | rfl | rfl | rfl | rfl | rfl | rfl | rfl | rfl | rfl <;> first | rfl | assumption
theorem Own.one {h0 h : H} {esz n : Nat} {v : V} {cs : List V} (o : Own h0 esz h v n cs) : v.oneCell = true := by
  obtain ⟨_, ⟨_, rfl⟩ | ⟨b, g, rfl, _⟩⟩ := o <;> rfl
section
variable {h : H}
theorem t30 : tb1 7 = some a7 := by kernel_rfl
theorem fn_GetAnnounce (ht : Tb4 h) {s : List Nat} (hs : s.length ≤ 1000000) : WC tb1 (.fn 7 [] []) [.s s] h fun u h' => Ext h h' ∧ GetR h h' s u := by
  refine (WC_in t30).2 ?_
  simp only [go_sem, ↓reduceIte, r7_0, r7_1, r7_2]
  have hz : [V.i .i64 0, .i .i64 0, .i .i64 0, .i .i64 0, .i .i64 0, .i .i64 0, .sn, .i .i64 0, .i .i64 0, .sn, .i .i64 0, .i .i64 0] = zeroC := rfl
  rw [hz]
  have hn1 : (h.new (.cells zeroC)).next = h.next + 1 := rfl
  generalize hh2 : (h.new (.cells zeroC)).new (.cells zeroC) = h2
  have n2 : h2.next = h.next + 2 := by subst hh2; rfl
  have e2 : Ext h h2 := by subst hh2; exact ((Ext.refl h).new _).new _
  have ga2 : h2.get (h.next + 1) = some (.cells zeroC) := by subst hh2; exact get_new_eq rfl
  have gr2 : h2.get h.next = some (.cells zeroC) := by subst hh2; rw [get_new_lt (by simp), get_new_eq rfl]
  generalize hhS : (h2.new (.cells [.b false])).new (.cells [.s s]) = hS
  have nS : hS.next = h.next + 4 := by subst hhS; show h2.next + 2 = _; omega
  have eS : Ext h2 hS := by subst hhS; exact ((Ext.refl h2).new _).new _
  have gS1 : hS.get (h2.next + 1) = some (.cells [.s s]) := by subst hhS; exact get_new_eq rfl
  have gS0 : hS.get h2.next = some (.cells [.b false]) := by subst hhS; rw [get_new_lt (by simp), get_new_eq rfl]
  have B : B91 h hS (h2.next + 1) (h.next + 1) := ⟨by omega, by omega, by omega, by omega, by omega⟩
  have hr := fn_91 ht (e2.trans eS) B gS1 (eS.get (by omega) ga2) hs
  have kp : ∀ h', Keeps hS h' (h2.next + 1) (h.next + 1) → h'.get h2.next = some (.cells [.b false]) ∧ h2.next < h'.next := fun h' k => ⟨(k.2 _ (by omega) (by omega) (by omega)).trans gS0, by have := k.1; omega⟩
  rw [← hhS] at hr
  have key := fn_tried hr (fun u h' q => by rw [hhS] at q; exact kp h' q.2.2.1) (fun u h' q => by rw [hhS] at q; exact ⟨q.1, kp h' q.2.2.1⟩)
  rw [hhS] at key
  rw [hn1]
  refine key.mono ?_
  rintro u h3 (⟨rfl, v, h1, ⟨_, x1, k1, a, gv, ov, ha, q⟩, c⟩ | ⟨rfl, v, h1, ⟨_, x1, k1, ha⟩, c⟩)
  · have o1 := (kp h1 k1).1
    have gs3 : Own h 2 h3 gv a.guests.length (cells2 a.guests) := q.gs.ch c o1 (fun e => by have := congrArg List.length e; rw [cells2_len] at this; simp at this; omega)
    have or3 : Own h 1 h3 ov a.order.length (a.order.map I) := q.ord.ch c o1 (fun e => by
      cases ho : a.order with
      | nil => rw [ho] at e; cases e
      | cons x l => rw [ho] at e; cases e)
    have hla : h.next + 1 < h1.next := by have := k1.1; omega
    have ga3 : h3.get (h.next + 1) = some (.cells (a.cells gv ov)) := (c.same _ hla (by omega)).trans q.get
    have gr3 : h3.get h.next = some (.cells zeroC) := (c.same _ (by omega) (by omega)).trans ((k1.2 _ (by omega) (by omega) (by omega)).trans (eS.get (by omega) gr2))
    have e3 : Ext h h3 := c.ext x1 (by omega)
    have n3 : h.next + 1 < h3.next := Nat.lt_of_lt_of_le hla c.nx
    obtain ⟨rfl, hnum⟩ := annOf_some ha
    have htl := text_len a
    have av : AnnV h3 a gv ov := ⟨gs3.sl, or3.sl, by omega, by omega⟩
    have ln := blk_ldn ga3 (cells12 a gv ov)
    simp only [go_sem, ↓reduceIte, r7_3, ln]
    refine (fn_announced av).mono ?_
    rintro u h4 ⟨rfl, e4⟩
    have gr4 := e4.get (by omega) gr3
    have ga4 := e4.get n3 ga3
    have ln4 := blk_ldn ga4 (cells12 a gv ov)
    cases hgood : a.good
    · have st := blk_stn (k := 12) (d := zeroC) gr4 rfl rfl (by decide)
      have hf : ∀ t : List V, fill t zeroC [] = some zeroC := fun _ => rfl
      simp only [go_sem, ↓reduceIte, r7_4, hz, hf, st]
      rw [res_cell2 (n := 2) (k := 12) (b := h.next) (cs := zeroC) (by simp only [go_sem, ↓reduceIte]) get_put_eq rfl]
      simp only [go_sem, ↓reduceIte]
      refine ⟨(e3.trans e4).put (Nat.le_refl _) _, .inr ⟨fun a' h' => ?_, rfl⟩⟩
      rw [ha] at h'
      cases h'
      exact hgood
    · have st := blk_stn (k := 12) (d := a.cells gv ov) gr4 rfl rfl (annOne gs3.one or3.one)
      simp only [go_sem, ↓reduceIte, r7_5, ln4, st]
      rw [res_cell2 (n := 2) (k := 12) (b := h.next) (cs := a.cells gv ov) (by simp only [go_sem, ↓reduceIte]) get_put_eq rfl]
      simp only [go_sem, ↓reduceIte]
      have hne1 : cells2 a.guests ≠ zeroC := fun e => by
        have hlen := congrArg List.length e
        rw [cells2_len] at hlen
        have h6 := congrArg (·[6]?) e
        have h6a : (cells2 a.guests)[6]? = some .sn := h6
        have hl6 : a.guests.length = 6 := by have : zeroC.length = 12 := rfl; omega
        have hp : a.guests[3]? = some a.guests[3] := List.getElem?_eq_getElem (by omega)
        have := (cells2_get hp).1
        rw [show 3 * 2 + 0 = 6 by rfl, h6a] at this
        cases this
      have hne2 : a.order.map I ≠ zeroC := fun e => by
        have h6 : (a.order.map I)[6]? = some .sn := congrArg (·[6]?) e
        rw [List.getElem?_map] at h6
        cases ho : a.order[6]? with
        | none => rw [ho] at h6; cases h6
        | some x => rw [ho] at h6; cases h6
      have cp : Ch h.next h4 (h4.put h.next (.cells (a.cells gv ov))) := (Ch.refl _ _).put _
      exact ⟨(e3.trans e4).put (Nat.le_refl _) _, .inl ⟨a, gv, ov, ha, hgood, rfl, (gs3.ext e4).ch cp gr4 hne1, (or3.ext e4).ch cp gr4 hne2⟩⟩
  · have gr3 : h3.get h.next = some (.cells zeroC) := (c.same _ (by have := k1.1; omega) (by omega)).trans ((k1.2 _ (by omega) (by omega) (by omega)).trans (eS.get (by omega) gr2))
    have e3 : Ext h h3 := c.ext x1 (by omega)
    have st := blk_stn (k := 12) (d := zeroC) gr3 rfl rfl (by decide)
    have hf : ∀ t : List V, fill t zeroC [] = some zeroC := fun _ => rfl
    simp only [go_sem, ↓reduceIte, r7_3, r7_4, hz, hf, st]
    rw [res_cell2 (n := 2) (k := 12) (b := h.next) (cs := zeroC) (by simp only [go_sem, ↓reduceIte]) get_put_eq rfl]
    simp only [go_sem, ↓reduceIte]
    exact ⟨e3.put (Nat.le_refl _) _, .inr ⟨fun a' h' => (by rw [ha] at h'; cases h'), rfl⟩⟩
end
end Go.Air
set_option maxRecDepth 100000
namespace Go.Air
open Go.Air.Try
theorem numText_cons : ∀ (n : Int) (ns : List Int), numText (n :: ns) = itoa n ++ ns.flatMap fun m => 32 :: itoa m
  | n, [] => by simp [numText, joinL]
  | n, m :: ns => by
    have ih := numText_cons m ns
    unfold numText at ih ⊢
    have e : joinL [32] (List.map itoa (n :: m :: ns)) = itoa n ++ [32] ++ joinL [32] (List.map itoa (m :: ns)) := rfl
    rw [e, ih]
    simp
theorem line_numText (w : List Nat) (n : Int) (ns : List Int) : lineT w (n :: ns) = w ++ [32] ++ numText (n :: ns) ++ [10] := by
  rw [numText_cons]
  simp [lineT]
structure Ann.In (a : Ann) : Prop where
  one : ∀ n ∈ [a.id, a.old, a.passed, a.off, a.moved], I64 n
  two : ∀ n ∈ [a.host, a.lang, a.lot, a.known, a.day], I64 n
  gs : ∀ p ∈ a.guests, I64 p.1 ∧ I64 p.2
  ord : ∀ n ∈ a.order, I64 n
def headT (a : Ann) : List Nat := lineT wAnnounce [a.id, a.old, a.passed, a.off, a.moved] ++ lineT wScene [a.host, a.lang, a.lot, a.known, a.day]
theorem headT_eq (a : Ann) : [97, 110, 110, 111, 117, 110, 99, 101, 32] ++ numText [a.id, a.old, a.passed, a.off, a.moved] ++ [10, 115, 99, 101, 110, 101, 32] ++ numText [a.host, a.lang, a.lot, a.known, a.day] ++ [10] = headT a := by
  unfold headT
  rw [line_numText, line_numText]
  simp [wAnnounce, wScene]
theorem headT_len (a : Ann) : (headT a).length ≤ 1000 := by
  have h1 := nums_len [a.id, a.old, a.passed, a.off, a.moved]
  have h2 := nums_len [a.host, a.lang, a.lot, a.known, a.day]
  rw [← headT_eq]
  simp at h1 h2 ⊢
  omega
theorem guestT_eq (p q : Int) : [103, 117, 101, 115, 116, 32] ++ numText [p, q] ++ [10] = lineT wGuest [p, q] := by
  rw [line_numText]
  simp [wGuest]
theorem guestT_len (p q : Int) : (lineT wGuest [p, q]).length ≤ 60 := by
  have h1 := nums_len [p, q]
  rw [← guestT_eq]
  simp only [List.length_append, List.length_cons, List.length_nil] at h1 ⊢
  omega
theorem guestsT_snoc {g : List (Int × Int)} {i : Nat} {p : Int × Int} (hp : g[i]? = some p) : guestsT (g.take (i + 1)) = guestsT (g.take i) ++ lineT wGuest [p.1, p.2] := by
  rw [take_succ' hp]
  simp [guestsT]
theorem guestsT_le : ∀ g : List (Int × Int), (guestsT g).length ≤ 60 * g.length
  | [] => by simp [guestsT]
  | p :: g => by
    have ih := guestsT_le g
    have := guestT_len p.1 p.2
    simp only [guestsT, List.flatMap_cons, List.length_append, List.length_cons] at ih ⊢
    omega
def ordT (ns : List Int) : List Nat := ns.flatMap fun n => 32 :: itoa n
theorem ordT_snoc {g : List Int} {i : Nat} {p : Int} (hp : g[i]? = some p) : ordT (g.take (i + 1)) = ordT (g.take i) ++ ([32] ++ numText [p]) := by
  rw [take_succ' hp]
  simp [ordT, numText_cons]
theorem ordT_le : ∀ g : List Int, (ordT g).length ≤ 22 * g.length
  | [] => by simp [ordT]
  | p :: g => by
    have ih := ordT_le g
    have := itoa_len p
    simp only [ordT, List.flatMap_cons, List.length_append, List.length_cons] at ih ⊢
    omega
theorem text_eq (a : Ann) : headT a ++ guestsT a.guests ++ [111, 114, 100, 101, 114] ++ ordT a.order ++ [10] = a.text := by
  unfold Ann.text headT
  rw [show lineT wOrder a.order = wOrder ++ ordT a.order ++ [10] from rfl]
  simp [wOrder]
def putR (a : Ann) : V := if a.good then .tup [.s a.text, I 0] else .tup [.s [], I 1]
section
variable {h : H}
theorem fn_num5 (ht : Tb4 h) {b : Nat} (hb : b < h.next) {n0 n1 n2 n3 n4 : Int} (g : h.get b = some (.cells [I n0, I n1, I n2, I n3, I n4])) (hx : ∀ x ∈ [n0, n1, n2, n3, n4], I64 x) : WC tb1 (.fn 15 [] []) [.sl b 0 5 5 none] h fun u h' => u = .s (numText [n0, n1, n2, n3, n4]) ∧ Ext h h' :=
  fn_numbers (xs := [n0, n1, n2, n3, n4]) ht (.inr ⟨b, 0, 5, none, _, rfl, hb, g, rfl⟩) hx (by simp)
theorem fn_num2 (ht : Tb4 h) {b : Nat} (hb : b < h.next) {n0 n1 : Int} (g : h.get b = some (.cells [I n0, I n1])) (hx : ∀ x ∈ [n0, n1], I64 x) : WC tb1 (.fn 15 [] []) [.sl b 0 2 2 none] h fun u h' => u = .s (numText [n0, n1]) ∧ Ext h h' :=
  fn_numbers (xs := [n0, n1]) ht (.inr ⟨b, 0, 2, none, _, rfl, hb, g, rfl⟩) hx (by simp)
theorem fn_num1 (ht : Tb4 h) {b : Nat} (hb : b < h.next) {n0 : Int} (g : h.get b = some (.cells [I n0])) (hx : ∀ x ∈ [n0], I64 x) : WC tb1 (.fn 15 [] []) [.sl b 0 1 1 none] h fun u h' => u = .s (numText [n0]) ∧ Ext h h' :=
  fn_numbers (xs := [n0]) ht (.inr ⟨b, 0, 1, none, _, rfl, hb, g, rfl⟩) hx (by simp)
theorem t28 : tb1 5 = some a5 := by kernel_rfl
theorem fn_PutAnnounce (ht : Tb4 h) {a : Ann} {gv ov : V} (q : AnnV h a gv ov) (hi : a.In) : WC tb1 (.fn 5 [] []) [.agg (a.cells gv ov)] h fun u h' => u = putR a ∧ Ext h h' := by
  refine (WC_in t28).2 ?_
  have e1 : Ext h (h.new (.cells (a.cells gv ov))) := (Ext.refl h).new _
  have g : (h.new (.cells (a.cells gv ov))).get h.next = some (.cells (a.cells gv ov)) := get_new_eq rfl
  have n1 : (h.new (.cells (a.cells gv ov))).next = h.next + 1 := rfl
  have hc : (V.agg (a.cells gv ov)).cells = a.cells gv ov := rfl
  have ln := blk_ldn g (cells12 a gv ov)
  simp only [go_sem, ↓reduceIte, r5_0, r5_1, hc, ln]
  generalize h.new (.cells (a.cells gv ov)) = h1 at e1 g n1
  refine (fn_announced (q.ext e1)).mono ?_
  rintro u h2 ⟨rfl, e2⟩
  have g2 := e2.get (by omega) g
  have n2 : h.next < h2.next := by have := e2.nx; omega
  have e02 := e1.trans e2
  unfold putR
  cases hgood : a.good
  · simp only [go_sem, ↓reduceIte, r5_2]
    exact ⟨rfl, e02⟩
  obtain ⟨_, _, _, _, _, _, _, l5⟩ := annL g2
  have x3 : (h2.new (.cells [I 0, I 0, I 0, I 0, I 0])).get h2.next = some (.cells [I 0, I 0, I 0, I 0, I 0]) := get_new_eq rfl
  have s3 := blk_stn (k := 5) (d := a.scene.cells) x3 rfl rfl (by intro u hu; simp [Scene.cells] at hu; rcases hu with rfl | rfl | rfl | rfl | rfl <;> rfl)
  have x3' : ((h2.new (.cells [I 0, I 0, I 0, I 0, I 0])).put h2.next (.cells a.scene.cells)).get h2.next = some (.cells a.scene.cells) := get_put_eq
  have e3 : Ext h2 ((h2.new (.cells [I 0, I 0, I 0, I 0, I 0])).put h2.next (.cells a.scene.cells)) := ((Ext.refl h2).new _).put (Nat.le_refl _) _
  have n3 : ((h2.new (.cells [I 0, I 0, I 0, I 0, I 0])).put h2.next (.cells a.scene.cells)).next = h2.next + 1 := rfl
  have hz : [V.i .i64 0, .i .i64 0, .i .i64 0, .i .i64 0, .i .i64 0] = [I 0, I 0, I 0, I 0, I 0] := rfl
  simp only [go_sem, ↓reduceIte, r5_3, l5, hz, s3]
  generalize (h2.new (.cells [I 0, I 0, I 0, I 0, I 0])).put h2.next (.cells a.scene.cells) = h3 at x3' e3 n3
  have g3 := e3.get n2 g2
  have e03 := e02.trans e3
  obtain ⟨l0, l7, l8, l10, l11, _, _, _⟩ := annL g3
  refine WD_gen (fun t => t.length = 79 ∧ nth t 1 = .p h.next 0 ∧ nth t 4 = .p h2.next 0) ?_ ?_
  · simp only [go_sem, ↓reduceIte]
  rintro t ⟨tl, t1, t4⟩
  have e3b : Tb4 h3.bare := (ht.ext e03).bare
  simp only [go_sem, ↓reduceIte, r5_4, tl, t1, t4, l0, l7, l8, l10, l11, old_bare, H.back_bare, List.cons_append, List.nil_append]
  rw [fill_5 (v0 := I a.id) (v1 := I a.old) (v2 := I a.passed) (v3 := I a.off) (v4 := I a.moved) (by simp only [go_sem, ↓reduceIte, tl]; rfl) (by simp only [go_sem, ↓reduceIte, tl]; rfl) (by simp only [go_sem, ↓reduceIte, tl]; rfl) (by simp only [go_sem, ↓reduceIte, tl]; rfl) (by simp only [go_sem, ↓reduceIte, tl]; rfl) rfl rfl rfl rfl rfl]
  simp only [go_sem, ↓reduceIte, tl, H.back_new]
  have g5 : (h3.new (.cells [I a.id, I a.old, I a.passed, I a.off, I a.moved])).bare.get h3.next = some (.cells [I a.id, I a.old, I a.passed, I a.off, I a.moved]) := get_new_eq rfl
  have e5 : Ext h3 (h3.new (.cells [I a.id, I a.old, I a.passed, I a.off, I a.moved])) := (Ext.refl h3).new _
  refine (fn_num5 (ht.ext (e03.trans e5)).bare (Nat.lt_succ_self _) g5 hi.one).mono ?_
  rintro u h4 ⟨rfl, e4⟩
  have ho4 := e4.old
  have e4' := e5.trans e4.back
  rw [Kdrw_eq, ho4]
  generalize (h3.new (.cells [I a.id, I a.old, I a.passed, I a.off, I a.moved])).back h4 = h6 at e4'
  have h1l := nums_len [a.id, a.old, a.passed, a.off, a.moved]
  have h2l := nums_len [a.host, a.lang, a.lot, a.known, a.day]
  have hH := headT_eq a
  generalize hN1 : numText [a.id, a.old, a.passed, a.off, a.moved] = N1 at h1l hH
  generalize hN2 : numText [a.host, a.lang, a.lot, a.known, a.day] = N2 at h2l hH
  simp only [List.length_cons, List.length_nil] at h1l h2l
  have b1 : binV .add (.s [97, 110, 110, 111, 117, 110, 99, 101, 32]) (.s N1) = some (.s _) := bin_sadd (by simp only [List.length_cons, List.length_nil]; omega)
  generalize hA : [97, 110, 110, 111, 117, 110, 99, 101, 32] ++ N1 = A at b1 hH
  have lA : A.length ≤ 150 := by subst hA; simp only [List.length_append, List.length_cons, List.length_nil]; omega
  have b2 : binV .add (.s A) (.s [10, 115, 99, 101, 110, 101, 32]) = some (.s _) := bin_sadd (by simp only [List.length_cons, List.length_nil]; omega)
  generalize hB : A ++ [10, 115, 99, 101, 110, 101, 32] = B at b2 hH
  have lB : B.length ≤ 200 := by subst hB; simp only [List.length_append, List.length_cons, List.length_nil]; omega
  have b3 : binV .add (.s B) (.s N2) = some (.s _) := bin_sadd (by omega)
  generalize hC : B ++ N2 = C at b3 hH
  have lC : C.length ≤ 400 := by subst hC; simp only [List.length_append]; omega
  have b4 : binV .add (.s C) (.s [10]) = some (.s _) := bin_sadd (by simp only [List.length_cons, List.length_nil]; omega)
  rw [hH] at b4
  have xc := e4'.get (by omega) x3'
  have m0 : ldV h6 (.p h2.next 0) = some (I a.host) := blk_ld xc rfl
  have m1 : ldV h6 (.p h2.next 1) = some (I a.lang) := blk_ld xc rfl
  have m2 : ldV h6 (.p h2.next 2) = some (I a.lot) := blk_ld xc rfl
  have m3 : ldV h6 (.p h2.next 3) = some (I a.known) := blk_ld xc rfl
  have m4 : ldV h6 (.p h2.next 4) = some (I a.day) := blk_ld xc rfl
  simp only [go_sem, ↓reduceIte, tl, t4, hN1, b1, b2, m0, m1, m2, m3, m4, old_bare, H.back_bare, List.cons_append, List.nil_append]
  rw [fill_5 (v0 := I a.host) (v1 := I a.lang) (v2 := I a.lot) (v3 := I a.known) (v4 := I a.day) (by simp only [go_sem, ↓reduceIte, tl]) (by simp only [go_sem, ↓reduceIte, tl]) (by simp only [go_sem, ↓reduceIte, tl]) (by simp only [go_sem, ↓reduceIte, tl]) (by simp only [go_sem, ↓reduceIte, tl]) rfl rfl rfl rfl rfl]
  simp only [go_sem, ↓reduceIte, tl, H.back_new, List.cons_append, List.nil_append]
  have g7 : (h6.new (.cells [I a.host, I a.lang, I a.lot, I a.known, I a.day])).bare.get h6.next = some (.cells [I a.host, I a.lang, I a.lot, I a.known, I a.day]) := get_new_eq rfl
  have e7 : Ext h3 (h6.new (.cells [I a.host, I a.lang, I a.lot, I a.known, I a.day])) := e4'.new _
  have n7 : h.next < (h6.new (.cells [I a.host, I a.lang, I a.lot, I a.known, I a.day])).next := by have := e7.nx; omega
  refine (fn_num5 (ht.ext (e03.trans e7)).bare (Nat.lt_succ_self _) g7 hi.two).mono ?_
  rintro u h8 ⟨rfl, e8⟩
  have ho8 := e8.old
  have e8' := e7.trans e8.back
  rw [Kdrw_eq, ho8, hN2]
  generalize (h6.new (.cells [I a.host, I a.lang, I a.lot, I a.known, I a.day])).back h8 = h9 at e8'
  simp only [go_sem, ↓reduceIte, tl, b3, b4, old_bare, H.back_bare, List.cons_append, List.nil_append]
  refine ⟨rfl, ?_⟩
  have e09 := e03.trans e8'
  have g9 := e8'.get (by omega) g3
  refine WL_gen (fun t => t.length = 79 ∧ nth t 1 = .p h.next 0 ∧ nth t 5 = .s (headT a)) ?_ ?_
  · exact ⟨by simp only [go_sem, ↓reduceIte, tl], by simp only [go_sem, ↓reduceIte, tl, t1], by simp only [go_sem, ↓reduceIte, tl]⟩
  clear tl t1 t4
  rintro t ⟨tl, t1, t5⟩
  have qa := q.ext e09
  have lgv := Sl.len qa.gs
  obtain ⟨_, _, _, _, _, l6, _, _⟩ := annL g9
  have lH := headT_len a
  have gl := q.gl
  have ol := q.ol
  have n9 : h.next < h9.next := by have := e8'.nx; omega
  simp only [go_sem, ↓reduceIte, r5_5, tl, t1, t5, l6, lgv]
  refine W_while (fun k t hh => ∃ i, k = a.guests.length - i ∧ i ≤ a.guests.length ∧ t.length = 79 ∧ nth t 1 = .p h.next 0 ∧ nth t 5 = .s (headT a ++ guestsT (a.guests.take i)) ∧ nth t 44 = gv ∧ nth t 45 = .i .i64 (a.guests.length : Int) ∧ nth t 46 = .i .i64 (i : Int) ∧ Ext h9 hh) ?_ a.guests.length ?_
  · clear t5 t1 tl t
    rintro k t hh ⟨i, rfl, hi', tl, t1, t5, t44, t45, t46, ex⟩
    unfold b5_0
    have lT := guestsT_le (a.guests.take i)
    rw [List.length_take] at lT
    by_cases hin : i < a.guests.length
    · have hI : (i : Int) < (a.guests.length : Int) := by omega
      have hp : a.guests[i]? = some a.guests[i] := List.getElem?_eq_getElem hin
      generalize a.guests[i] = p at hp
      have q1 := Sl.ext qa.gs ex
      have hix := q1.ix hin
      have hldn := q1.ldn hin
      rw [cells2_take hp] at hldn
      obtain ⟨h2, s1, s2, s3, s4, s5, s6⟩ := st_new2 hh (I 0) (I 0) (x := I p.1) (y := I p.2) rfl rfl
      have w1 : IntKind.i64.wrap ((i : Int) + 1) = ((i + 1 : Nat) : Int) := wrap_succ (by omega)
      have s5 : ldV h2 (.p hh.next 0) = some (.i .i64 p.1) := s5
      have s6 : ldV h2 (.p hh.next 1) = some (.i .i64 p.2) := s6
      have s1 : stV (hh.new (.cells [.i .i64 0, .i .i64 0])) 2 (.p hh.next 0) (.agg [I p.1, I p.2]) = some h2 := s1
      have f2 : fill2 (.i .i64 p.1) (.i .i64 p.2) = some [I p.1, I p.2] := rfl
      simp only [go_sem, ↓reduceIte, r5_6, r5_7, r5_8, tl, t1, t5, t44, t45, t46, hI, hix, hldn, s1, s5, s6, f2]
      have eh : Ext hh (h2.new (.cells [I p.1, I p.2])) := s2.new _
      have ei := hi.gs p (List.mem_of_getElem? hp)
      refine (fn_num2 (ht.ext (e09.trans (ex.trans eh))) (Nat.lt_succ_self _) (get_new_eq rfl) (by simpa using ei)).mono ?_
      rintro u h4 ⟨rfl, e4⟩
      have hG := guestT_eq p.1 p.2
      have lG := guestT_len p.1 p.2
      have hNl := nums_len [p.1, p.2]
      generalize numText [p.1, p.2] = N at hG hNl
      simp only [List.length_cons, List.length_nil] at hNl
      have b1 : binV .add (.s [103, 117, 101, 115, 116, 32]) (.s N) = some (.s _) := bin_sadd (by simp only [List.length_cons, List.length_nil]; omega)
      generalize hE : [103, 117, 101, 115, 116, 32] ++ N = E at b1 hG
      have lE : E.length ≤ 60 := by subst hE; simp only [List.length_append, List.length_cons, List.length_nil]; omega
      have b2 : binV .add (.s E) (.s [10]) = some (.s _) := bin_sadd (by simp only [List.length_cons, List.length_nil]; omega)
      rw [hG] at b2
      have b3 : binV .add (.s (headT a ++ guestsT (a.guests.take i))) (.s (lineT wGuest [p.1, p.2])) = some (.s _) := bin_sadd (by simp only [List.length_append]; omega)
      rw [List.append_assoc, ← guestsT_snoc hp] at b3
      simp only [go_sem, ↓reduceIte, r5_9, tl, t1, t44, t45, t46, b1, b2, b3, w1]
      exact ⟨a.guests.length - (i + 1), by omega, i + 1, rfl, by omega, rfl, rfl, ex.trans (eh.trans e4)⟩
    · have hI : ¬ (i : Int) < (a.guests.length : Int) := by omega
      have hie : i = a.guests.length := by omega
      subst hie
      rw [List.take_length] at t5 lT
      have bo : binV .add (.s (headT a ++ guestsT a.guests)) (.s [111, 114, 100, 101, 114]) = some (.s _) := bin_sadd (by simp only [List.length_append, List.length_cons, List.length_nil]; omega)
      generalize hF : headT a ++ guestsT a.guests ++ [111, 114, 100, 101, 114] = F at bo
      have lF : F.length ≤ 1100 + 60 * a.guests.length := by subst hF; simp only [List.length_append, List.length_cons, List.length_nil]; omega
      have gx := ex.get n9 g9
      obtain ⟨_, _, _, _, _, _, l9, _⟩ := annL gx
      have qx := qa.ext ex
      have lov := Sl.len qx.ord
      simp only [go_sem, ↓reduceIte, r5_6, r5_10, r5_11, tl, t1, t5, t45, t46, hI, bo, l9, lov]
      refine W_while (fun k t hh => ∃ i, k = a.order.length - i ∧ i ≤ a.order.length ∧ t.length = 79 ∧ nth t 5 = .s (F ++ ordT (a.order.take i)) ∧ nth t 64 = ov ∧ nth t 65 = .i .i64 (a.order.length : Int) ∧ nth t 66 = .i .i64 (i : Int) ∧ Ext h9 hh) ?_ a.order.length ?_
      · clear t46 t45 t44 t5 t1 tl hI
        rintro k t hh2 ⟨i, rfl, hi2, tl, t5, t64, t65, t66, ey⟩
        unfold b5_1
        have lO := ordT_le (a.order.take i)
        rw [List.length_take] at lO
        by_cases hin : i < a.order.length
        · have hI : (i : Int) < (a.order.length : Int) := by omega
          have hp : a.order[i]? = some a.order[i] := List.getElem?_eq_getElem hin
          generalize a.order[i] = p at hp
          have q1 := qa.ord.ext ey
          have hix := q1.ix hin
          have hld := q1.ld hp
          have w1 : IntKind.i64.wrap ((i : Int) + 1) = ((i + 1 : Nat) : Int) := wrap_succ (by omega)
          simp only [go_sem, ↓reduceIte, r5_12, r5_13, r5_14, tl, t5, t64, t65, t66, hI, hix, hld]
          have eh : Ext hh2 (hh2.new (.cells [I p])) := (Ext.refl _).new _
          refine (fn_num1 (ht.ext (e09.trans (ey.trans eh))) (Nat.lt_succ_self _) (get_new_eq rfl) (by simpa using hi.ord p (List.mem_of_getElem? hp))).mono ?_
          rintro u h4 ⟨rfl, e4⟩
          have hS := ordT_snoc hp
          have hNl := nums_len [p]
          generalize numText [p] = N at hS hNl
          simp only [List.length_cons, List.length_nil] at hNl
          have b1 : binV .add (.s [32]) (.s N) = some (.s _) := bin_sadd (by simp only [List.length_cons, List.length_nil]; omega)
          generalize hE : [32] ++ N = E at b1 hS
          have lE : E.length ≤ 60 := by subst hE; simp only [List.length_append, List.length_cons, List.length_nil]; omega
          have b3 : binV .add (.s (F ++ ordT (a.order.take i))) (.s E) = some (.s _) := bin_sadd (by simp only [List.length_append]; omega)
          rw [List.append_assoc, ← hS] at b3
          simp only [go_sem, ↓reduceIte, r5_15, tl, t64, t65, t66, b1, b3, w1]
          exact ⟨a.order.length - (i + 1), by omega, i + 1, rfl, by omega, rfl, rfl, ey.trans (eh.trans e4)⟩
        · have hI : ¬ (i : Int) < (a.order.length : Int) := by omega
          have hie : i = a.order.length := by omega
          subst hie
          rw [List.take_length] at t5 lO
          have bz : binV .add (.s (F ++ ordT a.order)) (.s [10]) = some (.s _) := bin_sadd (by simp only [List.length_append, List.length_cons, List.length_nil]; omega)
          rw [← hF, text_eq a, hF] at bz
          simp only [go_sem, ↓reduceIte, r5_12, r5_16, tl, t5, t65, t66, hI, bz]
          exact ⟨rfl, e09.trans ey⟩
      · refine ⟨0, rfl, by omega, ?_, ?_, ?_, ?_, ?_, ex⟩ <;> simp only [go_sem, ↓reduceIte, tl, ordT, List.take_zero, List.flatMap_nil, List.append_nil]
  · refine ⟨0, rfl, by omega, ?_, ?_, ?_, ?_, ?_, ?_, .refl _⟩ <;> simp only [go_sem, ↓reduceIte, tl, t1, t5, guestsT, List.take_zero, List.flatMap_nil, List.append_nil]
end
end Go.Air
set_option maxRecDepth 100000
namespace Go.Air
open Go.Air.Try
section
variable {h : H}
theorem t88 : tb1 16 = some a16 := by kernel_rfl
theorem fn_Announces {a : Ann} {gv ov : V} (q : AnnV h a gv ov) : WC tb1 (.fn 16 [] []) [.agg (a.cells gv ov)] h fun u h' => u = .b a.good ∧ Ext h h' := by
  refine (WC_in t88).2 ?_
  have e1 : Ext h (h.new (.cells (a.cells gv ov))) := (Ext.refl h).new _
  have g : (h.new (.cells (a.cells gv ov))).get h.next = some (.cells (a.cells gv ov)) := get_new_eq rfl
  have n1 : (h.new (.cells (a.cells gv ov))).next = h.next + 1 := rfl
  have hc : (V.agg (a.cells gv ov)).cells = a.cells gv ov := rfl
  obtain ⟨l0, l7, l8, l10, l11, _, _, ln⟩ := annL g
  unfold Ann.good
  simp only [go_sem, ↓reduceIte, r16_0, hc]
  generalize h.new (.cells (a.cells gv ov)) = h1 at e1 g n1 l0 l7 l8 l10 l11 ln
  cases c0 : btw a.id 1 1000000
  · simp only [go_sem, ↓reduceIte, r16_1, r16_2, r16_3, l0, c0]
    exact ⟨rfl, e1⟩
  cases c1 : btw a.old 0 1000000
  · simp only [go_sem, ↓reduceIte, r16_1, r16_2, r16_3, l0, l7, c0, c1]
    exact ⟨rfl, e1⟩
  cases c2 : btw a.passed 0 24
  · simp only [go_sem, ↓reduceIte, r16_1, r16_2, r16_3, l0, l7, l8, c0, c1, c2]
    exact ⟨rfl, e1⟩
  cases c3 : btw a.moved 0 24
  · simp only [go_sem, ↓reduceIte, r16_1, r16_2, r16_3, l0, l7, l8, l11, c0, c1, c2, c3]
    exact ⟨rfl, e1⟩
  cases c4 : btw a.off 0 1000000
  · simp only [go_sem, ↓reduceIte, r16_1, r16_2, r16_3, l0, l7, l8, l10, l11, c0, c1, c2, c3, c4]
    exact ⟨rfl, e1⟩
  simp only [go_sem, ↓reduceIte, r16_1, r16_2, r16_4, l0, l7, l8, l10, l11, ln, c0, c1, c2, c3, c4]
  refine (fn_rscene).mono ?_
  rintro u h2 ⟨rfl, e2⟩
  have g2 := e2.get (by omega) g
  have n2 : h.next < h2.next := by have := e2.nx; omega
  obtain ⟨_, _, _, _, _, l6, l9, _⟩ := annL g2
  simp only [go_sem, ↓reduceIte, r16_5, l6]
  refine (fn_rguests (q.ext (e1.trans e2)).gs q.gl).mono ?_
  rintro u h3 ⟨rfl, e3⟩
  have g3 := e3.get n2 g2
  obtain ⟨_, _, _, _, _, l6', l9', _⟩ := annL g3
  have hlv := Sl.len (q.ext ((e1.trans e2).trans e3)).gs
  simp only [go_sem, ↓reduceIte, r16_6, l6', l9', hlv]
  refine (fn_refCheckOrder (q.ext ((e1.trans e2).trans e3)).ord q.ol).mono ?_
  rintro u h4 ⟨e4, rfl⟩
  have hI : ∀ n : Int, I n = .i .i64 n := fun _ => rfl
  have e04 := ((e1.trans e2).trans e3).trans e4
  by_cases c5 : a.scene.err = 0
  · by_cases c6 : guestsE a.guests = 0
    · simp only [go_sem, ↓reduceIte, r16_7, hI, c5, c6]
      exact ⟨by simp, e04⟩
    · simp only [go_sem, ↓reduceIte, r16_7, hI, c5, c6]
      exact ⟨rfl, e04⟩
  · simp only [go_sem, ↓reduceIte, r16_7, hI, c5]
    exact ⟨rfl, e04⟩
theorem itoa_le (n : Int) : (itoa n).length ≤ 21 := itoa_len n
theorem t29 : tb1 6 = some a6 := by kernel_rfl
theorem fn_rPutAnnounce (ht : Tb4 h) {a : Ann} {gv ov : V} (q : AnnV h a gv ov) (hi : a.In) : WC tb1 (.fn 6 [] []) [.agg (a.cells gv ov)] h fun u h' => u = putR a ∧ Ext h h' := by
  refine (WC_in t29).2 ?_
  have e1 : Ext h (h.new (.cells (a.cells gv ov))) := (Ext.refl h).new _
  have g : (h.new (.cells (a.cells gv ov))).get h.next = some (.cells (a.cells gv ov)) := get_new_eq rfl
  have n1 : (h.new (.cells (a.cells gv ov))).next = h.next + 1 := rfl
  have hc : (V.agg (a.cells gv ov)).cells = a.cells gv ov := rfl
  have ln := blk_ldn g (cells12 a gv ov)
  simp only [go_sem, ↓reduceIte, r6_0, r6_1, hc, ln]
  generalize h.new (.cells (a.cells gv ov)) = h1 at e1 g n1
  refine (fn_Announces (q.ext e1)).mono ?_
  rintro u h2 ⟨rfl, e2⟩
  have g2 := e2.get (by omega) g
  have n2 : h.next < h2.next := by have := e2.nx; omega
  have e02 := e1.trans e2
  unfold putR
  cases hgood : a.good
  · simp only [go_sem, ↓reduceIte, r6_2, r6_3]
    exact ⟨rfl, e02⟩
  obtain ⟨_, _, _, _, _, _, _, l5⟩ := annL g2
  have x3 : (h2.new (.cells [I 0, I 0, I 0, I 0, I 0])).get h2.next = some (.cells [I 0, I 0, I 0, I 0, I 0]) := get_new_eq rfl
  have s3 := blk_stn (k := 5) (d := a.scene.cells) x3 rfl rfl (by intro u hu; simp [Scene.cells] at hu; rcases hu with rfl | rfl | rfl | rfl | rfl <;> rfl)
  have x3' : ((h2.new (.cells [I 0, I 0, I 0, I 0, I 0])).put h2.next (.cells a.scene.cells)).get h2.next = some (.cells a.scene.cells) := get_put_eq
  have e3 : Ext h2 ((h2.new (.cells [I 0, I 0, I 0, I 0, I 0])).put h2.next (.cells a.scene.cells)) := ((Ext.refl h2).new _).put (Nat.le_refl _) _
  have n3 : ((h2.new (.cells [I 0, I 0, I 0, I 0, I 0])).put h2.next (.cells a.scene.cells)).next = h2.next + 1 := rfl
  have hz : [V.i .i64 0, .i .i64 0, .i .i64 0, .i .i64 0, .i .i64 0] = [I 0, I 0, I 0, I 0, I 0] := rfl
  simp only [go_sem, ↓reduceIte, r6_2, r6_4, l5, hz, s3]
  generalize (h2.new (.cells [I 0, I 0, I 0, I 0, I 0])).put h2.next (.cells a.scene.cells) = h3 at x3' e3 n3
  have g3 := e3.get n2 g2
  have e03 := e02.trans e3
  have ht3 := (ht.ext e03)
  have htb := ht3.bare
  obtain ⟨l0, l7, l8, l10, l11, l6, l9, _⟩ := annL g3
  have m0 : ldV h3 (.p h2.next 0) = some (.i .i64 a.host) := blk_ld x3' rfl
  have m1 : ldV h3 (.p h2.next 1) = some (.i .i64 a.lang) := blk_ld x3' rfl
  have m2 : ldV h3 (.p h2.next 2) = some (.i .i64 a.lot) := blk_ld x3' rfl
  have m3 : ldV h3 (.p h2.next 3) = some (.i .i64 a.known) := blk_ld x3' rfl
  have m4 : ldV h3 (.p h2.next 4) = some (.i .i64 a.day) := blk_ld x3' rfl
  have iid : I64 a.id := hi.one _ (by simp)
  have kid := itoa_le a.id
  have iold : I64 a.old := hi.one _ (by simp)
  have kold := itoa_le a.old
  have ipassed : I64 a.passed := hi.one _ (by simp)
  have kpassed := itoa_le a.passed
  have ioff : I64 a.off := hi.one _ (by simp)
  have koff := itoa_le a.off
  have imoved : I64 a.moved := hi.one _ (by simp)
  have kmoved := itoa_le a.moved
  have ihost : I64 a.host := hi.two _ (by simp)
  have khost := itoa_le a.host
  have ilang : I64 a.lang := hi.two _ (by simp)
  have klang := itoa_le a.lang
  have ilot : I64 a.lot := hi.two _ (by simp)
  have klot := itoa_le a.lot
  have iknown : I64 a.known := hi.two _ (by simp)
  have kknown := itoa_le a.known
  have iday : I64 a.day := hi.two _ (by simp)
  have kday := itoa_le a.day
  have b1 : binV .add (.s [97, 110, 110, 111, 117, 110, 99, 101]) (.s (32 :: itoa a.id)) = some (.s _) := bin_sadd (by simp only [List.length_cons, List.length_nil]; omega)
  generalize hX1 : [97, 110, 110, 111, 117, 110, 99, 101] ++ (32 :: itoa a.id) = X1 at b1
  have lX1 : X1.length ≤ 30 := by rw [← hX1]; simp only [List.length_append, List.length_cons, List.length_nil]; omega
  have b2 : binV .add (.s X1) (.s (32 :: itoa a.old)) = some (.s _) := bin_sadd (by simp only [List.length_cons, List.length_nil]; omega)
  generalize hX2 : X1 ++ (32 :: itoa a.old) = X2 at b2
  have lX2 : X2.length ≤ 52 := by rw [← hX2]; simp only [List.length_append, List.length_cons, List.length_nil]; omega
  have b3 : binV .add (.s X2) (.s (32 :: itoa a.passed)) = some (.s _) := bin_sadd (by simp only [List.length_cons, List.length_nil]; omega)
  generalize hX3 : X2 ++ (32 :: itoa a.passed) = X3 at b3
  have lX3 : X3.length ≤ 74 := by rw [← hX3]; simp only [List.length_append, List.length_cons, List.length_nil]; omega
  have b4 : binV .add (.s X3) (.s (32 :: itoa a.off)) = some (.s _) := bin_sadd (by simp only [List.length_cons, List.length_nil]; omega)
  generalize hX4 : X3 ++ (32 :: itoa a.off) = X4 at b4
  have lX4 : X4.length ≤ 96 := by rw [← hX4]; simp only [List.length_append, List.length_cons, List.length_nil]; omega
  have b5 : binV .add (.s X4) (.s (32 :: itoa a.moved)) = some (.s _) := bin_sadd (by simp only [List.length_cons, List.length_nil]; omega)
  generalize hX5 : X4 ++ (32 :: itoa a.moved) = X5 at b5
  have lX5 : X5.length ≤ 118 := by rw [← hX5]; simp only [List.length_append, List.length_cons, List.length_nil]; omega
  have b6 : binV .add (.s X5) (.s ([10, 115, 99, 101, 110, 101])) = some (.s _) := bin_sadd (by simp only [List.length_cons, List.length_nil]; omega)
  generalize hX6 : X5 ++ [10, 115, 99, 101, 110, 101] = X6 at b6
  have lX6 : X6.length ≤ 124 := by rw [← hX6]; simp only [List.length_append, List.length_cons, List.length_nil]; omega
  have b7 : binV .add (.s X6) (.s (32 :: itoa a.host)) = some (.s _) := bin_sadd (by simp only [List.length_cons, List.length_nil]; omega)
  generalize hX7 : X6 ++ (32 :: itoa a.host) = X7 at b7
  have lX7 : X7.length ≤ 146 := by rw [← hX7]; simp only [List.length_append, List.length_cons, List.length_nil]; omega
  have b8 : binV .add (.s X7) (.s (32 :: itoa a.lang)) = some (.s _) := bin_sadd (by simp only [List.length_cons, List.length_nil]; omega)
  generalize hX8 : X7 ++ (32 :: itoa a.lang) = X8 at b8
  have lX8 : X8.length ≤ 168 := by rw [← hX8]; simp only [List.length_append, List.length_cons, List.length_nil]; omega
  have b9 : binV .add (.s X8) (.s (32 :: itoa a.lot)) = some (.s _) := bin_sadd (by simp only [List.length_cons, List.length_nil]; omega)
  generalize hX9 : X8 ++ (32 :: itoa a.lot) = X9 at b9
  have lX9 : X9.length ≤ 190 := by rw [← hX9]; simp only [List.length_append, List.length_cons, List.length_nil]; omega
  have b10 : binV .add (.s X9) (.s (32 :: itoa a.known)) = some (.s _) := bin_sadd (by simp only [List.length_cons, List.length_nil]; omega)
  generalize hX10 : X9 ++ (32 :: itoa a.known) = X10 at b10
  have lX10 : X10.length ≤ 212 := by rw [← hX10]; simp only [List.length_append, List.length_cons, List.length_nil]; omega
  have b11 : binV .add (.s X10) (.s (32 :: itoa a.day)) = some (.s _) := bin_sadd (by simp only [List.length_cons, List.length_nil]; omega)
  generalize hX11 : X10 ++ (32 :: itoa a.day) = X11 at b11
  have lX11 : X11.length ≤ 234 := by rw [← hX11]; simp only [List.length_append, List.length_cons, List.length_nil]; omega
  have b12 : binV .add (.s X11) (.s ([10])) = some (.s _) := bin_sadd (by simp only [List.length_cons, List.length_nil]; omega)
  generalize hX12 : X11 ++ [10] = X12 at b12
  have lX12 : X12.length ≤ 240 := by rw [← hX12]; simp only [List.length_append, List.length_cons, List.length_nil]; omega
  have hH : X12 = headT a := by
    rw [← hX12, ← hX11, ← hX10, ← hX9, ← hX8, ← hX7, ← hX6, ← hX5, ← hX4, ← hX3, ← hX2, ← hX1]
    simp [headT, lineT, wAnnounce, wScene]
  refine WD_gen (fun t => t.length = 102 ∧ nth t 1 = .p h.next 0 ∧ nth t 5 = .p h2.next 0) ?_ ?_
  · simp only [go_sem, ↓reduceIte]
  rintro t ⟨tl, t1, t5⟩
  simp only [go_sem, ↓reduceIte, r6_5, tl, t1, t5, l0, l7, l8, l10, l11, m0, m1, m2, m3, m4, fn_num htb iid, fn_num htb iold, fn_num htb ipassed, fn_num htb ioff, fn_num htb imoved, fn_num htb ihost, fn_num htb ilang, fn_num htb ilot, fn_num htb iknown, fn_num htb iday, b1, b2, b3, b4, b5, b6, b7, b8, b9, b10, b11, b12, old_bare, H.back_bare, List.cons_append, List.nil_append]
  refine ⟨rfl, ?_⟩
  have lH := headT_len a
  rw [hH]
  refine WL_gen (fun t => t.length = 102 ∧ nth t 1 = .p h.next 0 ∧ nth t 6 = .s (headT a)) ?_ ?_
  · exact ⟨by simp only [go_sem, ↓reduceIte, tl], by simp only [go_sem, ↓reduceIte, tl, t1], by simp only [go_sem, ↓reduceIte, tl]⟩
  clear b1 b2 b3 b4 b5 b6 b7 b8 b9 b10 b11 b12
  clear tl t1 t5
  rintro t ⟨tl, t1, t6⟩
  have qa := q.ext e03
  have lgv := Sl.len qa.gs
  have lov := Sl.len qa.ord
  have gl := q.gl
  have ol := q.ol
  simp only [go_sem, ↓reduceIte, r6_6]
  refine W_while (fun k t hh => ∃ i, k = a.guests.length - i ∧ i ≤ a.guests.length ∧ t.length = 102 ∧ nth t 1 = .p h.next 0 ∧ nth t 6 = .s (headT a ++ guestsT (a.guests.take i)) ∧ nth t 7 = .i .i64 (i : Int) ∧ hh = h3) ?_ a.guests.length ?_
  · clear t6 t1 tl t
    rintro k t hh ⟨i, rfl, hi', tl, t1, t6, t7, rfl⟩
    unfold b6_0
    have lT := guestsT_le (a.guests.take i)
    rw [List.length_take] at lT
    by_cases hin : i < a.guests.length
    · have hI : (i : Int) < (a.guests.length : Int) := by omega
      have hp : a.guests[i]? = some a.guests[i] := List.getElem?_eq_getElem hin
      generalize a.guests[i] = p at hp
      have hix := Sl.ix qa.gs hin
      have hl0 := Sl.ld qa.gs hin (k := 0) (by omega)
      have hl1 := Sl.ld qa.gs hin (k := 1) (by omega)
      rw [(cells2_get hp).1] at hl0
      rw [(cells2_get hp).2] at hl1
      have hl0 : ldV hh (.p (blkV gv) (offV gv + i * 2 + 0)) = some (.i .i64 p.1) := hl0
      have hl1 : ldV hh (.p (blkV gv) (offV gv + i * 2 + 1)) = some (.i .i64 p.2) := hl1
      have w1 : IntKind.i64.wrap ((i : Int) + 1) = ((i + 1 : Nat) : Int) := wrap_succ (by omega)
      obtain ⟨i0, i1⟩ := hi.gs p (List.mem_of_getElem? hp)
      have k0 := itoa_le p.1
      have k1 := itoa_le p.2
      have c1 : binV .add (.s (headT a ++ guestsT (a.guests.take i))) (.s [103, 117, 101, 115, 116]) = some (.s _) := bin_sadd (by simp only [List.length_append, List.length_cons, List.length_nil]; omega)
      generalize hY1 : headT a ++ guestsT (a.guests.take i) ++ [103, 117, 101, 115, 116] = Y1 at c1
      have lY1 : Y1.length ≤ 1010 + 60 * i := by rw [← hY1]; simp only [List.length_append, List.length_cons, List.length_nil]; omega
      have c2 : binV .add (.s Y1) (.s (32 :: itoa p.1)) = some (.s _) := bin_sadd (by simp only [List.length_cons]; omega)
      generalize hY2 : Y1 ++ (32 :: itoa p.1) = Y2 at c2
      have lY2 : Y2.length ≤ 1032 + 60 * i := by rw [← hY2]; simp only [List.length_append, List.length_cons]; omega
      have c3 : binV .add (.s Y2) (.s (32 :: itoa p.2)) = some (.s _) := bin_sadd (by simp only [List.length_cons]; omega)
      generalize hY3 : Y2 ++ (32 :: itoa p.2) = Y3 at c3
      have lY3 : Y3.length ≤ 1060 + 60 * i := by rw [← hY3]; simp only [List.length_append, List.length_cons]; omega
      have c4 : binV .add (.s Y3) (.s [10]) = some (.s _) := bin_sadd (by simp only [List.length_cons, List.length_nil]; omega)
      have hY : Y3 ++ [10] = headT a ++ guestsT (a.guests.take (i + 1)) := by
        rw [guestsT_snoc hp, ← hY3, ← hY2, ← hY1]
        simp [lineT, wGuest]
      rw [hY] at c4
      simp only [go_sem, ↓reduceIte, r6_7, r6_9, tl, t1, t6, t7, l6, lgv, hI, hix, hl0, hl1, c1, c2, c3, c4, fn_num htb i0, fn_num htb i1, old_bare, H.back_bare, List.cons_append, List.nil_append]
      refine ⟨rfl, ?_⟩
      simp only [go_sem, ↓reduceIte, r6_8, tl, t1, t6, t7, w1]
      exact ⟨a.guests.length - (i + 1), by omega, i + 1, rfl, by omega, rfl, rfl⟩
    · have hI : ¬ (i : Int) < (a.guests.length : Int) := by omega
      have hie : i = a.guests.length := by omega
      subst hie
      rw [List.take_length] at t6 lT
      have bo : binV .add (.s (headT a ++ guestsT a.guests)) (.s [111, 114, 100, 101, 114]) = some (.s _) := bin_sadd (by simp only [List.length_append, List.length_cons, List.length_nil]; omega)
      generalize hF : headT a ++ guestsT a.guests ++ [111, 114, 100, 101, 114] = F at bo
      have lF : F.length ≤ 1100 + 60 * a.guests.length := by subst hF; simp only [List.length_append, List.length_cons, List.length_nil]; omega
      simp only [go_sem, ↓reduceIte, r6_7, r6_10, r6_11, tl, t1, t6, t7, l6, lgv, hI, bo]
      refine W_while (fun k t hh' => ∃ i, k = a.order.length - i ∧ i ≤ a.order.length ∧ t.length = 102 ∧ nth t 1 = .p h.next 0 ∧ nth t 6 = .s (F ++ ordT (a.order.take i)) ∧ nth t 8 = .i .i64 (i : Int) ∧ hh' = hh) ?_ a.order.length ?_
      · clear t7 t6 t1 tl hI
        rintro k t hh2 ⟨i, rfl, hi2, tl, t1, t6, t8, rfl⟩
        unfold b6_1
        have lO := ordT_le (a.order.take i)
        rw [List.length_take] at lO
        by_cases hin : i < a.order.length
        · have hI : (i : Int) < (a.order.length : Int) := by omega
          have hp : a.order[i]? = some a.order[i] := List.getElem?_eq_getElem hin
          generalize a.order[i] = p at hp
          have hix := Ints.ix qa.ord hin
          have hld := Ints.ld qa.ord hp
          have w1 : IntKind.i64.wrap ((i : Int) + 1) = ((i + 1 : Nat) : Int) := wrap_succ (by omega)
          have ip := hi.ord p (List.mem_of_getElem? hp)
          have kp := itoa_le p
          have c1 : binV .add (.s (F ++ ordT (a.order.take i))) (.s (32 :: itoa p)) = some (.s _) := bin_sadd (by simp only [List.length_append, List.length_cons]; omega)
          have hS : F ++ ordT (a.order.take i) ++ (32 :: itoa p) = F ++ ordT (a.order.take (i + 1)) := by
            rw [ordT_snoc hp, numText_cons]
            simp
          rw [hS] at c1
          simp only [go_sem, ↓reduceIte, r6_12, r6_13, r6_14, tl, t1, t6, t8, l9, lov, hI, hix, hld, fn_num ht3 ip, c1, w1]
          exact ⟨a.order.length - (i + 1), by omega, i + 1, rfl, by omega, rfl, rfl⟩
        · have hI : ¬ (i : Int) < (a.order.length : Int) := by omega
          have hie : i = a.order.length := by omega
          subst hie
          rw [List.take_length] at t6 lO
          have bz : binV .add (.s (F ++ ordT a.order)) (.s [10]) = some (.s _) := bin_sadd (by simp only [List.length_append, List.length_cons, List.length_nil]; omega)
          rw [← hF, text_eq a, hF] at bz
          simp only [go_sem, ↓reduceIte, r6_12, r6_15, tl, t1, t6, t8, l9, lov, hI, bz]
          exact ⟨rfl, e03⟩
      · refine ⟨0, rfl, by omega, ?_, ?_, ?_, ?_, rfl⟩ <;> simp only [go_sem, ↓reduceIte, tl, t1, ordT, List.take_zero, List.flatMap_nil, List.append_nil]
  · refine ⟨0, rfl, by omega, ?_, ?_, ?_, ?_, rfl⟩ <;> simp only [go_sem, ↓reduceIte, tl, t1, t6, guestsT, List.take_zero, List.flatMap_nil, List.append_nil]
end
end Go.Air
set_option maxRecDepth 100000
namespace Go.Air
open Go.Air.Try
def digN : Nat → List Nat → Nat
  | acc, [] => acc
  | acc, c :: r => if c < 48 ∨ 57 < c then 0 else digN (acc * 10 + (c - 48)) r
def smallN (w : List Nat) : Int := if 16 < w.length then 0 else (digN 0 w : Nat)
theorem digN_lt : ∀ (w : List Nat) (acc : Nat), digN acc w < (acc + 1) * 10 ^ w.length
  | [], acc => by simp [digN]
  | c :: r, acc => by
    rw [digN]
    split
    · exact Nat.mul_pos (by omega) (Nat.pow_pos (by omega))
    · have ih := digN_lt r (acc * 10 + (c - 48))
      have h1 : acc * 10 + (c - 48) + 1 ≤ (acc + 1) * 10 := by omega
      have h2 := Nat.mul_le_mul_right (10 ^ r.length) h1
      rw [List.length_cons, Nat.pow_succ', ← Nat.mul_assoc]
      omega
theorem smallN_bound (w : List Nat) : 0 ≤ smallN w ∧ smallN w ≤ 10000000000000000 := by
  unfold smallN
  split
  · omega
  · have h1 := digN_lt w 0
    have h2 : 10 ^ w.length ≤ 10 ^ 16 := Nat.pow_le_pow_right (by omega) (by omega)
    omega
theorem smallN_num (w : List Nat) : NumB (smallN w) := by
  have := smallN_bound w
  exact ⟨this.1, by omega⟩
theorem digN_step {acc d : Nat} {r : List Nat} (hd : d < 10) : digN acc ((48 + d) :: r) = digN (acc * 10 + d) r := by
  rw [digN, if_neg (by omega)]
  congr 1
  omega
theorem digN_digits : ∀ (f n : Nat) (acc : List Nat), n < 10 ^ f → 0 < f → digN 0 (digitsF f n acc) = digN n acc
  | 0, _, _, _, h => by omega
  | f + 1, n, acc, hf, _ => by
    rw [digitsF]
    split
    · rename_i h
      rw [digN_step h]
      congr 1
      omega
    · rename_i h
      have h1 : n / 10 < 10 ^ f := by rw [Nat.div_lt_iff_lt_mul (by omega)]; rw [Nat.pow_succ] at hf; exact hf
      have h2 : 0 < f := by
        rcases Nat.eq_zero_or_pos f with rfl | q
        · simp at hf; omega
        · exact q
      rw [digN_digits f (n / 10) _ h1 h2, digN_step (by omega)]
      congr 1
      omega
theorem digitsF_short : ∀ (k f n : Nat) (acc : List Nat), n < 10 ^ k → 0 < k → (digitsF f n acc).length ≤ acc.length + k
  | 0, _, _, _, _, h => by omega
  | _, 0, _, _, _, _ => by simp [digitsF]
  | k + 1, f + 1, n, acc, hk, _ => by
    rw [digitsF]
    split
    · simp
    · rename_i h
      have h1 : n / 10 < 10 ^ k := by rw [Nat.div_lt_iff_lt_mul (by omega)]; rw [Nat.pow_succ] at hk; exact hk
      have h2 : 0 < k := by
        rcases Nat.eq_zero_or_pos k with rfl | q
        · simp at hk; omega
        · exact q
      have := digitsF_short k f (n / 10) ((48 + n % 10) :: acc) h1 h2
      rw [List.length_cons] at this
      omega
def Sm (n : Int) : Prop := 0 ≤ n ∧ n ≤ 1000000
theorem smallN_itoa {n : Int} (h : Sm n) : smallN (itoa n) = n := by
  obtain ⟨h0, h1⟩ := h
  have hl : (itoa n).length ≤ 0 + 16 := by
    rw [itoa_pos h0]
    exact digitsF_short 16 20 n.toNat [] (by omega) (by omega)
  unfold smallN
  rw [if_neg (by omega), itoa_pos h0]
  unfold digits
  rw [digN_digits 20 n.toNat [] (by omega) (by omega), digN]
  omega
def atN (ws : List (List Nat)) (i : Nat) : Int := match ws[i]? with
  | none => 0
  | some w => smallN w
theorem atN_num (ws : List (List Nat)) (i : Nat) : NumB (atN ws i) := by
  unfold atN
  split
  · exact ⟨by omega, by omega⟩
  · exact smallN_num _
def stepA (ws : List (List Nat)) (a : Ann) : Ann :=
  if ws.headD [] = wAnnounce then { a with id := atN ws 1, old := atN ws 2, passed := atN ws 3, off := atN ws 4, moved := atN ws 5 }
  else if ws.headD [] = wScene then { a with host := atN ws 1, lang := atN ws 2, lot := atN ws 3, known := atN ws 4, day := atN ws 5 }
  else if ws.headD [] = wGuest then { a with guests := a.guests ++ [(atN ws 1, atN ws 2)] }
  else if ws.headD [] = wOrder then { a with order := a.order ++ ((ws.drop 1).take 30).map smallN }
  else a
def lineL (s : List Nat) : List Nat × List Nat := match cutL 10 s with
  | some p => p
  | none => (s, [])
def loose : Nat → List Nat → Ann → Ann
  | 0, _, a => a
  | k + 1, s, a => if s = [] then a else loose k (lineL s).2 (stepA (splitL 32 (lineL s).1) a)
def ann0 : Ann := ⟨0, 0, 0, 0, 0, 0, [], 0, 0, [], 0, 0⟩
theorem step_num {ws : List (List Nat)} {a : Ann} (h : a.Num) : (stepA ws a).Num := by
  obtain ⟨h1, h2, h3, h4⟩ := h
  unfold stepA
  split
  · exact ⟨by simp [atN_num], h2, h3, h4⟩
  split
  · exact ⟨h1, by simp [atN_num], h3, h4⟩
  split
  · refine ⟨h1, h2, fun p hp => ?_, h4⟩
    rcases List.mem_append.1 hp with hp | hp
    · exact h3 p hp
    · rw [List.mem_singleton] at hp
      subst hp
      exact ⟨atN_num _ _, atN_num _ _⟩
  split
  · refine ⟨h1, h2, h3, fun n hn => ?_⟩
    rcases List.mem_append.1 hn with hn | hn
    · exact h4 n hn
    · obtain ⟨w, _, rfl⟩ := List.mem_map.1 hn
      exact smallN_num w
  · exact ⟨h1, h2, h3, h4⟩
theorem loose_num : ∀ (k : Nat) {s : List Nat} {a : Ann}, a.Num → (loose k s a).Num
  | 0, _, _, h => h
  | k + 1, s, a, h => by
    rw [loose]
    split
    · exact h
    · exact loose_num k (step_num h)
theorem num0 : ann0.Num := ⟨by simp [ann0, NumB], by simp [ann0, NumB], by simp [ann0], by simp [ann0]⟩
theorem lineL_line {w : List Nat} {ns : List Int} {rest : List Nat} (hw : 10 ∉ w) (h : ∀ n ∈ ns, 0 ≤ n) : lineL (lineT w ns ++ rest) = (w ++ ns.flatMap fun n => 32 :: itoa n, rest) := by
  unfold lineL lineT
  rw [List.append_assoc, List.singleton_append, cutL_of (line_no10 hw h)]
theorem loose_line {k : Nat} {w : List Nat} {ns : List Int} {rest : List Nat} {a : Ann} (hw : 10 ∉ w) (hw2 : 32 ∉ w) (h : ∀ n ∈ ns, 0 ≤ n) : loose (k + 1) (lineT w ns ++ rest) a = loose k rest (stepA (w :: ns.map itoa) a) := by
  have hne : lineT w ns ++ rest ≠ [] := by unfold lineT; simp
  rw [loose, if_neg hne, lineL_line hw h, split_words hw2 h]
theorem loose_guests : ∀ (g : List (Int × Int)) {k : Nat} {rest : List Nat} {a : Ann}, (∀ p ∈ g, Sm p.1 ∧ Sm p.2) → loose (k + g.length) (guestsT g ++ rest) a = loose k rest { a with guests := a.guests ++ g }
  | [], k, rest, a, _ => by simp [guestsT]
  | p :: g, k, rest, a, h => by
    have hp := h p (by simp)
    have ih := loose_guests g (k := k) (rest := rest) (a := { a with guests := a.guests ++ [p] }) fun x hx => h x (by simp [hx])
    have e : guestsT (p :: g) ++ rest = lineT wGuest [p.1, p.2] ++ (guestsT g ++ rest) := by simp [guestsT]
    rw [e, List.length_cons, ← Nat.add_assoc, loose_line (by decide) (by decide) (by simp [hp.1.1, hp.2.1])]
    have st : stepA (wGuest :: [p.1, p.2].map itoa) a = { a with guests := a.guests ++ [p] } := by
      simp [stepA, atN, wGuest, wAnnounce, wScene, smallN_itoa hp.1, smallN_itoa hp.2]
    rw [st, ih]
    simp
theorem map_small {ns : List Int} (h : ∀ n ∈ ns, Sm n) : ns.map (fun n => smallN (itoa n)) = ns := by
  induction ns with
  | nil => rfl
  | cons n ns ih =>
    rw [List.map_cons, smallN_itoa (h n (by simp)), ih fun m hm => h m (by simp [hm])]
structure Ann.Small (a : Ann) : Prop where
  one : ∀ n ∈ [a.id, a.old, a.passed, a.off, a.moved], Sm n
  two : ∀ n ∈ [a.host, a.lang, a.lot, a.known, a.day], Sm n
  gs : ∀ p ∈ a.guests, Sm p.1 ∧ Sm p.2
  ord : ∀ n ∈ a.order, Sm n
  gl : a.guests.length ≤ 24
  ol : a.order.length ≤ 24
theorem loose_text {a : Ann} (h : a.Small) : loose 40 a.text ann0 = a := by
  obtain ⟨h1, h2, h3, h4, h5, h6⟩ := h
  unfold Ann.text
  rw [loose_line (k := 39) (by decide) (by decide) fun n hn => (h1 n hn).1, loose_line (k := 38) (by decide) (by decide) fun n hn => (h2 n hn).1]
  obtain ⟨k, hk⟩ : ∃ k, 38 = (k + 1) + a.guests.length := ⟨37 - a.guests.length, by omega⟩
  rw [hk, loose_guests a.guests h3]
  have hL : ∀ x : Ann, loose (k + 1) (lineT wOrder a.order) x = loose k [] (stepA (wOrder :: a.order.map itoa) x) := fun x => by
    have := loose_line (k := k) (w := wOrder) (ns := a.order) (rest := []) (a := x) (by decide) (by decide) fun n hn => (h4 n hn).1
    rwa [List.append_nil] at this
  rw [hL]
  have hE : ∀ (k : Nat) (x : Ann), loose k [] x = x := fun k x => by cases k <;> simp [loose]
  rw [hE]
  simp only [List.mem_cons, List.not_mem_nil, or_false, forall_eq_or_imp, forall_eq] at h1 h2
  obtain ⟨p1, p2, p3, p4, p5⟩ := h1
  obtain ⟨b1, b2, b3, b4, b5⟩ := h2
  have s1 : stepA (wAnnounce :: [a.id, a.old, a.passed, a.off, a.moved].map itoa) ann0 = { ann0 with id := a.id, old := a.old, passed := a.passed, off := a.off, moved := a.moved } := by
    simp [stepA, atN, wAnnounce, smallN_itoa p1, smallN_itoa p2, smallN_itoa p3, smallN_itoa p4, smallN_itoa p5]
  have s2 : ∀ x, stepA (wScene :: [a.host, a.lang, a.lot, a.known, a.day].map itoa) x = { x with host := a.host, lang := a.lang, lot := a.lot, known := a.known, day := a.day } := by
    intro x
    simp [stepA, atN, wAnnounce, wScene, smallN_itoa b1, smallN_itoa b2, smallN_itoa b3, smallN_itoa b4, smallN_itoa b5]
  have s3 : ∀ x, stepA (wOrder :: a.order.map itoa) x = { x with order := x.order ++ a.order } := by
    intro x
    have : ((a.order.map itoa).take 30).map smallN = a.order := by
      rw [List.take_of_length_le (by simp; omega), List.map_map]
      exact map_small h4
    simp [stepA, wAnnounce, wScene, wGuest, wOrder, this]
  rw [s1, s2, s3]
  simp [ann0]
theorem btw_of {n lo hi : Int} (h : btw n lo hi = true) : lo ≤ n ∧ n ≤ hi := by
  unfold btw at h
  simpa using h
theorem gE_ids : ∀ {g : List (Int × Int)} {seen : List Int}, gE seen g = 0 → ∀ p ∈ g, idOk p.1 = true ∧ idOk p.2 = true
  | [], _, _ => by simp
  | q :: g, seen, h => by
    rw [gE] at h
    split at h
    · omega
    split at h
    · omega
    rename_i h1 _
    intro p hp
    rcases List.mem_cons.1 hp with rfl | hp
    · simpa using h1
    · exact gE_ids h p hp
theorem good_small {a : Ann} (h : a.good = true) : a.Small := by
  unfold Ann.good at h
  simp only [Bool.and_eq_true, decide_eq_true_eq] at h
  obtain ⟨⟨h1, h2, h3, h4, h5⟩, h6, h7, h8⟩ := h
  have h1 := btw_of h1
  have h2 := btw_of h2
  have h3 := btw_of h3
  have h4 := btw_of h4
  have h5 := btw_of h5
  have hs : a.scene.ok = true := by
    unfold Scene.err at h6
    split at h6
    · assumption
    · omega
  unfold Scene.ok idOk at hs
  simp only [Bool.and_eq_true] at hs
  obtain ⟨s1, s2, s3, s4, s5⟩ := hs
  have s1 := btw_of s1
  have s2 := btw_of s2
  have s3 := btw_of s3
  have s4 := btw_of s4
  have s5 := btw_of s5
  simp only [Ann.scene] at s1 s2 s3 s4 s5
  unfold guestsE at h7
  split at h7
  · omega
  rename_i hgl
  have ho : GoodO a.guests.length a.order := by
    unfold orderS at h8
    split at h8
    · assumption
    · omega
  obtain ⟨o1, o2, _⟩ := ho
  refine ⟨?_, ?_, ?_, ?_, by omega, by omega⟩
  · simp only [List.mem_cons, List.not_mem_nil, or_false, forall_eq_or_imp, forall_eq, Sm]
    omega
  · simp only [List.mem_cons, List.not_mem_nil, or_false, forall_eq_or_imp, forall_eq, Sm]
    omega
  · intro p hp
    have q := gE_ids h7 p hp
    unfold idOk at q
    have q1 := btw_of q.1
    have q2 := btw_of q.2
    exact ⟨⟨by omega, by omega⟩, by omega, by omega⟩
  · intro n hn
    have := o2 n hn
    exact ⟨by omega, by omega⟩
theorem loose_law (s : List Nat) : let a := loose 40 s ann0
    (a.good = true ∧ a.text = s → annOf s = some a) ∧ (¬ (a.good = true ∧ a.text = s) → ∀ b, annOf s = some b → b.good = false) := by
  intro a
  have hn : a.Num := loose_num 40 num0
  constructor
  · rintro ⟨_, ht⟩
    rw [← ht]
    exact annOf_text hn
  · intro hno b hb
    cases hg : b.good
    · rfl
    · exfalso
      obtain ⟨rfl, _⟩ := annOf_some hb
      have := loose_text (good_small hg)
      refine hno ?_
      show (loose 40 b.text ann0).good = true ∧ _
      refine ⟨by rw [this]; exact hg, ?_⟩
      show (loose 40 b.text ann0).text = _
      rw [this]
end Go.Air
set_option maxRecDepth 100000
namespace Go.Air
open Go.Air.Try
theorem WX_iff {f : V} {args : List V} {h : H} {x : V} {S Sp : V → H → Prop} (hw : WC tb1 f args h fun u h' => u = x ∧ h' = h) : WX tb1 f args h S Sp ↔ S x h := by
  constructor
  · rintro ⟨k, r, e, q⟩
    obtain ⟨m, v, h', e', rfl, rfl⟩ := WC_ok hw
    have a1 := call_up tb1 (Nat.le_max_left k m) e q.ne
    have a2 := call_up tb1 (Nat.le_max_right k m) e' (by simp)
    rw [a1] at a2
    subst a2
    exact q
  · intro hs
    exact hw.mono fun v h' q => by obtain ⟨rfl, rfl⟩ := q; exact hs
theorem slc_lh {t : List V} {l : List Nat} {k1 k2 m n : Nat} (h1 : nth t k1 = .i .i64 (m : Int)) (h2 : nth t k2 = .i .i64 (n : Int)) (hm : m ≤ n) (hn : n ≤ l.length) : slcSV t (.s l) (some (.t k1)) (some (.t k2)) = some (.s ((l.drop m).take (n - m))) := by
  have hb : bounds t l.length l.length (some (.t k1)) (some (.t k2)) = some (m, n) := bounds_lh (by rw [ev_t, h1]; rfl) (by rw [ev_t, h2]; rfl) hn hm
  simp only [slcSV, hb, Option.map_some]
theorem ixS_at {l : List Nat} {i c : Nat} (hc : l[i]? = some c) : ixSV (.s l) (.i .i64 (i : Int)) = some (.i .u8 (c : Int)) := by
  have : natOf (.i .i64 (i : Int)) = some i := rfl
  simp [ixSV, this, hc]
section
variable {h : H} {S Sp : V → H → Prop}
theorem t163 : tb1 48 = some a48 := by kernel_rfl
theorem t96 : tb1 24 = some a24 := by kernel_rfl
theorem t95 : tb1 23 = some a23 := by kernel_rfl
theorem t94 : tb1 22 = some a22 := by kernel_rfl
theorem fn_small0 {w : List Nat} (hw : w.length ≤ 100000000) : WC tb1 (.fn 48 [] []) [.s w] h fun u h' => u = .i .i64 (smallN w) ∧ h' = h := by
  refine (WC_in t163).2 ?_
  unfold smallN
  by_cases h16 : 16 < w.length
  · have hI : (16 : Int) < (w.length : Int) := by omega
    simp only [go_sem, ↓reduceIte, r48_0, r48_1, r48_2, hI, h16]
  have hI : ¬ (16 : Int) < (w.length : Int) := by omega
  rw [if_neg h16]
  simp only [go_sem, ↓reduceIte, r48_0, r48_1, r48_3, r48_4, hI]
  refine W_while (fun k t h' => ∃ i acc, k = w.length - i ∧ i ≤ w.length ∧ t.length = 33 ∧ nth t 0 = .s w ∧ nth t 3 = .i .i64 ((acc : Nat) : Int) ∧ nth t 4 = .i .i64 (i : Int) ∧ digN 0 w = digN acc (w.drop i) ∧ acc < 10 ^ i ∧ h' = h) ?_ w.length ?_
  · rintro k t h' ⟨i, acc, rfl, hi, tl, t0, t3, t4, hd, ha, rfl⟩
    unfold b48_0
    by_cases hin : i < w.length
    · have hI : (i : Int) < (w.length : Int) := by omega
      have hp : w[i]? = some w[i] := List.getElem?_eq_getElem hin
      have hdr : w.drop i = w[i] :: w.drop (i + 1) := List.drop_eq_getElem_cons hin
      generalize w[i] = c at hp hdr
      rw [hdr, digN] at hd
      have hix := ixS_at hp
      by_cases c1 : (c : Int) < 48
      · rw [if_pos (by omega)] at hd
        simp only [go_sem, ↓reduceIte, r48_5, r48_7, r48_8, tl, t0, t4, hI, hix, c1]
        rw [hd]; rfl
      by_cases c2 : (57 : Int) < (c : Int)
      · rw [if_pos (by omega)] at hd
        simp only [go_sem, ↓reduceIte, r48_5, r48_7, r48_8, tl, t0, t4, hI, hix, c1, c2]
        rw [hd]; rfl
      rw [if_neg (by omega)] at hd
      have hp16 : 10 ^ i ≤ 10 ^ 16 := Nat.pow_le_pow_right (by omega) (by omega)
      have w1 : IntKind.i64.wrap ((i : Int) + 1) = ((i + 1 : Nat) : Int) := wrap_succ (by omega)
      have w2 : IntKind.i64.wrap ((acc : Int) * 10) = ((acc * 10 : Nat) : Int) := by rw [wrap_in (by omega) (by omega)]; omega
      have b3 : binV .sub (.i .u8 (c : Int)) (.i .u8 48) = some (.i .u8 ((c - 48 : Nat) : Int)) := by
        have : binV .sub (.i .u8 (c : Int)) (.i .u8 48) = some (.i .u8 (IntKind.u8.wrap ((c : Int) - 48))) := rfl
        rw [this]
        have : IntKind.u8.wrap ((c : Int) - 48) = ((c - 48 : Nat) : Int) := by
          have e : (c : Int) - 48 = ((c - 48 : Nat) : Int) := by omega
          rw [e]
          have : c - 48 < 10 := by omega
          generalize c - 48 = d at this
          match d, this with
          | 0, _ => rfl
          | 1, _ => rfl
          | 2, _ => rfl
          | 3, _ => rfl
          | 4, _ => rfl
          | 5, _ => rfl
          | 6, _ => rfl
          | 7, _ => rfl
          | 8, _ => rfl
          | 9, _ => rfl
        rw [this]
      have b4 : convV .i64 (.i .u8 ((c - 48 : Nat) : Int)) = some (.i .i64 ((c - 48 : Nat) : Int)) := by
        have : convV .i64 (.i .u8 ((c - 48 : Nat) : Int)) = some (.i .i64 (IntKind.i64.wrap ((c - 48 : Nat) : Int))) := rfl
        rw [this, wrap_in (by omega) (by omega)]
      have w5 : IntKind.i64.wrap (((acc * 10 : Nat) : Int) + ((c - 48 : Nat) : Int)) = ((acc * 10 + (c - 48) : Nat) : Int) := by rw [wrap_in (by omega) (by omega)]; omega
      simp only [go_sem, ↓reduceIte, r48_5, r48_6, r48_7, r48_9, tl, t0, t3, t4, hI, hix, c1, c2, w1, w2, b3, b4, w5]
      refine ⟨w.length - (i + 1), by omega, i + 1, acc * 10 + (c - 48), rfl, by omega, rfl, rfl, hd, ?_⟩
      rw [Nat.pow_succ]
      omega
    · have hI : ¬ (i : Int) < (w.length : Int) := by omega
      rw [List.drop_of_length_le (by omega), digN] at hd
      simp only [go_sem, ↓reduceIte, r48_5, r48_10, tl, t0, t3, t4, hI]
      rw [hd]
  · refine ⟨0, 0, rfl, by omega, ?_, ?_, ?_, ?_, rfl, by simp, rfl⟩ <;> simp only [go_sem, ↓reduceIte]
theorem fn_small {w : List Nat} (hw : w.length ≤ 100000000) : WX tb1 (.fn 48 [] []) [.s w] h S Sp ↔ S (.i .i64 (smallN w)) h := WX_iff (fn_small0 hw)
theorem fn_at {u : V} {ws : List (List Nat)} {n : Nat} {k : Int} (q : Sl 1 h u ws.length (ws.map V.s)) (hl : ∀ w ∈ ws, w.length ≤ 100000000) (hk : k = (n : Int)) : WX tb1 (.fn 24 [] []) [u, .i .i64 k] h S Sp ↔ S (.i .i64 (atN ws n)) h := by
  subst hk
  refine WX_iff ((WC_in t96).2 ?_)
  have hlv := q.len
  unfold atN
  by_cases hn : n < ws.length
  · have hI : ¬ (ws.length : Int) ≤ (n : Int) := by omega
    have hp : ws[n]? = some ws[n] := List.getElem?_eq_getElem hn
    generalize hw : ws[n] = w at hp
    have hix := q.ix hn
    have hld := q.ld1 hn
    rw [List.getElem?_map, hp] at hld
    simp only [go_sem, ↓reduceIte, r24_0, r24_1, r24_3, hlv, hI, hix, hld, Option.map_some, fn_small (hl w (List.mem_of_getElem? hp))]
    simp only [hp]
  · have hI : (ws.length : Int) ≤ (n : Int) := by omega
    simp only [go_sem, ↓reduceIte, r24_0, r24_1, r24_2, hlv, hI]
    rw [List.getElem?_eq_none (by omega)]
theorem cutL_out {c : Nat} {l : List Nat} (h : c ∉ l) : cutL c l = none := by
  cases hq : cutL c l with
  | none => rfl
  | some p =>
    obtain ⟨a, b⟩ := p
    obtain ⟨rfl, _⟩ := cutL_some hq
    exact absurd (by simp) h
theorem not_mem_snoc {c x : Nat} {l : List Nat} {i : Nat} (h : c ∉ l.take i) (hx : l[i]? = some x) (hne : x ≠ c) : c ∉ l.take (i + 1) := by
  rw [take_succ' hx, List.mem_append, List.mem_singleton, not_or]
  exact ⟨h, fun e => hne e.symm⟩
theorem split_at {l : List Nat} {i x : Nat} (hx : l[i]? = some x) : l = l.take i ++ x :: l.drop (i + 1) := by
  obtain ⟨hi, e⟩ := List.getElem?_eq_some_iff.1 hx
  rw [← e, ← List.drop_eq_getElem_cons hi, List.take_append_drop]
theorem fn_rline {b : Nat} {s : List Nat} (hb : b < h.next) (g : h.get b = some (.cells [.s s])) (hs : s.length ≤ 1000000) : WC tb1 (.fn 23 [] []) [.p b 0] h fun u h' => u = .s (lineL s).1 ∧ h' = h.put b (.cells [.s (lineL s).2]) := by
  refine (WC_in t95).2 ?_
  have hld : ldV h (.p b (0 + 0)) = some (.s s) := blk_ld (i := 0) g rfl
  simp only [go_sem, ↓reduceIte, r23_0, r23_1]
  refine W_while (fun k t h' => ∃ i, k = s.length - i ∧ i ≤ s.length ∧ t.length = 47 ∧ nth t 0 = .p b 0 ∧ nth t 3 = .i .i64 (i : Int) ∧ 10 ∉ s.take i ∧ h' = h) ?_ s.length ?_
  · rintro k t h' ⟨i, rfl, hi, tl, t0, t3, hno, rfl⟩
    unfold b23_0
    by_cases hin : i < s.length
    · have hI : (i : Int) < (s.length : Int) := by omega
      have hp : s[i]? = some s[i] := List.getElem?_eq_getElem hin
      generalize s[i] = c at hp
      have hix := ixS_at hp
      have w1 : IntKind.i64.wrap ((i : Int) + 1) = ((i + 1 : Nat) : Int) := wrap_succ (by omega)
      by_cases hc : c = 10
      · subst hc
        have hcut : cutL 10 s = some (s.take i, s.drop (i + 1)) := by
          have e := split_at hp
          have := cutL_of (b := s.drop (i + 1)) hno
          rw [← e] at this
          exact this
        have hL : lineL s = (s.take i, s.drop (i + 1)) := by unfold lineL; rw [hcut]
        have hst : stV h' 1 (.p b (0 + 0)) (.s (s.drop (i + 1))) = some (h'.put b (.cells [.s (s.drop (i + 1))])) := blk_st (i := 0) g (by simp) rfl rfl
        have c1 : ((10 : Nat) : Int) = 10 := rfl
        rw [hL]
        simp only [go_sem, ↓reduceIte, r23_2, r23_4, r23_5, tl, t0, t3, hld, hI, hix, c1]
        rw [slc_hi (k := 26) (n := i) (by simp only [go_sem, ↓reduceIte, tl, t3]) hi]
        simp only [go_sem, ↓reduceIte, r23_6, tl, t0, t3, hld, w1]
        rw [slc_lo (k := 34) (n := i + 1) (by simp only [go_sem, ↓reduceIte, tl, t3]) (by omega)]
        simp only [go_sem, ↓reduceIte, r23_7, tl, t0, t3, hst]
      · have hcI : ¬ (c : Int) = 10 := by omega
        simp only [go_sem, ↓reduceIte, r23_2, r23_3, r23_4, tl, t0, t3, hld, hI, hix, hcI, w1]
        exact ⟨s.length - (i + 1), by omega, i + 1, rfl, by omega, rfl, not_mem_snoc hno hp hc⟩
    · have hI : ¬ (i : Int) < (s.length : Int) := by omega
      rw [List.take_of_length_le (by omega)] at hno
      have hL : lineL s = (s, []) := by unfold lineL; rw [cutL_out hno]
      have hst : stV h' 1 (.p b (0 + 0)) (.s []) = some (h'.put b (.cells [.s []])) := blk_st (i := 0) g (by simp) rfl rfl
      rw [hL]
      simp only [go_sem, ↓reduceIte, r23_2, r23_8, r23_9, r23_10, tl, t0, t3, hld, hI, hst]
  · refine ⟨0, rfl, by omega, ?_, ?_, ?_, by simp, rfl⟩ <;> simp only [go_sem, ↓reduceIte]
theorem splitL_len (c : Nat) : ∀ l, (splitL c l).length ≤ l.length + 1
  | [] => by simp [splitL]
  | x :: l => by
    have ih := splitL_len c l
    rw [splitL]
    split
    · simp; omega
    · split
      · simp
      · rename_i h
        rw [h] at ih
        simp at ih ⊢; omega
def Wds (l : List Nat) (pre : List (List Nat)) (a i : Nat) : Prop :=
  (i ≤ l.length ∧ a ≤ i ∧ splitL 32 l = pre ++ splitL 32 (l.drop a) ∧ 32 ∉ (l.drop a).take (i - a)) ∨ (i = l.length + 1 ∧ splitL 32 l = pre)
theorem fn_words {l : List Nat} (hl : l.length ≤ 1000000) : WC tb1 (.fn 22 [] []) [.s l] h fun u h' => Ext h h' ∧ Own h 1 h' u (splitL 32 l).length ((splitL 32 l).map V.s) := by
  refine (WC_in t94).2 ?_
  simp only [go_sem, ↓reduceIte, r22_0, r22_1, r22_2, r22_3]
  refine W_while (fun k t h' => ∃ (a i : Nat) (u : V) (pre : List (List Nat)), k = l.length + 1 - i ∧ i ≤ l.length + 1 ∧ t.length = 32 ∧ nth t 0 = .s l ∧ nth t 3 = u ∧ nth t 4 = .i .i64 (a : Int) ∧ nth t 5 = .i .i64 (i : Int) ∧ Wds l pre a i ∧ M87 h h' u pre) ?_ (l.length + 1) ?_
  · rintro k t h' ⟨a, i, u, pre, rfl, hi, tl, t0, t3, t4, t5, hw, q⟩
    unfold b22_0
    have hpl : pre.length ≤ 1000001 := by
      have h1 := splitL_len 32 l
      rcases hw with ⟨_, _, e, _⟩ | ⟨_, e⟩
      · rw [e, List.length_append] at h1; omega
      · rw [e] at h1; omega
    have app : ∀ c : List Nat, ∃ u' h2, appendV 1 16 (h'.new (.cells [.s c])) u (.sl h'.next 0 1 1 none) = .ok u' h2 ∧ M87 h h2 u' (pre ++ [c]) := fun c => by
      obtain ⟨v', h2, q1, q2, q3, _⟩ := (q.own.ext ((Ext.refl h').new _)).app (bytes := 16) (q.ext.new _) (one_s q.ext c) (by intro u hu; simp at hu; subst hu; rfl) (by omega) (by omega) (by omega)
      exact ⟨v', h2, q1, q2, by simpa using q3⟩
    rcases hw with ⟨h1, h2, e, hno⟩ | ⟨rfl, e⟩
    · have hI : (i : Int) ≤ (l.length : Int) := by omega
      have w1 : IntKind.i64.wrap ((i : Int) + 1) = ((i + 1 : Nat) : Int) := wrap_succ (by omega)
      have hslc := fun (t : List V) (k1 k2 : Nat) (a1 : nth t k1 = .i .i64 (a : Int)) (a2 : nth t k2 = .i .i64 (i : Int)) => slc_lh (l := l) a1 a2 h2 h1
      obtain ⟨u', h3, p1, p2⟩ := app ((l.drop a).take (i - a))
      by_cases hie : i = l.length
      · subst hie
        simp only [go_sem, ↓reduceIte, r22_4, r22_6, r22_7, tl, t0, t3, t4, t5, hI]
        rw [hslc _ 24 25 (by simp only [go_sem, ↓reduceIte, tl, t4]) (by simp only [go_sem, ↓reduceIte, tl, t5])]
        simp only [go_sem, ↓reduceIte, r22_5, r22_8, tl, t0, t3, t4, t5, fill1_s, p1, w1]
        refine ⟨l.length + 1 - (l.length + 1), by omega, l.length + 1, l.length + 1, u', pre ++ [(l.drop a).take (l.length - a)], rfl, by omega, rfl, rfl, rfl, .inr ⟨rfl, ?_⟩, p2⟩
        rw [e, List.take_of_length_le (by simp)]
        rw [List.take_of_length_le (by simp)] at hno
        rw [splitL_none hno]
      · have hIe : ¬ (i : Int) = (l.length : Int) := by omega
        have hin : i < l.length := by omega
        have hp : l[i]? = some l[i] := List.getElem?_eq_getElem hin
        generalize l[i] = c at hp
        have hix := ixS_at hp
        have hpd : (l.drop a)[i - a]? = some c := by rw [List.getElem?_drop, show a + (i - a) = i by omega]; exact hp
        by_cases hc : c = 32
        · subst hc
          have c1 : ((32 : Nat) : Int) = 32 := rfl
          simp only [go_sem, ↓reduceIte, r22_4, r22_6, r22_7, tl, t0, t3, t4, t5, hI, hIe, hix, c1]
          rw [hslc _ 24 25 (by simp only [go_sem, ↓reduceIte, tl, t4]) (by simp only [go_sem, ↓reduceIte, tl, t5])]
          simp only [go_sem, ↓reduceIte, r22_5, r22_8, tl, t0, t3, t4, t5, fill1_s, p1, w1]
          refine ⟨l.length + 1 - (i + 1), by omega, i + 1, i + 1, u', pre ++ [(l.drop a).take (i - a)], rfl, by omega, rfl, rfl, rfl, .inl ⟨by omega, Nat.le_refl _, ?_, by simp⟩, p2⟩
          have es := split_at hpd
          rw [e]
          conv => lhs; rw [es]
          rw [splitL_cut hno, List.drop_drop, show a + (i - a + 1) = i + 1 by omega]
          simp
        · have hcI : ¬ (c : Int) = 32 := by omega
          simp only [go_sem, ↓reduceIte, r22_4, r22_5, r22_6, tl, t0, t3, t4, t5, hI, hIe, hix, hcI, w1]
          refine ⟨l.length + 1 - (i + 1), by omega, a, i + 1, u, pre, rfl, by omega, rfl, rfl, rfl, .inl ⟨by omega, by omega, e, ?_⟩, q⟩
          rw [show i + 1 - a = (i - a) + 1 by omega]
          exact not_mem_snoc hno hpd hc
    · have hI : ¬ ((l.length + 1 : Nat) : Int) ≤ (l.length : Int) := by omega
      simp only [go_sem, ↓reduceIte, r22_4, r22_9, tl, t0, t3, t4, t5, hI]
      rw [e]
      exact ⟨q.ext, q.own⟩
  · exact ⟨0, 0, .sn, [], rfl, by omega, by simp only [go_sem, ↓reduceIte], by simp only [go_sem, ↓reduceIte], by simp only [go_sem, ↓reduceIte], by simp only [go_sem, ↓reduceIte], by simp only [go_sem, ↓reduceIte], .inl ⟨by omega, by omega, by simp, by simp⟩, .refl h, .nil⟩
end
end Go.Air
set_option maxRecDepth 100000
namespace Go.Air
open Go.Air.Try
theorem Own.putb {h0 h : H} {esz n b : Nat} {v : V} {cs : List V} {x : Blk} (o : Own h0 esz h v n cs) (hb : v = .sn ∨ blkV v ≠ b) : Own h0 esz (h.put b x) v n cs := by
  obtain ⟨hl, o | ⟨b', g, rfl, hv, h1, h2, hg⟩⟩ := o
  · exact ⟨hl, .inl o⟩
  · refine ⟨hl, .inr ⟨b', g, rfl, hv, h1, h2, ?_⟩⟩
    rcases hb with hb | hb
    · cases hb
    · exact (get_put_ne hb).trans hg
theorem Own.vals {h0 h : H} {esz n : Nat} {v : V} {cs : List V} (o : Own h0 esz h v n cs) : v.cells = [v] ∧ v.oneCell = true := by
  obtain ⟨_, ⟨_, rfl⟩ | ⟨b, g, rfl, _⟩⟩ := o <;> exact ⟨rfl, rfl⟩
structure L31 (h hh : H) (s : List Nat) (a : Ann) (gv ov : V) : Prop where
  ext : Ext h hh
  nx : h.next + 3 ≤ hh.next
  gz : hh.get h.next = some (.cells zeroC)
  gr : hh.get (h.next + 1) = some (.cells [.s s])
  ga : hh.get (h.next + 2) = some (.cells (a.cells gv ov))
  gs : Own h 2 hh gv a.guests.length (cells2 a.guests)
  od : Own h 1 hh ov a.order.length (a.order.map I)
  gvb : gv = .sn ∨ h.next + 3 ≤ blkV gv
  ovb : ov = .sn ∨ h.next + 3 ≤ blkV ov
  ne : gv = .sn ∨ ov = .sn ∨ blkV gv ≠ blkV ov
section
variable {h hh h' : H} {s : List Nat} {a a' : Ann} {gv ov : V}
theorem L31.step (q : L31 h hh s a gv ov) (e : Ext hh h') : L31 h h' s a gv ov :=
  have n := q.nx
  ⟨q.ext.trans e, Nat.le_trans q.nx e.nx, e.get (by omega) q.gz, e.get (by omega) q.gr, e.get (by omega) q.ga, q.gs.ext e, q.od.ext e, q.gvb, q.ovb, q.ne⟩
theorem L31.gne {b : Nat} (q : L31 h hh s a gv ov) (hb : b < h.next + 3) : gv = .sn ∨ blkV gv ≠ b := by
  rcases q.gvb with e | e
  · exact .inl e
  · exact .inr (by omega)
theorem L31.one {b : Nat} (q : L31 h hh s a gv ov) (hb : b < h.next + 3) : ov = .sn ∨ blkV ov ≠ b := by
  rcases q.ovb with e | e
  · exact .inl e
  · exact .inr (by omega)
theorem L31.line (q : L31 h hh s a gv ov) (r : List Nat) : L31 h (hh.put (h.next + 1) (.cells [.s r])) r a gv ov :=
  ⟨q.ext.put (by omega) _, q.nx, by rw [get_put_ne (by omega)]; exact q.gz, get_put_eq, by rw [get_put_ne (by omega)]; exact q.ga, q.gs.putb (q.gne (by omega)), q.od.putb (q.one (by omega)), q.gvb, q.ovb, q.ne⟩
theorem L31.set (q : L31 h hh s a gv ov) {c : List V} (hc : c = a'.cells gv ov) (h1 : a'.guests = a.guests) (h2 : a'.order = a.order) : L31 h (hh.put (h.next + 2) (.cells c)) s a' gv ov := by
  subst hc
  exact ⟨q.ext.put (by omega) _, q.nx, by rw [get_put_ne (by omega)]; exact q.gz, by rw [get_put_ne (by omega)]; exact q.gr, get_put_eq, by rw [h1]; exact q.gs.putb (q.gne (by omega)), by rw [h2]; exact q.od.putb (q.one (by omega)), q.gvb, q.ovb, q.ne⟩
theorem L31.st (q : L31 h hh s a gv ov) (i : Nat) (n : Int) (a' : Ann) (hi : i < 12) (hc : (a.cells gv ov).set i (I n) = a'.cells gv ov) (h1 : a'.guests = a.guests) (h2 : a'.order = a.order) :
    ∃ g, stV hh 1 (.p (h.next + 2) (0 + i)) (.i .i64 n) = some g ∧ L31 h g s a' gv ov ∧ (∀ b, b ≠ h.next + 2 → g.get b = hh.get b) ∧ g.next = hh.next := by
  rw [Nat.zero_add]
  exact ⟨_, blk_st (x := I n) q.ga (by simpa [cells12] using hi) rfl rfl, q.set hc h1 h2, fun b hb => get_put_ne hb, rfl⟩
theorem L31.guest (q : L31 h hh s a gv ov) (x y : Int) (hl : a.guests.length ≤ 1000) :
    ∃ gv' hb g2 hb2 g3, appendV 2 16 (hh.new (.cells [I x, I y])).bare gv (.sl hh.next 0 1 1 none) = .ok gv' hb ∧ (hh.new (.cells [I x, I y])).back hb = g2 ∧ stV g2.bare 1 (.p (h.next + 2) (0 + 6)) gv' = some hb2 ∧ g2.back hb2 = g3 ∧ L31 h g3 s { a with guests := a.guests ++ [(x, y)] } gv' ov := by
  have e1 : Ext hh (hh.new (.cells [I x, I y])) := (Ext.refl hh).new _
  have q1 := q.step e1
  have hn := q.nx
  obtain ⟨v', hb, g2, p1, p2, p3, p4, p5, p6, p7⟩ := q1.gs.appB (bytes := 16) q1.ext (Own.lit (esz := 2) (Ext.refl hh) [I x, I y] 1 rfl).1.sl (by intro u hu; simp [I] at hu; rcases hu with rfl | rfl <;> rfl) (by omega) (by omega) (by omega)
  have p7 := p7 (by omega)
  have hn1 : (hh.new (.cells [I x, I y])).next = hh.next + 1 := rfl
  have hne : ∀ k, k < h.next + 3 → g2.get k = (hh.new (.cells [I x, I y])).get k := fun k hk => p6 k (by omega) (by
    rcases q.gne hk with e | e
    · exact .inl e
    · exact .inr fun e' => e e'.symm)
  have hcl : cells2 (a.guests ++ [(x, y)]) = cells2 a.guests ++ [I x, I y] := by simp [cells2]
  have hga : g2.get (h.next + 2) = some (.cells (a.cells gv ov)) := (hne _ (by omega)).trans q1.ga
  have hst := st_bare (i := 6) hga (by simp [cells12]) p4.vals.1 p4.vals.2 rfl
  have hlt : h.next + 2 < g2.next := by omega
  refine ⟨v', hb, g2, _, _, p1, p2, by rw [Nat.zero_add]; exact hst, rfl, ?_⟩
  rw [back_put hlt]
  have od2 : Own h 1 g2 ov a.order.length (a.order.map I) := by
    obtain ⟨hl, o | ⟨b', g, rfl, hv, h1, h2, hg⟩⟩ := q1.od
    · exact ⟨hl, .inl o⟩
    · refine ⟨hl, .inr ⟨b', g, rfl, hv, h1, by omega, (p6 b' h2 ?_).trans hg⟩⟩
      rcases q.ne with e | e | e
      · exact .inl e
      · cases e
      · exact .inr fun e' => e e'.symm
  refine ⟨p3.put (by omega) _, by show h.next + 3 ≤ g2.next; omega, by rw [get_put_ne (by omega)]; exact (hne _ (by omega)).trans q1.gz, by rw [get_put_ne (by omega)]; exact (hne _ (by omega)).trans q1.gr, by rw [get_put_eq]; rfl, ?_, od2.putb (q.one (by omega)), .inr (by omega), q.ovb, ?_⟩
  · show Own h 2 _ v' (a.guests ++ [(x, y)]).length (cells2 (a.guests ++ [(x, y)]))
    rw [hcl, List.length_append]
    exact p4.putb (.inr (by omega))
  · obtain ⟨_, ⟨_, rfl⟩ | ⟨b', g, rfl, _, _, h2, _⟩⟩ := q.od
    · exact .inr (.inl rfl)
    · refine .inr (.inr ?_)
      have : blkV (.sl b' 0 a.order.length a.order.length g) = b' := rfl
      omega
theorem L31.ord (q : L31 h hh s a gv ov) (x : Int) (hl : a.order.length ≤ 100000) :
    ∃ ov' hb g2 hb2 g3, appendV 1 8 (hh.new (.cells [I x])).bare ov (.sl hh.next 0 1 1 none) = .ok ov' hb ∧ (hh.new (.cells [I x])).back hb = g2 ∧ stV g2.bare 1 (.p (h.next + 2) (0 + 9)) ov' = some hb2 ∧ g2.back hb2 = g3 ∧ L31 h g3 s { a with order := a.order ++ [x] } gv ov' ∧ (∀ b, b < hh.next → b ≠ h.next + 2 → (ov = .sn ∨ b ≠ blkV ov) → g3.get b = hh.get b) ∧ hh.next ≤ g3.next ∧ hh.next ≤ blkV ov' := by
  have e1 : Ext hh (hh.new (.cells [I x])) := (Ext.refl hh).new _
  have q1 := q.step e1
  have hn := q.nx
  obtain ⟨v', hb, g2, p1, p2, p3, p4, p5, p6, p7⟩ := q1.od.appB (bytes := 8) q1.ext (Own.lit (esz := 1) (Ext.refl hh) [I x] 1 rfl).1.sl (by intro u hu; simp [I] at hu; subst hu; rfl) (by omega) (by omega) (by omega)
  have p7 := p7 (by omega)
  have hn1 : (hh.new (.cells [I x])).next = hh.next + 1 := rfl
  have hne : ∀ k, k < h.next + 3 → g2.get k = (hh.new (.cells [I x])).get k := fun k hk => p6 k (by omega) (by
    rcases q.one hk with e | e
    · exact .inl e
    · exact .inr fun e' => e e'.symm)
  have hga : g2.get (h.next + 2) = some (.cells (a.cells gv ov)) := (hne _ (by omega)).trans q1.ga
  have hst := st_bare (i := 9) hga (by simp [cells12]) p4.vals.1 p4.vals.2 rfl
  have hlt : h.next + 2 < g2.next := by omega
  refine ⟨v', hb, g2, _, _, p1, p2, by rw [Nat.zero_add]; exact hst, rfl, ?_⟩
  rw [back_put hlt]
  refine ⟨?_, fun b hb hb2 hb3 => by rw [get_put_ne hb2, p6 b (by omega) hb3, get_new_lt hb], by show hh.next ≤ g2.next; omega, by omega⟩
  have gs2 : Own h 2 g2 gv a.guests.length (cells2 a.guests) := by
    obtain ⟨hl, o | ⟨b', g, rfl, hv, h1, h2, hg⟩⟩ := q1.gs
    · exact ⟨hl, .inl o⟩
    · refine ⟨hl, .inr ⟨b', g, rfl, hv, h1, by omega, (p6 b' h2 ?_).trans hg⟩⟩
      rcases q.ne with e | e | e
      · cases e
      · exact .inl e
      · exact .inr e
  refine ⟨p3.put (by omega) _, by show h.next + 3 ≤ g2.next; omega, by rw [get_put_ne (by omega)]; exact (hne _ (by omega)).trans q1.gz, by rw [get_put_ne (by omega)]; exact (hne _ (by omega)).trans q1.gr, by rw [get_put_eq]; rfl, gs2.putb (q.gne (by omega)), ?_, q.gvb, .inr (by omega), ?_⟩
  · show Own h 1 _ v' (a.order ++ [x]).length ((a.order ++ [x]).map I)
    rw [List.map_append, List.length_append]
    exact p4.putb (.inr (by omega))
  · obtain ⟨_, ⟨_, rfl⟩ | ⟨b', g, rfl, _, _, h2, _⟩⟩ := q.gs
    · exact .inl rfl
    · refine .inr (.inr ?_)
      have : blkV (.sl b' 0 a.guests.length a.guests.length g) = b' := rfl
      omega
end
end Go.Air
set_option maxRecDepth 100000
namespace Go.Air
open Go.Air.Try
theorem splitL_mem (c : Nat) : ∀ {l w : List Nat}, w ∈ splitL c l → w.length ≤ l.length
  | [], w, h => by
    simp [splitL] at h
    subst h
    simp
  | x :: l, w, h => by
    rw [splitL] at h
    split at h
    · rcases List.mem_cons.1 h with rfl | h
      · simp
      · have := splitL_mem c h
        simp; omega
    · split at h
      · simp at h; subst h; simp
      · rename_i v vs hs
        rcases List.mem_cons.1 h with rfl | h
        · have := splitL_mem c (l := l) (w := v) (by rw [hs]; simp)
          simp; omega
        · have := splitL_mem c (l := l) (w := w) (by rw [hs]; simp [h])
          simp; omega
theorem step_len (ws : List (List Nat)) (a : Ann) : (stepA ws a).guests.length ≤ a.guests.length + 1 ∧ (stepA ws a).order.length ≤ a.order.length + 30 := by
  unfold stepA
  split
  · exact ⟨by simp, by simp⟩
  split
  · exact ⟨by simp, by simp⟩
  split
  · exact ⟨by simp, by simp⟩
  split
  · exact ⟨by simp, by simp; omega⟩
  · exact ⟨by simp, by simp⟩
theorem lineL_len (s : List Nat) : (lineL s).1.length ≤ s.length ∧ (lineL s).2.length ≤ s.length := by
  unfold lineL
  split
  · rename_i p hp
    obtain ⟨x, y⟩ := p
    obtain ⟨rfl, _⟩ := cutL_some hp
    exact ⟨by simp, by simp; omega⟩
  · exact ⟨by simp, by simp⟩
def Inv31 (h : H) (s : List Nat) (k : Nat) (t : List V) (hh : H) : Prop := ∃ n s' a gv ov, k = 40 - n ∧ n ≤ 40 ∧ t.length = 108 ∧ nth t 0 = .s s ∧ nth t 2 = .p h.next 0 ∧ nth t 4 = .p (h.next + 1) 0 ∧ nth t 5 = .p (h.next + 2) 0 ∧ nth t 6 = .i .i64 ((n : Nat) : Int) ∧
  L31 h hh s' a gv ov ∧ loose 40 s ann0 = loose (40 - n) s' a ∧ a.Num ∧ a.guests.length ≤ n ∧ a.order.length ≤ 30 * n ∧ s'.length ≤ s.length
theorem NumB.in {a : Ann} (h : a.Num) : a.In := ⟨fun n hn => (h.one n hn).i64, fun n hn => (h.two n hn).i64, fun p hp => ⟨(h.gs p hp).1.i64, (h.gs p hp).2.i64⟩, fun n hn => (h.ord n hn).i64⟩
section
variable {h : H}
theorem t31 : tb1 8 = some a8 := by kernel_rfl
theorem fn_rGetAnnounce (ht : Tb4 h) {s : List Nat} (hs : s.length ≤ 1000000) : WC tb1 (.fn 8 [] []) [.s s] h fun u h' => Ext h h' ∧ GetR h h' s u := by
  refine (WC_in t31).2 ?_
  have hz : [V.i .i64 0, .i .i64 0, .i .i64 0, .i .i64 0, .i .i64 0, .i .i64 0, .sn, .i .i64 0, .i .i64 0, .sn, .i .i64 0, .i .i64 0] = zeroC := rfl
  have f1 : fill1 (.s s) = some [.s s] := rfl
  simp only [go_sem, ↓reduceIte, r8_0, r8_1, r8_2, r8_3, hz, f1]
  refine W_while (Inv31 h s) ?_ 40 ?_
  · rintro k t hh ⟨n, s', a, gv, ov, rfl, hn, tl, t0, t2, t4, t5, t6, L, hlo, hnum, hgl, hol, hsl⟩
    unfold b8_1
    have hgr : ldV hh (.p (h.next + 1) (0 + 0)) = some (.s s') := blk_ld (i := 0) L.gr rfl
    by_cases hgo : s' ≠ [] ∧ n < 40
    · obtain ⟨hne, hn40⟩ := hgo
      have hI : (n : Int) < 40 := by omega
      have bne : binV .neq (.s s') (.s []) = some (.b true) := by rw [bin_sne]; simp [hne]
      have w1 : IntKind.i64.wrap ((n : Int) + 1) = ((n + 1 : Nat) : Int) := wrap_succ (by omega)
      simp only [go_sem, ↓reduceIte, r8_4, r8_6, tl, t0, t2, t4, t5, t6, hgr, bne, hI]
      have hnx := L.nx
      refine (fn_rline (by omega) L.gr (by omega)).mono ?_
      rintro u h1 ⟨rfl, rfl⟩
      have L1 := L.line (lineL s').2
      obtain ⟨ll1, ll2⟩ := lineL_len s'
      have hlo2 : loose 40 s ann0 = loose (40 - (n + 1)) (lineL s').2 (stepA (splitL 32 (lineL s').1) a) := by
        rw [hlo, show 40 - n = (40 - (n + 1)) + 1 by omega, loose, if_neg hne]
      generalize (lineL s').1 = l at ll1 hlo2
      generalize (lineL s').2 = rest at ll2 L1 hlo2
      have hn1 : (hh.put (h.next + 1) (.cells [.s rest])).next = hh.next := rfl
      generalize hh.put (h.next + 1) (.cells [.s rest]) = h1 at L1 hn1
      simp only [go_sem, ↓reduceIte, tl]
      refine (fn_words (l := l) (by omega)).mono ?_
      rintro u h2 ⟨e2, O⟩
      have L2 := L1.step e2
      have hwl : ∀ w ∈ splitL 32 l, w.length ≤ 100000000 := fun w hw => by have := splitL_mem 32 hw; omega
      have hw0 : 0 < (splitL 32 l).length := by
        cases hsp : splitL 32 l with
        | nil => exact (splitL_ne _ _ hsp).elim
        | cons w ws => simp
      generalize splitL 32 l = ws at O hwl hw0 hlo2
      have hub : h1.next ≤ blkV u := by
        obtain ⟨_, ⟨h0, _⟩ | ⟨b, g, rfl, _, hb, _⟩⟩ := O
        · omega
        · exact hb
      have hp0 : ws[0]? = some (ws.headD []) := by cases ws with
        | nil => simp at hw0
        | cons w ws => rfl
      have hix := O.sl.ix0 hw0
      have hld := O.sl.ld1 (i := 0) hw0
      rw [List.getElem?_map, hp0, Option.map_some] at hld
      have hdone := step_num (ws := ws) hnum
      obtain ⟨sl1, sl2⟩ := step_len ws a
      have fin : ∀ (t' : List V) (hz : H) (gv' ov' : V), t'.length = 108 → nth t' 0 = .s s → nth t' 2 = .p h.next 0 → nth t' 4 = .p (h.next + 1) 0 → nth t' 5 = .p (h.next + 2) 0 → nth t' 6 = .i .i64 ((n + 1 : Nat) : Int) → L31 h hz rest (stepA ws a) gv' ov' → ∃ m, m < 40 - n ∧ Inv31 h s m t' hz :=
        fun t' hz gv' ov' z1 z2 z3 z4 z5 z6 L' => ⟨40 - (n + 1), by omega, n + 1, rest, _, gv', ov', rfl, by omega, z1, z2, z3, z4, z5, z6, L', hlo2, hdone, by omega, by omega, by omega⟩
      have bq : ∀ {w : List Nat}, ws.headD [] = w → binV .eql (.s (ws.headD [])) (.s w) = some (.b true) := fun e => by rw [bin_seq, decide_eq_true e]
      have bn : ∀ {w : List Nat}, ¬ ws.headD [] = w → binV .eql (.s (ws.headD [])) (.s w) = some (.b false) := fun e => by rw [bin_seq, decide_eq_false e]
      by_cases c1 : ws.headD [] = wAnnounce
      · have b1 : binV .eql (.s (ws.headD [])) (.s [97, 110, 110, 111, 117, 110, 99, 101]) = some (.b true) := bq c1
        have hst : stepA ws a = { a with id := atN ws 1, old := atN ws 2, passed := atN ws 3, off := atN ws 4, moved := atN ws 5 } := by unfold stepA; rw [if_pos c1]
        rw [hst] at fin
        obtain ⟨x1, s1, M1, k1, n1⟩ := L2.st 0 (atN ws 1) { a with id := atN ws 1 } (by omega) rfl rfl rfl
        have O1 := O.keep (h' := x1) (by omega) fun _ => k1 _ (by omega)
        obtain ⟨x2, s2, M2, k2, n2⟩ := M1.st 7 (atN ws 2) { a with id := atN ws 1, old := atN ws 2 } (by omega) rfl rfl rfl
        have O2 := O1.keep (h' := x2) (by omega) fun _ => k2 _ (by omega)
        obtain ⟨x3, s3, M3, k3, n3⟩ := M2.st 8 (atN ws 3) { a with id := atN ws 1, old := atN ws 2, passed := atN ws 3 } (by omega) rfl rfl rfl
        have O3 := O2.keep (h' := x3) (by omega) fun _ => k3 _ (by omega)
        obtain ⟨x4, s4, M4, k4, n4⟩ := M3.st 10 (atN ws 4) { a with id := atN ws 1, old := atN ws 2, passed := atN ws 3, off := atN ws 4 } (by omega) rfl rfl rfl
        have O4 := O3.keep (h' := x4) (by omega) fun _ => k4 _ (by omega)
        obtain ⟨x5, s5, M5, k5, n5⟩ := M4.st 11 (atN ws 5) { a with id := atN ws 1, old := atN ws 2, passed := atN ws 3, off := atN ws 4, moved := atN ws 5 } (by omega) rfl rfl rfl
        simp only [go_sem, ↓reduceIte, r8_7, r8_8, r8_9, r8_10, r8_11, r8_12, r8_13, r8_5, tl, t0, t2, t4, t5, t6, hix, hld, b1, w1, fn_at (n := 1) (k := 1) O.sl hwl rfl, fn_at (n := 2) (k := 2) O1.sl hwl rfl, fn_at (n := 3) (k := 3) O2.sl hwl rfl, fn_at (n := 4) (k := 4) O3.sl hwl rfl, fn_at (n := 5) (k := 5) O4.sl hwl rfl, s1, s2, s3, s4, s5]
        refine fin _ _ _ _ ?_ ?_ ?_ ?_ ?_ ?_ M5 <;> simp only [go_sem, ↓reduceIte, tl, t0, t2, t4, t5]
      have b1 : binV .eql (.s (ws.headD [])) (.s [97, 110, 110, 111, 117, 110, 99, 101]) = some (.b false) := bn c1
      by_cases c2 : ws.headD [] = wScene
      · have b2 : binV .eql (.s (ws.headD [])) (.s [115, 99, 101, 110, 101]) = some (.b true) := bq c2
        have hst : stepA ws a = { a with host := atN ws 1, lang := atN ws 2, lot := atN ws 3, known := atN ws 4, day := atN ws 5 } := by unfold stepA; rw [if_neg c1, if_pos c2]
        rw [hst] at fin
        have M := L2.set (a' := { a with host := atN ws 1, lang := atN ws 2, lot := atN ws 3, known := atN ws 4, day := atN ws 5 }) rfl rfl rfl
        have h5 : stV h2 5 (.p (h.next + 2) (0 + 1)) (.agg [I (atN ws 1), I (atN ws 2), I (atN ws 3), I (atN ws 4), I (atN ws 5)]) = some (h2.put (h.next + 2) (.cells (({ a with host := atN ws 1, lang := atN ws 2, lot := atN ws 3, known := atN ws 4, day := atN ws 5 } : Ann).cells gv ov))) := by
          have ga : h2.get (h.next + 2) = some (.cells [I a.id, I a.host, I a.lang, I a.lot, I a.known, I a.day, gv, I a.old, I a.passed, ov, I a.off, I a.moved]) := L2.ga
          simp [stV, V.cells, storeAt, ga, lay, I, V.oneCell, Ann.cells]
        simp only [go_sem, ↓reduceIte, r8_7, r8_8, r8_14, r8_15, tl, t0, t2, t4, t5, t6, hix, hld, b1, b2, w1, fn_at (n := 1) (k := 1) O.sl hwl rfl, fn_at (n := 2) (k := 2) O.sl hwl rfl, fn_at (n := 3) (k := 3) O.sl hwl rfl, fn_at (n := 4) (k := 4) O.sl hwl rfl, fn_at (n := 5) (k := 5) O.sl hwl rfl]
        rw [fill_5 (v0 := I (atN ws 1)) (v1 := I (atN ws 2)) (v2 := I (atN ws 3)) (v3 := I (atN ws 4)) (v4 := I (atN ws 5)) (by simp only [go_sem, ↓reduceIte, tl]; rfl) (by simp only [go_sem, ↓reduceIte, tl]; rfl) (by simp only [go_sem, ↓reduceIte, tl]; rfl) (by simp only [go_sem, ↓reduceIte, tl]; rfl) (by simp only [go_sem, ↓reduceIte, tl]; rfl) rfl rfl rfl rfl rfl]
        simp only [go_sem, ↓reduceIte, r8_5, tl, t0, t2, t4, t5, t6, h5, w1]
        refine fin _ _ _ _ ?_ ?_ ?_ ?_ ?_ ?_ M <;> simp only [go_sem, ↓reduceIte, tl, t0, t2, t4, t5]
      have b2 : binV .eql (.s (ws.headD [])) (.s [115, 99, 101, 110, 101]) = some (.b false) := bn c2
      by_cases c3 : ws.headD [] = wGuest
      · have b3 : binV .eql (.s (ws.headD [])) (.s [103, 117, 101, 115, 116]) = some (.b true) := bq c3
        have hst : stepA ws a = { a with guests := a.guests ++ [(atN ws 1, atN ws 2)] } := by unfold stepA; rw [if_neg c1, if_neg c2, if_pos c3]
        rw [hst] at fin
        have f2 : fill2 (.i .i64 (atN ws 1)) (.i .i64 (atN ws 2)) = some [I (atN ws 1), I (atN ws 2)] := rfl
        have fA : fillA 2 (.agg [I (atN ws 1), I (atN ws 2)]) = some [I (atN ws 1), I (atN ws 2)] := rfl
        have l6 : ldV h2 (.p (h.next + 2) (0 + 6)) = some gv := blk_ld (i := 6) L2.ga rfl
        obtain ⟨gv', hb, g2, hb2, g3, p1, p2, p3, p4, M⟩ := L2.guest (atN ws 1) (atN ws 2) (by omega)
        simp only [go_sem, ↓reduceIte, r8_7, r8_8, r8_14, r8_16, r8_17, tl, t0, t2, t4, t5, t6, hix, hld, b1, b2, b3, l6, f2, fA, fn_at (n := 1) (k := 1) O.sl.bare hwl rfl, fn_at (n := 2) (k := 2) O.sl.bare hwl rfl, old_bare, H.back_bare, H.back_new, List.cons_append, List.nil_append, p1, p2, p3, p4]
        refine ⟨rfl, ?_⟩
        simp only [go_sem, ↓reduceIte, r8_5, tl, t0, t2, t4, t5, t6, w1]
        refine fin _ _ _ _ ?_ ?_ ?_ ?_ ?_ ?_ M <;> simp only [go_sem, ↓reduceIte, tl, t0, t2, t4, t5]
      have b3 : binV .eql (.s (ws.headD [])) (.s [103, 117, 101, 115, 116]) = some (.b false) := bn c3
      by_cases c4 : ws.headD [] = wOrder
      · have b4 : binV .eql (.s (ws.headD [])) (.s [111, 114, 100, 101, 114]) = some (.b true) := bq c4
        have hst : stepA ws a = { a with order := a.order ++ ((ws.drop 1).take 30).map smallN } := by unfold stepA; rw [if_neg c1, if_neg c2, if_neg c3, if_pos c4]
        rw [hst] at fin
        have hov : ov = .sn ∨ blkV ov < h1.next := by
          obtain ⟨_, ⟨_, rfl⟩ | ⟨b, g, rfl, _, _, hb, _⟩⟩ := L1.od
          · exact .inl rfl
          · exact .inr hb
        have hlu := O.sl.len
        simp only [go_sem, ↓reduceIte, r8_7, r8_8, r8_14, r8_16, r8_18, r8_19, tl, t0, t2, t4, t5, t6, hix, hld, b1, b2, b3, b4]
        refine W_while (fun k t hz => ∃ (j : Nat) (ov' : V), k = ws.length - j ∧ 1 ≤ j ∧ j ≤ ws.length ∧ j ≤ 31 ∧ t.length = 108 ∧ nth t 0 = .s s ∧ nth t 2 = .p h.next 0 ∧ nth t 4 = .p (h.next + 1) 0 ∧ nth t 5 = .p (h.next + 2) 0 ∧ nth t 6 = .i .i64 ((n : Nat) : Int) ∧ nth t 7 = u ∧ nth t 8 = .i .i64 (j : Int) ∧ L31 h hz rest { a with order := a.order ++ ((ws.drop 1).take (j - 1)).map smallN } gv ov' ∧ Own h1 1 hz u ws.length (ws.map V.s) ∧ (ov' = .sn ∨ blkV u ≠ blkV ov')) ?_ (ws.length - 1) ?_
        · clear t6 t5 t4 t2 t0 tl
          rintro k t hz ⟨j, ov', rfl, hj1, hj2, hj3, tl, t0, t2, t4, t5, t6, t7, t8, M, OO, hbo⟩
          unfold b8_0
          by_cases hjj : j < ws.length ∧ j ≤ 30
          · obtain ⟨ja, jb⟩ := hjj
            have hI : (j : Int) < (ws.length : Int) := by omega
            have hI2 : (j : Int) ≤ 30 := by omega
            have w2 : IntKind.i64.wrap ((j : Int) + 1) = ((j + 1 : Nat) : Int) := wrap_succ (by omega)
            have hpj : ws[j]? = some ws[j] := List.getElem?_eq_getElem ja
            generalize ws[j] = w at hpj
            have hat : atN ws j = smallN w := by unfold atN; rw [hpj]
            have l9 : ldV hz (.p (h.next + 2) (0 + 9)) = some ov' := blk_ld (i := 9) M.ga rfl
            have f1 : fill1 (.i .i64 (smallN w)) = some [I (smallN w)] := rfl
            have hatw := fun S Sp => fn_at (S := S) (Sp := Sp) (n := j) (k := (j : Int)) OO.sl.bare hwl rfl
            rw [hat] at hatw
            obtain ⟨ov2, hb, g2, hb2, g3, p1, p2, p3, p4, M2, k2, n2, o2⟩ := M.ord (smallN w) (by
              have : (((ws.drop 1).take (j - 1)).map smallN).length ≤ 30 := by simp; omega
              show (a.order ++ ((ws.drop 1).take (j - 1)).map smallN).length ≤ 100000
              rw [List.length_append]
              omega)
            have hnxz := M.nx
            have O2 : Own h1 1 g3 u ws.length (ws.map V.s) := OO.keep n2 fun hb => k2 _ hb (by omega) (by
              rcases hbo with e | e
              · exact .inl e
              · exact .inr e)
            have hbu : blkV u < hz.next := by
              obtain ⟨_, ⟨h0, _⟩ | ⟨b, g, rfl, _, _, hb, _⟩⟩ := OO
              · omega
              · exact hb
            have hord : ({ a with order := a.order ++ ((ws.drop 1).take (j - 1)).map smallN ++ [smallN w] } : Ann) = { a with order := a.order ++ ((ws.drop 1).take (j + 1 - 1)).map smallN } := by
              have hd : (ws.drop 1)[j - 1]? = some w := by rw [List.getElem?_drop, show 1 + (j - 1) = j by omega]; exact hpj
              rw [show j + 1 - 1 = (j - 1) + 1 by omega, take_succ' hd, List.map_append, List.append_assoc]
              rfl
            have M3 : L31 h g3 rest { a with order := a.order ++ ((ws.drop 1).take (j + 1 - 1)).map smallN } gv ov2 := by
              rw [← hord]
              exact M2
            simp only [go_sem, ↓reduceIte, r8_20, r8_22, tl, t0, t2, t4, t5, t6, t7, t8, hlu, hI, hI2, l9, f1, hatw, old_bare, H.back_bare, H.back_new, List.cons_append, List.nil_append, p1, p2, p3, p4]
            refine ⟨rfl, ?_⟩
            simp only [go_sem, ↓reduceIte, r8_21, tl, t0, t2, t4, t5, t6, t7, t8, w2]
            exact ⟨ws.length - (j + 1), by omega, j + 1, ov2, rfl, by omega, by omega, by omega, rfl, M3, O2, .inr (by omega)⟩
          · have htk : ((ws.drop 1).take (j - 1)) = (ws.drop 1).take 30 := by
              by_cases q : j ≤ 30
              · rw [List.take_of_length_le (by simp; omega), List.take_of_length_le (by simp; omega)]
              · rw [show j - 1 = 30 by omega]
            rw [htk] at M
            by_cases hI : (j : Int) < (ws.length : Int)
            · have hI2 : ¬ (j : Int) ≤ 30 := by omega
              simp only [go_sem, ↓reduceIte, r8_20, r8_5, tl, t0, t2, t4, t5, t6, t7, t8, hlu, hI, hI2, w1]
              refine fin _ _ _ _ ?_ ?_ ?_ ?_ ?_ ?_ M <;> simp only [go_sem, ↓reduceIte, tl, t0, t2, t4, t5]
            · simp only [go_sem, ↓reduceIte, r8_20, r8_5, tl, t0, t2, t4, t5, t6, t7, t8, hlu, hI, w1]
              refine fin _ _ _ _ ?_ ?_ ?_ ?_ ?_ ?_ M <;> simp only [go_sem, ↓reduceIte, tl, t0, t2, t4, t5]
        · refine ⟨1, ov, ?_⟩
          simp only [go_sem, ↓reduceIte, tl, t0, t2, t4, t5, t6]
          refine ⟨by omega, by omega, by omega, ?_, O, ?_⟩
          · simpa using L2
          · rcases hov with e | e
            · exact .inl e
            · exact .inr (by omega)
      have b4 : binV .eql (.s (ws.headD [])) (.s [111, 114, 100, 101, 114]) = some (.b false) := bn c4
      have hst : stepA ws a = a := by unfold stepA; rw [if_neg c1, if_neg c2, if_neg c3, if_neg c4]
      rw [hst] at fin
      simp only [go_sem, ↓reduceIte, r8_7, r8_8, r8_14, r8_16, r8_18, r8_5, tl, t0, t2, t4, t5, t6, hix, hld, b1, b2, b3, b4, w1]
      refine fin _ _ _ _ ?_ ?_ ?_ ?_ ?_ ?_ L2 <;> simp only [go_sem, ↓reduceIte, tl, t0, t2, t4, t5]
    · have hE : loose (40 - n) s' a = a := by
        by_cases hs0 : s' = []
        · subst hs0
          cases 40 - n <;> simp [loose]
        · have : n = 40 := by
            by_cases q : n < 40
            · exact absurd ⟨hs0, q⟩ hgo
            · omega
          subst this
          rfl
      rw [hE] at hlo
      have hav : AnnV hh a gv ov := ⟨L.gs.sl, L.od.sl, by omega, by omega⟩
      have lna := blk_ldn L.ga (cells12 a gv ov)
      have law := loose_law s
      rw [hlo] at law
      obtain ⟨law1, law2⟩ := law
      have hnx := L.nx
      have key : ∀ t' : List V, t'.length = 108 → nth t' 0 = .s s → nth t' 2 = .p h.next 0 → nth t' 5 = .p (h.next + 2) 0 → WL tb1 r8_23 t' hh (Kseq tb1 (((C.ops r8_24).seq (C.cond (X.t 105) ((C.ops r8_25).seq C.ret) C.skip)).seq ((C.ops r8_26).seq C.ret)) (Kfn [.cell 2 (some 12), .tmp 3] (fun u h' => Ext h h' ∧ GetR h h' s u) noPan)) := by
        clear t6 t5 t4 t2 t0 tl
        intro t tl t0 t2 t5
        simp only [go_sem, ↓reduceIte, r8_23, tl, t5, lna]
        refine (fn_rPutAnnounce (ht.ext L.ext) hav (NumB.in hnum)).mono ?_
        rintro u h1 ⟨rfl, e1⟩
        have L1 := L.step e1
        have lna1 := blk_ldn L1.ga (cells12 a gv ov)
        have hI : ∀ n : Int, I n = .i .i64 n := fun _ => rfl
        have hf : ∀ t : List V, fill t zeroC [] = some zeroC := fun _ => rfl
        have st0 := blk_stn (k := 12) (d := zeroC) L1.gz rfl rfl (by decide)
        have stA := blk_stn (k := 12) (d := a.cells gv ov) L1.gz rfl rfl (annOne L.gs.one L.od.one)
        have bad : ¬ (a.good = true ∧ a.text = s) → Ext h (h1.put h.next (.cells zeroC)) ∧ GetR h (h1.put h.next (.cells zeroC)) s (.tup [.agg zeroC, .i .i64 4]) := fun q => ⟨L1.ext.put (Nat.le_refl _) _, .inr ⟨law2 q, rfl⟩⟩
        unfold putR
        cases hg : a.good
        · have hb := bad (by rw [hg]; simp)
          simp only [go_sem, ↓reduceIte, r8_24, r8_25, tl, t0, t2, t5, hI, hz, hf, st0]
          rw [res_cell2 (n := 2) (k := 12) (b := h.next) (cs := zeroC) (by simp only [go_sem, ↓reduceIte, tl, t2]) get_put_eq rfl]
          simp only [go_sem, ↓reduceIte, tl]
          exact hb
        · by_cases hts : a.text = s
          · have bne : binV .neq (.s a.text) (.s s) = some (.b false) := by rw [bin_sne]; simp [hts]
            simp only [go_sem, ↓reduceIte, r8_24, r8_26, tl, t0, t2, t5, hI, bne, lna1, stA]
            rw [res_cell2 (n := 2) (k := 12) (b := h.next) (cs := a.cells gv ov) (by simp only [go_sem, ↓reduceIte, tl, t2]) get_put_eq rfl]
            simp only [go_sem, ↓reduceIte, tl]
            exact ⟨L1.ext.put (Nat.le_refl _) _, .inl ⟨a, gv, ov, law1 ⟨hg, hts⟩, hg, rfl, L1.gs.putb (L1.gne (by omega)), L1.od.putb (L1.one (by omega))⟩⟩
          · have hb := bad (fun q => hts q.2)
            have bne : binV .neq (.s a.text) (.s s) = some (.b true) := by rw [bin_sne]; simp [hts]
            simp only [go_sem, ↓reduceIte, r8_24, r8_25, tl, t0, t2, t5, hI, bne, hz, hf, st0]
            rw [res_cell2 (n := 2) (k := 12) (b := h.next) (cs := zeroC) (by simp only [go_sem, ↓reduceIte, tl, t2]) get_put_eq rfl]
            simp only [go_sem, ↓reduceIte, tl]
            exact hb
      by_cases hs0 : s' = []
      · subst hs0
        have bne : binV .neq (.s []) (.s []) = some (.b false) := by rw [bin_sne]; simp
        simp only [go_sem, ↓reduceIte, r8_4, tl, t0, t2, t4, t5, t6, hgr, bne]
        refine key _ ?_ ?_ ?_ ?_ <;> simp only [go_sem, ↓reduceIte, tl, t0, t2, t4, t5]
      · have hn40 : n = 40 := by
          by_cases q : n < 40
          · exact absurd ⟨hs0, q⟩ hgo
          · omega
        have bne : binV .neq (.s s') (.s []) = some (.b true) := by rw [bin_sne]; simp [hs0]
        have hI : ¬ (n : Int) < 40 := by omega
        simp only [go_sem, ↓reduceIte, r8_4, tl, t0, t2, t4, t5, t6, hgr, bne, hI]
        refine key _ ?_ ?_ ?_ ?_ <;> simp only [go_sem, ↓reduceIte, tl, t0, t2, t4, t5]
  · have e0 : Ext h (((h.new (.cells zeroC)).new (.cells [.s s])).new (.cells zeroC)) := (((Ext.refl h).new _).new _).new _
    refine ⟨0, s, ann0, .sn, .sn, rfl, by omega, ?_, ?_, ?_, ?_, ?_, ?_, ⟨e0, Nat.le_refl _, ?_, ?_, get_new_eq rfl, .nil, .nil, .inl rfl, .inl rfl, .inl rfl⟩, rfl, num0, by simp [ann0], by simp [ann0], Nat.le_refl _⟩
    · simp only [go_sem, ↓reduceIte]
    · simp only [go_sem, ↓reduceIte]
    · simp only [go_sem, ↓reduceIte]
    · simp only [go_sem, ↓reduceIte]; rfl
    · simp only [go_sem, ↓reduceIte]; rfl
    · simp only [go_sem, ↓reduceIte]; done
    · rw [get_new_lt (by show h.next < h.next + 2; omega), get_new_lt (by show h.next < h.next + 1; omega), get_new_eq rfl]
    · rw [get_new_lt (by show h.next + 1 < h.next + 2; omega)]
      exact get_new_eq rfl
end
end Go.Air
set_option maxRecDepth 100000
namespace Go.Air
open Go.Air.Try
theorem take_eq_of {α : Type} {xs ys : List α} {i : Nat} {x : α} (h : xs.take i = ys.take i) (hx : xs[i]? = some x) (hy : ys[i]? = some x) : xs.take (i + 1) = ys.take (i + 1) := by
  rw [take_succ' hx, take_succ' hy, h]
theorem ne_of_at {α : Type} {xs ys : List α} {i : Nat} {x y : α} (hx : xs[i]? = some x) (hy : ys[i]? = some y) (hne : x ≠ y) : xs ≠ ys := by
  rintro rfl
  rw [hx] at hy
  exact hne (by simpa using hy)
theorem eq_agg2 {a b c d : Int} : eqV (.agg [.i .i64, .i .i64]) (.agg [I a, I b]) (.agg [I c, I d]) = some (decide ((a, b) = (c, d))) := by
  have h1 : fitL [.i .i64, .i .i64] [I a, I b] = true := rfl
  have h2 : fitL [.i .i64, .i .i64] [I c, I d] = true := rfl
  simp only [eqV, h1, h2, Bool.and_self, if_true]
  congr 1
  rw [Bool.eq_iff_iff]
  simp [cellsEq, scalarEq, I]
theorem eq_agg5 {p q : Scene} : eqV (.agg [.i .i64, .i .i64, .i .i64, .i .i64, .i .i64]) (.agg p.cells) (.agg q.cells) = some (decide (p = q)) := by
  have h1 : fitL [.i .i64, .i .i64, .i .i64, .i .i64, .i .i64] p.cells = true := rfl
  have h2 : fitL [.i .i64, .i .i64, .i .i64, .i .i64, .i .i64] q.cells = true := rfl
  simp only [eqV, h1, h2, Bool.and_self, if_true]
  congr 1
  rw [Bool.eq_iff_iff]
  obtain ⟨a, b, c, d, e⟩ := p
  obtain ⟨a', b', c', d', e'⟩ := q
  simp [cellsEq, scalarEq, I, Scene.cells]
theorem WL_guard2 {tbl : Tb} {d : Option Nat} {n : Nat} {w : Bool} {op : A} {l : List O} {t : List V} {h : H} {Q : Out → List V → H → Prop} : WL tbl (⟨d, some (n, w), op⟩ :: l) t h Q ↔ if wants (some (n, w)) t = true then (WA tbl op t h (Kput tbl d l Q t) (Kpn Q t)) else (WL tbl l (putD t d .undef) h Q) := WL_guard
section
variable {h : H}
theorem t97 : tb1 25 = some a25 := by kernel_rfl
theorem t32 : tb1 9 = some a9 := by kernel_rfl
theorem fn_sameInts {v w : V} {xs ys : List Int} (p : Ints h v xs) (q : Ints h w ys) (hl : xs.length ≤ 1000000) : WC tb1 (.fn 25 [] []) [v, w] h fun u h' => u = .b (decide (xs = ys)) ∧ h' = h := by
  refine (WC_in t97).2 ?_
  have lv := p.len
  have lw := q.len
  by_cases hxy : xs.length = ys.length
  · have hI : (xs.length : Int) = (ys.length : Int) := by omega
    have hI2 : decide ((xs.length : Int) = (ys.length : Int)) = true := decide_eq_true hI
    have hn : binV .neq (.i .i64 (xs.length : Int)) (.i .i64 (ys.length : Int)) = some (.b false) := by rw [bin_neq, hI2]; rfl
    simp only [go_sem, ↓reduceIte, r25_0, r25_1, r25_3, lv, lw, hI]
    rw [← hI]
    refine W_while (fun k t h' => ∃ i : Nat, k = xs.length - i ∧ i ≤ xs.length ∧ t.length = 26 ∧ nth t 0 = v ∧ nth t 1 = w ∧ nth t 5 = .i .i64 (i : Int) ∧ xs.take i = ys.take i ∧ h' = h) ?_ xs.length ?_
    · rintro k t h' ⟨i, rfl, hi, tl, t0, t1, t5, htk, rfl⟩
      unfold b25_0
      by_cases hin : i < xs.length
      · have hI : (i : Int) < (xs.length : Int) := by omega
        have hx : xs[i]? = some xs[i] := List.getElem?_eq_getElem hin
        have hy : ys[i]? = some (ys[i]'(by omega)) := List.getElem?_eq_getElem (by omega)
        generalize xs[i] = x at hx
        generalize ys[i]'(by omega) = y at hy
        have ix := p.ix hin
        have iy := q.ix (i := i) (by omega)
        have lx := p.ld hx
        have ly := q.ld hy
        have w1 : IntKind.i64.wrap ((i : Int) + 1) = ((i + 1 : Nat) : Int) := wrap_succ (by omega)
        by_cases hxy : x = y
        · subst hxy
          simp only [go_sem, ↓reduceIte, r25_4, r25_6, tl, t0, t1, t5, lv, hI, ix, iy, lx, ly, old_bare, H.back_bare, List.cons_append, List.nil_append]
          simp only [go_sem, ↓reduceIte, r25_5, tl, t0, t1, t5, w1]
          exact ⟨xs.length - (i + 1), by omega, i + 1, rfl, by omega, rfl, take_eq_of htk hx hy⟩
        · have hd : decide (xs = ys) = false := decide_eq_false (ne_of_at hx hy hxy)
          simp only [go_sem, ↓reduceIte, r25_4, r25_6, tl, t0, t1, t5, lv, hI, ix, iy, lx, ly, hxy, old_bare, H.back_bare, List.cons_append, List.nil_append]
          simp only [go_sem, ↓reduceIte, r25_7, tl, hd]
      · have hI : ¬ (i : Int) < (xs.length : Int) := by omega
        have hd : decide (xs = ys) = true := by
          rw [List.take_of_length_le (by omega), List.take_of_length_le (by omega)] at htk
          exact decide_eq_true htk
        simp only [go_sem, ↓reduceIte, r25_4, r25_8, tl, t0, t5, lv, hI, hd]
    · refine ⟨0, rfl, by omega, ?_, ?_, ?_, ?_, by simp, rfl⟩ <;> simp only [go_sem, ↓reduceIte]
  · have hI : ¬ (xs.length : Int) = (ys.length : Int) := by omega
    have hd : decide (xs = ys) = false := decide_eq_false fun e => hxy (by rw [e])
    simp only [go_sem, ↓reduceIte, r25_0, r25_1, r25_2, lv, lw, hI, hd]
theorem scene_of {a b : Ann} (h : a.scene = b.scene) : a.host = b.host ∧ a.lang = b.lang ∧ a.lot = b.lot ∧ a.known = b.known ∧ a.day = b.day := by
  unfold Ann.scene at h
  simpa using h
theorem fn_same {a b : Ann} {gv ov gw ow : V} (p : AnnV h a gv ov) (q : AnnV h b gw ow) : WC tb1 (.fn 9 [] []) [.agg (a.cells gv ov), .agg (b.cells gw ow)] h fun u h' => u = .b (decide (a = b)) ∧ Ext h h' := by
  refine (WC_in t32).2 ?_
  have e2 : Ext h ((h.new (.cells (a.cells gv ov))).new (.cells (b.cells gw ow))) := ((Ext.refl h).new _).new _
  have ga : ((h.new (.cells (a.cells gv ov))).new (.cells (b.cells gw ow))).get h.next = some (.cells (a.cells gv ov)) := by rw [get_new_lt (by show h.next < h.next + 1; omega), get_new_eq rfl]
  have gb : ((h.new (.cells (a.cells gv ov))).new (.cells (b.cells gw ow))).get (h.next + 1) = some (.cells (b.cells gw ow)) := get_new_eq rfl
  have hc : (V.agg (a.cells gv ov)).cells = a.cells gv ov := rfl
  have hd : (V.agg (b.cells gw ow)).cells = b.cells gw ow := rfl
  have n1 : (h.new (.cells (a.cells gv ov))).next = h.next + 1 := rfl
  simp only [go_sem, ↓WL_guard2, ↓reduceIte, r9_0, hc, hd, n1]
  generalize (h.new (.cells (a.cells gv ov))).new (.cells (b.cells gw ow)) = hh at e2 ga gb
  obtain ⟨a0, a7, a8, a10, a11, a6, a9, a1⟩ := annL ga
  obtain ⟨b0, b7, b8, b10, b11, b6, b9, b1⟩ := annL gb
  have p2 := p.ext e2
  have q2 := q.ext e2
  have hgl := p.gl
  have la := Sl.len p2.gs
  have lb := Sl.len q2.gs
  by_cases c0 : a.id = b.id
  · by_cases c1 : a.scene = b.scene
    · have hsc : eqV (.agg [.i .i64, .i .i64, .i .i64, .i .i64, .i .i64]) (.agg a.scene.cells) (.agg b.scene.cells) = some true := by rw [eq_agg5, decide_eq_true c1]
      by_cases c2 : a.old = b.old
      · by_cases c3 : a.passed = b.passed
        · by_cases c4 : a.off = b.off
          · by_cases c5 : a.moved = b.moved
            · by_cases c6 : a.guests.length = b.guests.length
              · have c6I : (a.guests.length : Int) = (b.guests.length : Int) := by omega
                simp only [go_sem, ↓WL_guard2, ↓reduceIte, r9_1, r9_3, a0, b0, a7, b7, a8, b8, a10, b10, a11, b11, a6, b6, a1, b1, la, lb, hsc, c0, c2, c3, c4, c5, c6I]
                refine W_while (fun k t hz => ∃ i : Nat, k = a.guests.length - i ∧ i ≤ a.guests.length ∧ t.length = 78 ∧ nth t 2 = .p h.next 0 ∧ nth t 3 = .p (h.next + 1) 0 ∧ nth t 5 = .i .i64 (i : Int) ∧ a.guests.take i = b.guests.take i ∧ hz = hh) ?_ a.guests.length ?_
                · rintro k t hz ⟨i, rfl, hi, tl, t2, t3, t5, htk, rfl⟩
                  unfold b9_0
                  by_cases hin : i < a.guests.length
                  · have hI : (i : Int) < (a.guests.length : Int) := by omega
                    have hx : a.guests[i]? = some a.guests[i] := List.getElem?_eq_getElem hin
                    have hy : b.guests[i]? = some (b.guests[i]'(by omega)) := List.getElem?_eq_getElem (by omega)
                    generalize a.guests[i] = x at hx
                    generalize b.guests[i]'(by omega) = y at hy
                    have ix := Sl.ix p2.gs hin
                    have iy := Sl.ix q2.gs (i := i) (by omega)
                    have lx := Sl.ldn p2.gs hin
                    have ly := Sl.ldn q2.gs (i := i) (by omega)
                    rw [cells2_take hx] at lx
                    rw [cells2_take hy] at ly
                    have w1 : IntKind.i64.wrap ((i : Int) + 1) = ((i + 1 : Nat) : Int) := wrap_succ (by omega)
                    by_cases hxy : x = y
                    · have hq : eqV (.agg [.i .i64, .i .i64]) (.agg [I x.1, I x.2]) (.agg [I y.1, I y.2]) = some true := by rw [eq_agg2, decide_eq_true hxy]
                      simp only [go_sem, ↓WL_guard2, ↓reduceIte, r9_4, r9_6, tl, t2, t3, t5, a6, b6, la, hI, ix, iy, lx, ly, hq, old_bare, H.back_bare, List.cons_append, List.nil_append]
                      simp only [go_sem, ↓WL_guard2, ↓reduceIte, r9_5, tl, t2, t3, t5, w1]
                      subst hxy
                      exact ⟨a.guests.length - (i + 1), by omega, i + 1, rfl, by omega, rfl, take_eq_of htk hx hy⟩
                    · have hq : eqV (.agg [.i .i64, .i .i64]) (.agg [I x.1, I x.2]) (.agg [I y.1, I y.2]) = some false := by rw [eq_agg2, decide_eq_false hxy]
                      have hno : decide (a = b) = false := decide_eq_false fun e => ne_of_at hx hy hxy (congrArg Ann.guests e)
                      simp only [go_sem, ↓WL_guard2, ↓reduceIte, r9_4, r9_6, tl, t2, t3, t5, a6, b6, la, hI, ix, iy, lx, ly, hq, old_bare, H.back_bare, List.cons_append, List.nil_append]
                      simp only [go_sem, ↓WL_guard2, ↓reduceIte, r9_7, tl, hno]
                      exact e2
                  · have hI : ¬ (i : Int) < (a.guests.length : Int) := by omega
                    have hge : a.guests = b.guests := by rwa [List.take_of_length_le (by omega), List.take_of_length_le (by omega)] at htk
                    simp only [go_sem, ↓WL_guard2, ↓reduceIte, r9_4, r9_8, tl, t2, t3, t5, a6, la, hI, a9, b9]
                    refine (fn_sameInts p2.ord q2.ord p.ol).mono ?_
                    rintro u h3 ⟨rfl, rfl⟩
                    have hfin : decide (a.order = b.order) = decide (a = b) := by
                      rw [Bool.eq_iff_iff, decide_eq_true_iff, decide_eq_true_iff]
                      constructor
                      · intro ho
                        obtain ⟨s1, s2, s3, s4, s5⟩ := scene_of c1
                        obtain ⟨x1, x2, x3, x4, x5, x6, x7, x8, x9, x10, x11, x12⟩ := a
                        obtain ⟨y1, y2, y3, y4, y5, y6, y7, y8, y9, y10, y11, y12⟩ := b
                        simp only at c0 c2 c3 c4 c5 s1 s2 s3 s4 s5 hge ho
                        subst c0 c2 c3 c4 c5 s1 s2 s3 s4 s5 hge ho
                        rfl
                      · exact fun e => congrArg Ann.order e
                    simp only [go_sem, ↓WL_guard2, ↓reduceIte, tl, hfin]
                    exact e2
                · refine ⟨0, rfl, by omega, ?_, ?_, ?_, ?_, by simp, rfl⟩ <;> simp only [go_sem, ↓reduceIte]
              · have c6I : ¬ (a.guests.length : Int) = (b.guests.length : Int) := by omega
                have hno : decide (a = b) = false := decide_eq_false fun e => c6 (by rw [e])
                simp only [go_sem, ↓WL_guard2, ↓reduceIte, r9_1, r9_2, a0, b0, a7, b7, a8, b8, a10, b10, a11, b11, a6, b6, a1, b1, la, lb, hsc, c0, c2, c3, c4, c5, c6I, hno]
                exact e2
            · have hno : decide (a = b) = false := decide_eq_false fun e => c5 (congrArg Ann.moved e)
              simp only [go_sem, ↓WL_guard2, ↓reduceIte, r9_1, r9_2, a0, b0, a7, b7, a8, b8, a10, b10, a11, b11, a1, b1, hsc, c0, c2, c3, c4, c5, hno]
              exact e2
          · have hno : decide (a = b) = false := decide_eq_false fun e => c4 (congrArg Ann.off e)
            simp only [go_sem, ↓WL_guard2, ↓reduceIte, r9_1, r9_2, a0, b0, a7, b7, a8, b8, a10, b10, a1, b1, hsc, c0, c2, c3, c4, hno]
            exact e2
        · have hno : decide (a = b) = false := decide_eq_false fun e => c3 (congrArg Ann.passed e)
          simp only [go_sem, ↓WL_guard2, ↓reduceIte, r9_1, r9_2, a0, b0, a7, b7, a8, b8, a1, b1, hsc, c0, c2, c3, hno]
          exact e2
      · have hno : decide (a = b) = false := decide_eq_false fun e => c2 (congrArg Ann.old e)
        simp only [go_sem, ↓WL_guard2, ↓reduceIte, r9_1, r9_2, a0, b0, a7, b7, a1, b1, hsc, c0, c2, hno]
        exact e2
    · have hno : decide (a = b) = false := decide_eq_false fun e => c1 (by rw [e])
      have hsc : eqV (.agg [.i .i64, .i .i64, .i .i64, .i .i64, .i .i64]) (.agg a.scene.cells) (.agg b.scene.cells) = some false := by rw [eq_agg5, decide_eq_false c1]
      simp only [go_sem, ↓WL_guard2, ↓reduceIte, r9_1, r9_2, a0, b0, a1, b1, hsc, c0, hno]
      exact e2
  · have hno : decide (a = b) = false := decide_eq_false fun e => c0 (congrArg Ann.id e)
    simp only [go_sem, ↓WL_guard2, ↓reduceIte, r9_1, r9_2, a0, b0, c0, hno]
    exact e2
end
end Go.Air
