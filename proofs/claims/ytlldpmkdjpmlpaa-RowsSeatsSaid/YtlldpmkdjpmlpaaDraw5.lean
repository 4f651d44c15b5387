/-
  Open orders: the whole; and the soundness of Air's evaluator without a hypothesis left but the functions' mirrors.
-/
import Derived.Test.YtlldpmkdjpmlpaaDraw4
set_option linter.unusedSectionVars false
set_option linter.unusedVariables false
set_option linter.unusedSimpArgs false
namespace Go.Air
section
open Classical
variable {P : Program} {call : V → List V → H → RO} {N : Nat} {o : Nat → O} {ft : Nat → Foot} {T : Nat → List V} {S : Nat → H} {pr : Nat → Nat → Prop}
variable {D : Nat → Prop} {mk : Nat} {R0 R : Emb} {w0 w : World} {a : Act}

theorem list_nth_ext : ∀ {a b : List V}, a.length = b.length → (∀ x, nth a x = nth b x) → a = b
  | [], [], _, _ => rfl
  | [], _ :: _, h, _ => by simp at h
  | _ :: _, [], h, _ => by simp at h
  | x :: a, y :: b, h, hx => by
    have h0 : x = y := hx 0
    rw [h0, list_nth_ext (by simpa using h) fun n => hx (n + 1)]

theorem Run.logs (hr : Run N o ft T S call pr) : ∀ (n : Nat), n ≤ N → ∃ L, (S n).log = L ++ (S 0).log ∧ ∀ b, b ∈ L ↔ ∃ j, j < n ∧ b ∈ (ft j).wr
  | 0, _ => ⟨[], rfl, fun b => by simp⟩
  | n + 1, hn => by
    obtain ⟨L, h1, h2⟩ := hr.logs n (by omega)
    refine ⟨(ft n).wr ++ L, by rw [(hr.at' n (by omega)).log, h1, List.append_assoc], fun b => ?_⟩
    rw [List.mem_append, h2 b]
    constructor
    · rintro (h | ⟨j, hj, h⟩)
      · exact ⟨n, by omega, h⟩
      · exact ⟨j, by omega, h⟩
    · rintro ⟨j, hj, h⟩
      rcases Nat.eq_or_lt_of_le (Nat.le_of_lt_succ hj) with rfl | hj
      · exact .inl h
      · exact .inr ⟨j, hj, h⟩

theorem Run.kept (hr : Run N o ft T S call pr) {b : Nat} (hb : b < (S 0).next) : ∀ (n : Nat), n ≤ N → (∀ j, j < n → b ∉ (ft j).wr) → (S n).get b = (S 0).get b
  | 0, _, _ => rfl
  | n + 1, hn, h => by
    rw [(hr.at' n (by omega)).same b (Nat.lt_of_lt_of_le hb (hr.nx n 0 (by omega) (by omega))) (h n (by omega))]
    exact hr.kept hb n (by omega) fun j hj => h j (by omega)
theorem Run.lived (hr : Run N o ft T S call pr) {b : Nat} (hb : b < (S 0).next) : ∀ (n : Nat), n ≤ N → (∃ y, (S n).get b = some y) → ∃ y, (S 0).get b = some y
  | 0, _, h => h
  | n + 1, hn, ⟨y, hy⟩ => by
    refine hr.lived hb n (by omega) ?_
    by_cases h : b ∈ (ft n).wr
    · exact ((hr.at' n (by omega)).had b h).2
    · rw [(hr.at' n (by omega)).same b (Nat.lt_of_lt_of_le hb (hr.nx n 0 (by omega) (by omega))) h] at hy
      exact ⟨y, hy⟩

theorem Inv.fin (hr : Run N o ft T S call pr) (hall : ∀ j, j < N → D j) (I : Inv P N o ft T S mk R0 w0 D R w a) : PostA P mk R0 (S 0) w0 (T N) (S N) a w := by
  obtain ⟨L, h1, h2⟩ := hr.logs N (Nat.le_refl _)
  obtain ⟨th, q1, q2, q3⟩ := I.tm
  have hth : th = T N := by
    refine list_nth_ext (by rw [q2, hr.len N (Nat.le_refl _)]) fun x => ?_
    rw [q3, vt_text hr N (Nat.le_refl _) fun j hj _ => hall j hj]
  have hv : (fun b => ver ft S D b N) = (S N).get := by
    funext b
    exact ver_text hr N (Nat.le_refl _) fun j hj _ => hall j hj
  refine ⟨R, L, ⟨I.le, h1, hr.nx N 0 (Nat.zero_le _) (Nat.le_refl _), I.size, ?_, ?_, ?_, ?_, I.io⟩, hv ▸ I.sim, hth ▸ q1, I.marks⟩
  · intro b c sz hb
    rcases I.new b c sz hb with h | ⟨p1, p2, p3 | ⟨b0, s0, p3, p4⟩⟩
    · exact .inl h
    · exact .inr ⟨p1, p2, .inl p3⟩
    · exact .inr ⟨p1, p2, .inr ⟨b0, s0, p3, (h2 b0).2 p4⟩⟩
  · intro b hb hl
    exact hr.kept hb N (Nat.le_refl _) fun j hj hm => hl ((h2 b).2 ⟨j, hj, hm⟩)
  · intro c hc hno
    exact I.frame c hc fun b sz hb hm => hno b sz hb ((h2 b).2 hm)
  · intro b hb
    obtain ⟨j, hj, hm⟩ := (h2 b).1 hb
    obtain ⟨⟨c, sz⟩, hy⟩ := I.own j (hall j hj) b hm
    rcases I.new b c sz hy with h | ⟨p1, p2, _⟩
    · exact .inr ⟨⟨_, h⟩, fun hlt => hr.lived hlt j (by omega) ((hr.at' j hj).had b hm).2⟩
    · exact .inl ⟨p1, p2⟩

theorem apart_mem {f g : Foot} (h : apart f g = true) : Mem f g ∧ Mem g f := by
  simp only [apart, Bool.and_eq_true, List.all_eq_true, Bool.not_eq_true', List.contains_eq_mem, decide_eq_false_iff_not] at h
  obtain ⟨⟨h1, h2⟩, h3⟩ := h
  constructor
  · intro b hb
    refine ⟨fun r hr => ?_, fun hr => ?_, h3 b hb⟩
    · rw [hr] at h1
      simp only [List.all_eq_true, Bool.not_eq_true', decide_eq_false_iff_not] at h1
      exact h1 b hb
    · rw [hr] at h1
      simp only [List.isEmpty_iff] at h1
      rw [h1] at hb; simp at hb
  · intro b hb
    refine ⟨fun r hr => ?_, fun hr => ?_, fun hb' => h3 b hb' hb⟩
    · rw [hr] at h2
      simp only [List.all_eq_true, Bool.not_eq_true', decide_eq_false_iff_not] at h2
      exact h2 b hb
    · rw [hr] at h2
      simp only [List.isEmpty_iff] at h2
      rw [h2] at hb; simp at hb

theorem draw_snd (hmix : P.follows .mixedOrders = true) (call : V → List V → H → RO) (hc : CallSnd P call) (hk : ∀ f args h v h', call f args h = .ok v h' → Keep h h') : DrawSnd P call := by
  intro ops l crit t h t' h' f R w a m n ro Q order hok hdr hrun hcrit hs hfr hw ht hm hQ
  obtain ⟨fs, hfs, hch⟩ := chain_of hk l t h [] t' h' f hrun
  simp only [List.nil_append] at hfs
  subst hfs
  obtain ⟨hlen, T, S, e1, e2, e3, e4, hat⟩ := hch.states
  obtain ⟨hol, hoget⟩ := okOps_get hok
  have hN : ops.size = l.length := by simpa using hol
  let o : Nat → O := fun i => l.getD i default
  let ft : Nat → Foot := fun i => f.getD i ⟨none, []⟩
  have ho : ∀ i, i < l.length → l[i]? = some (o i) := fun i hi => by simp [o, List.getD_eq_getElem?_getD, hi]
  have hf : ∀ i, i < l.length → f[i]? = some (ft i) := fun i hi => by
    have : i < f.length := by omega
    simp [ft, List.getD_eq_getElem?_getD, this]
  simp only [okDraw, Bool.and_eq_true] at hdr
  obtain ⟨hed, hpairs⟩ := hdr
  have hat' : ∀ i, i < l.length → At call (o i) (T i) (S i) (T (i + 1)) (S (i + 1)) (ft i) := fun i hi => hat i _ _ (ho i hi) (hf i hi)
  have hr : Run l.length o ft T S call (Prec ops) := by
    refine ⟨hat', ?_, by rw [e2]; exact hw⟩
    intro i j hij hj hnp
    simp only [okPairs, List.all_eq_true, List.mem_range] at hpairs
    have hp := hpairs j hj i hij
    rw [Bool.or_eq_true] at hp
    have hp := hp.resolve_left fun hb => hnp (bits_prec hb)
    rw [ho i (by omega), ho j hj] at hp
    simp only [free, Bool.and_eq_true, Bool.not_eq_true', Bool.or_eq_true] at hp
    obtain ⟨⟨hd1, hd2⟩, hmem⟩ := hp
    have hmm : Mem (ft i) (ft j) ∧ Mem (ft j) (ft i) := by
      rcases hmem with hseen | hcls
      · rw [List.any_eq_true] at hseen
        obtain ⟨⟨p, q⟩, hpq, hpe⟩ := hseen
        simp only [Bool.and_eq_true, Nat.beq_eq] at hpe
        obtain ⟨rfl, rfl⟩ := hpe
        simp only [critOk, List.all_eq_true] at hcrit
        have := hcrit (p, q) hpq
        simp only [hf p (by omega), hf q hj] at this
        exact apart_mem this
      · have idle : ∀ x y, x < l.length → cls (o x).op = .idle → Mem (ft x) (ft y) ∧ Mem (ft y) (ft x) := by
          intro x y hx hcl
          have := (hat' x hx).idle hcl
          rw [this]
          refine ⟨fun b hb => by simp at hb, fun b hb => ⟨fun r hr => ?_, by simp, by simp⟩⟩
          simp at hr
          subst hr
          simp
        cases hci : cls (o i).op with
        | idle => exact idle i j (by omega) hci
        | reads =>
          cases hcj : cls (o j).op with
          | idle => exact (idle j i hj hcj).symm
          | reads =>
            obtain ⟨w1, _⟩ := (hat' i (by omega)).rds (by rw [hci]; simp)
            obtain ⟨w2, _⟩ := (hat' j hj).rds (by rw [hcj]; simp)
            exact ⟨fun b hb => by rw [w1] at hb; simp at hb, fun b hb => by rw [w2] at hb; simp at hb⟩
          | writes => rw [hci, hcj] at hcls; simp at hcls
        | writes =>
          cases hcj : cls (o j).op with
          | idle => exact (idle j i hj hcj).symm
          | reads => rw [hci, hcj] at hcls; simp at hcls
          | writes => rw [hci, hcj] at hcls; simp at hcls
    refine ⟨fun d hd => ?_, fun d hd => ?_, hmm.1, hmm.2⟩
    · rw [hd] at hd1
      simp only [touches, List.contains_eq_mem, List.mem_append, decide_eq_false_iff_not, not_or] at hd1
      refine ⟨hd1.1, fun he => ?_⟩
      rw [he] at hd1
      simp at hd1
    · rw [hd] at hd2
      simpa [touches] using hd2
  have hsch : Region.schedule (P.follows .mixedOrders) ops order = Region.linearise .any ops order := by simp [Region.schedule, hmix]
  rw [hsch]
  unfold Region.linearise
  have I : Inv P l.length o ft T S m R w (fun _ => False) R w a := by
    have hv : ∀ (D : Nat → Prop) b n, (∀ j, ¬ D j) → ver ft S D b n = (S 0).get b := by
      intro D b n hD
      induction n with
      | zero => rfl
      | succ n ih => rw [ver, if_neg (fun h => hD n h.1), ih]
    have ht' : ∀ (D : Nat → Prop) x n, (∀ j, ¬ D j) → vt o T D x n = nth (T 0) x := by
      intro D x n hD
      induction n with
      | zero => rfl
      | succ n ih => rw [vt, if_neg (fun h => hD n h.1), ih]
    refine ⟨fun _ h => h.elim, ⟨t, ht, by rw [e1], fun x => by rw [ht' _ x _ (fun _ h => h), e1]⟩, ?_, ?_, fun _ h => h.elim, Emb.le_refl R, Nat.le_refl _, fun _ _ _ h => .inl h, fun _ _ _ => rfl, hm, .refl w⟩
    · have : (fun b => ver ft S (fun _ => False) b l.length) = h.get := by
        funext b
        rw [hv _ b _ (fun _ h => h), e2]
      rw [this]; exact hs
    · intro b y hb
      rcases Nat.lt_or_ge b (S 0).next with h1 | h1
      · exact .inl h1
      · rcases Nat.lt_or_ge b (S l.length).next with h2 | h2
        · rw [hfr b (by rw [← e2]; exact h1) (by rw [← e4]; exact h2)] at hb; cases hb
        · exact .inr (.inl h2)
  refine order_wp hc hr hN ?_ ?_ ?_ ops.size order _ (fun _ => False) R w a (by simp [hN]) ?_ ?_ (fun _ _ h => h.elim) I
  · intro i x hx
    obtain ⟨y, h1, h2⟩ := hoget i x (by simpa using hx)
    have hi : i < l.length := (List.getElem?_eq_some_iff.1 h1).1
    rw [ho i hi] at h1
    cases h1
    exact h2
  · intro j x hx e he hb
    have := okEdges_lt ops.toList 0 hed j x (by simpa using hx) e he hb
    omega
  · intro D R' w' a' hall I'
    have := I'.fin hr hall
    rw [e2, e3, e4] at this
    exact hQ a' w' this
  · intro j hj
    have : (Array.replicate ops.size false).getD j true = false := by simp [Array.getD_eq_getD_getElem?, hN, hj]
    rw [this]
    simp
  · have h1 : (unl l.length (Array.replicate ops.size false)).length ≤ (List.range l.length).length := List.length_filter_le _ _
    simp at h1
    omega
end

/-- THE SOUNDNESS OF AIR. -/
theorem air_snd {P : Program} {tbl : Nat → Option FI} (hmix : P.follows .mixedOrders = true) (htbl : ∀ k fi, tbl k = some fi → FnOk P k fi) (k : Nat) : CallSnd P (callV tbl (E tbl k)) :=
  call_snd (snd htbl (fun call => draw_snd hmix call) k k (Nat.le_refl _)) (E_skips k) (E_keep k) htbl

/-- a call of a function by its number. -/
theorem air_fn {P : Program} {tbl : Nat → Option FI} (hmix : P.follows .mixedOrders = true) (htbl : ∀ k fi, tbl k = some fi → FnOk P k fi) {k g : Nat} {args : List V} {vs : List Value} {R : Emb} {h h' : H} {w : World} {v : V}
    (he : callV tbl (E tbl k) (.fn g [] []) args h = .ok v h') (hs : Sim P allB R h.get w) (hfr : Fresh R h h') (hw : WF h) (hv : concL R args = some vs) :
    (callFunc g vs.toArray).run P w = .ok (.enter g vs.toArray) w ∧ ∀ ro n, CallsIn (Wd ro) n P g vs.toArray w fun
      | .returned x, w'' => PostV P allB R h w v h' x w''
      | _, _ => False := by
  have := fn_snd (snd htbl (fun call => draw_snd hmix call) k k (Nat.le_refl _)) (E_skips k) htbl he hs hfr hw (concL_nil R) (concL_nil R) hv
  rw [show ([] : List Value).toArray ++ vs.toArray ++ ([] : List Value).toArray = vs.toArray by simp] at this
  exact this
end Go.Air
