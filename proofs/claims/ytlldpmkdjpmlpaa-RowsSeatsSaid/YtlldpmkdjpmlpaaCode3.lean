/-
  THE SOUNDNESS OF WHOLE CODE, its cases and the whole.
-/
import Derived.Test.YtlldpmkdjpmlpaaCode2
set_option linter.unusedSectionVars false
set_option linter.unusedVariables false
set_option linter.unusedSimpArgs false
namespace Go.Air

section
variable {P : Program} {tbl : Nat → Option FI} {R R1 R' : Emb} {h h1 h' : H} {w w1 w' : World} {t t' : List V} {a : Act} {v : V} {m : Nat}

theorem alloc_other {o : Obj} (hs : Sim P allB R h.get w) : Fwd R R h h w (w.alloc o) [] ∧ Sim P allB R h.get (w.alloc o) := by
  refine ⟨⟨R.le_refl, rfl, Nat.le_refl _, by simp, fun _ _ _ h => .inl h, fun _ _ _ => rfl, fun c hc _ => heap_push_lt hc, fun _ hb => by simp at hb, ⟨rfl, rfl, rfl⟩⟩, ⟨?_, hs.inj, ?_⟩⟩
  · intro b c sz x hF hb hx
    exact (hs.blk b c sz x hF hb hx).mono P R.le_refl (heap_push_lt (hs.lt b c sz hb))
  · intro b c sz hb
    have := hs.lt b c sz hb
    simp; omega

theorem new_loop {lp : Loop} {L : Go.Loop} (hs : Sim P allB R h.get w) (hf : R h.next = none) (h1 : L.state = stateOf lp.state) (h2 : L.pending = pendOf lp.pending) (h3 : concL R lp.tmps = some L.tmps.toList)
    (h4 : L.params.toList = lp.params) (h5 : okC P L.assign lp.asg = true) (h6 : okC P L.body lp.body = true) :
    Fwd R (R.add h.next (w.heap.size, 0)) h (h.new (.loop lp)) w (w.alloc (.loop L)) [] ∧ Sim P allB (R.add h.next (w.heap.size, 0)) (h.new (.loop lp)).get (w.alloc (.loop L)) :=
  new_step hs hf fun w' hw' => ⟨L, hw', h1, h2, concL_mono (Emb.le_add hf) _ _ h3, h4, h5, h6⟩

theorem pending_case {F : Fence} {n : Nat} {K : Act → World → Prop} {p : Option Out} {j : Option Code} (hj : j = pendOf p) (hK : K a w) :
    (match (generalizing := false) j with
    | none => Exit.normal = exitOf (p.getD .norm) ∧ K a w
    | some c => c.wpIn F n P (fun e a' w' => e = exitOf (p.getD .norm) ∧ K a' w') a w) := by
  subst hj
  cases p with
  | none => exact ⟨rfl, hK⟩
  | some o =>
    cases o with
    | norm => exact ⟨rfl, hK⟩
    | exit i => exact wpIn_exit ⟨rfl, hK⟩
    | ret => exact wpIn_ret ⟨rfl, hK⟩

/-- the end of a range over a function, from the record's entry on. -/
theorem range_snd {r : C → List V → H → RC} (hsnd : Snd P r) (hskip : Skips r) (hkeep : ∀ c t h o t' h', r c t h = .ok o t' h' → Keep h h') (htbl : ∀ k fi, tbl k = some fi → FnOk P k fi)
    {g : Operand} {f : X} {ps : Array Tmp} {qs : List Nat} {asg body : Code} {aasg abody : C} {n : Nat} {ro : Option Nat} {o : Out}
    (he : stepC tbl r (.rangeF f qs aasg abody) t h = .ok o t' h') (hgf : okX g f = true) (hps : ps.toList = qs) (hasg : okC P asg aasg = true) (hbody : okC P body abody = true)
    (hs : Sim P allB R h.get w) (hfr : Fresh R h h') (hw : WF h) (ht : concL R t = some a.tmps.toList) (hm : Marks m R w a.defers) (hmw : m ≤ w.heap.size) (har : Around R h ro) :
    (Code.rangeFunc g ps asg body).wpIn (Wd ro) n P (fun e a' w' => e = exitOf o ∧ PostA P m R h w t' h' a' w') a w := by
  simp only [stepC] at he
  split at he <;> try simp at he
  rename_i gf first caps hfe
  split at he <;> try simp at he
  rename_i vr hr hcall
  split at he <;> try simp at he
  rename_i lp hlp
  split at he <;> simp at he
  rename_i hbusy
  obtain ⟨rfl, rfl, rfl⟩ := he
  have hg := envOk_of ht g f hgf
  rw [hfe] at hg
  obtain ⟨f1, c1, hf1, hc1, hge⟩ := conc_fn hg
  have hfn : R h.next = none := hfr h.next (Nat.le_refl _) (by
    have := (callV_keep hkeep _ _ _ _ _ hcall).nx
    simp at this ⊢; omega)
  have hnr : h.next < hr.next := by
    have := (callV_keep hkeep _ _ _ _ _ hcall).nx
    simp at this; omega
  -- the record is laid: the world, the mark
  have lay : ∀ fn, ∃ (l : Nat) (mark : List Deferred) (w₁ : World), (Instr.enterLoop fn a.tmps ps asg body ro).run P w = .ok (l, mark) w₁ ∧
      Fwd R (R.add h.next (l, 0)) h (h.new (.loop ⟨.ready, none, t, qs, aasg, abody⟩)) w w₁ [] ∧ Sim P allB (R.add h.next (l, 0)) (h.new (.loop ⟨.ready, none, t, qs, aasg, abody⟩)).get w₁ ∧
      Marks m (R.add h.next (l, 0)) w₁ (mark ++ a.defers) := by
    intro fn
    cases ro with
    | none =>
      obtain ⟨f2, s2⟩ := alloc_other (o := .deferred (some [])) hs
      obtain ⟨f3, s3⟩ := new_loop (lp := ⟨.ready, none, t, qs, aasg, abody⟩) (L := { state := .ready, pending := none, fn, tmps := a.tmps, params := ps, assign := asg, body, defers := w.heap.size }) s2 hfn rfl rfl ht hps hasg hbody
      rw [World.size_alloc] at f3 s3
      refine ⟨w.heap.size + 1, _, _, run_enterLoop_outer fn a.tmps ps asg body, f2.trans f3, s3, ⟨⟨w.heap.size, rfl, hmw, by simp; omega, ?_, ?_, ?_⟩, hm.fwd (f2.trans f3)⟩⟩
      · rw [heap_push_lt (by simp)]; exact heap_push_eq
      · intro b sz hb
        simp only [Emb.add] at hb
        split at hb
        · simp at hb
        · have := hs.lt b _ sz hb
          omega
      · intro e he hee
        have : ∀ {ds : List Deferred}, Marks m R w ds → e ∈ ds → e.target = .collected w.heap.size → False := by
          intro ds
          induction ds with
          | nil => intro _ h1; simp at h1
          | cons d ds ih =>
            rintro ⟨⟨D, q1, q2, q3, _⟩, hrest⟩ hin hee
            rcases List.mem_cons.1 hin with rfl | hin
            · rw [q1] at hee
              simp at hee
              omega
            · exact ih hrest hin hee
        exact this hm he hee
    | some l₀ =>
      obtain ⟨b, sz, lp0, b1, b2, b3⟩ := har
      obtain ⟨L0, g1, _⟩ := loop_at hs b1 b3
      obtain ⟨f3, s3⟩ := new_loop (lp := ⟨.ready, none, t, qs, aasg, abody⟩) (L := { state := .ready, pending := none, fn, tmps := a.tmps, params := ps, assign := asg, body, defers := L0.defers }) hs hfn rfl rfl ht hps hasg hbody
      exact ⟨w.heap.size, [], _, run_enterLoop_inner g1 fn a.tmps ps asg body, f3, s3, hm.fwd f3⟩
  refine wpIn_rangeFunc fun fn _ => ?_
  obtain ⟨l, mark, w₁, e1, f1', s1, m1⟩ := lay fn
  have hfr1 : Fresh (R.add h.next (l, 0)) (h.new (.loop ⟨.ready, none, t, qs, aasg, abody⟩)) hr := (hfr.left (h1 := hr) (by simp)).right f1'
  have hyl : concL (R.add h.next (l, 0)) [.yld h.next] = some [.func (.yield l) #[] #[]] := by simp [concL, conc, Emb.add_self]
  obtain ⟨p1, p2⟩ := fn_snd hsnd hskip htbl hcall s1 hfr1 ((Keep.new h _).wf hw) (concL_mono f1'.le _ _ hf1) (concL_mono f1'.le _ _ hc1) hyl
  refine ⟨l, mark, w₁, { target := .fn (.func gf) c1.toArray, args := f1.toArray ++ #[.func (.yield l) #[] #[]] }, w₁, gf, f1.toArray ++ #[.func (.yield l) #[] #[]] ++ c1.toArray, w₁, e1, ?_, fun _ _ => trivial, ?_, fun hd => by simp [Wd, Fence.wide] at hd, ?_⟩
  · have : a.eval g = .func (.func gf) f1.toArray c1.toArray := hge
    simp only [resolve, rangeCall]
    rw [this]
    simp [Deferred.ofValue, Act.eval]
  · simpa [invoke] using p1
  · refine (p2 ro (n - 1)).mono ?_
    intro e w₃ hq
    cases e with
    | panicked _ => exact hq.elim
    | outgrown => exact hq.elim
    | returned x =>
      obtain ⟨R3, l3, f3, s3, _⟩ := hq
      have hb3 : R3 h.next = some (l, 0) := f3.le _ _ Emb.add_self
      obtain ⟨L, q1, q2, q3, q4, q5, q6, q7⟩ := loop_at s3 hb3 hlp
      have hnb : L.state ≠ .busy := by
        rw [q2]
        intro e
        apply hbusy
        revert e
        cases lp.state <;> simp [stateOf]
      obtain ⟨f4, s4⟩ := put_loop { lp with state := .over } { L with state := .exhausted } s3 hb3 hlp q1 rfl q3 q4 q5 q6 q7
      have fall := f1'.trans (f3.trans f4)
      have hpost : PostA P m R h w t (hr.put h.next (.loop { lp with state := .over })) { a with defers := mark ++ a.defers } (w₃.putObj l (.loop { L with state := .exhausted })) :=
        ⟨R3, _, fall, s4, concL_mono fall.le _ _ ht, (m1.fwd f3).fwd f4⟩
      exact ⟨_, _, run_endLoop q1 hnb, pending_case (F := Wd ro) (n := n) (K := fun a' w' => PostA P m R h w t (hr.put h.next (.loop { lp with state := .over })) a' w') q3 hpost⟩

theorem Marks.drew : ∀ {ds : List Deferred}, Marks m R w ds → Marks m R w.drew ds
  | [], _ => trivial
  | _ :: _, ⟨⟨D, h1, h2, h3, h4, h5, h6⟩, hs⟩ => ⟨⟨D, h1, h2, h3, h4, h5, h6⟩, hs.drew⟩

theorem okC_scope {c : Code} {ac : C} : okC P (.scope c) ac = okC P c ac := by cases ac <;> rfl

theorem E_skips : ∀ k, Skips (E tbl k)
  | 0, _, _, _, _, _, he => by cases he
  | k + 1, t, h, o, t', h', he => by simp only [E, stepC, RC.ok.injEq] at he; exact ⟨he.2.1.symm, he.2.2.symm⟩

theorem step_snd {k : Nat} (ih : ∀ j, j ≤ k → Snd P (E tbl j)) (htbl : ∀ k fi, tbl k = some fi → FnOk P k fi) (hdraw : ∀ call, CallSnd P call → (∀ f args h v h', call f args h = .ok v h' → Keep h h') → DrawSnd P call) :
    Snd P (stepC tbl (E tbl k)) := by
  have ihk := ih k (Nat.le_refl _)
  have hkeep := E_keep (tbl := tbl) k
  have hcs := call_snd ihk (E_skips k) hkeep htbl
  have hck := callV_keep (tbl := tbl) hkeep
  intro c
  induction c with
  | scope c ihc =>
    intro ac t h o t' h' R w a m n ro he hok hs hfr hw ht hm hmw har
    rw [okC_scope] at hok
    refine wpIn_scope_straight (wpIn_mono (ihc ac t h o t' h' R w a m n ro he hok hs hfr hw ht hm hmw har) ?_)
    rintro e a' w' ⟨rfl, hp⟩
    cases o <;> exact ⟨rfl, hp⟩
  | skip =>
    intro ac t h o t' h' R w a m n ro he hok hs hfr hw ht hm hmw har
    cases ac <;> try exact (Bool.false_ne_true hok).elim
    simp only [stepC, RC.ok.injEq] at he
    obtain ⟨rfl, rfl, rfl⟩ := he
    exact wpIn_skip ⟨rfl, .here hs ht hm⟩
  | label l =>
    intro ac t h o t' h' R w a m n ro he hok hs hfr hw ht hm hmw har
    cases ac <;> try exact (Bool.false_ne_true hok).elim
    simp only [stepC, RC.ok.injEq] at he
    obtain ⟨rfl, rfl, rfl⟩ := he
    exact wpIn_label ⟨rfl, .here hs ht hm⟩
  | region id ops dr =>
    intro ac t h o t' h' R w a m n ro he hok hs hfr hw ht hm hmw har
    cases dr with
    | false =>
      cases ac <;> try exact (Bool.false_ne_true hok).elim
      rename_i l
      have hok : okOps P ops ops.toList l = true := hok
      simp only [stepC] at he
      split at he <;> simp at he
      rename_i t1 h1 hrun
      obtain ⟨rfl, rfl, rfl⟩ := he
      refine wpIn_region ?_
      rw [List.range_eq_range']
      exact ops_wp hcs hck ops.toList l 0 t h R w a (fun j _ => by simp) hok hrun hs hfr hw ht hm (fun a' w' hp => ⟨rfl, hp⟩)
    | true =>
      cases ac <;> try exact (Bool.false_ne_true hok).elim
      rename_i l crit
      have hok : (okOps P ops ops.toList l && okDraw ops l crit) = true := hok
      rw [Bool.and_eq_true] at hok
      simp only [stepC] at he
      split at he <;> try simp at he
      rename_i t1 h1 f hrun
      split at he <;> simp at he
      rename_i hcrit
      obtain ⟨rfl, rfl, rfl⟩ := he
      refine wpIn_region_draw fun order => ?_
      have hs' : Sim P allB R h.get { w with drawn := w.drawn + 1 } := hs.drew
      refine hdraw _ hcs hck ops l crit t h t1 h1 f R { w with drawn := w.drawn + 1 } a m n ro _ order hok.1 hok.2 hrun hcrit hs' hfr hw ht ?_ (fun a' w' hp => ⟨rfl, ?_⟩)
      · exact hm.drew
      · obtain ⟨R', l', q1, q2⟩ := hp
        exact ⟨R', l', ⟨q1.le, q1.log, q1.nx, q1.size, q1.new, q1.same, q1.frame, q1.own, q1.io⟩, q2⟩
  | seq x y _ _ =>
    intro ac t h o t' h' R w a m n ro he hok hs hfr hw ht hm hmw har
    cases ac <;> try exact (Bool.false_ne_true hok).elim
    rename_i ax ay
    have hok : (okC P x ax && okC P y ay) = true := hok
    rw [Bool.and_eq_true] at hok
    simp only [stepC] at he
    split at he
    · rename_i t1 h1 hrun
      have k1 := hkeep _ _ _ _ _ _ hrun
      have k2 := hkeep _ _ _ _ _ _ he
      refine wpIn_seq (wpIn_mono (ihk x ax t h _ t1 h1 R w a m n ro hrun hok.1 hs (hfr.left k2.nx) hw ht hm hmw har) ?_)
      rintro e a1 w1 ⟨rfl, R1, l1, f1, s1, ht1, hm1⟩
      refine wpIn_mono (ihk y ay t1 h1 o t' h' R1 w1 a1 m n ro he hok.2 s1 (hfr.right f1) (k1.wf hw) ht1 hm1 (Nat.le_trans hmw f1.size) (har.fwd f1 k1)) ?_
      rintro e a' w' ⟨rfl, hp⟩
      exact ⟨rfl, hp.step f1⟩
    · rename_i hne
      refine wpIn_seq (wpIn_mono (ihk x ax t h o t' h' R w a m n ro he hok.1 hs hfr hw ht hm hmw har) ?_)
      rintro e a1 w1 ⟨rfl, hp⟩
      cases o with
      | norm => exact absurd he (hne t' h')
      | exit i => exact ⟨rfl, hp⟩
      | ret => exact ⟨rfl, hp⟩
  | cond x y z _ _ =>
    intro ac t h o t' h' R w a m n ro he hok hs hfr hw ht hm hmw har
    cases ac <;> try exact (Bool.false_ne_true hok).elim
    rename_i ax ay az
    have hok : (okX x ax && okC P y ay && okC P z az) = true := hok
    rw [Bool.and_eq_true, Bool.and_eq_true] at hok
    obtain ⟨⟨hx, hy⟩, hz⟩ := hok
    have hxe := envOk_of ht x ax hx
    simp only [stepC] at he
    split at he <;> try simp at he
    · rename_i hb
      rw [hb] at hxe
      refine wpIn_cond_true ?_ (ihk y ay t h o t' h' R w a m n ro he hy hs hfr hw ht hm hmw har)
      simpa [conc, eq_comm] using hxe
    · rename_i hb
      rw [hb] at hxe
      refine wpIn_cond_false ?_ (ihk z az t h o t' h' R w a m n ro he hz hs hfr hw ht hm hmw har)
      simpa [conc, eq_comm] using hxe
  | block i x _ =>
    intro ac t h o t' h' R w a m n ro he hok hs hfr hw ht hm hmw har
    cases ac <;> try exact (Bool.false_ne_true hok).elim
    rename_i j ax
    have hok1 : (Nat.beq i j && okC P x ax) = true := hok
    rw [Bool.and_eq_true, Nat.beq_eq] at hok1
    clear hok
    obtain ⟨hij, hok⟩ := hok1
    subst hij
    simp only [stepC] at he
    split at he
    · rename_i e t1 h1 hrun
      by_cases hei : e = i
      · subst hei
        simp at he
        obtain ⟨rfl, rfl, rfl⟩ := he
        refine wpIn_block (wpIn_mono (ihk x ax t h _ t1 h1 R w a m n ro hrun hok hs hfr hw ht hm hmw har) ?_)
        rintro e' a1 w1 ⟨rfl, hp⟩
        simp only [exitOf, Exit.inBlock, if_true]
        exact ⟨trivial, hp⟩
      · rw [if_neg (by simpa using hei)] at he
        simp at he
        obtain ⟨rfl, rfl, rfl⟩ := he
        refine wpIn_block (wpIn_mono (ihk x ax t h _ t1 h1 R w a m n ro hrun hok hs hfr hw ht hm hmw har) ?_)
        rintro e' a1 w1 ⟨rfl, hp⟩
        simp only [exitOf, Exit.inBlock, hei, if_false]
        exact ⟨trivial, hp⟩
    · rename_i hne
      refine wpIn_block (wpIn_mono (ihk x ax t h o t' h' R w a m n ro he hok hs hfr hw ht hm hmw har) ?_)
      rintro e a1 w1 ⟨rfl, hp⟩
      cases o with
      | exit e => exact absurd he (hne e t' h')
      | norm => exact ⟨rfl, hp⟩
      | ret => exact ⟨rfl, hp⟩
  | loop x _ =>
    intro ac t h o t' h' R w a m n ro he hok hs hfr hw ht hm hmw har
    cases ac <;> try exact (Bool.false_ne_true hok).elim
    rename_i ax
    have hok : okC P x ax = true := hok
    have he' : E tbl (k + 1) (.loop ax) t h = .ok o t' h' := he
    refine wpIn_loop_rel (fun j a1 w1 => j ≤ k + 1 ∧ ∃ t1 h1 R1 l1, E tbl j (.loop ax) t1 h1 = .ok o t' h' ∧ Fwd R R1 h h1 w w1 l1 ∧ Keep h h1 ∧ Sim P allB R1 h1.get w1 ∧
      concL R1 t1 = some a1.tmps.toList ∧ Marks m R1 w1 a1.defers) ⟨k + 1, Nat.le_refl _, t, h, R, [], he', .refl R h w, .refl h, hs, ht, hm⟩ ?_
    rintro j a1 w1 ⟨hj, t1, h1, R1, l1, he1, f1, k1, s1, ht1, hm1⟩
    cases j with
    | zero => simp [E] at he1
    | succ j =>
      have ihj := ih j (by omega)
      have hkj := E_keep (tbl := tbl) j
      simp only [E, stepC] at he1
      split at he1
      · rename_i t2 h2 hrun
        have k2 := hkj _ _ _ _ _ _ hrun
        have k3 := hkj _ _ _ _ _ _ he1
        refine wpIn_mono (ihj x ax t1 h1 _ t2 h2 R1 w1 a1 m n ro hrun hok s1 ((hfr.right f1).left k3.nx) (k1.wf hw) ht1 hm1 (Nat.le_trans hmw f1.size) (har.fwd f1 k1)) ?_
        rintro e a2 w2 ⟨rfl, R2, l2, f2, s2, ht2, hm2⟩
        exact ⟨j, by omega, by omega, t2, h2, R2, _, he1, f1.trans f2, k1.trans k2, s2, ht2, hm2⟩
      · rename_i hne
        refine wpIn_mono (ihj x ax t1 h1 o t' h' R1 w1 a1 m n ro he1 hok s1 (hfr.right f1) (k1.wf hw) ht1 hm1 (Nat.le_trans hmw f1.size) (har.fwd f1 k1)) ?_
        rintro e a2 w2 ⟨rfl, hp⟩
        cases o with
        | norm => exact absurd he1 (hne t' h')
        | exit i => exact ⟨rfl, hp.step f1⟩
        | ret => exact ⟨rfl, hp.step f1⟩
  | exit i =>
    intro ac t h o t' h' R w a m n ro he hok hs hfr hw ht hm hmw har
    cases ac <;> try exact (Bool.false_ne_true hok).elim
    rename_i j
    have hok : Nat.beq i j = true := hok
    rw [Nat.beq_eq] at hok
    subst hok
    simp only [stepC, RC.ok.injEq] at he
    obtain ⟨rfl, rfl, rfl⟩ := he
    exact wpIn_exit ⟨rfl, .here hs ht hm⟩
  | ret =>
    intro ac t h o t' h' R w a m n ro he hok hs hfr hw ht hm hmw har
    cases ac <;> try exact (Bool.false_ne_true hok).elim
    simp only [stepC, RC.ok.injEq] at he
    obtain ⟨rfl, rfl, rfl⟩ := he
    exact wpIn_ret ⟨rfl, .here hs ht hm⟩
  | rangeFunc g ps x y _ _ =>
    intro ac t h o t' h' R w a m n ro he hok hs hfr hw ht hm hmw har
    cases ac <;> try exact (Bool.false_ne_true hok).elim
    rename_i f qs ax ay
    have hok : (okX g f && decide (ps.toList = qs) && okC P x ax && okC P y ay) = true := hok
    simp only [Bool.and_eq_true, decide_eq_true_eq] at hok
    obtain ⟨⟨⟨h1, h2⟩, h3⟩, h4⟩ := hok
    exact range_snd ihk (E_skips k) hkeep htbl he h1 h2 h3 h4 hs hfr hw ht hm hmw har
  | _ =>
    intro ac t h o t' h' R w a m n ro he hok
    cases ac <;> exact (Bool.false_ne_true hok).elim

theorem snd (htbl : ∀ k fi, tbl k = some fi → FnOk P k fi) (hdraw : ∀ call, CallSnd P call → (∀ f args h v h', call f args h = .ok v h' → Keep h h') → DrawSnd P call) : ∀ k j, j ≤ k → Snd P (E tbl j)
  | _, 0, _ => fun c ac t h o t' h' R w a m n ro he => by simp [E] at he
  | 0, j + 1, hj => by omega
  | k + 1, j + 1, hj => step_snd (fun i hi => snd htbl hdraw k i (by omega)) htbl hdraw
end
end Go.Air
