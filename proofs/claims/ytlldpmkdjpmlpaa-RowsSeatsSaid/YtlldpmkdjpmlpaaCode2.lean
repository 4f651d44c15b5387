/-
  THE SOUNDNESS OF WHOLE CODE: what Air's evaluator answers, the kit's walk reaches. (Open orders are taken as a hypothesis here: Draw.)
-/
import Derived.Test.YtlldpmkdjpmlpaaCode1
set_option linter.unusedSectionVars false
set_option linter.unusedVariables false
set_option linter.unusedSimpArgs false
namespace Go.Air

def exitOf : Out → Exit
  | .norm => .normal
  | .exit i => .exit i
  | .ret => .ret

section
variable {P : Program} {tbl : Nat → Option FI} {R R1 R' : Emb} {h h1 h' : H} {w w1 w' : World} {t t' : List V} {a : Act} {v : V} {m : Nat}

def Snd (P : Program) (r : C → List V → H → RC) : Prop :=
  ∀ (c : Code) (ac : C) (t : List V) (h : H) (o : Out) (t' : List V) (h' : H) (R : Emb) (w : World) (a : Act) (m n : Nat) (ro : Option Nat),
    r ac t h = .ok o t' h' → okC P c ac = true → Sim P allB R h.get w → Fresh R h h' → WF h → concL R t = some a.tmps.toList → Marks m R w a.defers → m ≤ w.heap.size → Around R h ro →
    c.wpIn (Wd ro) n P (fun e a' w' => e = exitOf o ∧ PostA P m R h w t' h' a' w') a w

def DrawSnd (P : Program) (call : V → List V → H → RO) : Prop :=
  ∀ (ops : Array Oper) (l : List O) (crit : List (Nat × Nat)) (t : List V) (h : H) (t' : List V) (h' : H) (f : List Foot) (R : Emb) (w : World) (a : Act) (m n : Nat) (ro : Option Nat)
    (Q : Exit → Act → World → Prop) (order : Nat), okOps P ops ops.toList l = true → okDraw ops l crit = true → runDraw call l t h [] = .ok t' h' f → critOk f crit = true →
    Sim P allB R h.get w → Fresh R h h' → WF h → concL R t = some a.tmps.toList → Marks m R w a.defers → (∀ a' w', PostA P m R h w t' h' a' w' → Q .normal a' w') →
    wpOpsIn (Wd ro) n P ops Q (Region.schedule (P.follows .mixedOrders) ops order) a w

theorem concL_pad {l : List V} {vs : List Value} (hl : concL R l = some vs) (n : Nat) : concL R (pad l n) = some (vs.toArray ++ Array.replicate (n - vs.toArray.size) undef).toList := by
  have e := concL_length hl
  unfold pad
  rw [concL_append hl (concL_replicate (conc_undef R) _)]
  simp [e]

theorem okFI_inv {k : Nat} {fi : FI} (hok : okFI P k fi = true) : ∃ fn c, P.funcs[k]? = some fn ∧ fn.body = some c ∧ fn.ntmps = fi.ntmps ∧ (fn.name == "runtime.NumGoroutine") = false ∧ okRes P fn.results.toList fi.res = true ∧ okC P c fi.body = true := by
  unfold okFI at hok
  split at hok <;> try simp at hok
  rename_i fn hfn
  obtain ⟨⟨⟨h1, h2⟩, h3⟩, h4⟩ := hok
  split at h4 <;> try simp at h4
  rename_i c hc
  exact ⟨fn, c, hfn, hc, h1, by simpa using h2, h3, h4⟩

/-- what is known of a function that is not looked into: called without arguments it returns true, and what there was is as it was. -/
def TrueFn (P : Program) (g : Nat) : Prop := (∀ w : World, (callFunc g #[]).run P w = .ok (.enter g #[]) w) ∧ ∀ (w : World) (ro : Option Nat) (n : Nat), CallsIn (Wd ro) n P g #[] w fun
  | .returned x, w' => x = .bool true ∧ SameIO w w' ∧ w.heap.size ≤ w'.heap.size ∧ ∀ c, c < w.heap.size → w'.heap[c]? = w.heap[c]?
  | _, _ => False
def trueFI : FI := ⟨0, [.only (.b true)], .skip⟩
def FnOk (P : Program) (k : Nat) (fi : FI) : Prop := okFI P k fi = true ∨ fi = trueFI ∧ TrueFn P k
def Skips (r : C → List V → H → RC) : Prop := ∀ t h o t' h', r .skip t h = .ok o t' h' → t' = t ∧ h' = h

theorem true_snd {r : C → List V → H → RC} (hskip : Skips r) {g : Nat} {first caps args : List V} {f1 c1 vs : List Value} (hg : tbl g = some trueFI) (ht : TrueFn P g)
    (he : callV tbl r (.fn g first caps) args h = .ok v h') (hs : Sim P allB R h.get w) (hf : concL R first = some f1) (hcp : concL R caps = some c1) (hv : concL R args = some vs) :
    (callFunc g (f1.toArray ++ vs.toArray ++ c1.toArray)).run P w = .ok (.enter g (f1.toArray ++ vs.toArray ++ c1.toArray)) w ∧
    ∀ ro n, CallsIn (Wd ro) n P g (f1.toArray ++ vs.toArray ++ c1.toArray) w fun
      | .returned x, w'' => PostV P allB R h w v h' x w''
      | _, _ => False := by
  simp only [callV, hg] at he
  split at he <;> try simp only [reduceCtorEq] at he
  rename_i o t' h1 hrun
  obtain ⟨rfl, rfl⟩ := hskip _ _ _ _ _ hrun
  have key : pad (first ++ args ++ caps) 0 = [] ∧ v = .b true ∧ h' = h1 := by
    cases o <;> simp only [reduceCtorEq] at he <;> (
      split at he <;> simp only [RO.ok.injEq, reduceCtorEq] at he
      rename_i l hl
      simp only [trueFI, resultsOf, resultOf] at hl
      split at hl <;> try simp only [reduceCtorEq] at hl
      rename_i u hu
      split at hu <;> simp only [Option.some.injEq, reduceCtorEq] at hu
      rename_i hp
      subst hu
      simp only [Option.map_some, Option.some.injEq] at hl
      subst hl
      exact ⟨hp, he.1.symm, he.2.symm⟩)
  obtain ⟨hp, rfl, rfl⟩ := key
  simp only [pad, List.append_eq_nil_iff] at hp
  obtain ⟨⟨⟨rfl, rfl⟩, rfl⟩, _⟩ := hp
  simp only [concL, Option.some.injEq] at hf hcp hv
  subst hf hcp hv
  refine ⟨ht.1 w, fun ro n => (ht.2 w ro n).mono ?_⟩
  intro e w' q
  cases e with
  | returned x =>
    obtain ⟨rfl, qio, q1, q2⟩ := q
    refine ⟨R, [], ⟨R.le_refl, rfl, Nat.le_refl _, q1, fun _ _ _ hb => .inl hb, fun _ _ _ => rfl, fun c hc _ => q2 c hc, fun _ hb => by simp at hb, qio⟩, ⟨?_, hs.inj, ?_⟩, by simp [conc]⟩
    · intro b c sz x hF hb hx
      exact (hs.blk b c sz x hF hb hx).mono P R.le_refl (q2 c (hs.lt b c sz hb))
    · intro b c sz hb
      exact Nat.lt_of_lt_of_le (hs.lt b c sz hb) q1
  | _ => exact q.elim

/-- a call of a function by its value. -/
theorem fn_snd {r : C → List V → H → RC} (hsnd : Snd P r) (hskip : Skips r) (htbl : ∀ k fi, tbl k = some fi → FnOk P k fi) {g : Nat} {first caps args : List V} {f1 c1 vs : List Value}
    (he : callV tbl r (.fn g first caps) args h = .ok v h') (hs : Sim P allB R h.get w) (hfr : Fresh R h h') (hw : WF h) (hf : concL R first = some f1) (hcp : concL R caps = some c1) (hv : concL R args = some vs) :
    (callFunc g (f1.toArray ++ vs.toArray ++ c1.toArray)).run P w = .ok (.enter g (f1.toArray ++ vs.toArray ++ c1.toArray)) w ∧
    ∀ ro n, CallsIn (Wd ro) n P g (f1.toArray ++ vs.toArray ++ c1.toArray) w fun
      | .returned x, w'' => PostV P allB R h w v h' x w''
      | _, _ => False := by
  have he0 := he
  simp only [callV] at he
  split at he <;> try simp at he
  rename_i fi hfi
  rcases htbl g fi hfi with hfo | ⟨rfl, htr⟩
  case inr => exact true_snd hskip hfi htr he0 hs hf hcp hv
  clear he0
  obtain ⟨fn, c, q1, q2, q3, q4, q5, q6⟩ := okFI_inv hfo
  split at he <;> try simp at he
  rename_i o t' h1 hrun
  refine ⟨by simp [callFunc, q1, by simpa using q4, q2], fun ro n => ?_⟩
  have hall : concL R (first ++ args ++ caps) = some (f1 ++ vs ++ c1) := concL_append (concL_append hf hv) hcp
  have hpad := concL_pad hall fi.ntmps
  rw [List.append_assoc] at hpad
  have hcall : CallsIn Fence.wide n P g (f1.toArray ++ vs.toArray ++ c1.toArray) w fun
      | .returned x, w'' => PostV P allB R h w v h' x w''
      | _, _ => False := by
    refine callsIn_of_wp_marks q1 q2 trivial ?_
    have hres : o = .norm ∨ o = .ret := by
      cases o with
      | exit i => simp at he
      | norm => exact .inl rfl
      | ret => exact .inr rfl
    have hres2 : ∃ ls, resultsOf t' h1 fi.res = some ls ∧ v = packR ls ∧ h' = h1 := by
      rcases hres with rfl | rfl <;>
      · simp only at he
        split at he <;> simp at he
        rename_i ls hls
        exact ⟨ls, hls, he.1.symm, he.2.symm⟩
    obtain ⟨ls, hls, rfl, rfl⟩ := hres2
    have := hsnd c fi.body _ h o t' h' R w { tmps := f1.toArray ++ vs.toArray ++ c1.toArray ++ Array.replicate (fn.ntmps - (f1.toArray ++ vs.toArray ++ c1.toArray).size) undef, defers := [] } w.heap.size n none hrun q6 hs hfr hw
      (by rw [hpad, q3]; simp) trivial (Nat.le_refl _) trivial
    refine wpIn_mono this ?_
    rintro e a' w' ⟨rfl, R', l, f, hs', ht', hm'⟩
    rcases hres with rfl | rfl
    · exact leaves q5 ht' hls f hs' hm'
    · exact leaves q5 ht' hls f hs' hm'
  exact hcall

theorem updAll_conc : ∀ {ps : List Nat} {t : List V} {args : List V} {tmps : Array Value} {vs : List Value}, concL R t = some tmps.toList → concL R args = some vs →
    concL R (updAll t ps args) = some ((ps.zip vs).foldl (fun (tmps : Array Value) (x : Nat × Value) => tmps.setIfInBounds x.1 x.2) tmps).toList
  | [], t, args, tmps, vs, ht, _ => by simpa [updAll] using ht
  | p :: ps, t, [], tmps, vs, ht, hv => by
    simp [concL] at hv
    subst hv
    simpa [updAll] using ht
  | p :: ps, t, x :: args, tmps, vs, ht, hv => by
    obtain ⟨y, ys, h1, h2, rfl⟩ := concL_cons.1 hv
    simp only [updAll, List.zip_cons_cons, List.foldl_cons]
    refine updAll_conc ?_ h2
    rw [Array.toList_setIfInBounds]
    exact conc_upd p ht h1

theorem loop_at {b c sz : Nat} {lp : Loop} (hs : Sim P allB R h.get w) (hb : R b = some (c, sz)) (hg : h.get b = some (.loop lp)) :
    ∃ L : Go.Loop, w.heap[c]? = some (.loop L) ∧ L.state = stateOf lp.state ∧ L.pending = pendOf lp.pending ∧ concL R lp.tmps = some L.tmps.toList ∧
      L.params.toList = lp.params ∧ okC P L.assign lp.asg = true ∧ okC P L.body lp.body = true := hs.blk b c sz _ trivial hb hg

/-- a loop's record is written. -/
theorem put_loop {b c sz : Nat} {lp : Loop} {L : Go.Loop} (lp' : Loop) (L' : Go.Loop) (hs : Sim P allB R h.get w) (hb : R b = some (c, sz)) (hg : h.get b = some (.loop lp)) (hL : w.heap[c]? = some (.loop L))
    (h1 : L'.state = stateOf lp'.state) (h2 : L'.pending = pendOf lp'.pending) (h3 : concL R lp'.tmps = some L'.tmps.toList) (h4 : L'.params.toList = lp'.params) (h5 : okC P L'.assign lp'.asg = true) (h6 : okC P L'.body lp'.body = true) :
    Fwd R R h (h.put b (.loop lp')) w (w.putObj c (.loop L')) [b] ∧ Sim P allB R (h.put b (.loop lp')).get (w.putObj c (.loop L')) :=
  put_step hs trivial hb hg ⟨rfl, rfl, rfl⟩ (by simp) (fun d hd => World.putObj_heap_other hd) ⟨L', World.putObj_heap_same (hs.lt b c sz hb), h1, h2, h3, h4, h5, h6⟩

theorem yld_snd {r : C → List V → H → RC} (hsnd : Snd P r) (hkeep : ∀ c t h o t' h', r c t h = .ok o t' h' → Keep h h') {l c sz : Nat} {args : List V} {vs : List Value}
    (he : callV tbl r (.yld l) args h = .ok v h') (hs : Sim P allB R h.get w) (hfr : Fresh R h h') (hw : WF h) (hb : R l = some (c, sz)) (hv : concL R args = some vs) :
    ∃ nx, (Instr.yield c vs.toArray).run P w = .ok nx w ∧ Upon P nx w (PostV P allB R h w v h') := by
  simp only [callV] at he
  split at he <;> try simp at he
  rename_i lp hg
  obtain ⟨L, g1, g2, g3, g4, g5, g6, g7⟩ := loop_at hs hb hg
  split at he <;> try simp at he
  rename_i hlen
  split at he <;> try simp at he
  rename_i t1 h1 hasg
  split at he <;> try simp at he
  rename_i lp1 hg1
  split at he <;> try simp at he
  rename_i hst1
  split at he <;> try simp at he
  rename_i o t2 h2 hbody
  split at he <;> try simp at he
  rename_i lp2 hg2
  split at he <;> try simp at he
  rename_i hst2
  have hpl : L.params.size = lp.params.length := by rw [← g5]; simp
  have hvl := concL_length hv
  refine ⟨_, run_yield g1 (by simp; omega), fun ro n => ?_⟩
  have k1 := hkeep _ _ _ _ _ _ hasg
  have k2 : Keep h1 (h1.put l (.loop { lp1 with state := .busy })) := .put hg1 (fun lp _ => ⟨_, rfl⟩)
  have k3 := hkeep _ _ _ _ _ _ hbody
  -- the last step, whatever it writes
  obtain ⟨lp3, hh3, hfin⟩ : ∃ lp3, h' = h2.put l (.loop lp3) ∧ (o = .norm ∧ v = .b true ∧ lp3 = { lp2 with state := .ready, pending := none } ∨ o ≠ .norm ∧ v = .b false ∧ lp3 = { lp2 with state := .done, pending := some o }) := by
    cases o <;> simp at he
    · exact ⟨_, he.2.symm, .inl ⟨rfl, he.1.symm, rfl⟩⟩
    · exact ⟨_, he.2.symm, .inr ⟨by simp, he.1.symm, rfl⟩⟩
    · exact ⟨_, he.2.symm, .inr ⟨by simp, he.1.symm, rfl⟩⟩
  have hn3 : h2.next ≤ h'.next := by rw [hh3]; simp
  have hn2 := k3.nx
  have hn1 : h1.next ≤ h'.next := Nat.le_trans (Nat.le_trans (by simp) hn2) hn3
  refine roundIn_of_wpIn (F := Wd ro) trivial ?_
  have hzip : concL R (updAll lp.tmps lp.params args) = some ((L.params.zip vs.toArray).foldl (fun tmps (t, a) => tmps.setIfInBounds t a) L.tmps).toList := by
    have := updAll_conc (R := R) (ps := lp.params) g4 hv
    rw [this, ← g5, ← Array.foldl_toList, Array.toList_zip]
  have w1 := hsnd L.assign lp.asg _ h _ t1 h1 R w { tmps := (L.params.zip vs.toArray).foldl (fun tmps (t, a) => tmps.setIfInBounds t a) L.tmps, defers := [] } w.heap.size n (some c) hasg g6 hs (hfr.left hn1) hw hzip trivial (Nat.le_refl _)
    ⟨l, sz, lp, hb, hw.lt hg, hg⟩
  refine wpIn_mono w1 ?_
  rintro e a1 w1 ⟨rfl, R1, l1, f1, s1, ht1, hm1⟩
  obtain ⟨L1, p1, p2, p3, p4, p5, p6, p7⟩ := loop_at s1 (f1.le _ _ hb) hg1
  have hw1 := k1.wf hw
  refine ⟨_, run_beginRound p1 (by rw [p2, hst1]; rfl), ?_⟩
  obtain ⟨f2, s2⟩ := put_loop { lp1 with state := .busy } { L1 with state := .busy } s1 (f1.le _ _ hb) hg1 p1 rfl p3 p4 p5 p6 p7
  have hfr1 := (hfr.right f1).right f2
  have w2 := hsnd L.body lp.body t1 _ o t2 h2 R1 _ a1 w.heap.size n (some c) hbody g7 s2 (hfr1.left hn3) (k2.wf hw1) ht1 (hm1.fwd f2) (by simpa using f1.size)
    ⟨l, sz, _, f1.le _ _ hb, by simp; exact hw1.lt hg1, by rw [H.get_put, if_pos rfl]⟩
  refine wpIn_mono w2 ?_
  rintro e a2 w3 ⟨rfl, R2, l2, f3, s3, ht2, hm2⟩
  have hb2 := f3.le _ _ (f1.le _ _ hb)
  obtain ⟨L2, r1, r2, r3, r4, r5, r6, r7⟩ := loop_at s3 hb2 hg2
  have fall := f1.trans (f2.trans f3)
  rcases hfin with ⟨rfl, rfl, rfl⟩ | ⟨hne, rfl, rfl⟩
  · obtain ⟨f4, s4⟩ := put_loop { lp2 with state := .ready, pending := none } { L2 with state := .ready, pending := none } s3 hb2 hg2 r1 rfl rfl r4 r5 r6 r7
    subst hh3
    exact ⟨_, _, run_endRound none r1, R2, _, fall.trans f4, s4, by simp [conc]⟩
  · subst hh3
    cases o with
    | norm => exact absurd rfl hne
    | exit i =>
      obtain ⟨f4, s4⟩ := put_loop { lp2 with state := .done, pending := some (.exit i) } { L2 with state := .done, pending := some (.exit i) } s3 hb2 hg2 r1 rfl rfl r4 r5 r6 r7
      exact ⟨_, _, run_endRound (some (.exit i)) r1, R2, _, fall.trans f4, s4, by simp [conc]⟩
    | ret =>
      obtain ⟨f4, s4⟩ := put_loop { lp2 with state := .done, pending := some .ret } { L2 with state := .done, pending := some .ret } s3 hb2 hg2 r1 rfl rfl r4 r5 r6 r7
      exact ⟨_, _, run_endRound (some .ret) r1, R2, _, fall.trans f4, s4, by simp [conc]⟩

theorem call_snd {r : C → List V → H → RC} (hsnd : Snd P r) (hskip : Skips r) (hkeep : ∀ c t h o t' h', r c t h = .ok o t' h' → Keep h h') (htbl : ∀ k fi, tbl k = some fi → FnOk P k fi) : CallSnd P (callV tbl r) := by
  intro f args h h' v R w fv vs he hs hfr hw hf hv
  cases f <;> try (simp [callV] at he; done)
  case fn g first caps =>
    obtain ⟨f1, c1, q1, q2, rfl⟩ := conc_fn hf
    obtain ⟨p1, p2⟩ := fn_snd hsnd hskip htbl he hs hfr hw q1 q2 hv
    exact ⟨.enter g _, by simpa [Deferred.ofValue, invoke] using p1, p2⟩
  case yld l =>
    obtain ⟨c, sz, q1, rfl⟩ := conc_yld hf
    obtain ⟨nx, p1, p2⟩ := yld_snd hsnd hkeep he hs hfr hw q1 hv
    exact ⟨nx, by simpa [Deferred.ofValue, invoke] using p1, p2⟩
end
end Go.Air
