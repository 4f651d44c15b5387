/-
  What the soundness of whole code needs: marks among the deferred calls, a round's surroundings, a function's results, lists of operations, and two rules of the walk.
-/
import Derived.Test.YtlldpmkdjpmlpaaStep
import Derived.RangeFuncCalls
import Derived.RangeFuncNested
import Derived.Scope
set_option linter.unusedSectionVars false
set_option linter.unusedVariables false
set_option linter.unusedSimpArgs false
namespace Go.Air

/-! ### Two rules of the walk -/
theorem least {p : Nat → Prop} (h : ∃ j, p j) : ∃ m, p m ∧ ∀ j, p j → m ≤ j := by
  obtain ⟨j, hj⟩ := h
  induction j using Nat.strongRecOn with
  | _ j ih =>
    by_cases hl : ∃ i, i < j ∧ p i
    · obtain ⟨i, hi, hp⟩ := hl
      exact ih i hi hp
    · exact ⟨j, hj, fun i hi => Nat.le_of_not_lt fun hlt => hl ⟨i, hlt, hi⟩⟩

theorem wpIn_loop_rel {F : Fence} {n : Nat} {P : Program} {Q : Exit → Act → World → Prop} {a : Act} {w : World} {c : Code} (J : Nat → Act → World → Prop) (h0 : ∃ j, J j a w)
    (round : ∀ j a w, J j a w → c.wpIn F n P (Exit.then (fun a' w' => ∃ j', j' < j ∧ J j' a' w') Q) a w) : (Code.loop c).wpIn F n P Q a w := by
  classical
  refine wpIn_loop (fun a w => ∃ j, J j a w) (fun a w => if h : ∃ j, J j a w then Classical.choose (least h) else 0) h0 ?_
  intro a w hj
  have hfind := (Classical.choose_spec (least hj)).1
  refine wpIn_mono (round _ a w hfind) ?_
  intro e a' w' hq
  cases e with
  | normal =>
    obtain ⟨j', hlt, hj'⟩ := hq
    refine ⟨⟨j', hj'⟩, ?_⟩
    simp only [dif_pos hj, dif_pos (⟨j', hj'⟩ : ∃ j, J j a' w')]
    exact Nat.lt_of_le_of_lt ((Classical.choose_spec (least (⟨j', hj'⟩ : ∃ j, J j a' w'))).2 _ hj') hlt
  | _ => exact hq

section
variable {P : Program} {b : Frame} {a : Act} {k : List Item} {cs : List Frame} {w : World} {Q : Exit → Act → World → Prop} {F : Fence} {n : Nat}
theorem stepR_scope {c : Code} : step P (lone (b.atR a (.code (.scope c) :: k)) cs w) = .next (lone (b.atR a (.code c :: .inScope c :: k)) cs w) :=
  step_lone_go (by simp [stepG, stepG.exec, Frame.atR])
theorem stepR_inScope {c : Code} : step P (lone (b.atR a (.inScope c :: k)) cs w) = .next (lone (b.atR a k) cs w) :=
  step_lone_go (by simp [stepG, stepG.exec, Frame.atR])
theorem wpIn_scope_straight {c : Code} (h : c.wpIn F n P (Exit.noGoto Q) a w) : (Code.scope c).wpIn F n P Q a w := by
  intro b k cs hro hb hr
  have h0 : (lone (b.atR a (.code (.scope c) :: k)) cs w).fenced P F := fenced_calm hb hr rfl
  obtain ⟨e, a₁, w₁, hq, harr⟩ := h b (.inScope c :: k) cs hro hb hr
  cases e with
  | normal => exact ⟨.normal, a₁, w₁, hq, .head h0 stepR_scope (StepsIn.trans harr (.one (fenced_calm hb hr rfl) stepR_inScope))⟩
  | exit id =>
    have hx : exitTo id (.inScope c :: k) = exitTo id k := by simp [exitTo]
    exact ⟨.exit id, a₁, w₁, hq, fun k' hk => .head h0 stepR_scope (harr.1 k' (by rw [hx]; exact hk)),
      fun hr' hk => let ⟨k₁, h1, h2⟩ := harr.2 hr' (by rw [hx]; exact hk); ⟨k₁, h1, .head h0 stepR_scope h2⟩⟩
  | goto l => exact hq.elim
  | ret => exact ⟨_, a₁, w₁, hq, .of_steps (.one h0 stepR_scope) harr⟩
  | panic ch => exact ⟨_, a₁, w₁, hq, .of_steps (.one h0 stepR_scope) harr⟩
  | outgrown => exact ⟨_, a₁, w₁, hq, .of_steps (.one h0 stepR_scope) harr⟩
end

section
variable {P : Program} {R R1 R' : Emb} {h h1 h' : H} {w w1 w' : World} {t t' : List V} {a : Act} {v : V} {m : Nat}

/-! ### Marks -/
def Marks (m : Nat) (R : Emb) (w : World) : List Deferred → Prop
  | [] => True
  | d :: ds => (∃ D, d = { target := .collected D, args := #[] } ∧ m ≤ D ∧ D < w.heap.size ∧ w.heap[D]? = some (.deferred (some [])) ∧ (∀ b sz, R b ≠ some (D, sz)) ∧
      ∀ e ∈ ds, e.target ≠ .collected D) ∧ Marks m R w ds

theorem Marks.fwd {l : List Nat} (f : Fwd R R' h h' w w' l) : ∀ {ds : List Deferred}, Marks m R w ds → Marks m R' w' ds
  | [], _ => trivial
  | d :: ds, ⟨⟨D, h1, h2, h3, h4, h5, h6⟩, hs⟩ => by
    refine ⟨⟨D, h1, h2, Nat.lt_of_lt_of_le h3 f.size, ?_, ?_, h6⟩, hs.fwd f⟩
    · rw [f.frame D h3 (fun b sz hb => absurd hb (h5 b sz))]; exact h4
    · intro b sz hb
      rcases f.new b D sz hb with q | ⟨_, _, q | ⟨b0, s0, q, _⟩⟩
      · exact h5 b sz q
      · omega
      · exact h5 b0 s0 q

theorem Marks.took {D : Nat} : ∀ {ds : List Deferred}, (∀ e ∈ ds, e.target ≠ .collected D) → Marks m R w ds → Marks m R (w.putObj D (.deferred none)) ds
  | [], _, _ => trivial
  | d :: ds, hne, ⟨⟨E, h1, h2, h3, h4, h5, h6⟩, hs⟩ => by
    have hED : E ≠ D := by
      intro e; subst e
      exact hne d (by simp) (by rw [h1])
    refine ⟨⟨E, h1, h2, by simpa using h3, ?_, h5, h6⟩, Marks.took (fun e he => hne e (by simp [he])) hs⟩
    rw [World.putObj_heap_other hED]; exact h4

def PostA (P : Program) (m : Nat) (R : Emb) (h : H) (w : World) (t' : List V) (h' : H) (a' : Act) (w' : World) : Prop :=
  ∃ R' l, Fwd R R' h h' w w' l ∧ Sim P allB R' h'.get w' ∧ concL R' t' = some a'.tmps.toList ∧ Marks m R' w' a'.defers

theorem PostA.step {a' : Act} {l : List Nat} (f : Fwd R R1 h h1 w w1 l) (hp : PostA P m R1 h1 w1 t' h' a' w') : PostA P m R h w t' h' a' w' :=
  let ⟨R', l', q1, q2⟩ := hp
  ⟨R', _, f.trans q1, q2⟩
theorem PostA.here (hs : Sim P allB R h.get w) (ht : concL R t = some a.tmps.toList) (hm : Marks m R w a.defers) : PostA P m R h w t h a w := ⟨R, [], .refl R h w, hs, ht, hm⟩

/-- the round that runs: its record is a block of Air's. -/
def Around (R : Emb) (h : H) : Option Nat → Prop
  | none => True
  | some c => ∃ b sz lp, R b = some (c, sz) ∧ b < h.next ∧ h.get b = some (.loop lp)
theorem Around.fwd {ro : Option Nat} {l : List Nat} (f : Fwd R R' h h' w w' l) (k : Keep h h') (ha : Around R h ro) : Around R' h' ro := by
  cases ro with
  | none => trivial
  | some c =>
    obtain ⟨b, sz, lp, h1, h2, h3⟩ := ha
    obtain ⟨lp', h4⟩ := k.loop b lp h2 h3
    exact ⟨b, sz, lp', f.le b _ h1, Nat.lt_of_lt_of_le h2 k.nx, h4⟩

/-! ### A function's results -/
theorem res_one {t : List V} {tmps : Array Value} (hs : Sim P allB R h.get w) (ht : concL R t = some tmps.toList) :
    ∀ {rs : List ResultVar} {ms : List ResV} {vs : List V}, okRes P rs ms = true → resultsOf t h ms = some vs →
      ∃ xs, (rs.mapM (m := Sem) fun
        | .tmp t => pure (tmps.getD t undef)
        | .cell a t => do loadVar t (← asAddr (tmps.getD a undef))).run P w = .ok xs w ∧ concL R vs = some xs
  | [], [], vs, _, hr => by
    simp [resultsOf] at hr
    subst hr
    exact ⟨[], by simp, concL_nil R⟩
  | [], _ :: _, _, ho, _ => by simp [okRes] at ho
  | .tmp _ :: _, [], _, ho, _ => by simp [okRes] at ho
  | .cell _ _ :: _, [], _, ho, _ => by simp [okRes] at ho
  | .tmp _ :: _, .cell _ _ :: _, _, ho, _ => by simp [okRes] at ho
  | .tmp _ :: _, .only _ :: _, _, ho, _ => by simp [okRes] at ho
  | .cell _ _ :: _, .only _ :: _, _, ho, _ => by simp [okRes] at ho
  | .cell _ _ :: _, .tmp _ :: _, _, ho, _ => by simp [okRes] at ho
  | .tmp x :: rs, .tmp y :: ms, vs, ho, hr => by
    simp only [okRes, Bool.and_eq_true, Nat.beq_eq] at ho
    obtain ⟨rfl, ho⟩ := ho
    simp only [resultsOf, resultOf, Option.map_eq_some_iff] at hr
    obtain ⟨vs', hr, rfl⟩ := hr
    obtain ⟨xs, h1, h2⟩ := res_one hs ht ho hr
    refine ⟨tmps.getD x undef :: xs, ?_, concL_cons.2 ⟨_, _, ?_, h2, rfl⟩⟩
    · rw [List.mapM_cons]
      simp only [Sem.run_bind, Sem.run_pure, Result.andThen_ok, h1]
    · have := conc_nth ht x
      rw [this]
      simp [Array.getD_eq_getD_getElem?, List.getD_eq_getElem?_getD]
  | .cell x ty :: rs, .cell y sz :: ms, vs, ho, hr => by
    simp only [okRes, Bool.and_eq_true, Nat.beq_eq] at ho
    obtain ⟨⟨rfl, hty⟩, ho⟩ := ho
    simp only [resultsOf] at hr
    split at hr <;> try simp at hr
    rename_i v0 hv0
    obtain ⟨vs', hr, rfl⟩ := hr
    obtain ⟨xs, h1, h2⟩ := res_one hs ht ho hr
    simp only [resultOf] at hv0
    split at hv0 <;> try simp at hv0
    rename_i b o hn
    split at hv0 <;> try simp at hv0
    rename_i cs hg
    have hx := conc_nth ht x
    rw [hn, List.getD_eq_getElem?_getD, Array.getElem?_toList] at hx
    obtain ⟨c, sz', hb, hxe⟩ := conc_p hx
    have hxe' : tmps.getD x undef = .pointer (some ⟨c, o, none⟩) := by rw [Array.getD_eq_getD_getElem?, hxe]
    obtain ⟨arr, e', ys, rest, g1, g2, g3, g4⟩ := cells_at hs trivial hb hg
    have hload : ∃ u, (loadVar ty ⟨c, o, none⟩).run P w = .ok u w ∧ conc R v0 = some u := by
      cases sz with
      | none =>
        simp only at hty hv0
        rw [nth?_eq] at hv0
        obtain ⟨u, hu, hc⟩ := concL_get g2 hv0
        have hcell : w.cell? ⟨c, o, none⟩ = some u := cell_at g1 (by rw [g3, List.getElem?_append_left (List.getElem?_eq_some_iff.1 hu).1]; exact hu)
        exact ⟨u, by simp [loadVar, run_isAgg_plain w hty, hcell], hc⟩
      | some k =>
        simp only [Bool.and_eq_true, Option.map_eq_some_iff] at hty hv0
        obtain ⟨l, hl, rfl⟩ := hv0
        obtain ⟨hle, rfl⟩ := cut_eq.1 hl
        have hlen := concL_length g2
        have hr := run_loadCells_at (P := P) g1 g3 (by omega : o + k ≤ ys.length)
        exact ⟨.agg ((ys.drop o).take k).toArray, by simp [loadVar, run_isAgg_agg w hty.1, run_size w hty.2, hr], by simp [conc, concL_take k (concL_drop o g2)]⟩
    obtain ⟨u, hu1, hu2⟩ := hload
    refine ⟨u :: xs, ?_, concL_cons.2 ⟨_, _, hu2, h2, rfl⟩⟩
    rw [List.mapM_cons]
    have has : (asAddr (tmps.getD x undef)).run P w = .ok ⟨c, o, none⟩ w := by rw [hxe']; simp [asAddr]
    simp only [Sem.run_bind, has, Sem.run_pure, Result.andThen_ok, hu1, h1]

theorem conc_pack {vs : List V} {xs : List Value} (hv : concL R vs = some xs) : conc R (packR vs) = some (if h : xs.toArray.size = 1 then xs.toArray[0] else .tuple xs.toArray) := by
  match vs, xs, hv with
  | [], xs, hv => simp [concL] at hv; subst hv; simp [packR, conc, concL]
  | [v], xs, hv =>
    obtain ⟨x, ys, h1, h2, rfl⟩ := concL_cons.1 hv
    simp [concL] at h2; subst h2
    simpa [packR] using h1
  | v :: v' :: vs, xs, hv =>
    obtain ⟨x, ys, h1, h2, rfl⟩ := concL_cons.1 hv
    obtain ⟨x', ys', h1', h2', rfl⟩ := concL_cons.1 h2
    simp [packR, conc, hv]

theorem run_results {fn : Func} {t : List V} {tmps : Array Value} {ms : List ResV} {vs : List V} (hs : Sim P allB R h.get w) (ht : concL R t = some tmps.toList) (ho : okRes P fn.results.toList ms = true)
    (hr : resultsOf t h ms = some vs) : ∃ x, (results fn tmps).run P w = .ok x w ∧ conc R (packR vs) = some x := by
  obtain ⟨xs, h1, h2⟩ := res_one hs ht ho hr
  refine ⟨_, ?_, conc_pack h2⟩
  unfold results
  rw [Array.mapM_eq_mapM_toList]
  simp only [Sem.run_bind, Sem.run_map, Functor.map_map, Sem.run_pure]
  erw [h1]
  rfl

theorem Sim.took {D : Nat} {o : Obj} (hs : Sim P allB R h.get w) (hD : ∀ b sz, R b ≠ some (D, sz)) : Sim P allB R h.get (w.putObj D o) :=
  ⟨fun b c sz x hF hb hx => (hs.blk b c sz x hF hb hx).mono P R.le_refl (World.putObj_heap_other (fun e => hD b sz (e ▸ hb))), hs.inj, fun b c sz hb => by simpa using hs.lt b c sz hb⟩
theorem Fwd.took {D : Nat} {o : Obj} {l : List Nat} (f : Fwd R R' h h' w w' l) (hD : w.heap.size ≤ D) : Fwd R R' h h' w (w'.putObj D o) l :=
  ⟨f.le, f.log, f.nx, by simpa using f.size, f.new, f.same, fun c hc hl => by rw [World.putObj_heap_other (by omega)]; exact f.frame c hc hl, f.own, f.io.trans ⟨rfl, rfl, rfl⟩⟩

theorem leaves {F : Fence} {n : Nat} {fn : Func} {t : List V} {tmps : Array Value} {ms : List ResV} {vs : List V} {l : List Nat} (ho : okRes P fn.results.toList ms = true) (ht : concL R' t = some tmps.toList)
    (hr : resultsOf t h' ms = some vs) : ∀ {ds : List Deferred} {w' : World}, Fwd R R' h h' w w' l → Sim P allB R' h'.get w' → Marks w.heap.size R' w' ds →
      LeavesInM F n P fn tmps (fun
        | .returned v, w'' => PostV P allB R h w (packR vs) h' v w''
        | _, _ => False) ds .returning w'
  | [], w', f, hs, _ => by
    obtain ⟨x, h1, h2⟩ := run_results hs ht ho hr
    exact ⟨x, h1, R', l, f, hs, h2⟩
  | d :: ds, w', f, hs, ⟨⟨D, h1, h2, h3, h4, h5, h6⟩, hm⟩ => by
    refine ⟨by simp, .inl ⟨D, w'.putObj D (.deferred none), by rw [h1], run_takeDeferred h4, ?_⟩⟩
    exact leaves ho ht hr (f.took h2) (hs.took h5) (hm.took h6)

/-! ### Lists of operations -/
theorem ops_wp {call : V → List V → H → RO} {ops : Array Oper} {n : Nat} {ro : Option Nat} {Q : Exit → Act → World → Prop} (hc : CallSnd P call) (hk : ∀ f args h v h', call f args h = .ok v h' → Keep h h') :
    ∀ (L : List Oper) (l : List O) (i : Nat) (t : List V) (h : H) (R : Emb) (w : World) (a : Act), (∀ j, j < L.length → ops[i + j]? = L[j]?) → okOps P ops L l = true → runOps call l t h = .ok t' h' →
      Sim P allB R h.get w → Fresh R h h' → WF h → concL R t = some a.tmps.toList → Marks m R w a.defers → (∀ a' w', PostA P m R h w t' h' a' w' → Q .normal a' w') →
      wpOpsIn (Wd ro) n P ops Q (List.range' i L.length) a w
  | [], [], i, t, h, R, w, a, _, _, he, hs, hfr, hw, ht, hm, hQ => by
    simp [runOps] at he
    obtain ⟨rfl, rfl⟩ := he
    exact hQ a w (.here hs ht hm)
  | [], _ :: _, _, _, _, _, _, _, _, ho, _, _, _, _, _, _, _ => by simp [okOps] at ho
  | _ :: _, [], _, _, _, _, _, _, _, ho, _, _, _, _, _, _, _ => by simp [okOps] at ho
  | o :: L, ao :: l, i, t, h, R, w, a, hL, ho, he, hs, hfr, hw, ht, hm, hQ => by
    simp only [okOps, okO, Bool.and_eq_true] at ho
    obtain ⟨⟨⟨hdst, hg⟩, hop⟩, ho⟩ := ho
    have hi : ops[i]? = some o := by simpa using hL 0 (by simp)
    have hL' : ∀ j, j < L.length → ops[i + 1 + j]? = L[j]? := fun j hj => by
      have := hL (j + 1) (by simp; omega)
      rw [show i + 1 + j = i + (j + 1) by omega]
      simpa using this
    simp only [List.length_cons, List.range'_succ, wpOpsIn, hi]
    rw [wanted_iff hg ht]
    simp only [runOps] at he
    cases hwt : wants ao.g t with
    | true =>
      simp only [hwt] at he
      simp only [if_true]
      split at he <;> try simp at he
      rename_i v h1 hev
      have k1 := (evA_does hk hev).1
      have k2 := runOps_keep hk l _ _ _ _ he
      refine op_wp hc hop (envOk_of ht) hs (F := allB) ?_ (hfr.left k2.nx) hw hev ?_
      · cases reads ao.op t <;> simp [FootOk, allB]
      · rintro x w1 ⟨R1, l1, q1, q2, q3⟩
        refine ops_wp hc hk L l (i + 1) _ h1 R1 w1 _ hL' ho he q2 (hfr.right q1) (k1.wf hw) (put_tmps hdst (concL_mono q1.le _ _ ht) q3) (by rw [put_defers]; exact hm.fwd q1) ?_
        exact fun a' w' hp => hQ a' w' (hp.step q1)
    | false =>
      simp only [hwt] at he
      simp only [Bool.false_eq_true, if_false]
      refine ⟨fun _ _ => trivial, ?_⟩
      exact ops_wp hc hk L l (i + 1) _ h R w _ hL' ho he hs hfr hw (put_tmps hdst ht (conc_undef R)) (by rw [put_defers]; exact hm) hQ
end
end Go.Air
