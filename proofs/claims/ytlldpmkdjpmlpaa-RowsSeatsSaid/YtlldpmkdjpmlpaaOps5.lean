/-
  One operation on both sides. Fifth part: append, copy, clear.
-/
import Derived.Test.YtlldpmkdjpmlpaaOps4
set_option linter.unusedSectionVars false
set_option linter.unusedVariables false
set_option linter.unusedSimpArgs false
namespace Go.Air
section
variable {P : Program} {F : Nat → Prop} {R : Emb} {h h' : H} {w : World} {t : List V} {ρ : Operand → Value} {v : V}
  {dst : Option Tmp} {op : Op} {ty : TypeId} {pos : String} {af : Array Edge} {gd : Option (Nat × Bool)} {call : V → List V → H → RO}

theorem append_fit {st xt e : TypeId} {d : TypeDesc} {base : Option Addr} {sLen sCap n esz : Nat} {s x : Value} {new : List Value} {args : Array Value} {ats : Array TypeId} {w' : World}
    (hst : P.underlying st = some (.slice e)) (hxt : P.underlying xt = some d) (hd : ∀ k, d ≠ .int k) (hsz : isSz P e esz = true)
    (hargs : args = #[s, x]) (hats : ats = #[st, xt]) (hse : s = .slice base sLen sCap) (hn : (Builtin.lenOf x).run P w = .ok n w) (hneed : sLen + n ≤ sCap)
    (hnew : (Builtin.firstCells esz n x).run P w = .ok new.toArray w)
    (hb : (∃ a, base = some a ∧ (storeCells (a.add (sLen * esz)) new).run P w = .ok () w') ∨ (base = none ∧ w' = w)) :
    (Builtin.append_ ats ty args).run P w = .ok (.slice base (sLen + n) sCap) w' := by
  subst hargs hats hse
  have hs : (sizeOf e).run P w = .ok esz w := run_size w hsz
  have hnz : (match d with | .int _ => true | _ => false) = false := by
    cases d <;> simp
    exact absurd rfl (hd _)
  simp only [Builtin.append_]
  simp only [List.getElem?_toArray, List.getElem?_cons_zero, List.getElem?_cons_succ, Sem.run_bind, run_underlying hst, Result.andThen_ok, hs, run_underlying hxt, Sem.run_pure, hnz, Bool.false_eq_true, if_false, hn]
  rw [if_pos hneed]
  simp only [Bool.not_false, if_true, Sem.run_bind, hnew, Result.andThen_ok]
  rcases hb with ⟨a, rfl, hr⟩ | ⟨rfl, rfl⟩
  · simp only [Sem.run_bind, hr, Result.andThen_ok, Sem.run_pure]
  · simp

theorem firstCells_world {esz n : Nat} {x : V} {u : Value} {l : List V} (hs : Sim P F R h.get w) (hF : ∀ b, F b) (hx : conc R x = some u) (hc : sourceCells esz n h x = some l) :
    ∃ xs, concL R l = some xs ∧ xs.length = n * esz ∧ ∀ w' : World, w'.heap = w.heap → (Builtin.firstCells esz n u).run P w' = .ok xs.toArray w' := by
  obtain ⟨xs, h1, h2, h3⟩ := source_cells hs hF hx hc
  refine ⟨xs, h1, h3, fun w' hw' => ?_⟩
  have hs' : Sim P F R h.get w' := ⟨fun b c sz x q1 q2 q3 => (hs.blk b c sz x q1 q2 q3).mono P R.le_refl (by rw [hw']), hs.inj, fun b c sz q => by rw [hw']; exact hs.lt b c sz q⟩
  obtain ⟨xs', h1', h2', _⟩ := source_cells hs' hF hx hc
  rw [h1] at h1'
  cases h1'
  exact h2'

theorem H.get_kn (h : H) (b : Nat) (x : Blk) (y : Nat) : ((h.kill b).new x).get y = if y = h.next then some x else if y = b then none else h.get y := by
  rw [H.get_new, H.get_kill]; rfl
theorem Fwd.undrew {R' : Emb} {w' : World} {l : List Nat} (f : Fwd R R' h h' w.drew w' l) : Fwd R R' h h' w w' l := ⟨f.le, f.log, f.nx, f.size, f.new, f.same, f.frame, f.own, f.io⟩
theorem kill_step {b : Nat} {z : Nat × Nat} {y : Blk} (hs : Sim P F R h.get w) (hb : R b = some z) (hy : h.get b = some y) : Fwd R R h (h.kill b) w w [b] ∧ Sim P F R (h.kill b).get w := by
  refine ⟨⟨R.le_refl, rfl, by simp, Nat.le_refl _, fun _ _ _ h => .inl h, ?_, fun _ _ _ => rfl, fun d hd => .inr (by simp at hd; subst hd; exact ⟨⟨_, hb⟩, fun _ => ⟨_, hy⟩⟩), .refl w⟩, ⟨?_, ?_, hs.lt⟩⟩
  · intro x _ hx
    rw [H.get_kill, if_neg (by simpa using hx)]
  · intro x c sz y hF hx hy
    rw [H.get_kill] at hy
    split at hy <;> try simp at hy
    exact hs.blk x c sz y hF hx hy
  · intro x x' c s s' y y' h1 h2 hx hx' hy hy'
    rw [H.get_kill] at hy hy'
    split at hy <;> try simp at hy
    split at hy' <;> try simp at hy'
    exact hs.inj x x' c s s' y y' h1 h2 hx hx' hy hy'

/-- a slice that was grown takes its block along, under a new number. -/
theorem regrow_step {b c sz : Nat} {cs new : List V} {xs : List Value} {k : Nat} (hs : Sim P F R h.get w) (hF : ∀ b, F b) (hb : R b = some (c, sz)) (hg : h.get b = some (.cells cs)) (hk : k ≤ cs.length)
    (hlen : k + new.length ≤ sz) (hone : ∀ v ∈ new, v.oneCell = true) (hv : concL R new = some xs) (hf : R h.next = none) :
    ∃ w', (storeCells ⟨c, k, none⟩ xs).run P w = .ok () w' ∧ Fwd R (R.add h.next (c, sz)) h ((h.kill b).new (.cells (cs.take k ++ new))) w w' [b] ∧
      Sim P F (R.add h.next (c, sz)) ((h.kill b).new (.cells (cs.take k ++ new))).get w' := by
  obtain ⟨arr, e, ys, rest, h1, h2, h3, h4⟩ := cells_at hs (hF b) hb hg
  have e1 := concL_length h2
  have e2 := concL_length hv
  have e3 : arr.toList.length = arr.size := Array.length_toList
  have e4 : arr.toList.length = ys.length + rest.length := by rw [h3]; simp
  obtain ⟨w', arr', r1, r2, r3, r4, r5, rio⟩ := run_storeCells_list (P := P) (o := k) xs 0 w arr h1 (by omega) (conc_ones hv hone)
  have hle : R.le (R.add h.next (c, sz)) := Emb.le_add hf
  have hbn : b ≠ h.next := by intro e; rw [e, hf] at hb; cases hb
  refine ⟨w', r1, ⟨hle, rfl, by simp, by omega, ?_, ?_, ?_, fun d hd => .inr (by simp at hd; subst hd; exact ⟨⟨_, hb⟩, fun _ => ⟨_, hg⟩⟩), rio⟩, ⟨?_, ?_, ?_⟩⟩
  · intro x c' s' hx
    simp only [Emb.add] at hx
    split at hx
    · rename_i e; subst e
      simp only [Option.some.injEq, Prod.mk.injEq] at hx
      obtain ⟨rfl, rfl⟩ := hx
      exact .inr ⟨Nat.le_refl _, by simp, .inr ⟨b, sz, hb, by simp⟩⟩
    · exact .inl hx
  · intro x hx hxl
    rw [H.get_kn, if_neg (by omega), if_neg (by simpa using hxl)]
  · intro d _ hl
    exact r3 d (fun e => hl b sz (e ▸ hb) (by simp))
  · intro x c' s' y hFx hx hy
    simp only [Emb.add] at hx
    rw [H.get_kn] at hy
    split at hx
    · rename_i e; subst e
      rw [if_pos rfl] at hy
      simp only [Option.some.injEq, Prod.mk.injEq] at hx hy
      obtain ⟨rfl, rfl⟩ := hx
      subst hy
      refine ⟨arr', e, ys.take k ++ xs, arr.toList.drop (k + xs.length), r4, concL_mono hle _ _ (concL_append (concL_take k h2) hv), ?_, ?_⟩
      · rw [r5, h3]
        simp only [Nat.add_zero]
        rw [List.take_append_of_le_length (by omega)]
      · have : arr'.toList.length = arr'.size := Array.length_toList
        rw [r5] at this
        simp at this
        omega
    · rename_i ne
      rw [if_neg ne] at hy
      split at hy <;> try simp at hy
      rename_i ne2
      refine (hs.blk x c' s' y hFx hx hy).mono P hle (r3 c' ?_)
      intro ee; subst ee
      exact ne2 (hs.inj x b c' s' sz y _ hFx (hF b) hx hb hy hg)
  · intro x x' c' s1 s2 y y' hF1 hF2 hx hx' hy hy'
    simp only [Emb.add] at hx hx'
    rw [H.get_kn] at hy hy'
    split at hx <;> split at hx'
    · rename_i e1 e2; rw [e1, e2]
    · rename_i e1 ne
      rw [if_neg ne] at hy'
      split at hy' <;> try simp at hy'
      rename_i ne2
      simp only [Option.some.injEq, Prod.mk.injEq] at hx
      obtain ⟨rfl, rfl⟩ := hx
      exact absurd (hs.inj x' b c s2 sz y' _ hF2 (hF b) hx' hb hy' hg) ne2
    · rename_i ne e1
      rw [if_neg ne] at hy
      split at hy <;> try simp at hy
      rename_i ne2
      simp only [Option.some.injEq, Prod.mk.injEq] at hx'
      obtain ⟨rfl, rfl⟩ := hx'
      exact absurd (hs.inj x b c s1 sz y _ hF1 (hF b) hx hb hy hg) ne2
    · rename_i n1 n2
      rw [if_neg n1] at hy
      rw [if_neg n2] at hy'
      split at hy <;> try simp at hy
      split at hy' <;> try simp at hy'
      exact hs.inj x x' c' s1 s2 y y' hF1 hF2 hx hx' hy hy'
  · intro x c' s' hx
    simp only [Emb.add] at hx
    split at hx
    · simp only [Option.some.injEq, Prod.mk.injEq] at hx
      have := hs.lt b c sz hb
      omega
    · have := hs.lt x c' s' hx
      omega

theorem beq3 {a b c : Bool} (hh : (a && b && c) = true) : a = true ∧ b = true ∧ c = true := by
  cases a <;> cases b <;> cases c <;> simp_all

theorem run_app {esz bytes : Nat} {a b : X} (hok : okA P op (.app esz bytes a b) = true) (hρ : EnvOk R t ρ) (hs : Sim P F R h.get w) (hF : FootOk F (reads (.app esz bytes a b) t)) (hfr : Fresh R h h')
    (he : evA call (.app esz bytes a b) t h = .ok v h') : OpRun P F R h w (execOp ρ ⟨dst, op, ty, pos, af, gd⟩) v h' := by
  cases op <;> try exact (Bool.false_ne_true hok).elim
  rename_i c
  obtain ⟨bt, hb, hk⟩ := okB_inv (show okB P c (.app esz bytes a b) = true from hok)
  simp only [okCallB] at hk
  split at hk
  case h_2 => simp at hk
  rename_i s' x' st xt hargs hats
  rw [Bool.and_eq_true, Bool.and_eq_true] at hk
  obtain ⟨⟨hsa, hxb⟩, hk⟩ := hk
  split at hk
  case h_2 => simp at hk
  rename_i e d hst hxt
  rw [Bool.and_eq_true] at hk
  obtain ⟨hd, hk⟩ := hk
  have hd' : ∀ k, d ≠ .int k := by
    intro k hk
    subst hk
    simp at hd
  cases hi : P.info? e with
  | none => simp [hi] at hk
  | some i =>
    simp only [hi, Bool.and_eq_true, Nat.beq_eq] at hk
    obtain ⟨⟨rfl, rfl⟩, hz⟩ := hk
    cases hzv : i.zero with
    | none => simp [hzv] at hz
    | some z =>
      simp only [hzv, Nat.beq_eq] at hz
      have hsz : isSz P e i.size = true := by simp [isSz, szT, hi]
      have hSv := hρ s' a hsa
      have hXv := hρ x' b hxb
      have hA : ∀ b, F b := hF
      have hrun : ∀ u w', (Builtin.append_ c.argTypes ty (c.args.map ρ)).run P w = .ok u w' → (execOp ρ ⟨dst, .call c, ty, pos, af, gd⟩).run P w = .ok (.value u) w' := by
        intro u w' hu
        rw [run_builtin hb]
        simp only [builtin, Sem.run_bind, hu, Result.andThen_ok, Sem.run_pure]
      have hmap : c.args.map ρ = #[ρ s', ρ x'] := by rw [arr2 hargs]; simp
      have hats' := arr2 hats
      simp only [evA] at he
      generalize a.ev t = S at *
      generalize b.ev t = X' at *
      unfold appendV at he
      cases hn : sourceLen X' with
      | none => simp [hn] at he
      | some n =>
        simp only [hn] at he
        cases hc : sourceCells i.size n h X' with
        | none => simp [hc] at he
        | some new =>
          simp only [hc] at he
          obtain ⟨xs, hxs, hxl, hfirst⟩ := firstCells_world hs hA hXv hc
          have hnl := concL_length hxs
          have hnlen := source_len (P := P) (w := w) hXv hn
          split at he
          case isFalse => simp at he
          rename_i hlim
          obtain ⟨hlim, hb0, he0⟩ := beq3 hlim
          rw [Nat.ble_eq] at hlim
          rw [Nat.blt_eq] at hb0 he0
          cases S with
          | sn =>
            simp only at he
            simp [conc] at hSv
            split at he <;> simp only [RO.ok.injEq] at he <;> rename_i hn0
            · obtain ⟨rfl, rfl⟩ := he
              rw [Nat.beq_eq] at hn0
              subst hn0
              refine ⟨_, _, w, hrun _ _ (append_fit (new := xs) (w' := w) hst hxt hd' hsz hmap hats' hSv.symm hnlen (by omega) (hfirst w rfl) (.inr ⟨rfl, rfl⟩)), .inl rfl, .same hs (by simp [conc])⟩
            · obtain ⟨rfl, rfl⟩ := he
              have hn0 : n ≠ 0 := by simpa using hn0
              obtain ⟨newCap, rest, hcap, hrest, hr⟩ := append_grow (ty := ty) (old := []) (new := xs) hst hxt hd' hi hzv rfl hmap hats' hSv.symm hnlen (by omega) hb0 (by simpa using hlim)
                (fun w' _ => by rw [← hSv]; simp [Builtin.firstCells]) hfirst
              have hrl : rest.length = (newCap - n) * i.size := by rw [hrest]; simp [hz]
              have hsize : ([] ++ xs ++ rest).toArray.size = newCap * i.size := by
                simp only [List.size_toArray, List.length_append, List.length_nil, hxl, hrl]
                rw [Nat.zero_add, ← Nat.add_mul]
                congr 1
                omega
              obtain ⟨hf, hs'⟩ := new_step (x := .cells new) (sz := newCap * i.size) (o := .cells ([] ++ xs ++ rest).toArray e) (Sim.drew hs) (fresh_new hfr)
                (fun w' hw' => ⟨_, e, xs, rest, hw', concL_mono (Emb.le_add (fresh_new hfr)) _ _ hxs, by simp, hsize⟩)
              refine ⟨_, _, _, hrun _ _ hr, .inl rfl, _, _, hf.undrew, hs', ?_⟩
              simp only [Nat.zero_add] at hcap ⊢
              simp only [conc, Emb.add_self, Option.bind_some]
              rw [if_pos ⟨by rw [Nat.zero_add]; exact Nat.mul_le_mul_right _ hcap, he0⟩]
              simp [Nat.mul_div_cancel _ he0]
          | se ad =>
            simp only at he
            simp [conc] at hSv
            split at he <;> simp only [RO.ok.injEq] at he <;> rename_i hn0
            · obtain ⟨rfl, rfl⟩ := he
              rw [Nat.beq_eq] at hn0
              subst hn0
              have hx0 : xs = [] := List.eq_nil_of_length_eq_zero (by rw [hxl]; simp)
              subst hx0
              refine ⟨_, _, w, hrun _ _ (append_fit (new := []) (w' := w) hst hxt hd' hsz hmap hats' hSv.symm hnlen (by omega) (hfirst w rfl) (.inl ⟨_, rfl, by simp [storeCells]⟩)), .inl rfl, .same hs (by simp [conc])⟩
            · obtain ⟨rfl, rfl⟩ := he
              have hn0 : n ≠ 0 := by simpa using hn0
              obtain ⟨newCap, rest, hcap, hrest, hr⟩ := append_grow (ty := ty) (old := []) (new := xs) hst hxt hd' hi hzv rfl hmap hats' hSv.symm hnlen (by omega) hb0 (by simpa using hlim)
                (fun w' _ => by rw [← hSv]; simp [Builtin.firstCells, loadCells, loadCellsFrom]) hfirst
              have hrl : rest.length = (newCap - n) * i.size := by rw [hrest]; simp [hz]
              have hsize : ([] ++ xs ++ rest).toArray.size = newCap * i.size := by
                simp only [List.size_toArray, List.length_append, List.length_nil, hxl, hrl]
                rw [Nat.zero_add, ← Nat.add_mul]
                congr 1
                omega
              obtain ⟨hf, hs'⟩ := new_step (x := .cells new) (sz := newCap * i.size) (o := .cells ([] ++ xs ++ rest).toArray e) (Sim.drew hs) (fresh_new hfr)
                (fun w' hw' => ⟨_, e, xs, rest, hw', concL_mono (Emb.le_add (fresh_new hfr)) _ _ hxs, by simp, hsize⟩)
              refine ⟨_, _, _, hrun _ _ hr, .inl rfl, _, _, hf.undrew, hs', ?_⟩
              simp only [Nat.zero_add] at hcap ⊢
              simp only [conc, Emb.add_self, Option.bind_some]
              rw [if_pos ⟨by rw [Nat.zero_add]; exact Nat.mul_le_mul_right _ hcap, he0⟩]
              simp [Nat.mul_div_cancel _ he0]
          | sl blk off len cap g =>
            simp only at he
            obtain ⟨cb, sz, cap', hR, hxe, hcc, hg1, hg2⟩ := conc_sl hSv
            split at he
            · rename_i hfit
              rw [Nat.ble_eq] at hfit
              split at he <;> simp only [RO.ok.injEq, reduceCtorEq] at he
              rename_i h1 hst'
              obtain ⟨rfl, rfl⟩ := he
              obtain ⟨w', r1, hf, hs'⟩ := store_step hs (hA blk) hR hst' hxs
              refine ⟨_, _, w', hrun _ _ (append_fit (new := xs) (w' := w') hst hxt hd' hsz hmap hats' hxe hnlen (by omega) (hfirst w rfl) (.inl ⟨_, rfl, by rw [add_spot]; exact r1⟩)), .inl rfl, _, _, hf, hs', ?_⟩
              cases g with
              | none => obtain rfl := hg1 rfl; simp [conc, hR]
              | some g =>
                obtain ⟨q1, q2, q3⟩ := hg2 g rfl
                simp only [conc, hR, Option.bind_some]
                rw [if_pos ⟨q2, q3⟩, q1]
            · rename_i hfit
              rw [Nat.ble_eq] at hfit
              split at he
              case isFalse => simp at he
              rename_i hlim2
              rw [Nat.ble_eq] at hlim2
              have grow : ∀ (oldV : List V) (oldX : List Value), concL R oldV = some oldX → oldX.length = len * i.size →
                  (∀ w' : World, w'.heap = w.heap → (Builtin.firstCells i.size len (ρ s')).run P w' = .ok oldX.toArray w') →
                  cap' < len + n → v = .sl h.next 0 (len + n) (len + n) (some i.size) → ∀ h1 : H, Fresh R h h1 → h1 = h.new (.cells (oldV ++ new)) →
                  OpRun P F R h w (execOp ρ ⟨dst, .call c, ty, pos, af, gd⟩) v h1 := by
                intro oldV oldX hoc hol hofirst hlt hv h1 hfr1 hh1
                subst hh1 hv
                obtain ⟨newCap, rest, hcap, hrest, hr⟩ := append_grow (ty := ty) (new := xs) hst hxt hd' hi hzv rfl hmap hats' hxe hnlen (by omega) hb0 hlim2 hofirst hfirst
                have hrl : rest.length = (newCap - (len + n)) * i.size := by rw [hrest]; simp [hz]
                have hsize : (oldX ++ xs ++ rest).toArray.size = newCap * i.size := by
                  simp only [List.size_toArray, List.length_append, hol, hxl, hrl]
                  rw [← Nat.add_mul, ← Nat.add_mul]
                  congr 1
                  omega
                obtain ⟨hf, hs'⟩ := new_step (x := .cells (oldV ++ new)) (sz := newCap * i.size) (o := .cells (oldX ++ xs ++ rest).toArray e) (Sim.drew hs) (fresh_new hfr1)
                  (fun w' hw' => ⟨_, e, oldX ++ xs, rest, hw', concL_mono (Emb.le_add (fresh_new hfr1)) _ _ (concL_append hoc hxs), by simp, hsize⟩)
                refine ⟨_, _, _, hrun _ _ hr, .inl rfl, _, _, hf.undrew, hs', ?_⟩
                simp only [conc, Emb.add_self, Option.bind_some]
                rw [if_pos ⟨by rw [Nat.zero_add]; exact Nat.mul_le_mul_right _ hcap, he0⟩]
                simp [Nat.mul_div_cancel _ he0]
              cases g with
              | none =>
                simp only at he
                split at he
                case h_2 => simp at he
                rename_i bl hg
                split at he
                · simp at he
                rename_i old hold
                simp only [RO.ok.injEq] at he
                obtain ⟨hv, rfl⟩ := he
                obtain rfl := hg1 rfl
                obtain ⟨us, u1, u2, u3, _⟩ := rd_at hs (hA blk) hR hg hold
                refine grow old us u1 u2 ?_ (by omega) hv.symm _ hfr rfl
                intro w' hw'
                rw [hxe]
                have := run_loadCells_list (P := P) w' ⟨cb, off, none⟩ us (fun j v hj => by
                  rw [add_spot]
                  have := u3 j v hj
                  simp only [World.cell?, hw'] at this ⊢
                  exact this)
                rw [u2] at this
                exact this
              | some g =>
                simp only at he
                split at he
                case h_2 => simp at he
                rename_i cs hg
                split at he
                · simp at he
                rename_i old hold
                obtain ⟨hle, rfl⟩ := cut_eq.1 hold
                obtain ⟨arr, e', vs, rst, q1, q2, q3, q4⟩ := cells_at hs (hA blk) hR hg
                have hvl := concL_length q2
                have hofirst : ∀ w' : World, w'.heap = w.heap → (Builtin.firstCells i.size len (ρ s')).run P w' = .ok ((vs.drop off).take (len * i.size)).toArray w' := by
                  intro w' hw'
                  rw [hxe]
                  exact run_loadCells_at (by rw [hw']; exact q1) q3 (by omega)
                have hoc : concL R ((cs.drop off).take (len * i.size)) = some ((vs.drop off).take (len * i.size)) := concL_take _ (concL_drop _ q2)
                have hol : ((vs.drop off).take (len * i.size)).length = len * i.size := by simp; omega
                split at he
                case isFalse => simp at he
                rename_i hg3
                rw [Bool.and_eq_true] at hg3
                obtain ⟨hg3, hone⟩ := hg3
                obtain ⟨g1, g2, g3⟩ := beq3 hg3
                rw [Nat.beq_eq] at g1 g2 g3
                rw [List.all_eq_true] at hone
                simp only [RO.ok.injEq] at he
                obtain ⟨hv, rfl⟩ := he
                obtain ⟨p1, p2, p3⟩ := hg2 g rfl
                subst g1 g2
                have hfn : R h.next = none := hfr h.next (Nat.le_refl _) (by simp)
                simp only [List.drop_zero, Nat.zero_add, Nat.sub_zero] at *
                by_cases hroom : len + n ≤ cap'
                · have hmul : (len + n) * i.size ≤ sz := by
                    have h1 : (len + n) * i.size ≤ cap' * i.size := Nat.mul_le_mul_right _ hroom
                    have h2 : cap' * i.size ≤ sz := by rw [p1]; exact Nat.div_mul_le_self _ _
                    omega
                  rw [Nat.add_mul] at hmul
                  obtain ⟨w', r1, hf, hs'⟩ := regrow_step (k := len * i.size) hs hA hR hg (by omega) (by omega) hone hxs hfn
                  refine ⟨_, _, w', hrun _ _ (append_fit (new := xs) (w' := w') hst hxt hd' hsz hmap hats' hxe hnlen hroom (hfirst w rfl) (.inl ⟨_, rfl, by rw [add_spot, Nat.zero_add]; exact r1⟩)), .inl rfl, _, _, hf, hs', ?_⟩
                  subst hv
                  simp only [conc, Emb.add_self, Option.bind_some, Nat.zero_add, Nat.sub_zero]
                  rw [if_pos ⟨by rw [Nat.add_mul]; omega, p3⟩, p1]
                · obtain ⟨newCap, rest, hcap, hrest, hr⟩ := append_grow (ty := ty) (new := xs) hst hxt hd' hi hzv rfl hmap hats' hxe hnlen hroom hb0 hlim2 hofirst hfirst
                  have hrl : rest.length = (newCap - (len + n)) * i.size := by rw [hrest]; simp [hz]
                  have hsize : (vs.take (len * i.size) ++ xs ++ rest).toArray.size = newCap * i.size := by
                    simp only [List.size_toArray, List.length_append, hol, hxl, hrl]
                    rw [← Nat.add_mul, ← Nat.add_mul]
                    congr 1
                    omega
                  obtain ⟨hfk, hsk⟩ := kill_step (b := blk) hs hR hg
                  obtain ⟨hf, hs'⟩ := new_step (h := h.kill blk) (x := .cells (cs.take (len * i.size) ++ new)) (sz := newCap * i.size) (o := .cells (vs.take (len * i.size) ++ xs ++ rest).toArray e) (Sim.drew hsk) hfn
                    (fun w' hw' => ⟨_, e, vs.take (len * i.size) ++ xs, rest, hw', concL_mono (Emb.le_add hfn) _ _ (concL_append hoc hxs), by simp, hsize⟩)
                  refine ⟨_, _, _, hrun _ _ hr, .inl rfl, _, _, hfk.trans hf.undrew, hs', ?_⟩
                  subst hv
                  simp only [conc]
                  rw [show (R.add (h.kill blk).next (w.drew.heap.size, newCap * i.size)) h.next = some (w.drew.heap.size, newCap * i.size) from Emb.add_self]
                  simp only [Option.bind_some]
                  rw [if_pos ⟨by rw [Nat.zero_add]; exact Nat.mul_le_mul_right _ hcap, he0⟩]
                  simp [Nat.mul_div_cancel _ he0]
          | _ => simp at he

theorem run_cpy {esz : Nat} {a b : X} (hok : okA P op (.cpy esz a b) = true) (hρ : EnvOk R t ρ) (hs : Sim P F R h.get w) (hF : FootOk F (reads (.cpy esz a b) t))
    (he : evA call (.cpy esz a b) t h = .ok v h') : OpRun P F R h w (execOp ρ ⟨dst, op, ty, pos, af, gd⟩) v h' := by
  cases op <;> try exact (Bool.false_ne_true hok).elim
  rename_i c
  obtain ⟨bt, hb, hk⟩ := okB_inv (show okB P c (.cpy esz a b) = true from hok)
  simp only [okCallB] at hk
  split at hk
  case h_2 => simp at hk
  rename_i d' s' dt ats hargs hats
  rw [Bool.and_eq_true, Bool.and_eq_true] at hk
  obtain ⟨⟨hda, hsb⟩, hk⟩ := hk
  split at hk
  case h_2 => simp at hk
  rename_i e hdt
  have hD := hρ d' a hda
  have hS := hρ s' b hsb
  have hA : ∀ b, F b := hF
  have hmap : c.args.map ρ = #[ρ d', ρ s'] := by rw [arr2 hargs]; simp
  have hat : c.argTypes[0]? = some dt := by rw [← Array.getElem?_toList, hats]; rfl
  simp only [evA] at he
  generalize a.ev t = D at *
  generalize b.ev t = S at *
  unfold copyV at he
  cases hn : sourceLen S with
  | none => simp [hn] at he
  | some m =>
    simp only [hn] at he
    have hl := source_len (P := P) (w := w) hS hn
    have hsz := run_size w hk
    cases D with
    | sn =>
      simp only [RO.ok.injEq] at he
      obtain ⟨rfl, rfl⟩ := he
      simp [conc] at hD
      have hfc : (Builtin.firstCells esz 0 (ρ s')).run P w = .ok #[] w := by
        unfold sourceLen at hn
        split at hn <;> simp at hn
        · simp [conc] at hS; rw [← hS]; simp [Builtin.firstCells]
        · simp [conc] at hS; rw [← hS]; simp [Builtin.firstCells, loadCells, loadCellsFrom]
        · obtain ⟨cb, sz, cap', hR, hxe, _⟩ := conc_sl hS
          rw [hxe]; simp [Builtin.firstCells, loadCells, loadCellsFrom]
        · obtain ⟨hxe, _⟩ := conc_ss hS
          rw [hxe]
          simp [Builtin.firstCells, extract_byteArr, byteArr]
      refine .plain (x := .int .i64 0) hs ?_ (by simp [conc])
      rw [run_builtin hb]
      simp [builtin, Builtin.copy_, hmap, hat, run_underlying hdt, ← hD, hl, hsz, hfc, goInt]
    | sl blk off len cap g =>
      simp only at he
      obtain ⟨cb, sz, cap', hR, hxe, hcc, hg1, hg2⟩ := conc_sl hD
      split at he
      · simp at he
      rename_i l hl'
      obtain ⟨xs, h1, h2, h3⟩ := source_cells (P := P) hs hA hS hl'
      split at he <;> simp only [RO.ok.injEq, reduceCtorEq] at he
      rename_i h1' hst
      obtain ⟨rfl, rfl⟩ := he
      obtain ⟨w', r1, hf, hs'⟩ := store_step hs (hA blk) hR hst h1
      refine ⟨.value (.int .i64 (Nat.min m len : Int)), _, w', ?_, .inl rfl, _, _, hf, hs', by simp [conc]⟩
      rw [run_builtin hb]
      simp [builtin, Builtin.copy_, hmap, hat, run_underlying hdt, hxe, hl, hsz, h2, r1, goInt]
    | _ => simp at he

theorem run_clr {z : List V} {a : X} (hok : okA P op (.clr z a) = true) (hρ : EnvOk R t ρ) (hs : Sim P F R h.get w) (hF : FootOk F (reads (.clr z a) t))
    (he : evA call (.clr z a) t h = .ok v h') : OpRun P F R h w (execOp ρ ⟨dst, op, ty, pos, af, gd⟩) v h' := by
  cases op <;> try exact (Bool.false_ne_true hok).elim
  rename_i c
  obtain ⟨bt, hb, hk⟩ := okB_inv (show okB P c (.clr z a) = true from hok)
  simp only [okCallB] at hk
  split at hk
  case h_2 => simp at hk
  rename_i x t' hargs hats
  rw [Bool.and_eq_true] at hk
  obtain ⟨hxa, hk⟩ := hk
  split at hk
  case h_2 => simp at hk
  rename_i e hdt
  unfold okZ at hk
  cases hz : zeroT P e with
  | none => simp [hz] at hk
  | some u =>
    simp only [hz] at hk
    have hc := concL_of_same R z _ hk
    have hX := hρ x a hxa
    simp only [evA] at he
    generalize a.ev t = S at *
    cases S with
    | sn =>
      simp only [RO.ok.injEq] at he
      obtain ⟨rfl, rfl⟩ := he
      simp [conc] at hX
      refine .plain (x := .tuple #[]) hs ?_ (conc_undef R)
      rw [run_builtin hb, arr1 hargs, arr1 hats]
      simp [builtin, Builtin.clear_, run_underlying hdt, ← hX]
    | sl blk off len cap g =>
      simp only at he
      obtain ⟨cb, sz, cap', hR, hxe, hcc, hg1, hg2⟩ := conc_sl hX
      split at he
      · rename_i h0
        rw [Nat.beq_eq] at h0
        subst h0
        simp only [RO.ok.injEq] at he
        obtain ⟨rfl, rfl⟩ := he
        refine .plain (x := .tuple #[]) hs ?_ (conc_undef R)
        rw [run_builtin hb, arr1 hargs, arr1 hats]
        simp [builtin, Builtin.clear_, run_underlying hdt, hxe]
      · rename_i h0
        have h0 : len ≠ 0 := by simpa using h0
        split at he <;> simp only [RO.ok.injEq, reduceCtorEq] at he
        rename_i h1' hst
        obtain ⟨rfl, rfl⟩ := he
        obtain ⟨w', r1, hf, hs'⟩ := store_step hs (hF blk) hR hst (concL_rep hc len)
        refine ⟨.value (.tuple #[]), _, w', ?_, .inl rfl, _, _, hf, hs', conc_undef R⟩
        rw [run_builtin hb, arr1 hargs, arr1 hats]
        cases len with
        | zero => exact absurd rfl h0
        | succ len => simp [builtin, Builtin.clear_, run_underlying hdt, hxe, run_zero w hz, zeroCells_eq, r1]
    | _ => simp at he
end
end Go.Air
