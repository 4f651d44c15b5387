/-
  One operation on both sides. Fourth part: built-in functions, and make.
-/
import Derived.Test.YtlldpmkdjpmlpaaOps3
import Derived.IntWalk
set_option linter.unusedSectionVars false
set_option linter.unusedVariables false
set_option linter.unusedSimpArgs false
namespace Go.Air

/-! ### Rows of zeros -/
theorem zrow_mul (z : List Value) : ∀ c : Nat, zrow z (c * z.length) = (List.replicate c z).flatten
  | 0 => by simp [zrow]
  | c + 1 => by
    have ih := zrow_mul z c
    rw [List.replicate_succ', List.flatten_append, ← ih]
    unfold zrow
    rw [Nat.add_mul, Nat.one_mul, List.range_add, List.map_append, List.map_map]
    congr 1
    simp only [List.flatten_cons, List.flatten_nil, List.append_nil]
    apply List.ext_getElem?
    intro i
    by_cases hi : i < z.length
    · simp [hi, Nat.mod_eq_of_lt hi]
    · rw [List.getElem?_eq_none (by simpa using hi), List.getElem?_eq_none (by omega)]

theorem zeroCells_eq (z : Array Value) (n : Nat) : (Builtin.zeroCells z n).toList = (List.replicate n z.toList).flatten := by
  unfold Builtin.zeroCells
  rw [zrow_range, ← zrow_mul]
  simp

theorem rep_length (z : List V) : ∀ n, (rep z n).length = n * z.length
  | 0 => by simp [rep]
  | n + 1 => by simp [rep, rep_length z n, Nat.add_mul]; omega

section
variable {P : Program} {F : Nat → Prop} {R : Emb} {h h' : H} {w : World} {t : List V} {ρ : Operand → Value} {v : V}
  {dst : Option Tmp} {op : Op} {ty : TypeId} {pos : String} {af : Array Edge} {gd : Option (Nat × Bool)} {call : V → List V → H → RO}

theorem run_mkSl {z : List V} {bytes : Nat} {a b : X} (hok : okA P op (.mkSl z bytes a b) = true) (hρ : EnvOk R t ρ) (hs : Sim P F R h.get w) (hfr : Fresh R h h') (he : evA call (.mkSl z bytes a b) t h = .ok v h') :
    OpRun P F R h w (execOp ρ ⟨dst, op, ty, pos, af, gd⟩) v h' := by
  cases op <;> try exact (Bool.false_ne_true hok).elim
  rename_i t' x y
  have hok : (okX x a && okX y b && (match P.underlying t' with
    | some (.slice e) => (match P.info? e with
      | some i => Nat.beq i.bytes bytes && Nat.beq i.size z.length && (match i.zero with
        | some v => sameL z v.cells.toList
        | none => false)
      | none => false)
    | _ => false)) = true := hok
  simp only [Bool.and_eq_true] at hok
  obtain ⟨⟨hxa, hyb⟩, hu⟩ := hok
  split at hu <;> try simp at hu
  rename_i e hue
  cases hi : P.info? e with
  | none => simp [hi] at hu
  | some i =>
    simp only [hi, Bool.and_eq_true, Nat.beq_eq] at hu
    obtain ⟨⟨hby, hsz⟩, hz⟩ := hu
    cases hzv : i.zero with
    | none => simp [hzv] at hz
    | some u =>
      simp only [hzv] at hz
      have hz0 : zeroT P e = some u := by simp [zeroT, hi, hzv]
      have hc := concL_of_same R z _ hz
      have hx := hρ x a hxa
      have hy := hρ y b hyb
      simp only [evA] at he
      split at he <;> try simp at he
      rename_i l c hl hcn
      obtain ⟨k1, hk1⟩ := natOf_i hl
      obtain ⟨k2, hk2⟩ := natOf_i hcn
      rw [hk1] at hx; rw [hk2] at hy
      have hx := conc_i hx
      have hy := conc_i hy
      split at he <;> simp only [RO.ok.injEq, reduceCtorEq] at he
      rename_i hle
      obtain ⟨rfl, rfl⟩ := he
      obtain ⟨⟨hlc, hc48⟩, hb48⟩ := hle
      have w1 : IntKind.i64.wrap (Int.ofNat l) = l := IntWalk.i64_in _ (by rw [Int.ofNat_eq_natCast]; omega)
      have w2 : IntKind.i64.wrap (Int.ofNat c) = c := IntWalk.i64_in _ (by rw [Int.ofNat_eq_natCast]; omega)
      have hsize : (sizeOf e).run P w = .ok i.size w := run_size w (by simp [isSz, szT, hi])
      have hzl : u.cells.toList.length = z.length := concL_length hc
      obtain ⟨arr, ha, hrun⟩ : ∃ arr : Array Value, arr.toList = (List.replicate c u.cells.toList).flatten ∧
          (Instr.makeSlice t' (ρ x) (ρ y)).run P w = .ok (.slice (some ⟨w.heap.size, 0, none⟩) l c) (w.alloc (.cells arr e)) := by
        have hnot1 : ¬ ((decide ((c : Int) < 0) || decide ((bytes : Int) * (c : Int) > 2 ^ 48)) = true) := by
          simp only [Bool.or_eq_true, decide_eq_true_eq, not_or]
          refine ⟨by omega, ?_⟩
          have : ((bytes * c : Nat) : Int) ≤ 281474976710656 := Int.ofNat_le.2 hb48
          rw [Int.natCast_mul] at this
          omega
        have hnot : ¬ (((decide ((c : Int) < 0) || decide ((bytes : Int) * (c : Int) > 2 ^ 48)) || decide ((l : Int) < 0) || decide ((l : Int) > (c : Int))) = true) := by
          rw [Bool.or_eq_true, Bool.or_eq_true, not_or, not_or]
          exact ⟨⟨hnot1, by simp⟩, by simp; omega⟩
        by_cases h0 : c * i.size = 0
        · refine ⟨(Array.range (c * i.size)).map fun k => (#[] : Array Value)[k % 0]!, ?_, ?_⟩
          · rw [← zrow_mul, hzl, ← hsz, h0]
            simp [zrow]
          · simp only [Instr.makeSlice, Sem.run_bind, run_underlying hue, Result.andThen_ok, hx, hy, asInt, asIntOf, Sem.run_pure, run_tInfo w hi, w1, w2, hby]
            rw [if_neg hnot]
            simp only [Sem.run_bind, run_askRoom, Result.andThen_ok, hsize, Int.toNat_natCast]
            rw [if_pos h0]
            simp [newRow]
        · refine ⟨(Array.range (c * i.size)).map fun k => u.cells[k % u.cells.size]!, ?_, ?_⟩
          · rw [zrow_range, ← zrow_mul, hzl, ← hsz]
          · simp only [Instr.makeSlice, Sem.run_bind, run_underlying hue, Result.andThen_ok, hx, hy, asInt, asIntOf, Sem.run_pure, run_tInfo w hi, w1, w2, hby]
            rw [if_neg hnot]
            simp only [Sem.run_bind, run_askRoom, Result.andThen_ok, hsize, Int.toNat_natCast]
            rw [if_neg h0]
            simp [newRow, run_zero w hz0]
      obtain ⟨hf, hs'⟩ := new_cells (e := e) (cs := rep z c) hs (fresh_new hfr) (arr := arr) (by rw [ha]; exact concL_rep hc c)
      exact ⟨.value (.slice (some ⟨w.heap.size, 0, none⟩) l c), _, _, by simp only [execOp, Sem.run_bind, hrun, Result.andThen_ok, Sem.run_pure], .inl rfl, _, _, hf, hs', by simp [conc, Emb.add_self]⟩

/-! ### Built-in functions -/
theorem okB_inv {c : Call} {a : A} (hok : okB P c a = true) : ∃ b, c.callee = .builtin b ∧ okCallB P b c.args.toList c.argTypes.toList a = true := by
  unfold okB at hok
  split at hok <;> try simp at hok
  rename_i b hb
  exact ⟨b, hb, hok⟩

theorem run_builtin {c : Call} {b : Builtin} (hb : c.callee = .builtin b) :
    (execOp ρ ⟨dst, .call c, ty, pos, af, gd⟩).run P w = (builtin b c.argTypes ty (c.args.map fun | .const _ => true | _ => false) (c.args.map ρ)).run P w := by
  simp only [execOp, resolve, hb, Sem.run_bind, Sem.run_pure, Result.andThen_ok, invoke]
  rfl

theorem arr1 {α : Type} {a : Array α} {x : α} (h : a.toList = [x]) : a = #[x] := by
  apply Array.ext'
  simpa using h
theorem arr2 {α : Type} {a : Array α} {x y : α} (h : a.toList = [x, y]) : a = #[x, y] := by
  apply Array.ext'
  simpa using h

theorem run_lenS {y : X} (hok : okA P op (.lenS y) = true) (hρ : EnvOk R t ρ) (hs : Sim P F R h.get w) (he : evA call (.lenS y) t h = .ok v h') :
    OpRun P F R h w (execOp ρ ⟨dst, op, ty, pos, af, gd⟩) v h' := by
  cases op <;> try exact (Bool.false_ne_true hok).elim
  rename_i c
  obtain ⟨b, hb, hk⟩ := okB_inv (show okB P c (.lenS y) = true from hok)
  simp only [okCallB] at hk
  split at hk <;> try simp at hk
  rename_i x t' hx ht
  obtain ⟨hxy, hu⟩ := hk
  split at hu <;> try simp at hu
  rename_i hue
  have hx' := hρ x y hxy
  simp only [evA] at he
  split at he <;> simp only [RO.ok.injEq, reduceCtorEq] at he
  rename_i l hy
  obtain ⟨rfl, rfl⟩ := he
  rw [hy] at hx'
  obtain ⟨hxe, _⟩ := conc_ss hx'
  refine .plain (x := .int .i64 (l.length : Int)) hs ?_ (by simp [conc])
  rw [run_builtin hb, arr1 hx, arr1 ht]
  simp [builtin, Builtin.len_, run_underlying hue, hxe, size_byteArr, goInt]

theorem run_lenL {y : X} (hok : okA P op (.lenL y) = true) (hρ : EnvOk R t ρ) (hs : Sim P F R h.get w) (he : evA call (.lenL y) t h = .ok v h') :
    OpRun P F R h w (execOp ρ ⟨dst, op, ty, pos, af, gd⟩) v h' := by
  cases op <;> try exact (Bool.false_ne_true hok).elim
  rename_i c
  obtain ⟨b, hb, hk⟩ := okB_inv (show okB P c (.lenL y) = true from hok)
  simp only [okCallB] at hk
  split at hk <;> try simp at hk
  rename_i x t' hx ht
  obtain ⟨hxy, hu⟩ := hk
  split at hu <;> try simp at hu
  rename_i e hue
  have hx' := hρ x y hxy
  simp only [evA] at he
  split at he <;> simp only [RO.ok.injEq, reduceCtorEq] at he <;> rename_i hy <;> (obtain ⟨rfl, rfl⟩ := he) <;> rw [hy] at hx'
  · simp [conc] at hx'
    refine .plain (x := .int .i64 0) hs ?_ (by simp [conc])
    rw [run_builtin hb, arr1 hx, arr1 ht]
    simp [builtin, Builtin.len_, run_underlying hue, ← hx', goInt]
  · simp [conc] at hx'
    refine .plain (x := .int .i64 0) hs ?_ (by simp [conc])
    rw [run_builtin hb, arr1 hx, arr1 ht]
    simp [builtin, Builtin.len_, run_underlying hue, ← hx', goInt]
  · rename_i n _ _
    obtain ⟨cb, sz, cap', hR, hxe, hcc, hg1, hg2⟩ := conc_sl hx'
    refine .plain (x := .int .i64 (n : Int)) hs ?_ (by simp [conc])
    rw [run_builtin hb, arr1 hx, arr1 ht]
    simp [builtin, Builtin.len_, run_underlying hue, hxe, goInt]

theorem run_lenC {n : Nat} (hok : okA P op (.lenC n) = true) (hs : Sim P F R h.get w) (he : evA call (.lenC n) t h = .ok v h') :
    OpRun P F R h w (execOp ρ ⟨dst, op, ty, pos, af, gd⟩) v h' := by
  cases op <;> try exact (Bool.false_ne_true hok).elim
  rename_i c
  obtain ⟨b, hb, hk⟩ := okB_inv (show okB P c (.lenC n) = true from hok)
  simp only [okCallB] at hk
  split at hk <;> try simp at hk
  rename_i x t' hx ht
  simp only [evA, RO.ok.injEq] at he
  obtain ⟨rfl, rfl⟩ := he
  refine .plain (x := .int .i64 (n : Int)) hs ?_ (by simp [conc])
  rw [run_builtin hb, arr1 hx, arr1 ht]
  split at hk <;> try simp at hk
  · rename_i m e hue
    subst hk
    simp [builtin, Builtin.len_, run_underlying hue, goInt]
  · rename_i a hue
    split at hk <;> try simp at hk
    rename_i m e hua
    subst hk
    simp [builtin, Builtin.len_, run_underlying hue, run_underlying hua, goInt]

theorem concM_length : ∀ {es : List (V × V)} {l : List (Value × Value)}, concM R es = some l → l.length = es.length
  | [], l, hl => by simp [concM] at hl; subst hl; rfl
  | (k, v) :: es, l, hl => by
    obtain ⟨x, y, w, _, _, h3, rfl⟩ := concM_cons.1 hl
    simp [concM_length h3]

theorem run_lenM {y : X} (hok : okA P op (.lenM y) = true) (hρ : EnvOk R t ρ) (hs : Sim P F R h.get w) (hF : FootOk F (reads (.lenM y) t)) (he : evA call (.lenM y) t h = .ok v h') :
    OpRun P F R h w (execOp ρ ⟨dst, op, ty, pos, af, gd⟩) v h' := by
  cases op <;> try exact (Bool.false_ne_true hok).elim
  rename_i c
  obtain ⟨b, hb, hk⟩ := okB_inv (show okB P c (.lenM y) = true from hok)
  simp only [okCallB] at hk
  split at hk <;> try simp at hk
  rename_i x t' hx ht
  obtain ⟨hxy, hu⟩ := hk
  split at hu <;> try simp at hu
  rename_i k e hue
  have hx' := hρ x y hxy
  simp only [evA] at he
  split at he <;> try simp at he
  · rename_i hy
    obtain ⟨rfl, rfl⟩ := he
    rw [hy] at hx'
    simp [conc] at hx'
    refine .plain (x := .int .i64 0) hs ?_ (by simp [conc])
    rw [run_builtin hb, arr1 hx, arr1 ht]
    simp [builtin, Builtin.len_, run_underlying hue, ← hx', goInt]
  · rename_i m hy
    split at he <;> simp only [RO.ok.injEq, reduceCtorEq] at he
    rename_i es hg
    obtain ⟨rfl, rfl⟩ := he
    rw [hy] at hx'
    simp only [conc, Option.map_eq_some_iff] at hx'
    obtain ⟨⟨cb, sz⟩, hR, hxe⟩ := hx'
    obtain ⟨arr, ck, h1, h2⟩ := hs.blk m cb sz _ (hF m (by simp [hy, blockOf])) hR hg
    have hl := concM_length h2
    refine .plain (x := .int .i64 (es.length : Int)) hs ?_ (by simp [conc])
    rw [run_builtin hb, arr1 hx, arr1 ht]
    simp at hl
    simp [builtin, Builtin.len_, run_underlying hue, ← hxe, getObj, Sem.run, h1, goInt, hl]

theorem run_mm {g : Bool} : ∀ (l : List V) (x : V) (xs : List Value) (y : Value), minI g x l = some v → conc R x = some y → concL R l = some xs → (∃ k n, x = .i k n) →
    ∃ u, (xs.foldlM (if g then Builtin.max2 else Builtin.min2) y).run P w = .ok u w ∧ conc R v = some u
  | [], x, xs, y, hm, hx, hl, _ => by
    simp [concL] at hl
    subst hl
    simp [minI] at hm
    subst hm
    exact ⟨y, by simp, hx⟩
  | z :: l, x, xs, y, hm, hx, hl, ⟨k, n, hxi⟩ => by
    obtain ⟨a, b, h1, h2, rfl⟩ := concL_cons.1 hl
    subst hxi
    simp only [minI] at hm
    split at hm <;> try simp at hm
    rename_i q hq
    unfold mmI at hq
    split at hq <;> simp at hq
    rename_i k1 n1 k2 n2 e1
    simp only [V.i.injEq] at e1
    obtain ⟨rfl, rfl⟩ := e1
    obtain rfl := conc_i hx
    obtain rfl := conc_i h1
    subst hq
    obtain ⟨u, r1, r2⟩ := run_mm l _ b _ hm (by simp only [conc]; rfl) h2 ⟨_, _, rfl⟩
    refine ⟨u, ?_, r2⟩
    cases g
    · simp only [Bool.false_eq_true, if_false, List.foldlM_cons, Sem.run_bind, Builtin.min2, Sem.run_pure, Result.andThen_ok] at r1 ⊢
      exact r1
    · simp only [if_true, List.foldlM_cons, Sem.run_bind, Builtin.max2, Sem.run_pure, Result.andThen_ok, gt_iff_lt] at r1 ⊢
      exact r1

theorem minL_ok {g : Bool} {xs : List V} {l : List Value} (hm : minL g xs = some v) (hl : concL R xs = some l) (h1 : ∀ x, xs = [x] → ∃ k n, x = .i k n) :
    ∃ y ys u, l = y :: ys ∧ (ys.foldlM (if g then Builtin.max2 else Builtin.min2) y).run P w = .ok u w ∧ conc R v = some u := by
  cases xs with
  | nil => simp [minL] at hm
  | cons x xs =>
    obtain ⟨a, b, ha, hb, rfl⟩ := concL_cons.1 hl
    have : ∃ k n, x = .i k n := by
      cases xs with
      | nil => exact h1 x rfl
      | cons y ys =>
        simp only [minL, minI] at hm
        split at hm <;> try simp at hm
        rename_i q hq
        unfold mmI at hq
        split at hq <;> simp at hq
        exact ⟨_, _, rfl⟩
    obtain ⟨u, r1, r2⟩ := run_mm (P := P) (w := w) xs x b a hm ha hb this
    exact ⟨a, b, u, rfl, r1, r2⟩

theorem run_min {xs : List X} (hok : okA P op (.min xs) = true) (hρ : EnvOk R t ρ) (hs : Sim P F R h.get w) (he : evA call (.min xs) t h = .ok v h') :
    OpRun P F R h w (execOp ρ ⟨dst, op, ty, pos, af, gd⟩) v h' := by
  cases op <;> try exact (Bool.false_ne_true hok).elim
  rename_i c
  obtain ⟨b, hb, hk⟩ := okB_inv (show okB P c (.min xs) = true from hok)
  simp only [okCallB] at hk
  split at hk <;> try simp at hk
  have hl := okXs_conc hρ _ _ hk
  simp only [evA] at he
  obtain ⟨hv, rfl⟩ := ofV_ok he
  have hv2 : ∃ y ys u, c.args.toList.map ρ = y :: ys ∧ (ys.foldlM Builtin.min2 y).run P w = .ok u w ∧ conc R v = some u := by
    cases hm : xs.map (X.ev t) with
    | nil => rw [hm] at hv; simp [minL] at hv
    | cons x l =>
      cases l with
      | nil =>
        rw [hm] at hv hl
        simp [minL, minI] at hv
        subst hv
        obtain ⟨a, b', ha, hb', e⟩ := concL_cons.1 hl
        simp [concL] at hb'
        subst hb'
        exact ⟨a, [], a, e, by simp, ha⟩
      | cons y l =>
        obtain ⟨a, b', u, r1, r2, r3⟩ := minL_ok (P := P) (w := w) hv hl (by rw [hm]; intro _ e; simp at e)
        exact ⟨a, b', u, r1, by simpa using r2, r3⟩
  obtain ⟨y, ys, u, r1, r2, r3⟩ := hv2
  refine .plain (x := u) hs ?_ r3
  rw [run_builtin hb]
  simp only [builtin, Builtin.min_, Array.toList_map, r1, Sem.run_bind, r2, Result.andThen_ok, Sem.run_pure]

theorem run_max {xs : List X} (hok : okA P op (.max xs) = true) (hρ : EnvOk R t ρ) (hs : Sim P F R h.get w) (he : evA call (.max xs) t h = .ok v h') :
    OpRun P F R h w (execOp ρ ⟨dst, op, ty, pos, af, gd⟩) v h' := by
  cases op <;> try exact (Bool.false_ne_true hok).elim
  rename_i c
  obtain ⟨b, hb, hk⟩ := okB_inv (show okB P c (.max xs) = true from hok)
  simp only [okCallB] at hk
  split at hk <;> try simp at hk
  have hl := okXs_conc hρ _ _ hk
  simp only [evA] at he
  obtain ⟨hv, rfl⟩ := ofV_ok he
  have hv2 : ∃ y ys u, c.args.toList.map ρ = y :: ys ∧ (ys.foldlM Builtin.max2 y).run P w = .ok u w ∧ conc R v = some u := by
    cases hm : xs.map (X.ev t) with
    | nil => rw [hm] at hv; simp [minL] at hv
    | cons x l =>
      cases l with
      | nil =>
        rw [hm] at hv hl
        simp [minL, minI] at hv
        subst hv
        obtain ⟨a, b', ha, hb', e⟩ := concL_cons.1 hl
        simp [concL] at hb'
        subst hb'
        exact ⟨a, [], a, e, by simp, ha⟩
      | cons y l =>
        obtain ⟨a, b', u, r1, r2, r3⟩ := minL_ok (P := P) (w := w) hv hl (by rw [hm]; intro _ e; simp at e)
        exact ⟨a, b', u, r1, by simpa using r2, r3⟩
  obtain ⟨y, ys, u, r1, r2, r3⟩ := hv2
  refine .plain (x := u) hs ?_ r3
  rw [run_builtin hb]
  simp only [builtin, Builtin.max_, Array.toList_map, r1, Sem.run_bind, r2, Result.andThen_ok, Sem.run_pure]

/-! ### append, copy, clear -/
theorem source_len {x : V} {u : Value} {n : Nat} (hx : conc R x = some u) (hn : sourceLen x = some n) : (Builtin.lenOf u).run P w = .ok n w := by
  unfold sourceLen at hn
  split at hn <;> simp at hn <;> subst hn
  · simp [conc] at hx; subst hx; simp [Builtin.lenOf]
  · simp [conc] at hx; subst hx; simp [Builtin.lenOf]
  · obtain ⟨cb, sz, cap', hR, hxe, _⟩ := conc_sl hx
    subst hxe; simp [Builtin.lenOf]
  · obtain ⟨hxe, _⟩ := conc_ss hx
    subst hxe; simp [Builtin.lenOf, size_byteArr]

theorem source_cells {x : V} {u : Value} {esz n : Nat} {l : List V} (hs : Sim P F R h.get w) (hF : ∀ b, F b) (hx : conc R x = some u) (hc : sourceCells esz n h x = some l) :
    ∃ xs, concL R l = some xs ∧ (Builtin.firstCells esz n u).run P w = .ok xs.toArray w ∧ xs.length = n * esz := by
  unfold sourceCells at hc
  split at hc
  · split at hc <;> simp at hc
    rename_i hn
    subst hc
    simp [conc] at hx
    subst hx
    rw [Nat.beq_eq] at hn
    exact ⟨[], by simp [concL], by simp [Builtin.firstCells], by simp [hn]⟩
  · split at hc <;> simp at hc
    rename_i hn
    subst hc
    simp [conc] at hx
    subst hx
    rw [Nat.beq_eq] at hn
    subst hn
    exact ⟨[], by simp [concL], by simp [Builtin.firstCells, loadCells, loadCellsFrom], by simp⟩
  · rename_i blk off len cap g
    split at hc <;> try simp at hc
    rename_i bl hg
    obtain ⟨cb, sz, cap', hR, hxe, _⟩ := conc_sl hx
    obtain ⟨us, h1, h2, _, h4⟩ := rd_at hs (hF blk) hR hg hc
    refine ⟨us, h1, ?_, h2⟩
    subst hxe
    exact h4
  · rename_i x'
    split at hc
    case isFalse => simp at hc
    rename_i he1
    rw [Nat.beq_eq] at he1
    obtain ⟨hxe, hlt⟩ := conc_ss hx
    rw [Option.bind_eq_some_iff] at hc
    obtain ⟨a, ha, hc⟩ := hc
    obtain ⟨_, rfl⟩ := cut_eq.1 ha
    obtain ⟨hle, rfl⟩ := cut_eq.1 hc
    subst he1 hxe
    have hlen : n ≤ x'.length := by simpa using hle
    refine ⟨(x'.take n).map fun c : Nat => Value.int .u8 (c : Int), ?_, ?_, by simp; omega⟩
    · have : ∀ m : List Nat, concL R (m.map fun c => V.i .u8 (Int.ofNat c)) = some (m.map fun c : Nat => Value.int .u8 (c : Int)) := by
        intro m
        induction m with
        | nil => simp [concL]
        | cons c m ih => exact concL_cons.2 ⟨_, _, by simp [conc], ih, rfl⟩
      have e : ((x'.map fun c => V.i .u8 (Int.ofNat c)).drop 0).take x'.length = x'.map fun c => V.i .u8 (Int.ofNat c) := by
        rw [List.drop_zero, List.take_of_length_le (by simp)]
      rw [e, List.drop_zero, ← List.map_take]
      exact this _
    · simp only [Builtin.firstCells, Sem.run_pure, extract_byteArr, List.drop_zero, Nat.sub_zero]
      congr 1
      apply Array.ext'
      simp only [byteArr, Array.toList_map]
      simp only [List.map_map]
      apply List.map_congr_left
      intro c hcm
      have := hlt c (List.mem_of_mem_take hcm)
      simp
      omega
  · simp at hc

theorem growBy_le (m : Nat) : ∀ r c, c ≤ m + (m + 768) / 4 → Builtin.growBy m r c ≤ m + (m + 768) / 4
  | 0, c, hc => by simpa [Builtin.growBy] using hc
  | r + 1, c, hc => by
    simp only [Builtin.growBy]
    split
    · exact hc
    · exact growBy_le m r _ (by omega)
theorem nextcap_le {m c : Nat} (hc : c < m) : Builtin.nextslicecap m c ≤ 2 * m + 200 := by
  unfold Builtin.nextslicecap
  split
  · omega
  · split
    · omega
    · have := growBy_le m 4 c (by omega)
      omega

theorem Sim.drew {mem : Nat → Option Blk} (hs : Sim P F R mem w) : Sim P F R mem w.drew := ⟨fun b c sz x h1 h2 h3 => by
  have := hs.blk b c sz x h1 h2 h3
  cases x <;> exact this, hs.inj, hs.lt⟩

/-- what append does where there is no room. -/
theorem append_grow {st xt e : TypeId} {i : TypeInfo} {z : Value} {d : TypeDesc} {base : Option Addr} {sLen sCap n esz : Nat} {s x : Value} {old new : List Value} {args : Array Value} {ats : Array TypeId}
    (hst : P.underlying st = some (.slice e)) (hxt : P.underlying xt = some d) (hd : ∀ k, d ≠ .int k) (hi : P.info? e = some i) (hz : i.zero = some z) (hesz : i.size = esz)
    (hargs : args = #[s, x]) (hats : ats = #[st, xt]) (hse : s = .slice base sLen sCap) (hn : (Builtin.lenOf x).run P w = .ok n w) (hneed : ¬ sLen + n ≤ sCap) (hb : 0 < i.bytes)
    (hroom : (2 * (sLen + n) + 200) * i.bytes ≤ 281474976710656) (hold : ∀ w' : World, w'.heap = w.heap → (Builtin.firstCells esz sLen s).run P w' = .ok old.toArray w')
    (hnew : ∀ w' : World, w'.heap = w.heap → (Builtin.firstCells esz n x).run P w' = .ok new.toArray w') :
    ∃ newCap rest, sLen + n ≤ newCap ∧ rest = (List.replicate (newCap - (sLen + n)) z.cells.toList).flatten ∧
      (Builtin.append_ ats ty args).run P w = .ok (.slice (some ⟨w.heap.size, 0, none⟩) (sLen + n) newCap) (w.drew.alloc (.cells (old ++ new ++ rest).toArray e)) := by
  subst hargs hats hse
  have hzero : zeroT P e = some z := by simp [zeroT, hi, hz]
  have hsz : ∀ w' : World, (sizeOf e).run P w' = .ok esz w' := fun w' => run_size w' (by simp [isSz, szT, hi, hesz])
  have hlim : ¬ (Builtin.nextslicecap (sLen + n) sCap * i.bytes > 2 ^ 48) := by
    have h1 := nextcap_le (m := sLen + n) (c := sCap) (by omega)
    have h2 : Builtin.nextslicecap (sLen + n) sCap * i.bytes ≤ (2 * (sLen + n) + 200) * i.bytes := Nat.mul_le_mul_right _ h1
    omega
  let q : Question := .appendCap (sLen + n) sCap e
  have hq : q.forced = false := rfl
  have hcut : q.cut (w.tape w.drawn q) = sLen + n + w.tape w.drawn q % (2 ^ 63 - (sLen + n)) := rfl
  refine ⟨q.cut (w.tape w.drawn q), _, by rw [hcut]; omega, rfl, ?_⟩
  have hint : ∀ b : Bool, (match d with | .int _ => b | _ => !b) = !b := by
    intro b
    cases d <;> simp
    exact absurd rfl (hd _)
  have hnz : (match d with | .int _ => true | _ => false) = false := by
    cases d <;> simp
    exact absurd rfl (hd _)
  simp only [Builtin.append_]
  simp only [List.getElem?_toArray, List.getElem?_cons_zero, List.getElem?_cons_succ, Sem.run_bind, run_underlying hst, Result.andThen_ok, hsz, run_underlying hxt, Sem.run_pure, hnz, Bool.false_eq_true, if_false, hn]
  rw [if_neg hneed]
  have hb0 : i.bytes ≠ 0 := by omega
  simp only [run_tInfo w hi, Sem.run_bind, Result.andThen_ok, false_or, hb0, and_false, if_false]
  rw [if_neg hlim]
  simp only [Sem.run_bind, run_choose, show (Question.appendCap (sLen + n) sCap e).forced = false from rfl, Bool.false_eq_true, if_false, Result.andThen_ok, run_askRoom, run_tInfo _ hi]
  simp only [World.drew_eq]
  rw [hold w.drew rfl]
  simp only [Result.andThen_ok, Bool.not_false, if_true]
  rw [hnew w.drew rfl]
  simp only [Result.andThen_ok, run_zero _ hzero, newRow, Sem.run_bind, run_newObj, Sem.run_pure]
  congr 3
  congr 1
  apply Array.ext'
  simp [zeroCells_eq]
  rfl
end
end Go.Air
