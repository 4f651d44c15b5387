/-
  One operation on both sides: what Air's does, the model's does. First part: values, variables, blocks.
-/
import Derived.Test.YtlldpmkdjpmlpaaSim
set_option linter.unusedSectionVars false
set_option linter.unusedVariables false
set_option linter.unusedSimpArgs false
namespace Go.Air

section runs
variable {P : Program} (w : World)
theorem run_tInfo {t : TypeId} {i : TypeInfo} (h : P.info? t = some i) : (typeInfo t).run P w = .ok i w := by simp [typeInfo, h]
theorem szT_info {t : TypeId} {n : Nat} (h : isSz P t n = true) : ∃ i, P.info? t = some i ∧ i.size = n := by
  unfold isSz szT at h
  cases hi : P.info? t with
  | none => simp [hi] at h
  | some i => simp [hi] at h; exact ⟨i, rfl, h⟩
theorem run_size {t : TypeId} {n : Nat} (h : isSz P t n = true) : (sizeOf t).run P w = .ok n w := by
  obtain ⟨i, hi, hn⟩ := szT_info h
  simp [sizeOf, run_tInfo w hi, hn]
theorem zeroT_info {t : TypeId} {v : Value} (h : zeroT P t = some v) : ∃ i, P.info? t = some i ∧ i.zero = some v := by
  unfold zeroT at h
  cases hi : P.info? t with
  | none => simp [hi] at h
  | some i => simp [hi] at h; exact ⟨i, rfl, h⟩
theorem run_zero {t : TypeId} {v : Value} (h : zeroT P t = some v) : (zeroValue t).run P w = .ok v w := by
  obtain ⟨i, hi, hz⟩ := zeroT_info h
  simp [zeroValue, run_tInfo w hi, hz]
theorem plainT_d {t : TypeId} (h : plainT P t = true) : ∃ d, P.underlying t = some d ∧ isAggD d = false := by
  unfold plainT at h
  cases hd : P.underlying t with
  | none => simp [hd] at h
  | some d => simp [hd] at h; exact ⟨d, rfl, h⟩
theorem aggT_d {t : TypeId} (h : aggT P t = true) : ∃ d, P.underlying t = some d ∧ isAggD d = true := by
  unfold aggT at h
  cases hd : P.underlying t with
  | none => simp [hd] at h
  | some d => simp [hd] at h; exact ⟨d, rfl, h⟩
theorem run_isAgg_plain {t : TypeId} (h : plainT P t = true) : (isAgg t).run P w = .ok false w := by
  obtain ⟨d, hd, ha⟩ := plainT_d h
  cases d <;> simp [isAggD] at ha <;> simp [isAgg, run_underlying hd]
theorem run_isAgg_agg {t : TypeId} (h : aggT P t = true) : (isAgg t).run P w = .ok true w := by
  obtain ⟨d, hd, ha⟩ := aggT_d h
  cases d <;> simp [isAggD] at ha <;> simp [isAgg, run_underlying hd]
end runs

/-- The outcome of an operation on the model's side. -/
def OpRun (P : Program) (F : Nat → Prop) (R : Emb) (h : H) (w : World) (s : Sem Next) (v : V) (h' : H) : Prop :=
  ∃ nx x w', s.run P w = .ok nx w' ∧ (nx = .value x ∨ (nx = .skip ∧ x = undef)) ∧ PostV P F R h w v h' x w'

section
variable {P : Program} {F : Nat → Prop} {R : Emb} {h h' : H} {w : World} {t : List V} {ρ : Operand → Value} {v : V}
  {dst : Option Tmp} {op : Op} {ty : TypeId} {pos : String} {af : Array Edge} {gd : Option (Nat × Bool)} {call : V → List V → H → RO}

/-- Each operand's value stands for its mirror's. -/
def EnvOk (R : Emb) (t : List V) (ρ : Operand → Value) : Prop := ∀ x y, okX x y = true → conc R (y.ev t) = some (ρ x)

theorem OpRun.plain {s : Sem Next} {x : Value} (hs : Sim P F R h.get w) (hr : s.run P w = .ok (.value x) w) (hv : conc R v = some x) : OpRun P F R h w s v h :=
  ⟨_, x, w, hr, .inl rfl, .same hs hv⟩

theorem ofV_ok {o : Option V} (he : RO.ofV h o = .ok v h') : o = some v ∧ h' = h := by
  cases o with
  | none => simp [RO.ofV] at he
  | some u => simp [RO.ofV] at he; exact ⟨by rw [he.1], he.2.symm⟩

theorem run_mov {y : X} (hok : okA P op (.mov y) = true) (hρ : EnvOk R t ρ) (hs : Sim P F R h.get w) (he : evA call (.mov y) t h = .ok v h') :
    OpRun P F R h w (execOp ρ ⟨dst, op, ty, pos, af, gd⟩) v h' := by
  simp only [evA, RO.ok.injEq] at he
  obtain ⟨rfl, rfl⟩ := he
  cases op <;> first
    | exact (Bool.false_ne_true hok).elim
    | exact .plain hs rfl (hρ _ y hok)

theorem run_pick {a b c : X} (hok : okA P op (.pick a b c) = true) (hρ : EnvOk R t ρ) (hs : Sim P F R h.get w) (he : evA call (.pick a b c) t h = .ok v h') :
    OpRun P F R h w (execOp ρ ⟨dst, op, ty, pos, af, gd⟩) v h' := by
  cases op <;> try exact (Bool.false_ne_true hok).elim
  rename_i a' b' c'
  have hok : (okX a' a && okX b' b && okX c' c) = true := hok
  simp only [Bool.and_eq_true] at hok
  obtain ⟨⟨ha, hb⟩, hc⟩ := hok
  have ha := hρ _ _ ha
  simp only [evA] at he
  split at he <;> simp only [RO.ok.injEq, reduceCtorEq] at he
  · rename_i e
    obtain ⟨rfl, rfl⟩ := he
    rw [e] at ha; simp only [conc, Option.some.injEq] at ha
    exact .plain hs (by simp [execOp, ← ha, asBool]) (hρ _ _ hb)
  · rename_i e
    obtain ⟨rfl, rfl⟩ := he
    rw [e] at ha; simp only [conc, Option.some.injEq] at ha
    exact .plain hs (by simp [execOp, ← ha, asBool]) (hρ _ _ hc)

/-- a new row of cells. -/
theorem new_cells {cs : List V} {arr : Array Value} {e : TypeId} (hs : Sim P F R h.get w) (hf : R h.next = none) (hc : concL R cs = some arr.toList) :
    Fwd R (R.add h.next (w.heap.size, arr.size)) h (h.new (.cells cs)) w (w.alloc (.cells arr e)) [] ∧ Sim P F (R.add h.next (w.heap.size, arr.size)) (h.new (.cells cs)).get (w.alloc (.cells arr e)) :=
  new_step hs hf fun w' hw' => ⟨arr, e, arr.toList, [], hw', concL_mono (Emb.le_add hf) _ _ hc, by simp, rfl⟩

theorem fresh_new {x : Blk} (hfr : Fresh R h (h.new x)) : R h.next = none := hfr h.next (Nat.le_refl _) (by simp)

theorem run_alloc {z : List V} (hok : okA P op (.alloc z) = true) (hs : Sim P F R h.get w) (hfr : Fresh R h h') (he : evA call (.alloc z) t h = .ok v h') :
    OpRun P F R h w (execOp ρ ⟨dst, op, ty, pos, af, gd⟩) v h' := by
  simp only [evA, RO.ok.injEq] at he
  obtain ⟨rfl, rfl⟩ := he
  cases op <;> try exact (Bool.false_ne_true hok).elim
  rename_i e
  have hok : okZ P e z = true := hok
  unfold okZ at hok
  cases hz : zeroT P e with
  | none => simp [hz] at hok
  | some u =>
    rw [hz] at hok
    have hc := concL_of_same R z _ hok
    obtain ⟨hf, hs'⟩ := new_cells (e := e) hs (fresh_new hfr) hc
    refine ⟨.value (.pointer (some ⟨w.heap.size, 0, none⟩)), _, _, ?_, .inl rfl, _, _, hf, hs', ?_⟩
    · simp [execOp, Instr.alloc, run_zero w hz, newVar, newRow]
    · simp [conc, Emb.add_self]

theorem run_box {y : X} (hok : okA P op (.box y) = true) (hρ : EnvOk R t ρ) (hs : Sim P F R h.get w) (hfr : Fresh R h h') (he : evA call (.box y) t h = .ok v h') :
    OpRun P F R h w (execOp ρ ⟨dst, op, ty, pos, af, gd⟩) v h' := by
  simp only [evA, RO.ok.injEq] at he
  obtain ⟨rfl, rfl⟩ := he
  cases op <;> try exact (Bool.false_ne_true hok).elim
  rename_i e x
  have hx := hρ x y hok
  obtain ⟨l, hl, hc⟩ := conc_cells hx
  obtain ⟨hf, hs'⟩ := new_cells (e := e) hs (fresh_new hfr) (arr := l.toArray) (by simpa using hl)
  refine ⟨.value (.pointer (some ⟨w.heap.size, 0, none⟩)), _, _, ?_, .inl rfl, _, _, hf, hs', ?_⟩
  · simp [execOp, Instr.box, newVar, newRow, hc]
  · simp [conc, Emb.add_self]

/-! ### parts put into zero cells -/
theorem zip_set : ∀ (vs : List Value) (k off : Nat) (arr : Array Value), off + k + vs.length ≤ arr.size →
    ((vs.zipIdx k).foldl (fun cs (x : Value × Nat) => cs.setIfInBounds (off + x.2) x.1) arr).toList = arr.toList.take (off + k) ++ vs ++ arr.toList.drop (off + k + vs.length)
  | [], k, off, arr, _ => by simp
  | v :: vs, k, off, arr, hn => by
    simp only [List.zipIdx_cons, List.foldl_cons]
    simp only [List.length_cons] at hn
    rw [zip_set vs (k + 1) off _ (by simp; omega)]
    have hlen : off + k + 1 + vs.length ≤ arr.toList.length := by have e1 : arr.toList.length = arr.size := Array.length_toList; omega
    simp only [Array.toList_setIfInBounds]
    rw [show off + (k + 1) = (off + k) + 1 by omega]
    exact list_store arr.toList (off + k) v vs hlen

theorem fill_step {z z' cs : List V} {off : Nat} {arr : Array Value} {x : Value} {l : List Value} (hz : concL R z = some arr.toList) (hcs : concL R cs = some l) (hx : x.cells = l.toArray)
    (hl : lay z off cs = some z') : ¬ (off + x.cells.size > arr.size) ∧ concL R z' = some (x.cells.zipIdx.foldl (fun cs (y : Value × Nat) => cs.setIfInBounds (off + y.2) y.1) arr).toList := by
  obtain ⟨hle, rfl⟩ := lay_eq.1 hl
  have h1 := concL_length hz
  have h2 := concL_length hcs
  have h3 : x.cells.size = cs.length := by rw [hx]; simpa using h2
  have h4 : arr.toList.length = arr.size := Array.length_toList
  refine ⟨by omega, ?_⟩
  rw [hx, ← Array.foldl_toList]
  simp only [Array.toList_zipIdx]
  rw [zip_set l 0 off arr (by omega)]
  simp only [Nat.add_zero]
  rw [h2]
  exact concL_append (concL_append (concL_take off hz) hcs) (concL_drop _ hz)

theorem fill_S {fs : Array Field} {places : Array (Nat × Nat)} (hp : ∀ (i : Nat) (f : Field) (n : Nat), fs[i]? = some f → isSz P f.type n = true → places[i]? = some (f.offset, n)) (hρ : EnvOk R t ρ) :
    ∀ (parts : List (Nat × Operand)) (ps : List (Nat × Nat × X)) (z z' : List V) (arr : Array Value), okPartsS P fs parts ps = true → concL R z = some arr.toList → fill t z ps = some z' →
      ∃ arr', Instr.fill (places[·]?) arr (parts.map fun p => (p.1, ρ p.2)) = some arr' ∧ concL R z' = some arr'.toList
  | [], [], z, z', arr, _, hz, hf => by
    simp only [fill, Option.some.injEq] at hf
    subst hf
    exact ⟨arr, by simp [Instr.fill], hz⟩
  | [], _ :: _, _, _, _, hok, _, _ => by simp [okPartsS] at hok
  | (i, x) :: l, [], _, _, _, hok, _, _ => by simp [okPartsS] at hok
  | (i, x) :: l, (off, sz, y) :: m, z, z', arr, hok, hz, hf => by
    simp only [okPartsS, Bool.and_eq_true] at hok
    obtain ⟨⟨hfld, hx⟩, hrest⟩ := hok
    cases hfi : fs[i]? with
    | none => simp [hfi] at hfld
    | some f =>
      simp only [hfi, Bool.and_eq_true, Nat.beq_eq] at hfld
      obtain ⟨ho, hsz⟩ := hfld
      have hpl := hp i f sz hfi hsz
      obtain ⟨lv, hl, hc⟩ := conc_cells (hρ x y hx)
      simp only [fill] at hf
      split at hf
      · rename_i hlen
        rw [Nat.beq_eq] at hlen
        split at hf
        · rename_i z1 hlay
          obtain ⟨hb, hz1⟩ := fill_step hz hl hc hlay
          obtain ⟨arr', h1, h2⟩ := fill_S hp hρ l m z1 z' _ hrest hz1 hf
          refine ⟨arr', ?_, h2⟩
          have hsize : (ρ x).cells.size = sz := by rw [hc]; simp [concL_length hl, hlen]
          simp only [List.map_cons, Instr.fill, hpl, ho]
          rw [if_neg (by simp [hsize]; omega)]
          exact h1
        · simp at hf
      · simp at hf

theorem fill_A {size : Nat} (hρ : EnvOk R t ρ) :
    ∀ (parts : List (Nat × Operand)) (ps : List (Nat × Nat × X)) (z z' : List V) (arr : Array Value), okPartsA size parts ps = true → concL R z = some arr.toList → fill t z ps = some z' →
      ∃ arr', Instr.fill (fun i => some (i * size, size)) arr (parts.map fun p => (p.1, ρ p.2)) = some arr' ∧ concL R z' = some arr'.toList
  | [], [], z, z', arr, _, hz, hf => by
    simp only [fill, Option.some.injEq] at hf
    subst hf
    exact ⟨arr, by simp [Instr.fill], hz⟩
  | [], _ :: _, _, _, _, hok, _, _ => by simp [okPartsA] at hok
  | (i, x) :: l, [], _, _, _, hok, _, _ => by simp [okPartsA] at hok
  | (i, x) :: l, (off, sz, y) :: m, z, z', arr, hok, hz, hf => by
    simp only [okPartsA, Bool.and_eq_true, Nat.beq_eq] at hok
    obtain ⟨⟨⟨ho, hsz⟩, hx⟩, hrest⟩ := hok
    subst hsz
    obtain ⟨lv, hl, hc⟩ := conc_cells (hρ x y hx)
    simp only [fill] at hf
    split at hf
    · rename_i hlen
      rw [Nat.beq_eq] at hlen
      split at hf
      · rename_i z1 hlay
        obtain ⟨hb, hz1⟩ := fill_step hz hl hc hlay
        obtain ⟨arr', h1, h2⟩ := fill_A hρ l m z1 z' _ hrest hz1 hf
        refine ⟨arr', ?_, h2⟩
        have hsize : (ρ x).cells.size = size := by rw [hc]; simp [concL_length hl, hlen]
        simp only [List.map_cons, Instr.fill, ho]
        rw [if_neg (by simp [hsize]; omega)]
        exact h1
      · simp at hf
    · simp at hf

theorem mapM_places : ∀ (fs : List Field), fs.all (fun f => (szT P f.type).isSome) = true →
    (fs.mapM (m := Sem) fun f => Prod.mk f.offset <$> sizeOf f.type).run P w = .ok (fs.map fun f => (f.offset, (szT P f.type).getD 0)) w
  | [], _ => by simp
  | f :: fs, hall => by
    simp only [List.all_cons, Bool.and_eq_true] at hall
    obtain ⟨h1, h2⟩ := hall
    cases hs : szT P f.type with
    | none => simp [hs] at h1
    | some n =>
      have hr : (sizeOf f.type).run P w = .ok n w := run_size w (by simp [isSz, hs])
      simp [List.mapM_cons, hr, mapM_places fs h2, hs]

theorem run_build {z : List V} {ps : List (Nat × Nat × X)} (hok : okA P op (.build z ps) = true) (hρ : EnvOk R t ρ) (hs : Sim P F R h.get w) (he : evA call (.build z ps) t h = .ok v h') :
    OpRun P F R h w (execOp ρ ⟨dst, op, ty, pos, af, gd⟩) v h' := by
  cases op <;> try exact (Bool.false_ne_true hok).elim
  rename_i ty' parts
  have hok : (okZ P ty' z && (match P.underlying ty' with
    | some (.struct fs) => fs.toList.all (fun f => (szT P f.type).isSome) && okPartsS P fs parts.toList ps
    | some (.array _ e) => (match szT P e with
      | some n => okPartsA n parts.toList ps
      | none => false)
    | _ => false)) = true := hok
  rw [Bool.and_eq_true] at hok
  obtain ⟨hz, hp⟩ := hok
  unfold okZ at hz
  cases hzv : zeroT P ty' with
  | none => simp [hzv] at hz
  | some u =>
    rw [hzv] at hz
    have hcz := concL_of_same R z _ hz
    simp only [evA] at he
    split at he <;> simp only [RO.ok.injEq, reduceCtorEq] at he
    rename_i c hfill
    obtain ⟨rfl, rfl⟩ := he
    have hmap : (parts.map fun x => (x.1, ρ x.2)).toList = parts.toList.map fun p => (p.1, ρ p.2) := by simp
    split at hp <;> try simp at hp
    · rename_i fs hu
      obtain ⟨hall, hparts⟩ := hp
      obtain ⟨arr', h1, h2⟩ := fill_S (P := P) (fs := fs) (places := (fs.toList.map fun f => (f.offset, (szT P f.type).getD 0)).toArray)
        (fun i f n hi hn => by
          have : szT P f.type = some n := by
            unfold isSz at hn
            cases hs : szT P f.type with
            | none => simp [hs] at hn
            | some m => simp [hs] at hn; rw [hn]
          simp [hi, this]) hρ parts.toList ps z c u.cells hparts hcz hfill
      refine OpRun.plain (x := .agg arr') hs ?_ (by simp [conc, h2])
      have hmp := mapM_places (P := P) (w := w) fs.toList (by simpa using hall)
      simp only [execOp, Instr.build, Sem.run_bind, run_zero w hzv, Result.andThen_ok, run_underlying hu, Array.mapM_eq_mapM_toList]
      have hmp' : (fs.toList.mapM (m := Sem) fun f => do let a ← sizeOf f.type; pure (f.offset, a)).run P w = .ok (fs.toList.map fun f => (f.offset, (szT P f.type).getD 0)) w := by
        have e : (fun f : Field => (do let a ← sizeOf f.type; pure (f.offset, a) : Sem (Nat × Nat))) = fun f => Prod.mk f.offset <$> sizeOf f.type := by funext f; simp
        rw [e]; exact hmp
      simp only [Sem.run_map, hmp', Result.andThen_ok]
      rw [hmap, h1]
      simp
    · rename_i n e hu
      cases hse : szT P e with
      | none => simp [hse] at hp
      | some k =>
        simp only [hse] at hp
        obtain ⟨arr', h1, h2⟩ := fill_A hρ parts.toList ps z c u.cells hp hcz hfill
        refine OpRun.plain (x := .agg arr') hs ?_ (by simp [conc, h2])
        have hr : (sizeOf e).run P w = .ok k w := run_size w (by simp [isSz, hse])
        simp only [execOp, Instr.build, Sem.run_bind, run_zero w hzv, Result.andThen_ok, run_underlying hu, hr]
        rw [hmap, h1]
        simp

theorem zrow_range (z : Array Value) (n : Nat) : ((Array.range n).map fun i => z[i % z.size]!).toList = zrow z.toList n := by
  simp only [Array.toList_map, Array.toList_range, zrow, Array.length_toList]
  congr 1
  funext i
  rw [getElem!_def, List.getD_eq_getElem?_getD]
  simp only [Array.getElem?_toList]
  cases z[i % z.size]? <;> rfl

theorem run_buildSl {z : List V} {len : Nat} {ps : List (Nat × Nat × X)} (hok : okA P op (.buildSl z len ps) = true) (hρ : EnvOk R t ρ) (hs : Sim P F R h.get w) (hfr : Fresh R h h')
    (he : evA call (.buildSl z len ps) t h = .ok v h') : OpRun P F R h w (execOp ρ ⟨dst, op, ty, pos, af, gd⟩) v h' := by
  cases op <;> try exact (Bool.false_ne_true hok).elim
  rename_i ty' len' parts
  have hok : (Nat.beq len' len && (match P.underlying ty' with
    | some (.slice e) => (match P.info? e with
      | some i => Nat.ble (len' * i.size) 16777216 && okPartsA i.size parts.toList ps && (match i.zero with
        | some v => sameL z (zrow v.cells.toList (len' * i.size))
        | none => false)
      | none => false)
    | _ => false)) = true := hok
  rw [Bool.and_eq_true, Nat.beq_eq] at hok
  obtain ⟨rfl, hp⟩ := hok
  split at hp <;> try simp at hp
  rename_i e hu
  cases hi : P.info? e with
  | none => simp [hi] at hp
  | some i =>
    simp only [hi, Bool.and_eq_true, Nat.ble_eq] at hp
    obtain ⟨⟨hle, hparts⟩, hz⟩ := hp
    cases hzv : i.zero with
    | none => simp [hzv] at hz
    | some u =>
      simp only [hzv] at hz
      have hz0 : zeroT P e = some u := by simp [zeroT, hi, hzv]
      have hr : (sizeOf e).run P w = .ok i.size w := run_size w (by simp [isSz, szT, hi])
      simp only [evA] at he
      split at he <;> simp only [RO.ok.injEq, reduceCtorEq] at he
      rename_i c hfill
      obtain ⟨rfl, rfl⟩ := he
      have hcz : concL R z = some (zrow u.cells.toList (len' * i.size)) := concL_of_same R z _ hz
      have hmap : (parts.map fun x => (x.1, ρ x.2)).toList = parts.toList.map fun p => (p.1, ρ p.2) := by simp
      have key : ∃ arr0 : Array Value, arr0.toList = zrow u.cells.toList (len' * i.size) ∧
          (Instr.buildSlice ty' len' (parts.map fun x => (x.1, ρ x.2))).run P w = (match Instr.fill (fun k => some (k * i.size, i.size)) arr0 (parts.toList.map fun p => (p.1, ρ p.2)) with
            | some cells => .ok (.slice (some ⟨w.heap.size, 0, none⟩) len' len') (w.alloc (.cells cells e))
            | none => .halt (.stuck "buildSlice: a part of the wrong size") w) := by
        by_cases h0 : len' * i.size = 0
        · refine ⟨(Array.range (len' * i.size)).map fun k => (#[] : Array Value)[k % 0]!, by simp [h0, zrow], ?_⟩
          simp only [Instr.buildSlice, Sem.run_bind, run_underlying hu, Result.andThen_ok, hr]
          rw [if_neg (by omega), if_pos h0, hmap]
          simp only [Sem.run_bind, Sem.run_pure, Result.andThen_ok, List.size_toArray, List.length_nil]
          cases Instr.fill (fun k => some (k * i.size, i.size)) ((Array.range (len' * i.size)).map fun k => (#[] : Array Value)[k % 0]!) (parts.toList.map fun p => (p.1, ρ p.2)) <;> simp [newRow]
        · refine ⟨(Array.range (len' * i.size)).map fun k => u.cells[k % u.cells.size]!, zrow_range _ _, ?_⟩
          simp only [Instr.buildSlice, Sem.run_bind, run_underlying hu, Result.andThen_ok, hr]
          rw [if_neg (by omega), if_neg h0, hmap]
          simp only [Sem.run_bind, run_zero w hz0, Sem.run_pure, Result.andThen_ok]
          cases Instr.fill (fun k => some (k * i.size, i.size)) ((Array.range (len' * i.size)).map fun k => u.cells[k % u.cells.size]!) (parts.toList.map fun p => (p.1, ρ p.2)) <;> simp [newRow]
      obtain ⟨arr0, ha0, hrun⟩ := key
      obtain ⟨arr', h1, h2⟩ := fill_A hρ parts.toList ps z c arr0 hparts (by rw [ha0]; exact hcz) hfill
      rw [h1] at hrun
      obtain ⟨hf, hs'⟩ := new_cells (e := e) hs (fresh_new hfr) h2
      refine ⟨.value (.slice (some ⟨w.heap.size, 0, none⟩) len' len'), _, _, ?_, .inl rfl, _, _, hf, hs', by simp [conc, Emb.add_self]⟩
      simp [execOp, hrun]
end
end Go.Air
