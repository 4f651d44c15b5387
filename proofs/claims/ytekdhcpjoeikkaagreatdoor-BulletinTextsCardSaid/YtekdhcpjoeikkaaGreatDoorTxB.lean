/-
  A part of the proof of: The row of BulletinTexts and its tied card, out of the lifted form.
-/
import Derived.Laws.StructEq
import Derived.IntWalk
import Derived.ChangeKeysEq
import Derived.Laws.BytesString
import Derived.Test.YtekdhcpjoeikkaaGreatDoorTxA
set_option linter.unusedSectionVars false
set_option linter.unusedVariables false
set_option linter.unusedSimpArgs false
namespace Go.Air
section runs
variable {P : Program} (w : World)
theorem run_tInfo {t : TypeId} {i : TypeInfo} (h : P.info? t = some i) : (typeInfo t).run P w = .ok i w := by simp [typeInfo, h]
theorem szT_info {t : TypeId} {n : Nat} (h : isSz P t n = true) : ∃ i, P.info? t = some i ∧ i.size = n := by
  unfold isSz szT at h
  cases hi : P.info? t with
  | none => simp [hi] at h
  | some i => simp [hi] at h; exact ⟨i, rfl, h⟩
theorem run_size {t : TypeId} {n : Nat} (h : isSz P t n = true) : (sizeOf t).run P w = .ok n w := by
  obtain ⟨i, hi, hn⟩ := szT_info h
  simp [sizeOf, run_tInfo w hi, hn]
theorem zeroT_info {t : TypeId} {v : Value} (h : zeroT P t = some v) : ∃ i, P.info? t = some i ∧ i.zero = some v := by
  unfold zeroT at h
  cases hi : P.info? t with
  | none => simp [hi] at h
  | some i => simp [hi] at h; exact ⟨i, rfl, h⟩
theorem run_zero {t : TypeId} {v : Value} (h : zeroT P t = some v) : (zeroValue t).run P w = .ok v w := by
  obtain ⟨i, hi, hz⟩ := zeroT_info h
  simp [zeroValue, run_tInfo w hi, hz]
theorem plainT_d {t : TypeId} (h : plainT P t = true) : ∃ d, P.underlying t = some d ∧ isAggD d = false := by
  unfold plainT at h
  cases hd : P.underlying t with
  | none => simp [hd] at h
  | some d => simp [hd] at h; exact ⟨d, rfl, h⟩
theorem aggT_d {t : TypeId} (h : aggT P t = true) : ∃ d, P.underlying t = some d ∧ isAggD d = true := by
  unfold aggT at h
  cases hd : P.underlying t with
  | none => simp [hd] at h
  | some d => simp [hd] at h; exact ⟨d, rfl, h⟩
theorem run_isAgg_plain {t : TypeId} (h : plainT P t = true) : (isAgg t).run P w = .ok false w := by
  obtain ⟨d, hd, ha⟩ := plainT_d h
  cases d <;> simp [isAggD] at ha <;> simp [isAgg, run_underlying hd]
theorem run_isAgg_agg {t : TypeId} (h : aggT P t = true) : (isAgg t).run P w = .ok true w := by
  obtain ⟨d, hd, ha⟩ := aggT_d h
  cases d <;> simp [isAggD] at ha <;> simp [isAgg, run_underlying hd]
end runs
def OpRun (P : Program) (F : Nat → Prop) (R : Emb) (h : H) (w : World) (s : Sem Next) (v : V) (h' : H) : Prop :=
  ∃ nx x w', s.run P w = .ok nx w' ∧ (nx = .value x ∨ (nx = .skip ∧ x = undef)) ∧ PostV P F R h w v h' x w'
section
variable {P : Program} {F : Nat → Prop} {R : Emb} {h h' : H} {w : World} {t : List V} {ρ : Operand → Value} {v : V}
  {dst : Option Tmp} {op : Op} {ty : TypeId} {pos : String} {af : Array Edge} {gd : Option (Nat × Bool)} {call : V → List V → H → RO}
def EnvOk (R : Emb) (t : List V) (ρ : Operand → Value) : Prop := ∀ x y, okX x y = true → conc R (y.ev t) = some (ρ x)
theorem OpRun.plain {s : Sem Next} {x : Value} (hs : Sim P F R h.get w) (hr : s.run P w = .ok (.value x) w) (hv : conc R v = some x) : OpRun P F R h w s v h :=
  ⟨_, x, w, hr, .inl rfl, .same hs hv⟩
theorem ofV_ok {o : Option V} (he : RO.ofV h o = .ok v h') : o = some v ∧ h' = h := by
  cases o with
  | none => simp [RO.ofV] at he
  | some u => simp [RO.ofV] at he; exact ⟨by rw [he.1], he.2.symm⟩
theorem run_mov {y : X} (hok : okA P op (.mov y) = true) (hρ : EnvOk R t ρ) (hs : Sim P F R h.get w) (he : evA call (.mov y) t h = .ok v h') :
    OpRun P F R h w (execOp ρ ⟨dst, op, ty, pos, af, gd⟩) v h' := by
  simp only [evA, RO.ok.injEq] at he
  obtain ⟨rfl, rfl⟩ := he
  cases op <;> first
    | exact (Bool.false_ne_true hok).elim
    | exact .plain hs rfl (hρ _ y hok)
theorem run_pick {a b c : X} (hok : okA P op (.pick a b c) = true) (hρ : EnvOk R t ρ) (hs : Sim P F R h.get w) (he : evA call (.pick a b c) t h = .ok v h') :
    OpRun P F R h w (execOp ρ ⟨dst, op, ty, pos, af, gd⟩) v h' := by
  cases op <;> try exact (Bool.false_ne_true hok).elim
  rename_i a' b' c'
  have hok : (okX a' a && okX b' b && okX c' c) = true := hok
  simp only [Bool.and_eq_true] at hok
  obtain ⟨⟨ha, hb⟩, hc⟩ := hok
  have ha := hρ _ _ ha
  simp only [evA] at he
  split at he <;> simp only [RO.ok.injEq, reduceCtorEq] at he
  · rename_i e
    obtain ⟨rfl, rfl⟩ := he
    rw [e] at ha; simp only [conc, Option.some.injEq] at ha
    exact .plain hs (by simp [execOp, ← ha, asBool]) (hρ _ _ hb)
  · rename_i e
    obtain ⟨rfl, rfl⟩ := he
    rw [e] at ha; simp only [conc, Option.some.injEq] at ha
    exact .plain hs (by simp [execOp, ← ha, asBool]) (hρ _ _ hc)
theorem new_cells {cs : List V} {arr : Array Value} {e : TypeId} (hs : Sim P F R h.get w) (hf : R h.next = none) (hc : concL R cs = some arr.toList) :
    Fwd R (R.add h.next (w.heap.size, arr.size)) h (h.new (.cells cs)) w (w.alloc (.cells arr e)) [] ∧ Sim P F (R.add h.next (w.heap.size, arr.size)) (h.new (.cells cs)).get (w.alloc (.cells arr e)) :=
  new_step hs hf fun w' hw' => ⟨arr, Fr.none _ e, arr.toList, [], hw', concL_mono (Emb.le_add hf) _ _ hc, by simp, rfl⟩
theorem fresh_new {x : Blk} (hfr : Fresh R h (h.new x)) : R h.next = none := hfr h.next (Nat.le_refl _) (by simp)
theorem run_alloc {z : List V} (hok : okA P op (.alloc z) = true) (hs : Sim P F R h.get w) (hfr : Fresh R h h') (he : evA call (.alloc z) t h = .ok v h') :
    OpRun P F R h w (execOp ρ ⟨dst, op, ty, pos, af, gd⟩) v h' := by
  simp only [evA, RO.ok.injEq] at he
  obtain ⟨rfl, rfl⟩ := he
  cases op <;> try exact (Bool.false_ne_true hok).elim
  rename_i e
  have hok : okZ P e z = true := hok
  unfold okZ at hok
  cases hz : zeroT P e with
  | none => simp [hz] at hok
  | some u =>
    rw [hz] at hok
    have hc := concL_of_same R z _ hok
    obtain ⟨hf, hs'⟩ := new_cells (e := e) hs (fresh_new hfr) hc
    refine ⟨.value (.pointer (some ⟨w.heap.size, 0, none⟩)), _, _, ?_, .inl rfl, _, _, hf, hs', ?_⟩
    · simp [execOp, Instr.alloc, run_zero w hz, newVar, newRow]
    · simp [conc, Emb.add_self]
theorem run_box {y : X} (hok : okA P op (.box y) = true) (hρ : EnvOk R t ρ) (hs : Sim P F R h.get w) (hfr : Fresh R h h') (he : evA call (.box y) t h = .ok v h') :
    OpRun P F R h w (execOp ρ ⟨dst, op, ty, pos, af, gd⟩) v h' := by
  simp only [evA, RO.ok.injEq] at he
  obtain ⟨rfl, rfl⟩ := he
  cases op <;> try exact (Bool.false_ne_true hok).elim
  rename_i e x
  have hx := hρ x y hok
  obtain ⟨l, hl, hc⟩ := conc_cells hx
  obtain ⟨hf, hs'⟩ := new_cells (e := e) hs (fresh_new hfr) (arr := l.toArray) (by simpa using hl)
  refine ⟨.value (.pointer (some ⟨w.heap.size, 0, none⟩)), _, _, ?_, .inl rfl, _, _, hf, hs', ?_⟩
  · simp [execOp, Instr.box, newVar, newRow, hc]
  · simp [conc, Emb.add_self]
theorem zip_set : ∀ (vs : List Value) (k off : Nat) (arr : Array Value), off + k + vs.length ≤ arr.size →
    ((vs.zipIdx k).foldl (fun cs (x : Value × Nat) => cs.setIfInBounds (off + x.2) x.1) arr).toList = arr.toList.take (off + k) ++ vs ++ arr.toList.drop (off + k + vs.length)
  | [], k, off, arr, _ => by simp
  | v :: vs, k, off, arr, hn => by
    simp only [List.zipIdx_cons, List.foldl_cons]
    simp only [List.length_cons] at hn
    rw [zip_set vs (k + 1) off _ (by simp; omega)]
    have hlen : off + k + 1 + vs.length ≤ arr.toList.length := by have e1 : arr.toList.length = arr.size := Array.length_toList; omega
    simp only [Array.toList_setIfInBounds]
    rw [show off + (k + 1) = (off + k) + 1 by omega]
    exact list_store arr.toList (off + k) v vs hlen
theorem fill_step {z z' cs : List V} {off : Nat} {arr : Array Value} {x : Value} {l : List Value} (hz : concL R z = some arr.toList) (hcs : concL R cs = some l) (hx : x.cells = l.toArray)
    (hl : lay z off cs = some z') : ¬ (off + x.cells.size > arr.size) ∧ concL R z' = some (x.cells.zipIdx.foldl (fun cs (y : Value × Nat) => cs.setIfInBounds (off + y.2) y.1) arr).toList := by
  obtain ⟨hle, rfl⟩ := lay_eq.1 hl
  have h1 := concL_length hz
  have h2 := concL_length hcs
  have h3 : x.cells.size = cs.length := by rw [hx]; simpa using h2
  have h4 : arr.toList.length = arr.size := Array.length_toList
  refine ⟨by omega, ?_⟩
  rw [hx, ← Array.foldl_toList]
  simp only [Array.toList_zipIdx]
  rw [zip_set l 0 off arr (by omega)]
  simp only [Nat.add_zero]
  rw [h2]
  exact concL_append (concL_append (concL_take off hz) hcs) (concL_drop _ hz)
theorem fill_S {fs : Array Field} {places : Array (Nat × Nat)} (hp : ∀ (i : Nat) (f : Field) (n : Nat), fs[i]? = some f → isSz P f.type n = true → places[i]? = some (f.offset, n)) (hρ : EnvOk R t ρ) :
    ∀ (parts : List (Nat × Operand)) (ps : List (Nat × Nat × X)) (z z' : List V) (arr : Array Value), okPartsS P fs parts ps = true → concL R z = some arr.toList → fill t z ps = some z' →
      ∃ arr', Instr.fill (places[·]?) arr (parts.map fun p => (p.1, ρ p.2)) = some arr' ∧ concL R z' = some arr'.toList
  | [], [], z, z', arr, _, hz, hf => by
    simp only [fill, Option.some.injEq] at hf
    subst hf
    exact ⟨arr, by simp [Instr.fill], hz⟩
  | [], _ :: _, _, _, _, hok, _, _ => by simp [okPartsS] at hok
  | (i, x) :: l, [], _, _, _, hok, _, _ => by simp [okPartsS] at hok
  | (i, x) :: l, (off, sz, y) :: m, z, z', arr, hok, hz, hf => by
    simp only [okPartsS, Bool.and_eq_true] at hok
    obtain ⟨⟨hfld, hx⟩, hrest⟩ := hok
    cases hfi : fs[i]? with
    | none => simp [hfi] at hfld
    | some f =>
      simp only [hfi, Bool.and_eq_true, Nat.beq_eq] at hfld
      obtain ⟨ho, hsz⟩ := hfld
      have hpl := hp i f sz hfi hsz
      obtain ⟨lv, hl, hc⟩ := conc_cells (hρ x y hx)
      simp only [fill] at hf
      split at hf
      · rename_i hlen
        rw [Nat.beq_eq] at hlen
        split at hf
        · rename_i z1 hlay
          obtain ⟨hb, hz1⟩ := fill_step hz hl hc hlay
          obtain ⟨arr', h1, h2⟩ := fill_S hp hρ l m z1 z' _ hrest hz1 hf
          refine ⟨arr', ?_, h2⟩
          have hsize : (ρ x).cells.size = sz := by rw [hc]; simp [concL_length hl, hlen]
          simp only [List.map_cons, Instr.fill, hpl, ho]
          rw [if_neg (by simp [hsize]; omega)]
          exact h1
        · simp at hf
      · simp at hf
theorem fill_A {size : Nat} (hρ : EnvOk R t ρ) :
    ∀ (parts : List (Nat × Operand)) (ps : List (Nat × Nat × X)) (z z' : List V) (arr : Array Value), okPartsA size parts ps = true → concL R z = some arr.toList → fill t z ps = some z' →
      ∃ arr', Instr.fill (fun i => some (i * size, size)) arr (parts.map fun p => (p.1, ρ p.2)) = some arr' ∧ concL R z' = some arr'.toList
  | [], [], z, z', arr, _, hz, hf => by
    simp only [fill, Option.some.injEq] at hf
    subst hf
    exact ⟨arr, by simp [Instr.fill], hz⟩
  | [], _ :: _, _, _, _, hok, _, _ => by simp [okPartsA] at hok
  | (i, x) :: l, [], _, _, _, hok, _, _ => by simp [okPartsA] at hok
  | (i, x) :: l, (off, sz, y) :: m, z, z', arr, hok, hz, hf => by
    simp only [okPartsA, Bool.and_eq_true, Nat.beq_eq] at hok
    obtain ⟨⟨⟨ho, hsz⟩, hx⟩, hrest⟩ := hok
    subst hsz
    obtain ⟨lv, hl, hc⟩ := conc_cells (hρ x y hx)
    simp only [fill] at hf
    split at hf
    · rename_i hlen
      rw [Nat.beq_eq] at hlen
      split at hf
      · rename_i z1 hlay
        obtain ⟨hb, hz1⟩ := fill_step hz hl hc hlay
        obtain ⟨arr', h1, h2⟩ := fill_A hρ l m z1 z' _ hrest hz1 hf
        refine ⟨arr', ?_, h2⟩
        have hsize : (ρ x).cells.size = size := by rw [hc]; simp [concL_length hl, hlen]
        simp only [List.map_cons, Instr.fill, ho]
        rw [if_neg (by simp [hsize]; omega)]
        exact h1
      · simp at hf
    · simp at hf
theorem mapM_places : ∀ (fs : List Field), fs.all (fun f => (szT P f.type).isSome) = true →
    (fs.mapM (m := Sem) fun f => Prod.mk f.offset <$> sizeOf f.type).run P w = .ok (fs.map fun f => (f.offset, (szT P f.type).getD 0)) w
  | [], _ => by simp
  | f :: fs, hall => by
    simp only [List.all_cons, Bool.and_eq_true] at hall
    obtain ⟨h1, h2⟩ := hall
    cases hs : szT P f.type with
    | none => simp [hs] at h1
    | some n =>
      have hr : (sizeOf f.type).run P w = .ok n w := run_size w (by simp [isSz, hs])
      simp [List.mapM_cons, hr, mapM_places fs h2, hs]
theorem run_build {z : List V} {ps : List (Nat × Nat × X)} (hok : okA P op (.build z ps) = true) (hρ : EnvOk R t ρ) (hs : Sim P F R h.get w) (he : evA call (.build z ps) t h = .ok v h') :
    OpRun P F R h w (execOp ρ ⟨dst, op, ty, pos, af, gd⟩) v h' := by
  cases op <;> try exact (Bool.false_ne_true hok).elim
  rename_i ty' parts
  have hok : (okZ P ty' z && (match P.underlying ty' with
    | some (.struct fs) => fs.toList.all (fun f => (szT P f.type).isSome) && okPartsS P fs parts.toList ps
    | some (.array _ e) => (match szT P e with
      | some n => okPartsA n parts.toList ps
      | none => false)
    | _ => false)) = true := hok
  rw [Bool.and_eq_true] at hok
  obtain ⟨hz, hp⟩ := hok
  unfold okZ at hz
  cases hzv : zeroT P ty' with
  | none => simp [hzv] at hz
  | some u =>
    rw [hzv] at hz
    have hcz := concL_of_same R z _ hz
    simp only [evA] at he
    split at he <;> simp only [RO.ok.injEq, reduceCtorEq] at he
    rename_i c hfill
    obtain ⟨rfl, rfl⟩ := he
    have hmap : (parts.map fun x => (x.1, ρ x.2)).toList = parts.toList.map fun p => (p.1, ρ p.2) := by simp
    split at hp <;> try simp at hp
    · rename_i fs hu
      obtain ⟨hall, hparts⟩ := hp
      obtain ⟨arr', h1, h2⟩ := fill_S (P := P) (fs := fs) (places := (fs.toList.map fun f => (f.offset, (szT P f.type).getD 0)).toArray)
        (fun i f n hi hn => by
          have : szT P f.type = some n := by
            unfold isSz at hn
            cases hs : szT P f.type with
            | none => simp [hs] at hn
            | some m => simp [hs] at hn; rw [hn]
          simp [hi, this]) hρ parts.toList ps z c u.cells hparts hcz hfill
      refine OpRun.plain (x := .agg arr') hs ?_ (by simp [conc, h2])
      have hmp := mapM_places (P := P) (w := w) fs.toList (by simpa using hall)
      simp only [execOp, Instr.build, Sem.run_bind, run_zero w hzv, Result.andThen_ok, run_underlying hu, Array.mapM_eq_mapM_toList]
      have hmp' : (fs.toList.mapM (m := Sem) fun f => do let a ← sizeOf f.type; pure (f.offset, a)).run P w = .ok (fs.toList.map fun f => (f.offset, (szT P f.type).getD 0)) w := by
        have e : (fun f : Field => (do let a ← sizeOf f.type; pure (f.offset, a) : Sem (Nat × Nat))) = fun f => Prod.mk f.offset <$> sizeOf f.type := by funext f; simp
        rw [e]; exact hmp
      simp only [Sem.run_map, hmp', Result.andThen_ok]
      rw [hmap, h1]
      simp
    · rename_i n e hu
      cases hse : szT P e with
      | none => simp [hse] at hp
      | some k =>
        simp only [hse] at hp
        obtain ⟨arr', h1, h2⟩ := fill_A hρ parts.toList ps z c u.cells hp hcz hfill
        refine OpRun.plain (x := .agg arr') hs ?_ (by simp [conc, h2])
        have hr : (sizeOf e).run P w = .ok k w := run_size w (by simp [isSz, hse])
        simp only [execOp, Instr.build, Sem.run_bind, run_zero w hzv, Result.andThen_ok, run_underlying hu, hr]
        rw [hmap, h1]
        simp
theorem zrow_range (z : Array Value) (n : Nat) : ((Array.range n).map fun i => z[i % z.size]!).toList = zrow z.toList n := by
  simp only [Array.toList_map, Array.toList_range, zrow, Array.length_toList]
  congr 1
  funext i
  rw [getElem!_def, List.getD_eq_getElem?_getD]
  simp only [Array.getElem?_toList]
  cases z[i % z.size]? <;> rfl
theorem run_buildSl {z : List V} {len : Nat} {ps : List (Nat × Nat × X)} (hok : okA P op (.buildSl z len ps) = true) (hρ : EnvOk R t ρ) (hs : Sim P F R h.get w) (hfr : Fresh R h h')
    (he : evA call (.buildSl z len ps) t h = .ok v h') : OpRun P F R h w (execOp ρ ⟨dst, op, ty, pos, af, gd⟩) v h' := by
  cases op <;> try exact (Bool.false_ne_true hok).elim
  rename_i ty' len' parts
  have hok : (Nat.beq len' len && (match P.underlying ty' with
    | some (.slice e) => (match P.info? e with
      | some i => Nat.ble (len' * i.size) 16777216 && okPartsA i.size parts.toList ps && (match i.zero with
        | some v => sameL z (zrow v.cells.toList (len' * i.size))
        | none => false)
      | none => false)
    | _ => false)) = true := hok
  rw [Bool.and_eq_true, Nat.beq_eq] at hok
  obtain ⟨rfl, hp⟩ := hok
  split at hp <;> try simp at hp
  rename_i e hu
  cases hi : P.info? e with
  | none => simp [hi] at hp
  | some i =>
    simp only [hi, Bool.and_eq_true, Nat.ble_eq] at hp
    obtain ⟨⟨hle, hparts⟩, hz⟩ := hp
    cases hzv : i.zero with
    | none => simp [hzv] at hz
    | some u =>
      simp only [hzv] at hz
      have hz0 : zeroT P e = some u := by simp [zeroT, hi, hzv]
      have hr : (sizeOf e).run P w = .ok i.size w := run_size w (by simp [isSz, szT, hi])
      simp only [evA] at he
      split at he <;> simp only [RO.ok.injEq, reduceCtorEq] at he
      rename_i c hfill
      obtain ⟨rfl, rfl⟩ := he
      have hcz : concL R z = some (zrow u.cells.toList (len' * i.size)) := concL_of_same R z _ hz
      have hmap : (parts.map fun x => (x.1, ρ x.2)).toList = parts.toList.map fun p => (p.1, ρ p.2) := by simp
      have key : ∃ arr0 : Array Value, arr0.toList = zrow u.cells.toList (len' * i.size) ∧
          (Instr.buildSlice ty' len' (parts.map fun x => (x.1, ρ x.2))).run P w = (match Instr.fill (fun k => some (k * i.size, i.size)) arr0 (parts.toList.map fun p => (p.1, ρ p.2)) with
            | some cells => .ok (.slice (some ⟨w.heap.size, 0, none⟩) len' len') (w.alloc (.cells cells e))
            | none => .halt (.stuck "buildSlice: a part of the wrong size") w) := by
        by_cases h0 : len' * i.size = 0
        · refine ⟨(Array.range (len' * i.size)).map fun k => (#[] : Array Value)[k % 0]!, by simp [h0, zrow], ?_⟩
          simp only [Instr.buildSlice, Sem.run_bind, run_underlying hu, Result.andThen_ok, hr]
          rw [if_neg (by omega), if_pos h0, hmap]
          simp only [Sem.run_bind, Sem.run_pure, Result.andThen_ok, List.size_toArray, List.length_nil]
          cases Instr.fill (fun k => some (k * i.size, i.size)) ((Array.range (len' * i.size)).map fun k => (#[] : Array Value)[k % 0]!) (parts.toList.map fun p => (p.1, ρ p.2)) <;> simp [newRow]
        · refine ⟨(Array.range (len' * i.size)).map fun k => u.cells[k % u.cells.size]!, zrow_range _ _, ?_⟩
          simp only [Instr.buildSlice, Sem.run_bind, run_underlying hu, Result.andThen_ok, hr]
          rw [if_neg (by omega), if_neg h0, hmap]
          simp only [Sem.run_bind, run_zero w hz0, Sem.run_pure, Result.andThen_ok]
          cases Instr.fill (fun k => some (k * i.size, i.size)) ((Array.range (len' * i.size)).map fun k => u.cells[k % u.cells.size]!) (parts.toList.map fun p => (p.1, ρ p.2)) <;> simp [newRow]
      obtain ⟨arr0, ha0, hrun⟩ := key
      obtain ⟨arr', h1, h2⟩ := fill_A hρ parts.toList ps z c arr0 hparts (by rw [ha0]; exact hcz) hfill
      rw [h1] at hrun
      obtain ⟨hf, hs'⟩ := new_cells (e := e) hs (fresh_new hfr) h2
      refine ⟨.value (.slice (some ⟨w.heap.size, 0, none⟩) len' len'), _, _, ?_, .inl rfl, _, _, hf, hs', by simp [conc, Emb.add_self]⟩
      simp [execOp, hrun]
end
end Go.Air
namespace Go.Air
section
variable {P : Program} {F : Nat → Prop} {R : Emb} {h h' : H} {w : World} {t : List V} {ρ : Operand → Value} {v : V}
  {dst : Option Tmp} {op : Op} {ty : TypeId} {pos : String} {af : Array Edge} {gd : Option (Nat × Bool)} {call : V → List V → H → RO}
def FootOk (F : Nat → Prop) : Option (List Nat) → Prop
  | none => ∀ b, F b
  | some l => ∀ b ∈ l, F b
theorem conc_p {b o : Nat} {x : Value} (hx : conc R (.p b o) = some x) : ∃ c sz, R b = some (c, sz) ∧ x = .pointer (some ⟨c, o, none⟩) := by
  simp only [conc, Option.map_eq_some_iff] at hx
  obtain ⟨a, ha, rfl⟩ := hx
  exact ⟨a.1, a.2, ha, rfl⟩
theorem cells_at {b c sz : Nat} {cs : List V} (hs : Sim P F R h.get w) (hF : F b) (hb : R b = some (c, sz)) (hg : h.get b = some (.cells cs)) :
    ∃ (arr : Array Value) (e : Fr sz) (vs rest : List Value), w.heap[c]? = some (.cells arr e.ty e.fz) ∧ concL R cs = some vs ∧ arr.toList = vs ++ rest ∧ arr.size = sz := hs.blk b c sz _ hF hb hg
theorem run_ld {y : X} (hok : okA P op (.ld y) = true) (hρ : EnvOk R t ρ) (hs : Sim P F R h.get w) (hF : FootOk F (reads (.ld y) t)) (he : evA call (.ld y) t h = .ok v h') :
    OpRun P F R h w (execOp ρ ⟨dst, op, ty, pos, af, gd⟩) v h' := by
  cases op <;> try exact (Bool.false_ne_true hok).elim
  rename_i e x
  have hok : (plainT P e && okX x y) = true := hok
  rw [Bool.and_eq_true] at hok
  have hx := hρ x y hok.2
  simp only [evA] at he
  split at he <;> try simp at he
  rename_i b o hy
  split at he <;> try simp at he
  rename_i bl hg
  obtain ⟨hv, rfl⟩ := ofV_ok he
  rw [hy] at hx
  obtain ⟨c, sz, hb, hxe⟩ := conc_p hx
  obtain ⟨u, hcell, hc⟩ := rd1_at hs (hF b (by simp [hy, blockOf])) hb hg hv
  exact .plain hs (by simp [execOp, Instr.loadAt, hxe, Instr.sureAddr, loadVar, run_isAgg_plain w hok.1, hcell]) hc
theorem run_ldn {n : Nat} {y : X} (hok : okA P op (.ldn n y) = true) (hρ : EnvOk R t ρ) (hs : Sim P F R h.get w) (hF : FootOk F (reads (.ldn n y) t)) (he : evA call (.ldn n y) t h = .ok v h') :
    OpRun P F R h w (execOp ρ ⟨dst, op, ty, pos, af, gd⟩) v h' := by
  cases op <;> try exact (Bool.false_ne_true hok).elim
  rename_i e x
  have hok : (aggT P e && isSz P e n && okX x y) = true := hok
  rw [Bool.and_eq_true, Bool.and_eq_true] at hok
  obtain ⟨⟨hag, hsz⟩, hxy⟩ := hok
  have hx := hρ x y hxy
  simp only [evA] at he
  split at he <;> try simp at he
  rename_i b o hy
  split at he <;> try simp at he
  rename_i bl hg
  split at he <;> simp only [RO.ok.injEq, reduceCtorEq] at he
  rename_i l hl
  obtain ⟨rfl, rfl⟩ := he
  rw [hy] at hx
  obtain ⟨c, sz, hb, hxe⟩ := conc_p hx
  obtain ⟨us, h1, _, _, hr⟩ := rd_at hs (hF b (by simp [hy, blockOf])) hb hg hl
  exact .plain (x := .agg us.toArray) hs (by simp [execOp, Instr.loadAt, hxe, Instr.sureAddr, loadVar, run_isAgg_agg w hag, run_size w hsz, hr])
    (by simp [conc, h1])
theorem storeAt_ok {b o : Nat} {vs : List V} (he : storeAt h b o vs = some h') : ∃ cs cs', h.get b = some (.cells cs) ∧ lay cs o vs = some cs' ∧ (∀ v ∈ vs, v.oneCell = true) ∧ h' = h.put b (.cells cs') := by
  unfold storeAt at he
  split at he <;> try simp at he
  rename_i cs hg
  split at he <;> try simp at he
  rename_i cs' hl
  obtain ⟨hone, rfl⟩ := he
  exact ⟨cs, cs', hg, hl, hone, rfl⟩
theorem conc_ones : ∀ {vs : List V} {xs : List Value}, concL R vs = some xs → (∀ v ∈ vs, v.oneCell = true) → ∀ x ∈ xs, x.oneCell' = true
  | [], xs, h, _ => by simp [concL] at h; subst h; simp
  | v :: vs, xs, h, ho => by
    obtain ⟨x, ys, hx, hy, rfl⟩ := concL_cons.1 h
    intro z hz
    rcases List.mem_cons.1 hz with rfl | hz
    · exact conc_oneCell hx (ho v (by simp))
    · exact conc_ones hy (fun u hu => ho u (by simp [hu])) z hz
theorem store_step {b c sz o : Nat} {vs : List V} {xs : List Value} (hs : Sim P F R h.get w) (hF : F b) (hb : R b = some (c, sz)) (he : storeAt h b o vs = some h') (hv : concL R vs = some xs) :
    ∃ w', (storeCells ⟨c, o, none⟩ xs).run P w = .ok () w' ∧ Fwd R R h h' w w' [b] ∧ Sim P F R h'.get w' := by
  obtain ⟨cs, cs', hg, hl, hone, rfl⟩ := storeAt_ok he
  obtain ⟨arr, e, ys, rest, h1, h2, h3, h4⟩ := cells_at hs hF hb hg
  obtain ⟨hle, rfl⟩ := lay_eq.1 hl
  have e1 := concL_length h2
  have e2 := concL_length hv
  have e3 : arr.toList.length = arr.size := Array.length_toList
  have e4 : arr.toList.length = ys.length + rest.length := by rw [h3]; simp
  obtain ⟨w', arr', r1, r2, r3, r4, r5, rio⟩ := run_storeCells_list (P := P) (o := o) xs 0 w arr h4 h1 (by omega) (conc_ones hv hone)
  obtain ⟨hf, hs'⟩ := put_step (x := .cells (cs.take o ++ vs ++ cs.drop (o + vs.length))) hs hF hb hg rio r2 r3
    ⟨arr', e, ys.take o ++ xs ++ ys.drop (o + xs.length), rest, r4, by rw [e2]; exact concL_append (concL_append (concL_take o h2) hv) (concL_drop _ h2), by
      rw [r5, h3]
      simp only [Nat.add_zero]
      rw [List.take_append_of_le_length (by omega), List.drop_append_of_le_length (by omega)]
      simp, by
      have : arr'.toList.length = arr'.size := Array.length_toList
      rw [r5] at this
      simp at this
      omega⟩
  exact ⟨w', r1, hf, hs'⟩
theorem run_storeVar {e : TypeId} {n c o : Nat} {x : Value} {l : List Value} {w' : World} (hsz : isSz P e n = true) (hx : x.cells = l.toArray) (hn : l.length = n)
    (hr : (storeCells ⟨c, o, none⟩ l).run P w = .ok () w') : (storeVar e ⟨c, o, none⟩ x).run P w = .ok () w' := by
  simp only [storeVar, Sem.run_bind, run_size w hsz, Result.andThen_ok, hx]
  rw [if_neg (by simpa using hn)]
  simpa using hr
theorem run_st {n : Nat} {a b : X} (hok : okA P op (.st n a b) = true) (hρ : EnvOk R t ρ) (hs : Sim P F R h.get w) (hF : FootOk F (reads (.st n a b) t)) (he : evA call (.st n a b) t h = .ok v h') :
    OpRun P F R h w (execOp ρ ⟨dst, op, ty, pos, af, gd⟩) v h' := by
  cases op <;> try exact (Bool.false_ne_true hok).elim
  rename_i e x y
  have hok : (isSz P e n && okX x a && okX y b) = true := hok
  rw [Bool.and_eq_true, Bool.and_eq_true] at hok
  obtain ⟨⟨hsz, hxa⟩, hyb⟩ := hok
  have hx := hρ x a hxa
  have hy := hρ y b hyb
  simp only [evA] at he
  split at he <;> try simp at he
  rename_i b' o hya
  split at he <;> try simp at he
  rename_i hlen
  rw [hya] at hx
  obtain ⟨c, sz, hb, hxe⟩ := conc_p hx
  obtain ⟨l, hl, hc⟩ := conc_cells hy
  split at he <;> simp only [RO.ok.injEq, reduceCtorEq] at he
  rename_i h1 hst
  obtain ⟨rfl, rfl⟩ := he
  obtain ⟨w', r1, hf, hs'⟩ := store_step hs (hF b' (by simp [hya, blockOf])) hb hst hl
  refine ⟨.skip, undef, w', ?_, .inr ⟨rfl, rfl⟩, R, _, hf, hs', conc_undef R⟩
  have := run_storeVar hsz hc ((concL_length hl).trans hlen) r1
  simp [execOp, Instr.storeAt, hxe, Instr.sureAddr, this]
theorem run_nilck {y : X} (hok : okA P op (.nilck y) = true) (hρ : EnvOk R t ρ) (hs : Sim P F R h.get w) (he : evA call (.nilck y) t h = .ok v h') :
    OpRun P F R h w (execOp ρ ⟨dst, op, ty, pos, af, gd⟩) v h' := by
  cases op <;> try exact (Bool.false_ne_true hok).elim
  rename_i x
  have hx := hρ x y hok
  simp only [evA] at he
  split at he <;> simp only [RO.ok.injEq, reduceCtorEq] at he <;> (obtain ⟨rfl, rfl⟩ := he) <;> rename_i e <;> rw [e] at hx
  · obtain ⟨c, sz, hb, hxe⟩ := conc_p hx
    exact .plain (x := ρ x) hs (by simp [execOp, hxe]) hx
  · have hx0 := hx
    simp only [conc] at hx0
    split at hx0 <;> simp at hx0
    exact .plain (x := ρ x) hs (by simp [execOp, ← hx0]) hx
  · have hx0 := hx
    simp only [conc, Option.map_eq_some_iff] at hx0
    obtain ⟨a, _, ha⟩ := hx0
    exact .plain (x := ρ x) hs (by simp [execOp, ← ha]) hx
theorem conc_i {k : IntKind} {n : Int} {x : Value} (hx : conc R (.i k n) = some x) : x = .int k n := by simpa [conc, eq_comm] using hx
theorem conc_bb {b : Bool} {x : Value} (hx : conc R (.b b) = some x) : x = .bool b := by simpa [conc, eq_comm] using hx
theorem conc_ss {l : List Nat} {x : Value} (hx : conc R (.s l) = some x) : x = .string (byteArr l) ∧ ∀ n ∈ l, n < 256 := by
  simp only [conc] at hx
  split at hx <;> simp at hx
  rename_i hl
  exact ⟨hx.symm, by simpa using hl⟩
theorem run_guard_int (o : BinOp) (ty : TypeId) (x y : Operand) (k k' : IntKind) (a b : Int) : (eqGuard o ty x y (.int k a) (.int k' b)).run P w = .ok () w := by
  cases o <;> simp [eqGuard]
theorem run_guard_str (o : BinOp) (ty : TypeId) (x y : Operand) (a b : ByteArray) : (eqGuard o ty x y (.string a) (.string b)).run P w = .ok () w := by
  cases o <;> simp [eqGuard]
theorem run_binI {o : BinOp} {k : IntKind} {a b : Int} {ty : TypeId} (ho : o ≠ .shl) (ho' : o ≠ .shr) (he : binI o k a b = some v) :
    ∃ x, (binOp o ty (.int k a) (.int k b)).run P w = .ok x w ∧ conc R v = some x := by
  cases o <;> simp only [binI] at he <;> try (first | exact absurd rfl ho | exact absurd rfl ho')
  case quo => split at he <;> simp at he; rename_i hb; subst he; exact ⟨_, by simp [binOp, Op.intDiv, hb]; rfl, by simp [conc]⟩
  case rem => split at he <;> simp at he; rename_i hb; subst he; exact ⟨_, by simp [binOp, Op.intDiv, hb]; rfl, by simp [conc]⟩
  all_goals (simp only [Option.some.injEq] at he; subst he; refine ⟨_, ?_, by simp only [conc, bitsV]; rfl⟩; simp [binOp, Op.intArith, Op.intBits, Op.intCmp])
  all_goals (first | rfl | (congr 1; simp [bne]; done) | skip)
theorem run_shI {o : BinOp} {k k' : IntKind} {a b : Int} {ty : TypeId} (ho : o = .shl ∨ o = .shr) (he : shI o k a b = some v) :
    ∃ x, (binOp o ty (.int k a) (.int k' b)).run P w = .ok x w ∧ conc R v = some x := by
  unfold shI at he
  split at he <;> try simp at he
  rename_i hb
  rcases ho with rfl | rfl <;> simp only [Option.some.injEq] at he <;> subst he <;> exact ⟨_, by simp [binOp, Op.shift, hb]; rfl, by simp [conc]⟩
theorem toList_byteArr (l : List Nat) : (byteArr l).toList = l.map UInt8.ofNat := by rw [ByteArray.toList_eq]; rfl
theorem size_byteArr (l : List Nat) : (byteArr l).size = l.length := by simp [byteArr, ByteArray.size]
theorem append_byteArr (a b : List Nat) : byteArr a ++ byteArr b = byteArr (a ++ b) := by
  apply ByteArray.ext
  simp [byteArr, ByteArray.data_append]
theorem ofNat_inj {a b : Nat} (ha : a < 256) (hb : b < 256) (h : UInt8.ofNat a = UInt8.ofNat b) : a = b := by
  have := congrArg UInt8.toNat h
  simp at this
  omega
theorem bytesEq_iff : ∀ (a b : List Nat), bytesEq a b = true ↔ a = b
  | [], [] => by simp [bytesEq]
  | [], _ :: _ => by simp [bytesEq]
  | _ :: _, [] => by simp [bytesEq]
  | x :: a, y :: b => by simp [bytesEq, bytesEq_iff a b]
theorem bytesEq_map : ∀ (a b : List Nat), (∀ n ∈ a, n < 256) → (∀ n ∈ b, n < 256) → ((a.map UInt8.ofNat) == (b.map UInt8.ofNat)) = bytesEq a b
  | [], [], _, _ => by simp [bytesEq]
  | [], _ :: _, _, _ => by simp [bytesEq]
  | _ :: _, [], _, _ => by simp [bytesEq]
  | x :: a, y :: b, ha, hb => by
    have ih := bytesEq_map a b (fun n hn => ha n (by simp [hn])) (fun n hn => hb n (by simp [hn]))
    simp only [List.map_cons, List.cons_beq_cons, bytesEq, ih]
    congr 1
    rw [Bool.eq_iff_iff]
    simp
    exact ⟨fun e => ofNat_inj (ha x (by simp)) (hb y (by simp)) e, fun e => by rw [e]⟩
theorem bytesLess_map : ∀ (a b : List Nat), (∀ n ∈ a, n < 256) → (∀ n ∈ b, n < 256) → Op.bytesLess (a.map UInt8.ofNat) (b.map UInt8.ofNat) = bytesLess a b
  | a, [], _, _ => by cases a <;> simp [Op.bytesLess, bytesLess]
  | [], _ :: _, _, _ => by simp [Op.bytesLess, bytesLess]
  | x :: a, y :: b, ha, hb => by
    have ih := bytesLess_map a b (fun n hn => ha n (by simp [hn])) (fun n hn => hb n (by simp [hn]))
    have hx := ha x (by simp)
    have hy := hb y (by simp)
    simp only [List.map_cons, Op.bytesLess, bytesLess, ih]
    have e1 : decide (UInt8.ofNat x < UInt8.ofNat y) = Nat.blt x y := by
      rw [Bool.eq_iff_iff]
      simp [UInt8.lt_iff_toNat_lt]
      omega
    have e2 : (UInt8.ofNat x == UInt8.ofNat y) = Nat.beq x y := by
      rw [Bool.eq_iff_iff]
      simp
      exact ⟨fun e => ofNat_inj hx hy e, fun e => by rw [e]⟩
    rw [e1, e2]
theorem run_binS {o : BinOp} {x y : List Nat} {ty : TypeId} (hx : ∀ n ∈ x, n < 256) (hy : ∀ n ∈ y, n < 256) (he : binS o x y = some v) :
    ∃ u, (binOp o ty (.string (byteArr x)) (.string (byteArr y))).run P w = .ok u w ∧ conc R v = some u := by
  have e1 := bytesEq_map x y hx hy
  have e2 := bytesLess_map x y hx hy
  cases o <;> simp only [binS, reduceCtorEq] at he
  case add =>
    split at he <;> simp at he
    rename_i hle
    subst he
    refine ⟨.string (byteArr (x ++ y)), ?_, ?_⟩
    · rw [Nat.ble_eq] at hle
      have : ¬ (((byteArr x).size + (byteArr y).size : Nat) : Int) > IntKind.i64.max := by
        rw [size_byteArr, size_byteArr]
        have : IntKind.i64.max = 9223372036854775807 := by decide
        omega
      simp only [binOp, Op.stringOp]
      rw [if_neg this, append_byteArr]
      rfl
    · simp only [conc]
      rw [if_pos]
      rw [List.all_append]
      simp only [Bool.and_eq_true, List.all_eq_true]
      exact ⟨fun n hn => by simpa using hx n hn, fun n hn => by simpa using hy n hn⟩
  all_goals (simp only [Option.some.injEq] at he; subst he; refine ⟨_, ?_, by simp only [conc]; rfl⟩; simp only [binOp, Op.stringOp, toList_byteArr, e1, e2]; rfl)
theorem run_bin {o : BinOp} {a b : X} (hok : okA P op (.bin o a b) = true) (hρ : EnvOk R t ρ) (hs : Sim P F R h.get w) (he : evA call (.bin o a b) t h = .ok v h') :
    OpRun P F R h w (execOp ρ ⟨dst, op, ty, pos, af, gd⟩) v h' := by
  cases op <;> try exact (Bool.false_ne_true hok).elim
  rename_i o' xt x y yt
  have hok : (decide (o' = o) && okX x a && okX y b) = true := hok
  rw [Bool.and_eq_true, Bool.and_eq_true] at hok
  obtain ⟨⟨ho, hxa⟩, hyb⟩ := hok
  have ho : o' = o := by simpa using ho
  subst ho
  have hx := hρ x a hxa
  have hy := hρ y b hyb
  simp only [evA] at he
  obtain ⟨hv, rfl⟩ := ofV_ok he
  have fin : ∀ u : Value, (eqGuard o' xt x y (ρ x) (ρ y)).run P w = .ok () w → (binOp o' xt (ρ x) (ρ y)).run P w = .ok u w → conc R v = some u → OpRun P F R h' w (execOp ρ ⟨dst, .binOp o' xt x y yt, ty, pos, af, gd⟩) v h' := by
    intro u h1 h2 h3
    exact .plain (x := u) hs (by simp [execOp, h1, h2]) h3
  generalize ha : a.ev t = va at *
  generalize hb : b.ev t = vb at *
  unfold binV at hv
  split at hv
  · rename_i k n k' m
    have hx := conc_i hx
    have hy := conc_i hy
    split at hv
    · obtain ⟨u, h1, h2⟩ := run_shI (P := P) (R := R) (w := w) (ty := xt) (k' := k') (.inl rfl) hv
      exact fin u (by rw [hx, hy]; exact run_guard_int ..) (by rw [hx, hy]; exact h1) h2
    · obtain ⟨u, h1, h2⟩ := run_shI (P := P) (R := R) (w := w) (ty := xt) (k' := k') (.inr rfl) hv
      exact fin u (by rw [hx, hy]; exact run_guard_int ..) (by rw [hx, hy]; exact h1) h2
    · rename_i n1 n2
      split at hv <;> try simp at hv
      rename_i hk
      subst hk
      obtain ⟨u, h1, h2⟩ := run_binI (P := P) (R := R) (w := w) (ty := xt) n1 n2 hv
      exact fin u (by rw [hx, hy]; exact run_guard_int ..) (by rw [hx, hy]; exact h1) h2
  · rename_i l m
    obtain ⟨hx, hx'⟩ := conc_ss hx
    obtain ⟨hy, hy'⟩ := conc_ss hy
    obtain ⟨u, h1, h2⟩ := run_binS (P := P) (R := R) (w := w) (ty := xt) hx' hy' hv
    exact fin u (by rw [hx, hy]; exact run_guard_str ..) (by rw [hx, hy]; exact h1) h2
  · simp at hv
theorem run_un {o : UnOp} {a : X} (hok : okA P op (.un o a) = true) (hρ : EnvOk R t ρ) (hs : Sim P F R h.get w) (he : evA call (.un o a) t h = .ok v h') :
    OpRun P F R h w (execOp ρ ⟨dst, op, ty, pos, af, gd⟩) v h' := by
  cases op <;> try exact (Bool.false_ne_true hok).elim
  rename_i o' xt x
  have hok : (decide (o' = o) && okX x a) = true := hok
  rw [Bool.and_eq_true] at hok
  obtain ⟨ho, hxa⟩ := hok
  have ho : o' = o := by simpa using ho
  subst ho
  have hx := hρ x a hxa
  simp only [evA] at he
  obtain ⟨hv, rfl⟩ := ofV_ok he
  generalize ha : a.ev t = va at *
  unfold unV at hv
  split at hv
  · have hx := conc_i hx
    split at hv <;> simp only [Option.some.injEq, reduceCtorEq] at hv
    · subst hv
      exact .plain hs (by simp [execOp, hx, Op.unary, Op.intArith]; rfl) (by simp [conc])
    · subst hv
      exact .plain hs (by simp [execOp, hx, Op.unary, Op.intBits]; rfl) (by simp [conc, bitsV])
  · have hx := conc_bb hx
    split at hv <;> simp only [Option.some.injEq, reduceCtorEq] at hv
    subst hv
    exact .plain hs (by simp [execOp, hx, Op.unary]; rfl) (by simp [conc])
  · simp at hv
theorem run_conv {k : IntKind} {a : X} (hok : okA P op (.conv k a) = true) (hρ : EnvOk R t ρ) (hs : Sim P F R h.get w) (he : evA call (.conv k a) t h = .ok v h') :
    OpRun P F R h w (execOp ρ ⟨dst, op, ty, pos, af, gd⟩) v h' := by
  cases op <;> try exact (Bool.false_ne_true hok).elim
  rename_i s d x
  have hok : (okX x a && (match P.underlying s, P.underlying d with
    | some _, some (.int k') => decide (k = k')
    | _, _ => false)) = true := hok
  rw [Bool.and_eq_true] at hok
  obtain ⟨hxa, hd⟩ := hok
  have hx := hρ x a hxa
  split at hd <;> try simp at hd
  rename_i d1 k1 hs1 hd1
  subst hd
  simp only [evA] at he
  split at he <;> simp only [RO.ok.injEq, reduceCtorEq] at he
  rename_i k2 n e
  obtain ⟨rfl, rfl⟩ := he
  rw [e] at hx
  have hx := conc_i hx
  refine .plain (x := .int k (k.wrap n)) hs ?_ (by simp [conc])
  simp only [execOp, Sem.run_bind, convert, run_underlying hs1, run_underlying hd1, Result.andThen_ok, hx]
  cases d1 <;> simp [Conv.intToInt]
theorem run_mkI {k : Nat} {a : X} (hok : okA P op (.mkI k a) = true) (hρ : EnvOk R t ρ) (hs : Sim P F R h.get w) (he : evA call (.mkI k a) t h = .ok v h') :
    OpRun P F R h w (execOp ρ ⟨dst, op, ty, pos, af, gd⟩) v h' := by
  cases op <;> try exact (Bool.false_ne_true hok).elim
  rename_i s x
  have hok : (Nat.beq s k && okX x a && (match P.underlying s with
    | some (.interface _) => false
    | some _ => true
    | none => false)) = true := hok
  rw [Bool.and_eq_true, Bool.and_eq_true, Nat.beq_eq] at hok
  obtain ⟨⟨rfl, hxa⟩, hd⟩ := hok
  have hx := hρ x a hxa
  simp only [evA, RO.ok.injEq] at he
  obtain ⟨rfl, rfl⟩ := he
  refine .plain (x := .iface s (ρ x)) hs ?_ (by simp [conc, hx])
  cases hu : P.underlying s with
  | none => simp [hu] at hd
  | some d =>
    cases d <;> simp [hu] at hd <;> simp [execOp, Instr.makeInterface, run_underlying hu]
theorem okXs_conc (hρ : EnvOk R t ρ) : ∀ (xs : List Operand) (ys : List X), okXs xs ys = true → concL R (ys.map (X.ev t)) = some (xs.map ρ)
  | [], [], _ => by simp [concL]
  | [], _ :: _, hk => by simp [okXs] at hk
  | _ :: _, [], hk => by simp [okXs] at hk
  | x :: xs, y :: ys, hk => by
    simp only [okXs, Bool.and_eq_true] at hk
    exact concL_cons.2 ⟨_, _, hρ x y hk.1, okXs_conc hρ xs ys hk.2, rfl⟩
theorem run_mkFn {f : Nat} {a c : List X} (hok : okA P op (.mkFn f a c) = true) (hρ : EnvOk R t ρ) (hs : Sim P F R h.get w) (he : evA call (.mkFn f a c) t h = .ok v h') :
    OpRun P F R h w (execOp ρ ⟨dst, op, ty, pos, af, gd⟩) v h' := by
  cases op <;> try exact (Bool.false_ne_true hok).elim
  rename_i fn a' c'
  cases fn <;> try exact (Bool.false_ne_true hok).elim
  rename_i g
  have hok : (Nat.beq g f && okXs a'.toList a && okXs c'.toList c) = true := hok
  rw [Bool.and_eq_true, Bool.and_eq_true, Nat.beq_eq] at hok
  obtain ⟨⟨rfl, ha⟩, hc⟩ := hok
  simp only [evA, RO.ok.injEq] at he
  obtain ⟨rfl, rfl⟩ := he
  refine .plain (x := .func (.func g) (a'.map ρ) (c'.map ρ)) hs (by simp [execOp, Instr.makeFunc]) ?_
  simp only [conc, okXs_conc hρ _ _ ha, okXs_conc hρ _ _ hc]
  congr 2 <;> simp [← Array.toList_map]
theorem run_mkMap (hok : okA P op .mkMap = true) (hs : Sim P F R h.get w) (hfr : Fresh R h h') (he : evA call .mkMap t h = .ok v h') :
    OpRun P F R h w (execOp ρ ⟨dst, op, ty, pos, af, gd⟩) v h' := by
  cases op <;> try exact (Bool.false_ne_true hok).elim
  rename_i s r
  cases r <;> try exact (Bool.false_ne_true hok).elim
  simp only [evA, RO.ok.injEq] at he
  obtain ⟨rfl, rfl⟩ := he
  obtain ⟨hf, hs'⟩ := new_step (x := .map []) (sz := 0) (o := .map #[] 0) hs (fresh_new hfr) (fun w' hw' => ⟨#[], 0, hw', by simp [concM]⟩)
  exact ⟨.value (.map (some w.heap.size)), _, _, by simp [execOp, Instr.makeMap], .inl rfl, _, _, hf, hs', by simp [conc, Emb.add_self]⟩
end
end Go.Air
namespace Go.Air
section
variable {P : Program} {F : Nat → Prop} {R : Emb} {h h' : H} {w : World} {t : List V} {ρ : Operand → Value} {v : V}
  {dst : Option Tmp} {op : Op} {ty : TypeId} {pos : String} {af : Array Edge} {gd : Option (Nat × Bool)} {call : V → List V → H → RO}
theorem natOf_i {v : V} {n : Nat} (hn : natOf v = some n) : ∃ k, v = .i k (.ofNat n) := by
  unfold natOf at hn
  split at hn <;> simp at hn
  subst hn
  exact ⟨_, rfl⟩
theorem run_sliceBound {x : Operand} {y : X} {n m : Nat} {code : BoundsCode} (hρ : EnvOk R t ρ) (hxy : okX x y = true) (hn : natOf (y.ev t) = some n) (hle : n ≤ m) :
    (Instr.sliceBound (ρ x) m code).run P w = .ok n w := by
  obtain ⟨k, hk⟩ := natOf_i hn
  have hx := hρ x y hxy
  rw [hk] at hx
  have hx := conc_i hx
  simp only [Instr.sliceBound, hx, asIntOf, Sem.run_bind, Sem.run_pure, Result.andThen_ok]
  rw [if_pos ⟨Int.natCast_nonneg n, Int.ofNat_le.2 hle⟩]
  simp
theorem run_bounds {iss : Bool} {len cap a b : Nat} {lo hi : Option X} {lo' hi' : Option Operand} (hρ : EnvOk R t ρ) (hlo : okXo lo' lo = true) (hhi : okXo hi' hi = true)
    (hb : bounds t len cap lo hi = some (a, b)) {cap' : Nat} (hcap : cap ≤ cap') : (Instr.sliceBounds iss len cap' (lo'.map ρ) (hi'.map ρ) none).run P w = .ok (a, b, cap') w ∧ a ≤ b ∧ b ≤ cap := by
  unfold bounds at hb
  cases hi with
  | none =>
    cases hi' with
    | some _ => simp [okXo] at hhi
    | none =>
      simp only at hb
      split at hb
      case isFalse => simp at hb
      rename_i hc
      rw [Nat.ble_eq] at hc
      cases lo with
      | none =>
        cases lo' with
        | some _ => simp [okXo] at hlo
        | none =>
          simp at hb
          obtain ⟨rfl, rfl⟩ := hb
          exact ⟨by simp [Instr.sliceBounds], Nat.zero_le _, hc⟩
      | some x =>
        cases lo' with
        | none => simp [okXo] at hlo
        | some x' =>
          split at hb <;> try simp at hb
          rename_i a' ha
          obtain ⟨hle, rfl, rfl⟩ := hb
          exact ⟨by simp [Instr.sliceBounds, run_sliceBound hρ hlo ha hle], hle, hc⟩
  | some y =>
    cases hi' with
    | none => simp [okXo] at hhi
    | some y' =>
      simp only at hb
      split at hb
      · simp at hb
      rename_i q hq
      split at hb
      case isFalse => simp at hb
      rename_i hc
      rw [Nat.ble_eq] at hc
      have hrq : ∀ code, (Instr.sliceBound (ρ y') cap' code).run P w = .ok q w := fun code => run_sliceBound hρ hhi hq (by omega)
      cases lo with
      | none =>
        cases lo' with
        | some _ => simp [okXo] at hlo
        | none =>
          simp at hb
          obtain ⟨rfl, rfl⟩ := hb
          exact ⟨by simp [Instr.sliceBounds, hrq], Nat.zero_le _, hc⟩
      | some x =>
        cases lo' with
        | none => simp [okXo] at hlo
        | some x' =>
          split at hb <;> try simp at hb
          rename_i a' ha
          obtain ⟨hle, rfl, rfl⟩ := hb
          exact ⟨by simp [Instr.sliceBounds, hrq, run_sliceBound hρ hlo ha hle], hle, hc⟩
theorem conc_sl {b o l c : Nat} {g : Option Nat} {x : Value} (hx : conc R (.sl b o l c g) = some x) : ∃ cb sz cap', R b = some (cb, sz) ∧ x = .slice (some ⟨cb, o, none⟩) l cap' ∧ c ≤ cap' ∧
    (g = none → cap' = c) ∧ (∀ e, g = some e → cap' = (sz - o) / e ∧ o + c * e ≤ sz ∧ 0 < e) := by
  cases g with
  | none =>
    simp only [conc, Option.map_eq_some_iff] at hx
    obtain ⟨a, ha, rfl⟩ := hx
    exact ⟨a.1, a.2, c, ha, rfl, Nat.le_refl _, (fun _ => rfl), (fun e he => by cases he)⟩
  | some e =>
    simp only [conc, Option.bind_eq_some_iff] at hx
    obtain ⟨a, ha, hx⟩ := hx
    split at hx <;> simp at hx
    rename_i hc
    subst hx
    refine ⟨a.1, a.2, _, ha, rfl, ?_, (fun hn => by cases hn), (fun e' he => by cases he; exact ⟨rfl, hc⟩)⟩
    rw [Nat.le_div_iff_mul_le hc.2]
    omega
theorem run_sl_expr {e : TypeId} {esz : Nat} {t' : TypeId} {x : Value} {lo hi : Option Value} {mx : Option Value} {a b m base len cap : Nat} {off : Nat} (hu : P.underlying t' = some (.slice e)) (hsz : isSz P e esz = true)
    (hx : x = .slice (some ⟨base, off, none⟩) len cap) (hb : (Instr.sliceBounds true len cap lo hi mx).run P w = .ok (a, b, m) w) :
    (Instr.sliceAt t' x lo hi mx).run P w = .ok (.slice (some ⟨base, if m = a then off else off + a * esz, none⟩) (b - a) (m - a)) w := by
  subst hx
  simp only [Instr.sliceAt, Sem.run_bind, run_underlying hu, Result.andThen_ok, Instr.slice, hb, run_size w hsz, Sem.run_pure, Option.map_some, add_spot]
  by_cases hm : m = a
  · rw [if_pos hm, if_pos hm]
  · rw [if_neg hm, if_neg hm]
theorem run_slc {esz : Nat} {y : X} {lo hi mx : Option X} (hok : okA P op (.slc esz y lo hi mx) = true) (hρ : EnvOk R t ρ) (hs : Sim P F R h.get w) (he : evA call (.slc esz y lo hi mx) t h = .ok v h') :
    OpRun P F R h w (execOp ρ ⟨dst, op, ty, pos, af, gd⟩) v h' := by
  cases op <;> try exact (Bool.false_ne_true hok).elim
  rename_i t' x lo' hi' mx'
  have hok : (okX x y && okXo lo' lo && okXo hi' hi && okXo mx' mx && (match P.underlying t' with
    | some (.slice e) => isSz P e esz
    | _ => false)) = true := hok
  simp only [Bool.and_eq_true] at hok
  obtain ⟨⟨⟨⟨hxy, hlo⟩, hhi⟩, hmx⟩, hu⟩ := hok
  split at hu <;> try simp at hu
  rename_i e hue
  have hx := hρ x y hxy
  simp only [evA] at he
  generalize y.ev t = vy at *
  cases mx with
  | none =>
    cases mx' with
    | some _ => simp [okXo] at hmx
    | none =>
      simp only at he
      obtain ⟨hv, rfl⟩ := ofV_ok he
      unfold sliceV at hv
      split at hv
      · split at hv <;> simp at hv
        subst hv
        rename_i q hq
        obtain ⟨a, b⟩ := q
        obtain ⟨hr, h1, h2⟩ := run_bounds (P := P) (w := w) (iss := true) hρ hlo hhi hq (Nat.le_refl _)
        simp [conc] at hx
        obtain rfl : b = 0 := by omega
        obtain rfl : a = 0 := by omega
        refine .plain (x := .slice none 0 0) hs ?_ (by simp [conc])
        simp [execOp, Instr.sliceAt, run_underlying hue, Instr.slice, ← hx, hr, run_size w hu]
      · rename_i aa
        split at hv <;> simp at hv
        subst hv
        rename_i q hq
        obtain ⟨a, b⟩ := q
        obtain ⟨hr, h1, h2⟩ := run_bounds (P := P) (w := w) (iss := true) hρ hlo hhi hq (Nat.le_refl _)
        simp [conc] at hx
        obtain rfl : b = 0 := by omega
        obtain rfl : a = 0 := by omega
        refine .plain (x := .slice (some aa) 0 0) hs ?_ (by simp [conc])
        simp [execOp, Instr.sliceAt, run_underlying hue, Instr.slice, ← hx, hr, run_size w hu]
      · rename_i blk off len cap g
        split at hv <;> try simp at hv
        rename_i a b hq
        obtain ⟨cb, sz, cap', hR, hxe, hcc, hg1, hg2⟩ := conc_sl hx
        obtain ⟨hr, h1, h2⟩ := run_bounds (P := P) (w := w) (iss := true) hρ hlo hhi hq hcc
        have hrun := run_sl_expr (P := P) (w := w) hue hu hxe hr
        refine ⟨_, _, w, by simp only [execOp, Sem.run_bind, Option.map_none, hrun, Result.andThen_ok, Sem.run_pure]; rfl, .inl rfl, .same hs ?_⟩
        cases g with
        | none =>
          simp at hv
          subst hv
          obtain rfl := hg1 rfl
          simp only [conc, hR, Option.map_some, Nat.beq_eq_true_eq]
          congr 5
          by_cases hac : a = cap'
          · simp [hac]
          · simp [hac, Ne.symm hac]
        | some g =>
          simp at hv
          obtain ⟨⟨hlt, rfl⟩, rfl⟩ := hv
          obtain ⟨hc1, hc2, hc3⟩ := hg2 g rfl
          have hne : ¬ cap' = a := by omega
          simp only [conc, hR, Option.bind_some, if_neg hne]
          have h3 : (cap - a) * g = cap * g - a * g := Nat.sub_mul ..
          have h4 : a * g ≤ cap * g := Nat.mul_le_mul_right g (by omega)
          rw [if_pos ⟨by omega, hc3⟩, hc1]
          congr 2
          rw [Nat.sub_add_eq, Nat.mul_comm a g, Nat.sub_mul_div]
      · simp at hv
  | some m =>
    cases mx' with
    | none => simp [okXo] at hmx
    | some m' =>
      simp only at he
      obtain ⟨hv, rfl⟩ := ofV_ok he
      unfold sliceV3 at hv
      have hbs : ∀ {len cap' mm a b : Nat} {hh : X}, natOf (m.ev t) = some mm → hi = some hh → mm ≤ cap' → bounds t mm mm lo hi = some (a, b) → ∃ hi1, hi' = some hi1 ∧
          (Instr.sliceBounds true len cap' (lo'.map ρ) (some (ρ hi1)) (some (ρ m'))).run P w = .ok (a, b, mm) w := by
        intro len cap' mm a b hh hm hhe hmc hq
        subst hhe
        cases hi' with
        | none => simp [okXo] at hhi
        | some hi' =>
          refine ⟨hi', rfl, ?_⟩
          have hrm := run_sliceBound (P := P) (w := w) (code := .slice3Acap) hρ hmx hm hmc
          have hok2 : okX hi' hh = true := hhi
          unfold bounds at hq
          simp only at hq
          split at hq <;> try simp at hq
          rename_i b' hb'
          obtain ⟨hle, hq⟩ := hq
          simp only [Instr.sliceBounds, Sem.run_bind, if_true, hrm, Result.andThen_ok, Sem.run_pure]
          rw [run_sliceBound hρ hok2 hb' hle]
          simp only [Result.andThen_ok]
          cases lo with
          | none =>
            cases lo' with
            | some _ => simp [okXo] at hlo
            | none => simp at hq; simp [hq]
          | some x1 =>
            cases lo' with
            | none => simp [okXo] at hlo
            | some x1' =>
              simp only at hq
              split at hq <;> try simp at hq
              rename_i a' ha
              obtain ⟨hle, rfl, rfl⟩ := hq
              simp only [Option.map_some, Sem.run_bind]
              rw [run_sliceBound hρ hlo ha hle]
              simp
      split at hv <;> try simp at hv
      · rename_i blk off len cap g
        split at hv <;> try simp at hv
        rename_i mm hh hm
        obtain ⟨hmc, hv⟩ := hv
        split at hv <;> simp at hv
        rename_i a b hq
        subst hv
        obtain ⟨cb, sz, cap', hR, hxe, hcc, hg1, hg2⟩ := conc_sl hx
        obtain ⟨hi1, rfl, hrb⟩ := hbs (len := len) (cap' := cap') hm rfl (Nat.le_trans hmc hcc) hq
        have hrun := run_sl_expr (P := P) (w := w) hue hu hxe hrb
        refine ⟨_, _, w, by simp only [execOp, Sem.run_bind, Option.map_some, hrun, Result.andThen_ok, Sem.run_pure]; rfl, .inl rfl, .same hs ?_⟩
        simp only [conc, hR, Option.map_some, Nat.beq_eq_true_eq]
        congr 5
        by_cases hac : a = mm
        · simp [hac]
        · simp [hac, Ne.symm hac]
      · rename_i aa
        split at hv <;> try simp at hv
        rename_i mm hh hm
        obtain ⟨rfl, hv⟩ := hv
        split at hv <;> simp at hv
        rename_i q hq
        obtain ⟨a, b⟩ := q
        subst hv
        obtain ⟨hi1, rfl, hrb⟩ := hbs (len := 0) (cap' := 0) hm rfl (Nat.le_refl _) hq
        obtain ⟨_, h1, h2⟩ := run_bounds (P := P) (w := w) (iss := true) hρ hlo hhi hq (Nat.le_refl _)
        obtain rfl : b = 0 := by omega
        obtain rfl : a = 0 := by omega
        simp [conc] at hx
        refine .plain (x := .slice (some aa) 0 0) hs ?_ (by simp [conc])
        simp [execOp, Instr.sliceAt, run_underlying hue, Instr.slice, ← hx, hrb, run_size w hu]
theorem run_slcA {len esz : Nat} {y : X} {lo hi : Option X} (hok : okA P op (.slcA len esz y lo hi) = true) (hρ : EnvOk R t ρ) (hs : Sim P F R h.get w) (he : evA call (.slcA len esz y lo hi) t h = .ok v h') :
    OpRun P F R h w (execOp ρ ⟨dst, op, ty, pos, af, gd⟩) v h' := by
  cases op <;> try exact (Bool.false_ne_true hok).elim
  rename_i t' x lo' hi' mx'
  have hok : (okX x y && okXo lo' lo && okXo hi' hi && mx'.isNone && (match P.underlying t' with
    | some (.array n e) => Nat.beq n len && isSz P e esz
    | _ => false)) = true := hok
  simp only [Bool.and_eq_true, Option.isNone_iff_eq_none] at hok
  obtain ⟨⟨⟨⟨hxy, hlo⟩, hhi⟩, rfl⟩, hu⟩ := hok
  split at hu <;> try simp at hu
  rename_i n e hue
  obtain ⟨rfl, hsz⟩ := hu
  have hx := hρ x y hxy
  simp only [evA] at he
  split at he <;> try simp at he
  rename_i b o hy
  split at he <;> simp only [RO.ok.injEq, reduceCtorEq] at he
  rename_i l r hq
  obtain ⟨rfl, rfl⟩ := he
  rw [hy] at hx
  obtain ⟨c, sz, hb, hxe⟩ := conc_p hx
  obtain ⟨hr, h1, h2⟩ := run_bounds (P := P) (w := w) (iss := false) hρ hlo hhi hq (Nat.le_refl _)
  refine .plain (x := .slice (some ⟨c, if n = l then o else o + l * esz, none⟩) (r - l) (n - l)) hs ?_ ?_
  · simp only [execOp, Instr.sliceAt, Sem.run_bind, run_underlying hue, Result.andThen_ok, hxe, Instr.sureAddr, Sem.run_pure, Option.map_none, hr, run_size w hsz, add_spot]
    by_cases hm : n = l
    · rw [if_pos hm, if_pos hm]
    · rw [if_neg hm, if_neg hm]
  · simp only [conc, hb, Option.map_some, Nat.beq_eq_true_eq]
    congr 5
    by_cases hac : l = n
    · simp [hac]
    · simp [hac, Ne.symm hac]
theorem extract_byteArr (l : List Nat) (a b : Nat) : (byteArr l).extract a b = byteArr ((l.drop a).take (b - a)) := by
  apply ByteArray.ext
  simp [byteArr, ByteArray.data_extract, List.extract, List.map_drop, List.map_take]
theorem run_slcS {y : X} {lo hi : Option X} (hok : okA P op (.slcS y lo hi) = true) (hρ : EnvOk R t ρ) (hs : Sim P F R h.get w) (he : evA call (.slcS y lo hi) t h = .ok v h') :
    OpRun P F R h w (execOp ρ ⟨dst, op, ty, pos, af, gd⟩) v h' := by
  cases op <;> try exact (Bool.false_ne_true hok).elim
  rename_i t' x lo' hi' mx'
  have hok : (okX x y && okXo lo' lo && okXo hi' hi && mx'.isNone && (match P.underlying t' with
    | some .string => true
    | _ => false)) = true := hok
  simp only [Bool.and_eq_true, Option.isNone_iff_eq_none] at hok
  obtain ⟨⟨⟨⟨hxy, hlo⟩, hhi⟩, rfl⟩, hu⟩ := hok
  split at hu <;> try simp at hu
  rename_i hue
  have hx := hρ x y hxy
  simp only [evA] at he
  split at he <;> try simp at he
  rename_i l hy
  split at he <;> simp only [RO.ok.injEq, reduceCtorEq] at he
  rename_i a b hq
  obtain ⟨rfl, rfl⟩ := he
  rw [hy] at hx
  obtain ⟨hxe, hlt⟩ := conc_ss hx
  obtain ⟨hr, h1, h2⟩ := run_bounds (P := P) (w := w) (iss := false) hρ hlo hhi hq (Nat.le_refl _)
  refine .plain (x := .string (byteArr ((l.drop a).take (b - a)))) hs ?_ ?_
  · simp only [execOp, Instr.sliceAt, Sem.run_bind, run_underlying hue, Result.andThen_ok, hxe, Instr.slice, Option.isSome_none, Option.map_none, size_byteArr, hr, extract_byteArr]
    simp [hr]
  · simp only [conc]
    rw [if_pos]
    rw [List.all_eq_true]
    intro n hn
    simpa using hlt n (List.mem_of_mem_drop (List.mem_of_mem_take hn))
theorem run_fld {off : Nat} {y : X} (hok : okA P op (.fld off y) = true) (hρ : EnvOk R t ρ) (hs : Sim P F R h.get w) (he : evA call (.fld off y) t h = .ok v h') :
    OpRun P F R h w (execOp ρ ⟨dst, op, ty, pos, af, gd⟩) v h' := by
  cases op <;> try exact (Bool.false_ne_true hok).elim
  rename_i s x f
  have hok : (okX x y && (match P.underlying s with
    | some (.struct fs) => (match fs[f]? with
      | some fd => Nat.beq fd.offset off && (match szT P fd.type with
        | some n => Nat.blt 0 n
        | none => false)
      | none => false)
    | _ => false)) = true := hok
  rw [Bool.and_eq_true] at hok
  obtain ⟨hxy, hu⟩ := hok
  split at hu <;> try simp at hu
  rename_i fs hue
  split at hu <;> try simp at hu
  rename_i fd hfd
  obtain ⟨rfl, hn⟩ := hu
  split at hn <;> try simp at hn
  rename_i n hsz
  have hx := hρ x y hxy
  simp only [evA] at he
  split at he <;> simp only [RO.ok.injEq, reduceCtorEq] at he
  rename_i b o hy
  obtain ⟨rfl, rfl⟩ := he
  rw [hy] at hx
  obtain ⟨c, sz, hb, hxe⟩ := conc_p hx
  have hr : (sizeOf fd.type).run P w = .ok n w := run_size w (by simp [isSz, hsz])
  refine .plain (x := .pointer (some ⟨c, o + fd.offset, none⟩)) hs ?_ (by simp [conc, hb])
  simp only [execOp, Instr.fieldAt, Sem.run_bind, run_underlying hue, Result.andThen_ok, hfd, hxe, Instr.sureAddr, Sem.run_pure, fieldPlace, hr]
  rw [if_neg (by omega)]
  simp [add_spot]
theorem run_part_plainT {ft : TypeId} {cs : Array Value} {off : Nat} {x : Value} (hp : plainT P ft = true) (hx : cs.toList[off]? = some x) : (part ft cs off).run P w = .ok x w := by
  simp only [part, Sem.run_bind, run_isAgg_plain w hp, Result.andThen_ok, Bool.false_eq_true, if_false]
  rw [Array.getElem?_toList] at hx
  simp [hx]
theorem run_part_aggT {ft : TypeId} {cs : Array Value} {off n : Nat} (hp : aggT P ft = true) (hn : isSz P ft n = true) : (part ft cs off).run P w = .ok (.agg ((cs.toList.drop off).take n).toArray) w := by
  simp only [part, Sem.run_bind, run_isAgg_agg w hp, Result.andThen_ok, if_true, run_size w hn, Sem.run_pure]
  congr 2
  apply Array.ext'
  simp [List.extract]
theorem conc_agg {c : List V} {x : Value} (hx : conc R (.agg c) = some x) : ∃ l, concL R c = some l ∧ x = .agg l.toArray := by
  simp only [conc] at hx
  cases hc : concL R c with
  | none => simp [hc] at hx
  | some l => simp [hc] at hx; exact ⟨l, rfl, hx.symm⟩
theorem conc_tup {c : List V} {x : Value} (hx : conc R (.tup c) = some x) : ∃ l, concL R c = some l ∧ x = .tuple l.toArray := by
  simp only [conc] at hx
  cases hc : concL R c with
  | none => simp [hc] at hx
  | some l => simp [hc] at hx; exact ⟨l, rfl, hx.symm⟩
theorem run_fldv {off : Nat} {sz : Option Nat} {y : X} (hok : okA P op (.fldv off sz y) = true) (hρ : EnvOk R t ρ) (hs : Sim P F R h.get w) (he : evA call (.fldv off sz y) t h = .ok v h') :
    OpRun P F R h w (execOp ρ ⟨dst, op, ty, pos, af, gd⟩) v h' := by
  cases op <;> try exact (Bool.false_ne_true hok).elim
  rename_i s x f
  have hok : (okX x y && (match P.underlying s with
    | some (.struct fs) => (match fs[f]? with
      | some fd => Nat.beq fd.offset off && (match (generalizing := false) sz with
        | none => plainT P fd.type
        | some n => aggT P fd.type && isSz P fd.type n)
      | none => false)
    | _ => false)) = true := hok
  rw [Bool.and_eq_true] at hok
  obtain ⟨hxy, hu⟩ := hok
  split at hu <;> try simp at hu
  rename_i fs hue
  split at hu <;> try simp at hu
  rename_i fd hfd
  obtain ⟨rfl, hn⟩ := hu
  have hx := hρ x y hxy
  simp only [evA] at he
  split at he <;> try simp at he
  rename_i c hy
  rw [hy] at hx
  obtain ⟨l, hl, hxe⟩ := conc_agg hx
  cases sz with
  | none =>
    simp only at he
    obtain ⟨hv, rfl⟩ := ofV_ok he
    rw [nth?_eq] at hv
    obtain ⟨u, hu, hc⟩ := concL_get hl hv
    refine .plain (x := u) hs ?_ hc
    simp [execOp, Instr.field, run_underlying hue, hfd, hxe, asAgg, run_part_plainT (P := P) (w := w) (cs := l.toArray) hn (by simpa using hu)]
  | some n =>
    simp only at he hn
    rw [Bool.and_eq_true] at hn
    split at he <;> simp only [RO.ok.injEq, reduceCtorEq] at he
    rename_i l' hl'
    obtain ⟨rfl, rfl⟩ := he
    obtain ⟨hle, rfl⟩ := cut_eq.1 hl'
    refine .plain (x := .agg ((l.drop fd.offset).take n).toArray) hs ?_ (by simp [conc, concL_take n (concL_drop fd.offset hl)])
    simp [execOp, Instr.field, run_underlying hue, hfd, hxe, asAgg, run_part_aggT (P := P) (w := w) (cs := l.toArray) hn.1 hn.2]
theorem run_ixS {esz : Nat} {y i : X} (hok : okA P op (.ixS esz y i) = true) (hρ : EnvOk R t ρ) (hs : Sim P F R h.get w) (he : evA call (.ixS esz y i) t h = .ok v h') :
    OpRun P F R h w (execOp ρ ⟨dst, op, ty, pos, af, gd⟩) v h' := by
  cases op <;> try exact (Bool.false_ne_true hok).elim
  rename_i t' x ix
  have hok : (okX x y && okX ix i && (match P.underlying t' with
    | some (.slice e) => isSz P e esz
    | _ => false)) = true := hok
  simp only [Bool.and_eq_true] at hok
  obtain ⟨⟨hxy, hii⟩, hu⟩ := hok
  split at hu <;> try simp at hu
  rename_i e hue
  have hx := hρ x y hxy
  have hi := hρ ix i hii
  simp only [evA] at he
  split at he <;> try simp at he
  rename_i b o len cap g n hy hn
  split at he <;> simp only [RO.ok.injEq, reduceCtorEq] at he
  rename_i hlt
  obtain ⟨rfl, rfl⟩ := he
  rw [hy] at hx
  obtain ⟨cb, sz, cap', hR, hxe, hcc, hg1, hg2⟩ := conc_sl hx
  obtain ⟨k, hk⟩ := natOf_i hn
  rw [hk] at hi
  have hi := conc_i hi
  refine .plain (x := .pointer (some ⟨cb, o + n * esz, none⟩)) hs ?_ (by simp [conc, hR])
  simp only [execOp, Instr.indexAt, Sem.run_bind, run_underlying hue, Result.andThen_ok, hxe, hi, asIntOf, Sem.run_pure]
  rw [if_pos ⟨Int.natCast_nonneg n, Int.ofNat_lt.2 hlt⟩]
  simp [run_size w hu, add_spot]
theorem run_ixA {len esz : Nat} {y i : X} (hok : okA P op (.ixA len esz y i) = true) (hρ : EnvOk R t ρ) (hs : Sim P F R h.get w) (he : evA call (.ixA len esz y i) t h = .ok v h') :
    OpRun P F R h w (execOp ρ ⟨dst, op, ty, pos, af, gd⟩) v h' := by
  cases op <;> try exact (Bool.false_ne_true hok).elim
  rename_i t' x ix
  have hok : (okX x y && okX ix i && (match P.underlying t' with
    | some (.array n e) => Nat.beq n len && isSz P e esz
    | _ => false)) = true := hok
  simp only [Bool.and_eq_true] at hok
  obtain ⟨⟨hxy, hii⟩, hu⟩ := hok
  split at hu <;> try simp at hu
  rename_i n' e hue
  obtain ⟨rfl, hsz⟩ := hu
  have hx := hρ x y hxy
  have hi := hρ ix i hii
  simp only [evA] at he
  split at he <;> try simp at he
  rename_i b o n hy hn
  split at he <;> simp only [RO.ok.injEq, reduceCtorEq] at he
  rename_i hlt
  obtain ⟨rfl, rfl⟩ := he
  rw [hy] at hx
  obtain ⟨c, sz, hb, hxe⟩ := conc_p hx
  obtain ⟨k, hk⟩ := natOf_i hn
  rw [hk] at hi
  have hi := conc_i hi
  refine .plain (x := .pointer (some ⟨c, o + n * esz, none⟩)) hs ?_ (by simp [conc, hb])
  simp only [execOp, Instr.indexAt, Sem.run_bind, run_underlying hue, Result.andThen_ok, hxe, hi, asIntOf, Sem.run_pure, Instr.sureAddr]
  rw [if_pos ⟨Int.natCast_nonneg n, Int.ofNat_lt.2 hlt⟩]
  simp [run_size w hsz, add_spot]
theorem run_ixStr {y i : X} (hok : okA P op (.ixStr y i) = true) (hρ : EnvOk R t ρ) (hs : Sim P F R h.get w) (he : evA call (.ixStr y i) t h = .ok v h') :
    OpRun P F R h w (execOp ρ ⟨dst, op, ty, pos, af, gd⟩) v h' := by
  cases op <;> try exact (Bool.false_ne_true hok).elim
  rename_i t' x ix
  have hok : (okX x y && okX ix i && (match P.underlying t' with
    | some .string => true
    | _ => false)) = true := hok
  simp only [Bool.and_eq_true] at hok
  obtain ⟨⟨hxy, hii⟩, hu⟩ := hok
  split at hu <;> try simp at hu
  rename_i hue
  have hx := hρ x y hxy
  have hi := hρ ix i hii
  simp only [evA] at he
  split at he <;> try simp at he
  rename_i l n hy hn
  split at he <;> simp only [RO.ok.injEq, reduceCtorEq] at he
  rename_i c hc
  obtain ⟨rfl, rfl⟩ := he
  rw [hy] at hx
  obtain ⟨hxe, hlt⟩ := conc_ss hx
  obtain ⟨k, hk⟩ := natOf_i hn
  rw [hk] at hi
  have hi := conc_i hi
  have hn' : n < l.length := (List.getElem?_eq_some_iff.1 hc).1
  have hget : (byteArr l)[n]? = some (UInt8.ofNat c) := by
    have hs : n < (byteArr l).size := by rw [size_byteArr]; exact hn'
    rw [getElem?_pos (byteArr l) n hs]
    congr 1
    have e : l[n] = c := (List.getElem?_eq_some_iff.1 hc).2
    show (byteArr l).data[n] = _
    simp [byteArr, e]
  have hc256 : c < 256 := hlt c (List.mem_of_getElem? hc)
  refine .plain (x := .int .u8 c) hs ?_ (by simp [conc])
  simp only [execOp, Instr.index, Sem.run_bind, run_underlying hue, Result.andThen_ok, hxe, hi, asIntOf, Sem.run_pure]
  rw [if_pos (show (0 : Int) ≤ Int.ofNat n from Int.natCast_nonneg n)]
  simp only [Int.ofNat_eq_natCast, Int.toNat_natCast, hget]
  simp
  omega
theorem run_ixV {len esz : Nat} {ag : Bool} {y i : X} (hok : okA P op (.ixV len esz ag y i) = true) (hρ : EnvOk R t ρ) (hs : Sim P F R h.get w) (he : evA call (.ixV len esz ag y i) t h = .ok v h') :
    OpRun P F R h w (execOp ρ ⟨dst, op, ty, pos, af, gd⟩) v h' := by
  cases op <;> try exact (Bool.false_ne_true hok).elim
  rename_i t' x ix
  have hok : (okX x y && okX ix i && (match P.underlying t' with
    | some (.array n e) => Nat.beq n len && isSz P e esz && (if ag then aggT P e else plainT P e)
    | _ => false)) = true := hok
  simp only [Bool.and_eq_true] at hok
  obtain ⟨⟨hxy, hii⟩, hu⟩ := hok
  split at hu <;> try simp at hu
  rename_i n' e hue
  obtain ⟨⟨rfl, hsz⟩, hag⟩ := hu
  have hx := hρ x y hxy
  have hi := hρ ix i hii
  simp only [evA] at he
  split at he <;> try simp at he
  rename_i c n hy hn
  by_cases hlt : n < n'
  case neg => rw [if_neg hlt] at he; cases he
  rw [if_pos hlt] at he
  rw [hy] at hx
  obtain ⟨l, hl, hxe⟩ := conc_agg hx
  obtain ⟨k, hk⟩ := natOf_i hn
  rw [hk] at hi
  have hi := conc_i hi
  cases ag with
  | true =>
    simp only [if_true] at he hag
    split at he <;> simp only [RO.ok.injEq, reduceCtorEq] at he
    rename_i l' hl'
    obtain ⟨rfl, rfl⟩ := he
    obtain ⟨hle, rfl⟩ := cut_eq.1 hl'
    refine .plain (x := .agg ((l.drop (n * esz)).take esz).toArray) hs ?_ (by simp [conc, concL_take esz (concL_drop (n * esz) hl)])
    simp only [execOp, Instr.index, Sem.run_bind, run_underlying hue, Result.andThen_ok, hxe, hi, asIntOf, Sem.run_pure]
    rw [if_pos ⟨Int.natCast_nonneg n, Int.ofNat_lt.2 hlt⟩]
    simp [run_size w hsz, run_part_aggT (P := P) (w := w) (cs := l.toArray) hag hsz]
  | false =>
    simp only [Bool.false_eq_true, if_false] at he hag
    obtain ⟨hv, rfl⟩ := ofV_ok he
    rw [nth?_eq] at hv
    obtain ⟨u, hu, hc⟩ := concL_get hl hv
    refine .plain (x := u) hs ?_ hc
    simp only [execOp, Instr.index, Sem.run_bind, run_underlying hue, Result.andThen_ok, hxe, hi, asIntOf, Sem.run_pure]
    rw [if_pos ⟨Int.natCast_nonneg n, Int.ofNat_lt.2 hlt⟩]
    simp [run_size w hsz, run_part_plainT (P := P) (w := w) (cs := l.toArray) hag (by simpa using hu)]
theorem run_ext {y : X} {n : Nat} (hok : okA P op (.ext y n) = true) (hρ : EnvOk R t ρ) (hs : Sim P F R h.get w) (he : evA call (.ext y n) t h = .ok v h') :
    OpRun P F R h w (execOp ρ ⟨dst, op, ty, pos, af, gd⟩) v h' := by
  cases op <;> try exact (Bool.false_ne_true hok).elim
  rename_i x m
  have hok : (Nat.beq m n && okX x y) = true := hok
  rw [Bool.and_eq_true, Nat.beq_eq] at hok
  obtain ⟨rfl, hxy⟩ := hok
  have hx := hρ x y hxy
  simp only [evA] at he
  split at he <;> try simp at he
  rename_i c hy
  obtain ⟨hv, rfl⟩ := ofV_ok he
  rw [hy] at hx
  obtain ⟨l, hl, hxe⟩ := conc_tup hx
  rw [nth?_eq] at hv
  obtain ⟨u, hu, hc⟩ := concL_get hl hv
  refine .plain (x := u) hs ?_ hc
  simp [execOp, Instr.extract, hxe, hu]
end
end Go.Air
namespace Go.Air
theorem zrow_mul (z : List Value) : ∀ c : Nat, zrow z (c * z.length) = (List.replicate c z).flatten
  | 0 => by simp [zrow]
  | c + 1 => by
    have ih := zrow_mul z c
    rw [List.replicate_succ', List.flatten_append, ← ih]
    unfold zrow
    rw [Nat.add_mul, Nat.one_mul, List.range_add, List.map_append, List.map_map]
    congr 1
    simp only [List.flatten_cons, List.flatten_nil, List.append_nil]
    apply List.ext_getElem?
    intro i
    by_cases hi : i < z.length
    · simp [hi, Nat.mod_eq_of_lt hi]
    · rw [List.getElem?_eq_none (by simpa using hi), List.getElem?_eq_none (by omega)]
theorem zeroCells_eq (z : Array Value) (n : Nat) : (Builtin.zeroCells z n).toList = (List.replicate n z.toList).flatten := by
  unfold Builtin.zeroCells
  rw [zrow_range, ← zrow_mul]
  simp
section
variable {P : Program} {F : Nat → Prop} {R : Emb} {h h' : H} {w : World} {t : List V} {ρ : Operand → Value} {v : V}
  {dst : Option Tmp} {op : Op} {ty : TypeId} {pos : String} {af : Array Edge} {gd : Option (Nat × Bool)} {call : V → List V → H → RO}
theorem run_mkSl {z : List V} {bytes : Nat} {a b : X} (hok : okA P op (.mkSl z bytes a b) = true) (hρ : EnvOk R t ρ) (hs : Sim P F R h.get w) (hfr : Fresh R h h') (he : evA call (.mkSl z bytes a b) t h = .ok v h') :
    OpRun P F R h w (execOp ρ ⟨dst, op, ty, pos, af, gd⟩) v h' := by
  cases op <;> try exact (Bool.false_ne_true hok).elim
  rename_i t' x y
  have hok : (okX x a && okX y b && (match P.underlying t' with
    | some (.slice e) => (match P.info? e with
      | some i => Nat.beq i.bytes bytes && Nat.beq i.size z.length && (match i.zero with
        | some v => sameL z v.cells.toList
        | none => false)
      | none => false)
    | _ => false)) = true := hok
  simp only [Bool.and_eq_true] at hok
  obtain ⟨⟨hxa, hyb⟩, hu⟩ := hok
  split at hu <;> try simp at hu
  rename_i e hue
  cases hi : P.info? e with
  | none => simp [hi] at hu
  | some i =>
    simp only [hi, Bool.and_eq_true, Nat.beq_eq] at hu
    obtain ⟨⟨hby, hsz⟩, hz⟩ := hu
    cases hzv : i.zero with
    | none => simp [hzv] at hz
    | some u =>
      simp only [hzv] at hz
      have hz0 : zeroT P e = some u := by simp [zeroT, hi, hzv]
      have hc := concL_of_same R z _ hz
      have hx := hρ x a hxa
      have hy := hρ y b hyb
      simp only [evA] at he
      split at he <;> try simp at he
      rename_i l c hl hcn
      obtain ⟨k1, hk1⟩ := natOf_i hl
      obtain ⟨k2, hk2⟩ := natOf_i hcn
      rw [hk1] at hx; rw [hk2] at hy
      have hx := conc_i hx
      have hy := conc_i hy
      split at he <;> simp only [RO.ok.injEq, reduceCtorEq] at he
      rename_i hle
      obtain ⟨rfl, rfl⟩ := he
      obtain ⟨⟨hlc, hc48⟩, hb48⟩ := hle
      have w1 : IntKind.i64.wrap (Int.ofNat l) = l := IntWalk.i64_in _ (by rw [Int.ofNat_eq_natCast]; omega)
      have w2 : IntKind.i64.wrap (Int.ofNat c) = c := IntWalk.i64_in _ (by rw [Int.ofNat_eq_natCast]; omega)
      have hsize : (sizeOf e).run P w = .ok i.size w := run_size w (by simp [isSz, szT, hi])
      have hzl : u.cells.toList.length = z.length := concL_length hc
      obtain ⟨arr, ha, hrun⟩ : ∃ arr : Array Value, arr.toList = (List.replicate c u.cells.toList).flatten ∧
          (Instr.makeSlice t' (ρ x) (ρ y)).run P w = .ok (.slice (some ⟨w.heap.size, 0, none⟩) l c) (w.alloc (.cells arr e)) := by
        have hnot1 : ¬ ((decide ((c : Int) < 0) || decide ((bytes : Int) * (c : Int) > 2 ^ 48)) = true) := by
          simp only [Bool.or_eq_true, decide_eq_true_eq, not_or]
          refine ⟨by omega, ?_⟩
          have : ((bytes * c : Nat) : Int) ≤ 281474976710656 := Int.ofNat_le.2 hb48
          rw [Int.natCast_mul] at this
          omega
        have hnot : ¬ (((decide ((c : Int) < 0) || decide ((bytes : Int) * (c : Int) > 2 ^ 48)) || decide ((l : Int) < 0) || decide ((l : Int) > (c : Int))) = true) := by
          rw [Bool.or_eq_true, Bool.or_eq_true, not_or, not_or]
          exact ⟨⟨hnot1, by simp⟩, by simp; omega⟩
        by_cases h0 : c * i.size = 0
        · refine ⟨(Array.range (c * i.size)).map fun k => (#[] : Array Value)[k % 0]!, ?_, ?_⟩
          · rw [← zrow_mul, hzl, ← hsz, h0]
            simp [zrow]
          · simp only [Instr.makeSlice, Sem.run_bind, run_underlying hue, Result.andThen_ok, hx, hy, asInt, asIntOf, Sem.run_pure, run_tInfo w hi, w1, w2, hby]
            rw [if_neg hnot]
            simp only [Sem.run_bind, run_askRoom, Result.andThen_ok, hsize, Int.toNat_natCast]
            rw [if_pos h0]
            simp [newRow]
        · refine ⟨(Array.range (c * i.size)).map fun k => u.cells[k % u.cells.size]!, ?_, ?_⟩
          · rw [zrow_range, ← zrow_mul, hzl, ← hsz]
          · simp only [Instr.makeSlice, Sem.run_bind, run_underlying hue, Result.andThen_ok, hx, hy, asInt, asIntOf, Sem.run_pure, run_tInfo w hi, w1, w2, hby]
            rw [if_neg hnot]
            simp only [Sem.run_bind, run_askRoom, Result.andThen_ok, hsize, Int.toNat_natCast]
            rw [if_neg h0]
            simp [newRow, run_zero w hz0]
      obtain ⟨hf, hs'⟩ := new_cells (e := e) (cs := rep z c) hs (fresh_new hfr) (arr := arr) (by rw [ha]; exact concL_rep hc c)
      exact ⟨.value (.slice (some ⟨w.heap.size, 0, none⟩) l c), _, _, by simp only [execOp, Sem.run_bind, hrun, Result.andThen_ok, Sem.run_pure], .inl rfl, _, _, hf, hs', by simp [conc, Emb.add_self]⟩
theorem okB_inv {c : Call} {a : A} (hok : okB P c a = true) : ∃ b, c.callee = .builtin b ∧ okCallB P b c.args.toList c.argTypes.toList a = true := by
  unfold okB at hok
  split at hok <;> try simp at hok
  rename_i b hb
  exact ⟨b, hb, hok⟩
theorem run_builtin {c : Call} {b : Builtin} (hb : c.callee = .builtin b) :
    (execOp ρ ⟨dst, .call c, ty, pos, af, gd⟩).run P w = (builtin b c.argTypes ty (c.args.map fun | .const _ => true | _ => false) (c.args.map ρ)).run P w := by
  simp only [execOp, resolve, hb, Sem.run_bind, Sem.run_pure, Result.andThen_ok, invoke]
  rfl
theorem arr1 {α : Type} {a : Array α} {x : α} (h : a.toList = [x]) : a = #[x] := by
  apply Array.ext'
  simpa using h
theorem arr2 {α : Type} {a : Array α} {x y : α} (h : a.toList = [x, y]) : a = #[x, y] := by
  apply Array.ext'
  simpa using h
theorem run_lenS {y : X} (hok : okA P op (.lenS y) = true) (hρ : EnvOk R t ρ) (hs : Sim P F R h.get w) (he : evA call (.lenS y) t h = .ok v h') :
    OpRun P F R h w (execOp ρ ⟨dst, op, ty, pos, af, gd⟩) v h' := by
  cases op <;> try exact (Bool.false_ne_true hok).elim
  rename_i c
  obtain ⟨b, hb, hk⟩ := okB_inv (show okB P c (.lenS y) = true from hok)
  simp only [okCallB] at hk
  split at hk <;> try simp at hk
  rename_i x t' hx ht
  obtain ⟨hxy, hu⟩ := hk
  split at hu <;> try simp at hu
  rename_i hue
  have hx' := hρ x y hxy
  simp only [evA] at he
  split at he <;> simp only [RO.ok.injEq, reduceCtorEq] at he
  rename_i l hy
  obtain ⟨rfl, rfl⟩ := he
  rw [hy] at hx'
  obtain ⟨hxe, _⟩ := conc_ss hx'
  refine .plain (x := .int .i64 (l.length : Int)) hs ?_ (by simp [conc])
  rw [run_builtin hb, arr1 hx, arr1 ht]
  simp [builtin, Builtin.len_, run_underlying hue, hxe, size_byteArr, goInt]
theorem run_lenL {y : X} (hok : okA P op (.lenL y) = true) (hρ : EnvOk R t ρ) (hs : Sim P F R h.get w) (he : evA call (.lenL y) t h = .ok v h') :
    OpRun P F R h w (execOp ρ ⟨dst, op, ty, pos, af, gd⟩) v h' := by
  cases op <;> try exact (Bool.false_ne_true hok).elim
  rename_i c
  obtain ⟨b, hb, hk⟩ := okB_inv (show okB P c (.lenL y) = true from hok)
  simp only [okCallB] at hk
  split at hk <;> try simp at hk
  rename_i x t' hx ht
  obtain ⟨hxy, hu⟩ := hk
  split at hu <;> try simp at hu
  rename_i e hue
  have hx' := hρ x y hxy
  simp only [evA] at he
  split at he <;> simp only [RO.ok.injEq, reduceCtorEq] at he <;> rename_i hy <;> (obtain ⟨rfl, rfl⟩ := he) <;> rw [hy] at hx'
  · simp [conc] at hx'
    refine .plain (x := .int .i64 0) hs ?_ (by simp [conc])
    rw [run_builtin hb, arr1 hx, arr1 ht]
    simp [builtin, Builtin.len_, run_underlying hue, ← hx', goInt]
  · simp [conc] at hx'
    refine .plain (x := .int .i64 0) hs ?_ (by simp [conc])
    rw [run_builtin hb, arr1 hx, arr1 ht]
    simp [builtin, Builtin.len_, run_underlying hue, ← hx', goInt]
  · rename_i n _ _
    obtain ⟨cb, sz, cap', hR, hxe, hcc, hg1, hg2⟩ := conc_sl hx'
    refine .plain (x := .int .i64 (n : Int)) hs ?_ (by simp [conc])
    rw [run_builtin hb, arr1 hx, arr1 ht]
    simp [builtin, Builtin.len_, run_underlying hue, hxe, goInt]
theorem run_lenC {n : Nat} (hok : okA P op (.lenC n) = true) (hs : Sim P F R h.get w) (he : evA call (.lenC n) t h = .ok v h') :
    OpRun P F R h w (execOp ρ ⟨dst, op, ty, pos, af, gd⟩) v h' := by
  cases op <;> try exact (Bool.false_ne_true hok).elim
  rename_i c
  obtain ⟨b, hb, hk⟩ := okB_inv (show okB P c (.lenC n) = true from hok)
  simp only [okCallB] at hk
  split at hk <;> try simp at hk
  rename_i x t' hx ht
  simp only [evA, RO.ok.injEq] at he
  obtain ⟨rfl, rfl⟩ := he
  refine .plain (x := .int .i64 (n : Int)) hs ?_ (by simp [conc])
  rw [run_builtin hb, arr1 hx, arr1 ht]
  split at hk <;> try simp at hk
  · rename_i m e hue
    subst hk
    simp [builtin, Builtin.len_, run_underlying hue, goInt]
  · rename_i a hue
    split at hk <;> try simp at hk
    rename_i m e hua
    subst hk
    simp [builtin, Builtin.len_, run_underlying hue, run_underlying hua, goInt]
theorem concM_length : ∀ {es : List (V × V)} {l : List (Value × Value)}, concM R es = some l → l.length = es.length
  | [], l, hl => by simp [concM] at hl; subst hl; rfl
  | (k, v) :: es, l, hl => by
    obtain ⟨x, y, w, _, _, h3, rfl⟩ := concM_cons.1 hl
    simp [concM_length h3]
theorem run_lenM {y : X} (hok : okA P op (.lenM y) = true) (hρ : EnvOk R t ρ) (hs : Sim P F R h.get w) (hF : FootOk F (reads (.lenM y) t)) (he : evA call (.lenM y) t h = .ok v h') :
    OpRun P F R h w (execOp ρ ⟨dst, op, ty, pos, af, gd⟩) v h' := by
  cases op <;> try exact (Bool.false_ne_true hok).elim
  rename_i c
  obtain ⟨b, hb, hk⟩ := okB_inv (show okB P c (.lenM y) = true from hok)
  simp only [okCallB] at hk
  split at hk <;> try simp at hk
  rename_i x t' hx ht
  obtain ⟨hxy, hu⟩ := hk
  split at hu <;> try simp at hu
  rename_i k e hue
  have hx' := hρ x y hxy
  simp only [evA] at he
  split at he <;> try simp at he
  · rename_i hy
    obtain ⟨rfl, rfl⟩ := he
    rw [hy] at hx'
    simp [conc] at hx'
    refine .plain (x := .int .i64 0) hs ?_ (by simp [conc])
    rw [run_builtin hb, arr1 hx, arr1 ht]
    simp [builtin, Builtin.len_, run_underlying hue, ← hx', goInt]
  · rename_i m hy
    split at he <;> simp only [RO.ok.injEq, reduceCtorEq] at he
    rename_i es hg
    obtain ⟨rfl, rfl⟩ := he
    rw [hy] at hx'
    simp only [conc, Option.map_eq_some_iff] at hx'
    obtain ⟨⟨cb, sz⟩, hR, hxe⟩ := hx'
    obtain ⟨arr, ck, h1, h2⟩ := hs.blk m cb sz _ (hF m (by simp [hy, blockOf])) hR hg
    have hl := concM_length h2
    refine .plain (x := .int .i64 (es.length : Int)) hs ?_ (by simp [conc])
    rw [run_builtin hb, arr1 hx, arr1 ht]
    simp at hl
    simp [builtin, Builtin.len_, run_underlying hue, ← hxe, getObj, Sem.run, h1, goInt, hl]
theorem run_mm {g : Bool} : ∀ (l : List V) (x : V) (xs : List Value) (y : Value), minI g x l = some v → conc R x = some y → concL R l = some xs → (∃ k n, x = .i k n) →
    ∃ u, (xs.foldlM (if g then Builtin.max2 else Builtin.min2) y).run P w = .ok u w ∧ conc R v = some u
  | [], x, xs, y, hm, hx, hl, _ => by
    simp [concL] at hl
    subst hl
    simp [minI] at hm
    subst hm
    exact ⟨y, by simp, hx⟩
  | z :: l, x, xs, y, hm, hx, hl, ⟨k, n, hxi⟩ => by
    obtain ⟨a, b, h1, h2, rfl⟩ := concL_cons.1 hl
    subst hxi
    simp only [minI] at hm
    split at hm <;> try simp at hm
    rename_i q hq
    unfold mmI at hq
    split at hq <;> simp at hq
    rename_i k1 n1 k2 n2 e1
    simp only [V.i.injEq] at e1
    obtain ⟨rfl, rfl⟩ := e1
    obtain rfl := conc_i hx
    obtain rfl := conc_i h1
    subst hq
    obtain ⟨u, r1, r2⟩ := run_mm l _ b _ hm (by simp only [conc]; rfl) h2 ⟨_, _, rfl⟩
    refine ⟨u, ?_, r2⟩
    cases g
    · simp only [Bool.false_eq_true, if_false, List.foldlM_cons, Sem.run_bind, Builtin.min2, Sem.run_pure, Result.andThen_ok] at r1 ⊢
      exact r1
    · simp only [if_true, List.foldlM_cons, Sem.run_bind, Builtin.max2, Sem.run_pure, Result.andThen_ok, gt_iff_lt] at r1 ⊢
      exact r1
theorem minL_ok {g : Bool} {xs : List V} {l : List Value} (hm : minL g xs = some v) (hl : concL R xs = some l) (h1 : ∀ x, xs = [x] → ∃ k n, x = .i k n) :
    ∃ y ys u, l = y :: ys ∧ (ys.foldlM (if g then Builtin.max2 else Builtin.min2) y).run P w = .ok u w ∧ conc R v = some u := by
  cases xs with
  | nil => simp [minL] at hm
  | cons x xs =>
    obtain ⟨a, b, ha, hb, rfl⟩ := concL_cons.1 hl
    have : ∃ k n, x = .i k n := by
      cases xs with
      | nil => exact h1 x rfl
      | cons y ys =>
        simp only [minL, minI] at hm
        split at hm <;> try simp at hm
        rename_i q hq
        unfold mmI at hq
        split at hq <;> simp at hq
        exact ⟨_, _, rfl⟩
    obtain ⟨u, r1, r2⟩ := run_mm (P := P) (w := w) xs x b a hm ha hb this
    exact ⟨a, b, u, rfl, r1, r2⟩
theorem run_min {xs : List X} (hok : okA P op (.min xs) = true) (hρ : EnvOk R t ρ) (hs : Sim P F R h.get w) (he : evA call (.min xs) t h = .ok v h') :
    OpRun P F R h w (execOp ρ ⟨dst, op, ty, pos, af, gd⟩) v h' := by
  cases op <;> try exact (Bool.false_ne_true hok).elim
  rename_i c
  obtain ⟨b, hb, hk⟩ := okB_inv (show okB P c (.min xs) = true from hok)
  simp only [okCallB] at hk
  split at hk <;> try simp at hk
  have hl := okXs_conc hρ _ _ hk
  simp only [evA] at he
  obtain ⟨hv, rfl⟩ := ofV_ok he
  have hv2 : ∃ y ys u, c.args.toList.map ρ = y :: ys ∧ (ys.foldlM Builtin.min2 y).run P w = .ok u w ∧ conc R v = some u := by
    cases hm : xs.map (X.ev t) with
    | nil => rw [hm] at hv; simp [minL] at hv
    | cons x l =>
      cases l with
      | nil =>
        rw [hm] at hv hl
        simp [minL, minI] at hv
        subst hv
        obtain ⟨a, b', ha, hb', e⟩ := concL_cons.1 hl
        simp [concL] at hb'
        subst hb'
        exact ⟨a, [], a, e, by simp, ha⟩
      | cons y l =>
        obtain ⟨a, b', u, r1, r2, r3⟩ := minL_ok (P := P) (w := w) hv hl (by rw [hm]; intro _ e; simp at e)
        exact ⟨a, b', u, r1, by simpa using r2, r3⟩
  obtain ⟨y, ys, u, r1, r2, r3⟩ := hv2
  refine .plain (x := u) hs ?_ r3
  rw [run_builtin hb]
  simp only [builtin, Builtin.min_, Array.toList_map, r1, Sem.run_bind, r2, Result.andThen_ok, Sem.run_pure]
theorem run_max {xs : List X} (hok : okA P op (.max xs) = true) (hρ : EnvOk R t ρ) (hs : Sim P F R h.get w) (he : evA call (.max xs) t h = .ok v h') :
    OpRun P F R h w (execOp ρ ⟨dst, op, ty, pos, af, gd⟩) v h' := by
  cases op <;> try exact (Bool.false_ne_true hok).elim
  rename_i c
  obtain ⟨b, hb, hk⟩ := okB_inv (show okB P c (.max xs) = true from hok)
  simp only [okCallB] at hk
  split at hk <;> try simp at hk
  have hl := okXs_conc hρ _ _ hk
  simp only [evA] at he
  obtain ⟨hv, rfl⟩ := ofV_ok he
  have hv2 : ∃ y ys u, c.args.toList.map ρ = y :: ys ∧ (ys.foldlM Builtin.max2 y).run P w = .ok u w ∧ conc R v = some u := by
    cases hm : xs.map (X.ev t) with
    | nil => rw [hm] at hv; simp [minL] at hv
    | cons x l =>
      cases l with
      | nil =>
        rw [hm] at hv hl
        simp [minL, minI] at hv
        subst hv
        obtain ⟨a, b', ha, hb', e⟩ := concL_cons.1 hl
        simp [concL] at hb'
        subst hb'
        exact ⟨a, [], a, e, by simp, ha⟩
      | cons y l =>
        obtain ⟨a, b', u, r1, r2, r3⟩ := minL_ok (P := P) (w := w) hv hl (by rw [hm]; intro _ e; simp at e)
        exact ⟨a, b', u, r1, by simpa using r2, r3⟩
  obtain ⟨y, ys, u, r1, r2, r3⟩ := hv2
  refine .plain (x := u) hs ?_ r3
  rw [run_builtin hb]
  simp only [builtin, Builtin.max_, Array.toList_map, r1, Sem.run_bind, r2, Result.andThen_ok, Sem.run_pure]
theorem source_len {x : V} {u : Value} {n : Nat} (hx : conc R x = some u) (hn : sourceLen x = some n) : (Builtin.lenOf u).run P w = .ok n w := by
  unfold sourceLen at hn
  split at hn <;> simp at hn <;> subst hn
  · simp [conc] at hx; subst hx; simp [Builtin.lenOf]
  · simp [conc] at hx; subst hx; simp [Builtin.lenOf]
  · obtain ⟨cb, sz, cap', hR, hxe, _⟩ := conc_sl hx
    subst hxe; simp [Builtin.lenOf]
  · obtain ⟨hxe, _⟩ := conc_ss hx
    subst hxe; simp [Builtin.lenOf, size_byteArr]
theorem source_cells {x : V} {u : Value} {esz n : Nat} {l : List V} (hs : Sim P F R h.get w) (hF : ∀ b, F b) (hx : conc R x = some u) (hc : sourceCells esz n h x = some l) :
    ∃ xs, concL R l = some xs ∧ (Builtin.firstCells esz n u).run P w = .ok xs.toArray w ∧ xs.length = n * esz := by
  unfold sourceCells at hc
  split at hc
  · split at hc <;> simp at hc
    rename_i hn
    subst hc
    simp [conc] at hx
    subst hx
    rw [Nat.beq_eq] at hn
    exact ⟨[], by simp [concL], by simp [Builtin.firstCells], by simp [hn]⟩
  · split at hc <;> simp at hc
    rename_i hn
    subst hc
    simp [conc] at hx
    subst hx
    rw [Nat.beq_eq] at hn
    subst hn
    exact ⟨[], by simp [concL], by simp [Builtin.firstCells, loadCells, loadCellsFrom], by simp⟩
  · rename_i blk off len cap g
    split at hc <;> try simp at hc
    rename_i bl hg
    obtain ⟨cb, sz, cap', hR, hxe, _⟩ := conc_sl hx
    obtain ⟨us, h1, h2, _, h4⟩ := rd_at hs (hF blk) hR hg hc
    refine ⟨us, h1, ?_, h2⟩
    subst hxe
    exact h4
  · rename_i x'
    split at hc
    case isFalse => simp at hc
    rename_i he1
    rw [Nat.beq_eq] at he1
    obtain ⟨hxe, hlt⟩ := conc_ss hx
    rw [Option.bind_eq_some_iff] at hc
    obtain ⟨a, ha, hc⟩ := hc
    obtain ⟨_, rfl⟩ := cut_eq.1 ha
    obtain ⟨hle, rfl⟩ := cut_eq.1 hc
    subst he1 hxe
    have hlen : n ≤ x'.length := by simpa using hle
    refine ⟨(x'.take n).map fun c : Nat => Value.int .u8 (c : Int), ?_, ?_, by simp; omega⟩
    · have : ∀ m : List Nat, concL R (m.map fun c => V.i .u8 (Int.ofNat c)) = some (m.map fun c : Nat => Value.int .u8 (c : Int)) := by
        intro m
        induction m with
        | nil => simp [concL]
        | cons c m ih => exact concL_cons.2 ⟨_, _, by simp [conc], ih, rfl⟩
      have e : ((x'.map fun c => V.i .u8 (Int.ofNat c)).drop 0).take x'.length = x'.map fun c => V.i .u8 (Int.ofNat c) := by
        rw [List.drop_zero, List.take_of_length_le (by simp)]
      rw [e, List.drop_zero, ← List.map_take]
      exact this _
    · simp only [Builtin.firstCells, Sem.run_pure, extract_byteArr, List.drop_zero, Nat.sub_zero]
      congr 1
      apply Array.ext'
      simp only [byteArr, Array.toList_map]
      simp only [List.map_map]
      apply List.map_congr_left
      intro c hcm
      have := hlt c (List.mem_of_mem_take hcm)
      simp
      omega
  · simp at hc
theorem growBy_le (m : Nat) : ∀ r c, c ≤ m + (m + 768) / 4 → Builtin.growBy m r c ≤ m + (m + 768) / 4
  | 0, c, hc => by simpa [Builtin.growBy] using hc
  | r + 1, c, hc => by
    simp only [Builtin.growBy]
    split
    · exact hc
    · exact growBy_le m r _ (by omega)
theorem nextcap_le {m c : Nat} (hc : c < m) : Builtin.nextslicecap m c ≤ 2 * m + 200 := by
  unfold Builtin.nextslicecap
  split
  · omega
  · split
    · omega
    · have := growBy_le m 4 c (by omega)
      omega
theorem Sim.drew {mem : Nat → Option Blk} (hs : Sim P F R mem w) : Sim P F R mem w.drew := ⟨fun b c sz x h1 h2 h3 => by
  have := hs.blk b c sz x h1 h2 h3
  cases x <;> exact this, hs.inj, hs.lt, hs.fix⟩
theorem append_grow {st xt e : TypeId} {i : TypeInfo} {z : Value} {d : TypeDesc} {base : Option Addr} {sLen sCap n esz : Nat} {s x : Value} {old new : List Value} {args : Array Value} {ats : Array TypeId}
    (hst : P.underlying st = some (.slice e)) (hxt : P.underlying xt = some d) (hd : ∀ k, d ≠ .int k) (hi : P.info? e = some i) (hz : i.zero = some z) (hesz : i.size = esz)
    (hargs : args = #[s, x]) (hats : ats = #[st, xt]) (hse : s = .slice base sLen sCap) (hn : (Builtin.lenOf x).run P w = .ok n w) (hneed : ¬ sLen + n ≤ sCap) (hb : 0 < i.bytes)
    (hroom : (2 * (sLen + n) + 200) * i.bytes ≤ 281474976710656) (hold : ∀ w' : World, w'.heap = w.heap → (Builtin.firstCells esz sLen s).run P w' = .ok old.toArray w')
    (hnew : ∀ w' : World, w'.heap = w.heap → (Builtin.firstCells esz n x).run P w' = .ok new.toArray w') :
    ∃ newCap rest, sLen + n ≤ newCap ∧ rest = (List.replicate (newCap - (sLen + n)) z.cells.toList).flatten ∧
      (Builtin.append_ ats ty args).run P w = .ok (.slice (some ⟨w.heap.size, 0, none⟩) (sLen + n) newCap) (w.drew.alloc (.cells (old ++ new ++ rest).toArray e)) := by
  subst hargs hats hse
  have hzero : zeroT P e = some z := by simp [zeroT, hi, hz]
  have hsz : ∀ w' : World, (sizeOf e).run P w' = .ok esz w' := fun w' => run_size w' (by simp [isSz, szT, hi, hesz])
  have hlim : ¬ (Builtin.nextslicecap (sLen + n) sCap * i.bytes > 2 ^ 48) := by
    have h1 := nextcap_le (m := sLen + n) (c := sCap) (by omega)
    have h2 : Builtin.nextslicecap (sLen + n) sCap * i.bytes ≤ (2 * (sLen + n) + 200) * i.bytes := Nat.mul_le_mul_right _ h1
    omega
  let q : Question := .appendCap (sLen + n) sCap e
  have hq : q.forced = false := rfl
  have hcut : q.cut (w.tape w.drawn q) = sLen + n + w.tape w.drawn q % (2 ^ 63 - (sLen + n)) := rfl
  refine ⟨q.cut (w.tape w.drawn q), _, by rw [hcut]; omega, rfl, ?_⟩
  have hint : ∀ b : Bool, (match d with | .int _ => b | _ => !b) = !b := by
    intro b
    cases d <;> simp
    exact absurd rfl (hd _)
  have hnz : (match d with | .int _ => true | _ => false) = false := by
    cases d <;> simp
    exact absurd rfl (hd _)
  simp only [Builtin.append_]
  simp only [List.getElem?_toArray, List.getElem?_cons_zero, List.getElem?_cons_succ, Sem.run_bind, run_underlying hst, Result.andThen_ok, hsz, run_underlying hxt, Sem.run_pure, hnz, Bool.false_eq_true, if_false, hn]
  rw [if_neg hneed]
  have hb0 : i.bytes ≠ 0 := by omega
  simp only [run_tInfo w hi, Sem.run_bind, Result.andThen_ok, false_or, hb0, and_false, if_false]
  rw [if_neg hlim]
  simp only [Sem.run_bind, run_choose, show (Question.appendCap (sLen + n) sCap e).forced = false from rfl, Bool.false_eq_true, if_false, Result.andThen_ok, run_askRoom, run_tInfo _ hi]
  simp only [World.drew_eq]
  rw [hold w.drew rfl]
  simp only [Result.andThen_ok, Bool.not_false, if_true]
  rw [hnew w.drew rfl]
  simp only [Result.andThen_ok, run_zero _ hzero, newRow, Sem.run_bind, run_newObj, Sem.run_pure]
  congr 3
  congr 1
  apply Array.ext'
  simp [zeroCells_eq]
  rfl
end
end Go.Air
namespace Go.Air
section
variable {P : Program} {F : Nat → Prop} {R : Emb} {h h' : H} {w : World} {t : List V} {ρ : Operand → Value} {v : V}
  {dst : Option Tmp} {op : Op} {ty : TypeId} {pos : String} {af : Array Edge} {gd : Option (Nat × Bool)} {call : V → List V → H → RO}
theorem append_fit {st xt e : TypeId} {d : TypeDesc} {base : Option Addr} {sLen sCap n esz : Nat} {s x : Value} {new : List Value} {args : Array Value} {ats : Array TypeId} {w' : World}
    (hst : P.underlying st = some (.slice e)) (hxt : P.underlying xt = some d) (hd : ∀ k, d ≠ .int k) (hsz : isSz P e esz = true)
    (hargs : args = #[s, x]) (hats : ats = #[st, xt]) (hse : s = .slice base sLen sCap) (hn : (Builtin.lenOf x).run P w = .ok n w) (hneed : sLen + n ≤ sCap)
    (hnew : (Builtin.firstCells esz n x).run P w = .ok new.toArray w)
    (hb : (∃ a, base = some a ∧ (storeCells (a.add (sLen * esz)) new).run P w = .ok () w') ∨ (base = none ∧ w' = w)) :
    (Builtin.append_ ats ty args).run P w = .ok (.slice base (sLen + n) sCap) w' := by
  subst hargs hats hse
  have hs : (sizeOf e).run P w = .ok esz w := run_size w hsz
  have hnz : (match d with | .int _ => true | _ => false) = false := by
    cases d <;> simp
    exact absurd rfl (hd _)
  simp only [Builtin.append_]
  simp only [List.getElem?_toArray, List.getElem?_cons_zero, List.getElem?_cons_succ, Sem.run_bind, run_underlying hst, Result.andThen_ok, hs, run_underlying hxt, Sem.run_pure, hnz, Bool.false_eq_true, if_false, hn]
  rw [if_pos hneed]
  simp only [Bool.not_false, if_true, Sem.run_bind, hnew, Result.andThen_ok]
  rcases hb with ⟨a, rfl, hr⟩ | ⟨rfl, rfl⟩
  · simp only [Sem.run_bind, hr, Result.andThen_ok, Sem.run_pure]
  · simp
theorem firstCells_world {esz n : Nat} {x : V} {u : Value} {l : List V} (hs : Sim P F R h.get w) (hF : ∀ b, F b) (hx : conc R x = some u) (hc : sourceCells esz n h x = some l) :
    ∃ xs, concL R l = some xs ∧ xs.length = n * esz ∧ ∀ w' : World, w'.heap = w.heap → (Builtin.firstCells esz n u).run P w' = .ok xs.toArray w' := by
  obtain ⟨xs, h1, h2, h3⟩ := source_cells hs hF hx hc
  refine ⟨xs, h1, h3, fun w' hw' => ?_⟩
  have hs' : Sim P F R h.get w' := ⟨fun b c sz x q1 q2 q3 => (hs.blk b c sz x q1 q2 q3).mono P R.le_refl (by rw [hw']), hs.inj, fun b c sz q => by rw [hw']; exact hs.lt b c sz q, hs.fix⟩
  obtain ⟨xs', h1', h2', _⟩ := source_cells hs' hF hx hc
  rw [h1] at h1'
  cases h1'
  exact h2'
theorem H.get_kn (h : H) (b : Nat) (x : Blk) (y : Nat) : ((h.kill b).new x).get y = if y = h.next then some x else if y = b then none else h.get y := by
  rw [H.get_new, H.get_kill]; rfl
theorem Fwd.undrew {R' : Emb} {w' : World} {l : List Nat} (f : Fwd R R' h h' w.drew w' l) : Fwd R R' h h' w w' l := ⟨f.le, f.log, f.nx, f.size, f.new, f.same, f.frame, f.own, f.io⟩
theorem kill_step {b : Nat} {z : Nat × Nat} {y : Blk} (hs : Sim P F R h.get w) (hb : R b = some z) (hy : h.get b = some y) : Fwd R R h (h.kill b) w w [b] ∧ Sim P F R (h.kill b).get w := by
  refine ⟨⟨R.le_refl, rfl, by simp, Nat.le_refl _, fun _ _ _ h => .inl h, ?_, fun _ _ _ => rfl, fun d hd => .inr (by simp at hd; subst hd; exact ⟨⟨_, hb⟩, fun _ => ⟨_, hy⟩⟩), .refl w⟩, ⟨?_, ?_, hs.lt, hs.fix⟩⟩
  · intro x _ hx
    rw [H.get_kill, if_neg (by simpa using hx)]
  · intro x c sz y hF hx hy
    rw [H.get_kill] at hy
    split at hy <;> try simp at hy
    exact hs.blk x c sz y hF hx hy
  · intro x x' c s s' y y' h1 h2 hx hx' hy hy'
    rw [H.get_kill] at hy hy'
    split at hy <;> try simp at hy
    split at hy' <;> try simp at hy'
    exact hs.inj x x' c s s' y y' h1 h2 hx hx' hy hy'
theorem regrow_step {b c sz : Nat} {cs new : List V} {xs : List Value} {k : Nat} (hs : Sim P F R h.get w) (hF : ∀ b, F b) (hb : R b = some (c, sz)) (hg : h.get b = some (.cells cs)) (hk : k ≤ cs.length)
    (hlen : k + new.length ≤ sz) (hone : ∀ v ∈ new, v.oneCell = true) (hv : concL R new = some xs) (hf : R h.next = none) :
    ∃ w', (storeCells ⟨c, k, none⟩ xs).run P w = .ok () w' ∧ Fwd R (R.add h.next (c, sz)) h ((h.kill b).new (.cells (cs.take k ++ new))) w w' [b] ∧
      Sim P F (R.add h.next (c, sz)) ((h.kill b).new (.cells (cs.take k ++ new))).get w' := by
  obtain ⟨arr, e, ys, rest, h1, h2, h3, h4⟩ := cells_at hs (hF b) hb hg
  have e1 := concL_length h2
  have e2 := concL_length hv
  have e3 : arr.toList.length = arr.size := Array.length_toList
  have e4 : arr.toList.length = ys.length + rest.length := by rw [h3]; simp
  obtain ⟨w', arr', r1, r2, r3, r4, r5, rio⟩ := run_storeCells_list (P := P) (o := k) xs 0 w arr h4 h1 (by omega) (conc_ones hv hone)
  have hle : R.le (R.add h.next (c, sz)) := Emb.le_add hf
  have hbn : b ≠ h.next := by intro e; rw [e, hf] at hb; cases hb
  refine ⟨w', r1, ⟨hle, rfl, by simp, by omega, ?_, ?_, ?_, fun d hd => .inr (by simp at hd; subst hd; exact ⟨⟨_, hb⟩, fun _ => ⟨_, hg⟩⟩), rio⟩, ⟨?_, ?_, ?_, hs.fix.le hle⟩⟩
  · intro x c' s' hx
    simp only [Emb.add] at hx
    split at hx
    · rename_i e; subst e
      simp only [Option.some.injEq, Prod.mk.injEq] at hx
      obtain ⟨rfl, rfl⟩ := hx
      exact .inr ⟨Nat.le_refl _, by simp, .inr ⟨b, sz, hb, by simp⟩⟩
    · exact .inl hx
  · intro x hx hxl
    rw [H.get_kn, if_neg (by omega), if_neg (by simpa using hxl)]
  · intro d _ hl
    exact r3 d (fun e => hl b sz (e ▸ hb) (by simp))
  · intro x c' s' y hFx hx hy
    simp only [Emb.add] at hx
    rw [H.get_kn] at hy
    split at hx
    · rename_i e; subst e
      rw [if_pos rfl] at hy
      simp only [Option.some.injEq, Prod.mk.injEq] at hx hy
      obtain ⟨rfl, rfl⟩ := hx
      subst hy
      refine ⟨arr', e, ys.take k ++ xs, arr.toList.drop (k + xs.length), r4, concL_mono hle _ _ (concL_append (concL_take k h2) hv), ?_, ?_⟩
      · rw [r5, h3]
        simp only [Nat.add_zero]
        rw [List.take_append_of_le_length (by omega)]
      · have : arr'.toList.length = arr'.size := Array.length_toList
        rw [r5] at this
        simp at this
        omega
    · rename_i ne
      rw [if_neg ne] at hy
      split at hy <;> try simp at hy
      rename_i ne2
      refine (hs.blk x c' s' y hFx hx hy).mono P hle (r3 c' ?_)
      intro ee; subst ee
      exact ne2 (hs.inj x b c' s' sz y _ hFx (hF b) hx hb hy hg)
  · intro x x' c' s1 s2 y y' hF1 hF2 hx hx' hy hy'
    simp only [Emb.add] at hx hx'
    rw [H.get_kn] at hy hy'
    split at hx <;> split at hx'
    · rename_i e1 e2; rw [e1, e2]
    · rename_i e1 ne
      rw [if_neg ne] at hy'
      split at hy' <;> try simp at hy'
      rename_i ne2
      simp only [Option.some.injEq, Prod.mk.injEq] at hx
      obtain ⟨rfl, rfl⟩ := hx
      exact absurd (hs.inj x' b c s2 sz y' _ hF2 (hF b) hx' hb hy' hg) ne2
    · rename_i ne e1
      rw [if_neg ne] at hy
      split at hy <;> try simp at hy
      rename_i ne2
      simp only [Option.some.injEq, Prod.mk.injEq] at hx'
      obtain ⟨rfl, rfl⟩ := hx'
      exact absurd (hs.inj x b c s1 sz y _ hF1 (hF b) hx hb hy hg) ne2
    · rename_i n1 n2
      rw [if_neg n1] at hy
      rw [if_neg n2] at hy'
      split at hy <;> try simp at hy
      split at hy' <;> try simp at hy'
      exact hs.inj x x' c' s1 s2 y y' hF1 hF2 hx hx' hy hy'
  · intro x c' s' hx
    simp only [Emb.add] at hx
    split at hx
    · simp only [Option.some.injEq, Prod.mk.injEq] at hx
      have := hs.lt b c sz hb
      omega
    · have := hs.lt x c' s' hx
      omega
theorem beq3 {a b c : Bool} (hh : (a && b && c) = true) : a = true ∧ b = true ∧ c = true := by
  cases a <;> cases b <;> cases c <;> simp_all
theorem run_app {esz bytes : Nat} {a b : X} (hok : okA P op (.app esz bytes a b) = true) (hρ : EnvOk R t ρ) (hs : Sim P F R h.get w) (hF : FootOk F (reads (.app esz bytes a b) t)) (hfr : Fresh R h h')
    (he : evA call (.app esz bytes a b) t h = .ok v h') : OpRun P F R h w (execOp ρ ⟨dst, op, ty, pos, af, gd⟩) v h' := by
  cases op <;> try exact (Bool.false_ne_true hok).elim
  rename_i c
  obtain ⟨bt, hb, hk⟩ := okB_inv (show okB P c (.app esz bytes a b) = true from hok)
  simp only [okCallB] at hk
  split at hk
  case h_2 => simp at hk
  rename_i s' x' st xt hargs hats
  rw [Bool.and_eq_true, Bool.and_eq_true] at hk
  obtain ⟨⟨hsa, hxb⟩, hk⟩ := hk
  split at hk
  case h_2 => simp at hk
  rename_i e d hst hxt
  rw [Bool.and_eq_true] at hk
  obtain ⟨hd, hk⟩ := hk
  have hd' : ∀ k, d ≠ .int k := by
    intro k hk
    subst hk
    simp at hd
  cases hi : P.info? e with
  | none => simp [hi] at hk
  | some i =>
    simp only [hi, Bool.and_eq_true, Nat.beq_eq] at hk
    obtain ⟨⟨rfl, rfl⟩, hz⟩ := hk
    cases hzv : i.zero with
    | none => simp [hzv] at hz
    | some z =>
      simp only [hzv, Nat.beq_eq] at hz
      have hsz : isSz P e i.size = true := by simp [isSz, szT, hi]
      have hSv := hρ s' a hsa
      have hXv := hρ x' b hxb
      have hA : ∀ b, F b := hF
      have hrun : ∀ u w', (Builtin.append_ c.argTypes ty (c.args.map ρ)).run P w = .ok u w' → (execOp ρ ⟨dst, .call c, ty, pos, af, gd⟩).run P w = .ok (.value u) w' := by
        intro u w' hu
        rw [run_builtin hb]
        simp only [builtin, Sem.run_bind, hu, Result.andThen_ok, Sem.run_pure]
      have hmap : c.args.map ρ = #[ρ s', ρ x'] := by rw [arr2 hargs]; simp
      have hats' := arr2 hats
      simp only [evA] at he
      generalize a.ev t = S at *
      generalize b.ev t = X' at *
      unfold appendV at he
      cases hn : sourceLen X' with
      | none => simp [hn] at he
      | some n =>
        simp only [hn] at he
        cases hc : sourceCells i.size n h X' with
        | none => simp [hc] at he
        | some new =>
          simp only [hc] at he
          obtain ⟨xs, hxs, hxl, hfirst⟩ := firstCells_world hs hA hXv hc
          have hnl := concL_length hxs
          have hnlen := source_len (P := P) (w := w) hXv hn
          split at he
          case isFalse => simp at he
          rename_i hlim
          obtain ⟨hlim, hb0, he0⟩ := beq3 hlim
          rw [Nat.ble_eq] at hlim
          rw [Nat.blt_eq] at hb0 he0
          cases S with
          | sn =>
            simp only at he
            simp [conc] at hSv
            split at he <;> simp only [RO.ok.injEq] at he <;> rename_i hn0
            · obtain ⟨rfl, rfl⟩ := he
              rw [Nat.beq_eq] at hn0
              subst hn0
              refine ⟨_, _, w, hrun _ _ (append_fit (new := xs) (w' := w) hst hxt hd' hsz hmap hats' hSv.symm hnlen (by omega) (hfirst w rfl) (.inr ⟨rfl, rfl⟩)), .inl rfl, .same hs (by simp [conc])⟩
            · obtain ⟨rfl, rfl⟩ := he
              have hn0 : n ≠ 0 := by simpa using hn0
              obtain ⟨newCap, rest, hcap, hrest, hr⟩ := append_grow (ty := ty) (old := []) (new := xs) hst hxt hd' hi hzv rfl hmap hats' hSv.symm hnlen (by omega) hb0 (by simpa using hlim)
                (fun w' _ => by rw [← hSv]; simp [Builtin.firstCells]) hfirst
              have hrl : rest.length = (newCap - n) * i.size := by rw [hrest]; simp [hz]
              have hsize : ([] ++ xs ++ rest).toArray.size = newCap * i.size := by
                simp only [List.size_toArray, List.length_append, List.length_nil, hxl, hrl]
                rw [Nat.zero_add, ← Nat.add_mul]
                congr 1
                omega
              obtain ⟨hf, hs'⟩ := new_step (x := .cells new) (sz := newCap * i.size) (o := .cells ([] ++ xs ++ rest).toArray e) (Sim.drew hs) (fresh_new hfr)
                (fun w' hw' => ⟨_, Fr.none _ e, xs, rest, hw', concL_mono (Emb.le_add (fresh_new hfr)) _ _ hxs, by simp, hsize⟩)
              refine ⟨_, _, _, hrun _ _ hr, .inl rfl, _, _, hf.undrew, hs', ?_⟩
              simp only [Nat.zero_add] at hcap ⊢
              simp only [conc, Emb.add_self, Option.bind_some]
              rw [if_pos ⟨by rw [Nat.zero_add]; exact Nat.mul_le_mul_right _ hcap, he0⟩]
              simp [Nat.mul_div_cancel _ he0]
          | se ad =>
            simp only at he
            simp [conc] at hSv
            split at he <;> simp only [RO.ok.injEq] at he <;> rename_i hn0
            · obtain ⟨rfl, rfl⟩ := he
              rw [Nat.beq_eq] at hn0
              subst hn0
              have hx0 : xs = [] := List.eq_nil_of_length_eq_zero (by rw [hxl]; simp)
              subst hx0
              refine ⟨_, _, w, hrun _ _ (append_fit (new := []) (w' := w) hst hxt hd' hsz hmap hats' hSv.symm hnlen (by omega) (hfirst w rfl) (.inl ⟨_, rfl, by simp [storeCells]⟩)), .inl rfl, .same hs (by simp [conc])⟩
            · obtain ⟨rfl, rfl⟩ := he
              have hn0 : n ≠ 0 := by simpa using hn0
              obtain ⟨newCap, rest, hcap, hrest, hr⟩ := append_grow (ty := ty) (old := []) (new := xs) hst hxt hd' hi hzv rfl hmap hats' hSv.symm hnlen (by omega) hb0 (by simpa using hlim)
                (fun w' _ => by rw [← hSv]; simp [Builtin.firstCells, loadCells, loadCellsFrom]) hfirst
              have hrl : rest.length = (newCap - n) * i.size := by rw [hrest]; simp [hz]
              have hsize : ([] ++ xs ++ rest).toArray.size = newCap * i.size := by
                simp only [List.size_toArray, List.length_append, List.length_nil, hxl, hrl]
                rw [Nat.zero_add, ← Nat.add_mul]
                congr 1
                omega
              obtain ⟨hf, hs'⟩ := new_step (x := .cells new) (sz := newCap * i.size) (o := .cells ([] ++ xs ++ rest).toArray e) (Sim.drew hs) (fresh_new hfr)
                (fun w' hw' => ⟨_, Fr.none _ e, xs, rest, hw', concL_mono (Emb.le_add (fresh_new hfr)) _ _ hxs, by simp, hsize⟩)
              refine ⟨_, _, _, hrun _ _ hr, .inl rfl, _, _, hf.undrew, hs', ?_⟩
              simp only [Nat.zero_add] at hcap ⊢
              simp only [conc, Emb.add_self, Option.bind_some]
              rw [if_pos ⟨by rw [Nat.zero_add]; exact Nat.mul_le_mul_right _ hcap, he0⟩]
              simp [Nat.mul_div_cancel _ he0]
          | sl blk off len cap g =>
            simp only at he
            obtain ⟨cb, sz, cap', hR, hxe, hcc, hg1, hg2⟩ := conc_sl hSv
            split at he
            · rename_i hfit
              rw [Nat.ble_eq] at hfit
              split at he <;> simp only [RO.ok.injEq, reduceCtorEq] at he
              rename_i h1 hst'
              obtain ⟨rfl, rfl⟩ := he
              obtain ⟨w', r1, hf, hs'⟩ := store_step hs (hA blk) hR hst' hxs
              refine ⟨_, _, w', hrun _ _ (append_fit (new := xs) (w' := w') hst hxt hd' hsz hmap hats' hxe hnlen (by omega) (hfirst w rfl) (.inl ⟨_, rfl, by rw [add_spot]; exact r1⟩)), .inl rfl, _, _, hf, hs', ?_⟩
              cases g with
              | none => obtain rfl := hg1 rfl; simp [conc, hR]
              | some g =>
                obtain ⟨q1, q2, q3⟩ := hg2 g rfl
                simp only [conc, hR, Option.bind_some]
                rw [if_pos ⟨q2, q3⟩, q1]
            · rename_i hfit
              rw [Nat.ble_eq] at hfit
              split at he
              case isFalse => simp at he
              rename_i hlim2
              rw [Nat.ble_eq] at hlim2
              have grow : ∀ (oldV : List V) (oldX : List Value), concL R oldV = some oldX → oldX.length = len * i.size →
                  (∀ w' : World, w'.heap = w.heap → (Builtin.firstCells i.size len (ρ s')).run P w' = .ok oldX.toArray w') →
                  cap' < len + n → v = .sl h.next 0 (len + n) (len + n) (some i.size) → ∀ h1 : H, Fresh R h h1 → h1 = h.new (.cells (oldV ++ new)) →
                  OpRun P F R h w (execOp ρ ⟨dst, .call c, ty, pos, af, gd⟩) v h1 := by
                intro oldV oldX hoc hol hofirst hlt hv h1 hfr1 hh1
                subst hh1 hv
                obtain ⟨newCap, rest, hcap, hrest, hr⟩ := append_grow (ty := ty) (new := xs) hst hxt hd' hi hzv rfl hmap hats' hxe hnlen (by omega) hb0 hlim2 hofirst hfirst
                have hrl : rest.length = (newCap - (len + n)) * i.size := by rw [hrest]; simp [hz]
                have hsize : (oldX ++ xs ++ rest).toArray.size = newCap * i.size := by
                  simp only [List.size_toArray, List.length_append, hol, hxl, hrl]
                  rw [← Nat.add_mul, ← Nat.add_mul]
                  congr 1
                  omega
                obtain ⟨hf, hs'⟩ := new_step (x := .cells (oldV ++ new)) (sz := newCap * i.size) (o := .cells (oldX ++ xs ++ rest).toArray e) (Sim.drew hs) (fresh_new hfr1)
                  (fun w' hw' => ⟨_, Fr.none _ e, oldX ++ xs, rest, hw', concL_mono (Emb.le_add (fresh_new hfr1)) _ _ (concL_append hoc hxs), by simp, hsize⟩)
                refine ⟨_, _, _, hrun _ _ hr, .inl rfl, _, _, hf.undrew, hs', ?_⟩
                simp only [conc, Emb.add_self, Option.bind_some]
                rw [if_pos ⟨by rw [Nat.zero_add]; exact Nat.mul_le_mul_right _ hcap, he0⟩]
                simp [Nat.mul_div_cancel _ he0]
              cases g with
              | none =>
                simp only at he
                split at he
                case h_2 => simp at he
                rename_i bl hg
                split at he
                · simp at he
                rename_i old hold
                simp only [RO.ok.injEq] at he
                obtain ⟨hv, rfl⟩ := he
                obtain rfl := hg1 rfl
                obtain ⟨us, u1, u2, u3, _⟩ := rd_at hs (hA blk) hR hg hold
                refine grow old us u1 u2 ?_ (by omega) hv.symm _ hfr rfl
                intro w' hw'
                rw [hxe]
                have := run_loadCells_list (P := P) w' ⟨cb, off, none⟩ us (fun j v hj => by
                  rw [add_spot]
                  have := u3 j v hj
                  simp only [World.cell?, hw'] at this ⊢
                  exact this)
                rw [u2] at this
                exact this
              | some g =>
                simp only at he
                split at he
                case h_2 => simp at he
                rename_i cs hg
                split at he
                · simp at he
                rename_i old hold
                obtain ⟨hle, rfl⟩ := cut_eq.1 hold
                obtain ⟨arr, e', vs, rst, q1, q2, q3, q4⟩ := cells_at hs (hA blk) hR hg
                have hvl := concL_length q2
                have hofirst : ∀ w' : World, w'.heap = w.heap → (Builtin.firstCells i.size len (ρ s')).run P w' = .ok ((vs.drop off).take (len * i.size)).toArray w' := by
                  intro w' hw'
                  rw [hxe]
                  exact run_loadCells_at (by rw [hw']; exact q1) q3 (by omega)
                have hoc : concL R ((cs.drop off).take (len * i.size)) = some ((vs.drop off).take (len * i.size)) := concL_take _ (concL_drop _ q2)
                have hol : ((vs.drop off).take (len * i.size)).length = len * i.size := by simp; omega
                split at he
                case isFalse => simp at he
                rename_i hg3
                rw [Bool.and_eq_true] at hg3
                obtain ⟨hg3, hone⟩ := hg3
                obtain ⟨g1, g2, g3⟩ := beq3 hg3
                rw [Nat.beq_eq] at g1 g2 g3
                rw [List.all_eq_true] at hone
                simp only [RO.ok.injEq] at he
                obtain ⟨hv, rfl⟩ := he
                obtain ⟨p1, p2, p3⟩ := hg2 g rfl
                subst g1 g2
                have hfn : R h.next = none := hfr h.next (Nat.le_refl _) (by simp)
                simp only [List.drop_zero, Nat.zero_add, Nat.sub_zero] at *
                by_cases hroom : len + n ≤ cap'
                · have hmul : (len + n) * i.size ≤ sz := by
                    have h1 : (len + n) * i.size ≤ cap' * i.size := Nat.mul_le_mul_right _ hroom
                    have h2 : cap' * i.size ≤ sz := by rw [p1]; exact Nat.div_mul_le_self _ _
                    omega
                  rw [Nat.add_mul] at hmul
                  obtain ⟨w', r1, hf, hs'⟩ := regrow_step (k := len * i.size) hs hA hR hg (by omega) (by omega) hone hxs hfn
                  refine ⟨_, _, w', hrun _ _ (append_fit (new := xs) (w' := w') hst hxt hd' hsz hmap hats' hxe hnlen hroom (hfirst w rfl) (.inl ⟨_, rfl, by rw [add_spot, Nat.zero_add]; exact r1⟩)), .inl rfl, _, _, hf, hs', ?_⟩
                  subst hv
                  simp only [conc, Emb.add_self, Option.bind_some, Nat.zero_add, Nat.sub_zero]
                  rw [if_pos ⟨by rw [Nat.add_mul]; omega, p3⟩, p1]
                · obtain ⟨newCap, rest, hcap, hrest, hr⟩ := append_grow (ty := ty) (new := xs) hst hxt hd' hi hzv rfl hmap hats' hxe hnlen hroom hb0 hlim2 hofirst hfirst
                  have hrl : rest.length = (newCap - (len + n)) * i.size := by rw [hrest]; simp [hz]
                  have hsize : (vs.take (len * i.size) ++ xs ++ rest).toArray.size = newCap * i.size := by
                    simp only [List.size_toArray, List.length_append, hol, hxl, hrl]
                    rw [← Nat.add_mul, ← Nat.add_mul]
                    congr 1
                    omega
                  obtain ⟨hfk, hsk⟩ := kill_step (b := blk) hs hR hg
                  obtain ⟨hf, hs'⟩ := new_step (h := h.kill blk) (x := .cells (cs.take (len * i.size) ++ new)) (sz := newCap * i.size) (o := .cells (vs.take (len * i.size) ++ xs ++ rest).toArray e) (Sim.drew hsk) hfn
                    (fun w' hw' => ⟨_, Fr.none _ e, vs.take (len * i.size) ++ xs, rest, hw', concL_mono (Emb.le_add hfn) _ _ (concL_append hoc hxs), by simp, hsize⟩)
                  refine ⟨_, _, _, hrun _ _ hr, .inl rfl, _, _, hfk.trans hf.undrew, hs', ?_⟩
                  subst hv
                  simp only [conc]
                  rw [show (R.add (h.kill blk).next (w.drew.heap.size, newCap * i.size)) h.next = some (w.drew.heap.size, newCap * i.size) from Emb.add_self]
                  simp only [Option.bind_some]
                  rw [if_pos ⟨by rw [Nat.zero_add]; exact Nat.mul_le_mul_right _ hcap, he0⟩]
                  simp [Nat.mul_div_cancel _ he0]
          | _ => simp at he
theorem run_cpy {esz : Nat} {a b : X} (hok : okA P op (.cpy esz a b) = true) (hρ : EnvOk R t ρ) (hs : Sim P F R h.get w) (hF : FootOk F (reads (.cpy esz a b) t))
    (he : evA call (.cpy esz a b) t h = .ok v h') : OpRun P F R h w (execOp ρ ⟨dst, op, ty, pos, af, gd⟩) v h' := by
  cases op <;> try exact (Bool.false_ne_true hok).elim
  rename_i c
  obtain ⟨bt, hb, hk⟩ := okB_inv (show okB P c (.cpy esz a b) = true from hok)
  simp only [okCallB] at hk
  split at hk
  case h_2 => simp at hk
  rename_i d' s' dt ats hargs hats
  rw [Bool.and_eq_true, Bool.and_eq_true] at hk
  obtain ⟨⟨hda, hsb⟩, hk⟩ := hk
  split at hk
  case h_2 => simp at hk
  rename_i e hdt
  have hD := hρ d' a hda
  have hS := hρ s' b hsb
  have hA : ∀ b, F b := hF
  have hmap : c.args.map ρ = #[ρ d', ρ s'] := by rw [arr2 hargs]; simp
  have hat : c.argTypes[0]? = some dt := by rw [← Array.getElem?_toList, hats]; rfl
  simp only [evA] at he
  generalize a.ev t = D at *
  generalize b.ev t = S at *
  unfold copyV at he
  cases hn : sourceLen S with
  | none => simp [hn] at he
  | some m =>
    simp only [hn] at he
    have hl := source_len (P := P) (w := w) hS hn
    have hsz := run_size w hk
    cases D with
    | sn =>
      simp only [RO.ok.injEq] at he
      obtain ⟨rfl, rfl⟩ := he
      simp [conc] at hD
      have hfc : (Builtin.firstCells esz 0 (ρ s')).run P w = .ok #[] w := by
        unfold sourceLen at hn
        split at hn <;> simp at hn
        · simp [conc] at hS; rw [← hS]; simp [Builtin.firstCells]
        · simp [conc] at hS; rw [← hS]; simp [Builtin.firstCells, loadCells, loadCellsFrom]
        · obtain ⟨cb, sz, cap', hR, hxe, _⟩ := conc_sl hS
          rw [hxe]; simp [Builtin.firstCells, loadCells, loadCellsFrom]
        · obtain ⟨hxe, _⟩ := conc_ss hS
          rw [hxe]
          simp [Builtin.firstCells, extract_byteArr, byteArr]
      refine .plain (x := .int .i64 0) hs ?_ (by simp [conc])
      rw [run_builtin hb]
      simp [builtin, Builtin.copy_, hmap, hat, run_underlying hdt, ← hD, hl, hsz, hfc, goInt]
    | sl blk off len cap g =>
      simp only at he
      obtain ⟨cb, sz, cap', hR, hxe, hcc, hg1, hg2⟩ := conc_sl hD
      split at he
      · simp at he
      rename_i l hl'
      obtain ⟨xs, h1, h2, h3⟩ := source_cells (P := P) hs hA hS hl'
      split at he <;> simp only [RO.ok.injEq, reduceCtorEq] at he
      rename_i h1' hst
      obtain ⟨rfl, rfl⟩ := he
      obtain ⟨w', r1, hf, hs'⟩ := store_step hs (hA blk) hR hst h1
      refine ⟨.value (.int .i64 (Nat.min m len : Int)), _, w', ?_, .inl rfl, _, _, hf, hs', by simp [conc]⟩
      rw [run_builtin hb]
      simp [builtin, Builtin.copy_, hmap, hat, run_underlying hdt, hxe, hl, hsz, h2, r1, goInt]
    | _ => simp at he
theorem run_clr {z : List V} {a : X} (hok : okA P op (.clr z a) = true) (hρ : EnvOk R t ρ) (hs : Sim P F R h.get w) (hF : FootOk F (reads (.clr z a) t))
    (he : evA call (.clr z a) t h = .ok v h') : OpRun P F R h w (execOp ρ ⟨dst, op, ty, pos, af, gd⟩) v h' := by
  cases op <;> try exact (Bool.false_ne_true hok).elim
  rename_i c
  obtain ⟨bt, hb, hk⟩ := okB_inv (show okB P c (.clr z a) = true from hok)
  simp only [okCallB] at hk
  split at hk
  case h_2 => simp at hk
  rename_i x t' hargs hats
  rw [Bool.and_eq_true] at hk
  obtain ⟨hxa, hk⟩ := hk
  split at hk
  case h_2 => simp at hk
  rename_i e hdt
  unfold okZ at hk
  cases hz : zeroT P e with
  | none => simp [hz] at hk
  | some u =>
    simp only [hz] at hk
    have hc := concL_of_same R z _ hk
    have hX := hρ x a hxa
    simp only [evA] at he
    generalize a.ev t = S at *
    cases S with
    | sn =>
      simp only [RO.ok.injEq] at he
      obtain ⟨rfl, rfl⟩ := he
      simp [conc] at hX
      refine .plain (x := .tuple #[]) hs ?_ (conc_undef R)
      rw [run_builtin hb, arr1 hargs, arr1 hats]
      simp [builtin, Builtin.clear_, run_underlying hdt, ← hX]
    | sl blk off len cap g =>
      simp only at he
      obtain ⟨cb, sz, cap', hR, hxe, hcc, hg1, hg2⟩ := conc_sl hX
      split at he
      · rename_i h0
        rw [Nat.beq_eq] at h0
        subst h0
        simp only [RO.ok.injEq] at he
        obtain ⟨rfl, rfl⟩ := he
        refine .plain (x := .tuple #[]) hs ?_ (conc_undef R)
        rw [run_builtin hb, arr1 hargs, arr1 hats]
        simp [builtin, Builtin.clear_, run_underlying hdt, hxe]
      · rename_i h0
        have h0 : len ≠ 0 := by simpa using h0
        split at he <;> simp only [RO.ok.injEq, reduceCtorEq] at he
        rename_i h1' hst
        obtain ⟨rfl, rfl⟩ := he
        obtain ⟨w', r1, hf, hs'⟩ := store_step hs (hF blk) hR hst (concL_rep hc len)
        refine ⟨.value (.tuple #[]), _, w', ?_, .inl rfl, _, _, hf, hs', conc_undef R⟩
        rw [run_builtin hb, arr1 hargs, arr1 hats]
        cases len with
        | zero => exact absurd rfl h0
        | succ len => simp [builtin, Builtin.clear_, run_underlying hdt, hxe, run_zero w hz, zeroCells_eq, r1]
    | _ => simp at he
end
end Go.Air
namespace Go.Air
theorem sameKs_eq : ∀ {a b : List KT}, sameKs a b = true → a = b
  | [], [], _ => rfl
  | [], _ :: _, h => by simp [sameKs] at h
  | _ :: _, [], h => by simp [sameKs] at h
  | x :: a, y :: b, h => by
    simp only [sameKs, Bool.and_eq_true, decide_eq_true_eq] at h
    rw [h.1, sameKs_eq h.2]
theorem fitL_length : ∀ {ks : List KT} {xs : List V}, fitL ks xs = true → xs.length = ks.length
  | [], [], _ => rfl
  | [], _ :: _, h => by simp [fitL] at h
  | _ :: _, [], h => by simp [fitL] at h
  | k :: ks, x :: xs, h => by
    simp only [fitL, Bool.and_eq_true] at h
    simp [fitL_length h.2]
theorem fitL_append : ∀ {a b : List KT} {xs : List V}, fitL (a ++ b) xs = true → fitL a (xs.take a.length) = true ∧ fitL b (xs.drop a.length) = true
  | [], b, xs, h => by simpa [fitL] using h
  | k :: a, b, [], h => by simp [fitL] at h
  | k :: a, b, x :: xs, h => by
    simp only [List.cons_append, fitL, Bool.and_eq_true] at h
    obtain ⟨h1, h2⟩ := fitL_append h.2
    simp only [List.length_cons, List.take_succ_cons, List.drop_succ_cons, fitL, Bool.and_eq_true]
    exact ⟨⟨h.1, h1⟩, h2⟩
theorem cellsEq_split : ∀ (n : Nat) (xs ys : List V), xs.length = ys.length → cellsEq xs ys = (cellsEq (xs.take n) (ys.take n) && cellsEq (xs.drop n) (ys.drop n))
  | 0, xs, ys, _ => by simp [cellsEq]
  | n + 1, [], [], _ => by simp [cellsEq]
  | n + 1, [], _ :: _, h => by simp at h
  | n + 1, _ :: _, [], h => by simp at h
  | n + 1, x :: xs, y :: ys, h => by
    simp only [List.take_succ_cons, List.drop_succ_cons, cellsEq]
    rw [cellsEq_split n xs ys (by simpa using h), Bool.and_assoc]
section
variable {P : Program} {F : Nat → Prop} {R : Emb} {h h' : H} {w : World} {t : List V} {ρ : Operand → Value} {v : V}
  {dst : Option Tmp} {op : Op} {ty : TypeId} {pos : String} {af : Array Edge} {gd : Option (Nat × Bool)} {call : V → List V → H → RO}
def mkv (P : Program) (t : TypeId) (l : List Value) : Value := if aggT P t then .agg l.toArray else l.headD undef
theorem fits_conc {k : KT} {x : V} {u : Value} (hf : k.fits x = true) (hx : conc R x = some u) :
    (∃ b, k = .b ∧ x = .b b ∧ u = .bool b) ∨ (∃ kd n, k = .i kd ∧ x = .i kd n ∧ u = .int kd n) ∨ (∃ l, k = .s ∧ x = .s l ∧ u = .string (byteArr l) ∧ ∀ n ∈ l, n < 256) := by
  unfold KT.fits at hf
  split at hf <;> try simp at hf
  · exact .inl ⟨_, rfl, rfl, conc_bb hx⟩
  · subst hf; exact .inr (.inl ⟨_, _, rfl, rfl, conc_i hx⟩)
  · obtain ⟨a, b⟩ := conc_ss hx; exact .inr (.inr ⟨_, rfl, rfl, a, b⟩)
theorem run_eq_scalar {t : TypeId} {d : TypeDesc} {k : KT} (hu : P.underlying t = some d) (hk : ktD k d = true) {x y : V} {u z : Value} (hx : k.fits x = true) (hy : k.fits y = true) (hcx : conc R x = some u)
    (hcy : conc R y = some z) (e : Nat) (w : World) : (Op.equalIn (e + 1) t u z).run P w = .ok (scalarEq x y) w := by
  rcases fits_conc hx hcx with ⟨b, rfl, rfl, rfl⟩ | ⟨kd, n, rfl, rfl, rfl⟩ | ⟨l, rfl, rfl, rfl, hl⟩
  · rcases fits_conc hy hcy with ⟨b', _, rfl, rfl⟩ | ⟨_, _, e1, _⟩ | ⟨_, e1, _⟩ <;> try cases e1
    cases d <;> simp [ktD] at hk
    rw [run_equalIn_bool' w e t _ _ hu]
    rfl
  · rcases fits_conc hy hcy with ⟨_, e1, _⟩ | ⟨kd', n', e1, rfl, rfl⟩ | ⟨_, e1, _⟩ <;> try cases e1
    cases d <;> simp [ktD] at hk
    rw [run_equalIn_int w e t kd _ _ _ hu]
    simp only [scalarEq]
    congr 1
  · rcases fits_conc hy hcy with ⟨_, e1, _⟩ | ⟨_, _, e1, _⟩ | ⟨l', e1, rfl, rfl, hl'⟩ <;> try cases e1
    cases d <;> simp [ktD] at hk
    rw [run_equalIn_string w e t _ _ hu, toList_byteArr, toList_byteArr, bytesEq_map _ _ hl hl']
    rfl
def EqFlat (P : Program) (R : Emb) (d : Nat) (t : TypeId) (ks : List KT) : Prop :=
  ∀ (e : Nat) (w : World) (xs ys : List V) (vx vy : List Value), d ≤ e → fitL ks xs = true → fitL ks ys = true → concL R xs = some vx → concL R ys = some vy →
    (Op.equalIn e t (mkv P t vx) (mkv P t vy)).run P w = .ok (cellsEq xs ys) w
theorem eqFlat_scalar {d : Nat} {t : TypeId} {k : KT} {ds : TypeDesc} (hu : P.underlying t = some ds) (hk : ktD k ds = true) : EqFlat P R (d + 1) t [k] := by
  intro e w xs ys vx vy hd hx hy hcx hcy
  have h1 := fitL_length hx
  have h2 := fitL_length hy
  match xs, ys, h1, h2 with
  | [x], [y], _, _ =>
    obtain ⟨u, r, hu1, hr, rfl⟩ := concL_cons.1 hcx
    obtain ⟨z, r', hz1, hr', rfl⟩ := concL_cons.1 hcy
    simp [concL] at hr hr'
    subst hr hr'
    simp only [fitL, Bool.and_true] at hx hy
    have hag : aggT P t = false := by
      unfold aggT
      rw [hu]
      cases ds <;> cases k <;> simp [ktD] at hk <;> rfl
    simp only [mkv, hag, Bool.false_eq_true, if_false, List.headD_cons]
    obtain ⟨e', rfl⟩ : ∃ e', e = e' + 1 := ⟨e - 1, by omega⟩
    rw [run_eq_scalar hu hk hx hy hu1 hz1 e' w]
    simp [cellsEq]
theorem part_flat {d : Nat} {ft : TypeId} {l : List KT} {off : Nat} {vX : List Value} {w : World} (hag : aggT P ft = true ∨ plainT P ft = true ∧ l.length = 1) (hsz : isSz P ft l.length = true)
    (hlen : off + l.length ≤ vX.length) : (part ft vX.toArray off).run P w = .ok (mkv P ft ((vX.drop off).take l.length)) w := by
  rcases hag with hag | ⟨hpl, h1⟩
  · rw [run_part_aggT (P := P) (w := w) (cs := vX.toArray) hag hsz]
    simp [mkv, hag]
  · have hag : aggT P ft = false := by
      obtain ⟨dd, hd, ha⟩ := plainT_d hpl
      simp [aggT, hd, ha]
    rw [h1] at hlen
    have hlt : off < vX.length := by omega
    rw [run_part_plainT (P := P) (w := w) (cs := vX.toArray) (x := vX[off]) hpl (by simp [hlt])]
    simp only [mkv, hag, Bool.false_eq_true, if_false, h1]
    rw [List.drop_eq_getElem_cons hlt]
    rfl
theorem flatT_kind : ∀ {d : Nat} {t : TypeId} {l : List KT}, flatT P d t = some l → aggT P t = true ∨ plainT P t = true ∧ l.length = 1
  | 0, _, _, hh => by simp [flatT] at hh
  | d + 1, t, l, hh => by
    simp only [flatT] at hh
    split at hh
    · rename_i hu; split at hh <;> simp at hh; subst hh; exact .inr ⟨by simp [plainT, hu, isAggD], rfl⟩
    · rename_i hu; split at hh <;> simp at hh; subst hh; exact .inr ⟨by simp [plainT, hu, isAggD], rfl⟩
    · rename_i hu; split at hh <;> simp at hh; subst hh; exact .inr ⟨by simp [plainT, hu, isAggD], rfl⟩
    · rename_i hu; exact .inl (by simp [aggT, hu, isAggD])
    · rename_i hu; exact .inl (by simp [aggT, hu, isAggD])
    · simp at hh
theorem rep_fit {l : List KT} : ∀ {n : Nat} {xs : List V}, fitL (List.replicate n l).flatten xs = true → xs.length = n * l.length ∧ ∀ i, i < n → fitL l ((xs.drop (i * l.length)).take l.length) = true
  | 0, xs, hf => by
    have := fitL_length hf
    simp at this
    exact ⟨by simp [this], fun i hi => by omega⟩
  | n + 1, xs, hf => by
    rw [List.replicate_succ, List.flatten_cons] at hf
    obtain ⟨h1, h2⟩ := fitL_append hf
    obtain ⟨h3, h4⟩ := rep_fit h2
    have h5 := fitL_length h1
    simp at h3 h5
    refine ⟨by rw [Nat.add_mul]; omega, fun i hi => ?_⟩
    cases i with
    | zero => simpa using h1
    | succ i =>
      have := h4 i (by omega)
      rw [List.drop_drop] at this
      rw [Nat.add_mul, Nat.one_mul, Nat.add_comm]
      exact this
theorem eqItems_flat {dd : Nat} {e : TypeId} {l : List KT} (hag : aggT P e = true ∨ plainT P e = true ∧ l.length = 1) (hsz : isSz P e l.length = true) {xs ys : List V} {vx vy : List Value}
    (hcx : concL R xs = some vx) (hcy : concL R ys = some vy) (heq : ∀ (w : World) (a b : List V) (va vb : List Value), fitL l a = true → fitL l b = true → concL R a = some va → concL R b = some vb →
      (Op.equalIn dd e (mkv P e va) (mkv P e vb)).run P w = .ok (cellsEq a b) w) :
    ∀ (m i n : Nat), i + m = n → fitL (List.replicate n l).flatten xs = true → fitL (List.replicate n l).flatten ys = true →
      (Op.eqItems dd e l.length vx.toArray vy.toArray ((List.range m).map (i + ·))).run P w = .ok (cellsEq (xs.drop (i * l.length)) (ys.drop (i * l.length))) w
  | 0, i, n, hin, hx, hy => by
    obtain ⟨h1, _⟩ := rep_fit hx
    obtain ⟨h2, _⟩ := rep_fit hy
    obtain rfl : i = n := by omega
    rw [List.drop_eq_nil_of_le (by omega), List.drop_eq_nil_of_le (by omega)]
    simp [Op.eqItems, cellsEq]
  | m + 1, i, n, hin, hx, hy => by
    obtain ⟨h1, h1'⟩ := rep_fit hx
    obtain ⟨h2, h2'⟩ := rep_fit hy
    have hle : (i + 1) * l.length ≤ n * l.length := Nat.mul_le_mul_right _ (by omega)
    rw [Nat.add_mul, Nat.one_mul] at hle
    have e1 := concL_length hcx
    have e2 := concL_length hcy
    have ih := eqItems_flat hag hsz hcx hcy heq m (i + 1) n (by omega) hx hy
    rw [List.range_succ_eq_map, List.map_cons, List.map_map]
    have e3 : (List.range m).map ((i + ·) ∘ Nat.succ) = (List.range m).map (i + 1 + ·) := by
      apply List.map_congr_left
      intro a _
      simp; omega
    rw [e3]
    simp only [Nat.add_zero, Op.eqItems, Sem.run_bind, part_flat (d := 0) (w := w) hag hsz (show i * l.length + l.length ≤ vx.length by omega), part_flat (d := 0) (w := w) hag hsz (show i * l.length + l.length ≤ vy.length by omega), Result.andThen_ok]
    rw [heq w _ _ _ _ (h1' i (by omega)) (h2' i (by omega)) (concL_take _ (concL_drop _ hcx)) (concL_take _ (concL_drop _ hcy))]
    simp only [Result.andThen_ok]
    rw [cellsEq_split l.length (xs.drop (i * l.length)) (ys.drop (i * l.length)) (by simp; omega)]
    cases cellsEq ((xs.drop (i * l.length)).take l.length) ((ys.drop (i * l.length)).take l.length)
    · simp
    · simp only [Bool.not_true, Bool.false_eq_true, if_false, Bool.true_and, List.drop_drop]
      rw [ih]
      rw [Nat.add_mul, Nat.one_mul]
mutual
theorem flatT_eq : ∀ (d : Nat) (t : TypeId) (ks : List KT), flatT P d t = some ks → EqFlat P R d t ks
  | 0, _, _, hh => by simp [flatT] at hh
  | d + 1, t, ks, hh => by
    simp only [flatT] at hh
    split at hh
    · rename_i hu; split at hh <;> simp at hh; subst hh; exact eqFlat_scalar hu rfl
    · rename_i k hu; split at hh <;> simp at hh; subst hh; exact eqFlat_scalar hu (by simp [ktD])
    · rename_i hu; split at hh <;> simp at hh; subst hh; exact eqFlat_scalar hu rfl
    · rename_i fs hu
      split at hh <;> try simp at hh
      rename_i hst
      intro e w xs ys vx vy hd hx hy hcx hcy
      obtain ⟨e', rfl⟩ : ∃ e', e = e' + 1 := ⟨e - 1, by omega⟩
      have hag : aggT P t = true := by simp [aggT, hu, isAggD]
      have hfo : P.fieldsOf t = fs := by simp [Program.fieldsOf, hu]
      simp only [mkv, hag, if_true]
      rw [run_equalIn_struct w e' t vx.toArray vy.toArray (by rw [hfo]; exact hu) (by simpa using hst), hfo]
      have := flatF_eq d 0 fs.toList ks hh e' w xs ys vx vy (by omega) (by rw [List.drop_zero, List.take_of_length_le (by have := fitL_length hx; omega)]; exact hx) (by rw [List.drop_zero, List.take_of_length_le (by have := fitL_length hy; omega)]; exact hy) (by have := fitL_length hx; omega) (by have := fitL_length hy; omega) hcx hcy
      have hl := fitL_length hx
      have hl2 := fitL_length hy
      rw [List.drop_zero, List.drop_zero, List.take_of_length_le (by omega), List.take_of_length_le (by omega)] at this
      exact this
    · rename_i n e hu
      split at hh <;> try simp at hh
      rename_i l hl
      obtain ⟨hsz, rfl⟩ := hh
      intro e' w xs ys vx vy hd hx hy hcx hcy
      obtain ⟨e'', rfl⟩ : ∃ e'', e' = e'' + 1 := ⟨e' - 1, by omega⟩
      have hag : aggT P t = true := by simp [aggT, hu, isAggD]
      obtain ⟨i, hi, hisz⟩ := szT_info hsz
      simp only [mkv, hag, if_true]
      have hco : P.cellsOf e = l.length := by simp [Program.cellsOf, hi, hisz]
      rw [run_equalIn_array w e'' vx.toArray vy.toArray hu hi, hco]
      have := eqItems_flat (dd := e'') (w := w) (flatT_kind hl) hsz hcx hcy (fun w a b va vb ha hb hca hcb => flatT_eq d e l hl e'' w a b va vb (by omega) ha hb hca hcb) n 0 n (by omega) hx hy
      simpa using this
    · simp at hh
theorem flatF_eq : ∀ (d off : Nat) (fs : List Field) (ks : List KT), flatF P d off fs = some ks → ∀ (e : Nat) (w : World) (xs ys : List V) (vx vy : List Value), d ≤ e →
    fitL ks ((xs.drop off).take ks.length) = true → fitL ks ((ys.drop off).take ks.length) = true → off + ks.length ≤ xs.length → off + ks.length ≤ ys.length → concL R xs = some vx → concL R ys = some vy →
    (Op.eqFields e vx.toArray vy.toArray fs).run P w = .ok (cellsEq ((xs.drop off).take ks.length) ((ys.drop off).take ks.length)) w
  | 0, _, _, _, hh => by simp [flatF] at hh
  | d + 1, off, [], ks, hh => by
    simp only [flatF, Option.some.injEq] at hh
    subst hh
    intros
    simp [Op.eqFields, cellsEq]
  | d + 1, off, f :: fs, ks, hh => by
    simp only [flatF] at hh
    split at hh <;> try simp at hh
    rename_i hname
    split at hh <;> try simp at hh
    rename_i l hl
    obtain ⟨⟨ho, hsz⟩, ks', hks, rfl⟩ := hh
    intro e w xs ys vx vy hd hx hy hlx hly hcx hcy
    have e1 := concL_length hcx
    have e2 := concL_length hcy
    simp only [List.length_append] at hlx hly
    obtain ⟨hx1, hx2⟩ := fitL_append hx
    obtain ⟨hy1, hy2⟩ := fitL_append hy
    have tk : ∀ z : List V, ((z.drop off).take (l ++ ks').length).take l.length = (z.drop off).take l.length := fun z => by rw [List.take_take]; congr 1; simp
    have dk : ∀ z : List V, ((z.drop off).take (l ++ ks').length).drop l.length = (z.drop (off + l.length)).take ks'.length := fun z => by
      rw [List.drop_take, List.drop_drop]
      congr 1
      simp
    rw [tk] at hx1 hy1
    rw [dk] at hx2 hy2
    have ih := flatF_eq d (off + l.length) fs ks' hks e w xs ys vx vy (by omega) hx2 hy2 (by omega) (by omega) hcx hcy
    have he := flatT_eq d f.type l hl e w _ _ _ _ (by omega) hx1 hy1 (concL_take _ (concL_drop _ hcx)) (concL_take _ (concL_drop _ hcy))
    have hk := flatT_kind hl
    subst ho
    simp only [Op.eqFields, ne_eq, hname, not_false_eq_true, if_true, Sem.run_bind, part_flat (d := 0) (w := w) hk hsz (show f.offset + l.length ≤ vx.length by omega),
      part_flat (d := 0) (w := w) hk hsz (show f.offset + l.length ≤ vy.length by omega), Result.andThen_ok, he]
    rw [cellsEq_split l.length ((xs.drop f.offset).take (l ++ ks').length) ((ys.drop f.offset).take (l ++ ks').length) (by simp; omega), tk, tk, dk, dk]
    cases cellsEq ((xs.drop f.offset).take l.length) ((ys.drop f.offset).take l.length)
    · simp
    · simp only [Bool.not_true, Bool.false_eq_true, if_false, Bool.true_and]
      exact ih
end
theorem run_equal_agg {t : TypeId} {ks : List KT} {x y : List V} {vx vy : List Value} (hag : aggT P t = true) (hf : flatT P 40 t = some ks) (hx : fitL ks x = true) (hy : fitL ks y = true)
    (hcx : concL R x = some vx) (hcy : concL R y = some vy) (w : World) : (Op.equal t (.agg vx.toArray) (.agg vy.toArray)).run P w = .ok (cellsEq x y) w := by
  have := flatT_eq (R := R) 40 t ks hf 10000 w x y vx vy (by omega) hx hy hcx hcy
  simpa [mkv, hag, Op.equal, Op.maxDepth] using this
theorem eql_of {o : BinOp} {neg : Bool} {t : TypeId} {a b : Value} {r : Bool} (ho : o = if neg then .neq else .eql) (hr : (Op.equal t a b).run P w = .ok r w)
    (h1 : (binOp .eql t a b) = (do pure (.bool (← Op.equal t a b)))) (h2 : (binOp .neq t a b) = (do pure (.bool (!(← Op.equal t a b))))) :
    (binOp o t a b).run P w = .ok (.bool (if neg then !r else r)) w := by
  cases neg
  · simp only [Bool.false_eq_true, if_false] at ho
    subst ho
    rw [h1]
    simp [hr]
  · simp only [if_true] at ho
    subst ho
    rw [h2]
    simp [hr]
theorem conc_m {b : Nat} {x : Value} (hx : conc R (.m b) = some x) : ∃ c sz, R b = some (c, sz) ∧ x = .map (some c) := by
  simp only [conc, Option.map_eq_some_iff] at hx
  obtain ⟨a, ha, rfl⟩ := hx
  exact ⟨a.1, a.2, ha, rfl⟩
theorem conc_yld {b : Nat} {x : Value} (hx : conc R (.yld b) = some x) : ∃ c sz, R b = some (c, sz) ∧ x = .func (.yield c) #[] #[] := by
  simp only [conc, Option.map_eq_some_iff] at hx
  obtain ⟨a, ha, rfl⟩ := hx
  exact ⟨a.1, a.2, ha, rfl⟩
theorem conc_fn {f : Nat} {a c : List V} {x : Value} (hx : conc R (.fn f a c) = some x) : ∃ va vc, concL R a = some va ∧ concL R c = some vc ∧ x = .func (.func f) va.toArray vc.toArray := by
  simp only [conc] at hx
  cases ha : concL R a <;> cases hc : concL R c <;> simp [ha, hc] at hx
  exact ⟨_, _, rfl, rfl, hx.symm⟩
theorem conc_ifc {k : Nat} {a : V} {x : Value} (hx : conc R (.ifc k a) = some x) : ∃ u, conc R a = some u ∧ x = .iface k u := by
  simp only [conc] at hx
  cases ha : conc R a <;> simp [ha] at hx
  exact ⟨_, rfl, hx.symm⟩
theorem conc_pn {x : Value} (hx : conc R .pn = some x) : x = .pointer none := by simpa [conc, eq_comm] using hx
theorem conc_sn {x : Value} (hx : conc R .sn = some x) : x = .slice none 0 0 := by simpa [conc, eq_comm] using hx
theorem conc_se {a : Addr} {x : Value} (hx : conc R (.se a) = some x) : x = .slice (some a) 0 0 := by simpa [conc, eq_comm] using hx
theorem conc_mn {x : Value} (hx : conc R .mn = some x) : x = .map none := by simpa [conc, eq_comm] using hx
theorem conc_fnil {x : Value} (hx : conc R .fnil = some x) : x = .nilFunc := by simpa [conc, eq_comm] using hx
theorem conc_in0 {x : Value} (hx : conc R .in0 = some x) : x = .nilIface := by simpa [conc, eq_comm] using hx
def EqSays (P : Program) (w : World) (t : TypeId) (X Y : Value) (r : Bool) : Prop :=
  (Op.equal t X Y).run P w = .ok r w ∧ (binOp .eql t X Y) = (do pure (.bool (← Op.equal t X Y))) ∧ (binOp .neq t X Y) = (do pure (.bool (!(← Op.equal t X Y)))) ∧
      (∀ o x y, (X = .nilIface → Y = .nilIface → isConstO x = true ∨ isConstO y = true) → (eqGuard o t x y X Y).run P w = .ok () w)
theorem EqSays.of {t : TypeId} {X Y : Value} {r : Bool} (q : ∀ d, (Op.equalIn (d + 1) t X Y).run P w = .ok r w) (h1 : (binOp .eql t X Y) = (do pure (.bool (← Op.equal t X Y))))
    (h2 : (binOp .neq t X Y) = (do pure (.bool (!(← Op.equal t X Y))))) (h3 : ∀ o x y, (X = .nilIface → Y = .nilIface → isConstO x = true ∨ isConstO y = true) → (eqGuard o t x y X Y).run P w = .ok () w) :
    EqSays P w t X Y r := ⟨q 9999, h1, h2, h3⟩
set_option maxHeartbeats 4000000 in
theorem run_equal_simple {t : TypeId} {k : EqK} {va vb : V} {X Y : Value} {r : Bool} (hk : okEqK P t k = true) (he : eqV k va vb = some r) (hx : conc R va = some X) (hy : conc R vb = some Y) :
    EqSays P w t X Y r := by
  cases k with
  | bool =>
    have hk : (match P.underlying t with | some (.bool) => true | _ => false) = true := hk
    split at hk <;> try simp at hk
    rename_i hu
    cases va <;> cases vb <;> simp [eqV] at he
    subst he
    obtain rfl := conc_bb hx
    obtain rfl := conc_bb hy
    exact .of (fun d => by simp [Op.equalIn, run_underlying hu]) rfl rfl (fun o x y _ => by cases o <;> simp [eqGuard])
  | ptr =>
    have hk : (match P.underlying t with | some (.pointer _) => true | _ => false) = true := hk
    split at hk <;> try simp at hk
    rename_i hu
    cases va <;> cases vb <;> simp [eqV] at he <;> subst he
    · obtain rfl := conc_pn hx; obtain rfl := conc_pn hy
      exact .of (fun d => by simp [Op.equalIn, run_underlying hu]) rfl rfl (fun o x y _ => by cases o <;> simp [eqGuard])
    · obtain rfl := conc_pn hx; obtain ⟨_, _, _, rfl⟩ := conc_p hy
      exact .of (fun d => by simp [Op.equalIn, run_underlying hu]) rfl rfl (fun o x y _ => by cases o <;> simp [eqGuard])
    · obtain rfl := conc_pn hy; obtain ⟨_, _, _, rfl⟩ := conc_p hx
      exact .of (fun d => by simp [Op.equalIn, run_underlying hu]) rfl rfl (fun o x y _ => by cases o <;> simp [eqGuard])
  | slice =>
    have hk : (match P.underlying t with | some (.slice _) => true | _ => false) = true := hk
    split at hk <;> try simp at hk
    rename_i hu
    cases va <;> cases vb <;> simp [eqV] at he <;> subst he
    · obtain rfl := conc_sn hx; obtain rfl := conc_sn hy
      exact .of (fun d => by simp [Op.equalIn, run_underlying hu]) rfl rfl (fun o x y _ => by cases o <;> simp [eqGuard])
    · obtain rfl := conc_sn hx; obtain ⟨_, _, _, _, rfl, _⟩ := conc_sl hy
      exact .of (fun d => by simp [Op.equalIn, run_underlying hu]) rfl rfl (fun o x y _ => by cases o <;> simp [eqGuard])
    · obtain rfl := conc_sn hx; obtain rfl := conc_se hy
      exact .of (fun d => by simp [Op.equalIn, run_underlying hu]) rfl rfl (fun o x y _ => by cases o <;> simp [eqGuard])
    · obtain rfl := conc_sn hy; obtain ⟨_, _, _, _, rfl, _⟩ := conc_sl hx
      exact .of (fun d => by simp [Op.equalIn, run_underlying hu]) rfl rfl (fun o x y _ => by cases o <;> simp [eqGuard])
    · obtain rfl := conc_sn hy; obtain rfl := conc_se hx
      exact .of (fun d => by simp [Op.equalIn, run_underlying hu]) rfl rfl (fun o x y _ => by cases o <;> simp [eqGuard])
  | map =>
    have hk : (match P.underlying t with | some (.map _ _) => true | _ => false) = true := hk
    split at hk <;> try simp at hk
    rename_i hu
    cases va <;> cases vb <;> simp [eqV] at he <;> subst he
    · obtain rfl := conc_mn hx; obtain rfl := conc_mn hy
      exact .of (fun d => by simp [Op.equalIn, run_underlying hu]) rfl rfl (fun o x y _ => by cases o <;> simp [eqGuard])
    · obtain rfl := conc_mn hx; obtain ⟨_, _, _, rfl⟩ := conc_m hy
      exact .of (fun d => by simp [Op.equalIn, run_underlying hu]) rfl rfl (fun o x y _ => by cases o <;> simp [eqGuard])
    · obtain rfl := conc_mn hy; obtain ⟨_, _, _, rfl⟩ := conc_m hx
      exact .of (fun d => by simp [Op.equalIn, run_underlying hu]) rfl rfl (fun o x y _ => by cases o <;> simp [eqGuard])
  | func =>
    have hk : (match P.underlying t with | some (.func _ _ _) => true | _ => false) = true := hk
    split at hk <;> try simp at hk
    rename_i hu
    cases va <;> cases vb <;> simp [eqV] at he <;> subst he
    · obtain rfl := conc_fnil hx; obtain rfl := conc_fnil hy
      exact .of (fun d => by simp [Op.equalIn, run_underlying hu]) rfl rfl (fun o x y _ => by cases o <;> simp [eqGuard])
    · obtain rfl := conc_fnil hx; obtain ⟨_, _, _, _, rfl⟩ := conc_fn hy
      exact .of (fun d => by simp [Op.equalIn, run_underlying hu]) rfl rfl (fun o x y _ => by cases o <;> simp [eqGuard])
    · obtain rfl := conc_fnil hx; obtain ⟨_, _, _, rfl⟩ := conc_yld hy
      exact .of (fun d => by simp [Op.equalIn, run_underlying hu]) rfl rfl (fun o x y _ => by cases o <;> simp [eqGuard])
    · obtain rfl := conc_fnil hy; obtain ⟨_, _, _, _, rfl⟩ := conc_fn hx
      exact .of (fun d => by simp [Op.equalIn, run_underlying hu]) rfl rfl (fun o x y _ => by cases o <;> simp [eqGuard])
    · obtain rfl := conc_fnil hy; obtain ⟨_, _, _, rfl⟩ := conc_yld hx
      exact .of (fun d => by simp [Op.equalIn, run_underlying hu]) rfl rfl (fun o x y _ => by cases o <;> simp [eqGuard])
  | iface =>
    have hk : (match P.underlying t with | some (.interface _) => true | _ => false) = true := hk
    split at hk <;> try simp at hk
    rename_i hu
    cases va <;> cases vb <;> simp [eqV] at he <;> subst he
    · obtain rfl := conc_in0 hx; obtain rfl := conc_in0 hy
      refine .of (fun d => by simp [Op.equalIn, run_underlying hu]) rfl rfl (fun o x y hc => ?_)
      rcases hc rfl rfl with hc | hc
      · cases x <;> simp [isConstO] at hc
        cases o <;> simp [eqGuard]
      · cases y <;> simp [isConstO] at hc
        cases o <;> simp [eqGuard]
    · obtain rfl := conc_in0 hx; obtain ⟨_, _, rfl⟩ := conc_ifc hy
      exact .of (fun d => by simp [Op.equalIn, run_underlying hu]) rfl rfl (fun o x y _ => by cases o <;> simp [eqGuard])
    · obtain rfl := conc_in0 hy; obtain ⟨_, _, rfl⟩ := conc_ifc hx
      exact .of (fun d => by simp [Op.equalIn, run_underlying hu]) rfl rfl (fun o x y _ => by cases o <;> simp [eqGuard])
  | agg ks =>
    have hk : (aggT P t && !P.eqGuardType P.depth t && (match flatT P 40 t with | some l => sameKs l ks | none => false)) = true := hk
    rw [Bool.and_eq_true, Bool.and_eq_true] at hk
    obtain ⟨⟨hag, hg⟩, hfl⟩ := hk
    split at hfl <;> try simp at hfl
    rename_i l hl
    obtain rfl := sameKs_eq hfl
    cases va <;> cases vb <;> simp only [eqV, reduceCtorEq] at he
    split at he <;> simp only [Option.some.injEq, reduceCtorEq] at he
    rename_i hfit
    rw [Bool.and_eq_true] at hfit
    obtain ⟨cx, hcx, rfl⟩ := conc_agg hx
    obtain ⟨cy, hcy, rfl⟩ := conc_agg hy
    refine ⟨by rw [← he]; exact run_equal_agg hag hl hfit.1 hfit.2 hcx hcy w, rfl, rfl, ?_⟩
    intro o x y _
    have hg' : P.eqGuardType P.depth t = false := by simpa using hg
    exact run_eqGuard_agg (w := w) o t x y _ _ hg'
set_option maxHeartbeats 4000000 in
theorem run_eqv {neg : Bool} {k : EqK} {a b : X} (hok : okA P op (.eqv neg k a b) = true) (hρ : EnvOk R t ρ) (hs : Sim P F R h.get w) (he : evA call (.eqv neg k a b) t h = .ok v h') :
    OpRun P F R h w (execOp ρ ⟨dst, op, ty, pos, af, gd⟩) v h' := by
  cases op <;> try exact (Bool.false_ne_true hok).elim
  rename_i o xt x y yt
  have hok : (decide (o = if neg then .neq else .eql) && okX x a && okX y b && okEqK P xt k && (match (generalizing := false) k with
    | .iface => isConstO x || isConstO y
    | _ => true)) = true := hok
  simp only [Bool.and_eq_true, decide_eq_true_eq] at hok
  obtain ⟨⟨⟨⟨ho, hxa⟩, hyb⟩, hkk⟩, hcst⟩ := hok
  have hx := hρ x a hxa
  have hy := hρ y b hyb
  simp only [evA] at he
  cases hev : eqV k (a.ev t) (b.ev t) with
  | none => simp [hev] at he
  | some r =>
    simp only [hev, RO.ok.injEq] at he
    obtain ⟨rfl, rfl⟩ := he
    obtain ⟨h1, h2, h3, h4⟩ := run_equal_simple (P := P) (w := w) hkk hev hx hy
    have hc : ρ x = .nilIface → ρ y = .nilIface → isConstO x = true ∨ isConstO y = true := by
      intro e1 e2
      cases k with
      | iface => simpa using hcst
      | _ =>
        exfalso
        rw [e1] at hx
        rw [e2] at hy
        generalize a.ev t = va at *
        generalize b.ev t = vb at *
        clear h1 h2 h3 h4 hkk
        cases va <;> cases vb <;> simp only [eqV, reduceCtorEq] at hev <;> first
          | (cases conc_bb hx; done)
          | (cases conc_pn hx; done)
          | (cases conc_sn hx; done)
          | (cases conc_se hx; done)
          | (cases conc_mn hx; done)
          | (cases conc_fnil hx; done)
          | (obtain ⟨_, _, _, e⟩ := conc_p hx; cases e; done)
          | (obtain ⟨_, _, _, _, e, _⟩ := conc_sl hx; cases e; done)
          | (obtain ⟨_, _, _, e⟩ := conc_m hx; cases e; done)
          | (obtain ⟨_, _, _, _, e⟩ := conc_fn hx; cases e; done)
          | (obtain ⟨_, _, _, e⟩ := conc_yld hx; cases e; done)
          | (obtain ⟨_, _, e⟩ := conc_agg hx; cases e; done)
    exact .plain (x := .bool (if neg then !r else r)) hs (by simp only [execOp, Sem.run_bind, h4 o x y hc, eql_of ho h1 h2 h3, Result.andThen_ok, Sem.run_pure]) (by simp [conc])
end
end Go.Air
namespace Go.Air
section
variable {P : Program} {F : Nat → Prop} {R : Emb} {h h' : H} {w : World} {t : List V} {ρ : Operand → Value} {v : V}
  {dst : Option Tmp} {op : Op} {ty : TypeId} {pos : String} {af : Array Edge} {gd : Option (Nat × Bool)} {call : V → List V → H → RO}
theorem conc_ifc8 {k : Nat} {u : V} {x : Value} (hx : conc R (.ifc k u) = some x) : ∃ y, conc R u = some y ∧ x = .iface k y := by
  simp only [conc] at hx
  cases hc : conc R u with
  | none => simp [hc] at hx
  | some y => simp [hc] at hx; exact ⟨y, rfl, hx.symm⟩
theorem run_tassert {k : Nat} {z : V} {ok : Bool} {a : X} (hok : okA P op (.tassert k z ok a) = true) (hρ : EnvOk R t ρ) (hs : Sim P F R h.get w) (he : evA call (.tassert k z ok a) t h = .ok v h') :
    OpRun P F R h w (execOp ρ ⟨dst, op, ty, pos, af, gd⟩) v h' := by
  cases op <;> try exact (Bool.false_ne_true hok).elim
  rename_i x xt s ok'
  have hok : (Nat.beq s k && (ok' == ok) && okX x a && (match P.underlying s with
    | some (.interface _) => false
    | some _ => true
    | none => false) && (match zeroT P s with
      | some v => sameV z v
      | none => false)) = true := hok
  simp only [Bool.and_eq_true, Nat.beq_eq, beq_iff_eq] at hok
  obtain ⟨⟨⟨⟨rfl, rfl⟩, hxa⟩, hu⟩, hz⟩ := hok
  have hx := hρ x a hxa
  split at hz <;> try simp at hz
  rename_i zv hzv
  have hzc := conc_of_same R _ _ hz
  obtain ⟨d, hd, hni⟩ : ∃ d, P.underlying s = some d ∧ ∀ m, d ≠ .interface m := by
    split at hu <;> try simp at hu
    rename_i d hne hd
    exact ⟨d, hd, fun m e => hne m (by rw [e])⟩
  simp only [evA] at he
  split at he <;> try simp only [reduceCtorEq] at he
  · rename_i e
    rw [e] at hx
    simp only [conc, Option.some.injEq] at hx
    cases ok' <;> simp only [if_true, if_false, Bool.false_eq_true, RO.ok.injEq, reduceCtorEq] at he
    obtain ⟨rfl, rfl⟩ := he
    refine .plain (x := .tuple #[zv, .bool false]) hs ?_ (by simp [conc, concL, hzc])
    simp only [execOp, Instr.typeAssert, Sem.run_bind, run_underlying hd, Result.andThen_ok, ← hx]
    cases d <;> first | exact absurd rfl (hni _) | simp [run_zero w hzv]
  · rename_i ty' u e
    rw [e] at hx
    obtain ⟨y, hy, hx⟩ := conc_ifc8 hx
    split at he
    · rename_i hb
      rw [Nat.beq_eq] at hb
      subst hb
      simp only [RO.ok.injEq] at he
      obtain ⟨rfl, rfl⟩ := he
      cases ok' with
      | true =>
        refine .plain (x := .tuple #[y, .bool true]) hs ?_ (by simp [conc, concL, hy])
        simp only [execOp, Instr.typeAssert, Sem.run_bind, run_underlying hd, Result.andThen_ok, hx]
        cases d <;> first | exact absurd rfl (hni _) | simp
      | false =>
        refine .plain (x := y) hs ?_ (by simpa using hy)
        simp only [execOp, Instr.typeAssert, Sem.run_bind, run_underlying hd, Result.andThen_ok, hx]
        cases d <;> first | exact absurd rfl (hni _) | simp
    · rename_i hb
      have hb : ty' ≠ s := fun e => hb (by rw [e]; simp)
      cases ok' <;> simp only [if_true, if_false, Bool.false_eq_true, RO.ok.injEq, reduceCtorEq] at he
      obtain ⟨rfl, rfl⟩ := he
      refine .plain (x := .tuple #[zv, .bool false]) hs ?_ (by simp [conc, concL, hzc])
      simp only [execOp, Instr.typeAssert, Sem.run_bind, run_underlying hd, Result.andThen_ok, hx]
      cases d <;> first | exact absurd rfl (hni _) | simp [run_zero w hzv, hb]
theorem foldl_push : ∀ (ns : List Nat) (acc : List Nat), ((ns.map fun c : Nat => (c : Int)).foldl (fun (r : ByteArray) n => r.push (UInt8.ofNat n.toNat)) (byteArr acc)) = byteArr (acc ++ ns)
  | [], acc => by simp
  | c :: ns, acc => by
    rw [List.map_cons, List.foldl_cons]
    have : (byteArr acc).push (UInt8.ofNat (c : Int).toNat) = byteArr (acc ++ [c]) := by
      simp [byteArr, ByteArray.push]
    rw [this, foldl_push ns (acc ++ [c])]
    simp
theorem byteOf_inv {x : V} {c : Nat} (h : byteOf x = some c) : ∃ n : Int, x = .i .u8 n ∧ c = n.toNat ∧ c < 256 := by
  unfold byteOf at h
  split at h <;> try simp only [reduceCtorEq] at h
  split at h <;> simp only [Option.some.injEq, reduceCtorEq] at h
  rename_i n hb
  rw [Nat.blt_eq] at hb
  exact ⟨n, rfl, h.symm, by omega⟩
theorem bytesOf_inv : ∀ {l : List V} {cs : List Nat} {us : List Value}, bytesOf l = some cs → concL R l = some us → ∃ ns : List Int, us = ns.map (Value.int .u8) ∧ cs = ns.map Int.toNat ∧ ∀ c ∈ cs, c < 256
  | [], cs, us, h, hc => by
    simp [bytesOf] at h
    simp [concL] at hc
    subst h hc
    exact ⟨[], rfl, rfl, by simp⟩
  | x :: l, cs, us, h, hc => by
    simp only [bytesOf] at h
    split at h <;> simp only [Option.some.injEq, reduceCtorEq] at h
    rename_i c r h1 h2
    subst h
    obtain ⟨v, w, hv, hw, rfl⟩ := concL_cons.1 hc
    obtain ⟨n, rfl, rfl, hlt⟩ := byteOf_inv h1
    obtain ⟨ns, rfl, rfl, hall⟩ := bytesOf_inv h2 hw
    simp only [conc, Option.some.injEq] at hv
    subst hv
    refine ⟨n :: ns, rfl, rfl, ?_⟩
    intro c hc
    rcases List.mem_cons.1 hc with rfl | hc
    · exact hlt
    · exact hall c hc
theorem toNat_fold (ns : List Int) : ns.foldl (fun (r : ByteArray) n => r.push (UInt8.ofNat n.toNat)) ByteArray.empty = byteArr (ns.map Int.toNat) := by
  have := foldl_push (ns.map Int.toNat) []
  simp only [List.nil_append] at this
  rw [← this, List.map_map, List.foldl_map]
  rfl
theorem conc_str {l : List Nat} (h : ∀ c ∈ l, c < 256) : conc R (.s l) = some (.string (byteArr l)) := by
  have : l.all (Nat.blt · 256) = true := by
    rw [List.all_eq_true]
    intro c hc
    rw [Nat.blt_eq]
    exact h c hc
  simp [conc, this]
theorem run_b2s {a : X} (hok : okA P op (.b2s a) = true) (hρ : EnvOk R t ρ) (hs : Sim P F R h.get w) (hF : FootOk F (reads (.b2s a) t)) (he : evA call (.b2s a) t h = .ok v h') :
    OpRun P F R h w (execOp ρ ⟨dst, op, ty, pos, af, gd⟩) v h' := by
  cases op <;> try exact (Bool.false_ne_true hok).elim
  rename_i s d x
  have hok : (okX x a && (match P.underlying s, P.underlying d with
    | some (.slice e), some .string => (match P.underlying e with | some (.int .u8) => true | _ => false)
    | _, _ => false)) = true := hok
  rw [Bool.and_eq_true] at hok
  obtain ⟨hxa, hd⟩ := hok
  split at hd <;> try simp only [reduceCtorEq] at hd
  rename_i e hs1 hd1
  split at hd <;> try simp only [reduceCtorEq] at hd
  rename_i he1
  have hx := hρ x a hxa
  have hF : FootOk F (some (blockOf (a.ev t))) := hF
  simp only [evA] at he
  obtain ⟨he, e2⟩ := ofV_ok he
  rw [e2]
  unfold strOf at he
  have go : ∀ (o : Option Addr) (l c : Nat) (cs : List V), ρ x = .slice o l c → (∃ us, concL R cs = some us ∧ (o = none → us = []) ∧ ∀ ad, o = some ad → (loadCells ad l).run P w = .ok us.toArray w) →
      (bytesOf cs).map V.s = some v → OpRun P F R h w (execOp ρ ⟨dst, .convert s d x, ty, pos, af, gd⟩) v h := by
    rintro o l c cs hρx ⟨us, q1, q2, q3⟩ hb
    rw [Option.map_eq_some_iff] at hb
    obtain ⟨bs, hb, rfl⟩ := hb
    obtain ⟨ns, rfl, rfl, hlt⟩ := bytesOf_inv hb q1
    refine .plain (x := .string (byteArr (ns.map Int.toNat))) hs ?_ (conc_str hlt)
    simp only [execOp, Sem.run_bind, hρx, run_convert_bytes_string w s d e o l c hs1 he1 hd1]
    cases o with
    | none =>
      have : ns = [] := by
        have := q2 rfl
        simpa using this
      subst this
      simp [Conv.bytesToString, byteArr]
      rfl
    | some ad =>
      rw [run_bytesToString w ad l c ns (q3 ad rfl), toNat_fold]
      simp
  cases hv : a.ev t with
  | s l => simp [hv] at he
  | sn =>
    rw [hv] at he hx
    simp only [conc, Option.some.injEq] at hx
    simp only [sourceLen, sourceCells] at he
    exact go none 0 0 [] hx.symm ⟨[], concL_nil R, fun _ => rfl, fun _ h => by cases h⟩ (by simpa using he)
  | se ad =>
    rw [hv] at he hx
    simp only [conc, Option.some.injEq] at hx
    simp only [sourceLen, sourceCells] at he
    refine go (some ad) 0 0 [] hx.symm ⟨[], concL_nil R, (fun h => by cases h), fun ad' h => ?_⟩ (by simpa using he)
    simp [loadCells, loadCellsFrom]
  | sl b o l c g =>
    rw [hv] at he hx hF
    obtain ⟨cb, sz, cap', hb, hxe, _⟩ := conc_sl hx
    simp only [sourceLen, sourceCells] at he
    cases hg : h.get b with
    | none => simp [hg] at he
    | some bl =>
      simp only [hg, Nat.mul_one] at he
      cases hr : bl.rd o l with
      | none => simp [hr] at he
      | some cs =>
        simp only [hr] at he
        have hFb : F b := hF b (by simp [blockOf])
        obtain ⟨us, q1, q2, q3, q4⟩ := rd_at hs hFb hb hg hr
        exact go (some ⟨cb, o, none⟩) l cap' cs hxe ⟨us, q1, (fun h => by cases h), fun ad h => by cases h; exact q4⟩ he
  | _ => simp [hv, sourceLen] at he
theorem conc_byteL : ∀ l : List Nat, concL R (l.map fun c : Nat => V.i .u8 (Int.ofNat c)) = some (l.map fun c : Nat => Value.int .u8 (c : Int))
  | [] => by simp [concL]
  | c :: m => concL_cons.2 ⟨_, _, by simp [conc], conc_byteL m, rfl⟩
theorem freeze_mark {w : World} {arr : Array Value} {e : TypeId} : (w.alloc (.cells arr e)).freeze ⟨w.heap.size, arr.size, none⟩ 1 = w.alloc (.cells arr e (arr.size, arr.size + 1)) := by
  unfold World.freeze World.alloc
  simp only [if_neg (by omega : ¬ (1 : Nat) = 0)]
  congr 1
  apply Array.ext_getElem?
  intro i
  rw [Array.getElem?_modify, Array.getElem?_push, Array.getElem?_push]
  by_cases hi : i = w.heap.size
  · subst hi; simp
  · simp [hi, Ne.symm hi]
theorem run_s2b {a : X} (hok : okA P op (.s2b a) = true) (hρ : EnvOk R t ρ) (hs : Sim P F R h.get w) (hfr : Fresh R h h') (he : evA call (.s2b a) t h = .ok v h') :
    OpRun P F R h w (execOp ρ ⟨dst, op, ty, pos, af, gd⟩) v h' := by
  cases op <;> try exact (Bool.false_ne_true hok).elim
  rename_i s d x
  have hok : (okX x a && (P.underlying s).isSome && (match P.underlying d with
    | some (.slice e) => (match P.underlying e with | some (.int .u8) => true | _ => false) && isSz P e 1
    | _ => false)) = true := hok
  simp only [Bool.and_eq_true] at hok
  obtain ⟨⟨hxa, hsrc⟩, hd⟩ := hok
  split at hd <;> try simp only [reduceCtorEq] at hd
  rename_i e hd1
  rw [Bool.and_eq_true] at hd
  obtain ⟨hd, hsz⟩ := hd
  split at hd <;> try simp only [reduceCtorEq] at hd
  rename_i he1
  obtain ⟨sd, hs1⟩ := Option.isSome_iff_exists.1 hsrc
  have hx := hρ x a hxa
  simp only [evA] at he
  split at he <;> simp only [RO.ok.injEq, reduceCtorEq] at he
  rename_i l hl
  obtain ⟨rfl, rfl⟩ := he
  rw [hl] at hx
  obtain ⟨hxe, hlt⟩ := conc_ss hx
  have hq : ∀ n, (Question.appendCap n 0 e).forced = false := fun _ => rfl
  obtain ⟨cap, hcap, hcut⟩ : ∃ cap, l.length ≤ cap ∧ (Question.appendCap l.length 0 e).cut (w.tape w.drawn (Question.appendCap l.length 0 e)) = cap := ⟨_, by simp [Question.cut], rfl⟩
  obtain ⟨arr, harr⟩ : ∃ arr : Array Value, arr = (byteArr l).data.map (fun b => Value.int .u8 (b.toNat : Int)) ++ Array.replicate (cap - l.length) (.int .u8 0) := ⟨_, rfl⟩
  have hlist : arr.toList = (l.map fun c : Nat => Value.int .u8 (c : Int)) ++ List.replicate (cap - l.length) (.int .u8 0) := by
    rw [harr]
    simp only [byteArr, Array.toList_append, Array.toList_map, List.map_map, Array.toList_replicate]
    congr 1
    apply List.map_congr_left
    intro c hc
    have := hlt c hc
    simp [Nat.mod_eq_of_lt this]
  have hsize : arr.size = cap := by
    have : arr.toList.length = arr.size := Array.length_toList
    rw [hlist] at this
    simp at this
    omega
  have hrun : (execOp ρ ⟨dst, .convert s d x, ty, pos, af, gd⟩).run P w = .ok (.value (.slice (some ⟨w.heap.size, 0, none⟩) l.length cap)) ((w.drew).alloc (.cells arr e (arr.size, arr.size + 1))) := by
    have hconv : (convert s d (.string (byteArr l))).run P w = (Conv.stringToBytes e (byteArr l)).run P w := by
      cases sd <;> simp [convert, run_underlying hs1, run_underlying hd1, run_underlying he1]
    have hconv2 : (Conv.stringToBytes e (byteArr l)).run P w = .ok (.slice (some ⟨w.heap.size, 0, none⟩) l.length cap) ((w.drew).alloc (.cells arr e (arr.size, arr.size + 1))) := by
      have h2 := freeze_mark (w := w.drew) (arr := arr) (e := e)
      have h3 : ((w.drew).alloc (.cells arr e)).shape? w.heap.size = some (e, arr.size) := by
        have : ((w.drew).alloc (.cells arr e)).heap[w.heap.size]? = some (.cells arr e) := heap_push_eq (w := w.drew)
        simp only [World.shape?, this]
      simp only [Conv.stringToBytes, Sem.run_bind, size_byteArr, run_choose, hq, Bool.false_eq_true, if_false, Result.andThen_ok, hcut, newRow, run_newObj, markStringish, run_shape, Sem.run_pure]
      rw [← harr]
      have h3' : World.shape? { heap := w.heap.push (Obj.cells arr e), tape := w.tape, drawn := w.drawn + 1, os := w.os, output := w.output } w.heap.size = some (e, arr.size) := h3
      rw [h3']
      simp only [run_freeze, Result.andThen_ok]
      exact congrArg _ h2
    simp only [execOp, Sem.run_bind, hxe, hconv, hconv2, Result.andThen_ok, Sem.run_pure]
  have hcb : concL R (l.map fun c : Nat => V.i .u8 (Int.ofNat c)) = some (l.map fun c : Nat => Value.int .u8 (c : Int)) := conc_byteL l
  have hfn := fresh_new hfr
  obtain ⟨hf, hs'⟩ := new_step (x := .cells (l.map fun c : Nat => V.i .u8 (Int.ofNat c))) (sz := cap) (o := .cells arr e (arr.size, arr.size + 1)) (Sim.drew hs) hfn
    (fun w' hw' => ⟨arr, Fr.mark cap e, _, _, by rw [hw', hsize]; rfl, concL_mono (Emb.le_add hfn) _ _ hcb, hlist, hsize⟩)
  refine ⟨_, _, _, hrun, .inl rfl, _, _, hf.undrew, hs', ?_⟩
  simp only [conc, Emb.add_self, Option.bind_some]
  rw [if_pos ⟨by omega, by omega⟩]
  simp
theorem freeze_heap {c : Nat} {arr : Array Value} {ty : TypeId} {e : Fr arr.size} (hc : w.heap[c]? = some (.cells arr ty e.fz)) :
    (w.freeze ⟨c, arr.size, none⟩ 1).heap[c]? = some (.cells arr ty (arr.size, arr.size + 1)) ∧ (∀ d, d ≠ c → (w.freeze ⟨c, arr.size, none⟩ 1).heap[d]? = w.heap[d]?) ∧ (w.freeze ⟨c, arr.size, none⟩ 1).heap.size = w.heap.size ∧ SameIO w (w.freeze ⟨c, arr.size, none⟩ 1) := by
  unfold World.freeze
  simp only [if_neg (by omega : ¬ (1 : Nat) = 0)]
  refine ⟨?_, ?_, by simp, rfl, rfl, rfl⟩
  · rw [Array.getElem?_modify, if_pos rfl, hc]
    rcases e.is with h | h <;> rw [h]
    · simp
    · simp
  · intro d hd
    rw [Array.getElem?_modify, if_neg (Ne.symm hd)]
theorem run_mark {a : X} (hok : okA P op (.mark a) = true) (hρ : EnvOk R t ρ) (hs : Sim P F R h.get w) (hF : FootOk F (reads (.mark a) t)) (he : evA call (.mark a) t h = .ok v h') :
    OpRun P F R h w (execOp ρ ⟨dst, op, ty, pos, af, gd⟩) v h' := by
  cases op <;> try exact (Bool.false_ne_true hok).elim
  rename_i s d x
  have hok : (okX x a && Nat.beq s d && (match P.underlying s with
    | some (.slice e) => (match P.underlying e with | some (.int .u8) => true | _ => false)
    | _ => false)) = true := hok
  simp only [Bool.and_eq_true, Nat.beq_eq] at hok
  obtain ⟨⟨hxa, rfl⟩, hd⟩ := hok
  split at hd <;> try simp only [reduceCtorEq] at hd
  rename_i e hs1
  split at hd <;> try simp only [reduceCtorEq] at hd
  rename_i he1
  have hx := hρ x a hxa
  have hF : FootOk F (some (blockOf (a.ev t))) := hF
  simp only [evA] at he
  split at he <;> try simp only [reduceCtorEq] at he
  rename_i b o l c g ha
  split at he <;> simp only [RO.ok.injEq, reduceCtorEq] at he
  rename_i cs hg
  obtain ⟨rfl, rfl⟩ := he
  rw [ha] at hx hF
  have hFb : F b := hF b (by simp [blockOf])
  obtain ⟨cb, sz, cap', hb, hxe, _⟩ := conc_sl hx
  obtain ⟨arr, fr, vs, rest, h1, h2, h3, h4⟩ := cells_at hs hFb hb hg
  subst h4
  obtain ⟨q1, q2, q3, q4⟩ := freeze_heap h1
  have hsh : w.shape? cb = some (fr.ty, arr.size) := by simp only [World.shape?, h1]
  have hrun : (execOp ρ ⟨dst, .convert s s x, ty, pos, af, gd⟩).run P w = .ok (.value (ρ x)) (w.freeze ⟨cb, arr.size, none⟩ 1) := by
    have hconv : (convert s s (ρ x)).run P w = .ok (ρ x) (w.freeze ⟨cb, arr.size, none⟩ 1) := by
      rw [hxe]
      simp only [convert, Sem.run_bind, run_underlying hs1, Result.andThen_ok, beq_self_eq_true, run_underlying he1, markStringish, run_shape, hsh, run_freeze, Sem.run_pure]
    simp only [execOp, Sem.run_bind, hconv, Result.andThen_ok, Sem.run_pure]
  obtain ⟨f, s'⟩ := put_step (x := .cells cs) hs hFb hb hg q4 q3 q2 ⟨arr, Fr.mark arr.size fr.ty, vs, rest, q1, h2, h3, rfl⟩
  exact ⟨_, ρ x, _, hrun, .inl rfl, R, _, f, s', hx⟩
end
end Go.Air
namespace Go.Air
section
variable {P : Program} {F : Nat → Prop} {R : Emb} {h h' : H} {w : World} {t : List V} {ρ : Operand → Value} {v : V}
  {dst : Option Tmp} {op : Op} {ty : TypeId} {pos : String} {af : Array Edge} {gd : Option (Nat × Bool)} {call : V → List V → H → RO}
theorem check_scalar {n : Nat} {em : Bool} {t : TypeId} {u : Value} (hs : scalarT P t = true) : (Instr.checkKey em (n + 1) t u).run P w = .ok () w := by
  unfold scalarT at hs
  split at hs <;> try simp at hs
  all_goals (rename_i hu; simp [Instr.checkKey, run_underlying hu])
theorem flatF_parts : ∀ {d off : Nat} {fs : List Field} {ks : List KT}, flatF P d off fs = some ks → ∀ f ∈ fs, ∃ l, isSz P f.type l ∧ f.offset + l ≤ off + ks.length ∧ (aggT P f.type = true ∨ plainT P f.type = true ∧ l = 1)
  | 0, _, _, _, hh => by simp [flatF] at hh
  | d + 1, off, [], ks, hh => by simp
  | d + 1, off, g :: fs, ks, hh => by
    simp only [flatF] at hh
    split at hh <;> try simp at hh
    split at hh <;> try simp at hh
    rename_i l hl
    obtain ⟨⟨ho, hsz⟩, ks', hks, rfl⟩ := hh
    intro f hf
    rcases List.mem_cons.1 hf with rfl | hf
    · exact ⟨l.length, hsz, by simp; omega, flatT_kind hl⟩
    · obtain ⟨m, h1, h2, h3⟩ := flatF_parts hks f hf
      exact ⟨m, h1, by simp; omega, h3⟩
theorem check_fields {n : Nat} {em : Bool} {vx : List Value} : ∀ (fs : List Field), (∀ f ∈ fs, scalarT P f.type = true) → (∀ f ∈ fs, ∃ l, isSz P f.type l ∧ f.offset + l ≤ vx.length ∧ (aggT P f.type = true ∨ plainT P f.type = true ∧ l = 1)) →
    (forIn fs () fun f _ => (do
      if f.name ≠ "_" then Instr.checkKey em (n + 1) f.type (← part f.type vx.toArray f.offset)
      pure (ForInStep.yield ()) : Sem (ForInStep Unit))).run P w = .ok () w
  | [], _, _ => by simp
  | f :: fs, hs, hp => by
    have ih := check_fields (n := n) (em := em) (vx := vx) fs (fun g hg => hs g (by simp [hg])) (fun g hg => hp g (by simp [hg]))
    obtain ⟨l, h1, h2, h3⟩ := hp f (by simp)
    have hpart : ∃ u, (part f.type vx.toArray f.offset).run P w = .ok u w := by
      rcases h3 with h3 | ⟨h3, rfl⟩
      · exact ⟨_, run_part_aggT h3 h1⟩
      · have : f.offset < vx.length := by omega
        exact ⟨_, run_part_plainT (cs := vx.toArray) (x := vx[f.offset]) h3 (by simp [this])⟩
    obtain ⟨u, hu⟩ := hpart
    rw [List.forIn_cons]
    by_cases hn : f.name = "_"
    · simp only [ne_eq, hn, not_true_eq_false, if_false, Sem.run_bind, Sem.run_pure, Result.andThen_ok]
      simpa using ih
    · simp only [ne_eq, hn, not_false_eq_true, if_true, Sem.run_bind, hu, Result.andThen_ok, check_scalar (hs f (by simp)), Sem.run_pure]
      simpa using ih
theorem check_struct {n : Nat} {em : Bool} {t : TypeId} {fs : Array Field} {vx : List Value} (hu : P.underlying t = some (.struct fs)) (h1 : ∀ f ∈ fs.toList, scalarT P f.type = true) (h2 : ∀ f ∈ fs.toList, ∃ l, isSz P f.type l ∧ f.offset + l ≤ vx.length ∧ (aggT P f.type = true ∨ plainT P f.type = true ∧ l = 1)) :
    (Instr.checkKey em (n + 1 + 1) t (.agg vx.toArray)).run P w = .ok () w := by
  have := check_fields (P := P) (w := w) (n := n) (em := em) (vx := vx) fs.toList h1 h2
  unfold Instr.checkKey
  simp only [Sem.run_bind, run_underlying hu, Result.andThen_ok]
  rw [← Array.forIn_toList]
  exact Eq.trans (congrArg (fun r : Result PUnit => r.andThen fun _ w' => (pure () : Sem Unit).run P w') this) rfl
theorem flatT_struct_gen {d : Nat} {t : TypeId} {fs : Array Field} {l : List KT} (hu : P.underlying t = some (.struct fs)) (hl : flatT P (d + 1) t = some l) : flatF P d 0 fs.toList = some l := by
  unfold flatT at hl
  rw [hu] at hl
  have hl : (if P.stoodInHeld t then none else flatF P d 0 fs.toList) = some l := hl
  split at hl <;> try simp at hl
  exact hl
theorem flatT_struct {t : TypeId} {fs : Array Field} {l : List KT} (hu : P.underlying t = some (.struct fs)) (hl : flatT P 40 t = some l) : flatF P 39 0 fs.toList = some l := flatT_struct_gen (d := 39) hu hl
theorem check_key {kt : TypeId} {kk : KK} {k : V} {u : Value} {em : Bool} (hk : okKK P kt kk = true) (hf : kk.fits k = true) (hc : conc R k = some u) : (Instr.checkKey em 10000 kt u).run P w = .ok () w := by
  cases kk with
  | sc q =>
    have hk : (match P.underlying kt with | some d => ktD q d | none => false) = true := hk
    split at hk <;> try simp at hk
    rename_i d hu
    refine check_scalar (n := 9999) ?_
    unfold scalarT
    rw [hu]
    cases d <;> cases q <;> simp [ktD] at hk <;> rfl
  | ag ks =>
    have hk : ((match P.underlying kt with
      | some (.struct fs) => fs.toList.all fun f => scalarT P f.type
      | _ => false) && (match flatT P 40 kt with | some l => sameKs l ks | none => false)) = true := hk
    rw [Bool.and_eq_true] at hk
    obtain ⟨h1, h2⟩ := hk
    split at h1 <;> try simp at h1
    rename_i fs hu
    split at h2 <;> try simp at h2
    rename_i l hl
    obtain rfl := sameKs_eq h2
    cases k <;> simp only [KK.fits, Bool.false_eq_true] at hf
    rename_i c
    obtain ⟨vx, hvx, rfl⟩ := conc_agg hc
    have hlen : vx.length = l.length := (concL_length hvx).trans (fitL_length hf)
    have hfl : flatF P 39 0 fs.toList = some l := flatT_struct hu hl
    have hp := flatF_parts hfl
    refine check_struct (n := 9998) hu (fun f hf => by
      obtain ⟨i, hi, e⟩ := List.getElem_of_mem hf
      have := h1 i (by simpa using hi)
      simpa [← e] using this) (fun f hf => by
      obtain ⟨m, q1, q2, q3⟩ := hp f hf
      exact ⟨m, q1, by omega, q3⟩)
def fi (kk : KK) (k : V) : List (V × V) → Nat → Option (Option (Nat × V))
  | [], _ => some none
  | e :: es, i => if kk.fits e.1 then (if keyEq k e.1 then some (some (i, e.2)) else fi kk k es (i + 1)) else none
theorem find_fi (kk : KK) (k : V) : ∀ (es : List (V × V)) (i : Nat), find kk k es = (fi kk k es i).map (·.map (·.2))
  | [], i => by simp [find, fi]
  | e :: es, i => by
    simp only [find, fi]
    split
    · split
      · simp
      · exact find_fi kk k es (i + 1)
    · simp
theorem mput_fi (kk : KK) (k v : V) : ∀ (es : List (V × V)) (i : Nat) (es' : List (V × V)), mput kk k v es = some es' →
    (fi kk k es i = some none ∧ es' = es ++ [(k, v)]) ∨ (∃ j old, fi kk k es i = some (some (i + j, old)) ∧ j < es.length ∧ ∃ e, es[j]? = some e ∧ keyEq k e.1 = true ∧ kk.fits e.1 = true ∧ es' = es.set j (e.1, v))
  | [], i, es', hm => by
    simp [mput] at hm
    subst hm
    exact .inl ⟨rfl, rfl⟩
  | e :: es, i, es', hm => by
    simp only [mput] at hm
    split at hm <;> try simp at hm
    rename_i hf
    split at hm
    · rename_i hk
      simp at hm
      subst hm
      exact .inr ⟨0, e.2, by simp [fi, hf, hk], by simp, e, by simp, hk, hf, by simp⟩
    · rename_i hk
      simp at hm
      obtain ⟨es1, h1, rfl⟩ := hm
      rcases mput_fi kk k v es (i + 1) es1 h1 with ⟨q1, rfl⟩ | ⟨j, old, q1, q2, e', q3, q4, q5, rfl⟩
      · exact .inl ⟨by simp [fi, hf, hk, q1], by simp⟩
      · exact .inr ⟨j + 1, old, by simp [fi, hf, hk, q1]; omega, by simp; omega, e', by simpa using q3, q4, q5, by simp⟩
theorem scalarEq_conc {k : KT} {x y : V} (hx : k.fits x = true) (hy : k.fits y = true) (he : scalarEq x y = true) : x = y := by
  unfold KT.fits at hx hy
  split at hx <;> try simp at hx
  · split at hy <;> try simp at hy
    · simp [scalarEq] at he; rw [he]
    · rename_i e; cases e
    · rename_i e; cases e
  · split at hy <;> try simp at hy
    · rename_i e; cases e
    · rename_i e
      simp only [KT.i.injEq] at e
      subst e hx hy
      simp [scalarEq] at he; rw [he]
    · rename_i e; cases e
  · split at hy <;> try simp at hy
    · rename_i e; cases e
    · rename_i e; cases e
    · simp only [scalarEq] at he
      rw [(bytesEq_iff _ _).1 he]
theorem cellsEq_conc : ∀ {ks : List KT} {xs ys : List V}, fitL ks xs = true → fitL ks ys = true → cellsEq xs ys = true → xs = ys
  | [], [], [], _, _, _ => rfl
  | [], _ :: _, _, hx, _, _ => by simp [fitL] at hx
  | [], [], _ :: _, _, hy, _ => by simp [fitL] at hy
  | _ :: _, [], _, hx, _, _ => by simp [fitL] at hx
  | _ :: _, _ :: _, [], _, hy, _ => by simp [fitL] at hy
  | k :: ks, x :: xs, y :: ys, hx, hy, he => by
    simp only [fitL, Bool.and_eq_true] at hx hy
    simp only [cellsEq, Bool.and_eq_true] at he
    rw [scalarEq_conc hx.1 hy.1 he.1, cellsEq_conc hx.2 hy.2 he.2]
theorem keyEq_conc {kk : KK} {x y : V} (hx : kk.fits x = true) (hy : kk.fits y = true) (he : keyEq x y = true) : x = y := by
  cases kk with
  | sc k =>
    simp only [KK.fits] at hx hy
    have : keyEq x y = scalarEq x y := by
      cases x <;> cases y <;> first | rfl | (simp [KT.fits] at hx; done)
    rw [this] at he
    exact scalarEq_conc hx hy he
  | ag ks =>
    cases x <;> simp only [KK.fits, Bool.false_eq_true] at hx
    cases y <;> simp only [KK.fits, Bool.false_eq_true] at hy
    rw [cellsEq_conc hx hy he]
def EntRel (R : Emb) : List (V × V) → List MapEntry → Prop
  | [], [] => True
  | e :: es, m :: ms => conc R e.1 = some m.key ∧ conc R e.2 = some m.val ∧ EntRel R es ms
  | _, _ => False
theorem entRel_of : ∀ {es : List (V × V)} {ms : List MapEntry}, concM R es = some (ms.map fun e => (e.key, e.val)) → EntRel R es ms
  | [], [], _ => trivial
  | [], m :: ms, hh => by simp [concM] at hh
  | (a, b) :: es, ms, hh => by
    obtain ⟨x, y, w, h1, h2, h3, h4⟩ := concM_cons.1 hh
    cases ms with
    | nil => simp at h4
    | cons m ms =>
      simp only [List.map_cons, List.cons.injEq, Prod.mk.injEq] at h4
      obtain ⟨⟨rfl, rfl⟩, rfl⟩ := h4
      exact ⟨h1, h2, entRel_of h3⟩
theorem of_entRel : ∀ {es : List (V × V)} {ms : List MapEntry}, EntRel R es ms → concM R es = some (ms.map fun e => (e.key, e.val))
  | [], [], _ => by simp [concM]
  | [], m :: ms, hh => hh.elim
  | _ :: _, [], hh => hh.elim
  | (a, b) :: es, m :: ms, ⟨h1, h2, h3⟩ => concM_cons.2 ⟨_, _, _, h1, h2, of_entRel h3, rfl⟩
def FoundRel (R : Emb) : Option (Nat × V) → Option (Nat × Value) → Prop
  | none, none => True
  | some (i, v), some (j, x) => i = j ∧ conc R v = some x
  | _, _ => False
theorem findNow_run {q : KT} {d : TypeDesc} {k : V} {u : Value} (hd : ktD q d = true) (hf : q.fits k = true) (hc : conc R k = some u) : ∀ (es : List (V × V)) (ms : List MapEntry) (i : Nat) (r : Option (Nat × V)),
    EntRel R es ms → fi (.sc q) k es i = some r → ∃ o, Instr.findNow d u ms i = some o ∧ FoundRel R r o
  | [], [], i, r, _, hr => by
    simp [fi] at hr
    subst hr
    exact ⟨none, by simp [Instr.findNow], trivial⟩
  | [], _ :: _, _, _, hh, _ => hh.elim
  | _ :: _, [], _, _, hh, _ => hh.elim
  | e :: es, m :: ms, i, r, ⟨h1, h2, h3⟩, hr => by
    simp only [fi] at hr
    split at hr <;> try simp at hr
    rename_i hfe
    simp only [KK.fits] at hfe
    have hsame : Instr.sameNow d u m.key = some (keyEq k e.1) := by
      rcases fits_conc hf hc with ⟨b, rfl, rfl, rfl⟩ | ⟨kd, n, rfl, rfl, rfl⟩ | ⟨l, rfl, rfl, rfl, hl⟩
      · rcases fits_conc hfe h1 with ⟨b', _, hv, hu⟩ | ⟨_, _, e1, _⟩ | ⟨_, e1, _⟩ <;> try cases e1
        cases d <;> simp [ktD] at hd
        rw [hu, hv]
        rfl
      · rcases fits_conc hfe h1 with ⟨_, e1, _⟩ | ⟨kd', n', e1, hv, hu⟩ | ⟨_, e1, _⟩ <;> try cases e1
        cases d <;> simp [ktD] at hd
        rw [hu, hv]
        simp only [Instr.sameNow, keyEq, scalarEq]
        first | rfl | (congr 1; done) | (rw [Bool.eq_iff_iff]; simp)
      · rcases fits_conc hfe h1 with ⟨_, e1, _⟩ | ⟨_, _, e1, _⟩ | ⟨l', e1, hv, hu, hl'⟩ <;> try cases e1
        cases d <;> simp [ktD] at hd
        rw [hu, hv]
        simp only [Instr.sameNow, keyEq, scalarEq]
        rw [beq_toListBytes, toList_byteArr, toList_byteArr, bytesEq_map _ _ hl hl']
    simp only [Instr.findNow, hsame]
    split at hr
    · rename_i hk
      simp at hr
      subst hr
      rw [hk]
      exact ⟨_, rfl, rfl, h2⟩
    · rename_i hk
      have hk' : keyEq k e.1 = false := by simpa using hk
      rw [hk']
      exact findNow_run hd hf hc es ms (i + 1) r h3 hr
theorem findAsking_run {kt : TypeId} {ks : List KT} {c : List V} {vc : List Value} (hag : aggT P kt = true) (hfl : flatT P 40 kt = some ks) (hf : fitL ks c = true) (hc : concL R c = some vc) :
    ∀ (es : List (V × V)) (ms : List MapEntry) (i : Nat) (r : Option (Nat × V)), EntRel R es ms → fi (.ag ks) (.agg c) es i = some r → ∃ o, (Instr.findAsking kt (.agg vc.toArray) ms i).run P w = .ok o w ∧ FoundRel R r o
  | [], [], i, r, _, hr => by
    simp [fi] at hr
    subst hr
    exact ⟨none, by simp [Instr.findAsking], trivial⟩
  | [], _ :: _, _, _, hh, _ => hh.elim
  | _ :: _, [], _, _, hh, _ => hh.elim
  | e :: es, m :: ms, i, r, ⟨h1, h2, h3⟩, hr => by
    simp only [fi] at hr
    split at hr <;> try simp at hr
    rename_i hfe
    obtain ⟨ke, ve⟩ := e
    cases ke <;> simp only [KK.fits, Bool.false_eq_true] at hfe
    rename_i c'
    obtain ⟨vc', hc', hm⟩ := conc_agg h1
    have he := run_equal_agg hag hfl hf hfe hc hc' w
    simp only [Instr.findAsking, Sem.run_bind, hm, he, Result.andThen_ok]
    simp only [keyEq] at hr
    cases hk : cellsEq c c' with
    | true =>
      simp only [hk, if_true, Option.some.injEq] at hr
      subst hr
      simp only [if_true]
      exact ⟨some (i, m.val), rfl, rfl, h2⟩
    | false =>
      simp only [hk, Bool.false_eq_true, if_false] at hr
      simp only [Bool.false_eq_true, if_false]
      exact findAsking_run hag hfl hf hc es ms (i + 1) r h3 hr
theorem findKey_run {kt : TypeId} {kk : KK} {k : V} {u : Value} {es : List (V × V)} {ms : List MapEntry} {r : Option (Nat × V)} (hk : okKK P kt kk = true) (hf : kk.fits k = true) (hc : conc R k = some u)
    (he : EntRel R es ms) (hr : fi kk k es 0 = some r) : ∃ o, (Instr.findKey kt u ms).run P w = .ok o w ∧ FoundRel R r o := by
  cases kk with
  | sc q =>
    have hk : (match P.underlying kt with | some d => ktD q d | none => false) = true := hk
    split at hk <;> try simp at hk
    rename_i d hu
    obtain ⟨o, h1, h2⟩ := findNow_run hk hf hc es ms 0 r he hr
    exact ⟨o, by simp [Instr.findKey, run_underlying hu, h1], h2⟩
  | ag ks =>
    have hk : ((match P.underlying kt with
      | some (.struct fs) => fs.toList.all fun f => scalarT P f.type
      | _ => false) && (match flatT P 40 kt with | some l => sameKs l ks | none => false)) = true := hk
    rw [Bool.and_eq_true] at hk
    obtain ⟨h1, h2⟩ := hk
    split at h1 <;> try simp at h1
    rename_i fs hu
    split at h2 <;> try simp at h2
    rename_i l hl
    obtain rfl := sameKs_eq h2
    cases k <;> simp only [KK.fits, Bool.false_eq_true] at hf
    rename_i c
    obtain ⟨vx, hvx, rfl⟩ := conc_agg hc
    have hag : aggT P kt = true := by simp [aggT, hu, isAggD]
    obtain ⟨o, q1, q2⟩ := findAsking_run (P := P) (w := w) hag hl hf hvx es ms 0 r he hr
    refine ⟨o, ?_, q2⟩
    simp only [Instr.findKey, Sem.run_bind, run_underlying hu, Result.andThen_ok]
    cases ms with
    | nil =>
      cases es with
      | cons _ _ => exact he.elim
      | nil =>
        simp [fi] at hr
        subst hr
        cases o with
        | none => simp [Instr.findNow]
        | some _ => exact q2.elim
    | cons m ms =>
      have : Instr.findNow (.struct fs) (.agg vx.toArray) (m :: ms) 0 = none := by simp [Instr.findNow, Instr.sameNow]
      rw [this]
      exact q1
theorem map_at {b c sz : Nat} {es : List (V × V)} (hs : Sim P F R h.get w) (hF : F b) (hb : R b = some (c, sz)) (hg : h.get b = some (.map es)) :
    ∃ arr ck, w.heap[c]? = some (.map arr ck) ∧ EntRel R es arr.toList := by
  obtain ⟨arr, ck, h1, h2⟩ := hs.blk b c sz _ hF hb hg
  exact ⟨arr, ck, h1, entRel_of h2⟩
theorem run_getMap {c ck : Nat} {arr : Array MapEntry} (h1 : w.heap[c]? = some (.map arr ck)) : (getObj c).run P w = .ok (.map arr ck) w := by
  simp [getObj, Sem.run, h1]
theorem run_look {kk : KK} {z : V} {cok : Bool} {a b : X} (hok : okA P op (.look kk z cok a b) = true) (hρ : EnvOk R t ρ) (hs : Sim P F R h.get w) (hF : FootOk F (reads (.look kk z cok a b) t))
    (he : evA call (.look kk z cok a b) t h = .ok v h') : OpRun P F R h w (execOp ρ ⟨dst, op, ty, pos, af, gd⟩) v h' := by
  cases op <;> try exact (Bool.false_ne_true hok).elim
  rename_i mt x k cok'
  have hok : (okX x a && okX k b && (cok' == cok) && (match P.underlying mt with
    | some (.map kt et) => okKK P kt kk && (match zeroT P et with
      | some v => sameV z v
      | none => false)
    | _ => false)) = true := hok
  simp only [Bool.and_eq_true, beq_iff_eq] at hok
  obtain ⟨⟨⟨hxa, hkb⟩, rfl⟩, hu⟩ := hok
  split at hu <;> try simp at hu
  rename_i kt et hue
  obtain ⟨hkk, hz⟩ := hu
  split at hz <;> try simp at hz
  rename_i zv hzv
  have hzc := conc_of_same R z zv hz
  have hx := hρ x a hxa
  have hk := hρ k b hkb
  simp only [evA] at he
  split at he <;> try simp at he
  rename_i hfit
  have fin : ∀ (es : List (V × V)) (arr : Array MapEntry) (r : Option V), find kk (b.ev t) es = some r → EntRel R es arr.toList →
      (ρ x = .map none ∧ arr = #[] ∨ ∃ c ck, ρ x = .map (some c) ∧ w.heap[c]? = some (.map arr ck)) →
      OpRun P F R h w (execOp ρ ⟨dst, .lookup mt x k cok', ty, pos, af, gd⟩) (if cok' then .tup [r.getD z, .b r.isSome] else r.getD z) h := by
    intro es arr r hfd her hrun
    rw [find_fi kk _ es 0] at hfd
    cases hq : fi kk (b.ev t) es 0 with
    | none => simp [hq] at hfd
    | some q =>
      simp [hq] at hfd
      obtain ⟨o, q1, q2⟩ := findKey_run (P := P) (w := w) hkk hfit hk her hq
      have hck := check_key (P := P) (w := w) (em := arr.isEmpty) hkk hfit hk
      cases q with
      | none =>
        simp at hfd
        subst hfd
        cases o with
        | some _ => exact q2.elim
        | none =>
          refine .plain (x := if cok' then .tuple #[zv, .bool false] else zv) hs ?_ ?_
          · rcases hrun with ⟨hxe, rfl⟩ | ⟨c, ck, hxe, hob⟩
            · have hck' : (Instr.checkKey true 10000 kt (ρ k)).run P w = .ok () w := hck
              have q1' : (Instr.findKey kt (ρ k) []).run P w = .ok none w := q1
              cases cok' <;> simp [execOp, Instr.lookup, run_underlying hue, hxe, hck', q1', run_zero w hzv]
            · cases cok' <;> simp [execOp, Instr.lookup, run_underlying hue, hxe, run_getMap (P := P) hob, hck, q1, run_zero w hzv]
          · cases cok' <;> simp [conc, concL, hzc]
      | some q =>
        obtain ⟨i, vv⟩ := q
        simp at hfd
        subst hfd
        cases o with
        | none => exact q2.elim
        | some o =>
          obtain ⟨j, xx⟩ := o
          obtain ⟨rfl, hcv⟩ := q2
          refine .plain (x := if cok' then .tuple #[xx, .bool true] else xx) hs ?_ ?_
          · rcases hrun with ⟨hxe, rfl⟩ | ⟨c, ck, hxe, hob⟩
            · have hck' : (Instr.checkKey true 10000 kt (ρ k)).run P w = .ok () w := hck
              have q1' : (Instr.findKey kt (ρ k) []).run P w = .ok (some (i, xx)) w := q1
              cases cok' <;> simp [execOp, Instr.lookup, run_underlying hue, hxe, hck', q1']
            · cases cok' <;> simp [execOp, Instr.lookup, run_underlying hue, hxe, run_getMap (P := P) hob, hck, q1]
          · cases cok' <;> simp [conc, concL, hcv]
  cases ha : a.ev t with
  | mn =>
    simp only [ha] at he
    simp at he
    obtain ⟨rfl, rfl⟩ := he
    rw [ha] at hx
    obtain hxe := conc_mn hx
    exact fin [] #[] none (by simp [find]) trivial (.inl ⟨hxe, rfl⟩)
  | m blk =>
    simp only [ha] at he
    cases hg : h.get blk with
    | none => simp [hg] at he
    | some bl =>
      cases bl with
      | map es =>
        simp only [hg] at he
        cases hfd : find kk (b.ev t) es with
        | none => simp [hfd] at he
        | some r =>
          simp only [hfd, RO.ok.injEq] at he
          obtain ⟨rfl, rfl⟩ := he
          rw [ha] at hx
          obtain ⟨c, sz, hR, hxe⟩ := conc_m hx
          obtain ⟨arr, ck, h1, h2⟩ := map_at hs (hF blk (by simp [ha, blockOf])) hR hg
          exact fin es arr r hfd h2 (.inr ⟨c, ck, hxe, h1⟩)
      | _ => simp [hg] at he
  | _ => simp [ha] at he
theorem sameBits_scalar {k : KT} {x : V} {u : Value} (hf : k.fits x = true) (hc : conc R x = some u) (n : Nat) : Instr.sameBits n u u = true := by
  rcases fits_conc hf hc with ⟨b, rfl, rfl, rfl⟩ | ⟨kd, m, rfl, rfl, rfl⟩ | ⟨l, rfl, rfl, rfl, hl⟩
  · cases n <;> simp [Instr.sameBits]
  · cases n <;> simp [Instr.sameBits]
  · cases n <;> simp [Instr.sameBits, beq_toListBytes]
theorem sameBits_all {n : Nat} : ∀ {ks : List KT} {xs : List V} {us : List Value}, fitL ks xs = true → concL R xs = some us → ((us.zip us).all fun (x, y) => Instr.sameBits n x y) = true
  | [], [], us, _, hc => by simp [concL] at hc; subst hc; rfl
  | [], _ :: _, _, hf, _ => by simp [fitL] at hf
  | _ :: _, [], _, hf, _ => by simp [fitL] at hf
  | k :: ks, x :: xs, us, hf, hc => by
    obtain ⟨u, us', h1, h2, rfl⟩ := concL_cons.1 hc
    simp only [fitL, Bool.and_eq_true] at hf
    simp only [List.zip_cons_cons, List.all_cons, sameBits_scalar hf.1 h1, Bool.true_and]
    exact sameBits_all hf.2 h2
theorem sameBits_key {kk : KK} {k : V} {u : Value} (hf : kk.fits k = true) (hc : conc R k = some u) : Instr.sameBits 10000 u u = true := by
  cases kk with
  | sc q => exact sameBits_scalar hf hc 10000
  | ag ks =>
    cases k <;> simp only [KK.fits, Bool.false_eq_true] at hf
    obtain ⟨vx, hvx, rfl⟩ := conc_agg hc
    have := sameBits_all (n := 9999) hf hvx
    show Instr.sameBits (9999 + 1) (.agg vx.toArray) (.agg vx.toArray) = true
    simp only [Instr.sameBits, Bool.and_eq_true, beq_self_eq_true, true_and]
    exact this
theorem EntRel.append : ∀ {es : List (V × V)} {ms : List MapEntry} {e : V × V} {m : MapEntry}, EntRel R es ms → conc R e.1 = some m.key → conc R e.2 = some m.val → EntRel R (es ++ [e]) (ms ++ [m])
  | [], [], _, _, _, h1, h2 => ⟨h1, h2, trivial⟩
  | [], _ :: _, _, _, hh, _, _ => hh.elim
  | _ :: _, [], _, _, hh, _, _ => hh.elim
  | _ :: es, _ :: ms, _, _, ⟨a, b, c⟩, h1, h2 => ⟨a, b, EntRel.append c h1 h2⟩
theorem EntRel.set : ∀ {es : List (V × V)} {ms : List MapEntry} {e : V × V} {m : MapEntry} (j : Nat), EntRel R es ms → conc R e.1 = some m.key → conc R e.2 = some m.val → EntRel R (es.set j e) (ms.set j m)
  | [], [], _, _, _, _, _, _ => by simp [EntRel]
  | [], _ :: _, _, _, _, hh, _, _ => hh.elim
  | _ :: _, [], _, _, _, hh, _, _ => hh.elim
  | _ :: es, _ :: ms, _, _, 0, ⟨a, b, c⟩, h1, h2 => ⟨h1, h2, c⟩
  | _ :: es, _ :: ms, _, _, j + 1, ⟨a, b, c⟩, h1, h2 => ⟨a, b, EntRel.set j c h1 h2⟩
theorem EntRel.get : ∀ {es : List (V × V)} {ms : List MapEntry} {j : Nat} {e : V × V}, EntRel R es ms → es[j]? = some e → ∃ m, ms[j]? = some m ∧ conc R e.1 = some m.key ∧ conc R e.2 = some m.val
  | [], [], j, e, _, he => by simp at he
  | [], _ :: _, _, _, hh, _ => hh.elim
  | _ :: _, [], _, _, hh, _ => hh.elim
  | _ :: es, m :: ms, 0, e, ⟨a, b, c⟩, he => by
    simp at he; subst he
    exact ⟨m, rfl, a, b⟩
  | _ :: es, _ :: ms, j + 1, e, ⟨a, b, c⟩, he => by
    obtain ⟨m, h1, h2⟩ := EntRel.get c (by simpa using he)
    exact ⟨m, by simpa using h1, h2⟩
theorem setObj_step {b c sz : Nat} {x y : Blk} {o o' : Obj} (hs : Sim P F R h.get w) (hF : F b) (hb : R b = some (c, sz)) (hg : h.get b = some y) (ho : w.heap[c]? = some o) (hnc : ∀ a e f, o ≠ .cells a e f)
    (hx : ∀ w' : World, w'.heap[c]? = some o' → BlkRel P R w' c sz x) :
    ∃ w', (setObj c o').run P w = .ok () w' ∧ Fwd R R h (h.put b x) w w' [b] ∧ Sim P F R (h.put b x).get w' := by
  have hlt := hs.lt b c sz hb
  refine ⟨{ w with heap := w.heap.setIfInBounds c o' }, ?_, ?_⟩
  · cases o with
    | cells a e f => exact absurd rfl (hnc a e f)
    | _ => simp [setObj, Sem.run, ho]
  · refine put_step hs hF hb hg ⟨rfl, rfl, rfl⟩ (by simp) (fun d hd => ?_) (hx _ (by simp [hlt]))
    simp [Array.getElem?_setIfInBounds, Ne.symm hd]
theorem run_mapSet0 {kk : KK} {a b e : X} (hop : ∃ mt x k y, op = .mapUpdate mt x k y) (hok : okA P op (.mapSet kk a b e) = true) (hρ : EnvOk R t ρ) (hs : Sim P F R h.get w) (hF : FootOk F (reads (.mapSet kk a b e) t))
    (he : evA call (.mapSet kk a b e) t h = .ok v h') : OpRun P F R h w (execOp ρ ⟨dst, op, ty, pos, af, gd⟩) v h' := by
  obtain ⟨mt, x, k, y, rfl⟩ := hop
  have hok : (okX x a && okX k b && okX y e && (match P.underlying mt with
    | some (.map kt _) => okKK P kt kk
    | _ => false)) = true := hok
  simp only [Bool.and_eq_true] at hok
  obtain ⟨⟨⟨hxa, hkb⟩, hye⟩, hu⟩ := hok
  split at hu <;> try simp at hu
  rename_i kt et hue
  have hx := hρ x a hxa
  have hk := hρ k b hkb
  have hy := hρ y e hye
  simp only [evA] at he
  cases ha : a.ev t with
  | m blk =>
    simp only [ha] at he
    cases hg : h.get blk with
    | none => simp [hg] at he
    | some bl =>
      cases bl with
      | map es =>
        simp only [hg] at he
        split at he <;> try simp at he
        rename_i hfit
        cases hm : mput kk (b.ev t) (e.ev t) es with
        | none => simp [hm] at he
        | some es' =>
          simp only [hm, RO.ok.injEq] at he
          obtain ⟨rfl, rfl⟩ := he
          rw [ha] at hx
          obtain ⟨c, sz, hR, hxe⟩ := conc_m hx
          have hFb := hF blk (by simp [ha, blockOf])
          obtain ⟨arr, ck, h1, h2⟩ := map_at hs hFb hR hg
          have hck := check_key (P := P) (w := w) (em := false) hu hfit hk
          rcases mput_fi kk _ _ es 0 es' hm with ⟨q1, rfl⟩ | ⟨j, old, q1, q2, e0, q3, q4, q5, rfl⟩
          · obtain ⟨o, r1, r2⟩ := findKey_run (P := P) (w := w) hu hfit hk h2 q1
            cases o with
            | some _ => exact r2.elim
            | none =>
              obtain ⟨w', s1, s2, s3⟩ := setObj_step (P := P) (x := .map (es ++ [(b.ev t, e.ev t)])) (o' := .map (arr.push { key := ρ k, val := ρ y, born := ck }) (ck + 1)) hs hFb hR hg h1 (by intro _ _ _ e; cases e)
                (fun w' hw' => ⟨_, _, hw', of_entRel (by simpa using h2.append (e := (b.ev t, e.ev t)) (m := { key := ρ k, val := ρ y, born := ck }) hk hy)⟩)
              refine ⟨.skip, undef, w', ?_, .inr ⟨rfl, rfl⟩, _, _, s2, s3, conc_undef R⟩
              simp only [execOp, Instr.mapUpdate, Sem.run_bind, run_underlying hue, Result.andThen_ok, hxe, run_getMap (P := P) h1, hck, r1, s1, Sem.run_pure]
          · obtain ⟨o, r1, r2⟩ := findKey_run (P := P) (w := w) hu hfit hk h2 q1
            cases o with
            | none => exact r2.elim
            | some o =>
              obtain ⟨i, xx⟩ := o
              obtain ⟨hij, hcv⟩ := r2
              rw [Nat.zero_add] at hij
              subst hij
              have hkeq : b.ev t = e0.1 := keyEq_conc hfit q5 q4
              obtain ⟨m0, m1, m2, m3⟩ := h2.get q3
              have hkey : m0.key = ρ k := by rw [← hkeq, hk] at m2; exact (Option.some.inj m2).symm
              have hjlt : j < arr.size := by
                have := (List.getElem?_eq_some_iff.1 m1).1
                simpa using this
              have hm0 : arr[j]? = some m0 := by simpa using m1
              have hentries : EntRel R (es.set j (e0.1, e.ev t)) (arr.modify j fun q => { q with key := ρ k, val := ρ y }).toList := by
                have : (arr.modify j fun q => { q with key := ρ k, val := ρ y }).toList = arr.toList.set j { m0 with key := ρ k, val := ρ y } := by
                  apply List.ext_getElem?
                  intro i
                  rw [Array.getElem?_toList, Array.getElem?_modify, List.getElem?_set]
                  by_cases hij : j = i
                  · subst hij
                    have hb : arr[j].born = m0.born := by rw [(Array.getElem?_eq_some_iff.1 hm0).2]
                    simp [hm0, hjlt, hb]
                  · simp [hij]
                rw [this]
                exact h2.set (e := (e0.1, e.ev t)) (m := { m0 with key := ρ k, val := ρ y }) j (by rw [← hkeq]; exact hk) hy
              obtain ⟨w', s1, s2, s3⟩ := setObj_step (P := P) (x := .map (es.set j (e0.1, e.ev t))) (o' := .map (arr.modify j fun q => { q with key := ρ k, val := ρ y }) ck) hs hFb hR hg h1 (by intro _ _ _ e; cases e)
                (fun w' hw' => ⟨_, _, hw', of_entRel hentries⟩)
              have hstays : (Instr.keyThatStays (((arr[j]?).map (·.key)).getD (ρ k)) (ρ k)).run P w = .ok (ρ k) w := by
                simp only [hm0, Option.map_some, Option.getD_some, hkey, Instr.keyThatStays]
                rw [if_pos (sameBits_key hfit hk)]
                rfl
              refine ⟨.skip, undef, w', ?_, .inr ⟨rfl, rfl⟩, _, _, s2, s3, conc_undef R⟩
              simp only [execOp, Instr.mapUpdate, Sem.run_bind, run_underlying hue, Result.andThen_ok, hxe, run_getMap (P := P) h1, hck, r1, hstays, s1, Sem.run_pure]
      | _ => simp [hg] at he
  | _ => simp [ha] at he
theorem run_mapSet {kk : KK} {a b e : X} (hok : okA P op (.mapSet kk a b e) = true) (hρ : EnvOk R t ρ) (hs : Sim P F R h.get w) (hF : FootOk F (reads (.mapSet kk a b e) t))
    (he : evA call (.mapSet kk a b e) t h = .ok v h') : OpRun P F R h w (execOp ρ ⟨dst, op, ty, pos, af, gd⟩) v h' := by
  cases op <;> try exact (Bool.false_ne_true hok).elim
  case mapUpdate mt x k y => exact run_mapSet0 ⟨mt, x, k, y, rfl⟩ hok hρ hs hF he
  case insert mt x k y => exact run_mapSet0 (dst := dst) (op := .mapUpdate mt x k y) (ty := ty) (pos := pos) (af := af) (gd := gd) ⟨mt, x, k, y, rfl⟩ hok hρ hs hF he
theorem run_any {a : A} (hok : okA P op a = true) (hnc : ∀ f xs, a ≠ .call f xs) (hρ : EnvOk R t ρ) (hs : Sim P F R h.get w) (hF : FootOk F (reads a t)) (hfr : Fresh R h h') (he : evA call a t h = .ok v h') :
    OpRun P F R h w (execOp ρ ⟨dst, op, ty, pos, af, gd⟩) v h' := by
  cases a with
  | mov x => exact run_mov hok hρ hs he
  | pick c a b => exact run_pick hok hρ hs he
  | alloc z => exact run_alloc hok hs hfr he
  | box x => exact run_box hok hρ hs hfr he
  | build z ps => exact run_build hok hρ hs he
  | buildSl z n ps => exact run_buildSl hok hρ hs hfr he
  | ld x => exact run_ld hok hρ hs hF he
  | ldn n x => exact run_ldn hok hρ hs hF he
  | st n x y => exact run_st hok hρ hs hF he
  | nilck x => exact run_nilck hok hρ hs he
  | bin o x y => exact run_bin hok hρ hs he
  | eqv n k x y => exact run_eqv hok hρ hs he
  | un o x => exact run_un hok hρ hs he
  | conv k x => exact run_conv hok hρ hs he
  | mkI k x => exact run_mkI hok hρ hs he
  | mkFn f a c => exact run_mkFn hok hρ hs he
  | mkMap => exact run_mkMap hok hs hfr he
  | mkSl z b l c => exact run_mkSl hok hρ hs hfr he
  | slc e x lo hi mx => exact run_slc hok hρ hs he
  | slcA n e x lo hi => exact run_slcA hok hρ hs he
  | slcS x lo hi => exact run_slcS hok hρ hs he
  | fld o x => exact run_fld hok hρ hs he
  | fldv o s x => exact run_fldv hok hρ hs he
  | ixS e x i => exact run_ixS hok hρ hs he
  | ixA n e x i => exact run_ixA hok hρ hs he
  | ixStr x i => exact run_ixStr hok hρ hs he
  | ixV n e g x i => exact run_ixV hok hρ hs he
  | look kk z o x k => exact run_look hok hρ hs hF he
  | mapSet kk x k y => exact run_mapSet hok hρ hs hF he
  | ext x n => exact run_ext hok hρ hs he
  | call f xs => exact absurd rfl (hnc f xs)
  | lenS x => exact run_lenS hok hρ hs he
  | lenL x => exact run_lenL hok hρ hs he
  | lenC n => exact run_lenC hok hs he
  | lenM x => exact run_lenM hok hρ hs hF he
  | app e b s x => exact run_app hok hρ hs hF hfr he
  | cpy e d s => exact run_cpy hok hρ hs hF he
  | clr z x => exact run_clr hok hρ hs hF he
  | min xs => exact run_min hok hρ hs he
  | max xs => exact run_max hok hρ hs he
  | panic x =>
    simp only [evA] at he
    split at he <;> simp at he
  | tassert k z o x => exact run_tassert hok hρ hs he
  | s2b x => exact run_s2b hok hρ hs hfr he
  | b2s x => exact run_b2s hok hρ hs hF he
  | mark x => exact run_mark hok hρ hs hF he
  | no => simp [evA] at he
end
end Go.Air
namespace Go.Air
def WF (h : H) : Prop := (∀ b, h.next ≤ b → h.get b = none) ∧ ∀ b ∈ h.log, b < h.next
theorem WF.lt {h : H} {b : Nat} {x : Blk} (hw : WF h) (hb : h.get b = some x) : b < h.next := by
  rcases Nat.lt_or_ge b h.next with hl | hl
  · exact hl
  · rw [hw.1 b hl] at hb; cases hb
structure Keep (h h' : H) : Prop where
  nx : h.next ≤ h'.next
  wf : WF h → WF h'
  loop : ∀ b lp, b < h.next → h.get b = some (.loop lp) → ∃ lp', h'.get b = some (.loop lp')
  wr : ∃ l, h'.log = l ++ h.log ∧ (∀ b, b < h.next → b ∉ l → h'.get b = h.get b) ∧ ∀ b ∈ l, b < h.next → ∃ y, h.get b = some y
theorem Keep.refl (h : H) : Keep h h := ⟨Nat.le_refl _, id, fun _ lp _ hb => ⟨lp, hb⟩, [], rfl, fun _ _ _ => rfl, fun _ hb => by simp at hb⟩
theorem Keep.trans {h h1 h2 : H} (a : Keep h h1) (b : Keep h1 h2) : Keep h h2 :=
  ⟨Nat.le_trans a.nx b.nx, fun w => b.wf (a.wf w), fun x lp hx hg => let ⟨lp1, h1⟩ := a.loop x lp hx hg; b.loop x lp1 (Nat.lt_of_lt_of_le hx a.nx) h1, by
    obtain ⟨l1, p1, p2, p3⟩ := a.wr
    obtain ⟨l2, q1, q2, q3⟩ := b.wr
    refine ⟨l2 ++ l1, by rw [q1, p1, List.append_assoc], fun x hx hl => ?_, fun x hx hlt => ?_⟩
    · rw [List.mem_append, not_or] at hl
      rw [q2 x (Nat.lt_of_lt_of_le hx a.nx) hl.1, p2 x hx hl.2]
    · by_cases hl : x ∈ l1
      · exact p3 x hl hlt
      · rcases List.mem_append.1 hx with hx | hx
        · obtain ⟨y, hy⟩ := q3 x hx (Nat.lt_of_lt_of_le hlt a.nx)
          exact ⟨y, by rw [← p2 x hlt hl]; exact hy⟩
        · exact absurd hx hl⟩
theorem Keep.new (h : H) (x : Blk) : Keep h (h.new x) := by
  refine ⟨by simp, fun w => ⟨fun b hb => ?_, fun b hb => ?_⟩, fun b lp hb hg => ⟨lp, ?_⟩, [], rfl, fun b hb _ => by rw [H.get_new, if_neg (by omega)], fun _ hb => by simp at hb⟩
  · simp at hb
    rw [H.get_new, if_neg (by omega)]; exact w.1 b (by omega)
  · have := w.2 b (by simpa using hb)
    simp; omega
  · rw [H.get_new, if_neg (by omega)]; exact hg
theorem Keep.put {h : H} {b : Nat} {x y : Blk} (hg : h.get b = some y) (hl : ∀ lp, y = .loop lp → ∃ lp', x = .loop lp') : Keep h (h.put b x) := by
  refine ⟨by simp, fun w => ⟨fun c hc => ?_, fun c hc => ?_⟩, fun c lp hc hcg => ?_, [b], rfl, fun c _ hc => by rw [H.get_put, if_neg (by simpa using hc)], fun c hc _ => by simp at hc; subst hc; exact ⟨_, hg⟩⟩
  · have := w.lt hg
    simp at hc
    rw [H.get_put, if_neg (by omega)]; exact w.1 c hc
  · simp at hc
    rcases hc with rfl | hc
    · exact w.lt hg
    · exact w.2 c hc
  · rw [H.get_put]
    split
    · rename_i e; subst e
      rw [hg] at hcg
      obtain ⟨lp', e⟩ := hl lp (Option.some.inj hcg)
      exact ⟨lp', by rw [e]⟩
    · exact ⟨lp, hcg⟩
theorem Keep.kill {h : H} {b : Nat} {cs : List V} (hg : h.get b = some (.cells cs)) : Keep h (h.kill b) := by
  refine ⟨by simp, fun w => ⟨fun c hc => ?_, fun c hc => ?_⟩, fun c lp hc hcg => ?_, [b], rfl, fun c _ hc => by rw [H.get_kill, if_neg (by simpa using hc)], fun c hc _ => by simp at hc; subst hc; exact ⟨_, hg⟩⟩
  · rw [H.get_kill]
    split
    · rfl
    · exact w.1 c hc
  · simp at hc
    rcases hc with rfl | hc
    · exact w.lt hg
    · exact w.2 c hc
  · rw [H.get_kill]
    split
    · rename_i e; subst e
      rw [hg] at hcg; cases hcg
    · exact ⟨lp, hcg⟩
def Does (h h' : H) (rs : Option (List Nat)) : Prop := Keep h h' ∧ ∀ r, rs = some r → ∃ l, h'.log = l ++ h.log ∧ ∀ b ∈ l, b ∈ r
theorem Does.refl {h : H} {rs : Option (List Nat)} : Does h h rs := ⟨.refl h, fun _ _ => ⟨[], rfl, fun _ hb => by simp at hb⟩⟩
theorem Does.new {h : H} {x : Blk} {rs : Option (List Nat)} : Does h (h.new x) rs := ⟨.new h x, fun _ _ => ⟨[], rfl, fun _ hb => by simp at hb⟩⟩
theorem storeAt_keep {h h' : H} {b o : Nat} {vs : List V} (hs : storeAt h b o vs = some h') : Keep h h' ∧ h'.log = b :: h.log := by
  unfold storeAt at hs
  split at hs <;> try simp at hs
  rename_i cs hg
  split at hs <;> try simp at hs
  obtain ⟨_, rfl⟩ := hs
  exact ⟨.put hg (by intro lp e; cases e), rfl⟩
theorem append_keep {esz bytes : Nat} {h h' : H} {s x v : V} (he : appendV esz bytes h s x = .ok v h') : Keep h h' := by
  unfold appendV at he
  split at he <;> try simp only [reduceCtorEq] at he
  split at he <;> try simp only [reduceCtorEq] at he
  split at he <;> try simp only [reduceCtorEq] at he
  split at he <;> try simp only [reduceCtorEq] at he
  · split at he <;> simp at he
    · rw [← he.2]; exact .refl _
    · rw [← he.2]; exact .new _ _
  · split at he <;> simp at he
    · rw [← he.2]; exact .refl _
    · rw [← he.2]; exact .new _ _
  · split at he
    · split at he <;> simp at he
      rename_i hst
      rw [← he.2]
      exact (storeAt_keep hst).1
    · split at he <;> try simp only [reduceCtorEq] at he
      split at he
      · split at he <;> try simp only [reduceCtorEq] at he
        split at he <;> simp at he
        rw [← he.2]; exact .new _ _
      · split at he <;> try simp only [reduceCtorEq] at he
        rename_i hg
        split at he <;> try simp only [reduceCtorEq] at he
        split at he <;> simp at he
        rw [← he.2]
        exact (Keep.kill hg).trans (.new _ _)
theorem copy_keep {esz : Nat} {h h' : H} {d s v : V} (he : copyV esz h d s = .ok v h') : Keep h h' := by
  unfold copyV at he
  split at he <;> try simp at he
  split at he <;> try simp at he
  · rw [← he.2]; exact .refl _
  · split at he <;> try simp at he
    split at he <;> simp at he
    rename_i hst
    rw [← he.2]
    exact (storeAt_keep hst).1
def KeepC (call : V → List V → H → RO) : Prop := ∀ f args h v h', (call f args h = .ok v h' ∨ call f args h = .pan v h') → Keep h h'
theorem evA_does {call : V → List V → H → RO} {op : A} {t : List V} {h h' : H} {v : V} (hc : KeepC call) (he : evA call op t h = .ok v h') : Does h h' (reads op t) := by
  have pure' : ∀ (o : Option V), RO.ofV h o = .ok v h' → Does h h' (reads op t) := fun o ho => by rw [(ofV_ok ho).2]; exact .refl
  have here : ∀ u, RO.ok u h = .ok v h' → Does h h' (reads op t) := fun u hu => by simp at hu; rw [← hu.2]; exact .refl
  have fresh : ∀ u x, RO.ok u (h.new x) = .ok v h' → Does h h' (reads op t) := fun u x hu => by simp at hu; rw [← hu.2]; exact .new
  cases op <;> simp only [evA] at he
  case mov => exact here _ he
  case pick => split at he <;> first | exact here _ he | simp at he
  case alloc => exact fresh _ _ he
  case box => exact fresh _ _ he
  case build => split at he <;> first | exact here _ he | simp at he
  case buildSl => split at he <;> first | exact fresh _ _ he | simp at he
  case ld => split at he <;> try simp at he
             split at he <;> try simp at he
             exact pure' _ he
  case ldn => split at he <;> try simp at he
              split at he <;> try simp at he
              split at he <;> first | exact here _ he | simp at he
  case st n x y =>
    split at he <;> try simp at he
    rename_i b o hx
    split at he <;> try simp at he
    split at he <;> simp at he
    rename_i hst
    obtain ⟨h1, h2⟩ := storeAt_keep hst
    obtain ⟨_, rfl⟩ := he
    refine ⟨h1, fun r hr => ⟨[b], h2, fun c hcb => ?_⟩⟩
    simp only [reads, hx, blockOf, Option.some.injEq] at hr
    rw [← hr]; exact hcb
  case nilck => split at he <;> first | exact here _ he | simp at he
  case bin => exact pure' _ he
  case eqv => split at he <;> first | exact here _ he | simp at he
  case un => exact pure' _ he
  case conv => split at he <;> first | exact here _ he | simp at he
  case mkI => exact here _ he
  case mkFn => exact here _ he
  case mkMap => exact fresh _ _ he
  case mkSl => split at he <;> try simp at he
               split at he <;> first | exact fresh _ _ he | simp at he
  case slc => split at he <;> exact pure' _ he
  case slcA => split at he <;> try simp at he
               split at he <;> first | exact here _ he | simp at he
  case slcS => split at he <;> try simp at he
               split at he <;> first | exact here _ he | simp at he
  case fld => split at he <;> first | exact here _ he | simp at he
  case fldv => split at he <;> try simp at he
               split at he <;> first | exact pure' _ he | (split at he <;> first | exact here _ he | simp at he)
  case ixS => split at he <;> try simp at he
              split at he <;> first | exact here _ he | simp at he
  case ixA => split at he <;> try simp at he
              split at he <;> first | exact here _ he | simp at he
  case ixStr => split at he <;> try simp at he
                split at he <;> first | exact here _ he | simp at he
  case ixV => split at he <;> try simp at he
              split at he <;> try simp at he
              split at he <;> first | exact pure' _ he | (split at he <;> first | exact here _ he | simp at he)
  case look => split at he <;> try simp at he
               split at he <;> first | exact here _ he | simp at he
  case mapSet kk x k y =>
    split at he <;> try simp at he
    rename_i b hx
    split at he <;> try simp at he
    rename_i es hg
    split at he <;> try simp at he
    split at he <;> simp at he
    obtain ⟨_, rfl⟩ := he
    refine ⟨.put hg (by intro lp e; cases e), fun r hr => ⟨[b], rfl, fun c hcb => ?_⟩⟩
    simp only [reads, hx, blockOf, Option.some.injEq] at hr
    rw [← hr]; exact hcb
  case ext => split at he <;> first | exact pure' _ he | simp at he
  case call => exact ⟨hc _ _ _ _ _ (.inl he), fun r hr => by simp [reads] at hr⟩
  case lenS => split at he <;> first | exact here _ he | simp at he
  case lenL => split at he <;> first | exact here _ he | simp at he
  case lenC => exact here _ he
  case lenM => split at he <;> try simp only [reduceCtorEq] at he
               · exact here _ he
               · split at he <;> first | exact here _ he | simp at he
  case app => exact ⟨append_keep he, fun r hr => by simp [reads] at hr⟩
  case cpy => exact ⟨copy_keep he, fun r hr => by simp [reads] at hr⟩
  case clr =>
    split at he <;> try simp at he
    · obtain ⟨_, rfl⟩ := he
      exact .refl
    · split at he
      · exact here _ he
      · split at he <;> simp at he
        rename_i hst
        rw [← he.2]
        exact ⟨(storeAt_keep hst).1, fun r hr => by simp [reads] at hr⟩
  case min => exact pure' _ he
  case max => exact pure' _ he
  case panic => split at he <;> simp at he
  case tassert =>
    split at he <;> try simp at he
    · split at he <;> first | exact here _ he | simp at he
    · split at he
      · exact here _ he
      · split at he <;> first | exact here _ he | simp at he
  case s2b => split at he <;> first | exact fresh _ _ he | simp at he
  case b2s => exact pure' _ he
  case mark x =>
    split at he <;> try simp at he
    rename_i b o l c g hx
    split at he <;> simp at he
    rename_i cs hg
    obtain ⟨_, rfl⟩ := he
    refine ⟨.put hg (by intro lp e; cases e), fun r hr => ⟨[b], rfl, fun c hcb => ?_⟩⟩
    simp only [reads, hx, blockOf, Option.some.injEq] at hr
    rw [← hr]; exact hcb
  case no => simp at he
theorem RO.ofV_pan {o : Option V} {h h' : H} {v : V} : RO.ofV h o ≠ .pan v h' := by cases o <;> simp [RO.ofV]
theorem appendV_pan {esz bytes : Nat} {h h' : H} {s x v : V} : appendV esz bytes h s x ≠ .pan v h' := by
  unfold appendV
  repeat' split
  all_goals simp
theorem copyV_pan {esz : Nat} {h h' : H} {d s v : V} : copyV esz h d s ≠ .pan v h' := by
  unfold copyV
  repeat' split
  all_goals simp
theorem evA_pan {call : V → List V → H → RO} {op : A} {t : List V} {h h' : H} {v : V} (he : evA call op t h = .pan v h') :
    (∃ x ty u, op = .panic x ∧ x.ev t = .ifc ty u ∧ v = .ifc ty u ∧ h' = h) ∨ ∃ f xs, op = .call f xs ∧ call (f.ev t) (xs.map (X.ev t)) h = .pan v h' := by
  cases op <;> simp only [evA] at he
  case panic x =>
    split at he <;> simp only [RO.pan.injEq, reduceCtorEq] at he
    rename_i ty u hx
    exact .inl ⟨x, ty, u, rfl, hx, he.1.symm, he.2.symm⟩
  case call f xs => exact .inr ⟨f, xs, rfl, he⟩
  case app => exact absurd he appendV_pan
  case cpy => exact absurd he copyV_pan
  all_goals
    exfalso
    revert he
    repeat' split
    all_goals first | exact RO.ofV_pan | simp
theorem evA_keep {call : V → List V → H → RO} {op : A} {t : List V} {h h' : H} {v : V} (hc : KeepC call) (he : evA call op t h = .pan v h') : Keep h h' := by
  rcases evA_pan he with ⟨_, _, _, _, _, _, rfl⟩ | ⟨f, xs, _, he⟩
  · exact .refl _
  · exact hc _ _ _ _ _ (.inr he)
theorem runOps_keep {call : V → List V → H → RO} (hc : KeepC call) : ∀ (l : List O) (t : List V) (h : H) (t' : List V) (h' : H), (runOps call l t h = .ok t' h' ∨ ∃ v, runOps call l t h = .pan v t' h') → Keep h h'
  | [], t, h, t', h', he => by simp [runOps] at he; rw [← he.2]; exact .refl _
  | o :: l, t, h, t', h', he => by
    simp only [runOps] at he
    split at he
    · split at he
      · rename_i v h1 h2
        exact (evA_does hc h2).1.trans (runOps_keep hc l _ _ _ _ he)
      · rename_i v h1 h2
        rcases he with he | ⟨_, he⟩ <;> simp only [RL.pan.injEq, reduceCtorEq] at he
        obtain ⟨_, _, rfl⟩ := he
        exact evA_keep hc h2
      · rcases he with he | ⟨_, he⟩ <;> simp only [reduceCtorEq] at he
    · exact runOps_keep hc l _ _ _ _ he
theorem oldOnes_lt {n : Nat} : ∀ {l : List Nat} {b : Nat}, b ∈ oldOnes n l → b < n ∧ b ∈ l
  | [], b, hb => by simp [oldOnes] at hb
  | x :: l, b, hb => by
    simp only [oldOnes] at hb
    split at hb
    · rename_i hx
      rcases List.mem_cons.1 hb with rfl | hb
      · exact ⟨by simpa [Nat.blt_eq] using hx, by simp⟩
      · have := oldOnes_lt hb
        exact ⟨this.1, by simp [this.2]⟩
    · have := oldOnes_lt hb
      exact ⟨this.1, by simp [this.2]⟩
theorem mem_oldOnes {n : Nat} : ∀ {l : List Nat} {b : Nat}, b < n → b ∈ l → b ∈ oldOnes n l
  | [], b, _, hb => by simp at hb
  | x :: l, b, hn, hb => by
    simp only [oldOnes]
    rcases List.mem_cons.1 hb with rfl | hb
    · rw [if_pos (by simpa [Nat.blt_eq] using hn)]; simp
    · split
      · exact List.mem_cons.2 (.inr (mem_oldOnes hn hb))
      · exact mem_oldOnes hn hb
theorem runDraw_keep {call : V → List V → H → RO} (hc : KeepC call) : ∀ (l : List O) (t : List V) (h : H) (f : List Foot) (t' : List V) (h' : H) (f' : List Foot), runDraw call l t h f = .ok t' h' f' → Keep h h'
  | [], t, h, f, t', h', f', he => by simp [runDraw] at he; rw [← he.2.1]; exact .refl _
  | o :: l, t, h, f, t', h', f', he => by
    simp only [runDraw] at he
    split at he
    · split at he <;> try simp at he
      rename_i v h1 h2
      refine Keep.trans ?_ (runDraw_keep hc l _ _ _ _ _ _ he)
      have k := (evA_does hc h2).1
      refine ⟨k.nx, fun w => ⟨(k.wf ⟨w.1, fun _ hb => by simp at hb⟩).1, fun b hb => ?_⟩, k.loop, ?_⟩
      case refine_2 =>
        obtain ⟨l, q1, q2, q3⟩ := k.wr
        simp only [List.append_nil] at q1
        subst q1
        exact ⟨_, rfl, fun b hb hl => q2 b hb (fun hm => hl (mem_oldOnes hb hm)), fun b hb hlt => q3 b (oldOnes_lt hb).2 hlt⟩
      rcases List.mem_append.1 hb with hb | hb
      · exact Nat.lt_of_lt_of_le (oldOnes_lt hb).1 k.nx
      · exact Nat.lt_of_lt_of_le (w.2 b hb) k.nx
    · exact runDraw_keep hc l _ _ _ _ _ _ he
section
variable {tbl : Tb} {r : C → List V → H → RC}
theorem finish_keep {fi : FI} {t : List V} {h h' : H} {v : V} (he : finish fi t h = .ok v h' ∨ finish fi t h = .pan v h') : h' = h := by
  unfold finish at he
  split at he <;> simp at he
  exact he.2.symm
theorem callD_keep (hr : ∀ c t h o t' h', r c t h = .ok o t' h' → Keep h h') {f v : V} {h h' : H} (he : callD tbl r f v h = some h') : Keep h h' := by
  unfold callD at he
  split at he <;> try simp only [reduceCtorEq] at he
  split at he <;> try simp only [reduceCtorEq] at he
  split at he <;> try simp only [reduceCtorEq] at he
  split at he <;> try simp only [reduceCtorEq] at he
  rename_i hrun
  split at he <;> simp only [Option.some.injEq, reduceCtorEq] at he
  all_goals
    subst he
    exact hr _ _ _ _ _ _ hrun
theorem callV_keep (hr : ∀ c t h o t' h', r c t h = .ok o t' h' → Keep h h') : KeepC (callV tbl r) := by
  intro f args h v h' he
  unfold callV at he
  split at he <;> try simp at he
  · split at he <;> try simp at he
    split at he <;> try simp at he
    split at he
    · split at he <;> try simp at he
      rename_i hrun
      split at he
      · simp at he
      · simp at he
        rw [← he.2]
        exact hr _ _ _ _ _ _ hrun
      · rw [finish_keep he]; exact hr _ _ _ _ _ _ hrun
      · rw [finish_keep he]; exact hr _ _ _ _ _ _ hrun
    · split at he <;> try simp at he
      rename_i hrun0
      split at he <;> try simp at he
      split at he <;> try simp at he
      rename_i hrun
      split at he <;> try simp at he
      rename_i hd
      rw [finish_keep he]
      refine (hr _ _ _ _ _ _ hrun0).trans ((hr _ _ _ _ _ _ hrun).trans ?_)
      split at hd
      · cases hd
      · exact callD_keep hr hd
      · exact callD_keep hr hd
      · exact callD_keep hr hd
  · split at he <;> try simp at he
    split at he <;> try simp at he
    split at he <;> try simp at he
    rename_i t1 h1 hasg
    split at he <;> try simp at he
    rename_i lp1 hg1
    split at he <;> try simp at he
    split at he <;> try simp at he
    rename_i o2 t2 h2 hbody
    split at he <;> try simp at he
    rename_i lp2 hg2
    split at he <;> try simp at he
    have k1 := hr _ _ _ _ _ _ hasg
    have k2 : Keep h1 (h1.put _ (.loop { lp1 with state := .busy })) := .put hg1 (fun lp _ => ⟨_, rfl⟩)
    have k3 := hr _ _ _ _ _ _ hbody
    split at he <;> simp at he <;> rw [← he.2]
    all_goals exact k1.trans (k2.trans (k3.trans (.put hg2 (fun lp _ => ⟨_, rfl⟩))))
theorem stepC_keep (hr : ∀ c t h o t' h', r c t h = .ok o t' h' → Keep h h') (c : C) (t : List V) (h : H) (o : Out) (t' : List V) (h' : H) (he : stepC tbl r c t h = .ok o t' h') : Keep h h' := by
  have hc := callV_keep (tbl := tbl) hr
  cases c <;> simp only [stepC] at he
  case skip => simp at he; rw [← he.2.2]; exact .refl _
  case ops => split at he <;> simp at he
              · rename_i hrun
                rw [← he.2.2]; exact runOps_keep hc _ _ _ _ _ (.inl hrun)
              · rename_i hrun
                rw [← he.2.2]; exact runOps_keep hc _ _ _ _ _ (.inr ⟨_, hrun⟩)
  case draw => split at he <;> try simp at he
               rename_i hrun
               split at he <;> simp at he
               obtain ⟨_, _, rfl⟩ := he
               exact runDraw_keep hc _ _ _ _ _ _ _ hrun
  case seq => split at he
              · rename_i hrun
                exact (hr _ _ _ _ _ _ hrun).trans (hr _ _ _ _ _ _ he)
              · exact hr _ _ _ _ _ _ he
  case cond => split at he <;> first | exact hr _ _ _ _ _ _ he | simp at he
  case block => split at he
                · rename_i hrun
                  split at he <;> simp at he <;> rw [← he.2.2] <;> exact hr _ _ _ _ _ _ hrun
                · exact hr _ _ _ _ _ _ he
  case loop => split at he
               · rename_i hrun
                 exact (hr _ _ _ _ _ _ hrun).trans (hr _ _ _ _ _ _ he)
               · exact hr _ _ _ _ _ _ he
  case exit => simp at he; rw [← he.2.2]; exact .refl _
  case ret => simp at he; rw [← he.2.2]; exact .refl _
  case rangeF =>
    split at he <;> try simp only [reduceCtorEq] at he
    split at he <;> try simp only [reduceCtorEq] at he
    split at he <;> try simp only [reduceCtorEq] at he
    rename_i hrun
    split at he <;> try simp only [reduceCtorEq] at he
    rename_i hg
    split at he <;> try simp only [reduceCtorEq] at he
    split at he <;> simp only [RC.ok.injEq, reduceCtorEq] at he
    obtain ⟨_, _, rfl⟩ := he
    exact (Keep.new _ _).trans ((hc _ _ _ _ _ (.inl hrun)).trans (.put hg (fun lp _ => ⟨_, rfl⟩)))
  case prim =>
    split at he <;> simp at he
    rename_i b hb
    rw [← he.2.2]
    cases b with
    | none => exact .refl _
    | some x => exact .new _ _
end
theorem E_keep {tbl : Tb} : ∀ (k : Nat) (c : C) (t : List V) (h : H) (o : Out) (t' : List V) (h' : H), E tbl k c t h = .ok o t' h' → Keep h h'
  | 0, _, _, _, _, _, _, he => by simp [E] at he
  | k + 1, c, t, h, o, t', h', he => stepC_keep (E_keep k) c t h o t' h' he
end Go.Air
namespace Go.Air
def RC.le (a b : RC) : Prop := a = .fail ∨ a = b
def RO.le (a b : RO) : Prop := a = .fail ∨ a = b
def RL.le (a b : RL) : Prop := a = .fail ∨ a = b
def RD.le (a b : RD) : Prop := a = .fail ∨ a = b
section
variable {tbl : Tb} {r r' : C → List V → H → RC}
theorem callD_mono (hr : ∀ c t h, (r c t h).le (r' c t h)) (f v : V) (h : H) : callD tbl r f v h = none ∨ callD tbl r f v h = callD tbl r' f v h := by
  unfold callD
  split <;> try exact .inl rfl
  split <;> try exact .inl rfl
  rename_i fi _
  split <;> try exact .inl rfl
  rename_i n _
  rcases hr fi.body (upd (pad _ fi.ntmps) n v) h with e | e
  · rw [e]; exact .inl rfl
  · rw [e]; exact .inr rfl
theorem callV_mono (hr : ∀ c t h, (r c t h).le (r' c t h)) (f : V) (args : List V) (h : H) : (callV tbl r f args h).le (callV tbl r' f args h) := by
  cases f <;> try exact .inr rfl
  case fn g first caps =>
    unfold callV
    simp only
    cases tbl.fi g with
    | none => exact .inr rfl
    | some fi =>
      simp only
      cases fi.rcv with
      | some _ => exact .inr rfl
      | none =>
        simp only
        cases fi.dfr with
        | none =>
          simp only
          rcases hr fi.body (pad (first ++ args ++ caps) fi.ntmps) h with e | e
          · rw [e]; exact .inl rfl
          · rw [e]; exact .inr rfl
        | some px =>
          obtain ⟨pre, x⟩ := px
          simp only
          rcases hr pre (pad (first ++ args ++ caps) fi.ntmps) h with e | e
          · rw [e]; exact .inl rfl
          · rw [e]
            cases r' pre (pad (first ++ args ++ caps) fi.ntmps) h with
            | fail => exact .inr rfl
            | ok o0 t0 h0 =>
              cases o0 <;> try exact .inr rfl
              simp only
              rcases hr fi.body t0 h0 with e | e
              · rw [e]; exact .inl rfl
              · rw [e]
                cases r' fi.body t0 h0 with
                | fail => exact .inr rfl
                | ok o t1 h1 =>
                  cases o <;> simp only
                  · rcases callD_mono (tbl := tbl) hr (x.ev t0) .in0 h1 with e | e
                    · rw [e]; exact .inl rfl
                    · rw [e]; exact .inr rfl
                  · exact .inr rfl
                  · rcases callD_mono (tbl := tbl) hr (x.ev t0) .in0 h1 with e | e
                    · rw [e]; exact .inl rfl
                    · rw [e]; exact .inr rfl
                  · rename_i v
                    rcases callD_mono (tbl := tbl) hr (x.ev t0) v h1 with e | e
                    · rw [e]; exact .inl rfl
                    · rw [e]; exact .inr rfl
  case yld l =>
    unfold callV
    simp only
    cases h.get l with
    | none => exact .inr rfl
    | some bl =>
      cases bl <;> try exact .inr rfl
      rename_i lp
      simp only
      by_cases hl : Nat.beq args.length lp.params.length = true
      · rw [if_pos hl, if_pos hl]
        rcases hr lp.asg (updAll lp.tmps lp.params args) h with e | e
        · rw [e]; exact .inl rfl
        · rw [e]
          cases hb : r' lp.asg (updAll lp.tmps lp.params args) h with
          | fail => exact .inr rfl
          | ok o t h1 =>
            cases o <;> try exact .inr rfl
            simp only
            cases h1.get l with
            | none => exact .inr rfl
            | some bl =>
              cases bl <;> try exact .inr rfl
              rename_i lp1
              simp only
              split
              · rcases hr lp.body t (h1.put l (.loop { lp1 with state := .busy })) with e | e
                · rw [e]; exact .inl rfl
                · rw [e]; exact .inr rfl
              · exact .inr rfl
      · rw [if_neg hl, if_neg hl]; exact .inr rfl
theorem evA_mono {call call' : V → List V → H → RO} (hc : ∀ f args h, (call f args h).le (call' f args h)) (op : A) (t : List V) (h : H) : (evA call op t h).le (evA call' op t h) := by
  cases op <;> first | exact .inr rfl | exact hc _ _ _
theorem runOps_mono {call call' : V → List V → H → RO} (hc : ∀ f args h, (call f args h).le (call' f args h)) : ∀ (l : List O) (t : List V) (h : H), (runOps call l t h).le (runOps call' l t h)
  | [], _, _ => .inr rfl
  | o :: l, t, h => by
    unfold runOps
    split
    · rcases evA_mono hc o.op t h with e | e
      · rw [e]; exact .inl rfl
      · rw [e]
        split
        · exact runOps_mono hc l _ _
        · exact .inr rfl
        · exact .inr rfl
    · exact runOps_mono hc l _ _
theorem runDraw_mono {call call' : V → List V → H → RO} (hc : ∀ f args h, (call f args h).le (call' f args h)) : ∀ (l : List O) (t : List V) (h : H) (f : List Foot), (runDraw call l t h f).le (runDraw call' l t h f)
  | [], _, _, _ => .inr rfl
  | o :: l, t, h, f => by
    unfold runDraw
    split
    · rcases evA_mono hc o.op t ⟨h.next, h.mem, []⟩ with e | e
      · rw [e]; exact .inl rfl
      · rw [e]
        split
        · exact runDraw_mono hc l _ _ _
        · exact .inr rfl
    · exact runDraw_mono hc l _ _ _
theorem stepC_mono (hr : ∀ c t h, (r c t h).le (r' c t h)) (c : C) (t : List V) (h : H) : (stepC tbl r c t h).le (stepC tbl r' c t h) := by
  have hc := fun f args h => callV_mono (tbl := tbl) hr f args h
  cases c <;> try exact .inr rfl
  case ops l =>
    unfold stepC
    simp only
    rcases runOps_mono hc l t h with e | e
    · rw [e]; exact .inl rfl
    · rw [e]; exact .inr rfl
  case draw l crit =>
    unfold stepC
    simp only
    rcases runDraw_mono hc l t h [] with e | e
    · rw [e]; exact .inl rfl
    · rw [e]; exact .inr rfl
  case seq a b =>
    unfold stepC
    simp only
    rcases hr a t h with e | e
    · rw [e]; exact .inl rfl
    · rw [e]
      cases r' a t h with
      | fail => exact .inr rfl
      | ok o t' h' => cases o <;> first | exact hr _ _ _ | exact .inr rfl
  case cond x a b =>
    unfold stepC
    simp only
    split
    · exact hr _ _ _
    · exact hr _ _ _
    · exact .inr rfl
  case block id a =>
    unfold stepC
    simp only
    rcases hr a t h with e | e
    · rw [e]; exact .inl rfl
    · rw [e]; exact .inr rfl
  case loop a =>
    unfold stepC
    simp only
    rcases hr a t h with e | e
    · rw [e]; exact .inl rfl
    · rw [e]
      cases r' a t h with
      | fail => exact .inr rfl
      | ok o t' h' => cases o <;> first | exact hr _ _ _ | exact .inr rfl
  case rangeF f ps asg body =>
    unfold stepC
    simp only
    split
    · rename_i g a c _
      split
      · exact .inr rfl
      rcases hc (.fn g a c) [.yld h.next] (h.new (.loop ⟨.ready, none, t, ps, asg, body⟩)) with e | e
      · rw [e]; exact .inl rfl
      · rw [e]; exact .inr rfl
    · exact .inr rfl
end
section
variable (tbl : Tb)
theorem E_succ : ∀ k c t h, (E tbl k c t h).le (E tbl (k + 1) c t h)
  | 0, _, _, _ => .inl rfl
  | k + 1, c, t, h => stepC_mono (E_succ k) c t h
theorem E_le {k m : Nat} (hkm : k ≤ m) (c : C) (t : List V) (h : H) : (E tbl k c t h).le (E tbl m c t h) := by
  induction hkm with
  | refl => exact .inr rfl
  | step _ ih =>
    rcases ih with e | e
    · exact .inl e
    · rw [e]; exact E_succ tbl _ c t h
theorem E_up {k m : Nat} (hkm : k ≤ m) {c : C} {t : List V} {h : H} {o : Out} {t' : List V} {h' : H} (he : E tbl k c t h = .ok o t' h') : E tbl m c t h = .ok o t' h' := by
  rcases E_le tbl hkm c t h with e | e
  · rw [e] at he; cases he
  · rw [← e]; exact he
theorem call_up {k m : Nat} (hkm : k ≤ m) {f : V} {args : List V} {h : H} {r : RO} (he : callV tbl (E tbl k) f args h = r) (hr : r ≠ .fail) : callV tbl (E tbl m) f args h = r := by
  rcases callV_mono (tbl := tbl) (E_le tbl hkm) f args h with e | e
  · rw [e] at he; exact absurd he.symm hr
  · rw [← e]; exact he
theorem evA_up {k m : Nat} (hkm : k ≤ m) {op : A} {t : List V} {h : H} {r : RO} (he : evA (callV tbl (E tbl k)) op t h = r) (hr : r ≠ .fail) : evA (callV tbl (E tbl m)) op t h = r := by
  rcases evA_mono (callV_mono (tbl := tbl) (E_le tbl hkm)) op t h with e | e
  · rw [e] at he; exact absurd he.symm hr
  · rw [← e]; exact he
theorem ops_up {k m : Nat} (hkm : k ≤ m) {l : List O} {t : List V} {h : H} {r : RL} (he : runOps (callV tbl (E tbl k)) l t h = r) (hr : r ≠ .fail) : runOps (callV tbl (E tbl m)) l t h = r := by
  rcases runOps_mono (callV_mono (tbl := tbl) (E_le tbl hkm)) l t h with e | e
  · rw [e] at he; exact absurd he.symm hr
  · rw [← e]; exact he
theorem draw_up {k m : Nat} (hkm : k ≤ m) {l : List O} {t t' : List V} {h h' : H} {f f' : List Foot} (he : runDraw (callV tbl (E tbl k)) l t h f = .ok t' h' f') : runDraw (callV tbl (E tbl m)) l t h f = .ok t' h' f' := by
  rcases runDraw_mono (callV_mono (tbl := tbl) (E_le tbl hkm)) l t h f with e | e
  · rw [e] at he; cases he
  · rw [← e]; exact he
def ROp (r : RO) (S Sp : V → H → Prop) : Prop := match r with
  | .ok v h => S v h
  | .pan v h => Sp v h
  | .fail => False
def RLq (r : RL) (T : Out → List V → H → Prop) : Prop := match r with
  | .ok t h => T .norm t h
  | .pan v t h => T (.pan v) t h
  | .fail => False
theorem ROp.ne {r : RO} {S Sp : V → H → Prop} (h : ROp r S Sp) : r ≠ .fail := by rintro rfl; exact h
theorem RLq.ne {r : RL} {T : Out → List V → H → Prop} (h : RLq r T) : r ≠ .fail := by rintro rfl; exact h
theorem ROp.mono {r : RO} {S Sp S' Sp' : V → H → Prop} (h : ROp r S Sp) (hq : ∀ v h', S v h' → S' v h') (hp : ∀ v h', Sp v h' → Sp' v h') : ROp r S' Sp' := by
  cases r with
  | ok v h' => exact hq _ _ h
  | pan v h' => exact hp _ _ h
  | fail => exact h.elim
def W (c : C) (t : List V) (h : H) (Q : Out → List V → H → Prop) : Prop := ∃ k o t' h', E tbl k c t h = .ok o t' h' ∧ Q o t' h'
def WX (f : V) (args : List V) (h : H) (S Sp : V → H → Prop) : Prop := ∃ k r, callV tbl (E tbl k) f args h = r ∧ ROp r S Sp
def WA (op : A) (t : List V) (h : H) (S Sp : V → H → Prop) : Prop := ∃ k r, evA (callV tbl (E tbl k)) op t h = r ∧ ROp r S Sp
def WL (l : List O) (t : List V) (h : H) (T : Out → List V → H → Prop) : Prop := ∃ k r, runOps (callV tbl (E tbl k)) l t h = r ∧ RLq r T
def WD (l : List O) (t : List V) (h : H) (f : List Foot) (Q : List V → H → List Foot → Prop) : Prop := ∃ k t' h' f', runDraw (callV tbl (E tbl k)) l t h f = .ok t' h' f' ∧ Q t' h' f'
def noPan : V → H → Prop := fun _ _ => False
abbrev WC (f : V) (args : List V) (h : H) (S : V → H → Prop) : Prop := WX tbl f args h S noPan
variable {tbl} {t : List V} {h : H} {Q : Out → List V → H → Prop} {S Sp : V → H → Prop}
theorem W.mono {c : C} {Q' : Out → List V → H → Prop} (hw : W tbl c t h Q) (hq : ∀ o t' h', Q o t' h' → Q' o t' h') : W tbl c t h Q' :=
  let ⟨k, o, t', h', e, q⟩ := hw; ⟨k, o, t', h', e, hq _ _ _ q⟩
theorem WX.mono {f : V} {args : List V} {S' Sp' : V → H → Prop} (hw : WX tbl f args h S Sp) (hq : ∀ v h', S v h' → S' v h') (hp : ∀ v h', Sp v h' → Sp' v h') : WX tbl f args h S' Sp' :=
  let ⟨k, r, e, q⟩ := hw; ⟨k, r, e, q.mono hq hp⟩
theorem WC.mono {f : V} {args : List V} {S' Sp' : V → H → Prop} (hw : WC tbl f args h S) (hq : ∀ v h', S v h' → S' v h') : WX tbl f args h S' Sp' :=
  WX.mono hw hq fun _ _ h => h.elim
theorem WA.mono {op : A} {S' Sp' : V → H → Prop} (hw : WA tbl op t h S Sp) (hq : ∀ v h', S v h' → S' v h') (hp : ∀ v h', Sp v h' → Sp' v h') : WA tbl op t h S' Sp' :=
  let ⟨k, r, e, q⟩ := hw; ⟨k, r, e, q.mono hq hp⟩
theorem WC_ok {f : V} {args : List V} (hw : WC tbl f args h S) : ∃ k v h', callV tbl (E tbl k) f args h = .ok v h' ∧ S v h' := by
  obtain ⟨k, r, e, q⟩ := hw
  cases r with
  | ok v h' => exact ⟨k, v, h', e, q⟩
  | pan v h' => exact q.elim
  | fail => exact q.elim
theorem W_skip : W tbl .skip t h Q ↔ Q .norm t h :=
  ⟨fun ⟨k, o, t', h', e, q⟩ => by
    cases k with
    | zero => cases e
    | succ k => simp only [E, stepC, RC.ok.injEq] at e; obtain ⟨rfl, rfl, rfl⟩ := e; exact q,
   fun q => ⟨1, _, _, _, rfl, q⟩⟩
theorem W_exit {id : Nat} : W tbl (.exit id) t h Q ↔ Q (.exit id) t h :=
  ⟨fun ⟨k, o, t', h', e, q⟩ => by
    cases k with
    | zero => cases e
    | succ k => simp only [E, stepC, RC.ok.injEq] at e; obtain ⟨rfl, rfl, rfl⟩ := e; exact q,
   fun q => ⟨1, _, _, _, rfl, q⟩⟩
theorem W_ret : W tbl .ret t h Q ↔ Q .ret t h :=
  ⟨fun ⟨k, o, t', h', e, q⟩ => by
    cases k with
    | zero => cases e
    | succ k => simp only [E, stepC, RC.ok.injEq] at e; obtain ⟨rfl, rfl, rfl⟩ := e; exact q,
   fun q => ⟨1, _, _, _, rfl, q⟩⟩
theorem W_prim {n : Nat} {v : V} {b : Option Blk} (hp : tbl.pr n t h = some (v, b)) : W tbl (.prim n) t h Q ↔ Q .ret [v] (h.newO b) :=
  ⟨fun ⟨k, o, t', h', e, q⟩ => by
    cases k with
    | zero => cases e
    | succ k => simp only [E, stepC, hp, RC.ok.injEq] at e; obtain ⟨rfl, rfl, rfl⟩ := e; exact q,
   fun q => ⟨1, _, _, _, by simp only [E, stepC, hp], q⟩⟩
theorem W_ops {l : List O} : W tbl (.ops l) t h Q ↔ WL tbl l t h Q :=
  ⟨fun ⟨k, o, t', h', e, q⟩ => by
    cases k with
    | zero => cases e
    | succ k =>
      simp only [E, stepC] at e
      refine ⟨k, _, rfl, ?_⟩
      cases hr : runOps (callV tbl (E tbl k)) l t h with
      | fail => rw [hr] at e; cases e
      | ok t1 h1 => rw [hr] at e; simp only [RC.ok.injEq] at e; obtain ⟨rfl, rfl, rfl⟩ := e; exact q
      | pan v t1 h1 => rw [hr] at e; simp only [RC.ok.injEq] at e; obtain ⟨rfl, rfl, rfl⟩ := e; exact q,
   fun ⟨k, r, e, q⟩ => by
    cases r with
    | fail => exact q.elim
    | ok t' h' => exact ⟨k + 1, .norm, t', h', by simp only [E, stepC, e], q⟩
    | pan v t' h' => exact ⟨k + 1, .pan v, t', h', by simp only [E, stepC, e], q⟩⟩
theorem W_draw {l : List O} {crit : List (Nat × Nat)} : W tbl (.draw l crit) t h Q ↔ WD tbl l t h [] fun t' h' f => critOk f crit = true ∧ Q .norm t' h' :=
  ⟨fun ⟨k, o, t', h', e, q⟩ => by
    cases k with
    | zero => cases e
    | succ k =>
      simp only [E, stepC] at e
      split at e <;> try simp only [reduceCtorEq] at e
      rename_i t1 h1 f1 e1
      split at e <;> simp only [RC.ok.injEq, reduceCtorEq] at e
      rename_i hc
      obtain ⟨rfl, rfl, rfl⟩ := e
      exact ⟨k, _, _, _, e1, hc, q⟩,
   fun ⟨k, t', h', f, e, hc, q⟩ => ⟨k + 1, .norm, t', h', by simp only [E, stepC, e, hc, if_true], q⟩⟩
theorem W_seq {a b : C} : W tbl (.seq a b) t h Q ↔ W tbl a t h fun o t' h' => match o with
    | .norm => W tbl b t' h' Q
    | .exit i => Q (.exit i) t' h'
    | .ret => Q .ret t' h'
    | .pan v => Q (.pan v) t' h' :=
  ⟨fun ⟨k, o, t', h', e, q⟩ => by
    cases k with
    | zero => cases e
    | succ k =>
      simp only [E, stepC] at e
      cases e1 : E tbl k a t h with
      | fail => rw [e1] at e; cases e
      | ok o1 t1 h1 =>
        rw [e1] at e
        refine ⟨k, o1, t1, h1, e1, ?_⟩
        cases o1 with
        | norm => exact ⟨k, _, _, _, e, q⟩
        | exit i => simp only [RC.ok.injEq] at e; obtain ⟨rfl, rfl, rfl⟩ := e; exact q
        | ret => simp only [RC.ok.injEq] at e; obtain ⟨rfl, rfl, rfl⟩ := e; exact q
        | pan v => simp only [RC.ok.injEq] at e; obtain ⟨rfl, rfl, rfl⟩ := e; exact q,
   fun ⟨k, o, t', h', e, q⟩ => by
    cases o with
    | norm =>
      obtain ⟨m, o2, t2, h2, e2, q2⟩ := q
      refine ⟨max k m + 1, o2, t2, h2, ?_, q2⟩
      simp only [E, stepC, E_up tbl (Nat.le_max_left k m) e]
      exact E_up tbl (Nat.le_max_right k m) e2
    | exit i => exact ⟨k + 1, _, _, _, by simp only [E, stepC, e], q⟩
    | ret => exact ⟨k + 1, _, _, _, by simp only [E, stepC, e], q⟩
    | pan v => exact ⟨k + 1, _, _, _, by simp only [E, stepC, e], q⟩⟩
def condV (v : V) (A B : Prop) : Prop := match v with
  | .b true => A
  | .b false => B
  | _ => False
theorem W_cond {x : X} {a b : C} : W tbl (.cond x a b) t h Q ↔ condV (x.ev t) (W tbl a t h Q) (W tbl b t h Q) :=
  ⟨fun ⟨k, o, t', h', e, q⟩ => by
    cases k with
    | zero => cases e
    | succ k =>
      simp only [E, stepC] at e
      split at e
      · rename_i hv; rw [hv]; exact ⟨k, _, _, _, e, q⟩
      · rename_i hv; rw [hv]; exact ⟨k, _, _, _, e, q⟩
      · exact (nomatch e),
   fun q => by
    unfold condV at q
    split at q
    · rename_i hv; obtain ⟨k, o, t', h', e, q⟩ := q; exact ⟨k + 1, o, t', h', by simp only [E, stepC, hv, e], q⟩
    · rename_i hv; obtain ⟨k, o, t', h', e, q⟩ := q; exact ⟨k + 1, o, t', h', by simp only [E, stepC, hv, e], q⟩
    · exact q.elim⟩
theorem W_block {id : Nat} {a : C} : W tbl (.block id a) t h Q ↔ W tbl a t h fun o t' h' => match o with
    | .exit i => if i = id then Q .norm t' h' else Q (.exit i) t' h'
    | .norm => Q .norm t' h'
    | .ret => Q .ret t' h'
    | .pan v => Q (.pan v) t' h' :=
  ⟨fun ⟨k, o, t', h', e, q⟩ => by
    cases k with
    | zero => cases e
    | succ k =>
      simp only [E, stepC] at e
      cases e1 : E tbl k a t h with
      | fail => rw [e1] at e; cases e
      | ok o1 t1 h1 =>
        rw [e1] at e
        refine ⟨k, o1, t1, h1, e1, ?_⟩
        cases o1 with
        | norm => simp only [RC.ok.injEq] at e; obtain ⟨rfl, rfl, rfl⟩ := e; exact q
        | ret => simp only [RC.ok.injEq] at e; obtain ⟨rfl, rfl, rfl⟩ := e; exact q
        | pan v => simp only [RC.ok.injEq] at e; obtain ⟨rfl, rfl, rfl⟩ := e; exact q
        | exit i =>
          simp only at e
          split at e
          · rename_i hb
            rw [Nat.beq_eq] at hb
            simp only [RC.ok.injEq] at e; obtain ⟨rfl, rfl, rfl⟩ := e
            simp only; rw [if_pos hb]; exact q
          · rename_i hb
            have hb : i ≠ id := by simpa using hb
            simp only [RC.ok.injEq] at e; obtain ⟨rfl, rfl, rfl⟩ := e
            simp only; rw [if_neg hb]; exact q,
   fun ⟨k, o, t', h', e, q⟩ => by
    cases o with
    | norm => exact ⟨k + 1, _, _, _, by simp only [E, stepC, e], q⟩
    | ret => exact ⟨k + 1, _, _, _, by simp only [E, stepC, e], q⟩
    | pan v => exact ⟨k + 1, _, _, _, by simp only [E, stepC, e], q⟩
    | exit i =>
      simp only at q
      split at q
      · rename_i hb
        exact ⟨k + 1, _, _, _, by simp only [E, stepC, e]; rw [if_pos (by rw [Nat.beq_eq]; exact hb)], q⟩
      · rename_i hb
        exact ⟨k + 1, _, _, _, by simp only [E, stepC, e]; rw [if_neg (by simpa using hb)], q⟩⟩
theorem W_loop {a : C} : W tbl (.loop a) t h Q ↔ W tbl a t h fun o t' h' => match o with
    | .norm => W tbl (.loop a) t' h' Q
    | .exit i => Q (.exit i) t' h'
    | .ret => Q .ret t' h'
    | .pan v => Q (.pan v) t' h' :=
  ⟨fun ⟨k, o, t', h', e, q⟩ => by
    cases k with
    | zero => cases e
    | succ k =>
      simp only [E, stepC] at e
      cases e1 : E tbl k a t h with
      | fail => rw [e1] at e; cases e
      | ok o1 t1 h1 =>
        rw [e1] at e
        refine ⟨k, o1, t1, h1, e1, ?_⟩
        cases o1 with
        | norm => exact ⟨k, _, _, _, e, q⟩
        | exit i => simp only [RC.ok.injEq] at e; obtain ⟨rfl, rfl, rfl⟩ := e; exact q
        | ret => simp only [RC.ok.injEq] at e; obtain ⟨rfl, rfl, rfl⟩ := e; exact q
        | pan v => simp only [RC.ok.injEq] at e; obtain ⟨rfl, rfl, rfl⟩ := e; exact q,
   fun ⟨k, o, t', h', e, q⟩ => by
    cases o with
    | norm =>
      obtain ⟨m, o2, t2, h2, e2, q2⟩ := q
      refine ⟨max k m + 1, o2, t2, h2, ?_, q2⟩
      simp only [E, stepC, E_up tbl (Nat.le_max_left k m) e]
      exact E_up tbl (Nat.le_max_right k m) e2
    | exit i => exact ⟨k + 1, _, _, _, by simp only [E, stepC, e], q⟩
    | ret => exact ⟨k + 1, _, _, _, by simp only [E, stepC, e], q⟩
    | pan v => exact ⟨k + 1, _, _, _, by simp only [E, stepC, e], q⟩⟩
theorem W_loop_inv {a : C} {I : Nat → List V → H → Prop} (hI : ∀ n t h, I n t h → W tbl a t h fun o t' h' => match o with
      | .norm => ∃ m, m < n ∧ I m t' h'
      | .exit i => Q (.exit i) t' h'
      | .ret => Q .ret t' h'
      | .pan v => Q (.pan v) t' h') : ∀ n t h, I n t h → W tbl (.loop a) t h Q := by
  intro n
  induction n using Nat.strongRecOn with
  | ind n ih =>
    intro t h hi
    refine W_loop.2 ((hI n t h hi).mono ?_)
    intro o t' h' q
    cases o with
    | norm => obtain ⟨m, hm, q⟩ := q; exact ih m hm t' h' q
    | exit i => exact q
    | ret => exact q
    | pan v => exact q
def loopOut (v : Option Blk) (S : Loop → Prop) : Prop := match v with
  | some (.loop lp) => S lp
  | _ => False
theorem WL_nil {T : Out → List V → H → Prop} : WL tbl [] t h T ↔ T .norm t h :=
  ⟨fun ⟨k, r, e, q⟩ => by simp only [runOps] at e; subst e; exact q, fun q => ⟨0, _, rfl, q⟩⟩
theorem WL_cons {o : O} {l : List O} {T : Out → List V → H → Prop} : WL tbl (o :: l) t h T ↔ if wants o.g t = true then WA tbl o.op t h (fun v h' => WL tbl l (putD t o.dst v) h' T) (fun v h' => T (.pan v) t h') else WL tbl l (putD t o.dst .undef) h T := by
  cases hw : wants o.g t with
  | false =>
    simp only [Bool.false_eq_true, if_false]
    exact ⟨fun ⟨k, r, e, q⟩ => ⟨k, r, by simpa only [runOps, hw] using e, q⟩, fun ⟨k, r, e, q⟩ => ⟨k, r, by simpa only [runOps, hw] using e, q⟩⟩
  | true =>
    simp only [if_true]
    constructor
    · rintro ⟨k, r, e, q⟩
      simp only [runOps, hw] at e
      cases hv : evA (callV tbl (E tbl k)) o.op t h with
      | fail => rw [hv] at e; subst e; exact q.elim
      | ok v h1 => rw [hv] at e; exact ⟨k, _, hv, k, r, e, q⟩
      | pan v h1 => rw [hv] at e; subst e; exact ⟨k, _, hv, q⟩
    · rintro ⟨k, r, e1, q⟩
      cases r with
      | fail => exact q.elim
      | ok v h1 =>
        obtain ⟨m, r, e, q⟩ := q
        exact ⟨max k m, r, by simp only [runOps, hw, evA_up tbl (Nat.le_max_left k m) e1 (by simp)]; exact ops_up tbl (Nat.le_max_right k m) e q.ne, q⟩
      | pan v h1 => exact ⟨k, .pan v t h1, by simp only [runOps, hw, e1], q⟩
theorem WD_nil {f : List Foot} {S : List V → H → List Foot → Prop} : WD tbl [] t h f S ↔ S t h f :=
  ⟨fun ⟨k, t', h', f', e, q⟩ => by simp only [runDraw, RD.ok.injEq] at e; obtain ⟨rfl, rfl, rfl⟩ := e; exact q, fun q => ⟨0, _, _, _, rfl, q⟩⟩
theorem WD_cons {o : O} {l : List O} {f : List Foot} {S : List V → H → List Foot → Prop} : WD tbl (o :: l) t h f S ↔ if wants o.g t = true then
    WA tbl o.op t ⟨h.next, h.mem, []⟩ (fun v h' => WD tbl l (putD t o.dst v) ⟨h'.next, h'.mem, oldOnes h.next h'.log ++ h.log⟩ (f ++ [⟨reads o.op t, oldOnes h.next h'.log⟩]) S) noPan
    else WD tbl l (putD t o.dst .undef) h (f ++ [⟨some [], []⟩]) S := by
  cases hw : wants o.g t with
  | false =>
    simp only [Bool.false_eq_true, if_false]
    exact ⟨fun ⟨k, t', h', f', e, q⟩ => ⟨k, t', h', f', by simpa only [runDraw, hw] using e, q⟩, fun ⟨k, t', h', f', e, q⟩ => ⟨k, t', h', f', by simpa only [runDraw, hw] using e, q⟩⟩
  | true =>
    simp only [if_true]
    constructor
    · rintro ⟨k, t', h', f', e, q⟩
      simp only [runDraw, hw] at e
      split at e <;> try simp only [reduceCtorEq] at e
      rename_i v h1 e1
      exact ⟨k, _, e1, k, t', h', f', e, q⟩
    · rintro ⟨k, r, e1, q⟩
      cases r with
      | fail => exact q.elim
      | pan v h1 => exact q.elim
      | ok v h1 =>
        obtain ⟨m, t', h', f', e, q⟩ := q
        exact ⟨max k m, t', h', f', by simp only [runDraw, hw, evA_up tbl (Nat.le_max_left k m) e1 (by simp)]; exact draw_up tbl (Nat.le_max_right k m) e, q⟩
def ROk (r : RO) (S : V → H → Prop) : Prop := match r with
  | .ok v h => S v h
  | _ => False
theorem ROk_ok {v : V} {S : V → H → Prop} : ROk (.ok v h) S ↔ S v h := Iff.rfl
def A.plain : A → Bool
  | .call .. | .panic .. => false
  | _ => true
theorem evA_plain {op : A} (hp : op.plain = true) (call call' : V → List V → H → RO) : evA call op t h = evA call' op t h := by
  cases op <;> first | rfl | exact (Bool.false_ne_true hp).elim
def noCall : V → List V → H → RO := fun _ _ _ => .fail
theorem plain_pan {op : A} (hp : op.plain = true) {call : V → List V → H → RO} {v : V} {h' : H} : evA call op t h ≠ .pan v h' := by
  intro he
  rcases evA_pan he with ⟨_, _, _, rfl, _⟩ | ⟨_, _, rfl, _⟩ <;> exact (Bool.false_ne_true hp).elim
theorem WA_plain {op : A} (hp : op.plain = true) : WA tbl op t h S Sp ↔ ROk (evA noCall op t h) S :=
  ⟨fun ⟨k, r, e, q⟩ => by
    rw [evA_plain hp _ (callV tbl (E tbl k)), e]
    cases r with
    | ok v h' => exact q
    | pan v h' => exact absurd e (plain_pan hp)
    | fail => exact q.elim,
   fun q => by
    cases e : evA noCall op t h with
    | fail => rw [e] at q; exact q.elim
    | pan v h' => exact absurd e (plain_pan hp)
    | ok v h' => rw [e] at q; exact ⟨0, .ok v h', by rw [evA_plain hp _ noCall, e], q⟩⟩
theorem WA_call {f : X} {args : List X} : WA tbl (.call f args) t h S Sp ↔ WX tbl (f.ev t) (args.map (X.ev t)) h S Sp := Iff.rfl
def panV (v : V) (P : V → Prop) : Prop := match v with
  | .ifc ty u => P (.ifc ty u)
  | _ => False
theorem WA_panic {x : X} : WA tbl (.panic x) t h S Sp ↔ panV (x.ev t) fun v => Sp v h := by
  unfold WA panV
  simp only [evA]
  constructor
  · rintro ⟨k, r, e, q⟩
    split at e
    · rename_i ty u hx; rw [hx]; subst e; exact q
    · subst e; exact q.elim
  · intro q
    split at q
    · rename_i ty u hx; exact ⟨0, _, rfl, by rw [hx]; exact q⟩
    · exact q.elim
def resOk (r : Option (List V)) (h : H) (S : V → H → Prop) : Prop := match r with
  | some l => S (packR l) h
  | none => False
theorem finish_ok {fi : FI} {r : RO} (he : finish fi t h = r) (hq : ROp r S Sp) : resOk (resultsOf t h fi.res) h S := by
  unfold finish at he
  split at he
  · rename_i l hl; rw [hl]; subst he; exact hq
  · subst he; exact hq.elim
theorem ok_finish {fi : FI} (q : resOk (resultsOf t h fi.res) h S) : ∃ r, finish fi t h = r ∧ ROp r S Sp := by
  unfold resOk at q
  split at q <;> try exact q.elim
  rename_i l hl
  exact ⟨_, rfl, by unfold finish; rw [hl]; exact q⟩
theorem WC_fn {g : Nat} {first caps args : List V} {fi : FI} (ht : tbl g = some fi) (hr : fi.rcv = none) (hd : fi.dfr = none) : WX tbl (.fn g first caps) args h S Sp ↔
    W tbl fi.body (pad (first ++ args ++ caps) fi.ntmps) h fun o t' h' => match o with
      | .exit _ => False
      | .norm => resOk (resultsOf t' h' fi.res) h' S
      | .ret => resOk (resultsOf t' h' fi.res) h' S
      | .pan v => Sp v h' :=
  ⟨fun ⟨k, r, e, q⟩ => by
    simp only [callV, ht, hr, hd] at e
    cases e1 : E tbl k fi.body (pad (first ++ args ++ caps) fi.ntmps) h with
    | fail => rw [e1] at e; subst e; exact q.elim
    | ok o t' h1 =>
      rw [e1] at e
      refine ⟨k, o, t', h1, e1, ?_⟩
      cases o with
      | exit _ => simp only at e; subst e; exact q.elim
      | norm => exact finish_ok e q
      | ret => exact finish_ok e q
      | pan v => simp only at e; subst e; exact q,
   fun ⟨k, o, t', h', e, q⟩ => by
    cases o with
    | exit _ => exact q.elim
    | norm => obtain ⟨r, e2, q2⟩ := ok_finish (fi := fi) (Sp := Sp) q; exact ⟨k, r, by simp only [callV, ht, hr, hd, e]; exact e2, q2⟩
    | ret => obtain ⟨r, e2, q2⟩ := ok_finish (fi := fi) (Sp := Sp) q; exact ⟨k, r, by simp only [callV, ht, hr, hd, e]; exact e2, q2⟩
    | pan v => exact ⟨k, .pan v h', by simp only [callV, ht, hr, hd, e], q⟩⟩
def WD1 (tbl : Tb) (f v : V) (h : H) (S : H → Prop) : Prop := ∃ k h', callD tbl (E tbl k) f v h = some h' ∧ S h'
theorem WD1_fn {g n : Nat} {caps : List V} {fi : FI} {v : V} {S : H → Prop} (ht : tbl g = some fi) (hr : fi.rcv = some n) : WD1 tbl (.fn g [] caps) v h S ↔
    W tbl fi.body (upd (pad caps fi.ntmps) n v) h fun o _ h' => match o with
      | .norm => S h'
      | .ret => S h'
      | _ => False :=
  ⟨fun ⟨k, h', e, q⟩ => by
    simp only [callD, ht, hr] at e
    cases e1 : E tbl k fi.body (upd (pad caps fi.ntmps) n v) h with
    | fail => rw [e1] at e; cases e
    | ok o t' h1 =>
      rw [e1] at e
      refine ⟨k, o, t', h1, e1, ?_⟩
      cases o <;> simp only [Option.some.injEq, reduceCtorEq] at e <;> (subst e; exact q),
   fun ⟨k, o, t', h', e, q⟩ => by
    cases o <;> first | exact q.elim | exact ⟨k, h', by simp only [callD, ht, hr, e], q⟩⟩
theorem WC_dfr {g : Nat} {first caps args : List V} {fi : FI} {pre : C} {x : X} (ht : tbl g = some fi) (hr : fi.rcv = none) (hd : fi.dfr = some (pre, x))
    (hw : W tbl pre (pad (first ++ args ++ caps) fi.ntmps) h fun o t0 h0 => o = .norm ∧ W tbl fi.body t0 h0 fun o t' h1 => match o with
      | .exit _ => False
      | .norm => WD1 tbl (x.ev t0) .in0 h1 fun h2 => resOk (resultsOf t' h2 fi.res) h2 S
      | .ret => WD1 tbl (x.ev t0) .in0 h1 fun h2 => resOk (resultsOf t' h2 fi.res) h2 S
      | .pan v => WD1 tbl (x.ev t0) v h1 fun h2 => resOk (resultsOf t' h2 fi.res) h2 S) : WX tbl (.fn g first caps) args h S Sp := by
  obtain ⟨k, o, t0, h0, e0, rfl, m, o, t', h1, e1, q⟩ := hw
  have main : ∀ v, WD1 tbl (x.ev t0) v h1 (fun h2 => resOk (resultsOf t' h2 fi.res) h2 S) → (o = .norm ∧ v = .in0 ∨ o = .ret ∧ v = .in0 ∨ o = .pan v) → WX tbl (.fn g first caps) args h S Sp := by
    rintro v ⟨j, h2, e2, q⟩ ho
    obtain ⟨r, e3, q3⟩ := ok_finish (fi := fi) (Sp := Sp) q
    refine ⟨max k (max m j), r, ?_, q3⟩
    have e0' := E_up tbl (Nat.le_max_left k (max m j)) e0
    have e1' := E_up tbl (Nat.le_trans (Nat.le_max_left m j) (Nat.le_max_right k (max m j))) e1
    have e2' : callD tbl (E tbl (max k (max m j))) (x.ev t0) v h1 = some h2 := by
      rcases callD_mono (tbl := tbl) (E_le tbl (Nat.le_trans (Nat.le_max_right m j) (Nat.le_max_right k (max m j)))) (x.ev t0) v h1 with e | e
      · rw [e] at e2; cases e2
      · rw [← e]; exact e2
    simp only [callV, ht, hr, hd, e0', e1']
    rcases ho with ⟨rfl, rfl⟩ | ⟨rfl, rfl⟩ | rfl <;> (simp only [e2']; exact e3)
  cases o with
  | exit _ => exact q.elim
  | norm => exact main _ q (.inl ⟨rfl, rfl⟩)
  | ret => exact main _ q (.inr (.inl ⟨rfl, rfl⟩))
  | pan v => exact main _ q (.inr (.inr rfl))
end
end Go.Air
namespace Go.Air
structure Ext (h h' : H) : Prop where
  nx : h.next ≤ h'.next
  same : ∀ b, b < h.next → h'.get b = h.get b
  log : ∃ l, h'.log = l ++ h.log ∧ ∀ b ∈ l, h.next ≤ b
theorem Ext.refl (h : H) : Ext h h := ⟨Nat.le_refl _, fun _ _ => rfl, [], rfl, fun _ hb => by simp at hb⟩
theorem Ext.trans {h h1 h2 : H} (a : Ext h h1) (b : Ext h1 h2) : Ext h h2 := by
  refine ⟨Nat.le_trans a.nx b.nx, fun x hx => (b.same x (Nat.lt_of_lt_of_le hx a.nx)).trans (a.same x hx), ?_⟩
  obtain ⟨l, e, hl⟩ := a.log
  obtain ⟨m, e', hm⟩ := b.log
  refine ⟨m ++ l, by rw [e', e, List.append_assoc], fun x hx => ?_⟩
  rcases List.mem_append.1 hx with hx | hx
  · exact Nat.le_trans a.nx (hm x hx)
  · exact hl x hx
theorem Ext.new {h h1 : H} (a : Ext h h1) (x : Blk) : Ext h (h1.new x) :=
  ⟨Nat.le_succ_of_le a.nx, fun b hb => by rw [H.get_new, if_neg (by have := a.nx; omega)]; exact a.same b hb, a.log⟩
theorem Ext.put {h h1 : H} (a : Ext h h1) {b : Nat} (hb : h.next ≤ b) (x : Blk) : Ext h (h1.put b x) := by
  refine ⟨a.nx, fun c hc => by rw [H.get_put, if_neg (by omega)]; exact a.same c hc, ?_⟩
  obtain ⟨l, e, hl⟩ := a.log
  exact ⟨b :: l, by simp [e], fun c hc => by rcases List.mem_cons.1 hc with rfl | hc; exact hb; exact hl c hc⟩
theorem Ext.kill {h h1 : H} (a : Ext h h1) {b : Nat} (hb : h.next ≤ b) : Ext h (h1.kill b) := by
  refine ⟨a.nx, fun c hc => by rw [H.get_kill, if_neg (by omega)]; exact a.same c hc, ?_⟩
  obtain ⟨l, e, hl⟩ := a.log
  exact ⟨b :: l, by simp [e], fun c hc => by rcases List.mem_cons.1 hc with rfl | hc; exact hb; exact hl c hc⟩
def H.bare (h : H) : H := ⟨h.next, h.mem, []⟩
def H.back (h h' : H) : H := ⟨h'.next, h'.mem, oldOnes h.next h'.log ++ h.log⟩
theorem H.get_bare (h : H) (b : Nat) : h.bare.get b = h.get b := rfl
theorem H.next_bare (h : H) : h.bare.next = h.next := rfl
theorem oldOnes_lt' {n : Nat} : ∀ {l : List Nat} {b : Nat}, b ∈ oldOnes n l → b < n ∧ b ∈ l
  | [], b, hb => by simp [oldOnes] at hb
  | x :: l, b, hb => by
    simp only [oldOnes] at hb
    split at hb
    · rename_i hx
      rcases List.mem_cons.1 hb with rfl | hb
      · exact ⟨by simpa [Nat.blt_eq] using hx, by simp⟩
      · have := oldOnes_lt' hb
        exact ⟨this.1, by simp [this.2]⟩
    · have := oldOnes_lt' hb
      exact ⟨this.1, by simp [this.2]⟩
theorem oldOnes_none {n : Nat} : ∀ {l : List Nat}, (∀ b ∈ l, n ≤ b) → oldOnes n l = []
  | [], _ => rfl
  | x :: l, h => by
    have hx : Nat.blt x n = false := by rw [Bool.eq_false_iff, ne_eq, Nat.blt_eq]; exact Nat.not_lt.2 (h x (by simp))
    simp only [oldOnes, hx, Bool.false_eq_true, if_false]
    exact oldOnes_none fun b hb => h b (by simp [hb])
theorem Ext.old {h h' : H} (a : Ext h.bare h') : oldOnes h.next h'.log = [] := by
  obtain ⟨l, e, hl⟩ := a.log
  have : h'.log = l := by rw [e]; simp [H.bare]
  rw [this]
  exact oldOnes_none hl
theorem Ext.back {h h' : H} (a : Ext h.bare h') : Ext h (h.back h') :=
  ⟨a.nx, a.same, [], by simp [H.back, a.old], fun _ hb => by simp at hb⟩
theorem H.back_new (h : H) (x : Blk) : h.back (h.bare.new x) = h.new x := by
  simp [H.back, H.bare, H.new, oldOnes]
theorem H.back_bare (h : H) : h.back h.bare = h := by
  simp [H.back, H.bare, oldOnes]
theorem cutO_nth : ∀ {cs : List (Option V)} {o n : Nat} {l : List V}, cutO cs o n = some l → ∀ i, i < n → nthO cs (o + i) = l[i]?
  | [], 0, 0, _, _, i, hi => by omega
  | _ :: _, 0, 0, _, _, i, hi => by omega
  | [], 0, _ + 1, _, h, i, hi => by simp [cutO] at h
  | [], _ + 1, _, _, h, i, hi => by simp [cutO] at h
  | x :: cs, 0, n + 1, l, h, i, hi => by
    simp only [cutO] at h
    split at h <;> try simp at h
    rename_i v
    obtain ⟨l', h1, rfl⟩ := h
    cases i with
    | zero => simp [nthO]
    | succ i =>
      have := cutO_nth h1 i (by omega)
      simp only [Nat.zero_add] at this ⊢
      simpa [nthO] using this
  | x :: cs, o + 1, n, l, h, i, hi => by
    simp only [cutO] at h
    have := cutO_nth h i hi
    rw [show o + 1 + i = (o + i) + 1 by omega]
    simpa [nthO] using this
theorem cutO_sub : ∀ {cs : List (Option V)} {o n : Nat} {l : List V}, cutO cs o n = some l → ∀ a m, a + m ≤ n → cutO cs (o + a) m = some ((l.drop a).take m)
  | [], 0, 0, l, h, a, m, ha => by
    simp [cutO] at h; subst h
    obtain rfl : a = 0 := by omega
    obtain rfl : m = 0 := by omega
    simp [cutO]
  | y :: cs, 0, 0, l, h, a, m, ha => by
    simp [cutO] at h; subst h
    obtain rfl : a = 0 := by omega
    obtain rfl : m = 0 := by omega
    simp [cutO]
  | [], 0, _ + 1, _, h, a, m, ha => by simp [cutO] at h
  | [], _ + 1, _, _, h, a, m, ha => by simp [cutO] at h
  | x :: cs, 0, n + 1, l, h, a, m, ha => by
    simp only [cutO] at h
    split at h <;> try simp at h
    rename_i v
    obtain ⟨l', h1, rfl⟩ := h
    cases a with
    | zero =>
      cases m with
      | zero => simp [cutO]
      | succ m =>
        have := cutO_sub h1 0 m (by omega)
        simp only [Nat.add_zero, List.drop_zero] at this ⊢
        simp [cutO, this]
    | succ a =>
      have := cutO_sub h1 a m (by omega)
      simp only [Nat.zero_add] at this ⊢
      simpa [cutO] using this
  | x :: cs, o + 1, n, l, h, a, m, ha => by
    simp only [cutO] at h
    have := cutO_sub h a m ha
    rw [show o + 1 + a = (o + a) + 1 by omega]
    simpa [cutO] using this
theorem rd_length {bl : Blk} {o n : Nat} {l : List V} (h : bl.rd o n = some l) : l.length = n := by
  cases bl with
  | cells cs =>
    obtain ⟨h1, rfl⟩ := cut_eq.1 h
    simp; omega
  | ro cs => exact (cutO_eq h).1
  | map _ => cases h
  | loop _ => cases h
theorem rd_nth {bl : Blk} {o n : Nat} {l : List V} (h : bl.rd o n = some l) {i : Nat} (hi : i < n) : bl.rd1 (o + i) = l[i]? := by
  cases bl with
  | cells cs =>
    obtain ⟨h1, rfl⟩ := cut_eq.1 h
    simp only [Blk.rd1, nth?_eq]
    rw [List.getElem?_take_of_lt hi, List.getElem?_drop]
  | ro cs => exact cutO_nth h i hi
  | map _ => cases h
  | loop _ => cases h
theorem rd_sub {bl : Blk} {o n : Nat} {l : List V} (h : bl.rd o n = some l) {a m : Nat} (ha : a + m ≤ n) : bl.rd (o + a) m = some ((l.drop a).take m) := by
  cases bl with
  | cells cs =>
    obtain ⟨h1, rfl⟩ := cut_eq.1 h
    refine cut_eq.2 ⟨by omega, ?_⟩
    rw [List.drop_take, List.drop_drop, List.take_take]
    congr 1; omega
  | ro cs => exact cutO_sub h a m ha
  | map _ => cases h
  | loop _ => cases h
def lenV : V → Option Nat
  | .sn => some 0
  | .se _ => some 0
  | .sl _ _ n _ _ => some n
  | _ => none
def blkV : V → Nat
  | .sl b _ _ _ _ => b
  | _ => 0
def offV : V → Nat
  | .sl _ o _ _ _ => o
  | _ => 0
def ixV (esz : Nat) (v i : V) : Option V := match v, natOf i with
  | .sl b o len _ _, some n => if n < len then some (.p b (o + n * esz)) else none
  | _, _ => none
def ldV (h : H) : V → Option V
  | .p b o => (h.get b).bind fun bl => bl.rd1 o
  | _ => none
def ldnV (h : H) (n : Nat) : V → Option V
  | .p b o => (h.get b).bind fun bl => (bl.rd o n).map .agg
  | _ => none
section
variable {t : List V} {h : H} {x y ix : X}
theorem ev_lenL : evA noCall (.lenL x) t h = RO.ofV h ((lenV (x.ev t)).map fun (n : Nat) => V.i .i64 (n : Int)) := by
  simp only [evA]
  cases x.ev t <;> rfl
theorem ev_ixS {esz : Nat} : evA noCall (.ixS esz x ix) t h = RO.ofV h (ixV esz (x.ev t) (ix.ev t)) := by
  simp only [evA, ixV]
  cases x.ev t <;> first | (cases natOf (ix.ev t) <;> rfl) | skip
  cases natOf (ix.ev t) with
  | none => rfl
  | some n =>
    simp only [Nat.blt_eq]
    split <;> rfl
theorem ev_ld : evA noCall (.ld x) t h = RO.ofV h (ldV h (x.ev t)) := by
  simp only [evA]
  cases x.ev t <;> try rfl
  simp only [ldV]
  cases h.get _ <;> rfl
theorem ev_ldn {n : Nat} : evA noCall (.ldn n x) t h = RO.ofV h (ldnV h n (x.ev t)) := by
  simp only [evA]
  cases x.ev t <;> try rfl
  simp only [ldnV]
  cases h.get _ with
  | none => rfl
  | some bl =>
    simp only [Option.bind_some]
    cases bl.rd _ n <;> rfl
end
def Sl (esz : Nat) (h : H) (v : V) (n : Nat) (cs : List V) : Prop :=
  (n = 0 ∧ cs = [] ∧ (v = .sn ∨ ∃ a, v = .se a)) ∨ ∃ b off cap g bl, v = .sl b off n cap g ∧ b < h.next ∧ h.get b = some bl ∧ bl.rd off (n * esz) = some cs
section
variable {esz n : Nat} {h h' : H} {v : V} {cs : List V}
theorem Sl.len (s : Sl esz h v n cs) : lenV v = some n := by
  rcases s with ⟨rfl, _, rfl | ⟨a, rfl⟩⟩ | ⟨b, off, cap, g, bl, rfl, _⟩ <;> rfl
theorem Sl.slen (s : Sl esz h v n cs) : sourceLen v = some n := by
  rcases s with ⟨rfl, _, rfl | ⟨a, rfl⟩⟩ | ⟨b, off, cap, g, bl, rfl, _⟩ <;> rfl
theorem Sl.length (s : Sl esz h v n cs) : cs.length = n * esz := by
  rcases s with ⟨rfl, rfl, _⟩ | ⟨b, off, cap, g, bl, rfl, _, _, hr⟩
  · simp
  · exact rd_length hr
theorem Sl.ix (s : Sl esz h v n cs) {i : Nat} (hi : i < n) : ixV esz v (.i .i64 (i : Int)) = some (.p (blkV v) (offV v + i * esz)) := by
  rcases s with ⟨rfl, _, _⟩ | ⟨b, off, cap, g, bl, rfl, _⟩
  · omega
  · simp only [ixV]
    rw [show natOf (.i .i64 (i : Int)) = some i from rfl]
    simp [hi, blkV, offV]
theorem Sl.ix0 (s : Sl esz h v n cs) (hi : 0 < n) : ixV esz v (.i .i64 0) = some (.p (blkV v) (offV v + 0 * esz)) := s.ix hi
theorem Sl.lt (s : Sl esz h v n cs) (hn : 0 < n) : blkV v < h.next := by
  rcases s with ⟨rfl, _, _⟩ | ⟨b, off, cap, g, bl, rfl, hb, _⟩
  · omega
  · exact hb
theorem mul_lt {i n k esz : Nat} (hi : i < n) (hk : k < esz) : i * esz + k < n * esz := by
  have : (i + 1) * esz ≤ n * esz := Nat.mul_le_mul_right _ hi
  rw [Nat.add_mul] at this; omega
theorem Sl.ld (s : Sl esz h v n cs) {i k : Nat} (hi : i < n) (hk : k < esz) : ldV h (.p (blkV v) (offV v + i * esz + k)) = cs[i * esz + k]? := by
  rcases s with ⟨rfl, _, _⟩ | ⟨b, off, cap, g, bl, rfl, _, hg, hr⟩
  · omega
  · simp only [ldV, blkV, offV, hg, Option.bind_some]
    rw [Nat.add_assoc, rd_nth hr (mul_lt hi hk)]
theorem Sl.ld1 (s : Sl 1 h v n cs) {i : Nat} (hi : i < n) : ldV h (.p (blkV v) (offV v + i * 1)) = cs[i]? := by
  have := s.ld (k := 0) hi (by omega)
  simpa using this
theorem Sl.ldn (s : Sl esz h v n cs) {i : Nat} (hi : i < n) : ldnV h esz (.p (blkV v) (offV v + i * esz)) = some (.agg ((cs.drop (i * esz)).take esz)) := by
  rcases s with ⟨rfl, _, _⟩ | ⟨b, off, cap, g, bl, rfl, _, hg, hr⟩
  · omega
  · simp only [ldnV, blkV, offV, hg, Option.bind_some]
    rw [rd_sub hr (by have : (i + 1) * esz ≤ n * esz := Nat.mul_le_mul_right _ hi
                      rw [Nat.add_mul] at this; omega)]
    rfl
theorem Sl.src (s : Sl esz h v n cs) : sourceCells esz n h v = some cs := by
  rcases s with ⟨rfl, rfl, rfl | ⟨a, rfl⟩⟩ | ⟨b, off, cap, g, bl, rfl, _, hg, hr⟩
  · rfl
  · rfl
  · simp only [sourceCells, hg]; exact hr
theorem Sl.ext (s : Sl esz h v n cs) (e : Ext h h') : Sl esz h' v n cs := by
  rcases s with s | ⟨b, off, cap, g, bl, hv, hb, hg, hr⟩
  · exact .inl s
  · exact .inr ⟨b, off, cap, g, bl, hv, Nat.lt_of_lt_of_le hb e.nx, (e.same b hb).trans hg, hr⟩
theorem Sl.bare (s : Sl esz h v n cs) : Sl esz h.bare v n cs := s
theorem Sl.keep (s : Sl esz h v n cs) (hn : h.next ≤ h'.next) (hk : blkV v < h.next → h'.get (blkV v) = h.get (blkV v)) : Sl esz h' v n cs := by
  rcases s with s | ⟨b, off, cap, g, bl, rfl, hb, hg, hr⟩
  · exact .inl s
  · exact .inr ⟨b, off, cap, g, bl, rfl, Nat.lt_of_lt_of_le hb hn, (hk hb).trans hg, hr⟩
def Arg (esz : Nat) (h : H) (v : V) (n : Nat) (cs : List V) : Prop :=
  (n = 0 ∧ cs = [] ∧ (v = .sn ∨ ∃ a, v = .se a)) ∨ ∃ b off cap bl, v = .sl b off n cap none ∧ n ≤ cap ∧ b < h.next ∧ h.get b = some bl ∧ bl.rd off (n * esz) = some cs
theorem Arg.sl (s : Arg esz h v n cs) : Sl esz h v n cs := by
  rcases s with s | ⟨b, off, cap, bl, h1, _, h2⟩
  · exact .inl s
  · exact .inr ⟨b, off, cap, none, bl, h1, h2⟩
theorem Arg.ext (s : Arg esz h v n cs) (e : Ext h h') : Arg esz h' v n cs := by
  rcases s with s | ⟨b, off, cap, bl, hv, hc, hb, hg, hr⟩
  · exact .inl s
  · exact .inr ⟨b, off, cap, bl, hv, hc, Nat.lt_of_lt_of_le hb e.nx, (e.same b hb).trans hg, hr⟩
def slHi (esz : Nat) (v i : V) : Option V := sliceV esz [i] none (some (.t 0)) v
def slLo (esz : Nat) (v i : V) : Option V := sliceV esz [i] (some (.t 0)) none v
def slLH (esz : Nat) (v i j : V) : Option V := sliceV esz [i, j] (some (.t 0)) (some (.t 1)) v
theorem bounds_hi {t : List V} {len cap b : Nat} {x : X} (hb : natOf (x.ev t) = some b) (hc : b ≤ cap) : bounds t len cap none (some x) = some (0, b) := by
  have h1 : Nat.ble b cap = true := by rw [Nat.ble_eq]; exact hc
  have h2 : Nat.ble 0 b = true := by rw [Nat.ble_eq]; omega
  simp only [bounds, hb, h1, h2, if_true]
theorem bounds_lo {t : List V} {len cap a : Nat} {x : X} (ha : natOf (x.ev t) = some a) (hl : len ≤ cap) (hc : a ≤ len) : bounds t len cap (some x) none = some (a, len) := by
  have h1 : Nat.ble len cap = true := by rw [Nat.ble_eq]; exact hl
  have h2 : Nat.ble a len = true := by rw [Nat.ble_eq]; exact hc
  simp only [bounds, ha, h1, h2, if_true]
theorem bounds_lh {t : List V} {len cap a b : Nat} {x y : X} (ha : natOf (x.ev t) = some a) (hb : natOf (y.ev t) = some b) (hl : b ≤ cap) (hc : a ≤ b) : bounds t len cap (some x) (some y) = some (a, b) := by
  have h1 : Nat.ble b cap = true := by rw [Nat.ble_eq]; exact hl
  have h2 : Nat.ble a b = true := by rw [Nat.ble_eq]; exact hc
  simp only [bounds, ha, hb, h1, h2, if_true]
theorem Arg.part (s : Arg esz h v n cs) {a b : Nat} (hab : a ≤ b) (hb : b ≤ n) {lo hi : Option X} {t : List V} (hbd : ∀ cap, n ≤ cap → bounds t n cap lo hi = some (a, b)) :
    ∃ u, sliceV esz t lo hi v = some u ∧ Arg esz h u (b - a) ((cs.drop (a * esz)).take ((b - a) * esz)) := by
  rcases s with ⟨rfl, rfl, hv⟩ | ⟨b', off, cap, bl, rfl, hc, hb', hg', hr⟩
  · obtain rfl : b = 0 := by omega
    obtain rfl : a = 0 := by omega
    have := hbd 0 (Nat.le_refl _)
    rcases hv with rfl | ⟨ad, rfl⟩
    · exact ⟨.sn, by simp only [sliceV, this], .inl ⟨rfl, by simp, .inl rfl⟩⟩
    · exact ⟨.se ad, by simp only [sliceV, this], .inl ⟨rfl, by simp, .inr ⟨ad, rfl⟩⟩⟩
  · have key : bl.rd (off + a * esz) ((b - a) * esz) = some ((cs.drop (a * esz)).take ((b - a) * esz)) := rd_sub hr (by
      have : (a + (b - a)) * esz ≤ n * esz := Nat.mul_le_mul_right _ (by omega)
      rw [Nat.add_mul] at this; exact this)
    simp only [sliceV, hbd cap hc]
    refine ⟨_, rfl, .inr ⟨b', _, cap - a, bl, rfl, by omega, hb', hg', ?_⟩⟩
    by_cases hac : a = cap
    · have h1 : Nat.beq a cap = true := by rw [Nat.beq_eq]; exact hac
      have h0 : b - a = 0 := by omega
      rw [h1, if_pos rfl, h0]
      have := rd_sub hr (a := 0) (m := 0) (by omega)
      simpa using this
    · have h1 : Nat.beq a cap = false := by rw [Bool.eq_false_iff, ne_eq, Nat.beq_eq]; exact hac
      rw [h1, if_neg (by simp)]
      exact key
theorem Arg.hi (s : Arg esz h v n cs) {b : Nat} (hb : b ≤ n) : ∃ u, slHi esz v (.i .i64 (b : Int)) = some u ∧ Arg esz h u b (cs.take (b * esz)) := by
  have := s.part (a := 0) (t := [.i .i64 (b : Int)]) (lo := none) (hi := some (.t 0)) (Nat.zero_le b) hb (fun cap hc => bounds_hi rfl (by omega))
  simpa [slHi] using this
theorem Arg.lo (s : Arg esz h v n cs) {a : Nat} (ha : a ≤ n) : ∃ u, slLo esz v (.i .i64 (a : Int)) = some u ∧ Arg esz h u (n - a) (cs.drop (a * esz)) := by
  have := s.part (b := n) (t := [.i .i64 (a : Int)]) (lo := some (.t 0)) (hi := none) ha (Nat.le_refl n) (fun cap hc => bounds_lo rfl hc ha)
  obtain ⟨u, h1, h2⟩ := this
  refine ⟨u, h1, ?_⟩
  rw [List.take_of_length_le] at h2
  · exact h2
  · have := s.sl.length
    rw [List.length_drop, this, ← Nat.sub_mul]
    exact Nat.le_refl _
theorem Arg.lh (s : Arg esz h v n cs) {a b : Nat} (hab : a ≤ b) (hb : b ≤ n) : ∃ u, slLH esz v (.i .i64 (a : Int)) (.i .i64 (b : Int)) = some u ∧ Arg esz h u (b - a) ((cs.drop (a * esz)).take ((b - a) * esz)) :=
  s.part (t := [.i .i64 (a : Int), .i .i64 (b : Int)]) (lo := some (.t 0)) (hi := some (.t 1)) hab hb (fun cap hc => bounds_lh rfl rfl (by omega) hab)
end
def Own (h0 : H) (esz : Nat) (h : H) (v : V) (n : Nat) (cs : List V) : Prop :=
  cs.length = n * esz ∧ ((n = 0 ∧ v = .sn) ∨ ∃ b g, v = .sl b 0 n n g ∧ (g = none ∨ g = some esz) ∧ h0.next ≤ b ∧ b < h.next ∧ h.get b = some (.cells cs))
section
variable {esz bytes n m : Nat} {h0 h h' : H} {v x : V} {cs new : List V}
theorem Own.nil : Own h0 esz h .sn 0 [] := ⟨by simp, .inl ⟨rfl, rfl⟩⟩
theorem Own.len (o : Own h0 esz h v n cs) : cs.length = n * esz := o.1
theorem Own.sl (o : Own h0 esz h v n cs) : Sl esz h v n cs := by
  obtain ⟨hl, ⟨rfl, rfl⟩ | ⟨b, g, rfl, _, _, hb, hg⟩⟩ := o
  · exact .inl ⟨rfl, List.eq_nil_of_length_eq_zero (by rw [hl]; simp), .inl rfl⟩
  · refine .inr ⟨b, 0, n, g, _, rfl, hb, hg, ?_⟩
    exact cut_eq.2 ⟨by omega, by rw [← hl]; simp⟩
theorem Own.ge (o : Own h0 esz h v n cs) (hv : v ≠ .sn) : h0.next ≤ blkV v := by
  obtain ⟨hl, ⟨rfl, rfl⟩ | ⟨b, g, rfl, _, hb, _⟩⟩ := o
  · exact absurd rfl hv
  · exact hb
theorem Own.keep (o : Own h0 esz h v n cs) (hn : h.next ≤ h'.next) (hk : blkV v < h.next → h'.get (blkV v) = h.get (blkV v)) : Own h0 esz h' v n cs := by
  obtain ⟨hl, o | ⟨b, g, rfl, hv, h1, h2, hg⟩⟩ := o
  · exact ⟨hl, .inl o⟩
  · exact ⟨hl, .inr ⟨b, g, rfl, hv, h1, Nat.lt_of_lt_of_le h2 hn, (hk h2).trans hg⟩⟩
theorem Own.ext (o : Own h0 esz h v n cs) (e : Ext h h') : Own h0 esz h' v n cs := o.keep e.nx (fun hb => e.same _ hb)
theorem Own.mono {h1 : H} (o : Own h1 esz h v n cs) (hn : h0.next ≤ h1.next) : Own h0 esz h v n cs := by
  obtain ⟨hl, o | ⟨b, g, rfl, hv, q1, q2⟩⟩ := o
  · exact ⟨hl, .inl o⟩
  · exact ⟨hl, .inr ⟨b, g, rfl, hv, Nat.le_trans hn q1, q2⟩⟩
theorem Own.lit (e : Ext h0 h) (cs : List V) (n : Nat) (hn : cs.length = n * esz) : Own h0 esz (h.new (.cells cs)) (.sl h.next 0 n n none) n cs ∧ Ext h0 (h.new (.cells cs)) :=
  ⟨⟨hn, .inr ⟨h.next, none, rfl, .inl rfl, e.nx, by simp, by rw [H.get_new, if_pos rfl]⟩⟩, e.new _⟩
theorem Own.app (o : Own h0 esz h v n cs) (e : Ext h0 h) (s : Sl esz h x m new) (hone : ∀ u ∈ new, u.oneCell = true) (hb : 0 < bytes) (hz : 0 < esz) (hm : (2 * (n + m) + 200) * bytes ≤ 281474976710656) :
    ∃ v' h', appendV esz bytes h v x = .ok v' h' ∧ Ext h0 h' ∧ Own h0 esz h' v' (n + m) (cs ++ new) ∧ h.next ≤ h'.next ∧ (∀ b, b < h.next → (v = .sn ∨ b ≠ blkV v) → h'.get b = h.get b) ∧ (0 < m → blkV v' = h.next) := by
  have hall : new.all V.oneCell = true := List.all_eq_true.2 hone
  have hlim : (Nat.ble ((2 * m + 200) * bytes) 281474976710656 && Nat.blt 0 bytes && Nat.blt 0 esz) = true := by
    have : (2 * m + 200) * bytes ≤ (2 * (n + m) + 200) * bytes := Nat.mul_le_mul_right _ (by omega)
    simp only [Bool.and_eq_true, Nat.ble_eq, Nat.blt_eq]
    exact ⟨⟨by omega, hb⟩, hz⟩
  have hnl := s.length
  unfold appendV
  simp only [s.slen, s.src, hlim, if_true]
  obtain ⟨hl, ⟨rfl, rfl⟩ | ⟨b, g, rfl, hgg, h1, h2, hg⟩⟩ := o
  · obtain rfl : cs = [] := List.eq_nil_of_length_eq_zero (by rw [hl]; simp)
    by_cases hm0 : m = 0
    · subst hm0
      obtain rfl : new = [] := List.eq_nil_of_length_eq_zero (by rw [hnl]; simp)
      exact ⟨.sn, h, rfl, e, .nil, Nat.le_refl _, fun _ _ _ => rfl, fun hm => by omega⟩
    · have : Nat.beq m 0 = false := by rw [Bool.eq_false_iff, ne_eq, Nat.beq_eq]; exact hm0
      simp only [this, Bool.false_eq_true, if_false]
      refine ⟨_, _, rfl, e.new _, ⟨by simp [hnl], .inr ⟨h.next, some esz, by simp, .inr rfl, e.nx, by simp, by rw [H.get_new, if_pos rfl]; simp⟩⟩, by simp, fun c hc _ => by rw [H.get_new, if_neg (by omega)], fun _ => rfl⟩
  · by_cases hm0 : m = 0
    · subst hm0
      obtain rfl : new = [] := List.eq_nil_of_length_eq_zero (by rw [hnl]; simp)
      have h3 : Nat.ble (n + 0) n = true := by rw [Nat.ble_eq]; omega
      have h4 : lay cs (n * esz) [] = some cs := lay_eq.2 ⟨by simp; omega, by simp⟩
      have hs : storeAt h b (0 + n * esz) [] = some (h.put b (.cells cs)) := by
        simp only [storeAt, hg, Nat.zero_add, h4, List.all_nil, if_true]
      simp only [h3, if_true, hs]
      refine ⟨_, _, rfl, e.put h1 _, ⟨by simpa using hl, .inr ⟨b, g, by simp, hgg, h1, h2, by rw [H.get_put, if_pos rfl]; simp⟩⟩, by simp, fun c _ hc => by rw [H.get_put, if_neg (by simpa [blkV] using hc)], fun hm => by omega⟩
    · have h3 : Nat.ble (n + m) n = false := by rw [Bool.eq_false_iff, ne_eq, Nat.ble_eq]; omega
      have h4 : Nat.ble ((2 * (n + m) + 200) * bytes) 281474976710656 = true := by rw [Nat.ble_eq]; exact hm
      have h5 : cut cs 0 (n * esz) = some cs := cut_eq.2 ⟨by omega, by rw [← hl]; simp⟩
      have h6 : Nat.beq cs.length (n * esz) = true := by rw [Nat.beq_eq]; exact hl
      have h7 : Nat.beq esz esz = true := by simp
      have h8 : Nat.beq 0 0 = true := rfl
      rcases hgg with rfl | rfl
      · simp only [h3, Bool.false_eq_true, if_false, h4, if_true, hg, Blk.rd, h5]
        refine ⟨_, _, rfl, e.new _, ⟨by simp [hl, hnl, Nat.add_mul], .inr ⟨h.next, some esz, by simp, .inr rfl, e.nx, by simp, by rw [H.get_new, if_pos rfl]⟩⟩, by simp, fun c hc hcb => ?_, fun _ => rfl⟩
        rw [H.get_new, if_neg (by omega)]
      · simp only [h3, Bool.false_eq_true, if_false, h4, if_true, hg, h5, h6, h7, h8, hall, Bool.and_self]
        refine ⟨_, _, rfl, (e.kill h1).new _, ⟨by simp [hl, hnl, Nat.add_mul], .inr ⟨h.next, some esz, by simp, .inr rfl, e.nx, by simp, by rw [H.get_kn, if_pos rfl]⟩⟩, by simp, fun c hc hcb => ?_, fun _ => rfl⟩
        rw [H.get_kn, if_neg (by omega), if_neg (by simpa [blkV] using hcb)]
theorem storeAt_bare {b o : Nat} {vs : List V} {h h' : H} (hs : storeAt h b o vs = some h') : ∃ l, h'.log = l ++ h.log ∧ storeAt h.bare b o vs = some ⟨h'.next, h'.mem, l⟩ := by
  unfold storeAt at hs ⊢
  rw [H.get_bare]
  split at hs <;> try simp only [reduceCtorEq] at hs
  split at hs <;> try simp only [reduceCtorEq] at hs
  split at hs <;> simp only [Option.some.injEq, reduceCtorEq] at hs
  rename_i q1 _ cs' q2 q3
  subst hs
  exact ⟨[b], rfl, by simp only [q2, q3, if_true]; rfl⟩
theorem source_bare {h : H} {esz n : Nat} {x : V} : sourceCells esz n h.bare x = sourceCells esz n h x := by cases x <;> rfl
theorem append_bare {esz bytes : Nat} {h h' : H} {v x v' : V} (ha : appendV esz bytes h v x = .ok v' h') : ∃ l, h'.log = l ++ h.log ∧ appendV esz bytes h.bare v x = .ok v' ⟨h'.next, h'.mem, l⟩ := by
  unfold appendV at ha ⊢
  cases q1 : sourceLen x with
  | none => simp only [q1, reduceCtorEq] at ha
  | some n =>
    simp only [q1] at ha ⊢
    rw [source_bare]
    cases q2 : sourceCells esz n h x with
    | none => simp only [q2, reduceCtorEq] at ha
    | some new =>
      simp only [q2] at ha ⊢
      split at ha <;> try simp only [reduceCtorEq] at ha
      rename_i q3
      rw [if_pos q3]
      cases v <;> try simp only [reduceCtorEq] at ha
      case sn =>
        simp only at ha ⊢
        split at ha <;> (rename_i q4; simp only [RO.ok.injEq] at ha; obtain ⟨rfl, rfl⟩ := ha)
        · rw [if_pos q4]; exact ⟨[], rfl, rfl⟩
        · rw [if_neg q4]; exact ⟨[], rfl, rfl⟩
      case se a =>
        simp only at ha ⊢
        split at ha <;> (rename_i q4; simp only [RO.ok.injEq] at ha; obtain ⟨rfl, rfl⟩ := ha)
        · rw [if_pos q4]; exact ⟨[], rfl, rfl⟩
        · rw [if_neg q4]; exact ⟨[], rfl, rfl⟩
      case sl blk off len cap g =>
        simp only at ha ⊢
        split at ha
        · rename_i q4
          rw [if_pos q4]
          split at ha <;> simp only [RO.ok.injEq, reduceCtorEq] at ha
          rename_i hs
          obtain ⟨rfl, rfl⟩ := ha
          obtain ⟨l, e1, e2⟩ := storeAt_bare hs
          exact ⟨l, e1, by rw [e2]⟩
        · rename_i q4
          rw [if_neg q4]
          split at ha <;> try simp only [reduceCtorEq] at ha
          rename_i q5
          rw [if_pos q5]
          cases g with
          | none =>
            simp only [H.get_bare] at ha ⊢
            cases q6 : h.get blk with
            | none => simp only [q6, reduceCtorEq] at ha
            | some bl =>
              simp only [q6] at ha ⊢
              cases q7 : bl.rd off (len * esz) with
              | none => simp only [q7, reduceCtorEq] at ha
              | some old =>
                simp only [q7, RO.ok.injEq] at ha ⊢
                obtain ⟨rfl, rfl⟩ := ha
                exact ⟨[], rfl, rfl, rfl⟩
          | some e =>
            simp only [H.get_bare] at ha ⊢
            cases q6 : h.get blk with
            | none => simp only [q6, reduceCtorEq] at ha
            | some bl =>
              cases bl <;> simp only [q6, reduceCtorEq] at ha ⊢
              rename_i cs
              cases q7 : cut cs off (len * esz) with
              | none => simp only [q7, reduceCtorEq] at ha
              | some old =>
                simp only [q7] at ha ⊢
                split at ha <;> simp only [RO.ok.injEq, reduceCtorEq] at ha
                rename_i q8
                rw [if_pos q8]
                obtain ⟨rfl, rfl⟩ := ha
                exact ⟨[blk], rfl, rfl⟩
theorem oldOnes_mem {n : Nat} : ∀ {l : List Nat} {b : Nat}, b ∈ oldOnes n l → b ∈ l := fun hb => (oldOnes_lt' hb).2
theorem Own.appB (o : Own h0 esz h v n cs) (e : Ext h0 h) (s : Sl esz h x m new) (hone : ∀ u ∈ new, u.oneCell = true) (hb : 0 < bytes) (hz : 0 < esz) (hm : (2 * (n + m) + 200) * bytes ≤ 281474976710656) :
    ∃ v' hb g, appendV esz bytes h.bare v x = .ok v' hb ∧ h.back hb = g ∧ Ext h0 g ∧ Own h0 esz g v' (n + m) (cs ++ new) ∧ h.next ≤ g.next ∧ (∀ b, b < h.next → (v = .sn ∨ b ≠ blkV v) → g.get b = h.get b) ∧ (0 < m → blkV v' = h.next) := by
  obtain ⟨v', h', q1, q2, q3, q4, q5, q6⟩ := o.app e s hone hb hz hm
  obtain ⟨l, e1, e2⟩ := append_bare q1
  refine ⟨v', _, _, e2, rfl, ⟨q2.nx, q2.same, ?_⟩, ?_, q4, q5, q6⟩
  · obtain ⟨l1, f1, f2⟩ := e.log
    obtain ⟨l2, g1, g2⟩ := q2.log
    refine ⟨oldOnes h.next l ++ l1, by simp [H.back, f1], fun b hb => ?_⟩
    rcases List.mem_append.1 hb with hb | hb
    · have hb := oldOnes_mem hb
      have : l2 = l ++ l1 := by
        rw [e1, f1, ← List.append_assoc] at g1
        exact (List.append_cancel_right g1).symm
      exact g2 b (by rw [this]; exact List.mem_append_left _ hb)
    · exact f2 b hb
  · obtain ⟨hl, o | ⟨b, gg, r1, r2, r3, r4, r5⟩⟩ := q3
    · exact ⟨hl, .inl o⟩
    · exact ⟨hl, .inr ⟨b, gg, r1, r2, r3, r4, r5⟩⟩
end
end Go.Air
