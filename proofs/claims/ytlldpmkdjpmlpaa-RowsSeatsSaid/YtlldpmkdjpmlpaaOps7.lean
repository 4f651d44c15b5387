/-
  One operation on both sides. Seventh part: maps; and all operations together.
-/
import Derived.Test.YtlldpmkdjpmlpaaOps6
set_option linter.unusedSectionVars false
set_option linter.unusedVariables false
set_option linter.unusedSimpArgs false
namespace Go.Air
section
variable {P : Program} {F : Nat → Prop} {R : Emb} {h h' : H} {w : World} {t : List V} {ρ : Operand → Value} {v : V}
  {dst : Option Tmp} {op : Op} {ty : TypeId} {pos : String} {af : Array Edge} {gd : Option (Nat × Bool)} {call : V → List V → H → RO}

theorem check_scalar {n : Nat} {em : Bool} {t : TypeId} {u : Value} (hs : scalarT P t = true) : (Instr.checkKey em (n + 1) t u).run P w = .ok () w := by
  unfold scalarT at hs
  split at hs <;> try simp at hs
  all_goals (rename_i hu; simp [Instr.checkKey, run_underlying hu])

theorem flatF_parts : ∀ {d off : Nat} {fs : List Field} {ks : List KT}, flatF P d off fs = some ks → ∀ f ∈ fs, ∃ l, isSz P f.type l ∧ f.offset + l ≤ off + ks.length ∧ (aggT P f.type = true ∨ plainT P f.type = true ∧ l = 1)
  | 0, _, _, _, hh => by simp [flatF] at hh
  | d + 1, off, [], ks, hh => by simp
  | d + 1, off, g :: fs, ks, hh => by
    simp only [flatF] at hh
    split at hh <;> try simp at hh
    split at hh <;> try simp at hh
    rename_i l hl
    obtain ⟨⟨ho, hsz⟩, ks', hks, rfl⟩ := hh
    intro f hf
    rcases List.mem_cons.1 hf with rfl | hf
    · exact ⟨l.length, hsz, by simp; omega, flatT_kind hl⟩
    · obtain ⟨m, h1, h2, h3⟩ := flatF_parts hks f hf
      exact ⟨m, h1, by simp; omega, h3⟩

theorem check_fields {n : Nat} {em : Bool} {vx : List Value} : ∀ (fs : List Field), (∀ f ∈ fs, scalarT P f.type = true) → (∀ f ∈ fs, ∃ l, isSz P f.type l ∧ f.offset + l ≤ vx.length ∧ (aggT P f.type = true ∨ plainT P f.type = true ∧ l = 1)) →
    (forIn fs () fun f _ => (do
      if f.name ≠ "_" then Instr.checkKey em (n + 1) f.type (← part f.type vx.toArray f.offset)
      pure (ForInStep.yield ()) : Sem (ForInStep Unit))).run P w = .ok () w
  | [], _, _ => by simp
  | f :: fs, hs, hp => by
    have ih := check_fields (n := n) (em := em) (vx := vx) fs (fun g hg => hs g (by simp [hg])) (fun g hg => hp g (by simp [hg]))
    obtain ⟨l, h1, h2, h3⟩ := hp f (by simp)
    have hpart : ∃ u, (part f.type vx.toArray f.offset).run P w = .ok u w := by
      rcases h3 with h3 | ⟨h3, rfl⟩
      · exact ⟨_, run_part_aggT h3 h1⟩
      · have : f.offset < vx.length := by omega
        exact ⟨_, run_part_plainT (cs := vx.toArray) (x := vx[f.offset]) h3 (by simp [this])⟩
    obtain ⟨u, hu⟩ := hpart
    rw [List.forIn_cons]
    by_cases hn : f.name = "_"
    · simp only [ne_eq, hn, not_true_eq_false, if_false, Sem.run_bind, Sem.run_pure, Result.andThen_ok]
      simpa using ih
    · simp only [ne_eq, hn, not_false_eq_true, if_true, Sem.run_bind, hu, Result.andThen_ok, check_scalar (hs f (by simp)), Sem.run_pure]
      simpa using ih

theorem check_struct {n : Nat} {em : Bool} {t : TypeId} {fs : Array Field} {vx : List Value} (hu : P.underlying t = some (.struct fs)) (h1 : ∀ f ∈ fs.toList, scalarT P f.type = true) (h2 : ∀ f ∈ fs.toList, ∃ l, isSz P f.type l ∧ f.offset + l ≤ vx.length ∧ (aggT P f.type = true ∨ plainT P f.type = true ∧ l = 1)) :
    (Instr.checkKey em (n + 1 + 1) t (.agg vx.toArray)).run P w = .ok () w := by
  have := check_fields (P := P) (w := w) (n := n) (em := em) (vx := vx) fs.toList h1 h2
  unfold Instr.checkKey
  simp only [Sem.run_bind, run_underlying hu, Result.andThen_ok]
  rw [← Array.forIn_toList]
  exact Eq.trans (congrArg (fun r : Result PUnit => r.andThen fun _ w' => (pure () : Sem Unit).run P w') this) rfl

theorem flatT_struct_gen {d : Nat} {t : TypeId} {fs : Array Field} {l : List KT} (hu : P.underlying t = some (.struct fs)) (hl : flatT P (d + 1) t = some l) : flatF P d 0 fs.toList = some l := by
  unfold flatT at hl
  rw [hu] at hl
  have hl : (if P.stoodInHeld t then none else flatF P d 0 fs.toList) = some l := hl
  split at hl <;> try simp at hl
  exact hl
theorem flatT_struct {t : TypeId} {fs : Array Field} {l : List KT} (hu : P.underlying t = some (.struct fs)) (hl : flatT P 40 t = some l) : flatF P 39 0 fs.toList = some l := flatT_struct_gen (d := 39) hu hl

theorem check_key {kt : TypeId} {kk : KK} {k : V} {u : Value} {em : Bool} (hk : okKK P kt kk = true) (hf : kk.fits k = true) (hc : conc R k = some u) : (Instr.checkKey em 10000 kt u).run P w = .ok () w := by
  cases kk with
  | sc q =>
    have hk : (match P.underlying kt with | some d => ktD q d | none => false) = true := hk
    split at hk <;> try simp at hk
    rename_i d hu
    refine check_scalar (n := 9999) ?_
    unfold scalarT
    rw [hu]
    cases d <;> cases q <;> simp [ktD] at hk <;> rfl
  | ag ks =>
    have hk : ((match P.underlying kt with
      | some (.struct fs) => fs.toList.all fun f => scalarT P f.type
      | _ => false) && (match flatT P 40 kt with | some l => sameKs l ks | none => false)) = true := hk
    rw [Bool.and_eq_true] at hk
    obtain ⟨h1, h2⟩ := hk
    split at h1 <;> try simp at h1
    rename_i fs hu
    split at h2 <;> try simp at h2
    rename_i l hl
    obtain rfl := sameKs_eq h2
    cases k <;> simp only [KK.fits, Bool.false_eq_true] at hf
    rename_i c
    obtain ⟨vx, hvx, rfl⟩ := conc_agg hc
    have hlen : vx.length = l.length := (concL_length hvx).trans (fitL_length hf)
    have hfl : flatF P 39 0 fs.toList = some l := flatT_struct hu hl
    have hp := flatF_parts hfl
    refine check_struct (n := 9998) hu (fun f hf => by
      obtain ⟨i, hi, e⟩ := List.getElem_of_mem hf
      have := h1 i (by simpa using hi)
      simpa [← e] using this) (fun f hf => by
      obtain ⟨m, q1, q2, q3⟩ := hp f hf
      exact ⟨m, q1, by omega, q3⟩)

/-- where a key stands, and its value. -/
def fi (kk : KK) (k : V) : List (V × V) → Nat → Option (Option (Nat × V))
  | [], _ => some none
  | e :: es, i => if kk.fits e.1 then (if keyEq k e.1 then some (some (i, e.2)) else fi kk k es (i + 1)) else none

theorem find_fi (kk : KK) (k : V) : ∀ (es : List (V × V)) (i : Nat), find kk k es = (fi kk k es i).map (·.map (·.2))
  | [], i => by simp [find, fi]
  | e :: es, i => by
    simp only [find, fi]
    split
    · split
      · simp
      · exact find_fi kk k es (i + 1)
    · simp

theorem mput_fi (kk : KK) (k v : V) : ∀ (es : List (V × V)) (i : Nat) (es' : List (V × V)), mput kk k v es = some es' →
    (fi kk k es i = some none ∧ es' = es ++ [(k, v)]) ∨ (∃ j old, fi kk k es i = some (some (i + j, old)) ∧ j < es.length ∧ ∃ e, es[j]? = some e ∧ keyEq k e.1 = true ∧ kk.fits e.1 = true ∧ es' = es.set j (e.1, v))
  | [], i, es', hm => by
    simp [mput] at hm
    subst hm
    exact .inl ⟨rfl, rfl⟩
  | e :: es, i, es', hm => by
    simp only [mput] at hm
    split at hm <;> try simp at hm
    rename_i hf
    split at hm
    · rename_i hk
      simp at hm
      subst hm
      exact .inr ⟨0, e.2, by simp [fi, hf, hk], by simp, e, by simp, hk, hf, by simp⟩
    · rename_i hk
      simp at hm
      obtain ⟨es1, h1, rfl⟩ := hm
      rcases mput_fi kk k v es (i + 1) es1 h1 with ⟨q1, rfl⟩ | ⟨j, old, q1, q2, e', q3, q4, q5, rfl⟩
      · exact .inl ⟨by simp [fi, hf, hk, q1], by simp⟩
      · exact .inr ⟨j + 1, old, by simp [fi, hf, hk, q1]; omega, by simp; omega, e', by simpa using q3, q4, q5, by simp⟩

theorem scalarEq_conc {k : KT} {x y : V} (hx : k.fits x = true) (hy : k.fits y = true) (he : scalarEq x y = true) : x = y := by
  unfold KT.fits at hx hy
  split at hx <;> try simp at hx
  · split at hy <;> try simp at hy
    · simp [scalarEq] at he; rw [he]
    · rename_i e; cases e
    · rename_i e; cases e
  · split at hy <;> try simp at hy
    · rename_i e; cases e
    · rename_i e
      simp only [KT.i.injEq] at e
      subst e hx hy
      simp [scalarEq] at he; rw [he]
    · rename_i e; cases e
  · split at hy <;> try simp at hy
    · rename_i e; cases e
    · rename_i e; cases e
    · simp only [scalarEq] at he
      rw [(bytesEq_iff _ _).1 he]

theorem cellsEq_conc : ∀ {ks : List KT} {xs ys : List V}, fitL ks xs = true → fitL ks ys = true → cellsEq xs ys = true → xs = ys
  | [], [], [], _, _, _ => rfl
  | [], _ :: _, _, hx, _, _ => by simp [fitL] at hx
  | [], [], _ :: _, _, hy, _ => by simp [fitL] at hy
  | _ :: _, [], _, hx, _, _ => by simp [fitL] at hx
  | _ :: _, _ :: _, [], _, hy, _ => by simp [fitL] at hy
  | k :: ks, x :: xs, y :: ys, hx, hy, he => by
    simp only [fitL, Bool.and_eq_true] at hx hy
    simp only [cellsEq, Bool.and_eq_true] at he
    rw [scalarEq_conc hx.1 hy.1 he.1, cellsEq_conc hx.2 hy.2 he.2]

theorem keyEq_conc {kk : KK} {x y : V} (hx : kk.fits x = true) (hy : kk.fits y = true) (he : keyEq x y = true) : x = y := by
  cases kk with
  | sc k =>
    simp only [KK.fits] at hx hy
    have : keyEq x y = scalarEq x y := by
      cases x <;> cases y <;> first | rfl | (simp [KT.fits] at hx; done)
    rw [this] at he
    exact scalarEq_conc hx hy he
  | ag ks =>
    cases x <;> simp only [KK.fits, Bool.false_eq_true] at hx
    cases y <;> simp only [KK.fits, Bool.false_eq_true] at hy
    rw [cellsEq_conc hx hy he]

/-- entries of the model's and of Air's. -/
def EntRel (R : Emb) : List (V × V) → List MapEntry → Prop
  | [], [] => True
  | e :: es, m :: ms => conc R e.1 = some m.key ∧ conc R e.2 = some m.val ∧ EntRel R es ms
  | _, _ => False

theorem entRel_of : ∀ {es : List (V × V)} {ms : List MapEntry}, concM R es = some (ms.map fun e => (e.key, e.val)) → EntRel R es ms
  | [], [], _ => trivial
  | [], m :: ms, hh => by simp [concM] at hh
  | (a, b) :: es, ms, hh => by
    obtain ⟨x, y, w, h1, h2, h3, h4⟩ := concM_cons.1 hh
    cases ms with
    | nil => simp at h4
    | cons m ms =>
      simp only [List.map_cons, List.cons.injEq, Prod.mk.injEq] at h4
      obtain ⟨⟨rfl, rfl⟩, rfl⟩ := h4
      exact ⟨h1, h2, entRel_of h3⟩
theorem of_entRel : ∀ {es : List (V × V)} {ms : List MapEntry}, EntRel R es ms → concM R es = some (ms.map fun e => (e.key, e.val))
  | [], [], _ => by simp [concM]
  | [], m :: ms, hh => hh.elim
  | _ :: _, [], hh => hh.elim
  | (a, b) :: es, m :: ms, ⟨h1, h2, h3⟩ => concM_cons.2 ⟨_, _, _, h1, h2, of_entRel h3, rfl⟩

def FoundRel (R : Emb) : Option (Nat × V) → Option (Nat × Value) → Prop
  | none, none => True
  | some (i, v), some (j, x) => i = j ∧ conc R v = some x
  | _, _ => False

theorem findNow_run {q : KT} {d : TypeDesc} {k : V} {u : Value} (hd : ktD q d = true) (hf : q.fits k = true) (hc : conc R k = some u) : ∀ (es : List (V × V)) (ms : List MapEntry) (i : Nat) (r : Option (Nat × V)),
    EntRel R es ms → fi (.sc q) k es i = some r → ∃ o, Instr.findNow d u ms i = some o ∧ FoundRel R r o
  | [], [], i, r, _, hr => by
    simp [fi] at hr
    subst hr
    exact ⟨none, by simp [Instr.findNow], trivial⟩
  | [], _ :: _, _, _, hh, _ => hh.elim
  | _ :: _, [], _, _, hh, _ => hh.elim
  | e :: es, m :: ms, i, r, ⟨h1, h2, h3⟩, hr => by
    simp only [fi] at hr
    split at hr <;> try simp at hr
    rename_i hfe
    simp only [KK.fits] at hfe
    have hsame : Instr.sameNow d u m.key = some (keyEq k e.1) := by
      rcases fits_conc hf hc with ⟨b, rfl, rfl, rfl⟩ | ⟨kd, n, rfl, rfl, rfl⟩ | ⟨l, rfl, rfl, rfl, hl⟩
      · rcases fits_conc hfe h1 with ⟨b', _, hv, hu⟩ | ⟨_, _, e1, _⟩ | ⟨_, e1, _⟩ <;> try cases e1
        cases d <;> simp [ktD] at hd
        rw [hu, hv]
        rfl
      · rcases fits_conc hfe h1 with ⟨_, e1, _⟩ | ⟨kd', n', e1, hv, hu⟩ | ⟨_, e1, _⟩ <;> try cases e1
        cases d <;> simp [ktD] at hd
        rw [hu, hv]
        simp only [Instr.sameNow, keyEq, scalarEq]
        first | rfl | (congr 1; done) | (rw [Bool.eq_iff_iff]; simp)
      · rcases fits_conc hfe h1 with ⟨_, e1, _⟩ | ⟨_, _, e1, _⟩ | ⟨l', e1, hv, hu, hl'⟩ <;> try cases e1
        cases d <;> simp [ktD] at hd
        rw [hu, hv]
        simp only [Instr.sameNow, keyEq, scalarEq]
        rw [beq_toListBytes, toList_byteArr, toList_byteArr, bytesEq_map _ _ hl hl']
    simp only [Instr.findNow, hsame]
    split at hr
    · rename_i hk
      simp at hr
      subst hr
      rw [hk]
      exact ⟨_, rfl, rfl, h2⟩
    · rename_i hk
      have hk' : keyEq k e.1 = false := by simpa using hk
      rw [hk']
      exact findNow_run hd hf hc es ms (i + 1) r h3 hr

theorem findAsking_run {kt : TypeId} {ks : List KT} {c : List V} {vc : List Value} (hag : aggT P kt = true) (hfl : flatT P 40 kt = some ks) (hf : fitL ks c = true) (hc : concL R c = some vc) :
    ∀ (es : List (V × V)) (ms : List MapEntry) (i : Nat) (r : Option (Nat × V)), EntRel R es ms → fi (.ag ks) (.agg c) es i = some r → ∃ o, (Instr.findAsking kt (.agg vc.toArray) ms i).run P w = .ok o w ∧ FoundRel R r o
  | [], [], i, r, _, hr => by
    simp [fi] at hr
    subst hr
    exact ⟨none, by simp [Instr.findAsking], trivial⟩
  | [], _ :: _, _, _, hh, _ => hh.elim
  | _ :: _, [], _, _, hh, _ => hh.elim
  | e :: es, m :: ms, i, r, ⟨h1, h2, h3⟩, hr => by
    simp only [fi] at hr
    split at hr <;> try simp at hr
    rename_i hfe
    obtain ⟨ke, ve⟩ := e
    cases ke <;> simp only [KK.fits, Bool.false_eq_true] at hfe
    rename_i c'
    obtain ⟨vc', hc', hm⟩ := conc_agg h1
    have he := run_equal_agg hag hfl hf hfe hc hc' w
    simp only [Instr.findAsking, Sem.run_bind, hm, he, Result.andThen_ok]
    simp only [keyEq] at hr
    cases hk : cellsEq c c' with
    | true =>
      simp only [hk, if_true, Option.some.injEq] at hr
      subst hr
      simp only [if_true]
      exact ⟨some (i, m.val), rfl, rfl, h2⟩
    | false =>
      simp only [hk, Bool.false_eq_true, if_false] at hr
      simp only [Bool.false_eq_true, if_false]
      exact findAsking_run hag hfl hf hc es ms (i + 1) r h3 hr

theorem findKey_run {kt : TypeId} {kk : KK} {k : V} {u : Value} {es : List (V × V)} {ms : List MapEntry} {r : Option (Nat × V)} (hk : okKK P kt kk = true) (hf : kk.fits k = true) (hc : conc R k = some u)
    (he : EntRel R es ms) (hr : fi kk k es 0 = some r) : ∃ o, (Instr.findKey kt u ms).run P w = .ok o w ∧ FoundRel R r o := by
  cases kk with
  | sc q =>
    have hk : (match P.underlying kt with | some d => ktD q d | none => false) = true := hk
    split at hk <;> try simp at hk
    rename_i d hu
    obtain ⟨o, h1, h2⟩ := findNow_run hk hf hc es ms 0 r he hr
    exact ⟨o, by simp [Instr.findKey, run_underlying hu, h1], h2⟩
  | ag ks =>
    have hk : ((match P.underlying kt with
      | some (.struct fs) => fs.toList.all fun f => scalarT P f.type
      | _ => false) && (match flatT P 40 kt with | some l => sameKs l ks | none => false)) = true := hk
    rw [Bool.and_eq_true] at hk
    obtain ⟨h1, h2⟩ := hk
    split at h1 <;> try simp at h1
    rename_i fs hu
    split at h2 <;> try simp at h2
    rename_i l hl
    obtain rfl := sameKs_eq h2
    cases k <;> simp only [KK.fits, Bool.false_eq_true] at hf
    rename_i c
    obtain ⟨vx, hvx, rfl⟩ := conc_agg hc
    have hag : aggT P kt = true := by simp [aggT, hu, isAggD]
    obtain ⟨o, q1, q2⟩ := findAsking_run (P := P) (w := w) hag hl hf hvx es ms 0 r he hr
    refine ⟨o, ?_, q2⟩
    simp only [Instr.findKey, Sem.run_bind, run_underlying hu, Result.andThen_ok]
    cases ms with
    | nil =>
      cases es with
      | cons _ _ => exact he.elim
      | nil =>
        simp [fi] at hr
        subst hr
        cases o with
        | none => simp [Instr.findNow]
        | some _ => exact q2.elim
    | cons m ms =>
      have : Instr.findNow (.struct fs) (.agg vx.toArray) (m :: ms) 0 = none := by simp [Instr.findNow, Instr.sameNow]
      rw [this]
      exact q1

theorem map_at {b c sz : Nat} {es : List (V × V)} (hs : Sim P F R h.get w) (hF : F b) (hb : R b = some (c, sz)) (hg : h.get b = some (.map es)) :
    ∃ arr ck, w.heap[c]? = some (.map arr ck) ∧ EntRel R es arr.toList := by
  obtain ⟨arr, ck, h1, h2⟩ := hs.blk b c sz _ hF hb hg
  exact ⟨arr, ck, h1, entRel_of h2⟩

theorem run_getMap {c ck : Nat} {arr : Array MapEntry} (h1 : w.heap[c]? = some (.map arr ck)) : (getObj c).run P w = .ok (.map arr ck) w := by
  simp [getObj, Sem.run, h1]

theorem run_look {kk : KK} {z : V} {cok : Bool} {a b : X} (hok : okA P op (.look kk z cok a b) = true) (hρ : EnvOk R t ρ) (hs : Sim P F R h.get w) (hF : FootOk F (reads (.look kk z cok a b) t))
    (he : evA call (.look kk z cok a b) t h = .ok v h') : OpRun P F R h w (execOp ρ ⟨dst, op, ty, pos, af, gd⟩) v h' := by
  cases op <;> try exact (Bool.false_ne_true hok).elim
  rename_i mt x k cok'
  have hok : (okX x a && okX k b && (cok' == cok) && (match P.underlying mt with
    | some (.map kt et) => okKK P kt kk && (match zeroT P et with
      | some v => sameV z v
      | none => false)
    | _ => false)) = true := hok
  simp only [Bool.and_eq_true, beq_iff_eq] at hok
  obtain ⟨⟨⟨hxa, hkb⟩, rfl⟩, hu⟩ := hok
  split at hu <;> try simp at hu
  rename_i kt et hue
  obtain ⟨hkk, hz⟩ := hu
  split at hz <;> try simp at hz
  rename_i zv hzv
  have hzc := conc_of_same R z zv hz
  have hx := hρ x a hxa
  have hk := hρ k b hkb
  simp only [evA] at he
  split at he <;> try simp at he
  rename_i hfit
  have fin : ∀ (es : List (V × V)) (arr : Array MapEntry) (r : Option V), find kk (b.ev t) es = some r → EntRel R es arr.toList →
      (ρ x = .map none ∧ arr = #[] ∨ ∃ c ck, ρ x = .map (some c) ∧ w.heap[c]? = some (.map arr ck)) →
      OpRun P F R h w (execOp ρ ⟨dst, .lookup mt x k cok', ty, pos, af, gd⟩) (if cok' then .tup [r.getD z, .b r.isSome] else r.getD z) h := by
    intro es arr r hfd her hrun
    rw [find_fi kk _ es 0] at hfd
    cases hq : fi kk (b.ev t) es 0 with
    | none => simp [hq] at hfd
    | some q =>
      simp [hq] at hfd
      obtain ⟨o, q1, q2⟩ := findKey_run (P := P) (w := w) hkk hfit hk her hq
      have hck := check_key (P := P) (w := w) (em := arr.isEmpty) hkk hfit hk
      cases q with
      | none =>
        simp at hfd
        subst hfd
        cases o with
        | some _ => exact q2.elim
        | none =>
          refine .plain (x := if cok' then .tuple #[zv, .bool false] else zv) hs ?_ ?_
          · rcases hrun with ⟨hxe, rfl⟩ | ⟨c, ck, hxe, hob⟩
            · have hck' : (Instr.checkKey true 10000 kt (ρ k)).run P w = .ok () w := hck
              have q1' : (Instr.findKey kt (ρ k) []).run P w = .ok none w := q1
              cases cok' <;> simp [execOp, Instr.lookup, run_underlying hue, hxe, hck', q1', run_zero w hzv]
            · cases cok' <;> simp [execOp, Instr.lookup, run_underlying hue, hxe, run_getMap (P := P) hob, hck, q1, run_zero w hzv]
          · cases cok' <;> simp [conc, concL, hzc]
      | some q =>
        obtain ⟨i, vv⟩ := q
        simp at hfd
        subst hfd
        cases o with
        | none => exact q2.elim
        | some o =>
          obtain ⟨j, xx⟩ := o
          obtain ⟨rfl, hcv⟩ := q2
          refine .plain (x := if cok' then .tuple #[xx, .bool true] else xx) hs ?_ ?_
          · rcases hrun with ⟨hxe, rfl⟩ | ⟨c, ck, hxe, hob⟩
            · have hck' : (Instr.checkKey true 10000 kt (ρ k)).run P w = .ok () w := hck
              have q1' : (Instr.findKey kt (ρ k) []).run P w = .ok (some (i, xx)) w := q1
              cases cok' <;> simp [execOp, Instr.lookup, run_underlying hue, hxe, hck', q1']
            · cases cok' <;> simp [execOp, Instr.lookup, run_underlying hue, hxe, run_getMap (P := P) hob, hck, q1]
          · cases cok' <;> simp [conc, concL, hcv]
  cases ha : a.ev t with
  | mn =>
    simp only [ha] at he
    simp at he
    obtain ⟨rfl, rfl⟩ := he
    rw [ha] at hx
    obtain hxe := conc_mn hx
    exact fin [] #[] none (by simp [find]) trivial (.inl ⟨hxe, rfl⟩)
  | m blk =>
    simp only [ha] at he
    cases hg : h.get blk with
    | none => simp [hg] at he
    | some bl =>
      cases bl with
      | map es =>
        simp only [hg] at he
        cases hfd : find kk (b.ev t) es with
        | none => simp [hfd] at he
        | some r =>
          simp only [hfd, RO.ok.injEq] at he
          obtain ⟨rfl, rfl⟩ := he
          rw [ha] at hx
          obtain ⟨c, sz, hR, hxe⟩ := conc_m hx
          obtain ⟨arr, ck, h1, h2⟩ := map_at hs (hF blk (by simp [ha, blockOf])) hR hg
          exact fin es arr r hfd h2 (.inr ⟨c, ck, hxe, h1⟩)
      | _ => simp [hg] at he
  | _ => simp [ha] at he

theorem sameBits_scalar {k : KT} {x : V} {u : Value} (hf : k.fits x = true) (hc : conc R x = some u) (n : Nat) : Instr.sameBits n u u = true := by
  rcases fits_conc hf hc with ⟨b, rfl, rfl, rfl⟩ | ⟨kd, m, rfl, rfl, rfl⟩ | ⟨l, rfl, rfl, rfl, hl⟩
  · cases n <;> simp [Instr.sameBits]
  · cases n <;> simp [Instr.sameBits]
  · cases n <;> simp [Instr.sameBits, beq_toListBytes]
theorem sameBits_all {n : Nat} : ∀ {ks : List KT} {xs : List V} {us : List Value}, fitL ks xs = true → concL R xs = some us → ((us.zip us).all fun (x, y) => Instr.sameBits n x y) = true
  | [], [], us, _, hc => by simp [concL] at hc; subst hc; rfl
  | [], _ :: _, _, hf, _ => by simp [fitL] at hf
  | _ :: _, [], _, hf, _ => by simp [fitL] at hf
  | k :: ks, x :: xs, us, hf, hc => by
    obtain ⟨u, us', h1, h2, rfl⟩ := concL_cons.1 hc
    simp only [fitL, Bool.and_eq_true] at hf
    simp only [List.zip_cons_cons, List.all_cons, sameBits_scalar hf.1 h1, Bool.true_and]
    exact sameBits_all hf.2 h2
theorem sameBits_key {kk : KK} {k : V} {u : Value} (hf : kk.fits k = true) (hc : conc R k = some u) : Instr.sameBits 10000 u u = true := by
  cases kk with
  | sc q => exact sameBits_scalar hf hc 10000
  | ag ks =>
    cases k <;> simp only [KK.fits, Bool.false_eq_true] at hf
    obtain ⟨vx, hvx, rfl⟩ := conc_agg hc
    have := sameBits_all (n := 9999) hf hvx
    show Instr.sameBits (9999 + 1) (.agg vx.toArray) (.agg vx.toArray) = true
    simp only [Instr.sameBits, Bool.and_eq_true, beq_self_eq_true, true_and]
    exact this

theorem EntRel.append : ∀ {es : List (V × V)} {ms : List MapEntry} {e : V × V} {m : MapEntry}, EntRel R es ms → conc R e.1 = some m.key → conc R e.2 = some m.val → EntRel R (es ++ [e]) (ms ++ [m])
  | [], [], _, _, _, h1, h2 => ⟨h1, h2, trivial⟩
  | [], _ :: _, _, _, hh, _, _ => hh.elim
  | _ :: _, [], _, _, hh, _, _ => hh.elim
  | _ :: es, _ :: ms, _, _, ⟨a, b, c⟩, h1, h2 => ⟨a, b, EntRel.append c h1 h2⟩
theorem EntRel.set : ∀ {es : List (V × V)} {ms : List MapEntry} {e : V × V} {m : MapEntry} (j : Nat), EntRel R es ms → conc R e.1 = some m.key → conc R e.2 = some m.val → EntRel R (es.set j e) (ms.set j m)
  | [], [], _, _, _, _, _, _ => by simp [EntRel]
  | [], _ :: _, _, _, _, hh, _, _ => hh.elim
  | _ :: _, [], _, _, _, hh, _, _ => hh.elim
  | _ :: es, _ :: ms, _, _, 0, ⟨a, b, c⟩, h1, h2 => ⟨h1, h2, c⟩
  | _ :: es, _ :: ms, _, _, j + 1, ⟨a, b, c⟩, h1, h2 => ⟨a, b, EntRel.set j c h1 h2⟩
theorem EntRel.get : ∀ {es : List (V × V)} {ms : List MapEntry} {j : Nat} {e : V × V}, EntRel R es ms → es[j]? = some e → ∃ m, ms[j]? = some m ∧ conc R e.1 = some m.key ∧ conc R e.2 = some m.val
  | [], [], j, e, _, he => by simp at he
  | [], _ :: _, _, _, hh, _ => hh.elim
  | _ :: _, [], _, _, hh, _ => hh.elim
  | _ :: es, m :: ms, 0, e, ⟨a, b, c⟩, he => by
    simp at he; subst he
    exact ⟨m, rfl, a, b⟩
  | _ :: es, _ :: ms, j + 1, e, ⟨a, b, c⟩, he => by
    obtain ⟨m, h1, h2⟩ := EntRel.get c (by simpa using he)
    exact ⟨m, by simpa using h1, h2⟩

theorem setObj_step {b c sz : Nat} {x y : Blk} {o o' : Obj} (hs : Sim P F R h.get w) (hF : F b) (hb : R b = some (c, sz)) (hg : h.get b = some y) (ho : w.heap[c]? = some o) (hnc : ∀ a e f, o ≠ .cells a e f)
    (hx : ∀ w' : World, w'.heap[c]? = some o' → BlkRel P R w' c sz x) :
    ∃ w', (setObj c o').run P w = .ok () w' ∧ Fwd R R h (h.put b x) w w' [b] ∧ Sim P F R (h.put b x).get w' := by
  have hlt := hs.lt b c sz hb
  refine ⟨{ w with heap := w.heap.setIfInBounds c o' }, ?_, ?_⟩
  · cases o with
    | cells a e f => exact absurd rfl (hnc a e f)
    | _ => simp [setObj, Sem.run, ho]
  · refine put_step hs hF hb hg ⟨rfl, rfl, rfl⟩ (by simp) (fun d hd => ?_) (hx _ (by simp [hlt]))
    simp [Array.getElem?_setIfInBounds, Ne.symm hd]

theorem run_mapSet {kk : KK} {a b e : X} (hok : okA P op (.mapSet kk a b e) = true) (hρ : EnvOk R t ρ) (hs : Sim P F R h.get w) (hF : FootOk F (reads (.mapSet kk a b e) t))
    (he : evA call (.mapSet kk a b e) t h = .ok v h') : OpRun P F R h w (execOp ρ ⟨dst, op, ty, pos, af, gd⟩) v h' := by
  cases op <;> try exact (Bool.false_ne_true hok).elim
  rename_i mt x k y
  have hok : (okX x a && okX k b && okX y e && (match P.underlying mt with
    | some (.map kt _) => okKK P kt kk
    | _ => false)) = true := hok
  simp only [Bool.and_eq_true] at hok
  obtain ⟨⟨⟨hxa, hkb⟩, hye⟩, hu⟩ := hok
  split at hu <;> try simp at hu
  rename_i kt et hue
  have hx := hρ x a hxa
  have hk := hρ k b hkb
  have hy := hρ y e hye
  simp only [evA] at he
  cases ha : a.ev t with
  | m blk =>
    simp only [ha] at he
    cases hg : h.get blk with
    | none => simp [hg] at he
    | some bl =>
      cases bl with
      | map es =>
        simp only [hg] at he
        split at he <;> try simp at he
        rename_i hfit
        cases hm : mput kk (b.ev t) (e.ev t) es with
        | none => simp [hm] at he
        | some es' =>
          simp only [hm, RO.ok.injEq] at he
          obtain ⟨rfl, rfl⟩ := he
          rw [ha] at hx
          obtain ⟨c, sz, hR, hxe⟩ := conc_m hx
          have hFb := hF blk (by simp [ha, blockOf])
          obtain ⟨arr, ck, h1, h2⟩ := map_at hs hFb hR hg
          have hck := check_key (P := P) (w := w) (em := false) hu hfit hk
          rcases mput_fi kk _ _ es 0 es' hm with ⟨q1, rfl⟩ | ⟨j, old, q1, q2, e0, q3, q4, q5, rfl⟩
          · obtain ⟨o, r1, r2⟩ := findKey_run (P := P) (w := w) hu hfit hk h2 q1
            cases o with
            | some _ => exact r2.elim
            | none =>
              obtain ⟨w', s1, s2, s3⟩ := setObj_step (P := P) (x := .map (es ++ [(b.ev t, e.ev t)])) (o' := .map (arr.push { key := ρ k, val := ρ y, born := ck }) (ck + 1)) hs hFb hR hg h1 (by intro _ _ _ e; cases e)
                (fun w' hw' => ⟨_, _, hw', of_entRel (by simpa using h2.append (e := (b.ev t, e.ev t)) (m := { key := ρ k, val := ρ y, born := ck }) hk hy)⟩)
              refine ⟨.skip, undef, w', ?_, .inr ⟨rfl, rfl⟩, _, _, s2, s3, conc_undef R⟩
              simp only [execOp, Instr.mapUpdate, Sem.run_bind, run_underlying hue, Result.andThen_ok, hxe, run_getMap (P := P) h1, hck, r1, s1, Sem.run_pure]
          · obtain ⟨o, r1, r2⟩ := findKey_run (P := P) (w := w) hu hfit hk h2 q1
            cases o with
            | none => exact r2.elim
            | some o =>
              obtain ⟨i, xx⟩ := o
              obtain ⟨hij, hcv⟩ := r2
              rw [Nat.zero_add] at hij
              subst hij
              have hkeq : b.ev t = e0.1 := keyEq_conc hfit q5 q4
              obtain ⟨m0, m1, m2, m3⟩ := h2.get q3
              have hkey : m0.key = ρ k := by rw [← hkeq, hk] at m2; exact (Option.some.inj m2).symm
              have hjlt : j < arr.size := by
                have := (List.getElem?_eq_some_iff.1 m1).1
                simpa using this
              have hm0 : arr[j]? = some m0 := by simpa using m1
              have hentries : EntRel R (es.set j (e0.1, e.ev t)) (arr.modify j fun q => { q with key := ρ k, val := ρ y }).toList := by
                have : (arr.modify j fun q => { q with key := ρ k, val := ρ y }).toList = arr.toList.set j { m0 with key := ρ k, val := ρ y } := by
                  apply List.ext_getElem?
                  intro i
                  rw [Array.getElem?_toList, Array.getElem?_modify, List.getElem?_set]
                  by_cases hij : j = i
                  · subst hij
                    have hb : arr[j].born = m0.born := by rw [(Array.getElem?_eq_some_iff.1 hm0).2]
                    simp [hm0, hjlt, hb]
                  · simp [hij]
                rw [this]
                exact h2.set (e := (e0.1, e.ev t)) (m := { m0 with key := ρ k, val := ρ y }) j (by rw [← hkeq]; exact hk) hy
              obtain ⟨w', s1, s2, s3⟩ := setObj_step (P := P) (x := .map (es.set j (e0.1, e.ev t))) (o' := .map (arr.modify j fun q => { q with key := ρ k, val := ρ y }) ck) hs hFb hR hg h1 (by intro _ _ _ e; cases e)
                (fun w' hw' => ⟨_, _, hw', of_entRel hentries⟩)
              have hstays : (Instr.keyThatStays (((arr[j]?).map (·.key)).getD (ρ k)) (ρ k)).run P w = .ok (ρ k) w := by
                simp only [hm0, Option.map_some, Option.getD_some, hkey, Instr.keyThatStays]
                rw [if_pos (sameBits_key hfit hk)]
                rfl
              refine ⟨.skip, undef, w', ?_, .inr ⟨rfl, rfl⟩, _, _, s2, s3, conc_undef R⟩
              simp only [execOp, Instr.mapUpdate, Sem.run_bind, run_underlying hue, Result.andThen_ok, hxe, run_getMap (P := P) h1, hck, r1, hstays, s1, Sem.run_pure]
      | _ => simp [hg] at he
  | _ => simp [ha] at he

/-- EVERY OPERATION BUT A CALL. -/
theorem run_any {a : A} (hok : okA P op a = true) (hnc : ∀ f xs, a ≠ .call f xs) (hρ : EnvOk R t ρ) (hs : Sim P F R h.get w) (hF : FootOk F (reads a t)) (hfr : Fresh R h h') (he : evA call a t h = .ok v h') :
    OpRun P F R h w (execOp ρ ⟨dst, op, ty, pos, af, gd⟩) v h' := by
  cases a with
  | mov x => exact run_mov hok hρ hs he
  | pick c a b => exact run_pick hok hρ hs he
  | alloc z => exact run_alloc hok hs hfr he
  | box x => exact run_box hok hρ hs hfr he
  | build z ps => exact run_build hok hρ hs he
  | buildSl z n ps => exact run_buildSl hok hρ hs hfr he
  | ld x => exact run_ld hok hρ hs hF he
  | ldn n x => exact run_ldn hok hρ hs hF he
  | st n x y => exact run_st hok hρ hs hF he
  | nilck x => exact run_nilck hok hρ hs he
  | bin o x y => exact run_bin hok hρ hs he
  | eqv n k x y => exact run_eqv hok hρ hs he
  | un o x => exact run_un hok hρ hs he
  | conv k x => exact run_conv hok hρ hs he
  | mkI k x => exact run_mkI hok hρ hs he
  | mkFn f a c => exact run_mkFn hok hρ hs he
  | mkMap => exact run_mkMap hok hs hfr he
  | mkSl z b l c => exact run_mkSl hok hρ hs hfr he
  | slc e x lo hi mx => exact run_slc hok hρ hs he
  | slcA n e x lo hi => exact run_slcA hok hρ hs he
  | slcS x lo hi => exact run_slcS hok hρ hs he
  | fld o x => exact run_fld hok hρ hs he
  | fldv o s x => exact run_fldv hok hρ hs he
  | ixS e x i => exact run_ixS hok hρ hs he
  | ixA n e x i => exact run_ixA hok hρ hs he
  | ixStr x i => exact run_ixStr hok hρ hs he
  | ixV n e g x i => exact run_ixV hok hρ hs he
  | look kk z o x k => exact run_look hok hρ hs hF he
  | mapSet kk x k y => exact run_mapSet hok hρ hs hF he
  | ext x n => exact run_ext hok hρ hs he
  | call f xs => exact absurd rfl (hnc f xs)
  | lenS x => exact run_lenS hok hρ hs he
  | lenL x => exact run_lenL hok hρ hs he
  | lenC n => exact run_lenC hok hs he
  | lenM x => exact run_lenM hok hρ hs hF he
  | app e b s x => exact run_app hok hρ hs hF hfr he
  | cpy e d s => exact run_cpy hok hρ hs hF he
  | clr z x => exact run_clr hok hρ hs hF he
  | min xs => exact run_min hok hρ hs he
  | max xs => exact run_max hok hρ hs he
  | no => simp [evA] at he
end
end Go.Air
