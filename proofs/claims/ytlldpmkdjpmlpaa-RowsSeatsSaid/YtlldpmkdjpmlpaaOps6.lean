/-
  One operation on both sides. Sixth part: equality, and maps.
-/
import Derived.Test.YtlldpmkdjpmlpaaOps5
import Derived.Laws.StructEq
import Derived.ChangeKeysEq
set_option linter.unusedSectionVars false
set_option linter.unusedVariables false
set_option linter.unusedSimpArgs false
namespace Go.Air

theorem sameKs_eq : ∀ {a b : List KT}, sameKs a b = true → a = b
  | [], [], _ => rfl
  | [], _ :: _, h => by simp [sameKs] at h
  | _ :: _, [], h => by simp [sameKs] at h
  | x :: a, y :: b, h => by
    simp only [sameKs, Bool.and_eq_true, decide_eq_true_eq] at h
    rw [h.1, sameKs_eq h.2]

theorem fitL_length : ∀ {ks : List KT} {xs : List V}, fitL ks xs = true → xs.length = ks.length
  | [], [], _ => rfl
  | [], _ :: _, h => by simp [fitL] at h
  | _ :: _, [], h => by simp [fitL] at h
  | k :: ks, x :: xs, h => by
    simp only [fitL, Bool.and_eq_true] at h
    simp [fitL_length h.2]
theorem fitL_append : ∀ {a b : List KT} {xs : List V}, fitL (a ++ b) xs = true → fitL a (xs.take a.length) = true ∧ fitL b (xs.drop a.length) = true
  | [], b, xs, h => by simpa [fitL] using h
  | k :: a, b, [], h => by simp [fitL] at h
  | k :: a, b, x :: xs, h => by
    simp only [List.cons_append, fitL, Bool.and_eq_true] at h
    obtain ⟨h1, h2⟩ := fitL_append h.2
    simp only [List.length_cons, List.take_succ_cons, List.drop_succ_cons, fitL, Bool.and_eq_true]
    exact ⟨⟨h.1, h1⟩, h2⟩
theorem cellsEq_split : ∀ (n : Nat) (xs ys : List V), xs.length = ys.length → cellsEq xs ys = (cellsEq (xs.take n) (ys.take n) && cellsEq (xs.drop n) (ys.drop n))
  | 0, xs, ys, _ => by simp [cellsEq]
  | n + 1, [], [], _ => by simp [cellsEq]
  | n + 1, [], _ :: _, h => by simp at h
  | n + 1, _ :: _, [], h => by simp at h
  | n + 1, x :: xs, y :: ys, h => by
    simp only [List.take_succ_cons, List.drop_succ_cons, cellsEq]
    rw [cellsEq_split n xs ys (by simpa using h), Bool.and_assoc]

section
variable {P : Program} {F : Nat → Prop} {R : Emb} {h h' : H} {w : World} {t : List V} {ρ : Operand → Value} {v : V}
  {dst : Option Tmp} {op : Op} {ty : TypeId} {pos : String} {af : Array Edge} {gd : Option (Nat × Bool)} {call : V → List V → H → RO}

/-- a value of a type out of its cells. -/
def mkv (P : Program) (t : TypeId) (l : List Value) : Value := if aggT P t then .agg l.toArray else l.headD undef

theorem fits_conc {k : KT} {x : V} {u : Value} (hf : k.fits x = true) (hx : conc R x = some u) :
    (∃ b, k = .b ∧ x = .b b ∧ u = .bool b) ∨ (∃ kd n, k = .i kd ∧ x = .i kd n ∧ u = .int kd n) ∨ (∃ l, k = .s ∧ x = .s l ∧ u = .string (byteArr l) ∧ ∀ n ∈ l, n < 256) := by
  unfold KT.fits at hf
  split at hf <;> try simp at hf
  · exact .inl ⟨_, rfl, rfl, conc_bb hx⟩
  · subst hf; exact .inr (.inl ⟨_, _, rfl, rfl, conc_i hx⟩)
  · obtain ⟨a, b⟩ := conc_ss hx; exact .inr (.inr ⟨_, rfl, rfl, a, b⟩)

theorem run_eq_scalar {t : TypeId} {d : TypeDesc} {k : KT} (hu : P.underlying t = some d) (hk : ktD k d = true) {x y : V} {u z : Value} (hx : k.fits x = true) (hy : k.fits y = true) (hcx : conc R x = some u)
    (hcy : conc R y = some z) (e : Nat) (w : World) : (Op.equalIn (e + 1) t u z).run P w = .ok (scalarEq x y) w := by
  rcases fits_conc hx hcx with ⟨b, rfl, rfl, rfl⟩ | ⟨kd, n, rfl, rfl, rfl⟩ | ⟨l, rfl, rfl, rfl, hl⟩
  · rcases fits_conc hy hcy with ⟨b', _, rfl, rfl⟩ | ⟨_, _, e1, _⟩ | ⟨_, e1, _⟩ <;> try cases e1
    cases d <;> simp [ktD] at hk
    rw [run_equalIn_bool' w e t _ _ hu]
    rfl
  · rcases fits_conc hy hcy with ⟨_, e1, _⟩ | ⟨kd', n', e1, rfl, rfl⟩ | ⟨_, e1, _⟩ <;> try cases e1
    cases d <;> simp [ktD] at hk
    rw [run_equalIn_int w e t kd _ _ _ hu]
    simp only [scalarEq]
    congr 1
  · rcases fits_conc hy hcy with ⟨_, e1, _⟩ | ⟨_, _, e1, _⟩ | ⟨l', e1, rfl, rfl, hl'⟩ <;> try cases e1
    cases d <;> simp [ktD] at hk
    rw [run_equalIn_string w e t _ _ hu, toList_byteArr, toList_byteArr, bytesEq_map _ _ hl hl']
    rfl

def EqFlat (P : Program) (R : Emb) (d : Nat) (t : TypeId) (ks : List KT) : Prop :=
  ∀ (e : Nat) (w : World) (xs ys : List V) (vx vy : List Value), d ≤ e → fitL ks xs = true → fitL ks ys = true → concL R xs = some vx → concL R ys = some vy →
    (Op.equalIn e t (mkv P t vx) (mkv P t vy)).run P w = .ok (cellsEq xs ys) w

theorem eqFlat_scalar {d : Nat} {t : TypeId} {k : KT} {ds : TypeDesc} (hu : P.underlying t = some ds) (hk : ktD k ds = true) : EqFlat P R (d + 1) t [k] := by
  intro e w xs ys vx vy hd hx hy hcx hcy
  have h1 := fitL_length hx
  have h2 := fitL_length hy
  match xs, ys, h1, h2 with
  | [x], [y], _, _ =>
    obtain ⟨u, r, hu1, hr, rfl⟩ := concL_cons.1 hcx
    obtain ⟨z, r', hz1, hr', rfl⟩ := concL_cons.1 hcy
    simp [concL] at hr hr'
    subst hr hr'
    simp only [fitL, Bool.and_true] at hx hy
    have hag : aggT P t = false := by
      unfold aggT
      rw [hu]
      cases ds <;> cases k <;> simp [ktD] at hk <;> rfl
    simp only [mkv, hag, Bool.false_eq_true, if_false, List.headD_cons]
    obtain ⟨e', rfl⟩ : ∃ e', e = e' + 1 := ⟨e - 1, by omega⟩
    rw [run_eq_scalar hu hk hx hy hu1 hz1 e' w]
    simp [cellsEq]

theorem part_flat {d : Nat} {ft : TypeId} {l : List KT} {off : Nat} {vX : List Value} {w : World} (hag : aggT P ft = true ∨ plainT P ft = true ∧ l.length = 1) (hsz : isSz P ft l.length = true)
    (hlen : off + l.length ≤ vX.length) : (part ft vX.toArray off).run P w = .ok (mkv P ft ((vX.drop off).take l.length)) w := by
  rcases hag with hag | ⟨hpl, h1⟩
  · rw [run_part_aggT (P := P) (w := w) (cs := vX.toArray) hag hsz]
    simp [mkv, hag]
  · have hag : aggT P ft = false := by
      obtain ⟨dd, hd, ha⟩ := plainT_d hpl
      simp [aggT, hd, ha]
    rw [h1] at hlen
    have hlt : off < vX.length := by omega
    rw [run_part_plainT (P := P) (w := w) (cs := vX.toArray) (x := vX[off]) hpl (by simp [hlt])]
    simp only [mkv, hag, Bool.false_eq_true, if_false, h1]
    rw [List.drop_eq_getElem_cons hlt]
    rfl

theorem flatT_kind : ∀ {d : Nat} {t : TypeId} {l : List KT}, flatT P d t = some l → aggT P t = true ∨ plainT P t = true ∧ l.length = 1
  | 0, _, _, hh => by simp [flatT] at hh
  | d + 1, t, l, hh => by
    simp only [flatT] at hh
    split at hh
    · rename_i hu; split at hh <;> simp at hh; subst hh; exact .inr ⟨by simp [plainT, hu, isAggD], rfl⟩
    · rename_i hu; split at hh <;> simp at hh; subst hh; exact .inr ⟨by simp [plainT, hu, isAggD], rfl⟩
    · rename_i hu; split at hh <;> simp at hh; subst hh; exact .inr ⟨by simp [plainT, hu, isAggD], rfl⟩
    · rename_i hu; exact .inl (by simp [aggT, hu, isAggD])
    · rename_i hu; exact .inl (by simp [aggT, hu, isAggD])
    · simp at hh

theorem rep_fit {l : List KT} : ∀ {n : Nat} {xs : List V}, fitL (List.replicate n l).flatten xs = true → xs.length = n * l.length ∧ ∀ i, i < n → fitL l ((xs.drop (i * l.length)).take l.length) = true
  | 0, xs, hf => by
    have := fitL_length hf
    simp at this
    exact ⟨by simp [this], fun i hi => by omega⟩
  | n + 1, xs, hf => by
    rw [List.replicate_succ, List.flatten_cons] at hf
    obtain ⟨h1, h2⟩ := fitL_append hf
    obtain ⟨h3, h4⟩ := rep_fit h2
    have h5 := fitL_length h1
    simp at h3 h5
    refine ⟨by rw [Nat.add_mul]; omega, fun i hi => ?_⟩
    cases i with
    | zero => simpa using h1
    | succ i =>
      have := h4 i (by omega)
      rw [List.drop_drop] at this
      rw [Nat.add_mul, Nat.one_mul, Nat.add_comm]
      exact this

theorem eqItems_flat {dd : Nat} {e : TypeId} {l : List KT} (hag : aggT P e = true ∨ plainT P e = true ∧ l.length = 1) (hsz : isSz P e l.length = true) {xs ys : List V} {vx vy : List Value}
    (hcx : concL R xs = some vx) (hcy : concL R ys = some vy) (heq : ∀ (w : World) (a b : List V) (va vb : List Value), fitL l a = true → fitL l b = true → concL R a = some va → concL R b = some vb →
      (Op.equalIn dd e (mkv P e va) (mkv P e vb)).run P w = .ok (cellsEq a b) w) :
    ∀ (m i n : Nat), i + m = n → fitL (List.replicate n l).flatten xs = true → fitL (List.replicate n l).flatten ys = true →
      (Op.eqItems dd e l.length vx.toArray vy.toArray ((List.range m).map (i + ·))).run P w = .ok (cellsEq (xs.drop (i * l.length)) (ys.drop (i * l.length))) w
  | 0, i, n, hin, hx, hy => by
    obtain ⟨h1, _⟩ := rep_fit hx
    obtain ⟨h2, _⟩ := rep_fit hy
    obtain rfl : i = n := by omega
    rw [List.drop_eq_nil_of_le (by omega), List.drop_eq_nil_of_le (by omega)]
    simp [Op.eqItems, cellsEq]
  | m + 1, i, n, hin, hx, hy => by
    obtain ⟨h1, h1'⟩ := rep_fit hx
    obtain ⟨h2, h2'⟩ := rep_fit hy
    have hle : (i + 1) * l.length ≤ n * l.length := Nat.mul_le_mul_right _ (by omega)
    rw [Nat.add_mul, Nat.one_mul] at hle
    have e1 := concL_length hcx
    have e2 := concL_length hcy
    have ih := eqItems_flat hag hsz hcx hcy heq m (i + 1) n (by omega) hx hy
    rw [List.range_succ_eq_map, List.map_cons, List.map_map]
    have e3 : (List.range m).map ((i + ·) ∘ Nat.succ) = (List.range m).map (i + 1 + ·) := by
      apply List.map_congr_left
      intro a _
      simp; omega
    rw [e3]
    simp only [Nat.add_zero, Op.eqItems, Sem.run_bind, part_flat (d := 0) (w := w) hag hsz (show i * l.length + l.length ≤ vx.length by omega), part_flat (d := 0) (w := w) hag hsz (show i * l.length + l.length ≤ vy.length by omega), Result.andThen_ok]
    rw [heq w _ _ _ _ (h1' i (by omega)) (h2' i (by omega)) (concL_take _ (concL_drop _ hcx)) (concL_take _ (concL_drop _ hcy))]
    simp only [Result.andThen_ok]
    rw [cellsEq_split l.length (xs.drop (i * l.length)) (ys.drop (i * l.length)) (by simp; omega)]
    cases cellsEq ((xs.drop (i * l.length)).take l.length) ((ys.drop (i * l.length)).take l.length)
    · simp
    · simp only [Bool.not_true, Bool.false_eq_true, if_false, Bool.true_and, List.drop_drop]
      rw [ih]
      rw [Nat.add_mul, Nat.one_mul]

mutual
theorem flatT_eq : ∀ (d : Nat) (t : TypeId) (ks : List KT), flatT P d t = some ks → EqFlat P R d t ks
  | 0, _, _, hh => by simp [flatT] at hh
  | d + 1, t, ks, hh => by
    simp only [flatT] at hh
    split at hh
    · rename_i hu; split at hh <;> simp at hh; subst hh; exact eqFlat_scalar hu rfl
    · rename_i k hu; split at hh <;> simp at hh; subst hh; exact eqFlat_scalar hu (by simp [ktD])
    · rename_i hu; split at hh <;> simp at hh; subst hh; exact eqFlat_scalar hu rfl
    · rename_i fs hu
      split at hh <;> try simp at hh
      rename_i hst
      intro e w xs ys vx vy hd hx hy hcx hcy
      obtain ⟨e', rfl⟩ : ∃ e', e = e' + 1 := ⟨e - 1, by omega⟩
      have hag : aggT P t = true := by simp [aggT, hu, isAggD]
      have hfo : P.fieldsOf t = fs := by simp [Program.fieldsOf, hu]
      simp only [mkv, hag, if_true]
      rw [run_equalIn_struct w e' t vx.toArray vy.toArray (by rw [hfo]; exact hu) (by simpa using hst), hfo]
      have := flatF_eq d 0 fs.toList ks hh e' w xs ys vx vy (by omega) (by rw [List.drop_zero, List.take_of_length_le (by have := fitL_length hx; omega)]; exact hx) (by rw [List.drop_zero, List.take_of_length_le (by have := fitL_length hy; omega)]; exact hy) (by have := fitL_length hx; omega) (by have := fitL_length hy; omega) hcx hcy
      have hl := fitL_length hx
      have hl2 := fitL_length hy
      rw [List.drop_zero, List.drop_zero, List.take_of_length_le (by omega), List.take_of_length_le (by omega)] at this
      exact this
    · rename_i n e hu
      split at hh <;> try simp at hh
      rename_i l hl
      obtain ⟨hsz, rfl⟩ := hh
      intro e' w xs ys vx vy hd hx hy hcx hcy
      obtain ⟨e'', rfl⟩ : ∃ e'', e' = e'' + 1 := ⟨e' - 1, by omega⟩
      have hag : aggT P t = true := by simp [aggT, hu, isAggD]
      obtain ⟨i, hi, hisz⟩ := szT_info hsz
      simp only [mkv, hag, if_true]
      have hco : P.cellsOf e = l.length := by simp [Program.cellsOf, hi, hisz]
      rw [run_equalIn_array w e'' vx.toArray vy.toArray hu hi, hco]
      have := eqItems_flat (dd := e'') (w := w) (flatT_kind hl) hsz hcx hcy (fun w a b va vb ha hb hca hcb => flatT_eq d e l hl e'' w a b va vb (by omega) ha hb hca hcb) n 0 n (by omega) hx hy
      simpa using this
    · simp at hh
theorem flatF_eq : ∀ (d off : Nat) (fs : List Field) (ks : List KT), flatF P d off fs = some ks → ∀ (e : Nat) (w : World) (xs ys : List V) (vx vy : List Value), d ≤ e →
    fitL ks ((xs.drop off).take ks.length) = true → fitL ks ((ys.drop off).take ks.length) = true → off + ks.length ≤ xs.length → off + ks.length ≤ ys.length → concL R xs = some vx → concL R ys = some vy →
    (Op.eqFields e vx.toArray vy.toArray fs).run P w = .ok (cellsEq ((xs.drop off).take ks.length) ((ys.drop off).take ks.length)) w
  | 0, _, _, _, hh => by simp [flatF] at hh
  | d + 1, off, [], ks, hh => by
    simp only [flatF, Option.some.injEq] at hh
    subst hh
    intros
    simp [Op.eqFields, cellsEq]
  | d + 1, off, f :: fs, ks, hh => by
    simp only [flatF] at hh
    split at hh <;> try simp at hh
    rename_i hname
    split at hh <;> try simp at hh
    rename_i l hl
    obtain ⟨⟨ho, hsz⟩, ks', hks, rfl⟩ := hh
    intro e w xs ys vx vy hd hx hy hlx hly hcx hcy
    have e1 := concL_length hcx
    have e2 := concL_length hcy
    simp only [List.length_append] at hlx hly
    obtain ⟨hx1, hx2⟩ := fitL_append hx
    obtain ⟨hy1, hy2⟩ := fitL_append hy
    have tk : ∀ z : List V, ((z.drop off).take (l ++ ks').length).take l.length = (z.drop off).take l.length := fun z => by rw [List.take_take]; congr 1; simp
    have dk : ∀ z : List V, ((z.drop off).take (l ++ ks').length).drop l.length = (z.drop (off + l.length)).take ks'.length := fun z => by
      rw [List.drop_take, List.drop_drop]
      congr 1
      simp
    rw [tk] at hx1 hy1
    rw [dk] at hx2 hy2
    have ih := flatF_eq d (off + l.length) fs ks' hks e w xs ys vx vy (by omega) hx2 hy2 (by omega) (by omega) hcx hcy
    have he := flatT_eq d f.type l hl e w _ _ _ _ (by omega) hx1 hy1 (concL_take _ (concL_drop _ hcx)) (concL_take _ (concL_drop _ hcy))
    have hk := flatT_kind hl
    subst ho
    simp only [Op.eqFields, ne_eq, hname, not_false_eq_true, if_true, Sem.run_bind, part_flat (d := 0) (w := w) hk hsz (show f.offset + l.length ≤ vx.length by omega),
      part_flat (d := 0) (w := w) hk hsz (show f.offset + l.length ≤ vy.length by omega), Result.andThen_ok, he]
    rw [cellsEq_split l.length ((xs.drop f.offset).take (l ++ ks').length) ((ys.drop f.offset).take (l ++ ks').length) (by simp; omega), tk, tk, dk, dk]
    cases cellsEq ((xs.drop f.offset).take l.length) ((ys.drop f.offset).take l.length)
    · simp
    · simp only [Bool.not_true, Bool.false_eq_true, if_false, Bool.true_and]
      exact ih
end

/-- '==' of two values of a type that is compared cell by cell. -/
theorem run_equal_agg {t : TypeId} {ks : List KT} {x y : List V} {vx vy : List Value} (hag : aggT P t = true) (hf : flatT P 40 t = some ks) (hx : fitL ks x = true) (hy : fitL ks y = true)
    (hcx : concL R x = some vx) (hcy : concL R y = some vy) (w : World) : (Op.equal t (.agg vx.toArray) (.agg vy.toArray)).run P w = .ok (cellsEq x y) w := by
  have := flatT_eq (R := R) 40 t ks hf 10000 w x y vx vy (by omega) hx hy hcx hcy
  simpa [mkv, hag, Op.equal, Op.maxDepth] using this

theorem eql_of {o : BinOp} {neg : Bool} {t : TypeId} {a b : Value} {r : Bool} (ho : o = if neg then .neq else .eql) (hr : (Op.equal t a b).run P w = .ok r w)
    (h1 : (binOp .eql t a b) = (do pure (.bool (← Op.equal t a b)))) (h2 : (binOp .neq t a b) = (do pure (.bool (!(← Op.equal t a b))))) :
    (binOp o t a b).run P w = .ok (.bool (if neg then !r else r)) w := by
  cases neg
  · simp only [Bool.false_eq_true, if_false] at ho
    subst ho
    rw [h1]
    simp [hr]
  · simp only [if_true] at ho
    subst ho
    rw [h2]
    simp [hr]

theorem conc_m {b : Nat} {x : Value} (hx : conc R (.m b) = some x) : ∃ c sz, R b = some (c, sz) ∧ x = .map (some c) := by
  simp only [conc, Option.map_eq_some_iff] at hx
  obtain ⟨a, ha, rfl⟩ := hx
  exact ⟨a.1, a.2, ha, rfl⟩
theorem conc_yld {b : Nat} {x : Value} (hx : conc R (.yld b) = some x) : ∃ c sz, R b = some (c, sz) ∧ x = .func (.yield c) #[] #[] := by
  simp only [conc, Option.map_eq_some_iff] at hx
  obtain ⟨a, ha, rfl⟩ := hx
  exact ⟨a.1, a.2, ha, rfl⟩
theorem conc_fn {f : Nat} {a c : List V} {x : Value} (hx : conc R (.fn f a c) = some x) : ∃ va vc, concL R a = some va ∧ concL R c = some vc ∧ x = .func (.func f) va.toArray vc.toArray := by
  simp only [conc] at hx
  cases ha : concL R a <;> cases hc : concL R c <;> simp [ha, hc] at hx
  exact ⟨_, _, rfl, rfl, hx.symm⟩
theorem conc_ifc {k : Nat} {a : V} {x : Value} (hx : conc R (.ifc k a) = some x) : ∃ u, conc R a = some u ∧ x = .iface k u := by
  simp only [conc] at hx
  cases ha : conc R a <;> simp [ha] at hx
  exact ⟨_, rfl, hx.symm⟩
theorem conc_pn {x : Value} (hx : conc R .pn = some x) : x = .pointer none := by simpa [conc, eq_comm] using hx
theorem conc_sn {x : Value} (hx : conc R .sn = some x) : x = .slice none 0 0 := by simpa [conc, eq_comm] using hx
theorem conc_se {a : Addr} {x : Value} (hx : conc R (.se a) = some x) : x = .slice (some a) 0 0 := by simpa [conc, eq_comm] using hx
theorem conc_mn {x : Value} (hx : conc R .mn = some x) : x = .map none := by simpa [conc, eq_comm] using hx
theorem conc_fnil {x : Value} (hx : conc R .fnil = some x) : x = .nilFunc := by simpa [conc, eq_comm] using hx
theorem conc_in0 {x : Value} (hx : conc R .in0 = some x) : x = .nilIface := by simpa [conc, eq_comm] using hx

def EqSays (P : Program) (w : World) (t : TypeId) (X Y : Value) (r : Bool) : Prop :=
  (Op.equal t X Y).run P w = .ok r w ∧ (binOp .eql t X Y) = (do pure (.bool (← Op.equal t X Y))) ∧ (binOp .neq t X Y) = (do pure (.bool (!(← Op.equal t X Y)))) ∧
      (∀ o x y, (X = .nilIface → Y = .nilIface → isConstO x = true ∨ isConstO y = true) → (eqGuard o t x y X Y).run P w = .ok () w)

theorem EqSays.of {t : TypeId} {X Y : Value} {r : Bool} (q : ∀ d, (Op.equalIn (d + 1) t X Y).run P w = .ok r w) (h1 : (binOp .eql t X Y) = (do pure (.bool (← Op.equal t X Y))))
    (h2 : (binOp .neq t X Y) = (do pure (.bool (!(← Op.equal t X Y))))) (h3 : ∀ o x y, (X = .nilIface → Y = .nilIface → isConstO x = true ∨ isConstO y = true) → (eqGuard o t x y X Y).run P w = .ok () w) :
    EqSays P w t X Y r := ⟨q 9999, h1, h2, h3⟩

set_option maxHeartbeats 4000000 in
theorem run_equal_simple {t : TypeId} {k : EqK} {va vb : V} {X Y : Value} {r : Bool} (hk : okEqK P t k = true) (he : eqV k va vb = some r) (hx : conc R va = some X) (hy : conc R vb = some Y) :
    EqSays P w t X Y r := by
  cases k with
  | bool =>
    have hk : (match P.underlying t with | some (.bool) => true | _ => false) = true := hk
    split at hk <;> try simp at hk
    rename_i hu
    cases va <;> cases vb <;> simp [eqV] at he
    subst he
    obtain rfl := conc_bb hx
    obtain rfl := conc_bb hy
    exact .of (fun d => by simp [Op.equalIn, run_underlying hu]) rfl rfl (fun o x y _ => by cases o <;> simp [eqGuard])
  | ptr =>
    have hk : (match P.underlying t with | some (.pointer _) => true | _ => false) = true := hk
    split at hk <;> try simp at hk
    rename_i hu
    cases va <;> cases vb <;> simp [eqV] at he <;> subst he
    · obtain rfl := conc_pn hx; obtain rfl := conc_pn hy
      exact .of (fun d => by simp [Op.equalIn, run_underlying hu]) rfl rfl (fun o x y _ => by cases o <;> simp [eqGuard])
    · obtain rfl := conc_pn hx; obtain ⟨_, _, _, rfl⟩ := conc_p hy
      exact .of (fun d => by simp [Op.equalIn, run_underlying hu]) rfl rfl (fun o x y _ => by cases o <;> simp [eqGuard])
    · obtain rfl := conc_pn hy; obtain ⟨_, _, _, rfl⟩ := conc_p hx
      exact .of (fun d => by simp [Op.equalIn, run_underlying hu]) rfl rfl (fun o x y _ => by cases o <;> simp [eqGuard])
  | slice =>
    have hk : (match P.underlying t with | some (.slice _) => true | _ => false) = true := hk
    split at hk <;> try simp at hk
    rename_i hu
    cases va <;> cases vb <;> simp [eqV] at he <;> subst he
    · obtain rfl := conc_sn hx; obtain rfl := conc_sn hy
      exact .of (fun d => by simp [Op.equalIn, run_underlying hu]) rfl rfl (fun o x y _ => by cases o <;> simp [eqGuard])
    · obtain rfl := conc_sn hx; obtain ⟨_, _, _, _, rfl, _⟩ := conc_sl hy
      exact .of (fun d => by simp [Op.equalIn, run_underlying hu]) rfl rfl (fun o x y _ => by cases o <;> simp [eqGuard])
    · obtain rfl := conc_sn hx; obtain rfl := conc_se hy
      exact .of (fun d => by simp [Op.equalIn, run_underlying hu]) rfl rfl (fun o x y _ => by cases o <;> simp [eqGuard])
    · obtain rfl := conc_sn hy; obtain ⟨_, _, _, _, rfl, _⟩ := conc_sl hx
      exact .of (fun d => by simp [Op.equalIn, run_underlying hu]) rfl rfl (fun o x y _ => by cases o <;> simp [eqGuard])
    · obtain rfl := conc_sn hy; obtain rfl := conc_se hx
      exact .of (fun d => by simp [Op.equalIn, run_underlying hu]) rfl rfl (fun o x y _ => by cases o <;> simp [eqGuard])
  | map =>
    have hk : (match P.underlying t with | some (.map _ _) => true | _ => false) = true := hk
    split at hk <;> try simp at hk
    rename_i hu
    cases va <;> cases vb <;> simp [eqV] at he <;> subst he
    · obtain rfl := conc_mn hx; obtain rfl := conc_mn hy
      exact .of (fun d => by simp [Op.equalIn, run_underlying hu]) rfl rfl (fun o x y _ => by cases o <;> simp [eqGuard])
    · obtain rfl := conc_mn hx; obtain ⟨_, _, _, rfl⟩ := conc_m hy
      exact .of (fun d => by simp [Op.equalIn, run_underlying hu]) rfl rfl (fun o x y _ => by cases o <;> simp [eqGuard])
    · obtain rfl := conc_mn hy; obtain ⟨_, _, _, rfl⟩ := conc_m hx
      exact .of (fun d => by simp [Op.equalIn, run_underlying hu]) rfl rfl (fun o x y _ => by cases o <;> simp [eqGuard])
  | func =>
    have hk : (match P.underlying t with | some (.func _ _ _) => true | _ => false) = true := hk
    split at hk <;> try simp at hk
    rename_i hu
    cases va <;> cases vb <;> simp [eqV] at he <;> subst he
    · obtain rfl := conc_fnil hx; obtain rfl := conc_fnil hy
      exact .of (fun d => by simp [Op.equalIn, run_underlying hu]) rfl rfl (fun o x y _ => by cases o <;> simp [eqGuard])
    · obtain rfl := conc_fnil hx; obtain ⟨_, _, _, _, rfl⟩ := conc_fn hy
      exact .of (fun d => by simp [Op.equalIn, run_underlying hu]) rfl rfl (fun o x y _ => by cases o <;> simp [eqGuard])
    · obtain rfl := conc_fnil hx; obtain ⟨_, _, _, rfl⟩ := conc_yld hy
      exact .of (fun d => by simp [Op.equalIn, run_underlying hu]) rfl rfl (fun o x y _ => by cases o <;> simp [eqGuard])
    · obtain rfl := conc_fnil hy; obtain ⟨_, _, _, _, rfl⟩ := conc_fn hx
      exact .of (fun d => by simp [Op.equalIn, run_underlying hu]) rfl rfl (fun o x y _ => by cases o <;> simp [eqGuard])
    · obtain rfl := conc_fnil hy; obtain ⟨_, _, _, rfl⟩ := conc_yld hx
      exact .of (fun d => by simp [Op.equalIn, run_underlying hu]) rfl rfl (fun o x y _ => by cases o <;> simp [eqGuard])
  | iface =>
    have hk : (match P.underlying t with | some (.interface _) => true | _ => false) = true := hk
    split at hk <;> try simp at hk
    rename_i hu
    cases va <;> cases vb <;> simp [eqV] at he <;> subst he
    · obtain rfl := conc_in0 hx; obtain rfl := conc_in0 hy
      refine .of (fun d => by simp [Op.equalIn, run_underlying hu]) rfl rfl (fun o x y hc => ?_)
      rcases hc rfl rfl with hc | hc
      · cases x <;> simp [isConstO] at hc
        cases o <;> simp [eqGuard]
      · cases y <;> simp [isConstO] at hc
        cases o <;> simp [eqGuard]
    · obtain rfl := conc_in0 hx; obtain ⟨_, _, rfl⟩ := conc_ifc hy
      exact .of (fun d => by simp [Op.equalIn, run_underlying hu]) rfl rfl (fun o x y _ => by cases o <;> simp [eqGuard])
    · obtain rfl := conc_in0 hy; obtain ⟨_, _, rfl⟩ := conc_ifc hx
      exact .of (fun d => by simp [Op.equalIn, run_underlying hu]) rfl rfl (fun o x y _ => by cases o <;> simp [eqGuard])
  | agg ks =>
    have hk : (aggT P t && !P.eqGuardType P.depth t && (match flatT P 40 t with | some l => sameKs l ks | none => false)) = true := hk
    rw [Bool.and_eq_true, Bool.and_eq_true] at hk
    obtain ⟨⟨hag, hg⟩, hfl⟩ := hk
    split at hfl <;> try simp at hfl
    rename_i l hl
    obtain rfl := sameKs_eq hfl
    cases va <;> cases vb <;> simp only [eqV, reduceCtorEq] at he
    split at he <;> simp only [Option.some.injEq, reduceCtorEq] at he
    rename_i hfit
    rw [Bool.and_eq_true] at hfit
    obtain ⟨cx, hcx, rfl⟩ := conc_agg hx
    obtain ⟨cy, hcy, rfl⟩ := conc_agg hy
    refine ⟨by rw [← he]; exact run_equal_agg hag hl hfit.1 hfit.2 hcx hcy w, rfl, rfl, ?_⟩
    intro o x y _
    have hg' : P.eqGuardType P.depth t = false := by simpa using hg
    exact run_eqGuard_agg (w := w) o t x y _ _ hg'

set_option maxHeartbeats 4000000 in
theorem run_eqv {neg : Bool} {k : EqK} {a b : X} (hok : okA P op (.eqv neg k a b) = true) (hρ : EnvOk R t ρ) (hs : Sim P F R h.get w) (he : evA call (.eqv neg k a b) t h = .ok v h') :
    OpRun P F R h w (execOp ρ ⟨dst, op, ty, pos, af, gd⟩) v h' := by
  cases op <;> try exact (Bool.false_ne_true hok).elim
  rename_i o xt x y yt
  have hok : (decide (o = if neg then .neq else .eql) && okX x a && okX y b && okEqK P xt k && (match (generalizing := false) k with
    | .iface => isConstO x || isConstO y
    | _ => true)) = true := hok
  simp only [Bool.and_eq_true, decide_eq_true_eq] at hok
  obtain ⟨⟨⟨⟨ho, hxa⟩, hyb⟩, hkk⟩, hcst⟩ := hok
  have hx := hρ x a hxa
  have hy := hρ y b hyb
  simp only [evA] at he
  cases hev : eqV k (a.ev t) (b.ev t) with
  | none => simp [hev] at he
  | some r =>
    simp only [hev, RO.ok.injEq] at he
    obtain ⟨rfl, rfl⟩ := he
    obtain ⟨h1, h2, h3, h4⟩ := run_equal_simple (P := P) (w := w) hkk hev hx hy
    have hc : ρ x = .nilIface → ρ y = .nilIface → isConstO x = true ∨ isConstO y = true := by
      intro e1 e2
      cases k with
      | iface => simpa using hcst
      | _ =>
        exfalso
        rw [e1] at hx
        rw [e2] at hy
        generalize a.ev t = va at *
        generalize b.ev t = vb at *
        clear h1 h2 h3 h4 hkk
        cases va <;> cases vb <;> simp only [eqV, reduceCtorEq] at hev <;> first
          | (cases conc_bb hx; done)
          | (cases conc_pn hx; done)
          | (cases conc_sn hx; done)
          | (cases conc_se hx; done)
          | (cases conc_mn hx; done)
          | (cases conc_fnil hx; done)
          | (obtain ⟨_, _, _, e⟩ := conc_p hx; cases e; done)
          | (obtain ⟨_, _, _, _, e, _⟩ := conc_sl hx; cases e; done)
          | (obtain ⟨_, _, _, e⟩ := conc_m hx; cases e; done)
          | (obtain ⟨_, _, _, _, e⟩ := conc_fn hx; cases e; done)
          | (obtain ⟨_, _, _, e⟩ := conc_yld hx; cases e; done)
          | (obtain ⟨_, _, e⟩ := conc_agg hx; cases e; done)
    exact .plain (x := .bool (if neg then !r else r)) hs (by simp only [execOp, Sem.run_bind, h4 o x y hc, eql_of ho h1 h2 h3, Result.andThen_ok, Sem.run_pure]) (by simp [conc])
end
end Go.Air
