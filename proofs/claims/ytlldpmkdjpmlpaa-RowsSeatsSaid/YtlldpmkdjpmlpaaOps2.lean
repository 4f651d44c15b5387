/-
  One operation on both sides. Second part: cells, numbers, strings, slices, addresses.
-/
import Derived.Test.YtlldpmkdjpmlpaaOps1
import Derived.Laws.StructEq
set_option linter.unusedSectionVars false
set_option linter.unusedVariables false
set_option linter.unusedSimpArgs false
namespace Go.Air
section
variable {P : Program} {F : Nat → Prop} {R : Emb} {h h' : H} {w : World} {t : List V} {ρ : Operand → Value} {v : V}
  {dst : Option Tmp} {op : Op} {ty : TypeId} {pos : String} {af : Array Edge} {gd : Option (Nat × Bool)} {call : V → List V → H → RO}

def FootOk (F : Nat → Prop) : Option (List Nat) → Prop
  | none => ∀ b, F b
  | some l => ∀ b ∈ l, F b

theorem conc_p {b o : Nat} {x : Value} (hx : conc R (.p b o) = some x) : ∃ c sz, R b = some (c, sz) ∧ x = .pointer (some ⟨c, o, none⟩) := by
  simp only [conc, Option.map_eq_some_iff] at hx
  obtain ⟨a, ha, rfl⟩ := hx
  exact ⟨a.1, a.2, ha, rfl⟩

theorem cells_at {b c sz : Nat} {cs : List V} (hs : Sim P F R h.get w) (hF : F b) (hb : R b = some (c, sz)) (hg : h.get b = some (.cells cs)) :
    ∃ arr e vs rest, w.heap[c]? = some (.cells arr e (0, 0)) ∧ concL R cs = some vs ∧ arr.toList = vs ++ rest ∧ arr.size = sz := hs.blk b c sz _ hF hb hg

theorem run_ld {y : X} (hok : okA P op (.ld y) = true) (hρ : EnvOk R t ρ) (hs : Sim P F R h.get w) (hF : FootOk F (reads (.ld y) t)) (he : evA call (.ld y) t h = .ok v h') :
    OpRun P F R h w (execOp ρ ⟨dst, op, ty, pos, af, gd⟩) v h' := by
  cases op <;> try exact (Bool.false_ne_true hok).elim
  rename_i e x
  have hok : (plainT P e && okX x y) = true := hok
  rw [Bool.and_eq_true] at hok
  have hx := hρ x y hok.2
  simp only [evA] at he
  split at he <;> try simp at he
  rename_i b o hy
  split at he <;> try simp at he
  rename_i bl hg
  obtain ⟨hv, rfl⟩ := ofV_ok he
  rw [hy] at hx
  obtain ⟨c, sz, hb, hxe⟩ := conc_p hx
  obtain ⟨u, hcell, hc⟩ := rd1_at hs (hF b (by simp [hy, blockOf])) hb hg hv
  exact .plain hs (by simp [execOp, Instr.loadAt, hxe, Instr.sureAddr, loadVar, run_isAgg_plain w hok.1, hcell]) hc

theorem run_ldn {n : Nat} {y : X} (hok : okA P op (.ldn n y) = true) (hρ : EnvOk R t ρ) (hs : Sim P F R h.get w) (hF : FootOk F (reads (.ldn n y) t)) (he : evA call (.ldn n y) t h = .ok v h') :
    OpRun P F R h w (execOp ρ ⟨dst, op, ty, pos, af, gd⟩) v h' := by
  cases op <;> try exact (Bool.false_ne_true hok).elim
  rename_i e x
  have hok : (aggT P e && isSz P e n && okX x y) = true := hok
  rw [Bool.and_eq_true, Bool.and_eq_true] at hok
  obtain ⟨⟨hag, hsz⟩, hxy⟩ := hok
  have hx := hρ x y hxy
  simp only [evA] at he
  split at he <;> try simp at he
  rename_i b o hy
  split at he <;> try simp at he
  rename_i bl hg
  split at he <;> simp only [RO.ok.injEq, reduceCtorEq] at he
  rename_i l hl
  obtain ⟨rfl, rfl⟩ := he
  rw [hy] at hx
  obtain ⟨c, sz, hb, hxe⟩ := conc_p hx
  obtain ⟨us, h1, _, _, hr⟩ := rd_at hs (hF b (by simp [hy, blockOf])) hb hg hl
  exact .plain (x := .agg us.toArray) hs (by simp [execOp, Instr.loadAt, hxe, Instr.sureAddr, loadVar, run_isAgg_agg w hag, run_size w hsz, hr])
    (by simp [conc, h1])

theorem storeAt_ok {b o : Nat} {vs : List V} (he : storeAt h b o vs = some h') : ∃ cs cs', h.get b = some (.cells cs) ∧ lay cs o vs = some cs' ∧ (∀ v ∈ vs, v.oneCell = true) ∧ h' = h.put b (.cells cs') := by
  unfold storeAt at he
  split at he <;> try simp at he
  rename_i cs hg
  split at he <;> try simp at he
  rename_i cs' hl
  obtain ⟨hone, rfl⟩ := he
  exact ⟨cs, cs', hg, hl, hone, rfl⟩

theorem conc_ones : ∀ {vs : List V} {xs : List Value}, concL R vs = some xs → (∀ v ∈ vs, v.oneCell = true) → ∀ x ∈ xs, x.oneCell' = true
  | [], xs, h, _ => by simp [concL] at h; subst h; simp
  | v :: vs, xs, h, ho => by
    obtain ⟨x, ys, hx, hy, rfl⟩ := concL_cons.1 h
    intro z hz
    rcases List.mem_cons.1 hz with rfl | hz
    · exact conc_oneCell hx (ho v (by simp))
    · exact conc_ones hy (fun u hu => ho u (by simp [hu])) z hz

/-- cells are written. -/
theorem store_step {b c sz o : Nat} {vs : List V} {xs : List Value} (hs : Sim P F R h.get w) (hF : F b) (hb : R b = some (c, sz)) (he : storeAt h b o vs = some h') (hv : concL R vs = some xs) :
    ∃ w', (storeCells ⟨c, o, none⟩ xs).run P w = .ok () w' ∧ Fwd R R h h' w w' [b] ∧ Sim P F R h'.get w' := by
  obtain ⟨cs, cs', hg, hl, hone, rfl⟩ := storeAt_ok he
  obtain ⟨arr, e, ys, rest, h1, h2, h3, h4⟩ := cells_at hs hF hb hg
  obtain ⟨hle, rfl⟩ := lay_eq.1 hl
  have e1 := concL_length h2
  have e2 := concL_length hv
  have e3 : arr.toList.length = arr.size := Array.length_toList
  have e4 : arr.toList.length = ys.length + rest.length := by rw [h3]; simp
  obtain ⟨w', arr', r1, r2, r3, r4, r5, rio⟩ := run_storeCells_list (P := P) (o := o) xs 0 w arr h1 (by omega) (conc_ones hv hone)
  obtain ⟨hf, hs'⟩ := put_step (x := .cells (cs.take o ++ vs ++ cs.drop (o + vs.length))) hs hF hb hg rio r2 r3
    ⟨arr', e, ys.take o ++ xs ++ ys.drop (o + xs.length), rest, r4, by rw [e2]; exact concL_append (concL_append (concL_take o h2) hv) (concL_drop _ h2), by
      rw [r5, h3]
      simp only [Nat.add_zero]
      rw [List.take_append_of_le_length (by omega), List.drop_append_of_le_length (by omega)]
      simp, by
      have : arr'.toList.length = arr'.size := Array.length_toList
      rw [r5] at this
      simp at this
      omega⟩
  exact ⟨w', r1, hf, hs'⟩

theorem run_storeVar {e : TypeId} {n c o : Nat} {x : Value} {l : List Value} {w' : World} (hsz : isSz P e n = true) (hx : x.cells = l.toArray) (hn : l.length = n)
    (hr : (storeCells ⟨c, o, none⟩ l).run P w = .ok () w') : (storeVar e ⟨c, o, none⟩ x).run P w = .ok () w' := by
  simp only [storeVar, Sem.run_bind, run_size w hsz, Result.andThen_ok, hx]
  rw [if_neg (by simpa using hn)]
  simpa using hr

theorem run_st {n : Nat} {a b : X} (hok : okA P op (.st n a b) = true) (hρ : EnvOk R t ρ) (hs : Sim P F R h.get w) (hF : FootOk F (reads (.st n a b) t)) (he : evA call (.st n a b) t h = .ok v h') :
    OpRun P F R h w (execOp ρ ⟨dst, op, ty, pos, af, gd⟩) v h' := by
  cases op <;> try exact (Bool.false_ne_true hok).elim
  rename_i e x y
  have hok : (isSz P e n && okX x a && okX y b) = true := hok
  rw [Bool.and_eq_true, Bool.and_eq_true] at hok
  obtain ⟨⟨hsz, hxa⟩, hyb⟩ := hok
  have hx := hρ x a hxa
  have hy := hρ y b hyb
  simp only [evA] at he
  split at he <;> try simp at he
  rename_i b' o hya
  split at he <;> try simp at he
  rename_i hlen
  rw [hya] at hx
  obtain ⟨c, sz, hb, hxe⟩ := conc_p hx
  obtain ⟨l, hl, hc⟩ := conc_cells hy
  split at he <;> simp only [RO.ok.injEq, reduceCtorEq] at he
  rename_i h1 hst
  obtain ⟨rfl, rfl⟩ := he
  obtain ⟨w', r1, hf, hs'⟩ := store_step hs (hF b' (by simp [hya, blockOf])) hb hst hl
  refine ⟨.skip, undef, w', ?_, .inr ⟨rfl, rfl⟩, R, _, hf, hs', conc_undef R⟩
  have := run_storeVar hsz hc ((concL_length hl).trans hlen) r1
  simp [execOp, Instr.storeAt, hxe, Instr.sureAddr, this]

theorem run_nilck {y : X} (hok : okA P op (.nilck y) = true) (hρ : EnvOk R t ρ) (hs : Sim P F R h.get w) (he : evA call (.nilck y) t h = .ok v h') :
    OpRun P F R h w (execOp ρ ⟨dst, op, ty, pos, af, gd⟩) v h' := by
  cases op <;> try exact (Bool.false_ne_true hok).elim
  rename_i x
  have hx := hρ x y hok
  simp only [evA] at he
  split at he <;> simp only [RO.ok.injEq, reduceCtorEq] at he <;> (obtain ⟨rfl, rfl⟩ := he) <;> rename_i e <;> rw [e] at hx
  · obtain ⟨c, sz, hb, hxe⟩ := conc_p hx
    exact .plain (x := ρ x) hs (by simp [execOp, hxe]) hx
  · have hx0 := hx
    simp only [conc] at hx0
    split at hx0 <;> simp at hx0
    exact .plain (x := ρ x) hs (by simp [execOp, ← hx0]) hx
  · have hx0 := hx
    simp only [conc, Option.map_eq_some_iff] at hx0
    obtain ⟨a, _, ha⟩ := hx0
    exact .plain (x := ρ x) hs (by simp [execOp, ← ha]) hx

/-! ### Numbers -/
theorem conc_i {k : IntKind} {n : Int} {x : Value} (hx : conc R (.i k n) = some x) : x = .int k n := by simpa [conc, eq_comm] using hx
theorem conc_bb {b : Bool} {x : Value} (hx : conc R (.b b) = some x) : x = .bool b := by simpa [conc, eq_comm] using hx
theorem conc_ss {l : List Nat} {x : Value} (hx : conc R (.s l) = some x) : x = .string (byteArr l) ∧ ∀ n ∈ l, n < 256 := by
  simp only [conc] at hx
  split at hx <;> simp at hx
  rename_i hl
  exact ⟨hx.symm, by simpa using hl⟩

theorem run_guard_int (o : BinOp) (ty : TypeId) (x y : Operand) (k k' : IntKind) (a b : Int) : (eqGuard o ty x y (.int k a) (.int k' b)).run P w = .ok () w := by
  cases o <;> simp [eqGuard]
theorem run_guard_str (o : BinOp) (ty : TypeId) (x y : Operand) (a b : ByteArray) : (eqGuard o ty x y (.string a) (.string b)).run P w = .ok () w := by
  cases o <;> simp [eqGuard]

theorem run_binI {o : BinOp} {k : IntKind} {a b : Int} {ty : TypeId} (ho : o ≠ .shl) (ho' : o ≠ .shr) (he : binI o k a b = some v) :
    ∃ x, (binOp o ty (.int k a) (.int k b)).run P w = .ok x w ∧ conc R v = some x := by
  cases o <;> simp only [binI] at he <;> try (first | exact absurd rfl ho | exact absurd rfl ho')
  case quo => split at he <;> simp at he; rename_i hb; subst he; exact ⟨_, by simp [binOp, Op.intDiv, hb]; rfl, by simp [conc]⟩
  case rem => split at he <;> simp at he; rename_i hb; subst he; exact ⟨_, by simp [binOp, Op.intDiv, hb]; rfl, by simp [conc]⟩
  all_goals (simp only [Option.some.injEq] at he; subst he; refine ⟨_, ?_, by simp only [conc, bitsV]; rfl⟩; simp [binOp, Op.intArith, Op.intBits, Op.intCmp])
  all_goals (first | rfl | (congr 1; simp [bne]; done) | skip)

theorem run_shI {o : BinOp} {k k' : IntKind} {a b : Int} {ty : TypeId} (ho : o = .shl ∨ o = .shr) (he : shI o k a b = some v) :
    ∃ x, (binOp o ty (.int k a) (.int k' b)).run P w = .ok x w ∧ conc R v = some x := by
  unfold shI at he
  split at he <;> try simp at he
  rename_i hb
  rcases ho with rfl | rfl <;> simp only [Option.some.injEq] at he <;> subst he <;> exact ⟨_, by simp [binOp, Op.shift, hb]; rfl, by simp [conc]⟩

theorem toList_byteArr (l : List Nat) : (byteArr l).toList = l.map UInt8.ofNat := by rw [ByteArray.toList_eq]; rfl
theorem size_byteArr (l : List Nat) : (byteArr l).size = l.length := by simp [byteArr, ByteArray.size]
theorem append_byteArr (a b : List Nat) : byteArr a ++ byteArr b = byteArr (a ++ b) := by
  apply ByteArray.ext
  simp [byteArr, ByteArray.data_append]
theorem ofNat_inj {a b : Nat} (ha : a < 256) (hb : b < 256) (h : UInt8.ofNat a = UInt8.ofNat b) : a = b := by
  have := congrArg UInt8.toNat h
  simp at this
  omega
theorem bytesEq_iff : ∀ (a b : List Nat), bytesEq a b = true ↔ a = b
  | [], [] => by simp [bytesEq]
  | [], _ :: _ => by simp [bytesEq]
  | _ :: _, [] => by simp [bytesEq]
  | x :: a, y :: b => by simp [bytesEq, bytesEq_iff a b]
theorem bytesEq_map : ∀ (a b : List Nat), (∀ n ∈ a, n < 256) → (∀ n ∈ b, n < 256) → ((a.map UInt8.ofNat) == (b.map UInt8.ofNat)) = bytesEq a b
  | [], [], _, _ => by simp [bytesEq]
  | [], _ :: _, _, _ => by simp [bytesEq]
  | _ :: _, [], _, _ => by simp [bytesEq]
  | x :: a, y :: b, ha, hb => by
    have ih := bytesEq_map a b (fun n hn => ha n (by simp [hn])) (fun n hn => hb n (by simp [hn]))
    simp only [List.map_cons, List.cons_beq_cons, bytesEq, ih]
    congr 1
    rw [Bool.eq_iff_iff]
    simp
    exact ⟨fun e => ofNat_inj (ha x (by simp)) (hb y (by simp)) e, fun e => by rw [e]⟩
theorem bytesLess_map : ∀ (a b : List Nat), (∀ n ∈ a, n < 256) → (∀ n ∈ b, n < 256) → Op.bytesLess (a.map UInt8.ofNat) (b.map UInt8.ofNat) = bytesLess a b
  | a, [], _, _ => by cases a <;> simp [Op.bytesLess, bytesLess]
  | [], _ :: _, _, _ => by simp [Op.bytesLess, bytesLess]
  | x :: a, y :: b, ha, hb => by
    have ih := bytesLess_map a b (fun n hn => ha n (by simp [hn])) (fun n hn => hb n (by simp [hn]))
    have hx := ha x (by simp)
    have hy := hb y (by simp)
    simp only [List.map_cons, Op.bytesLess, bytesLess, ih]
    have e1 : decide (UInt8.ofNat x < UInt8.ofNat y) = Nat.blt x y := by
      rw [Bool.eq_iff_iff]
      simp [UInt8.lt_iff_toNat_lt]
      omega
    have e2 : (UInt8.ofNat x == UInt8.ofNat y) = Nat.beq x y := by
      rw [Bool.eq_iff_iff]
      simp
      exact ⟨fun e => ofNat_inj hx hy e, fun e => by rw [e]⟩
    rw [e1, e2]

theorem run_binS {o : BinOp} {x y : List Nat} {ty : TypeId} (hx : ∀ n ∈ x, n < 256) (hy : ∀ n ∈ y, n < 256) (he : binS o x y = some v) :
    ∃ u, (binOp o ty (.string (byteArr x)) (.string (byteArr y))).run P w = .ok u w ∧ conc R v = some u := by
  have e1 := bytesEq_map x y hx hy
  have e2 := bytesLess_map x y hx hy
  cases o <;> simp only [binS, reduceCtorEq] at he
  case add =>
    split at he <;> simp at he
    rename_i hle
    subst he
    refine ⟨.string (byteArr (x ++ y)), ?_, ?_⟩
    · rw [Nat.ble_eq] at hle
      have : ¬ (((byteArr x).size + (byteArr y).size : Nat) : Int) > IntKind.i64.max := by
        rw [size_byteArr, size_byteArr]
        have : IntKind.i64.max = 9223372036854775807 := by decide
        omega
      simp only [binOp, Op.stringOp]
      rw [if_neg this, append_byteArr]
      rfl
    · simp only [conc]
      rw [if_pos]
      rw [List.all_append]
      simp only [Bool.and_eq_true, List.all_eq_true]
      exact ⟨fun n hn => by simpa using hx n hn, fun n hn => by simpa using hy n hn⟩
  all_goals (simp only [Option.some.injEq] at he; subst he; refine ⟨_, ?_, by simp only [conc]; rfl⟩; simp only [binOp, Op.stringOp, toList_byteArr, e1, e2]; rfl)

theorem run_bin {o : BinOp} {a b : X} (hok : okA P op (.bin o a b) = true) (hρ : EnvOk R t ρ) (hs : Sim P F R h.get w) (he : evA call (.bin o a b) t h = .ok v h') :
    OpRun P F R h w (execOp ρ ⟨dst, op, ty, pos, af, gd⟩) v h' := by
  cases op <;> try exact (Bool.false_ne_true hok).elim
  rename_i o' xt x y yt
  have hok : (decide (o' = o) && okX x a && okX y b) = true := hok
  rw [Bool.and_eq_true, Bool.and_eq_true] at hok
  obtain ⟨⟨ho, hxa⟩, hyb⟩ := hok
  have ho : o' = o := by simpa using ho
  subst ho
  have hx := hρ x a hxa
  have hy := hρ y b hyb
  simp only [evA] at he
  obtain ⟨hv, rfl⟩ := ofV_ok he
  have fin : ∀ u : Value, (eqGuard o' xt x y (ρ x) (ρ y)).run P w = .ok () w → (binOp o' xt (ρ x) (ρ y)).run P w = .ok u w → conc R v = some u → OpRun P F R h' w (execOp ρ ⟨dst, .binOp o' xt x y yt, ty, pos, af, gd⟩) v h' := by
    intro u h1 h2 h3
    exact .plain (x := u) hs (by simp [execOp, h1, h2]) h3
  generalize ha : a.ev t = va at *
  generalize hb : b.ev t = vb at *
  unfold binV at hv
  split at hv
  · rename_i k n k' m
    have hx := conc_i hx
    have hy := conc_i hy
    split at hv
    · obtain ⟨u, h1, h2⟩ := run_shI (P := P) (R := R) (w := w) (ty := xt) (k' := k') (.inl rfl) hv
      exact fin u (by rw [hx, hy]; exact run_guard_int ..) (by rw [hx, hy]; exact h1) h2
    · obtain ⟨u, h1, h2⟩ := run_shI (P := P) (R := R) (w := w) (ty := xt) (k' := k') (.inr rfl) hv
      exact fin u (by rw [hx, hy]; exact run_guard_int ..) (by rw [hx, hy]; exact h1) h2
    · rename_i n1 n2
      split at hv <;> try simp at hv
      rename_i hk
      subst hk
      obtain ⟨u, h1, h2⟩ := run_binI (P := P) (R := R) (w := w) (ty := xt) n1 n2 hv
      exact fin u (by rw [hx, hy]; exact run_guard_int ..) (by rw [hx, hy]; exact h1) h2
  · rename_i l m
    obtain ⟨hx, hx'⟩ := conc_ss hx
    obtain ⟨hy, hy'⟩ := conc_ss hy
    obtain ⟨u, h1, h2⟩ := run_binS (P := P) (R := R) (w := w) (ty := xt) hx' hy' hv
    exact fin u (by rw [hx, hy]; exact run_guard_str ..) (by rw [hx, hy]; exact h1) h2
  · simp at hv

theorem run_un {o : UnOp} {a : X} (hok : okA P op (.un o a) = true) (hρ : EnvOk R t ρ) (hs : Sim P F R h.get w) (he : evA call (.un o a) t h = .ok v h') :
    OpRun P F R h w (execOp ρ ⟨dst, op, ty, pos, af, gd⟩) v h' := by
  cases op <;> try exact (Bool.false_ne_true hok).elim
  rename_i o' xt x
  have hok : (decide (o' = o) && okX x a) = true := hok
  rw [Bool.and_eq_true] at hok
  obtain ⟨ho, hxa⟩ := hok
  have ho : o' = o := by simpa using ho
  subst ho
  have hx := hρ x a hxa
  simp only [evA] at he
  obtain ⟨hv, rfl⟩ := ofV_ok he
  generalize ha : a.ev t = va at *
  unfold unV at hv
  split at hv
  · have hx := conc_i hx
    split at hv <;> simp only [Option.some.injEq, reduceCtorEq] at hv
    · subst hv
      exact .plain hs (by simp [execOp, hx, Op.unary, Op.intArith]; rfl) (by simp [conc])
    · subst hv
      exact .plain hs (by simp [execOp, hx, Op.unary, Op.intBits]; rfl) (by simp [conc, bitsV])
  · have hx := conc_bb hx
    split at hv <;> simp only [Option.some.injEq, reduceCtorEq] at hv
    subst hv
    exact .plain hs (by simp [execOp, hx, Op.unary]; rfl) (by simp [conc])
  · simp at hv

theorem run_conv {k : IntKind} {a : X} (hok : okA P op (.conv k a) = true) (hρ : EnvOk R t ρ) (hs : Sim P F R h.get w) (he : evA call (.conv k a) t h = .ok v h') :
    OpRun P F R h w (execOp ρ ⟨dst, op, ty, pos, af, gd⟩) v h' := by
  cases op <;> try exact (Bool.false_ne_true hok).elim
  rename_i s d x
  have hok : (okX x a && (match P.underlying s, P.underlying d with
    | some _, some (.int k') => decide (k = k')
    | _, _ => false)) = true := hok
  rw [Bool.and_eq_true] at hok
  obtain ⟨hxa, hd⟩ := hok
  have hx := hρ x a hxa
  split at hd <;> try simp at hd
  rename_i d1 k1 hs1 hd1
  subst hd
  simp only [evA] at he
  split at he <;> simp only [RO.ok.injEq, reduceCtorEq] at he
  rename_i k2 n e
  obtain ⟨rfl, rfl⟩ := he
  rw [e] at hx
  have hx := conc_i hx
  refine .plain (x := .int k (k.wrap n)) hs ?_ (by simp [conc])
  simp only [execOp, Sem.run_bind, convert, run_underlying hs1, run_underlying hd1, Result.andThen_ok, hx]
  cases d1 <;> simp [Conv.intToInt]

theorem run_mkI {k : Nat} {a : X} (hok : okA P op (.mkI k a) = true) (hρ : EnvOk R t ρ) (hs : Sim P F R h.get w) (he : evA call (.mkI k a) t h = .ok v h') :
    OpRun P F R h w (execOp ρ ⟨dst, op, ty, pos, af, gd⟩) v h' := by
  cases op <;> try exact (Bool.false_ne_true hok).elim
  rename_i s x
  have hok : (Nat.beq s k && okX x a && (match P.underlying s with
    | some (.interface _) => false
    | some _ => true
    | none => false)) = true := hok
  rw [Bool.and_eq_true, Bool.and_eq_true, Nat.beq_eq] at hok
  obtain ⟨⟨rfl, hxa⟩, hd⟩ := hok
  have hx := hρ x a hxa
  simp only [evA, RO.ok.injEq] at he
  obtain ⟨rfl, rfl⟩ := he
  refine .plain (x := .iface s (ρ x)) hs ?_ (by simp [conc, hx])
  cases hu : P.underlying s with
  | none => simp [hu] at hd
  | some d =>
    cases d <;> simp [hu] at hd <;> simp [execOp, Instr.makeInterface, run_underlying hu]

theorem okXs_conc (hρ : EnvOk R t ρ) : ∀ (xs : List Operand) (ys : List X), okXs xs ys = true → concL R (ys.map (X.ev t)) = some (xs.map ρ)
  | [], [], _ => by simp [concL]
  | [], _ :: _, hk => by simp [okXs] at hk
  | _ :: _, [], hk => by simp [okXs] at hk
  | x :: xs, y :: ys, hk => by
    simp only [okXs, Bool.and_eq_true] at hk
    exact concL_cons.2 ⟨_, _, hρ x y hk.1, okXs_conc hρ xs ys hk.2, rfl⟩

theorem run_mkFn {f : Nat} {a c : List X} (hok : okA P op (.mkFn f a c) = true) (hρ : EnvOk R t ρ) (hs : Sim P F R h.get w) (he : evA call (.mkFn f a c) t h = .ok v h') :
    OpRun P F R h w (execOp ρ ⟨dst, op, ty, pos, af, gd⟩) v h' := by
  cases op <;> try exact (Bool.false_ne_true hok).elim
  rename_i fn a' c'
  cases fn <;> try exact (Bool.false_ne_true hok).elim
  rename_i g
  have hok : (Nat.beq g f && okXs a'.toList a && okXs c'.toList c) = true := hok
  rw [Bool.and_eq_true, Bool.and_eq_true, Nat.beq_eq] at hok
  obtain ⟨⟨rfl, ha⟩, hc⟩ := hok
  simp only [evA, RO.ok.injEq] at he
  obtain ⟨rfl, rfl⟩ := he
  refine .plain (x := .func (.func g) (a'.map ρ) (c'.map ρ)) hs (by simp [execOp, Instr.makeFunc]) ?_
  simp only [conc, okXs_conc hρ _ _ ha, okXs_conc hρ _ _ hc]
  congr 2 <;> simp [← Array.toList_map]

theorem run_mkMap (hok : okA P op .mkMap = true) (hs : Sim P F R h.get w) (hfr : Fresh R h h') (he : evA call .mkMap t h = .ok v h') :
    OpRun P F R h w (execOp ρ ⟨dst, op, ty, pos, af, gd⟩) v h' := by
  cases op <;> try exact (Bool.false_ne_true hok).elim
  rename_i s r
  cases r <;> try exact (Bool.false_ne_true hok).elim
  simp only [evA, RO.ok.injEq] at he
  obtain ⟨rfl, rfl⟩ := he
  obtain ⟨hf, hs'⟩ := new_step (x := .map []) (sz := 0) (o := .map #[] 0) hs (fresh_new hfr) (fun w' hw' => ⟨#[], 0, hw', by simp [concM]⟩)
  exact ⟨.value (.map (some w.heap.size)), _, _, by simp [execOp, Instr.makeMap], .inl rfl, _, _, hf, hs', by simp [conc, Emb.add_self]⟩
end
end Go.Air
