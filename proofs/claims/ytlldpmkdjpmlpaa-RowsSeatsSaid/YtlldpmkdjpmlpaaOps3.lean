/-
  One operation on both sides. Third part: slices, addresses of parts, lengths, the least and the greatest.
-/
import Derived.Test.YtlldpmkdjpmlpaaOps2
set_option linter.unusedSectionVars false
set_option linter.unusedVariables false
set_option linter.unusedSimpArgs false
namespace Go.Air
section
variable {P : Program} {F : Nat → Prop} {R : Emb} {h h' : H} {w : World} {t : List V} {ρ : Operand → Value} {v : V}
  {dst : Option Tmp} {op : Op} {ty : TypeId} {pos : String} {af : Array Edge} {gd : Option (Nat × Bool)} {call : V → List V → H → RO}

theorem natOf_i {v : V} {n : Nat} (hn : natOf v = some n) : ∃ k, v = .i k (.ofNat n) := by
  unfold natOf at hn
  split at hn <;> simp at hn
  subst hn
  exact ⟨_, rfl⟩

theorem run_sliceBound {x : Operand} {y : X} {n m : Nat} {code : BoundsCode} (hρ : EnvOk R t ρ) (hxy : okX x y = true) (hn : natOf (y.ev t) = some n) (hle : n ≤ m) :
    (Instr.sliceBound (ρ x) m code).run P w = .ok n w := by
  obtain ⟨k, hk⟩ := natOf_i hn
  have hx := hρ x y hxy
  rw [hk] at hx
  have hx := conc_i hx
  simp only [Instr.sliceBound, hx, asIntOf, Sem.run_bind, Sem.run_pure, Result.andThen_ok]
  rw [if_pos ⟨Int.natCast_nonneg n, Int.ofNat_le.2 hle⟩]
  simp

theorem run_bounds {iss : Bool} {len cap a b : Nat} {lo hi : Option X} {lo' hi' : Option Operand} (hρ : EnvOk R t ρ) (hlo : okXo lo' lo = true) (hhi : okXo hi' hi = true)
    (hb : bounds t len cap lo hi = some (a, b)) {cap' : Nat} (hcap : cap ≤ cap') : (Instr.sliceBounds iss len cap' (lo'.map ρ) (hi'.map ρ) none).run P w = .ok (a, b, cap') w ∧ a ≤ b ∧ b ≤ cap := by
  unfold bounds at hb
  cases hi with
  | none =>
    cases hi' with
    | some _ => simp [okXo] at hhi
    | none =>
      simp only at hb
      split at hb
      case isFalse => simp at hb
      rename_i hc
      rw [Nat.ble_eq] at hc
      cases lo with
      | none =>
        cases lo' with
        | some _ => simp [okXo] at hlo
        | none =>
          simp at hb
          obtain ⟨rfl, rfl⟩ := hb
          exact ⟨by simp [Instr.sliceBounds], Nat.zero_le _, hc⟩
      | some x =>
        cases lo' with
        | none => simp [okXo] at hlo
        | some x' =>
          split at hb <;> try simp at hb
          rename_i a' ha
          obtain ⟨hle, rfl, rfl⟩ := hb
          exact ⟨by simp [Instr.sliceBounds, run_sliceBound hρ hlo ha hle], hle, hc⟩
  | some y =>
    cases hi' with
    | none => simp [okXo] at hhi
    | some y' =>
      simp only at hb
      split at hb
      · simp at hb
      rename_i q hq
      split at hb
      case isFalse => simp at hb
      rename_i hc
      rw [Nat.ble_eq] at hc
      have hrq : ∀ code, (Instr.sliceBound (ρ y') cap' code).run P w = .ok q w := fun code => run_sliceBound hρ hhi hq (by omega)
      cases lo with
      | none =>
        cases lo' with
        | some _ => simp [okXo] at hlo
        | none =>
          simp at hb
          obtain ⟨rfl, rfl⟩ := hb
          exact ⟨by simp [Instr.sliceBounds, hrq], Nat.zero_le _, hc⟩
      | some x =>
        cases lo' with
        | none => simp [okXo] at hlo
        | some x' =>
          split at hb <;> try simp at hb
          rename_i a' ha
          obtain ⟨hle, rfl, rfl⟩ := hb
          exact ⟨by simp [Instr.sliceBounds, hrq, run_sliceBound hρ hlo ha hle], hle, hc⟩

theorem conc_sl {b o l c : Nat} {g : Option Nat} {x : Value} (hx : conc R (.sl b o l c g) = some x) : ∃ cb sz cap', R b = some (cb, sz) ∧ x = .slice (some ⟨cb, o, none⟩) l cap' ∧ c ≤ cap' ∧
    (g = none → cap' = c) ∧ (∀ e, g = some e → cap' = (sz - o) / e ∧ o + c * e ≤ sz ∧ 0 < e) := by
  cases g with
  | none =>
    simp only [conc, Option.map_eq_some_iff] at hx
    obtain ⟨a, ha, rfl⟩ := hx
    exact ⟨a.1, a.2, c, ha, rfl, Nat.le_refl _, (fun _ => rfl), (fun e he => by cases he)⟩
  | some e =>
    simp only [conc, Option.bind_eq_some_iff] at hx
    obtain ⟨a, ha, hx⟩ := hx
    split at hx <;> simp at hx
    rename_i hc
    subst hx
    refine ⟨a.1, a.2, _, ha, rfl, ?_, (fun hn => by cases hn), (fun e' he => by cases he; exact ⟨rfl, hc⟩)⟩
    rw [Nat.le_div_iff_mul_le hc.2]
    omega

theorem run_sl_expr {e : TypeId} {esz : Nat} {t' : TypeId} {x : Value} {lo hi : Option Value} {mx : Option Value} {a b m base len cap : Nat} {off : Nat} (hu : P.underlying t' = some (.slice e)) (hsz : isSz P e esz = true)
    (hx : x = .slice (some ⟨base, off, none⟩) len cap) (hb : (Instr.sliceBounds true len cap lo hi mx).run P w = .ok (a, b, m) w) :
    (Instr.sliceAt t' x lo hi mx).run P w = .ok (.slice (some ⟨base, if m = a then off else off + a * esz, none⟩) (b - a) (m - a)) w := by
  subst hx
  simp only [Instr.sliceAt, Sem.run_bind, run_underlying hu, Result.andThen_ok, Instr.slice, hb, run_size w hsz, Sem.run_pure, Option.map_some, add_spot]
  by_cases hm : m = a
  · rw [if_pos hm, if_pos hm]
  · rw [if_neg hm, if_neg hm]

theorem run_slc {esz : Nat} {y : X} {lo hi mx : Option X} (hok : okA P op (.slc esz y lo hi mx) = true) (hρ : EnvOk R t ρ) (hs : Sim P F R h.get w) (he : evA call (.slc esz y lo hi mx) t h = .ok v h') :
    OpRun P F R h w (execOp ρ ⟨dst, op, ty, pos, af, gd⟩) v h' := by
  cases op <;> try exact (Bool.false_ne_true hok).elim
  rename_i t' x lo' hi' mx'
  have hok : (okX x y && okXo lo' lo && okXo hi' hi && okXo mx' mx && (match P.underlying t' with
    | some (.slice e) => isSz P e esz
    | _ => false)) = true := hok
  simp only [Bool.and_eq_true] at hok
  obtain ⟨⟨⟨⟨hxy, hlo⟩, hhi⟩, hmx⟩, hu⟩ := hok
  split at hu <;> try simp at hu
  rename_i e hue
  have hx := hρ x y hxy
  simp only [evA] at he
  generalize y.ev t = vy at *
  cases mx with
  | none =>
    cases mx' with
    | some _ => simp [okXo] at hmx
    | none =>
      simp only at he
      obtain ⟨hv, rfl⟩ := ofV_ok he
      unfold sliceV at hv
      split at hv
      · split at hv <;> simp at hv
        subst hv
        rename_i q hq
        obtain ⟨a, b⟩ := q
        obtain ⟨hr, h1, h2⟩ := run_bounds (P := P) (w := w) (iss := true) hρ hlo hhi hq (Nat.le_refl _)
        simp [conc] at hx
        obtain rfl : b = 0 := by omega
        obtain rfl : a = 0 := by omega
        refine .plain (x := .slice none 0 0) hs ?_ (by simp [conc])
        simp [execOp, Instr.sliceAt, run_underlying hue, Instr.slice, ← hx, hr, run_size w hu]
      · rename_i aa
        split at hv <;> simp at hv
        subst hv
        rename_i q hq
        obtain ⟨a, b⟩ := q
        obtain ⟨hr, h1, h2⟩ := run_bounds (P := P) (w := w) (iss := true) hρ hlo hhi hq (Nat.le_refl _)
        simp [conc] at hx
        obtain rfl : b = 0 := by omega
        obtain rfl : a = 0 := by omega
        refine .plain (x := .slice (some aa) 0 0) hs ?_ (by simp [conc])
        simp [execOp, Instr.sliceAt, run_underlying hue, Instr.slice, ← hx, hr, run_size w hu]
      · rename_i blk off len cap g
        split at hv <;> try simp at hv
        rename_i a b hq
        obtain ⟨cb, sz, cap', hR, hxe, hcc, hg1, hg2⟩ := conc_sl hx
        obtain ⟨hr, h1, h2⟩ := run_bounds (P := P) (w := w) (iss := true) hρ hlo hhi hq hcc
        have hrun := run_sl_expr (P := P) (w := w) hue hu hxe hr
        refine ⟨_, _, w, by simp only [execOp, Sem.run_bind, Option.map_none, hrun, Result.andThen_ok, Sem.run_pure]; rfl, .inl rfl, .same hs ?_⟩
        cases g with
        | none =>
          simp at hv
          subst hv
          obtain rfl := hg1 rfl
          simp only [conc, hR, Option.map_some, Nat.beq_eq_true_eq]
          congr 5
          by_cases hac : a = cap'
          · simp [hac]
          · simp [hac, Ne.symm hac]
        | some g =>
          simp at hv
          obtain ⟨⟨hlt, rfl⟩, rfl⟩ := hv
          obtain ⟨hc1, hc2, hc3⟩ := hg2 g rfl
          have hne : ¬ cap' = a := by omega
          simp only [conc, hR, Option.bind_some, if_neg hne]
          have h3 : (cap - a) * g = cap * g - a * g := Nat.sub_mul ..
          have h4 : a * g ≤ cap * g := Nat.mul_le_mul_right g (by omega)
          rw [if_pos ⟨by omega, hc3⟩, hc1]
          congr 2
          rw [Nat.sub_add_eq, Nat.mul_comm a g, Nat.sub_mul_div]
      · simp at hv
  | some m =>
    cases mx' with
    | none => simp [okXo] at hmx
    | some m' =>
      simp only at he
      obtain ⟨hv, rfl⟩ := ofV_ok he
      unfold sliceV3 at hv
      have hbs : ∀ {len cap' mm a b : Nat} {hh : X}, natOf (m.ev t) = some mm → hi = some hh → mm ≤ cap' → bounds t mm mm lo hi = some (a, b) → ∃ hi1, hi' = some hi1 ∧
          (Instr.sliceBounds true len cap' (lo'.map ρ) (some (ρ hi1)) (some (ρ m'))).run P w = .ok (a, b, mm) w := by
        intro len cap' mm a b hh hm hhe hmc hq
        subst hhe
        cases hi' with
        | none => simp [okXo] at hhi
        | some hi' =>
          refine ⟨hi', rfl, ?_⟩
          have hrm := run_sliceBound (P := P) (w := w) (code := .slice3Acap) hρ hmx hm hmc
          have hok2 : okX hi' hh = true := hhi
          unfold bounds at hq
          simp only at hq
          split at hq <;> try simp at hq
          rename_i b' hb'
          obtain ⟨hle, hq⟩ := hq
          simp only [Instr.sliceBounds, Sem.run_bind, if_true, hrm, Result.andThen_ok, Sem.run_pure]
          rw [run_sliceBound hρ hok2 hb' hle]
          simp only [Result.andThen_ok]
          cases lo with
          | none =>
            cases lo' with
            | some _ => simp [okXo] at hlo
            | none => simp at hq; simp [hq]
          | some x1 =>
            cases lo' with
            | none => simp [okXo] at hlo
            | some x1' =>
              simp only at hq
              split at hq <;> try simp at hq
              rename_i a' ha
              obtain ⟨hle, rfl, rfl⟩ := hq
              simp only [Option.map_some, Sem.run_bind]
              rw [run_sliceBound hρ hlo ha hle]
              simp
      split at hv <;> try simp at hv
      · rename_i blk off len cap g
        split at hv <;> try simp at hv
        rename_i mm hh hm
        obtain ⟨hmc, hv⟩ := hv
        split at hv <;> simp at hv
        rename_i a b hq
        subst hv
        obtain ⟨cb, sz, cap', hR, hxe, hcc, hg1, hg2⟩ := conc_sl hx
        obtain ⟨hi1, rfl, hrb⟩ := hbs (len := len) (cap' := cap') hm rfl (Nat.le_trans hmc hcc) hq
        have hrun := run_sl_expr (P := P) (w := w) hue hu hxe hrb
        refine ⟨_, _, w, by simp only [execOp, Sem.run_bind, Option.map_some, hrun, Result.andThen_ok, Sem.run_pure]; rfl, .inl rfl, .same hs ?_⟩
        simp only [conc, hR, Option.map_some, Nat.beq_eq_true_eq]
        congr 5
        by_cases hac : a = mm
        · simp [hac]
        · simp [hac, Ne.symm hac]
      · rename_i aa
        split at hv <;> try simp at hv
        rename_i mm hh hm
        obtain ⟨rfl, hv⟩ := hv
        split at hv <;> simp at hv
        rename_i q hq
        obtain ⟨a, b⟩ := q
        subst hv
        obtain ⟨hi1, rfl, hrb⟩ := hbs (len := 0) (cap' := 0) hm rfl (Nat.le_refl _) hq
        obtain ⟨_, h1, h2⟩ := run_bounds (P := P) (w := w) (iss := true) hρ hlo hhi hq (Nat.le_refl _)
        obtain rfl : b = 0 := by omega
        obtain rfl : a = 0 := by omega
        simp [conc] at hx
        refine .plain (x := .slice (some aa) 0 0) hs ?_ (by simp [conc])
        simp [execOp, Instr.sliceAt, run_underlying hue, Instr.slice, ← hx, hrb, run_size w hu]

theorem run_slcA {len esz : Nat} {y : X} {lo hi : Option X} (hok : okA P op (.slcA len esz y lo hi) = true) (hρ : EnvOk R t ρ) (hs : Sim P F R h.get w) (he : evA call (.slcA len esz y lo hi) t h = .ok v h') :
    OpRun P F R h w (execOp ρ ⟨dst, op, ty, pos, af, gd⟩) v h' := by
  cases op <;> try exact (Bool.false_ne_true hok).elim
  rename_i t' x lo' hi' mx'
  have hok : (okX x y && okXo lo' lo && okXo hi' hi && mx'.isNone && (match P.underlying t' with
    | some (.array n e) => Nat.beq n len && isSz P e esz
    | _ => false)) = true := hok
  simp only [Bool.and_eq_true, Option.isNone_iff_eq_none] at hok
  obtain ⟨⟨⟨⟨hxy, hlo⟩, hhi⟩, rfl⟩, hu⟩ := hok
  split at hu <;> try simp at hu
  rename_i n e hue
  obtain ⟨rfl, hsz⟩ := hu
  have hx := hρ x y hxy
  simp only [evA] at he
  split at he <;> try simp at he
  rename_i b o hy
  split at he <;> simp only [RO.ok.injEq, reduceCtorEq] at he
  rename_i l r hq
  obtain ⟨rfl, rfl⟩ := he
  rw [hy] at hx
  obtain ⟨c, sz, hb, hxe⟩ := conc_p hx
  obtain ⟨hr, h1, h2⟩ := run_bounds (P := P) (w := w) (iss := false) hρ hlo hhi hq (Nat.le_refl _)
  refine .plain (x := .slice (some ⟨c, if n = l then o else o + l * esz, none⟩) (r - l) (n - l)) hs ?_ ?_
  · simp only [execOp, Instr.sliceAt, Sem.run_bind, run_underlying hue, Result.andThen_ok, hxe, Instr.sureAddr, Sem.run_pure, Option.map_none, hr, run_size w hsz, add_spot]
    by_cases hm : n = l
    · rw [if_pos hm, if_pos hm]
    · rw [if_neg hm, if_neg hm]
  · simp only [conc, hb, Option.map_some, Nat.beq_eq_true_eq]
    congr 5
    by_cases hac : l = n
    · simp [hac]
    · simp [hac, Ne.symm hac]

theorem extract_byteArr (l : List Nat) (a b : Nat) : (byteArr l).extract a b = byteArr ((l.drop a).take (b - a)) := by
  apply ByteArray.ext
  simp [byteArr, ByteArray.data_extract, List.extract, List.map_drop, List.map_take]

theorem run_slcS {y : X} {lo hi : Option X} (hok : okA P op (.slcS y lo hi) = true) (hρ : EnvOk R t ρ) (hs : Sim P F R h.get w) (he : evA call (.slcS y lo hi) t h = .ok v h') :
    OpRun P F R h w (execOp ρ ⟨dst, op, ty, pos, af, gd⟩) v h' := by
  cases op <;> try exact (Bool.false_ne_true hok).elim
  rename_i t' x lo' hi' mx'
  have hok : (okX x y && okXo lo' lo && okXo hi' hi && mx'.isNone && (match P.underlying t' with
    | some .string => true
    | _ => false)) = true := hok
  simp only [Bool.and_eq_true, Option.isNone_iff_eq_none] at hok
  obtain ⟨⟨⟨⟨hxy, hlo⟩, hhi⟩, rfl⟩, hu⟩ := hok
  split at hu <;> try simp at hu
  rename_i hue
  have hx := hρ x y hxy
  simp only [evA] at he
  split at he <;> try simp at he
  rename_i l hy
  split at he <;> simp only [RO.ok.injEq, reduceCtorEq] at he
  rename_i a b hq
  obtain ⟨rfl, rfl⟩ := he
  rw [hy] at hx
  obtain ⟨hxe, hlt⟩ := conc_ss hx
  obtain ⟨hr, h1, h2⟩ := run_bounds (P := P) (w := w) (iss := false) hρ hlo hhi hq (Nat.le_refl _)
  refine .plain (x := .string (byteArr ((l.drop a).take (b - a)))) hs ?_ ?_
  · simp only [execOp, Instr.sliceAt, Sem.run_bind, run_underlying hue, Result.andThen_ok, hxe, Instr.slice, Option.isSome_none, Option.map_none, size_byteArr, hr, extract_byteArr]
    simp [hr]
  · simp only [conc]
    rw [if_pos]
    rw [List.all_eq_true]
    intro n hn
    simpa using hlt n (List.mem_of_mem_drop (List.mem_of_mem_take hn))

theorem run_fld {off : Nat} {y : X} (hok : okA P op (.fld off y) = true) (hρ : EnvOk R t ρ) (hs : Sim P F R h.get w) (he : evA call (.fld off y) t h = .ok v h') :
    OpRun P F R h w (execOp ρ ⟨dst, op, ty, pos, af, gd⟩) v h' := by
  cases op <;> try exact (Bool.false_ne_true hok).elim
  rename_i s x f
  have hok : (okX x y && (match P.underlying s with
    | some (.struct fs) => (match fs[f]? with
      | some fd => Nat.beq fd.offset off && (match szT P fd.type with
        | some n => Nat.blt 0 n
        | none => false)
      | none => false)
    | _ => false)) = true := hok
  rw [Bool.and_eq_true] at hok
  obtain ⟨hxy, hu⟩ := hok
  split at hu <;> try simp at hu
  rename_i fs hue
  split at hu <;> try simp at hu
  rename_i fd hfd
  obtain ⟨rfl, hn⟩ := hu
  split at hn <;> try simp at hn
  rename_i n hsz
  have hx := hρ x y hxy
  simp only [evA] at he
  split at he <;> simp only [RO.ok.injEq, reduceCtorEq] at he
  rename_i b o hy
  obtain ⟨rfl, rfl⟩ := he
  rw [hy] at hx
  obtain ⟨c, sz, hb, hxe⟩ := conc_p hx
  have hr : (sizeOf fd.type).run P w = .ok n w := run_size w (by simp [isSz, hsz])
  refine .plain (x := .pointer (some ⟨c, o + fd.offset, none⟩)) hs ?_ (by simp [conc, hb])
  simp only [execOp, Instr.fieldAt, Sem.run_bind, run_underlying hue, Result.andThen_ok, hfd, hxe, Instr.sureAddr, Sem.run_pure, fieldPlace, hr]
  rw [if_neg (by omega)]
  simp [add_spot]

theorem run_part_plainT {ft : TypeId} {cs : Array Value} {off : Nat} {x : Value} (hp : plainT P ft = true) (hx : cs.toList[off]? = some x) : (part ft cs off).run P w = .ok x w := by
  simp only [part, Sem.run_bind, run_isAgg_plain w hp, Result.andThen_ok, Bool.false_eq_true, if_false]
  rw [Array.getElem?_toList] at hx
  simp [hx]
theorem run_part_aggT {ft : TypeId} {cs : Array Value} {off n : Nat} (hp : aggT P ft = true) (hn : isSz P ft n = true) : (part ft cs off).run P w = .ok (.agg ((cs.toList.drop off).take n).toArray) w := by
  simp only [part, Sem.run_bind, run_isAgg_agg w hp, Result.andThen_ok, if_true, run_size w hn, Sem.run_pure]
  congr 2
  apply Array.ext'
  simp [List.extract]

theorem conc_agg {c : List V} {x : Value} (hx : conc R (.agg c) = some x) : ∃ l, concL R c = some l ∧ x = .agg l.toArray := by
  simp only [conc] at hx
  cases hc : concL R c with
  | none => simp [hc] at hx
  | some l => simp [hc] at hx; exact ⟨l, rfl, hx.symm⟩
theorem conc_tup {c : List V} {x : Value} (hx : conc R (.tup c) = some x) : ∃ l, concL R c = some l ∧ x = .tuple l.toArray := by
  simp only [conc] at hx
  cases hc : concL R c with
  | none => simp [hc] at hx
  | some l => simp [hc] at hx; exact ⟨l, rfl, hx.symm⟩

theorem run_fldv {off : Nat} {sz : Option Nat} {y : X} (hok : okA P op (.fldv off sz y) = true) (hρ : EnvOk R t ρ) (hs : Sim P F R h.get w) (he : evA call (.fldv off sz y) t h = .ok v h') :
    OpRun P F R h w (execOp ρ ⟨dst, op, ty, pos, af, gd⟩) v h' := by
  cases op <;> try exact (Bool.false_ne_true hok).elim
  rename_i s x f
  have hok : (okX x y && (match P.underlying s with
    | some (.struct fs) => (match fs[f]? with
      | some fd => Nat.beq fd.offset off && (match (generalizing := false) sz with
        | none => plainT P fd.type
        | some n => aggT P fd.type && isSz P fd.type n)
      | none => false)
    | _ => false)) = true := hok
  rw [Bool.and_eq_true] at hok
  obtain ⟨hxy, hu⟩ := hok
  split at hu <;> try simp at hu
  rename_i fs hue
  split at hu <;> try simp at hu
  rename_i fd hfd
  obtain ⟨rfl, hn⟩ := hu
  have hx := hρ x y hxy
  simp only [evA] at he
  split at he <;> try simp at he
  rename_i c hy
  rw [hy] at hx
  obtain ⟨l, hl, hxe⟩ := conc_agg hx
  cases sz with
  | none =>
    simp only at he
    obtain ⟨hv, rfl⟩ := ofV_ok he
    rw [nth?_eq] at hv
    obtain ⟨u, hu, hc⟩ := concL_get hl hv
    refine .plain (x := u) hs ?_ hc
    simp [execOp, Instr.field, run_underlying hue, hfd, hxe, asAgg, run_part_plainT (P := P) (w := w) (cs := l.toArray) hn (by simpa using hu)]
  | some n =>
    simp only at he hn
    rw [Bool.and_eq_true] at hn
    split at he <;> simp only [RO.ok.injEq, reduceCtorEq] at he
    rename_i l' hl'
    obtain ⟨rfl, rfl⟩ := he
    obtain ⟨hle, rfl⟩ := cut_eq.1 hl'
    refine .plain (x := .agg ((l.drop fd.offset).take n).toArray) hs ?_ (by simp [conc, concL_take n (concL_drop fd.offset hl)])
    simp [execOp, Instr.field, run_underlying hue, hfd, hxe, asAgg, run_part_aggT (P := P) (w := w) (cs := l.toArray) hn.1 hn.2]

theorem run_ixS {esz : Nat} {y i : X} (hok : okA P op (.ixS esz y i) = true) (hρ : EnvOk R t ρ) (hs : Sim P F R h.get w) (he : evA call (.ixS esz y i) t h = .ok v h') :
    OpRun P F R h w (execOp ρ ⟨dst, op, ty, pos, af, gd⟩) v h' := by
  cases op <;> try exact (Bool.false_ne_true hok).elim
  rename_i t' x ix
  have hok : (okX x y && okX ix i && (match P.underlying t' with
    | some (.slice e) => isSz P e esz
    | _ => false)) = true := hok
  simp only [Bool.and_eq_true] at hok
  obtain ⟨⟨hxy, hii⟩, hu⟩ := hok
  split at hu <;> try simp at hu
  rename_i e hue
  have hx := hρ x y hxy
  have hi := hρ ix i hii
  simp only [evA] at he
  split at he <;> try simp at he
  rename_i b o len cap g n hy hn
  split at he <;> simp only [RO.ok.injEq, reduceCtorEq] at he
  rename_i hlt
  obtain ⟨rfl, rfl⟩ := he
  rw [hy] at hx
  obtain ⟨cb, sz, cap', hR, hxe, hcc, hg1, hg2⟩ := conc_sl hx
  obtain ⟨k, hk⟩ := natOf_i hn
  rw [hk] at hi
  have hi := conc_i hi
  refine .plain (x := .pointer (some ⟨cb, o + n * esz, none⟩)) hs ?_ (by simp [conc, hR])
  simp only [execOp, Instr.indexAt, Sem.run_bind, run_underlying hue, Result.andThen_ok, hxe, hi, asIntOf, Sem.run_pure]
  rw [if_pos ⟨Int.natCast_nonneg n, Int.ofNat_lt.2 hlt⟩]
  simp [run_size w hu, add_spot]

theorem run_ixA {len esz : Nat} {y i : X} (hok : okA P op (.ixA len esz y i) = true) (hρ : EnvOk R t ρ) (hs : Sim P F R h.get w) (he : evA call (.ixA len esz y i) t h = .ok v h') :
    OpRun P F R h w (execOp ρ ⟨dst, op, ty, pos, af, gd⟩) v h' := by
  cases op <;> try exact (Bool.false_ne_true hok).elim
  rename_i t' x ix
  have hok : (okX x y && okX ix i && (match P.underlying t' with
    | some (.array n e) => Nat.beq n len && isSz P e esz
    | _ => false)) = true := hok
  simp only [Bool.and_eq_true] at hok
  obtain ⟨⟨hxy, hii⟩, hu⟩ := hok
  split at hu <;> try simp at hu
  rename_i n' e hue
  obtain ⟨rfl, hsz⟩ := hu
  have hx := hρ x y hxy
  have hi := hρ ix i hii
  simp only [evA] at he
  split at he <;> try simp at he
  rename_i b o n hy hn
  split at he <;> simp only [RO.ok.injEq, reduceCtorEq] at he
  rename_i hlt
  obtain ⟨rfl, rfl⟩ := he
  rw [hy] at hx
  obtain ⟨c, sz, hb, hxe⟩ := conc_p hx
  obtain ⟨k, hk⟩ := natOf_i hn
  rw [hk] at hi
  have hi := conc_i hi
  refine .plain (x := .pointer (some ⟨c, o + n * esz, none⟩)) hs ?_ (by simp [conc, hb])
  simp only [execOp, Instr.indexAt, Sem.run_bind, run_underlying hue, Result.andThen_ok, hxe, hi, asIntOf, Sem.run_pure, Instr.sureAddr]
  rw [if_pos ⟨Int.natCast_nonneg n, Int.ofNat_lt.2 hlt⟩]
  simp [run_size w hsz, add_spot]

theorem run_ixStr {y i : X} (hok : okA P op (.ixStr y i) = true) (hρ : EnvOk R t ρ) (hs : Sim P F R h.get w) (he : evA call (.ixStr y i) t h = .ok v h') :
    OpRun P F R h w (execOp ρ ⟨dst, op, ty, pos, af, gd⟩) v h' := by
  cases op <;> try exact (Bool.false_ne_true hok).elim
  rename_i t' x ix
  have hok : (okX x y && okX ix i && (match P.underlying t' with
    | some .string => true
    | _ => false)) = true := hok
  simp only [Bool.and_eq_true] at hok
  obtain ⟨⟨hxy, hii⟩, hu⟩ := hok
  split at hu <;> try simp at hu
  rename_i hue
  have hx := hρ x y hxy
  have hi := hρ ix i hii
  simp only [evA] at he
  split at he <;> try simp at he
  rename_i l n hy hn
  split at he <;> simp only [RO.ok.injEq, reduceCtorEq] at he
  rename_i c hc
  obtain ⟨rfl, rfl⟩ := he
  rw [hy] at hx
  obtain ⟨hxe, hlt⟩ := conc_ss hx
  obtain ⟨k, hk⟩ := natOf_i hn
  rw [hk] at hi
  have hi := conc_i hi
  have hn' : n < l.length := (List.getElem?_eq_some_iff.1 hc).1
  have hget : (byteArr l)[n]? = some (UInt8.ofNat c) := by
    have hs : n < (byteArr l).size := by rw [size_byteArr]; exact hn'
    rw [getElem?_pos (byteArr l) n hs]
    congr 1
    have e : l[n] = c := (List.getElem?_eq_some_iff.1 hc).2
    show (byteArr l).data[n] = _
    simp [byteArr, e]
  have hc256 : c < 256 := hlt c (List.mem_of_getElem? hc)
  refine .plain (x := .int .u8 c) hs ?_ (by simp [conc])
  simp only [execOp, Instr.index, Sem.run_bind, run_underlying hue, Result.andThen_ok, hxe, hi, asIntOf, Sem.run_pure]
  rw [if_pos (show (0 : Int) ≤ Int.ofNat n from Int.natCast_nonneg n)]
  simp only [Int.ofNat_eq_natCast, Int.toNat_natCast, hget]
  simp
  omega

theorem run_ixV {len esz : Nat} {ag : Bool} {y i : X} (hok : okA P op (.ixV len esz ag y i) = true) (hρ : EnvOk R t ρ) (hs : Sim P F R h.get w) (he : evA call (.ixV len esz ag y i) t h = .ok v h') :
    OpRun P F R h w (execOp ρ ⟨dst, op, ty, pos, af, gd⟩) v h' := by
  cases op <;> try exact (Bool.false_ne_true hok).elim
  rename_i t' x ix
  have hok : (okX x y && okX ix i && (match P.underlying t' with
    | some (.array n e) => Nat.beq n len && isSz P e esz && (if ag then aggT P e else plainT P e)
    | _ => false)) = true := hok
  simp only [Bool.and_eq_true] at hok
  obtain ⟨⟨hxy, hii⟩, hu⟩ := hok
  split at hu <;> try simp at hu
  rename_i n' e hue
  obtain ⟨⟨rfl, hsz⟩, hag⟩ := hu
  have hx := hρ x y hxy
  have hi := hρ ix i hii
  simp only [evA] at he
  split at he <;> try simp at he
  rename_i c n hy hn
  by_cases hlt : n < n'
  case neg => rw [if_neg hlt] at he; cases he
  rw [if_pos hlt] at he
  rw [hy] at hx
  obtain ⟨l, hl, hxe⟩ := conc_agg hx
  obtain ⟨k, hk⟩ := natOf_i hn
  rw [hk] at hi
  have hi := conc_i hi
  cases ag with
  | true =>
    simp only [if_true] at he hag
    split at he <;> simp only [RO.ok.injEq, reduceCtorEq] at he
    rename_i l' hl'
    obtain ⟨rfl, rfl⟩ := he
    obtain ⟨hle, rfl⟩ := cut_eq.1 hl'
    refine .plain (x := .agg ((l.drop (n * esz)).take esz).toArray) hs ?_ (by simp [conc, concL_take esz (concL_drop (n * esz) hl)])
    simp only [execOp, Instr.index, Sem.run_bind, run_underlying hue, Result.andThen_ok, hxe, hi, asIntOf, Sem.run_pure]
    rw [if_pos ⟨Int.natCast_nonneg n, Int.ofNat_lt.2 hlt⟩]
    simp [run_size w hsz, run_part_aggT (P := P) (w := w) (cs := l.toArray) hag hsz]
  | false =>
    simp only [Bool.false_eq_true, if_false] at he hag
    obtain ⟨hv, rfl⟩ := ofV_ok he
    rw [nth?_eq] at hv
    obtain ⟨u, hu, hc⟩ := concL_get hl hv
    refine .plain (x := u) hs ?_ hc
    simp only [execOp, Instr.index, Sem.run_bind, run_underlying hue, Result.andThen_ok, hxe, hi, asIntOf, Sem.run_pure]
    rw [if_pos ⟨Int.natCast_nonneg n, Int.ofNat_lt.2 hlt⟩]
    simp [run_size w hsz, run_part_plainT (P := P) (w := w) (cs := l.toArray) hag (by simpa using hu)]

theorem run_ext {y : X} {n : Nat} (hok : okA P op (.ext y n) = true) (hρ : EnvOk R t ρ) (hs : Sim P F R h.get w) (he : evA call (.ext y n) t h = .ok v h') :
    OpRun P F R h w (execOp ρ ⟨dst, op, ty, pos, af, gd⟩) v h' := by
  cases op <;> try exact (Bool.false_ne_true hok).elim
  rename_i x m
  have hok : (Nat.beq m n && okX x y) = true := hok
  rw [Bool.and_eq_true, Nat.beq_eq] at hok
  obtain ⟨rfl, hxy⟩ := hok
  have hx := hρ x y hxy
  simp only [evA] at he
  split at he <;> try simp at he
  rename_i c hy
  obtain ⟨hv, rfl⟩ := ofV_ok he
  rw [hy] at hx
  obtain ⟨l, hl, hxe⟩ := conc_tup hx
  rw [nth?_eq] at hv
  obtain ⟨u, hu, hc⟩ := concL_get hl hv
  refine .plain (x := u) hs ?_ hc
  simp [execOp, Instr.extract, hxe, hu]
end
end Go.Air
