/-
  A part of the proof of: The row RowsMemory, from the law in Air.
-/
import Derived.ControlIn
import Derived.Laws.World
import Derived.Laws.Cells
import Derived.Test.YtlldpmkdjpmlpaaMeA
set_option linter.unusedSectionVars false
set_option linter.unusedVariables false
set_option linter.unusedSimpArgs false
namespace Go.Air
abbrev Emb := Nat → Option (Nat × Nat)
def Emb.le (R R' : Emb) : Prop := ∀ b x, R b = some x → R' b = some x
theorem Emb.le_refl (R : Emb) : R.le R := fun _ _ h => h
theorem Emb.le_trans {R R' R'' : Emb} (h : R.le R') (h' : R'.le R'') : R.le R'' := fun b x hx => h' b x (h b x hx)
def byteArr (l : List Nat) : ByteArray := ⟨(l.map UInt8.ofNat).toArray⟩
mutual
def conc (R : Emb) : V → Option Value
  | .b x => some (.bool x)
  | .i k n => some (.int k n)
  | .s x => if x.all (Nat.blt · 256) then some (.string (byteArr x)) else none
  | .pn => some (.pointer none)
  | .p b o => (R b).map fun c => .pointer (some ⟨c.1, o, none⟩)
  | .sn => some (.slice none 0 0)
  | .sl b o l c none => (R b).map fun x => .slice (some ⟨x.1, o, none⟩) l c
  | .sl b o l c (some e) => (R b).bind fun x => if o + c * e ≤ x.2 ∧ 0 < e then some (.slice (some ⟨x.1, o, none⟩) l ((x.2 - o) / e)) else none
  | .se a => some (.slice (some a) 0 0)
  | .mn => some (.map none)
  | .m b => (R b).map fun c => .map (some c.1)
  | .fnil => some .nilFunc
  | .fn f a c => match concL R a, concL R c with
    | some a, some c => some (.func (.func f) a.toArray c.toArray)
    | _, _ => none
  | .yld l => (R l).map fun c => .func (.yield c.1) #[] #[]
  | .in0 => some .nilIface
  | .ifc t v => match conc R v with
    | some v => some (.iface t v)
    | none => none
  | .agg c => match concL R c with
    | some c => some (.agg c.toArray)
    | none => none
  | .tup c => match concL R c with
    | some c => some (.tuple c.toArray)
    | none => none
def concL (R : Emb) : List V → Option (List Value)
  | [] => some []
  | x :: l => match conc R x, concL R l with
    | some v, some vs => some (v :: vs)
    | _, _ => none
end
theorem concL_nil (R : Emb) : concL R [] = some [] := by simp [concL]
theorem concL_cons {R : Emb} {x : V} {l : List V} {vs : List Value} : concL R (x :: l) = some vs ↔ ∃ v w, conc R x = some v ∧ concL R l = some w ∧ vs = v :: w := by
  simp only [concL]
  cases conc R x <;> cases concL R l <;> simp [eq_comm]
mutual
theorem conc_mono {R R' : Emb} (h : R.le R') : ∀ (v : V) (x : Value), conc R v = some x → conc R' v = some x
  | .b _, x, hx => by simpa [conc] using hx
  | .i _ _, x, hx => by simpa [conc] using hx
  | .s _, x, hx => by simpa [conc] using hx
  | .pn, x, hx => by simpa [conc] using hx
  | .p b o, x, hx => by
    simp only [conc, Option.map_eq_some_iff] at hx ⊢
    obtain ⟨a, ha, hx⟩ := hx
    exact ⟨a, h _ _ ha, hx⟩
  | .sn, x, hx => by simpa [conc] using hx
  | .sl b o l c none, x, hx => by
    simp only [conc, Option.map_eq_some_iff] at hx ⊢
    obtain ⟨a, ha, hx⟩ := hx
    exact ⟨a, h _ _ ha, hx⟩
  | .sl b o l c (some e), x, hx => by
    simp only [conc, Option.bind_eq_some_iff] at hx ⊢
    obtain ⟨a, ha, hx⟩ := hx
    exact ⟨a, h _ _ ha, hx⟩
  | .se a, x, hx => by simpa [conc] using hx
  | .mn, x, hx => by simpa [conc] using hx
  | .m b, x, hx => by
    simp only [conc, Option.map_eq_some_iff] at hx ⊢
    obtain ⟨a, ha, hx⟩ := hx
    exact ⟨a, h _ _ ha, hx⟩
  | .fnil, x, hx => by simpa [conc] using hx
  | .fn f a c, x, hx => by
    simp only [conc] at hx ⊢
    cases ha : concL R a with
    | none => simp [ha] at hx
    | some va => cases hc : concL R c with
      | none => simp [ha, hc] at hx
      | some vc => rw [concL_mono h a va ha, concL_mono h c vc hc]; simpa [ha, hc] using hx
  | .yld b, x, hx => by
    simp only [conc, Option.map_eq_some_iff] at hx ⊢
    obtain ⟨a, ha, hx⟩ := hx
    exact ⟨a, h _ _ ha, hx⟩
  | .in0, x, hx => by simpa [conc] using hx
  | .ifc t v, x, hx => by
    simp only [conc] at hx ⊢
    cases hv : conc R v with
    | none => simp [hv] at hx
    | some y => rw [conc_mono h v y hv]; simpa [hv] using hx
  | .agg c, x, hx => by
    simp only [conc] at hx ⊢
    cases hc : concL R c with
    | none => simp [hc] at hx
    | some vc => rw [concL_mono h c vc hc]; simpa [hc] using hx
  | .tup c, x, hx => by
    simp only [conc] at hx ⊢
    cases hc : concL R c with
    | none => simp [hc] at hx
    | some vc => rw [concL_mono h c vc hc]; simpa [hc] using hx
theorem concL_mono {R R' : Emb} (h : R.le R') : ∀ (l : List V) (vs : List Value), concL R l = some vs → concL R' l = some vs
  | [], vs, hx => by simpa [concL] using hx
  | x :: l, vs, hx => by
    obtain ⟨v, w, hv, hw, rfl⟩ := concL_cons.1 hx
    exact concL_cons.2 ⟨v, w, conc_mono h x v hv, concL_mono h l w hw, rfl⟩
end
theorem concL_length {R : Emb} : ∀ {l : List V} {vs : List Value}, concL R l = some vs → vs.length = l.length
  | [], vs, h => by simp [concL] at h; simp [← h]
  | x :: l, vs, h => by
    obtain ⟨v, w, _, hw, rfl⟩ := concL_cons.1 h
    simp [concL_length hw]
theorem concL_append {R : Emb} : ∀ {a b : List V} {va vb : List Value}, concL R a = some va → concL R b = some vb → concL R (a ++ b) = some (va ++ vb)
  | [], b, va, vb, ha, hb => by simp [concL] at ha; subst ha; simpa using hb
  | x :: l, b, va, vb, ha, hb => by
    obtain ⟨v, w, hv, hw, rfl⟩ := concL_cons.1 ha
    exact concL_cons.2 ⟨v, w ++ vb, hv, concL_append hw hb, rfl⟩
theorem concL_take {R : Emb} : ∀ {l : List V} {vs : List Value} (n : Nat), concL R l = some vs → concL R (l.take n) = some (vs.take n)
  | [], vs, n, h => by simp [concL] at h; subst h; simp [concL]
  | x :: l, vs, 0, h => by simp [concL]
  | x :: l, vs, n + 1, h => by
    obtain ⟨v, w, hv, hw, rfl⟩ := concL_cons.1 h
    exact concL_cons.2 ⟨v, w.take n, hv, concL_take n hw, rfl⟩
theorem concL_drop {R : Emb} : ∀ {l : List V} {vs : List Value} (n : Nat), concL R l = some vs → concL R (l.drop n) = some (vs.drop n)
  | [], vs, n, h => by simp [concL] at h; subst h; simp [concL]
  | x :: l, vs, 0, h => by simpa using h
  | x :: l, vs, n + 1, h => by
    obtain ⟨v, w, hv, hw, rfl⟩ := concL_cons.1 h
    simpa using concL_drop n hw
theorem concL_get {R : Emb} : ∀ {l : List V} {vs : List Value} {n : Nat} {x : V}, concL R l = some vs → l[n]? = some x → ∃ v, vs[n]? = some v ∧ conc R x = some v
  | [], _, _, _, _, hx => by simp at hx
  | y :: l, vs, 0, x, h, hx => by
    obtain ⟨v, w, hv, hw, rfl⟩ := concL_cons.1 h
    simp at hx; subst hx
    exact ⟨v, rfl, hv⟩
  | y :: l, vs, n + 1, x, h, hx => by
    obtain ⟨v, w, hv, hw, rfl⟩ := concL_cons.1 h
    simpa using concL_get hw (by simpa using hx)
theorem concL_replicate {R : Emb} {x : V} {v : Value} (h : conc R x = some v) : ∀ n, concL R (List.replicate n x) = some (List.replicate n v)
  | 0 => by simp [concL]
  | n + 1 => by rw [List.replicate_succ, List.replicate_succ]; exact concL_cons.2 ⟨v, _, h, concL_replicate h n, rfl⟩
theorem concL_rep {R : Emb} {z : List V} {vz : List Value} (h : concL R z = some vz) : ∀ n, concL R (rep z n) = some ((List.replicate n vz).flatten)
  | 0 => by simp [rep, concL]
  | n + 1 => by rw [rep, List.replicate_succ, List.flatten_cons]; exact concL_append h (concL_rep h n)
theorem nth?_eq : ∀ (l : List V) (n : Nat), nth? l n = l[n]?
  | [], _ => by simp [nth?]
  | _ :: _, 0 => by simp [nth?]
  | _ :: l, n + 1 => by simp [nth?, nth?_eq l n]
theorem nth_eq : ∀ (l : List V) (n : Nat), nth l n = l.getD n .undef
  | [], _ => by simp [nth]
  | _ :: _, 0 => by simp [nth]
  | _ :: l, n + 1 => by simp [nth, nth_eq l n]
theorem upd_eq : ∀ (l : List V) (n : Nat) (v : V), upd l n v = l.set n v
  | [], _, _ => by simp [upd]
  | _ :: _, 0, _ => by simp [upd]
  | _ :: l, n + 1, v => by simp [upd, upd_eq l n v]
theorem cut_eq : ∀ {l : List V} {o n : Nat} {r : List V}, cut l o n = some r ↔ o + n ≤ l.length ∧ r = (l.drop o).take n
  | [], 0, 0, r => by simp [cut, eq_comm]
  | [], 0, n + 1, r => by simp [cut]
  | [], o + 1, n, r => by simp [cut]
  | x :: l, 0, 0, r => by simp [cut, eq_comm]
  | x :: l, 0, n + 1, r => by
    simp only [cut, Option.map_eq_some_iff]
    constructor
    · rintro ⟨a, ha, rfl⟩
      obtain ⟨h, rfl⟩ := cut_eq.1 ha
      simp at h ⊢
      omega
    · rintro ⟨h, rfl⟩
      exact ⟨l.take n, cut_eq.2 ⟨by simp at h ⊢; omega, by simp⟩, by simp⟩
  | x :: l, o + 1, n, r => by
    simp only [cut]
    rw [cut_eq]
    simp
    omega
theorem lay_eq : ∀ {l : List V} {o : Nat} {vs r : List V}, lay l o vs = some r ↔ o + vs.length ≤ l.length ∧ r = l.take o ++ vs ++ l.drop (o + vs.length)
  | l, 0, [], r => by cases l <;> simp [lay, eq_comm]
  | [], 0, v :: vs, r => by simp [lay]
  | [], o + 1, vs, r => by simp [lay]
  | x :: l, 0, v :: vs, r => by
    simp only [lay, Option.map_eq_some_iff]
    constructor
    · rintro ⟨a, ha, rfl⟩
      obtain ⟨h, rfl⟩ := lay_eq.1 ha
      simp at h ⊢
      omega
    · rintro ⟨h, rfl⟩
      refine ⟨vs ++ l.drop vs.length, lay_eq.2 ⟨by simp at h ⊢; omega, by simp⟩, by simp⟩
  | x :: l, o + 1, vs, r => by
    simp only [lay, Option.map_eq_some_iff]
    constructor
    · rintro ⟨a, ha, rfl⟩
      obtain ⟨h, rfl⟩ := lay_eq.1 ha
      refine ⟨by simp at h ⊢; omega, ?_⟩
      rw [show o + 1 + vs.length = (o + vs.length) + 1 by omega]
      simp
    · rintro ⟨h, rfl⟩
      refine ⟨l.take o ++ vs ++ l.drop (o + vs.length), lay_eq.2 ⟨by simp at h ⊢; omega, rfl⟩, ?_⟩
      rw [show o + 1 + vs.length = (o + vs.length) + 1 by omega]
      simp
theorem conc_undef (R : Emb) : conc R .undef = some undef := by simp [V.undef, conc, concL, undef]
theorem conc_nth {R : Emb} {t : List V} {vs : List Value} (h : concL R t = some vs) (n : Nat) : conc R (nth t n) = some (vs.getD n undef) := by
  rw [nth_eq]
  by_cases hn : n < t.length
  · obtain ⟨v, hv, hc⟩ := concL_get h (List.getElem?_eq_getElem hn)
    rw [List.getD_eq_getElem?_getD, List.getD_eq_getElem?_getD, hv, List.getElem?_eq_getElem hn]
    exact hc
  · have hl := concL_length h
    rw [List.getD_eq_getElem?_getD, List.getD_eq_getElem?_getD, List.getElem?_eq_none (by omega), List.getElem?_eq_none (by omega)]
    exact conc_undef R
theorem conc_upd {R : Emb} : ∀ {t : List V} {vs : List Value} {v : V} {x : Value} (n : Nat), concL R t = some vs → conc R v = some x → concL R (upd t n v) = some (vs.set n x)
  | [], vs, v, x, n, h, hv => by simp [concL] at h; subst h; simp [upd, concL]
  | y :: l, vs, v, x, 0, h, hv => by
    obtain ⟨_, w, _, hw, rfl⟩ := concL_cons.1 h
    exact concL_cons.2 ⟨x, w, hv, hw, rfl⟩
  | y :: l, vs, v, x, n + 1, h, hv => by
    obtain ⟨u, w, hu, hw, rfl⟩ := concL_cons.1 h
    exact concL_cons.2 ⟨u, _, hu, conc_upd n hw hv, rfl⟩
theorem conc_cells {R : Emb} {v : V} {x : Value} (h : conc R v = some x) : ∃ l, concL R v.cells = some l ∧ x.cells = l.toArray := by
  cases v with
  | agg c =>
    simp only [conc] at h
    cases hc : concL R c with
    | none => simp [hc] at h
    | some l => simp [hc] at h; exact ⟨l, hc, by simp [← h, Value.cells]⟩
  | sl b o l c g =>
    refine ⟨[x], concL_cons.2 ⟨x, [], h, concL_nil R, rfl⟩, ?_⟩
    cases g with
    | none => simp only [conc, Option.map_eq_some_iff] at h; obtain ⟨_, _, rfl⟩ := h; simp [Value.cells]
    | some e =>
      simp only [conc, Option.bind_eq_some_iff] at h
      obtain ⟨_, _, h⟩ := h
      split at h <;> simp at h
      simp [← h, Value.cells]
  | fn f a c =>
    refine ⟨[x], concL_cons.2 ⟨x, [], h, concL_nil R, rfl⟩, ?_⟩
    simp only [conc] at h
    cases ha : concL R a <;> cases hc : concL R c <;> simp [ha, hc] at h
    simp [← h, Value.cells]
  | ifc t w =>
    refine ⟨[x], concL_cons.2 ⟨x, [], h, concL_nil R, rfl⟩, ?_⟩
    simp only [conc] at h
    cases hw : conc R w <;> simp [hw] at h
    simp [← h, Value.cells]
  | tup c =>
    refine ⟨[x], concL_cons.2 ⟨x, [], h, concL_nil R, rfl⟩, ?_⟩
    simp only [conc] at h
    cases hw : concL R c <;> simp [hw] at h
    simp [← h, Value.cells]
  | s l =>
    refine ⟨[x], concL_cons.2 ⟨x, [], h, concL_nil R, rfl⟩, ?_⟩
    simp only [conc] at h
    split at h <;> simp at h
    simp [← h, Value.cells]
  | _ =>
    refine ⟨[x], concL_cons.2 ⟨x, [], h, concL_nil R, rfl⟩, ?_⟩
    first
      | (simp only [conc, Option.map_eq_some_iff] at h; obtain ⟨_, _, rfl⟩ := h; simp [Value.cells])
      | (simp only [conc, Option.some.injEq] at h; subst h; simp [Value.cells])
theorem conc_oneCell {R : Emb} {v : V} {x : Value} (h : conc R v = some x) (hv : v.oneCell = true) : x.oneCell' = true := by
  cases v with
  | agg c => simp [V.oneCell] at hv
  | tup c => simp [V.oneCell] at hv
  | sl b o l c g =>
    cases g with
    | none => simp only [conc, Option.map_eq_some_iff] at h; obtain ⟨_, _, rfl⟩ := h; simp [Value.oneCell']
    | some e =>
      simp only [conc, Option.bind_eq_some_iff] at h
      obtain ⟨_, _, h⟩ := h
      split at h <;> simp at h
      simp [← h, Value.oneCell']
  | fn f a c =>
    simp only [conc] at h
    cases ha : concL R a <;> cases hc : concL R c <;> simp [ha, hc] at h
    simp [← h, Value.oneCell']
  | ifc t w =>
    simp only [conc] at h
    cases hw : conc R w <;> simp [hw] at h
    simp [← h, Value.oneCell']
  | s l =>
    simp only [conc] at h
    split at h <;> simp at h
    simp [← h, Value.oneCell']
  | _ =>
    first
      | (simp only [conc, Option.map_eq_some_iff] at h; obtain ⟨_, _, rfl⟩ := h; simp [Value.oneCell'])
      | (simp only [conc, Option.some.injEq] at h; subst h; simp [Value.oneCell'])
end Go.Air
namespace Go.Air
mutual
def sameV : V → Value → Bool
  | .b x, .bool y => x == y
  | .i k n, .int k' m => decide (k = k') && decide (n = m)
  | .s x, .string y => x.all (Nat.blt · 256) && decide (y.data.toList = x.map UInt8.ofNat)
  | .pn, .pointer none => true
  | .sn, .slice none 0 0 => true
  | .mn, .map none => true
  | .fnil, .nilFunc => true
  | .in0, .nilIface => true
  | .agg c, .agg d => sameL c d.toList
  | .tup c, .tuple d => sameL c d.toList
  | _, _ => false
def sameL : List V → List Value → Bool
  | [], [] => true
  | x :: l, v :: vs => sameV x v && sameL l vs
  | _, _ => false
end
mutual
theorem conc_of_same (R : Emb) : ∀ (v : V) (x : Value), sameV v x = true → conc R v = some x
  | .b _, x, h => by cases x <;> simp_all [sameV, conc]
  | .i _ _, x, h => by cases x <;> simp_all [sameV, conc]
  | .s l, x, h => by
    cases x <;> simp only [sameV, Bool.false_eq_true] at h
    rename_i y
    simp only [Bool.and_eq_true, decide_eq_true_eq] at h
    obtain ⟨h1, h2⟩ := h
    simp only [conc, h1, if_true]
    congr 2
    obtain ⟨⟨y⟩⟩ := y
    simp only [byteArr] at *
    rw [← h2]
  | .pn, x, h => by
    unfold sameV at h
    split at h <;> simp_all [conc]
  | .sn, x, h => by
    unfold sameV at h
    split at h <;> simp_all [conc]
  | .mn, x, h => by
    unfold sameV at h
    split at h <;> simp_all [conc]
  | .fnil, x, h => by cases x <;> simp_all [sameV, conc]
  | .in0, x, h => by cases x <;> simp_all [sameV, conc]
  | .agg c, x, h => by
    cases x <;> simp only [sameV, Bool.false_eq_true] at h
    simp [conc, concL_of_same R c _ h]
  | .tup c, x, h => by
    cases x <;> simp only [sameV, Bool.false_eq_true] at h
    simp [conc, concL_of_same R c _ h]
  | .p _ _, x, h => by cases x <;> simp [sameV] at h
  | .sl _ _ _ _ _, x, h => by cases x <;> simp [sameV] at h
  | .m _, x, h => by cases x <;> simp [sameV] at h
  | .fn _ _ _, x, h => by cases x <;> simp [sameV] at h
  | .yld _, x, h => by cases x <;> simp [sameV] at h
  | .ifc _ _, x, h => by cases x <;> simp [sameV] at h
theorem concL_of_same (R : Emb) : ∀ (l : List V) (vs : List Value), sameL l vs = true → concL R l = some vs
  | [], vs, h => by cases vs <;> simp_all [sameL, concL]
  | x :: l, vs, h => by
    cases vs with
    | nil => simp [sameL] at h
    | cons v vs =>
      simp only [sameL, Bool.and_eq_true] at h
      exact concL_cons.2 ⟨v, vs, conc_of_same R x v h.1, concL_of_same R l vs h.2, rfl⟩
end
def okX : Operand → X → Bool
  | .tmp t, .t n => Nat.beq t n
  | .const v, .c w => sameV w v
  | .func f, .f n => Nat.beq f n
  | _, _ => false
def okXs : List Operand → List X → Bool
  | [], [] => true
  | x :: l, y :: m => okX x y && okXs l m
  | _, _ => false
def okXo : Option Operand → Option X → Bool
  | none, none => true
  | some x, some y => okX x y
  | _, _ => false
section
variable (P : Program)
def szT (t : TypeId) : Option Nat := (P.info? t).map (·.size)
def zeroT (t : TypeId) : Option Value := (P.info? t).bind (·.zero)
def isAggD : TypeDesc → Bool
  | .struct _ | .array _ _ => true
  | _ => false
def plainT (t : TypeId) : Bool := match P.underlying t with
  | some d => !isAggD d
  | none => false
def aggT (t : TypeId) : Bool := match P.underlying t with
  | some d => isAggD d
  | none => false
def isSz (t : TypeId) (n : Nat) : Bool := match szT P t with
  | some m => Nat.beq m n
  | none => false
def okZ (t : TypeId) (z : List V) : Bool := match zeroT P t with
  | some v => sameL z v.cells.toList
  | none => false
def ktD : KT → TypeDesc → Bool
  | .b, .bool => true
  | .i k, .int k' => decide (k = k')
  | .s, .string => true
  | _, _ => false
mutual
def flatT : Nat → TypeId → Option (List KT)
  | 0, _ => none
  | d + 1, t => match P.underlying t with
    | some .bool => if isSz P t 1 then some [.b] else none
    | some (.int k) => if isSz P t 1 then some [.i k] else none
    | some .string => if isSz P t 1 then some [.s] else none
    | some (.struct fs) => if P.stoodInHeld t then none else flatF d 0 fs.toList
    | some (.array n e) => match flatT d e with
      | some l => if isSz P e l.length then some (List.replicate n l).flatten else none
      | none => none
    | _ => none
def flatF : Nat → Nat → List Field → Option (List KT)
  | 0, _, _ => none
  | _ + 1, _, [] => some []
  | d + 1, off, f :: fs =>
    if f.name = "_" then none else
    match flatT d f.type with
    | some l => if Nat.beq f.offset off && isSz P f.type l.length then (flatF d (off + l.length) fs).map (l ++ ·) else none
    | none => none
end
def sameKs : List KT → List KT → Bool
  | [], [] => true
  | x :: l, y :: m => decide (x = y) && sameKs l m
  | _, _ => false
def okEqK (t : TypeId) : EqK → Bool
  | .bool => match P.underlying t with | some .bool => true | _ => false
  | .ptr => match P.underlying t with | some (.pointer _) => true | _ => false
  | .slice => match P.underlying t with | some (.slice _) => true | _ => false
  | .map => match P.underlying t with | some (.map _ _) => true | _ => false
  | .func => match P.underlying t with | some (.func _ _ _) => true | _ => false
  | .iface => match P.underlying t with | some (.interface _) => true | _ => false
  | .agg ks => aggT P t && !P.eqGuardType P.depth t && (match flatT P 40 t with | some l => sameKs l ks | none => false)
def scalarT (t : TypeId) : Bool := match P.underlying t with
  | some .bool | some (.int _) | some .string => true
  | _ => false
def okKK (t : TypeId) : KK → Bool
  | .sc k => match P.underlying t with | some d => ktD k d | none => false
  | .ag ks => (match P.underlying t with
      | some (.struct fs) => fs.toList.all fun f => scalarT P f.type
      | _ => false) && (match flatT P 40 t with | some l => sameKs l ks | none => false)
def isConstO : Operand → Bool
  | .const _ => true
  | _ => false
def okPartsS (fs : Array Field) : List (Nat × Operand) → List (Nat × Nat × X) → Bool
  | [], [] => true
  | (i, x) :: l, (off, sz, y) :: m => (match fs[i]? with
      | some f => Nat.beq f.offset off && isSz P f.type sz
      | none => false) && okX x y && okPartsS fs l m
  | _, _ => false
def okPartsA (size : Nat) : List (Nat × Operand) → List (Nat × Nat × X) → Bool
  | [], [] => true
  | (i, x) :: l, (off, sz, y) :: m => Nat.beq (i * size) off && Nat.beq size sz && okX x y && okPartsA size l m
  | _, _ => false
def zrow (z : List Value) (n : Nat) : List Value := (List.range n).map fun i => z.getD (i % z.length) default
def okCallB (b : Builtin) (args : List Operand) (ats : List TypeId) : A → Bool
  | .lenS x => match b, args, ats with
    | .len, [y], [t] => okX y x && (match P.underlying t with | some .string => true | _ => false)
    | _, _, _ => false
  | .lenL x => match b, args, ats with
    | .len, [y], [t] => okX y x && (match P.underlying t with | some (.slice _) => true | _ => false)
    | _, _, _ => false
  | .lenM x => match b, args, ats with
    | .len, [y], [t] => okX y x && (match P.underlying t with | some (.map _ _) => true | _ => false)
    | _, _, _ => false
  | .lenC n => match b, args, ats with
    | .len, [_], [t] => (match P.underlying t with
      | some (.array m _) => Nat.beq m n
      | some (.pointer a) => (match P.underlying a with
        | some (.array m _) => Nat.beq m n
        | _ => false)
      | _ => false)
    | _, _, _ => false
  | .app esz bytes s x => match b, args, ats with
    | .append, [s', x'], [st, xt] => okX s' s && okX x' x && (match P.underlying st, P.underlying xt with
      | some (.slice e), some d => (match d with | .int _ => false | _ => true) && (match P.info? e with
        | some i => Nat.beq i.size esz && Nat.beq i.bytes bytes && (match i.zero with | some v => Nat.beq v.cells.toList.length esz | none => false)
        | none => false)
      | _, _ => false)
    | _, _, _ => false
  | .cpy esz d s => match b, args, ats with
    | .copy, [d', s'], dt :: _ => okX d' d && okX s' s && (match P.underlying dt with
      | some (.slice e) => isSz P e esz
      | _ => false)
    | _, _, _ => false
  | .clr z x => match b, args, ats with
    | .clear, [x'], [t] => okX x' x && (match P.underlying t with
      | some (.slice e) => okZ P e z
      | _ => false)
    | _, _, _ => false
  | .min xs => match b with
    | .min => okXs args xs
    | _ => false
  | .max xs => match b with
    | .max => okXs args xs
    | _ => false
  | _ => false
def okB (c : Call) (a : A) : Bool := match c.callee with
  | .builtin b => okCallB P b c.args.toList c.argTypes.toList a
  | _ => false
def okA : Op → A → Bool
  | _, .no => true
  | .move x, .mov y => okX x y
  | .assign x, .mov y => okX x y
  | .pick c a b, .pick c' a' b' => okX c c' && okX a a' && okX b b'
  | .alloc e, .alloc z => okZ P e z
  | .box _ x, .box y => okX x y
  | .build t parts, .build z ps => okZ P t z && (match P.underlying t with
    | some (.struct fs) => fs.toList.all (fun f => (szT P f.type).isSome) && okPartsS P fs parts.toList ps
    | some (.array _ e) => (match szT P e with
      | some n => okPartsA n parts.toList ps
      | none => false)
    | _ => false)
  | .buildSlice t len parts, .buildSl z len' ps => Nat.beq len len' && (match P.underlying t with
    | some (.slice e) => (match P.info? e with
      | some i => Nat.ble (len * i.size) 16777216 && okPartsA i.size parts.toList ps && (match i.zero with
        | some v => sameL z (zrow v.cells.toList (len * i.size))
        | none => false)
      | none => false)
    | _ => false)
  | .load t a, .ld x => plainT P t && okX a x
  | .load t a, .ldn n x => aggT P t && isSz P t n && okX a x
  | .store t a v, .st n x y => isSz P t n && okX a x && okX v y
  | .nilCheck x, .nilck y => okX x y
  | .binOp op _ x y _, .bin op' x' y' => decide (op = op') && okX x x' && okX y y'
  | .binOp op t x y _, .eqv neg k x' y' => decide (op = if neg then .neq else .eql) && okX x x' && okX y y' && okEqK P t k && (match k with
    | .iface => isConstO x || isConstO y
    | _ => true)
  | .unOp op _ x, .un op' y => decide (op = op') && okX x y
  | .convert s d x, .conv k y => okX x y && (match P.underlying s, P.underlying d with
    | some _, some (.int k') => decide (k = k')
    | _, _ => false)
  | .makeInterface t x, .mkI t' y => Nat.beq t t' && okX x y && (match P.underlying t with
    | some (.interface _) => false
    | some _ => true
    | none => false)
  | .makeFunc (.func f) a c, .mkFn f' a' c' => Nat.beq f f' && okXs a.toList a' && okXs c.toList c'
  | .makeMap _ none, .mkMap => true
  | .makeSlice t l c, .mkSl z bytes l' c' => okX l l' && okX c c' && (match P.underlying t with
    | some (.slice e) => (match P.info? e with
      | some i => Nat.beq i.bytes bytes && Nat.beq i.size z.length && (match i.zero with
        | some v => sameL z v.cells.toList
        | none => false)
      | none => false)
    | _ => false)
  | .slice t x lo hi mx, .slc esz x' lo' hi' mx' => okX x x' && okXo lo lo' && okXo hi hi' && okXo mx mx' && (match P.underlying t with
    | some (.slice e) => isSz P e esz
    | _ => false)
  | .slice t x lo hi mx, .slcA len esz x' lo' hi' => okX x x' && okXo lo lo' && okXo hi hi' && mx.isNone && (match P.underlying t with
    | some (.array n e) => Nat.beq n len && isSz P e esz
    | _ => false)
  | .slice t x lo hi mx, .slcS x' lo' hi' => okX x x' && okXo lo lo' && okXo hi hi' && mx.isNone && (match P.underlying t with
    | some .string => true
    | _ => false)
  | .fieldAddr s x f, .fld off y => okX x y && (match P.underlying s with
    | some (.struct fs) => (match fs[f]? with
      | some fd => Nat.beq fd.offset off && (match szT P fd.type with
        | some n => Nat.blt 0 n
        | none => false)
      | none => false)
    | _ => false)
  | .field s x f, .fldv off sz y => okX x y && (match P.underlying s with
    | some (.struct fs) => (match fs[f]? with
      | some fd => Nat.beq fd.offset off && (match sz with
        | none => plainT P fd.type
        | some n => aggT P fd.type && isSz P fd.type n)
      | none => false)
    | _ => false)
  | .indexAddr t x ix, .ixS esz x' ix' => okX x x' && okX ix ix' && (match P.underlying t with
    | some (.slice e) => isSz P e esz
    | _ => false)
  | .indexAddr t x ix, .ixA len esz x' ix' => okX x x' && okX ix ix' && (match P.underlying t with
    | some (.array n e) => Nat.beq n len && isSz P e esz
    | _ => false)
  | .index t x ix, .ixStr x' ix' => okX x x' && okX ix ix' && (match P.underlying t with
    | some .string => true
    | _ => false)
  | .index t x ix, .ixV len esz ag x' ix' => okX x x' && okX ix ix' && (match P.underlying t with
    | some (.array n e) => Nat.beq n len && isSz P e esz && (if ag then aggT P e else plainT P e)
    | _ => false)
  | .lookup t x k ok, .look kk z ok' x' k' => okX x x' && okX k k' && (ok == ok') && (match P.underlying t with
    | some (.map kt et) => okKK P kt kk && (match zeroT P et with
      | some v => sameV z v
      | none => false)
    | _ => false)
  | .mapUpdate t x k v, .mapSet kk x' k' v' => okX x x' && okX k k' && okX v v' && (match P.underlying t with
    | some (.map kt _) => okKK P kt kk
    | _ => false)
  | .extract x n, .ext y m => Nat.beq n m && okX x y
  | .call c, .call f args => (match c.callee with
    | .value g => okX g f && okXs c.args.toList args
    | _ => false)
  | .call c, .lenS x => okB P c (.lenS x)
  | .call c, .lenL x => okB P c (.lenL x)
  | .call c, .lenM x => okB P c (.lenM x)
  | .call c, .lenC n => okB P c (.lenC n)
  | .call c, .app a b x y => okB P c (.app a b x y)
  | .call c, .cpy n x y => okB P c (.cpy n x y)
  | .call c, .clr z x => okB P c (.clr z x)
  | .call c, .min xs => okB P c (.min xs)
  | .call c, .max xs => okB P c (.max xs)
  | _, _ => false
def okDst : Option Tmp → Option Nat → Bool
  | none, none => true
  | some a, some b => Nat.beq a b
  | _, _ => false
def okG (ops : Array Oper) : Option (Nat × Bool) → Option (Nat × Bool) → Bool
  | none, none => true
  | some (j, w), some (d, w') => (w == w') && (match ops[j]? with
    | some o => okDst o.dst (some d)
    | none => false)
  | _, _ => false
def okO (ops : Array Oper) (o : Oper) (a : O) : Bool := okDst o.dst a.dst && okG ops o.guard a.g && okA P o.op a.op
def okOps (ops : Array Oper) : List Oper → List O → Bool
  | [], [] => true
  | o :: l, a :: m => okO P ops o a && okOps ops l m
  | _, _ => false
inductive Cls where
  | idle | reads | writes
  deriving DecidableEq
def cls : A → Cls
  | .st .. | .mapSet .. | .call .. | .app .. | .cpy .. | .clr .. => .writes
  | .ld _ | .ldn .. | .look .. | .lenM _ => .reads
  | _ => .idle
def xT : X → List Nat
  | .t n => [n]
  | _ => []
def xoT : Option X → List Nat
  | some x => xT x
  | none => []
def uses : A → List Nat
  | .mov x | .box x | .ld x | .ldn _ x | .nilck x | .un _ x | .conv _ x | .mkI _ x | .fld _ x | .fldv _ _ x | .ext x _ | .lenS x | .lenL x | .lenM x | .clr _ x => xT x
  | .pick a b c => xT a ++ xT b ++ xT c
  | .build _ ps | .buildSl _ _ ps => ps.flatMap fun p => xT p.2.2
  | .st _ a b | .bin _ a b | .eqv _ _ a b | .mkSl _ _ a b | .ixS _ a b | .ixA _ _ a b | .ixStr a b | .ixV _ _ _ a b | .look _ _ _ a b | .app _ _ a b | .cpy _ a b => xT a ++ xT b
  | .mapSet _ a b c => xT a ++ xT b ++ xT c
  | .mkFn _ a c => a.flatMap xT ++ c.flatMap xT
  | .slc _ x a b c => xT x ++ xoT a ++ xoT b ++ xoT c
  | .slcA _ _ x a b | .slcS x a b => xT x ++ xoT a ++ xoT b
  | .call f xs => xT f ++ xs.flatMap xT
  | .min xs | .max xs => xs.flatMap xT
  | .alloc _ | .mkMap | .lenC _ | .no => []
def usesO (o : O) : List Nat := uses o.op ++ (match o.g with | some (n, _) => [n] | none => [])
def touches (d : Option Nat) (l : List Nat) : Bool := match d with
  | some n => l.contains n
  | none => false
def free (a b : O) (seen : Bool) : Bool :=
  !touches a.dst (usesO b ++ b.dst.toList) && !touches b.dst (usesO a) &&
  (seen || match cls a.op, cls b.op with
    | .idle, _ | _, .idle | .reads, .reads => true
    | _, _ => false)
def bitsBefore (ops : Array Oper) : List Nat :=
  ops.toList.foldl (init := []) fun acc o =>
    acc ++ [o.after.toList.foldl (fun s e => if Region.binds .any e then s ||| 2 ^ e.on ||| acc.getD e.on 0 else s) 0]
def okEdges : Nat → List Oper → Bool
  | _, [] => true
  | i, o :: l => o.after.toList.all (fun e => !Region.binds .any e || Nat.blt e.on i) && okEdges (i + 1) l
def okPairs (bs : List Nat) (l : List O) (crit : List (Nat × Nat)) : Bool :=
  (List.range l.length).all fun j => (List.range j).all fun i =>
    (bs.getD j 0).testBit i || (match l[i]?, l[j]? with
      | some a, some b => free a b (crit.any fun p => Nat.beq p.1 i && Nat.beq p.2 j)
      | _, _ => false)
def okDraw (ops : Array Oper) (l : List O) (crit : List (Nat × Nat)) : Bool := okEdges 0 ops.toList && okPairs (bitsBefore ops) l crit
def okC : Code → C → Bool
  | .skip, .skip => true
  | .label _, .skip => true
  | .region _ ops false, .ops l => okOps P ops ops.toList l
  | .region _ ops true, .draw l crit => okOps P ops ops.toList l && okDraw ops l crit
  | .seq a b, .seq c d => okC a c && okC b d
  | .cond x a b, .cond y c d => okX x y && okC a c && okC b d
  | .block i a, .block j c => Nat.beq i j && okC a c
  | .loop a, .loop c => okC a c
  | .scope a, c => okC a c
  | .exit i, .exit j => Nat.beq i j
  | .ret, .ret => true
  | .rangeFunc f ps a b, .rangeF g qs c d => okX f g && decide (ps.toList = qs) && okC a c && okC b d
  | _, _ => false
def okRes : List ResultVar → List ResV → Bool
  | [], [] => true
  | .tmp t :: l, .tmp n :: m => Nat.beq t n && okRes l m
  | .cell a t :: l, .cell n sz :: m => Nat.beq a n && (match sz with
    | none => plainT P t
    | some k => aggT P t && isSz P t k) && okRes l m
  | _, _ => false
def okFI (k : Nat) (fi : FI) : Bool := match P.funcs[k]? with
  | some fn => Nat.beq fn.ntmps fi.ntmps && !(fn.name == "runtime.NumGoroutine") && okRes P fn.results.toList fi.res && (match fn.body with
    | some c => okC P c fi.body
    | none => false)
  | none => false
end
end Go.Air
