/-
  How Air's values, blocks and heap stand for the model's: an embedding of Air's blocks into the world's, values made concrete by it, and the relation of the two memories.
-/
import Derived.Test.YtlldpmkdjpmlpaaAir
import Derived.ControlIn
import Derived.Laws.World
import Derived.Laws.Cells
set_option linter.unusedSectionVars false
set_option linter.unusedVariables false
set_option linter.unusedSimpArgs false
namespace Go.Air

/-- Where a block of Air's lies: the world's block, how many cells that has. -/
abbrev Emb := Nat → Option (Nat × Nat)
def Emb.le (R R' : Emb) : Prop := ∀ b x, R b = some x → R' b = some x
theorem Emb.le_refl (R : Emb) : R.le R := fun _ _ h => h
theorem Emb.le_trans {R R' R'' : Emb} (h : R.le R') (h' : R'.le R'') : R.le R'' := fun b x hx => h' b x (h b x hx)

def byteArr (l : List Nat) : ByteArray := ⟨(l.map UInt8.ofNat).toArray⟩

mutual
def conc (R : Emb) : V → Option Value
  | .b x => some (.bool x)
  | .i k n => some (.int k n)
  | .s x => if x.all (Nat.blt · 256) then some (.string (byteArr x)) else none
  | .pn => some (.pointer none)
  | .p b o => (R b).map fun c => .pointer (some ⟨c.1, o, none⟩)
  | .sn => some (.slice none 0 0)
  | .sl b o l c none => (R b).map fun x => .slice (some ⟨x.1, o, none⟩) l c
  | .sl b o l c (some e) => (R b).bind fun x => if o + c * e ≤ x.2 ∧ 0 < e then some (.slice (some ⟨x.1, o, none⟩) l ((x.2 - o) / e)) else none
  | .se a => some (.slice (some a) 0 0)
  | .mn => some (.map none)
  | .m b => (R b).map fun c => .map (some c.1)
  | .fnil => some .nilFunc
  | .fn f a c => match concL R a, concL R c with
    | some a, some c => some (.func (.func f) a.toArray c.toArray)
    | _, _ => none
  | .yld l => (R l).map fun c => .func (.yield c.1) #[] #[]
  | .in0 => some .nilIface
  | .ifc t v => match conc R v with
    | some v => some (.iface t v)
    | none => none
  | .agg c => match concL R c with
    | some c => some (.agg c.toArray)
    | none => none
  | .tup c => match concL R c with
    | some c => some (.tuple c.toArray)
    | none => none
def concL (R : Emb) : List V → Option (List Value)
  | [] => some []
  | x :: l => match conc R x, concL R l with
    | some v, some vs => some (v :: vs)
    | _, _ => none
end

theorem concL_nil (R : Emb) : concL R [] = some [] := by simp [concL]
theorem concL_cons {R : Emb} {x : V} {l : List V} {vs : List Value} : concL R (x :: l) = some vs ↔ ∃ v w, conc R x = some v ∧ concL R l = some w ∧ vs = v :: w := by
  simp only [concL]
  cases conc R x <;> cases concL R l <;> simp [eq_comm]

mutual
theorem conc_mono {R R' : Emb} (h : R.le R') : ∀ (v : V) (x : Value), conc R v = some x → conc R' v = some x
  | .b _, x, hx => by simpa [conc] using hx
  | .i _ _, x, hx => by simpa [conc] using hx
  | .s _, x, hx => by simpa [conc] using hx
  | .pn, x, hx => by simpa [conc] using hx
  | .p b o, x, hx => by
    simp only [conc, Option.map_eq_some_iff] at hx ⊢
    obtain ⟨a, ha, hx⟩ := hx
    exact ⟨a, h _ _ ha, hx⟩
  | .sn, x, hx => by simpa [conc] using hx
  | .sl b o l c none, x, hx => by
    simp only [conc, Option.map_eq_some_iff] at hx ⊢
    obtain ⟨a, ha, hx⟩ := hx
    exact ⟨a, h _ _ ha, hx⟩
  | .sl b o l c (some e), x, hx => by
    simp only [conc, Option.bind_eq_some_iff] at hx ⊢
    obtain ⟨a, ha, hx⟩ := hx
    exact ⟨a, h _ _ ha, hx⟩
  | .se a, x, hx => by simpa [conc] using hx
  | .mn, x, hx => by simpa [conc] using hx
  | .m b, x, hx => by
    simp only [conc, Option.map_eq_some_iff] at hx ⊢
    obtain ⟨a, ha, hx⟩ := hx
    exact ⟨a, h _ _ ha, hx⟩
  | .fnil, x, hx => by simpa [conc] using hx
  | .fn f a c, x, hx => by
    simp only [conc] at hx ⊢
    cases ha : concL R a with
    | none => simp [ha] at hx
    | some va => cases hc : concL R c with
      | none => simp [ha, hc] at hx
      | some vc => rw [concL_mono h a va ha, concL_mono h c vc hc]; simpa [ha, hc] using hx
  | .yld b, x, hx => by
    simp only [conc, Option.map_eq_some_iff] at hx ⊢
    obtain ⟨a, ha, hx⟩ := hx
    exact ⟨a, h _ _ ha, hx⟩
  | .in0, x, hx => by simpa [conc] using hx
  | .ifc t v, x, hx => by
    simp only [conc] at hx ⊢
    cases hv : conc R v with
    | none => simp [hv] at hx
    | some y => rw [conc_mono h v y hv]; simpa [hv] using hx
  | .agg c, x, hx => by
    simp only [conc] at hx ⊢
    cases hc : concL R c with
    | none => simp [hc] at hx
    | some vc => rw [concL_mono h c vc hc]; simpa [hc] using hx
  | .tup c, x, hx => by
    simp only [conc] at hx ⊢
    cases hc : concL R c with
    | none => simp [hc] at hx
    | some vc => rw [concL_mono h c vc hc]; simpa [hc] using hx
theorem concL_mono {R R' : Emb} (h : R.le R') : ∀ (l : List V) (vs : List Value), concL R l = some vs → concL R' l = some vs
  | [], vs, hx => by simpa [concL] using hx
  | x :: l, vs, hx => by
    obtain ⟨v, w, hv, hw, rfl⟩ := concL_cons.1 hx
    exact concL_cons.2 ⟨v, w, conc_mono h x v hv, concL_mono h l w hw, rfl⟩
end

/-! ### Lists -/
theorem concL_length {R : Emb} : ∀ {l : List V} {vs : List Value}, concL R l = some vs → vs.length = l.length
  | [], vs, h => by simp [concL] at h; simp [← h]
  | x :: l, vs, h => by
    obtain ⟨v, w, _, hw, rfl⟩ := concL_cons.1 h
    simp [concL_length hw]
theorem concL_append {R : Emb} : ∀ {a b : List V} {va vb : List Value}, concL R a = some va → concL R b = some vb → concL R (a ++ b) = some (va ++ vb)
  | [], b, va, vb, ha, hb => by simp [concL] at ha; subst ha; simpa using hb
  | x :: l, b, va, vb, ha, hb => by
    obtain ⟨v, w, hv, hw, rfl⟩ := concL_cons.1 ha
    exact concL_cons.2 ⟨v, w ++ vb, hv, concL_append hw hb, rfl⟩
theorem concL_take {R : Emb} : ∀ {l : List V} {vs : List Value} (n : Nat), concL R l = some vs → concL R (l.take n) = some (vs.take n)
  | [], vs, n, h => by simp [concL] at h; subst h; simp [concL]
  | x :: l, vs, 0, h => by simp [concL]
  | x :: l, vs, n + 1, h => by
    obtain ⟨v, w, hv, hw, rfl⟩ := concL_cons.1 h
    exact concL_cons.2 ⟨v, w.take n, hv, concL_take n hw, rfl⟩
theorem concL_drop {R : Emb} : ∀ {l : List V} {vs : List Value} (n : Nat), concL R l = some vs → concL R (l.drop n) = some (vs.drop n)
  | [], vs, n, h => by simp [concL] at h; subst h; simp [concL]
  | x :: l, vs, 0, h => by simpa using h
  | x :: l, vs, n + 1, h => by
    obtain ⟨v, w, hv, hw, rfl⟩ := concL_cons.1 h
    simpa using concL_drop n hw
theorem concL_get {R : Emb} : ∀ {l : List V} {vs : List Value} {n : Nat} {x : V}, concL R l = some vs → l[n]? = some x → ∃ v, vs[n]? = some v ∧ conc R x = some v
  | [], _, _, _, _, hx => by simp at hx
  | y :: l, vs, 0, x, h, hx => by
    obtain ⟨v, w, hv, hw, rfl⟩ := concL_cons.1 h
    simp at hx; subst hx
    exact ⟨v, rfl, hv⟩
  | y :: l, vs, n + 1, x, h, hx => by
    obtain ⟨v, w, hv, hw, rfl⟩ := concL_cons.1 h
    simpa using concL_get hw (by simpa using hx)
theorem concL_replicate {R : Emb} {x : V} {v : Value} (h : conc R x = some v) : ∀ n, concL R (List.replicate n x) = some (List.replicate n v)
  | 0 => by simp [concL]
  | n + 1 => by rw [List.replicate_succ, List.replicate_succ]; exact concL_cons.2 ⟨v, _, h, concL_replicate h n, rfl⟩
theorem concL_rep {R : Emb} {z : List V} {vz : List Value} (h : concL R z = some vz) : ∀ n, concL R (rep z n) = some ((List.replicate n vz).flatten)
  | 0 => by simp [rep, concL]
  | n + 1 => by rw [rep, List.replicate_succ, List.flatten_cons]; exact concL_append h (concL_rep h n)

theorem nth?_eq : ∀ (l : List V) (n : Nat), nth? l n = l[n]?
  | [], _ => by simp [nth?]
  | _ :: _, 0 => by simp [nth?]
  | _ :: l, n + 1 => by simp [nth?, nth?_eq l n]
theorem nth_eq : ∀ (l : List V) (n : Nat), nth l n = l.getD n .undef
  | [], _ => by simp [nth]
  | _ :: _, 0 => by simp [nth]
  | _ :: l, n + 1 => by simp [nth, nth_eq l n]
theorem upd_eq : ∀ (l : List V) (n : Nat) (v : V), upd l n v = l.set n v
  | [], _, _ => by simp [upd]
  | _ :: _, 0, _ => by simp [upd]
  | _ :: l, n + 1, v => by simp [upd, upd_eq l n v]
theorem cut_eq : ∀ {l : List V} {o n : Nat} {r : List V}, cut l o n = some r ↔ o + n ≤ l.length ∧ r = (l.drop o).take n
  | [], 0, 0, r => by simp [cut, eq_comm]
  | [], 0, n + 1, r => by simp [cut]
  | [], o + 1, n, r => by simp [cut]
  | x :: l, 0, 0, r => by simp [cut, eq_comm]
  | x :: l, 0, n + 1, r => by
    simp only [cut, Option.map_eq_some_iff]
    constructor
    · rintro ⟨a, ha, rfl⟩
      obtain ⟨h, rfl⟩ := cut_eq.1 ha
      simp at h ⊢
      omega
    · rintro ⟨h, rfl⟩
      exact ⟨l.take n, cut_eq.2 ⟨by simp at h ⊢; omega, by simp⟩, by simp⟩
  | x :: l, o + 1, n, r => by
    simp only [cut]
    rw [cut_eq]
    simp
    omega
theorem lay_eq : ∀ {l : List V} {o : Nat} {vs r : List V}, lay l o vs = some r ↔ o + vs.length ≤ l.length ∧ r = l.take o ++ vs ++ l.drop (o + vs.length)
  | l, 0, [], r => by cases l <;> simp [lay, eq_comm]
  | [], 0, v :: vs, r => by simp [lay]
  | [], o + 1, vs, r => by simp [lay]
  | x :: l, 0, v :: vs, r => by
    simp only [lay, Option.map_eq_some_iff]
    constructor
    · rintro ⟨a, ha, rfl⟩
      obtain ⟨h, rfl⟩ := lay_eq.1 ha
      simp at h ⊢
      omega
    · rintro ⟨h, rfl⟩
      refine ⟨vs ++ l.drop vs.length, lay_eq.2 ⟨by simp at h ⊢; omega, by simp⟩, by simp⟩
  | x :: l, o + 1, vs, r => by
    simp only [lay, Option.map_eq_some_iff]
    constructor
    · rintro ⟨a, ha, rfl⟩
      obtain ⟨h, rfl⟩ := lay_eq.1 ha
      refine ⟨by simp at h ⊢; omega, ?_⟩
      rw [show o + 1 + vs.length = (o + vs.length) + 1 by omega]
      simp
    · rintro ⟨h, rfl⟩
      refine ⟨l.take o ++ vs ++ l.drop (o + vs.length), lay_eq.2 ⟨by simp at h ⊢; omega, rfl⟩, ?_⟩
      rw [show o + 1 + vs.length = (o + vs.length) + 1 by omega]
      simp

theorem conc_undef (R : Emb) : conc R .undef = some undef := by simp [V.undef, conc, concL, undef]
theorem conc_nth {R : Emb} {t : List V} {vs : List Value} (h : concL R t = some vs) (n : Nat) : conc R (nth t n) = some (vs.getD n undef) := by
  rw [nth_eq]
  by_cases hn : n < t.length
  · obtain ⟨v, hv, hc⟩ := concL_get h (List.getElem?_eq_getElem hn)
    rw [List.getD_eq_getElem?_getD, List.getD_eq_getElem?_getD, hv, List.getElem?_eq_getElem hn]
    exact hc
  · have hl := concL_length h
    rw [List.getD_eq_getElem?_getD, List.getD_eq_getElem?_getD, List.getElem?_eq_none (by omega), List.getElem?_eq_none (by omega)]
    exact conc_undef R
theorem conc_upd {R : Emb} : ∀ {t : List V} {vs : List Value} {v : V} {x : Value} (n : Nat), concL R t = some vs → conc R v = some x → concL R (upd t n v) = some (vs.set n x)
  | [], vs, v, x, n, h, hv => by simp [concL] at h; subst h; simp [upd, concL]
  | y :: l, vs, v, x, 0, h, hv => by
    obtain ⟨_, w, _, hw, rfl⟩ := concL_cons.1 h
    exact concL_cons.2 ⟨x, w, hv, hw, rfl⟩
  | y :: l, vs, v, x, n + 1, h, hv => by
    obtain ⟨u, w, hu, hw, rfl⟩ := concL_cons.1 h
    exact concL_cons.2 ⟨u, _, hu, conc_upd n hw hv, rfl⟩

theorem conc_cells {R : Emb} {v : V} {x : Value} (h : conc R v = some x) : ∃ l, concL R v.cells = some l ∧ x.cells = l.toArray := by
  cases v with
  | agg c =>
    simp only [conc] at h
    cases hc : concL R c with
    | none => simp [hc] at h
    | some l => simp [hc] at h; exact ⟨l, hc, by simp [← h, Value.cells]⟩
  | sl b o l c g =>
    refine ⟨[x], concL_cons.2 ⟨x, [], h, concL_nil R, rfl⟩, ?_⟩
    cases g with
    | none => simp only [conc, Option.map_eq_some_iff] at h; obtain ⟨_, _, rfl⟩ := h; simp [Value.cells]
    | some e =>
      simp only [conc, Option.bind_eq_some_iff] at h
      obtain ⟨_, _, h⟩ := h
      split at h <;> simp at h
      simp [← h, Value.cells]
  | fn f a c =>
    refine ⟨[x], concL_cons.2 ⟨x, [], h, concL_nil R, rfl⟩, ?_⟩
    simp only [conc] at h
    cases ha : concL R a <;> cases hc : concL R c <;> simp [ha, hc] at h
    simp [← h, Value.cells]
  | ifc t w =>
    refine ⟨[x], concL_cons.2 ⟨x, [], h, concL_nil R, rfl⟩, ?_⟩
    simp only [conc] at h
    cases hw : conc R w <;> simp [hw] at h
    simp [← h, Value.cells]
  | tup c =>
    refine ⟨[x], concL_cons.2 ⟨x, [], h, concL_nil R, rfl⟩, ?_⟩
    simp only [conc] at h
    cases hw : concL R c <;> simp [hw] at h
    simp [← h, Value.cells]
  | s l =>
    refine ⟨[x], concL_cons.2 ⟨x, [], h, concL_nil R, rfl⟩, ?_⟩
    simp only [conc] at h
    split at h <;> simp at h
    simp [← h, Value.cells]
  | _ =>
    refine ⟨[x], concL_cons.2 ⟨x, [], h, concL_nil R, rfl⟩, ?_⟩
    first
      | (simp only [conc, Option.map_eq_some_iff] at h; obtain ⟨_, _, rfl⟩ := h; simp [Value.cells])
      | (simp only [conc, Option.some.injEq] at h; subst h; simp [Value.cells])

theorem conc_oneCell {R : Emb} {v : V} {x : Value} (h : conc R v = some x) (hv : v.oneCell = true) : x.oneCell' = true := by
  cases v with
  | agg c => simp [V.oneCell] at hv
  | tup c => simp [V.oneCell] at hv
  | sl b o l c g =>
    cases g with
    | none => simp only [conc, Option.map_eq_some_iff] at h; obtain ⟨_, _, rfl⟩ := h; simp [Value.oneCell']
    | some e =>
      simp only [conc, Option.bind_eq_some_iff] at h
      obtain ⟨_, _, h⟩ := h
      split at h <;> simp at h
      simp [← h, Value.oneCell']
  | fn f a c =>
    simp only [conc] at h
    cases ha : concL R a <;> cases hc : concL R c <;> simp [ha, hc] at h
    simp [← h, Value.oneCell']
  | ifc t w =>
    simp only [conc] at h
    cases hw : conc R w <;> simp [hw] at h
    simp [← h, Value.oneCell']
  | s l =>
    simp only [conc] at h
    split at h <;> simp at h
    simp [← h, Value.oneCell']
  | _ =>
    first
      | (simp only [conc, Option.map_eq_some_iff] at h; obtain ⟨_, _, rfl⟩ := h; simp [Value.oneCell'])
      | (simp only [conc, Option.some.injEq] at h; subst h; simp [Value.oneCell'])

end Go.Air
