/-
  Air's heap from a function's side: what is added only (Ext), slices that can be read (Sl), lists that were grown (Own); equations of the operations for simp.
-/
import Derived.Test.YtlldpmkdjpmlpaaWp
import Derived.Test.YtlldpmkdjpmlpaaOps5
set_option linter.unusedSectionVars false
set_option linter.unusedVariables false
set_option linter.unusedSimpArgs false
namespace Go.Air

/-! ### Heaps that only grow -/
structure Ext (h h' : H) : Prop where
  nx : h.next ≤ h'.next
  same : ∀ b, b < h.next → h'.get b = h.get b
  log : ∃ l, h'.log = l ++ h.log ∧ ∀ b ∈ l, h.next ≤ b

theorem Ext.refl (h : H) : Ext h h := ⟨Nat.le_refl _, fun _ _ => rfl, [], rfl, fun _ hb => by simp at hb⟩
theorem Ext.trans {h h1 h2 : H} (a : Ext h h1) (b : Ext h1 h2) : Ext h h2 := by
  refine ⟨Nat.le_trans a.nx b.nx, fun x hx => (b.same x (Nat.lt_of_lt_of_le hx a.nx)).trans (a.same x hx), ?_⟩
  obtain ⟨l, e, hl⟩ := a.log
  obtain ⟨m, e', hm⟩ := b.log
  refine ⟨m ++ l, by rw [e', e, List.append_assoc], fun x hx => ?_⟩
  rcases List.mem_append.1 hx with hx | hx
  · exact Nat.le_trans a.nx (hm x hx)
  · exact hl x hx
theorem Ext.new {h h1 : H} (a : Ext h h1) (x : Blk) : Ext h (h1.new x) :=
  ⟨Nat.le_succ_of_le a.nx, fun b hb => by rw [H.get_new, if_neg (by have := a.nx; omega)]; exact a.same b hb, a.log⟩
theorem Ext.put {h h1 : H} (a : Ext h h1) {b : Nat} (hb : h.next ≤ b) (x : Blk) : Ext h (h1.put b x) := by
  refine ⟨a.nx, fun c hc => by rw [H.get_put, if_neg (by omega)]; exact a.same c hc, ?_⟩
  obtain ⟨l, e, hl⟩ := a.log
  exact ⟨b :: l, by simp [e], fun c hc => by rcases List.mem_cons.1 hc with rfl | hc; exact hb; exact hl c hc⟩
theorem Ext.kill {h h1 : H} (a : Ext h h1) {b : Nat} (hb : h.next ≤ b) : Ext h (h1.kill b) := by
  refine ⟨a.nx, fun c hc => by rw [H.get_kill, if_neg (by omega)]; exact a.same c hc, ?_⟩
  obtain ⟨l, e, hl⟩ := a.log
  exact ⟨b :: l, by simp [e], fun c hc => by rcases List.mem_cons.1 hc with rfl | hc; exact hb; exact hl c hc⟩

/-- in an open order: the heap before an operation, and behind it. -/
def H.bare (h : H) : H := ⟨h.next, h.mem, []⟩
def H.back (h h' : H) : H := ⟨h'.next, h'.mem, oldOnes h.next h'.log ++ h.log⟩
theorem H.get_bare (h : H) (b : Nat) : h.bare.get b = h.get b := rfl
theorem H.next_bare (h : H) : h.bare.next = h.next := rfl
theorem H.get_back (h h' : H) (b : Nat) : (h.back h').get b = h'.get b := rfl
theorem H.next_back (h h' : H) : (h.back h').next = h'.next := rfl
theorem oldOnes_lt' {n : Nat} : ∀ {l : List Nat} {b : Nat}, b ∈ oldOnes n l → b < n ∧ b ∈ l
  | [], b, hb => by simp [oldOnes] at hb
  | x :: l, b, hb => by
    simp only [oldOnes] at hb
    split at hb
    · rename_i hx
      rcases List.mem_cons.1 hb with rfl | hb
      · exact ⟨by simpa [Nat.blt_eq] using hx, by simp⟩
      · have := oldOnes_lt' hb
        exact ⟨this.1, by simp [this.2]⟩
    · have := oldOnes_lt' hb
      exact ⟨this.1, by simp [this.2]⟩
theorem oldOnes_none {n : Nat} : ∀ {l : List Nat}, (∀ b ∈ l, n ≤ b) → oldOnes n l = []
  | [], _ => rfl
  | x :: l, h => by
    have hx : Nat.blt x n = false := by rw [Bool.eq_false_iff, ne_eq, Nat.blt_eq]; exact Nat.not_lt.2 (h x (by simp))
    simp only [oldOnes, hx, Bool.false_eq_true, if_false]
    exact oldOnes_none fun b hb => h b (by simp [hb])
theorem Ext.old {h h' : H} (a : Ext h.bare h') : oldOnes h.next h'.log = [] := by
  obtain ⟨l, e, hl⟩ := a.log
  have : h'.log = l := by rw [e]; simp [H.bare]
  rw [this]
  exact oldOnes_none hl
theorem Ext.back {h h' : H} (a : Ext h.bare h') : Ext h (h.back h') :=
  ⟨a.nx, a.same, [], by simp [H.back, a.old], fun _ hb => by simp at hb⟩
theorem H.back_new (h : H) (x : Blk) : h.back (h.bare.new x) = h.new x := by
  simp [H.back, H.bare, H.new, oldOnes]
theorem H.back_bare (h : H) : h.back h.bare = h := by
  simp [H.back, H.bare, oldOnes]

/-! ### Reading a block -/
theorem cutO_nth : ∀ {cs : List (Option V)} {o n : Nat} {l : List V}, cutO cs o n = some l → ∀ i, i < n → nthO cs (o + i) = l[i]?
  | [], 0, 0, _, _, i, hi => by omega
  | _ :: _, 0, 0, _, _, i, hi => by omega
  | [], 0, _ + 1, _, h, i, hi => by simp [cutO] at h
  | [], _ + 1, _, _, h, i, hi => by simp [cutO] at h
  | x :: cs, 0, n + 1, l, h, i, hi => by
    simp only [cutO] at h
    split at h <;> try simp at h
    rename_i v
    obtain ⟨l', h1, rfl⟩ := h
    cases i with
    | zero => simp [nthO]
    | succ i =>
      have := cutO_nth h1 i (by omega)
      simp only [Nat.zero_add] at this ⊢
      simpa [nthO] using this
  | x :: cs, o + 1, n, l, h, i, hi => by
    simp only [cutO] at h
    have := cutO_nth h i hi
    rw [show o + 1 + i = (o + i) + 1 by omega]
    simpa [nthO] using this
theorem cutO_sub : ∀ {cs : List (Option V)} {o n : Nat} {l : List V}, cutO cs o n = some l → ∀ a m, a + m ≤ n → cutO cs (o + a) m = some ((l.drop a).take m)
  | [], 0, 0, l, h, a, m, ha => by
    simp [cutO] at h; subst h
    obtain rfl : a = 0 := by omega
    obtain rfl : m = 0 := by omega
    simp [cutO]
  | y :: cs, 0, 0, l, h, a, m, ha => by
    simp [cutO] at h; subst h
    obtain rfl : a = 0 := by omega
    obtain rfl : m = 0 := by omega
    simp [cutO]
  | [], 0, _ + 1, _, h, a, m, ha => by simp [cutO] at h
  | [], _ + 1, _, _, h, a, m, ha => by simp [cutO] at h
  | x :: cs, 0, n + 1, l, h, a, m, ha => by
    simp only [cutO] at h
    split at h <;> try simp at h
    rename_i v
    obtain ⟨l', h1, rfl⟩ := h
    cases a with
    | zero =>
      cases m with
      | zero => simp [cutO]
      | succ m =>
        have := cutO_sub h1 0 m (by omega)
        simp only [Nat.add_zero, List.drop_zero] at this ⊢
        simp [cutO, this]
    | succ a =>
      have := cutO_sub h1 a m (by omega)
      simp only [Nat.zero_add] at this ⊢
      simpa [cutO] using this
  | x :: cs, o + 1, n, l, h, a, m, ha => by
    simp only [cutO] at h
    have := cutO_sub h a m ha
    rw [show o + 1 + a = (o + a) + 1 by omega]
    simpa [cutO] using this
theorem rd_length {bl : Blk} {o n : Nat} {l : List V} (h : bl.rd o n = some l) : l.length = n := by
  cases bl with
  | cells cs =>
    obtain ⟨h1, rfl⟩ := cut_eq.1 h
    simp; omega
  | ro cs => exact (cutO_eq h).1
  | map _ => cases h
  | loop _ => cases h
theorem rd_nth {bl : Blk} {o n : Nat} {l : List V} (h : bl.rd o n = some l) {i : Nat} (hi : i < n) : bl.rd1 (o + i) = l[i]? := by
  cases bl with
  | cells cs =>
    obtain ⟨h1, rfl⟩ := cut_eq.1 h
    simp only [Blk.rd1, nth?_eq]
    rw [List.getElem?_take_of_lt hi, List.getElem?_drop]
  | ro cs => exact cutO_nth h i hi
  | map _ => cases h
  | loop _ => cases h
theorem rd_sub {bl : Blk} {o n : Nat} {l : List V} (h : bl.rd o n = some l) {a m : Nat} (ha : a + m ≤ n) : bl.rd (o + a) m = some ((l.drop a).take m) := by
  cases bl with
  | cells cs =>
    obtain ⟨h1, rfl⟩ := cut_eq.1 h
    refine cut_eq.2 ⟨by omega, ?_⟩
    rw [List.drop_take, List.drop_drop, List.take_take]
    congr 1; omega
  | ro cs => exact cutO_sub h a m ha
  | map _ => cases h
  | loop _ => cases h

/-! ### The operations' equations -/
def lenV : V → Option Nat
  | .sn => some 0
  | .se _ => some 0
  | .sl _ _ n _ _ => some n
  | _ => none
def blkV : V → Nat
  | .sl b _ _ _ _ => b
  | _ => 0
def offV : V → Nat
  | .sl _ o _ _ _ => o
  | _ => 0
def ixV (esz : Nat) (v i : V) : Option V := match v, natOf i with
  | .sl b o len _ _, some n => if n < len then some (.p b (o + n * esz)) else none
  | _, _ => none
def ldV (h : H) : V → Option V
  | .p b o => (h.get b).bind fun bl => bl.rd1 o
  | _ => none
def ldnV (h : H) (n : Nat) : V → Option V
  | .p b o => (h.get b).bind fun bl => (bl.rd o n).map .agg
  | _ => none

section
variable {t : List V} {h : H} {x y ix : X}
theorem ev_lenL : evA noCall (.lenL x) t h = RO.ofV h ((lenV (x.ev t)).map fun (n : Nat) => V.i .i64 (n : Int)) := by
  simp only [evA]
  cases x.ev t <;> rfl
theorem ev_ixS {esz : Nat} : evA noCall (.ixS esz x ix) t h = RO.ofV h (ixV esz (x.ev t) (ix.ev t)) := by
  simp only [evA, ixV]
  cases x.ev t <;> first | (cases natOf (ix.ev t) <;> rfl) | skip
  cases natOf (ix.ev t) with
  | none => rfl
  | some n =>
    simp only [Nat.blt_eq]
    split <;> rfl
theorem ev_ld : evA noCall (.ld x) t h = RO.ofV h (ldV h (x.ev t)) := by
  simp only [evA]
  cases x.ev t <;> try rfl
  simp only [ldV]
  cases h.get _ <;> rfl
theorem ev_ldn {n : Nat} : evA noCall (.ldn n x) t h = RO.ofV h (ldnV h n (x.ev t)) := by
  simp only [evA]
  cases x.ev t <;> try rfl
  simp only [ldnV]
  cases h.get _ with
  | none => rfl
  | some bl =>
    simp only [Option.bind_some]
    cases bl.rd _ n <;> rfl
end

/-! ### Slices that can be read -/
/-- v is a slice of n elements of esz cells, which the heap holds. -/
def Sl (esz : Nat) (h : H) (v : V) (n : Nat) (cs : List V) : Prop :=
  (n = 0 ∧ cs = [] ∧ (v = .sn ∨ ∃ a, v = .se a)) ∨ ∃ b off cap g bl, v = .sl b off n cap g ∧ b < h.next ∧ h.get b = some bl ∧ bl.rd off (n * esz) = some cs

section
variable {esz n : Nat} {h h' : H} {v : V} {cs : List V}
theorem Sl.len (s : Sl esz h v n cs) : lenV v = some n := by
  rcases s with ⟨rfl, _, rfl | ⟨a, rfl⟩⟩ | ⟨b, off, cap, g, bl, rfl, _⟩ <;> rfl
theorem Sl.slen (s : Sl esz h v n cs) : sourceLen v = some n := by
  rcases s with ⟨rfl, _, rfl | ⟨a, rfl⟩⟩ | ⟨b, off, cap, g, bl, rfl, _⟩ <;> rfl
theorem Sl.length (s : Sl esz h v n cs) : cs.length = n * esz := by
  rcases s with ⟨rfl, rfl, _⟩ | ⟨b, off, cap, g, bl, rfl, _, _, hr⟩
  · simp
  · exact rd_length hr
theorem Sl.ix (s : Sl esz h v n cs) {i : Nat} (hi : i < n) : ixV esz v (.i .i64 (i : Int)) = some (.p (blkV v) (offV v + i * esz)) := by
  rcases s with ⟨rfl, _, _⟩ | ⟨b, off, cap, g, bl, rfl, _⟩
  · omega
  · simp only [ixV]
    rw [show natOf (.i .i64 (i : Int)) = some i from rfl]
    simp [hi, blkV, offV]
theorem Sl.ix0 (s : Sl esz h v n cs) (hi : 0 < n) : ixV esz v (.i .i64 0) = some (.p (blkV v) (offV v + 0 * esz)) := s.ix hi
theorem Sl.lt (s : Sl esz h v n cs) (hn : 0 < n) : blkV v < h.next := by
  rcases s with ⟨rfl, _, _⟩ | ⟨b, off, cap, g, bl, rfl, hb, _⟩
  · omega
  · exact hb
theorem mul_lt {i n k esz : Nat} (hi : i < n) (hk : k < esz) : i * esz + k < n * esz := by
  have : (i + 1) * esz ≤ n * esz := Nat.mul_le_mul_right _ hi
  rw [Nat.add_mul] at this; omega
theorem Sl.ld (s : Sl esz h v n cs) {i k : Nat} (hi : i < n) (hk : k < esz) : ldV h (.p (blkV v) (offV v + i * esz + k)) = cs[i * esz + k]? := by
  rcases s with ⟨rfl, _, _⟩ | ⟨b, off, cap, g, bl, rfl, _, hg, hr⟩
  · omega
  · simp only [ldV, blkV, offV, hg, Option.bind_some]
    rw [Nat.add_assoc, rd_nth hr (mul_lt hi hk)]
theorem Sl.ld1 (s : Sl 1 h v n cs) {i : Nat} (hi : i < n) : ldV h (.p (blkV v) (offV v + i * 1)) = cs[i]? := by
  have := s.ld (k := 0) hi (by omega)
  simpa using this
theorem Sl.ldn (s : Sl esz h v n cs) {i : Nat} (hi : i < n) : ldnV h esz (.p (blkV v) (offV v + i * esz)) = some (.agg ((cs.drop (i * esz)).take esz)) := by
  rcases s with ⟨rfl, _, _⟩ | ⟨b, off, cap, g, bl, rfl, _, hg, hr⟩
  · omega
  · simp only [ldnV, blkV, offV, hg, Option.bind_some]
    rw [rd_sub hr (by have : (i + 1) * esz ≤ n * esz := Nat.mul_le_mul_right _ hi
                      rw [Nat.add_mul] at this; omega)]
    rfl
theorem Sl.src (s : Sl esz h v n cs) : sourceCells esz n h v = some cs := by
  rcases s with ⟨rfl, rfl, rfl | ⟨a, rfl⟩⟩ | ⟨b, off, cap, g, bl, rfl, _, hg, hr⟩
  · rfl
  · rfl
  · simp only [sourceCells, hg]; exact hr
theorem Sl.ext (s : Sl esz h v n cs) (e : Ext h h') : Sl esz h' v n cs := by
  rcases s with s | ⟨b, off, cap, g, bl, hv, hb, hg, hr⟩
  · exact .inl s
  · exact .inr ⟨b, off, cap, g, bl, hv, Nat.lt_of_lt_of_le hb e.nx, (e.same b hb).trans hg, hr⟩
theorem Sl.bare (s : Sl esz h v n cs) : Sl esz h.bare v n cs := s
theorem Sl.of_bare (s : Sl esz h.bare v n cs) : Sl esz h v n cs := s
theorem Sl.keep (s : Sl esz h v n cs) (hn : h.next ≤ h'.next) (hk : blkV v < h.next → h'.get (blkV v) = h.get (blkV v)) : Sl esz h' v n cs := by
  rcases s with s | ⟨b, off, cap, g, bl, rfl, hb, hg, hr⟩
  · exact .inl s
  · exact .inr ⟨b, off, cap, g, bl, rfl, Nat.lt_of_lt_of_le hb hn, (hk hb).trans hg, hr⟩

/-- a slice that is an argument (or a part of one): its capacity is what it says. -/
def Arg (esz : Nat) (h : H) (v : V) (n : Nat) (cs : List V) : Prop :=
  (n = 0 ∧ cs = [] ∧ (v = .sn ∨ ∃ a, v = .se a)) ∨ ∃ b off cap bl, v = .sl b off n cap none ∧ n ≤ cap ∧ b < h.next ∧ h.get b = some bl ∧ bl.rd off (n * esz) = some cs
theorem Arg.sl (s : Arg esz h v n cs) : Sl esz h v n cs := by
  rcases s with s | ⟨b, off, cap, bl, h1, _, h2⟩
  · exact .inl s
  · exact .inr ⟨b, off, cap, none, bl, h1, h2⟩
theorem Arg.ext (s : Arg esz h v n cs) (e : Ext h h') : Arg esz h' v n cs := by
  rcases s with s | ⟨b, off, cap, bl, hv, hc, hb, hg, hr⟩
  · exact .inl s
  · exact .inr ⟨b, off, cap, bl, hv, hc, Nat.lt_of_lt_of_le hb e.nx, (e.same b hb).trans hg, hr⟩

/-- v[:i], v[i:], v[i:j]. -/
def slHi (esz : Nat) (v i : V) : Option V := sliceV esz [i] none (some (.t 0)) v
def slLo (esz : Nat) (v i : V) : Option V := sliceV esz [i] (some (.t 0)) none v
def slLH (esz : Nat) (v i j : V) : Option V := sliceV esz [i, j] (some (.t 0)) (some (.t 1)) v
theorem bounds_hi {t : List V} {len cap b : Nat} {x : X} (hb : natOf (x.ev t) = some b) (hc : b ≤ cap) : bounds t len cap none (some x) = some (0, b) := by
  have h1 : Nat.ble b cap = true := by rw [Nat.ble_eq]; exact hc
  have h2 : Nat.ble 0 b = true := by rw [Nat.ble_eq]; omega
  simp only [bounds, hb, h1, h2, if_true]
theorem bounds_lo {t : List V} {len cap a : Nat} {x : X} (ha : natOf (x.ev t) = some a) (hl : len ≤ cap) (hc : a ≤ len) : bounds t len cap (some x) none = some (a, len) := by
  have h1 : Nat.ble len cap = true := by rw [Nat.ble_eq]; exact hl
  have h2 : Nat.ble a len = true := by rw [Nat.ble_eq]; exact hc
  simp only [bounds, ha, h1, h2, if_true]
theorem bounds_lh {t : List V} {len cap a b : Nat} {x y : X} (ha : natOf (x.ev t) = some a) (hb : natOf (y.ev t) = some b) (hl : b ≤ cap) (hc : a ≤ b) : bounds t len cap (some x) (some y) = some (a, b) := by
  have h1 : Nat.ble b cap = true := by rw [Nat.ble_eq]; exact hl
  have h2 : Nat.ble a b = true := by rw [Nat.ble_eq]; exact hc
  simp only [bounds, ha, hb, h1, h2, if_true]
theorem Arg.part (s : Arg esz h v n cs) {a b : Nat} (hab : a ≤ b) (hb : b ≤ n) {lo hi : Option X} {t : List V} (hbd : ∀ cap, n ≤ cap → bounds t n cap lo hi = some (a, b)) :
    ∃ u, sliceV esz t lo hi v = some u ∧ Arg esz h u (b - a) ((cs.drop (a * esz)).take ((b - a) * esz)) := by
  rcases s with ⟨rfl, rfl, hv⟩ | ⟨b', off, cap, bl, rfl, hc, hb', hg', hr⟩
  · obtain rfl : b = 0 := by omega
    obtain rfl : a = 0 := by omega
    have := hbd 0 (Nat.le_refl _)
    rcases hv with rfl | ⟨ad, rfl⟩
    · exact ⟨.sn, by simp only [sliceV, this], .inl ⟨rfl, by simp, .inl rfl⟩⟩
    · exact ⟨.se ad, by simp only [sliceV, this], .inl ⟨rfl, by simp, .inr ⟨ad, rfl⟩⟩⟩
  · have key : bl.rd (off + a * esz) ((b - a) * esz) = some ((cs.drop (a * esz)).take ((b - a) * esz)) := rd_sub hr (by
      have : (a + (b - a)) * esz ≤ n * esz := Nat.mul_le_mul_right _ (by omega)
      rw [Nat.add_mul] at this; exact this)
    simp only [sliceV, hbd cap hc]
    refine ⟨_, rfl, .inr ⟨b', _, cap - a, bl, rfl, by omega, hb', hg', ?_⟩⟩
    by_cases hac : a = cap
    · have h1 : Nat.beq a cap = true := by rw [Nat.beq_eq]; exact hac
      have h0 : b - a = 0 := by omega
      rw [h1, if_pos rfl, h0]
      have := rd_sub hr (a := 0) (m := 0) (by omega)
      simpa using this
    · have h1 : Nat.beq a cap = false := by rw [Bool.eq_false_iff, ne_eq, Nat.beq_eq]; exact hac
      rw [h1, if_neg (by simp)]
      exact key
theorem Arg.hi (s : Arg esz h v n cs) {b : Nat} (hb : b ≤ n) : ∃ u, slHi esz v (.i .i64 (b : Int)) = some u ∧ Arg esz h u b (cs.take (b * esz)) := by
  have := s.part (a := 0) (t := [.i .i64 (b : Int)]) (lo := none) (hi := some (.t 0)) (Nat.zero_le b) hb (fun cap hc => bounds_hi rfl (by omega))
  simpa [slHi] using this
theorem Arg.lo (s : Arg esz h v n cs) {a : Nat} (ha : a ≤ n) : ∃ u, slLo esz v (.i .i64 (a : Int)) = some u ∧ Arg esz h u (n - a) (cs.drop (a * esz)) := by
  have := s.part (b := n) (t := [.i .i64 (a : Int)]) (lo := some (.t 0)) (hi := none) ha (Nat.le_refl n) (fun cap hc => bounds_lo rfl hc ha)
  obtain ⟨u, h1, h2⟩ := this
  refine ⟨u, h1, ?_⟩
  rw [List.take_of_length_le] at h2
  · exact h2
  · have := s.sl.length
    rw [List.length_drop, this, ← Nat.sub_mul]
    exact Nat.le_refl _
theorem Arg.lh (s : Arg esz h v n cs) {a b : Nat} (hab : a ≤ b) (hb : b ≤ n) : ∃ u, slLH esz v (.i .i64 (a : Int)) (.i .i64 (b : Int)) = some u ∧ Arg esz h u (b - a) ((cs.drop (a * esz)).take ((b - a) * esz)) :=
  s.part (t := [.i .i64 (a : Int), .i .i64 (b : Int)]) (lo := some (.t 0)) (hi := some (.t 1)) hab hb (fun cap hc => bounds_lh rfl rfl (by omega) hab)
end

/-! ### Lists that were grown by append -/
/-- v is a list of n elements of esz cells, made behind the heap h0. -/
def Own (h0 : H) (esz : Nat) (h : H) (v : V) (n : Nat) (cs : List V) : Prop :=
  cs.length = n * esz ∧ ((n = 0 ∧ v = .sn) ∨ ∃ b g, v = .sl b 0 n n g ∧ (g = none ∨ g = some esz) ∧ h0.next ≤ b ∧ b < h.next ∧ h.get b = some (.cells cs))

section
variable {esz bytes n m : Nat} {h0 h h' : H} {v x : V} {cs new : List V}
theorem Own.nil : Own h0 esz h .sn 0 [] := ⟨by simp, .inl ⟨rfl, rfl⟩⟩
theorem Own.len (o : Own h0 esz h v n cs) : cs.length = n * esz := o.1
theorem Own.sl (o : Own h0 esz h v n cs) : Sl esz h v n cs := by
  obtain ⟨hl, ⟨rfl, rfl⟩ | ⟨b, g, rfl, _, _, hb, hg⟩⟩ := o
  · exact .inl ⟨rfl, List.eq_nil_of_length_eq_zero (by rw [hl]; simp), .inl rfl⟩
  · refine .inr ⟨b, 0, n, g, _, rfl, hb, hg, ?_⟩
    exact cut_eq.2 ⟨by omega, by rw [← hl]; simp⟩
theorem Own.ge (o : Own h0 esz h v n cs) (hv : v ≠ .sn) : h0.next ≤ blkV v := by
  obtain ⟨hl, ⟨rfl, rfl⟩ | ⟨b, g, rfl, _, hb, _⟩⟩ := o
  · exact absurd rfl hv
  · exact hb
theorem Own.keep (o : Own h0 esz h v n cs) (hn : h.next ≤ h'.next) (hk : blkV v < h.next → h'.get (blkV v) = h.get (blkV v)) : Own h0 esz h' v n cs := by
  obtain ⟨hl, o | ⟨b, g, rfl, hv, h1, h2, hg⟩⟩ := o
  · exact ⟨hl, .inl o⟩
  · exact ⟨hl, .inr ⟨b, g, rfl, hv, h1, Nat.lt_of_lt_of_le h2 hn, (hk h2).trans hg⟩⟩
theorem Own.ext (o : Own h0 esz h v n cs) (e : Ext h h') : Own h0 esz h' v n cs := o.keep e.nx (fun hb => e.same _ hb)
theorem Own.mono {h1 : H} (o : Own h1 esz h v n cs) (hn : h0.next ≤ h1.next) : Own h0 esz h v n cs := by
  obtain ⟨hl, o | ⟨b, g, rfl, hv, q1, q2⟩⟩ := o
  · exact ⟨hl, .inl o⟩
  · exact ⟨hl, .inr ⟨b, g, rfl, hv, Nat.le_trans hn q1, q2⟩⟩
/-- a list out of nothing. -/
theorem Own.lit (e : Ext h0 h) (cs : List V) (n : Nat) (hn : cs.length = n * esz) : Own h0 esz (h.new (.cells cs)) (.sl h.next 0 n n none) n cs ∧ Ext h0 (h.new (.cells cs)) :=
  ⟨⟨hn, .inr ⟨h.next, none, rfl, .inl rfl, e.nx, by simp, by rw [H.get_new, if_pos rfl]⟩⟩, e.new _⟩
/-- a list is grown. -/
theorem Own.app (o : Own h0 esz h v n cs) (e : Ext h0 h) (s : Sl esz h x m new) (hone : ∀ u ∈ new, u.oneCell = true) (hb : 0 < bytes) (hz : 0 < esz) (hm : (2 * (n + m) + 200) * bytes ≤ 281474976710656) :
    ∃ v' h', appendV esz bytes h v x = .ok v' h' ∧ Ext h0 h' ∧ Own h0 esz h' v' (n + m) (cs ++ new) ∧ h.next ≤ h'.next ∧ (∀ b, b < h.next → (v = .sn ∨ b ≠ blkV v) → h'.get b = h.get b) ∧ (0 < m → blkV v' = h.next) := by
  have hall : new.all V.oneCell = true := List.all_eq_true.2 hone
  have hlim : (Nat.ble ((2 * m + 200) * bytes) 281474976710656 && Nat.blt 0 bytes && Nat.blt 0 esz) = true := by
    have : (2 * m + 200) * bytes ≤ (2 * (n + m) + 200) * bytes := Nat.mul_le_mul_right _ (by omega)
    simp only [Bool.and_eq_true, Nat.ble_eq, Nat.blt_eq]
    exact ⟨⟨by omega, hb⟩, hz⟩
  have hnl := s.length
  unfold appendV
  simp only [s.slen, s.src, hlim, if_true]
  obtain ⟨hl, ⟨rfl, rfl⟩ | ⟨b, g, rfl, hgg, h1, h2, hg⟩⟩ := o
  · obtain rfl : cs = [] := List.eq_nil_of_length_eq_zero (by rw [hl]; simp)
    by_cases hm0 : m = 0
    · subst hm0
      obtain rfl : new = [] := List.eq_nil_of_length_eq_zero (by rw [hnl]; simp)
      exact ⟨.sn, h, rfl, e, .nil, Nat.le_refl _, fun _ _ _ => rfl, fun hm => by omega⟩
    · have : Nat.beq m 0 = false := by rw [Bool.eq_false_iff, ne_eq, Nat.beq_eq]; exact hm0
      simp only [this, Bool.false_eq_true, if_false]
      refine ⟨_, _, rfl, e.new _, ⟨by simp [hnl], .inr ⟨h.next, some esz, by simp, .inr rfl, e.nx, by simp, by rw [H.get_new, if_pos rfl]; simp⟩⟩, by simp, fun c hc _ => by rw [H.get_new, if_neg (by omega)], fun _ => rfl⟩
  · by_cases hm0 : m = 0
    · subst hm0
      obtain rfl : new = [] := List.eq_nil_of_length_eq_zero (by rw [hnl]; simp)
      have h3 : Nat.ble (n + 0) n = true := by rw [Nat.ble_eq]; omega
      have h4 : lay cs (n * esz) [] = some cs := lay_eq.2 ⟨by simp; omega, by simp⟩
      have hs : storeAt h b (0 + n * esz) [] = some (h.put b (.cells cs)) := by
        simp only [storeAt, hg, Nat.zero_add, h4, List.all_nil, if_true]
      simp only [h3, if_true, hs]
      refine ⟨_, _, rfl, e.put h1 _, ⟨by simpa using hl, .inr ⟨b, g, by simp, hgg, h1, h2, by rw [H.get_put, if_pos rfl]; simp⟩⟩, by simp, fun c _ hc => by rw [H.get_put, if_neg (by simpa [blkV] using hc)], fun hm => by omega⟩
    · have h3 : Nat.ble (n + m) n = false := by rw [Bool.eq_false_iff, ne_eq, Nat.ble_eq]; omega
      have h4 : Nat.ble ((2 * (n + m) + 200) * bytes) 281474976710656 = true := by rw [Nat.ble_eq]; exact hm
      have h5 : cut cs 0 (n * esz) = some cs := cut_eq.2 ⟨by omega, by rw [← hl]; simp⟩
      have h6 : Nat.beq cs.length (n * esz) = true := by rw [Nat.beq_eq]; exact hl
      have h7 : Nat.beq esz esz = true := by simp
      have h8 : Nat.beq 0 0 = true := rfl
      rcases hgg with rfl | rfl
      · simp only [h3, Bool.false_eq_true, if_false, h4, if_true, hg, Blk.rd, h5]
        refine ⟨_, _, rfl, e.new _, ⟨by simp [hl, hnl, Nat.add_mul], .inr ⟨h.next, some esz, by simp, .inr rfl, e.nx, by simp, by rw [H.get_new, if_pos rfl]⟩⟩, by simp, fun c hc hcb => ?_, fun _ => rfl⟩
        rw [H.get_new, if_neg (by omega)]
      · simp only [h3, Bool.false_eq_true, if_false, h4, if_true, hg, h5, h6, h7, h8, hall, Bool.and_self]
        refine ⟨_, _, rfl, (e.kill h1).new _, ⟨by simp [hl, hnl, Nat.add_mul], .inr ⟨h.next, some esz, by simp, .inr rfl, e.nx, by simp, by rw [H.get_kn, if_pos rfl]⟩⟩, by simp, fun c hc hcb => ?_, fun _ => rfl⟩
        rw [H.get_kn, if_neg (by omega), if_neg (by simpa [blkV] using hcb)]

theorem storeAt_bare {b o : Nat} {vs : List V} {h h' : H} (hs : storeAt h b o vs = some h') : ∃ l, h'.log = l ++ h.log ∧ storeAt h.bare b o vs = some ⟨h'.next, h'.mem, l⟩ := by
  unfold storeAt at hs ⊢
  rw [H.get_bare]
  split at hs <;> try simp only [reduceCtorEq] at hs
  split at hs <;> try simp only [reduceCtorEq] at hs
  split at hs <;> simp only [Option.some.injEq, reduceCtorEq] at hs
  rename_i q1 _ cs' q2 q3
  subst hs
  exact ⟨[b], rfl, by simp only [q2, q3, if_true]; rfl⟩
theorem source_bare {h : H} {esz n : Nat} {x : V} : sourceCells esz n h.bare x = sourceCells esz n h x := by cases x <;> rfl
theorem append_bare {esz bytes : Nat} {h h' : H} {v x v' : V} (ha : appendV esz bytes h v x = .ok v' h') : ∃ l, h'.log = l ++ h.log ∧ appendV esz bytes h.bare v x = .ok v' ⟨h'.next, h'.mem, l⟩ := by
  unfold appendV at ha ⊢
  cases q1 : sourceLen x with
  | none => simp only [q1, reduceCtorEq] at ha
  | some n =>
    simp only [q1] at ha ⊢
    rw [source_bare]
    cases q2 : sourceCells esz n h x with
    | none => simp only [q2, reduceCtorEq] at ha
    | some new =>
      simp only [q2] at ha ⊢
      split at ha <;> try simp only [reduceCtorEq] at ha
      rename_i q3
      rw [if_pos q3]
      cases v <;> try simp only [reduceCtorEq] at ha
      case sn =>
        simp only at ha ⊢
        split at ha <;> (rename_i q4; simp only [RO.ok.injEq] at ha; obtain ⟨rfl, rfl⟩ := ha)
        · rw [if_pos q4]; exact ⟨[], rfl, rfl⟩
        · rw [if_neg q4]; exact ⟨[], rfl, rfl⟩
      case se a =>
        simp only at ha ⊢
        split at ha <;> (rename_i q4; simp only [RO.ok.injEq] at ha; obtain ⟨rfl, rfl⟩ := ha)
        · rw [if_pos q4]; exact ⟨[], rfl, rfl⟩
        · rw [if_neg q4]; exact ⟨[], rfl, rfl⟩
      case sl blk off len cap g =>
        simp only at ha ⊢
        split at ha
        · rename_i q4
          rw [if_pos q4]
          split at ha <;> simp only [RO.ok.injEq, reduceCtorEq] at ha
          rename_i hs
          obtain ⟨rfl, rfl⟩ := ha
          obtain ⟨l, e1, e2⟩ := storeAt_bare hs
          exact ⟨l, e1, by rw [e2]⟩
        · rename_i q4
          rw [if_neg q4]
          split at ha <;> try simp only [reduceCtorEq] at ha
          rename_i q5
          rw [if_pos q5]
          cases g with
          | none =>
            simp only [H.get_bare] at ha ⊢
            cases q6 : h.get blk with
            | none => simp only [q6, reduceCtorEq] at ha
            | some bl =>
              simp only [q6] at ha ⊢
              cases q7 : bl.rd off (len * esz) with
              | none => simp only [q7, reduceCtorEq] at ha
              | some old =>
                simp only [q7, RO.ok.injEq] at ha ⊢
                obtain ⟨rfl, rfl⟩ := ha
                exact ⟨[], rfl, rfl, rfl⟩
          | some e =>
            simp only [H.get_bare] at ha ⊢
            cases q6 : h.get blk with
            | none => simp only [q6, reduceCtorEq] at ha
            | some bl =>
              cases bl <;> simp only [q6, reduceCtorEq] at ha ⊢
              rename_i cs
              cases q7 : cut cs off (len * esz) with
              | none => simp only [q7, reduceCtorEq] at ha
              | some old =>
                simp only [q7] at ha ⊢
                split at ha <;> simp only [RO.ok.injEq, reduceCtorEq] at ha
                rename_i q8
                rw [if_pos q8]
                obtain ⟨rfl, rfl⟩ := ha
                exact ⟨[blk], rfl, rfl⟩
theorem oldOnes_mem {n : Nat} : ∀ {l : List Nat} {b : Nat}, b ∈ oldOnes n l → b ∈ l := fun hb => (oldOnes_lt' hb).2
/-- the same in an open order. -/
theorem Own.appB (o : Own h0 esz h v n cs) (e : Ext h0 h) (s : Sl esz h x m new) (hone : ∀ u ∈ new, u.oneCell = true) (hb : 0 < bytes) (hz : 0 < esz) (hm : (2 * (n + m) + 200) * bytes ≤ 281474976710656) :
    ∃ v' hb g, appendV esz bytes h.bare v x = .ok v' hb ∧ h.back hb = g ∧ Ext h0 g ∧ Own h0 esz g v' (n + m) (cs ++ new) ∧ h.next ≤ g.next ∧ (∀ b, b < h.next → (v = .sn ∨ b ≠ blkV v) → g.get b = h.get b) ∧ (0 < m → blkV v' = h.next) := by
  obtain ⟨v', h', q1, q2, q3, q4, q5, q6⟩ := o.app e s hone hb hz hm
  obtain ⟨l, e1, e2⟩ := append_bare q1
  refine ⟨v', _, _, e2, rfl, ⟨q2.nx, q2.same, ?_⟩, ?_, q4, q5, q6⟩
  · obtain ⟨l1, f1, f2⟩ := e.log
    obtain ⟨l2, g1, g2⟩ := q2.log
    refine ⟨oldOnes h.next l ++ l1, by simp [H.back, f1], fun b hb => ?_⟩
    rcases List.mem_append.1 hb with hb | hb
    · have hb := oldOnes_mem hb
      have : l2 = l ++ l1 := by
        rw [e1, f1, ← List.append_assoc] at g1
        exact (List.append_cancel_right g1).symm
      exact g2 b (by rw [this]; exact List.mem_append_left _ hb)
    · exact f2 b hb
  · obtain ⟨hl, o | ⟨b, gg, r1, r2, r3, r4, r5⟩⟩ := q3
    · exact ⟨hl, .inl o⟩
    · exact ⟨hl, .inr ⟨b, gg, r1, r2, r3, r4, r5⟩⟩
end
end Go.Air
