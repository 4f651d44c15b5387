/-
  A part of the proof of: The row of BulletinDigests and its tied card, out of the lifted form.
-/
import Derived.Test.YtanmdooeaaafkaaGreatDoorDgC
set_option linter.unusedSectionVars false
set_option linter.unusedVariables false
set_option linter.unusedSimpArgs false
set_option maxRecDepth 100000
namespace Go.Air
open Go.Air.Try
structure Bul where
  (n at' by' : Int)
  kind : Nat
  hid : Bool
  body : List Nat
  salt : Int
  (dig prev : List Nat)
  deriving DecidableEq
def Bul.head (b : Bul) : List V := [.i .i64 b.n, .i .i64 b.at', .i .i64 b.by', .i .u8 (b.kind : Int), .b b.hid, .s b.body, .i .i64 b.salt]
def Bul.cells (b : Bul) : List V := b.head ++ (b.dig.map u8 ++ b.prev.map u8)
structure Bul.Ok (b : Bul) : Prop where
  n : I64 b.n
  at' : I64 b.at'
  by' : I64 b.by'
  kind : b.kind < 256
  salt : I64 b.salt
  body : ∀ c ∈ b.body, c < 256
  len : b.body.length ≤ 9223372036854775807
  dig : b.dig.length = 32
  prev : b.prev.length = 32
  digB : ∀ c ∈ b.dig, c < 256
  prevB : ∀ c ∈ b.prev, c < 256
def Bul.formed (b : Bul) : Bool := (((btw b.n 0 1999 && btw b.at' 0 100000) && btw b.by' 0 7) && btw b.kind 1 7) &&
  if b.hid then decide (b.body = []) && decide (b.salt = 0) else (decide ((b.body.length : Int) ≤ 7000) && btw b.salt 0 9007199254740992) && decide (b.dig = sealOf b.salt b.body)
theorem cells_len {b : Bul} (h : b.Ok) : b.cells.length = 71 := by simp [Bul.cells, Bul.head, h.dig, h.prev]
theorem cells_one (b : Bul) : ∀ u ∈ b.cells, u.oneCell = true := by
  intro u hu
  unfold Bul.cells at hu
  rcases List.mem_append.1 hu with hu | hu
  · simp only [Bul.head, List.mem_cons, List.not_mem_nil, or_false] at hu
    rcases hu with rfl | rfl | rfl | rfl | rfl | rfl | rfl <;> rfl
  · rcases List.mem_append.1 hu with hu | hu <;> exact u8s_one _ u hu
structure BulAt (h : H) (k : Nat) (b : Bul) : Prop where
  get : h.get k = some (.cells b.cells)
section
variable {h : H} {k : Nat} {b : Bul} (q : h.get k = some (.cells b.cells))
include q
theorem bl0 : ldV h (.p k 0) = some (.i .i64 b.n) := blk_ld q rfl
theorem bl1 : ldV h (.p k 1) = some (.i .i64 b.at') := blk_ld q rfl
theorem bl2 : ldV h (.p k 2) = some (.i .i64 b.by') := blk_ld q rfl
theorem bl3 : ldV h (.p k 3) = some (.i .u8 (b.kind : Int)) := blk_ld q rfl
theorem bl4 : ldV h (.p k 4) = some (.b b.hid) := blk_ld q rfl
theorem bl5 : ldV h (.p k 5) = some (.s b.body) := blk_ld q rfl
theorem bl6 : ldV h (.p k 6) = some (.i .i64 b.salt) := blk_ld q rfl
theorem bl7 (hb : b.Ok) : ldnV h 32 (.p k 7) = some (.agg (b.dig.map u8)) := by
  have : cut b.cells 7 32 = some (b.dig.map u8) := by
    refine cut_eq.2 ⟨by rw [cells_len hb]; omega, ?_⟩
    show _ = (b.dig.map u8 ++ b.prev.map u8).take 32
    rw [List.take_left' (by simpa using hb.dig)]
  simp [ldnV, q, Blk.rd, this]
theorem bl71 (hb : b.Ok) : ldnV h 71 (.p k 0) = some (.agg b.cells) := blk_ldn q (cells_len hb)
theorem bls7 (hb : b.Ok) (hk : k < h.next) : Sl 1 h (.sl k 7 32 32 none) 32 (b.dig.map u8) := by
  refine .inr ⟨k, 7, 32, none, _, rfl, hk, q, cut_eq.2 ⟨by rw [cells_len hb]; omega, ?_⟩⟩
  show _ = (b.dig.map u8 ++ b.prev.map u8).take 32
  rw [List.take_left' (by simpa using hb.dig)]
theorem bls39 (hb : b.Ok) (hk : k < h.next) : Sl 1 h (.sl k 39 32 32 none) 32 (b.prev.map u8) := by
  refine .inr ⟨k, 39, 32, none, _, rfl, hk, q, cut_eq.2 ⟨by rw [cells_len hb]; omega, ?_⟩⟩
  have e : b.cells.drop 39 = b.prev.map u8 := by
    unfold Bul.cells
    rw [← List.append_assoc, List.drop_left' (by simp [Bul.head, hb.dig])]
  rw [e, List.take_of_length_le (by simp [hb.prev])]
end
theorem t85 : tb1 31 = some a31 := by kernel_rfl
theorem t126 : tb1 32 = some a32 := by kernel_rfl
theorem conv_kind {n : Nat} (h : n < 256) : convV .i64 (.i .u8 (n : Int)) = some (.i .i64 (n : Int)) := by
  simp only [convV]; rw [wrap_in (by omega) (by omega)]
theorem fn_formed {h : H} (ht : Tb4 h) {b : Bul} (hb : b.Ok) : WC tb1 (.fn 31 [] []) [.agg b.cells] h fun u h' => u = .b b.formed ∧ Ext h h' := by
  refine (WC_in t85).2 ?_
  have hc : (V.agg b.cells).cells = b.cells := rfl
  have e1 : Ext h (h.new (.cells b.cells)) := (Ext.refl h).new _
  have g : (h.new (.cells b.cells)).get h.next = some (.cells b.cells) := get_new_eq rfl
  have hk := conv_kind hb.kind
  simp only [go_sem, ↓reduceIte, r31_0, hc]
  cases c1 : btw b.n 0 1999
  · simp only [go_sem, ↓reduceIte, r31_1, r31_2, bl0 g, bl1 g, bl2 g, bl3 g, hk, c1]
    refine ⟨by simp [Bul.formed, c1], e1⟩
  cases c2 : btw b.at' 0 100000
  · simp only [go_sem, ↓reduceIte, r31_1, r31_2, bl0 g, bl1 g, bl2 g, bl3 g, hk, c1, c2]
    refine ⟨by simp [Bul.formed, c2], e1⟩
  cases c3 : btw b.by' 0 7
  · simp only [go_sem, ↓reduceIte, r31_1, r31_2, bl0 g, bl1 g, bl2 g, bl3 g, hk, c1, c2, c3]
    refine ⟨by simp [Bul.formed, c3], e1⟩
  cases c4 : btw b.kind 1 7
  · simp only [go_sem, ↓reduceIte, r31_1, r31_2, bl0 g, bl1 g, bl2 g, bl3 g, hk, c1, c2, c3, c4]
    refine ⟨by simp [Bul.formed, c4], e1⟩
  cases c5 : b.hid
  · simp only [go_sem, ↓reduceIte, r31_1, r31_3, bl0 g, bl1 g, bl2 g, bl3 g, bl4 g, hk, c1, c2, c3, c4, c5]
    refine WD_gen (fun t => t.length = 55 ∧ nth t 1 = .p h.next 0) (by simp only [go_sem, ↓reduceIte]) ?_
    rintro t ⟨tl, t1⟩
    cases c6 : decide ((b.body.length : Int) ≤ 7000)
    · simp only [go_sem, ↓reduceIte, r31_5, tl, t1, bl5 g, bl6 g, c6, old_bare, List.cons_append, List.nil_append]
      exact ⟨rfl, by simp only [Bul.formed, c1, c2, c3, c4, c5, c6]; rfl, e1⟩
    cases c7 : btw b.salt 0 9007199254740992
    · simp only [go_sem, ↓reduceIte, r31_5, tl, t1, bl5 g, bl6 g, c6, c7, old_bare, List.cons_append, List.nil_append]
      exact ⟨rfl, by simp only [Bul.formed, c1, c2, c3, c4, c5, c6, c7]; rfl, e1⟩
    simp only [go_sem, ↓reduceIte, r31_5, tl, t1, bl5 g, bl6 g, bl7 g hb, c6, c7, old_bare, List.cons_append, List.nil_append]
    have c6' := of_decide_eq_true c6
    refine (fn_seal (ht.ext e1).bare hb.salt hb.body (by omega)).mono ?_
    rintro u h' ⟨rfl, e⟩
    have hq : eqV (.agg (List.replicate 32 (.i .u8))) (.agg (b.dig.map u8)) (.agg ((sealOf b.salt b.body).map u8)) = some (decide (b.dig = sealOf b.salt b.body)) := eq_u8s hb.dig (sum_len _)
    have ho := e.old
    simp only [go_sem, ↓reduceIte, tl, ho, hq, List.cons_append, List.nil_append]
    exact ⟨rfl, by simp only [Bul.formed, c1, c2, c3, c4, c5, c6, c7]; rfl, e1.trans e.back⟩
  cases c6 : decide (b.body = [])
  · have s6 : binV .eql (.s b.body) (.s []) = some (.b false) := by rw [bin_seq, c6]
    simp only [go_sem, ↓reduceIte, r31_1, r31_3, r31_4, bl0 g, bl1 g, bl2 g, bl3 g, bl4 g, bl5 g, bl6 g, hk, c1, c2, c3, c4, c5, s6]
    exact ⟨by simp only [Bul.formed, c1, c2, c3, c4, c5, c6]; rfl, e1⟩
  have s6 : binV .eql (.s b.body) (.s []) = some (.b true) := by rw [bin_seq, c6]
  cases c7 : decide (b.salt = 0)
  · simp only [go_sem, ↓reduceIte, r31_1, r31_3, r31_4, bl0 g, bl1 g, bl2 g, bl3 g, bl4 g, bl5 g, bl6 g, hk, c1, c2, c3, c4, c5, s6, c7]
    exact ⟨by simp only [Bul.formed, c1, c2, c3, c4, c5, c6, c7]; rfl, e1⟩
  · simp only [go_sem, ↓reduceIte, r31_1, r31_3, r31_4, bl0 g, bl1 g, bl2 g, bl3 g, bl4 g, bl5 g, bl6 g, hk, c1, c2, c3, c4, c5, s6, c7]
    exact ⟨by simp only [Bul.formed, c1, c2, c3, c4, c5, c6, c7]; rfl, e1⟩
end Go.Air
set_option maxRecDepth 100000
namespace Go.Air
open Go.Air.Try
theorem fn_wellformed {h : H} (ht : Tb4 h) {b : Bul} (hb : b.Ok) : WC tb1 (.fn 32 [] []) [.agg b.cells] h fun u h' => u = .b b.formed ∧ Ext h h' := by
  refine (WC_in t126).2 ?_
  have hc : (V.agg b.cells).cells = b.cells := rfl
  have e1 : Ext h (h.new (.cells b.cells)) := (Ext.refl h).new _
  have g : (h.new (.cells b.cells)).get h.next = some (.cells b.cells) := get_new_eq rfl
  have hk := conv_kind hb.kind
  simp only [go_sem, ↓reduceIte, r32_0, hc]
  cases c1 : btw b.n 0 1999
  · simp only [go_sem, ↓reduceIte, r32_1, r32_2, r32_3, bl0 g, bl1 g, bl2 g, bl3 g, hk, c1]
    refine ⟨by simp [Bul.formed, c1], e1⟩
  cases c2 : btw b.at' 0 100000
  · simp only [go_sem, ↓reduceIte, r32_1, r32_2, r32_3, bl0 g, bl1 g, bl2 g, bl3 g, hk, c1, c2]
    refine ⟨by simp [Bul.formed, c2], e1⟩
  cases c3 : btw b.by' 0 7
  · simp only [go_sem, ↓reduceIte, r32_1, r32_2, r32_3, bl0 g, bl1 g, bl2 g, bl3 g, hk, c1, c2, c3]
    refine ⟨by simp [Bul.formed, c3], e1⟩
  cases c4 : btw b.kind 1 7
  · simp only [go_sem, ↓reduceIte, r32_1, r32_2, r32_3, bl0 g, bl1 g, bl2 g, bl3 g, hk, c1, c2, c3, c4]
    refine ⟨by simp [Bul.formed, c4], e1⟩
  cases c5 : b.hid
  · simp only [go_sem, ↓reduceIte, r32_1, r32_2, r32_4, bl0 g, bl1 g, bl2 g, bl3 g, bl4 g, hk, c1, c2, c3, c4, c5]
    refine WL_gen (fun t => t.length = 56 ∧ nth t 1 = .p h.next 0) (by simp only [go_sem, ↓reduceIte]) ?_
    rintro t ⟨tl, t1⟩
    cases c7 : btw b.salt 0 9007199254740992
    · simp only [go_sem, ↓reduceIte, r32_6, r32_7, tl, t1, bl5 g, bl6 g, c7, old_bare, List.cons_append, List.nil_append]
      exact ⟨rfl, by simp only [Bul.formed, c1, c2, c3, c4, c5, c7, Bool.and_false]; rfl, e1⟩
    cases c6 : decide ((b.body.length : Int) ≤ 7000)
    · simp only [go_sem, ↓reduceIte, r32_6, r32_7, tl, t1, bl5 g, bl6 g, c6, c7, old_bare, List.cons_append, List.nil_append]
      exact ⟨rfl, by simp only [Bul.formed, c1, c2, c3, c4, c5, c6]; rfl, e1⟩
    simp only [go_sem, ↓reduceIte, r32_6, r32_7, tl, t1, bl5 g, bl6 g, bl7 g hb, c6, c7, old_bare, List.cons_append, List.nil_append]
    have c6' := of_decide_eq_true c6
    refine (fn_rseal (ht.ext e1).bare hb.salt hb.body (by omega)).mono ?_
    rintro u h' ⟨rfl, e⟩
    have hq : eqV (.agg (List.replicate 32 (.i .u8))) (.agg (b.dig.map u8)) (.agg ((sealOf b.salt b.body).map u8)) = some (decide (b.dig = sealOf b.salt b.body)) := eq_u8s hb.dig (sum_len _)
    have ho := e.old
    simp only [go_sem, ↓reduceIte, tl, ho, hq, List.cons_append, List.nil_append]
    exact ⟨rfl, by simp only [Bul.formed, c1, c2, c3, c4, c5, c6, c7]; rfl, e1.trans e.back⟩
  cases c6 : decide (b.body = [])
  · have s6 : binV .eql (.s b.body) (.s []) = some (.b false) := by rw [bin_seq, c6]
    simp only [go_sem, ↓reduceIte, r32_1, r32_2, r32_4, r32_5, bl0 g, bl1 g, bl2 g, bl3 g, bl4 g, bl5 g, bl6 g, hk, c1, c2, c3, c4, c5, s6]
    exact ⟨by simp only [Bul.formed, c1, c2, c3, c4, c5, c6]; rfl, e1⟩
  have s6 : binV .eql (.s b.body) (.s []) = some (.b true) := by rw [bin_seq, c6]
  cases c7 : decide (b.salt = 0)
  · simp only [go_sem, ↓reduceIte, r32_1, r32_2, r32_4, r32_5, bl0 g, bl1 g, bl2 g, bl3 g, bl4 g, bl5 g, bl6 g, hk, c1, c2, c3, c4, c5, s6, c7]
    exact ⟨by simp only [Bul.formed, c1, c2, c3, c4, c5, c6, c7]; rfl, e1⟩
  · simp only [go_sem, ↓reduceIte, r32_1, r32_2, r32_4, r32_5, bl0 g, bl1 g, bl2 g, bl3 g, bl4 g, bl5 g, bl6 g, hk, c1, c2, c3, c4, c5, s6, c7]
    exact ⟨by simp only [Bul.formed, c1, c2, c3, c4, c5, c6, c7]; rfl, e1⟩
end Go.Air
set_option maxRecDepth 100000
namespace Go.Air
open Go.Air.Try
def digT (b : Bul) : List Nat := [98, 32] ++ numText [b.n, b.at', b.by', (b.kind : Int)] ++ [10] ++ b.dig ++ b.prev
theorem numText_len (xs : List Int) : (numText xs).length ≤ xs.length * 22 := by
  have := joinL_len [32] (xs.map itoa) 21 (fun x hx => by obtain ⟨n, _, rfl⟩ := List.mem_map.1 hx; exact itoa_len n)
  simpa [numText] using this
theorem joinL_lt : ∀ (l : List (List Nat)), (∀ x ∈ l, ∀ c ∈ x, c < 256) → ∀ c ∈ joinL [32] l, c < 256
  | [], _ => by simp [joinL]
  | [x], h => h x (by simp)
  | x :: y :: l, h => by
    have ih := joinL_lt (y :: l) fun z hz => h z (List.mem_cons_of_mem _ hz)
    intro c hc
    have hc : c ∈ x ++ [32] ++ joinL [32] (y :: l) := hc
    simp only [List.mem_append, List.mem_cons, List.not_mem_nil, or_false] at hc
    rcases hc with (hc | rfl) | hc
    · exact h x (by simp) c hc
    · omega
    · exact ih c hc
theorem numText_lt (xs : List Int) : ∀ c ∈ numText xs, c < 256 := joinL_lt _ fun x hx => by
  obtain ⟨n, _, rfl⟩ := List.mem_map.1 hx
  exact itoa_lt n
theorem digT_lt {b : Bul} (hb : b.Ok) : ∀ c ∈ digT b, c < 256 := by
  unfold digT
  intro c hc
  simp only [List.mem_append, List.mem_cons, List.not_mem_nil, or_false] at hc
  rcases hc with ((((rfl | rfl) | hc) | rfl) | hc) | hc
  · omega
  · omega
  · exact numText_lt _ c hc
  · omega
  · exact hb.digB c hc
  · exact hb.prevB c hc
theorem digT_len {b : Bul} (hb : b.Ok) : (digT b).length ≤ 1000 := by
  have := numText_len [b.n, b.at', b.by', (b.kind : Int)]
  simp [digT, hb.dig, hb.prev] at this ⊢; omega
structure MB (h hh : H) (u : V) (m : List Nat) : Prop where
  ext : Ext h hh
  own : Own h 1 hh u m.length (m.map u8)
theorem MB.app {h hh : H} {u v : V} {m l : List Nat} (q : MB h hh u m) (hs : Sl 1 hh v l.length (l.map u8)) (hn : m.length + l.length ≤ 1000000) :
    ∃ u' h', appendV 1 1 hh u v = .ok u' h' ∧ MB h h' u' (m ++ l) := by
  obtain ⟨v', h', q1, q2, q3, _⟩ := q.own.app (bytes := 1) q.ext hs (u8s_one l) (by omega) (by omega) (by omega)
  exact ⟨v', h', q1, q2, by simpa using q3⟩
theorem MB.lit {h hh : H} (e : Ext h hh) (m : List Nat) : MB h (hh.new (.cells (m.map fun c : Nat => V.i .u8 (c : Int)))) (.sl hh.next 0 m.length m.length (some 1)) m :=
  ⟨e.new _, by simp, .inr ⟨hh.next, some 1, rfl, .inr rfl, e.nx, by simp, get_new_eq rfl⟩⟩
theorem slcA32 {t : List V} {k o : Nat} : slcAV t 32 1 (.p k o) none none = some (.sl k o 32 32 none) := rfl
theorem MB.sl {h hh : H} {u : V} {m : List Nat} (q : MB h hh u m) : Sl 1 hh u m.length (m.map u8) := q.own.sl
theorem fill4 (t : List V) (x0 x1 x2 x3 : X) (a b c d : Int) (h0 : x0.ev t = .i .i64 a) (h1 : x1.ev t = .i .i64 b) (h2 : x2.ev t = .i .i64 c) (h3 : x3.ev t = .i .i64 d) :
    fill t [.i .i64 0, .i .i64 0, .i .i64 0, .i .i64 0] [(0, 1, x0), (1, 1, x1), (2, 1, x2), (3, 1, x3)] = some [.i .i64 a, .i .i64 b, .i .i64 c, .i .i64 d] := by
  have e1 : ∀ n, Nat.beq (List.length [n]) 1 = true := fun _ : V => rfl
  have ec : ∀ n : Int, (V.i .i64 n).cells = [V.i .i64 n] := fun _ => rfl
  simp only [fill, h0, h1, h2, h3, ec, e1, if_true, lay, Option.map_some]
theorem t82 : tb1 28 = some a28 := by kernel_rfl
theorem fn_digest {h : H} (ht : Tb4 h) {b : Bul} (hb : b.Ok) : WC tb1 (.fn 28 [] []) [.agg b.cells] h fun u h' => u = .agg ((Sha.sum (digT b)).map u8) ∧ Ext h h' := by
  refine (WC_in t82).2 ?_
  have hc : (V.agg b.cells).cells = b.cells := rfl
  have e1 : Ext h ((h.new (.cells b.cells)).new (.cells (List.replicate 32 (V.i .u8 0)))) := ((Ext.refl h).new _).new _
  have g : ((h.new (.cells b.cells)).new (.cells (List.replicate 32 (V.i .u8 0)))).get h.next = some (.cells b.cells) := by rw [get_new_lt (by simp), get_new_eq rfl]
  have hk := conv_kind hb.kind
  simp only [go_sem, ↓reduceIte, r28_0, r28_1, hc, bl0 g, bl1 g, bl2 g, bl3 g, hk]
  rw [fill4 _ _ _ _ _ b.n b.at' b.by' (b.kind : Int) (by simp only [go_sem, ↓reduceIte]) (by simp only [go_sem, ↓reduceIte]) (by simp only [go_sem, ↓reduceIte]) (by simp only [go_sem, ↓reduceIte])]
  simp only [go_sem, ↓reduceIte]
  have g2 : ((h.new (.cells b.cells)).new (.cells (List.replicate 32 (V.i .u8 0)))).get (h.next + 1) = some (.cells (List.replicate 32 (V.i .u8 0))) := get_new_eq (by simp)
  have n1 : ((h.new (.cells b.cells)).new (.cells (List.replicate 32 (V.i .u8 0)))).next = h.next + 2 := by simp
  rw [show (h.new (.cells b.cells)).next = h.next + 1 from rfl]
  generalize (h.new (.cells b.cells)).new (.cells (List.replicate 32 (V.i .u8 0))) = h1 at e1 g g2 n1
  have eA : Ext h1 (h1.new (.cells [.i .i64 b.n, .i .i64 b.at', .i .i64 b.by', .i .i64 (b.kind : Int)])) := (Ext.refl h1).new _
  have hkI : I64 (b.kind : Int) := by have := hb.kind; unfold I64; omega
  refine (fn_numbers (xs := [b.n, b.at', b.by', (b.kind : Int)]) ((ht.ext e1).ext eA) (Own.lit (esz := 1) (Ext.refl h1) [.i .i64 b.n, .i .i64 b.at', .i .i64 b.by', .i .i64 (b.kind : Int)] 4 rfl).1.sl (by
    intro x hx
    simp only [List.mem_cons, List.not_mem_nil, or_false] at hx
    rcases hx with rfl | rfl | rfl | rfl
    · exact hb.n
    · exact hb.at'
    · exact hb.by'
    · exact hkI) (by simp)).mono ?_
  rintro u h2 ⟨rfl, e2⟩
  have hnl := numText_len [b.n, b.at', b.by', (b.kind : Int)]
  have hdl : digT b = [98, 32] ++ numText [b.n, b.at', b.by', (b.kind : Int)] ++ [10] ++ b.dig ++ b.prev := rfl
  generalize numText [b.n, b.at', b.by', (b.kind : Int)] = nt at hnl hdl
  simp only [List.length_cons, List.length_nil] at hnl
  have b1 : binV .add (.s [98, 32]) (.s nt) = some (.s ([98, 32] ++ nt)) := bin_sadd (by simp; omega)
  have b2 : binV .add (.s ([98, 32] ++ nt)) (.s [10]) = some (.s ([98, 32] ++ nt ++ [10])) := bin_sadd (by simp; omega)
  have q3 := MB.lit (eA.trans e2) ([98, 32] ++ nt ++ [10])
  simp only [go_sem, ↓reduceIte, b1, b2]
  generalize hm : [98, 32] ++ nt ++ [10] = m at q3 hdl
  have hml : m.length ≤ 200 := by subst hm; simp; omega
  generalize h2.new (.cells (m.map fun c : Nat => V.i .u8 (c : Int))) = h3 at q3
  have hlt1 : h.next < h1.next := by omega
  obtain ⟨u4, h4, a4, q4⟩ := q3.app (l := b.dig) (by rw [hb.dig]; exact bls7 ((q3.ext.same _ hlt1).trans g) hb (Nat.lt_of_lt_of_le hlt1 q3.ext.nx)) (by rw [hb.dig]; omega)
  obtain ⟨u5, h5, a5, q5⟩ := q4.app (l := b.prev) (by rw [hb.prev]; exact bls39 ((q4.ext.same _ hlt1).trans g) hb (Nat.lt_of_lt_of_le hlt1 q4.ext.nx)) (by rw [hb.prev, List.length_append, hb.dig]; omega)
  have hby := bytes_of (h := h5) (v := u5) (bs := digT b) (by rw [hdl]; exact q5.sl) (digT_lt hb) (by have := digT_len hb; omega)
  have g5 : h5.get (h.next + 1) = some (.cells (List.replicate 32 (V.i .u8 0))) := (q5.ext.same _ (by omega)).trans g2
  have hst := blk_stn (k := 32) (d := (Sha.sum (digT b)).map u8) g5 rfl rfl (u8s_one _)
  simp only [go_sem, ↓reduceIte, r28_2, r28_3, slcA32, a4, a5, fn1_sum hby, sumV, hst, Nat.zero_add]
  rw [res_cell (n := 2) (k := 32) (b := h.next + 1) (cs := (Sha.sum (digT b)).map u8) (by simp only [go_sem, ↓reduceIte]) get_put_eq rfl]
  exact ⟨rfl, (e1.trans q5.ext).put (by omega) _⟩
def digV (b : Bul) : List Nat := if b.formed then Sha.sum (digT b) else List.replicate 32 0
theorem digV_len (b : Bul) : (digV b).length = 32 := by unfold digV; split <;> rfl
theorem zero_u8 (n : Nat) : (List.replicate n (V.i .u8 0)) = (List.replicate n 0).map u8 := by rw [List.map_replicate]; rfl
theorem fill_none (t : List V) (z : List V) : fill t z [] = some z := rfl
theorem t56 : tb1 16 = some a16 := by kernel_rfl
theorem fn_Digest {h : H} (ht : Tb4 h) {b : Bul} (hb : b.Ok) : WC tb1 (.fn 16 [] []) [.agg b.cells] h fun u h' => u = .agg ((digV b).map u8) ∧ Ext h h' := by
  refine (WC_in t56).2 ?_
  have hc : (V.agg b.cells).cells = b.cells := rfl
  have e1 : Ext h ((h.new (.cells b.cells)).new (.cells (List.replicate 32 (V.i .u8 0)))) := ((Ext.refl h).new _).new _
  have g : ((h.new (.cells b.cells)).new (.cells (List.replicate 32 (V.i .u8 0)))).get h.next = some (.cells b.cells) := by rw [get_new_lt (by simp), get_new_eq rfl]
  have g2 : ((h.new (.cells b.cells)).new (.cells (List.replicate 32 (V.i .u8 0)))).get (h.next + 1) = some (.cells (List.replicate 32 (V.i .u8 0))) := get_new_eq (by simp)
  have n1 : ((h.new (.cells b.cells)).new (.cells (List.replicate 32 (V.i .u8 0)))).next = h.next + 2 := by simp
  simp only [go_sem, ↓reduceIte, r16_0, r16_1, hc, bl71 g hb]
  rw [show (h.new (.cells b.cells)).next = h.next + 1 from rfl]
  generalize (h.new (.cells b.cells)).new (.cells (List.replicate 32 (V.i .u8 0))) = h1 at e1 g g2 n1
  refine (fn_formed (ht.ext e1) hb).mono ?_
  rintro u h2 ⟨rfl, e2⟩
  have g' : h2.get h.next = some (.cells b.cells) := e2.get (by omega) g
  have g2' : h2.get (h.next + 1) = some (.cells (List.replicate 32 (V.i .u8 0))) := e2.get (by omega) g2
  have e12 := e1.trans e2
  have hst : ∀ l : List Nat, l.length = 32 → stV h2 32 (.p (h.next + 1) 0) (.agg (l.map u8)) = some (h2.put (h.next + 1) (.cells (l.map u8))) := fun l hl => blk_stn g2' rfl (by simpa using hl) (u8s_one _)
  cases hf : b.formed
  · have hs := hst (List.replicate 32 0) rfl
    rw [← zero_u8] at hs
    simp only [go_sem, ↓reduceIte, r16_2, fill_none, hs]
    rw [res_cell (n := 2) (k := 32) (b := h.next + 1) (cs := List.replicate 32 (V.i .u8 0)) (by simp only [go_sem, ↓reduceIte]) get_put_eq rfl]
    exact ⟨by simp only [digV, hf, Bool.false_eq_true, if_false]; rw [← zero_u8]; rfl, e12.put (by omega) _⟩
  · simp only [go_sem, ↓reduceIte, r16_3, bl71 g' hb]
    refine (fn_digest (ht.ext e12) hb).mono ?_
    rintro u h3 ⟨rfl, e3⟩
    have g3 : h3.get (h.next + 1) = some (.cells (List.replicate 32 (V.i .u8 0))) := e3.get (by have := e2.nx; omega) g2'
    have hs := blk_stn (k := 32) (d := (Sha.sum (digT b)).map u8) g3 rfl rfl (u8s_one _)
    simp only [go_sem, ↓reduceIte, hs]
    rw [res_cell (n := 2) (k := 32) (b := h.next + 1) (cs := (Sha.sum (digT b)).map u8) (by simp only [go_sem, ↓reduceIte]) get_put_eq rfl]
    exact ⟨by simp only [digV, hf, if_true]; rfl, (e12.trans e3).put (by omega) _⟩
theorem digT_ref (b : Bul) : digT b = [98] ++ (32 :: itoa b.n) ++ (32 :: itoa b.at') ++ (32 :: itoa b.by') ++ (32 :: itoa (b.kind : Int)) ++ [10] ++ b.dig ++ b.prev := by
  simp [digT, numText, joinL]
theorem t57 : tb1 17 = some a17 := by kernel_rfl
theorem fn_rDigest {h : H} (ht : Tb4 h) {b : Bul} (hb : b.Ok) : WC tb1 (.fn 17 [] []) [.agg b.cells] h fun u h' => u = .agg ((digV b).map u8) ∧ Ext h h' := by
  refine (WC_in t57).2 ?_
  have hc : (V.agg b.cells).cells = b.cells := rfl
  have e1 : Ext h ((h.new (.cells b.cells)).new (.cells (List.replicate 32 (V.i .u8 0)))) := ((Ext.refl h).new _).new _
  have g : ((h.new (.cells b.cells)).new (.cells (List.replicate 32 (V.i .u8 0)))).get h.next = some (.cells b.cells) := by rw [get_new_lt (by simp), get_new_eq rfl]
  have g2 : ((h.new (.cells b.cells)).new (.cells (List.replicate 32 (V.i .u8 0)))).get (h.next + 1) = some (.cells (List.replicate 32 (V.i .u8 0))) := get_new_eq (by simp)
  have n1 : ((h.new (.cells b.cells)).new (.cells (List.replicate 32 (V.i .u8 0)))).next = h.next + 2 := by simp
  simp only [go_sem, ↓reduceIte, r17_0, r17_1, hc, bl71 g hb]
  rw [show (h.new (.cells b.cells)).next = h.next + 1 from rfl]
  generalize (h.new (.cells b.cells)).new (.cells (List.replicate 32 (V.i .u8 0))) = h1 at e1 g g2 n1
  refine (fn_wellformed (ht.ext e1) hb).mono ?_
  rintro u h2 ⟨rfl, e2⟩
  have g' : h2.get h.next = some (.cells b.cells) := e2.get (by omega) g
  have g2' : h2.get (h.next + 1) = some (.cells (List.replicate 32 (V.i .u8 0))) := e2.get (by omega) g2
  have e12 := e1.trans e2
  cases hf : b.formed
  · have hs := blk_stn (k := 32) (d := (List.replicate 32 0).map u8) g2' rfl rfl (u8s_one _)
    rw [← zero_u8] at hs
    simp only [go_sem, ↓reduceIte, r17_2, r17_3, fill_none, hs]
    rw [res_cell (n := 2) (k := 32) (b := h.next + 1) (cs := List.replicate 32 (V.i .u8 0)) (by simp only [go_sem, ↓reduceIte]) get_put_eq rfl]
    exact ⟨by simp only [digV, hf, Bool.false_eq_true, if_false]; rw [← zero_u8]; rfl, e12.put (by omega) _⟩
  have hkI : I64 (b.kind : Int) := by have := hb.kind; unfold I64; omega
  have hk := conv_kind hb.kind
  have ht2 := (ht.ext e12).bare
  have hdl := digT_ref b
  have l0 := itoa_len b.n
  have l1 := itoa_len b.at'
  have l2 := itoa_len b.by'
  have l3 := itoa_len (b.kind : Int)
  have b1 : binV .add (.s [98]) (.s (32 :: itoa b.n)) = some (.s ([98] ++ (32 :: itoa b.n))) := bin_sadd (by simp; omega)
  have b2 : binV .add (.s ([98] ++ (32 :: itoa b.n))) (.s (32 :: itoa b.at')) = some (.s ([98] ++ (32 :: itoa b.n) ++ (32 :: itoa b.at'))) := bin_sadd (by simp; omega)
  have b3 : binV .add (.s ([98] ++ (32 :: itoa b.n) ++ (32 :: itoa b.at'))) (.s (32 :: itoa b.by')) = some (.s ([98] ++ (32 :: itoa b.n) ++ (32 :: itoa b.at') ++ (32 :: itoa b.by'))) := bin_sadd (by simp; omega)
  have b4 : binV .add (.s ([98] ++ (32 :: itoa b.n) ++ (32 :: itoa b.at') ++ (32 :: itoa b.by'))) (.s (32 :: itoa (b.kind : Int))) = some (.s ([98] ++ (32 :: itoa b.n) ++ (32 :: itoa b.at') ++ (32 :: itoa b.by') ++ (32 :: itoa (b.kind : Int)))) := bin_sadd (by simp; omega)
  have b5 : binV .add (.s ([98] ++ (32 :: itoa b.n) ++ (32 :: itoa b.at') ++ (32 :: itoa b.by') ++ (32 :: itoa (b.kind : Int)))) (.s [10]) = some (.s ([98] ++ (32 :: itoa b.n) ++ (32 :: itoa b.at') ++ (32 :: itoa b.by') ++ (32 :: itoa (b.kind : Int)) ++ [10])) := bin_sadd (by simp; omega)
  have hlast : ([98] ++ (32 :: itoa b.n) ++ (32 :: itoa b.at') ++ (32 :: itoa b.by') ++ (32 :: itoa (b.kind : Int)) ++ [10]).length ≤ 200 := by simp; omega
  generalize [98] ++ (32 :: itoa b.n) = m1 at b1 b2 b3 b4 b5 hdl hlast
  generalize m1 ++ (32 :: itoa b.at') = m2 at b2 b3 b4 b5 hdl hlast
  generalize m2 ++ (32 :: itoa b.by') = m3 at b3 b4 b5 hdl hlast
  generalize m3 ++ (32 :: itoa (b.kind : Int)) = m4 at b4 b5 hdl hlast
  generalize m4 ++ [10] = m at b5 hdl hlast
  simp only [go_sem, ↓reduceIte, r17_2]
  refine WD_gen (fun t => t.length = 38 ∧ nth t 1 = .p h.next 0 ∧ nth t 2 = .p (h.next + 1) 0) (by simp only [go_sem, ↓reduceIte]) ?_
  rintro t ⟨tl, t1, t2⟩
  simp only [go_sem, ↓reduceIte, r17_4, tl, t1, bl0 g', bl1 g', bl2 g', bl3 g', hk, fn_num ht2 hb.n, fn_num ht2 hb.at', fn_num ht2 hb.by', fn_num ht2 hkI, b1, b2, b3, b4, b5, old_bare, H.back_bare, H.back_new, List.cons_append, List.nil_append]
  refine ⟨rfl, ?_⟩
  have q3 := MB.lit e2 m
  generalize h2.new (.cells (m.map fun c : Nat => V.i .u8 (c : Int))) = h3 at q3
  have hlt1 : h.next < h1.next := by omega
  obtain ⟨u4, h4, a4, q4⟩ := q3.app (l := b.dig) (by rw [hb.dig]; exact bls7 ((q3.ext.same _ hlt1).trans g) hb (Nat.lt_of_lt_of_le hlt1 q3.ext.nx)) (by rw [hb.dig]; omega)
  obtain ⟨u5, h5, a5, q5⟩ := q4.app (l := b.prev) (by rw [hb.prev]; exact bls39 ((q4.ext.same _ hlt1).trans g) hb (Nat.lt_of_lt_of_le hlt1 q4.ext.nx)) (by rw [hb.prev, List.length_append, hb.dig]; omega)
  have hby := bytes_of (h := h5) (v := u5) (bs := digT b) (by rw [hdl]; exact q5.sl) (digT_lt hb) (by have := digT_len hb; omega)
  have g5 : h5.get (h.next + 1) = some (.cells (List.replicate 32 (V.i .u8 0))) := (q5.ext.same _ (by omega)).trans g2
  have hst := blk_stn (k := 32) (d := (Sha.sum (digT b)).map u8) g5 rfl rfl (u8s_one _)
  simp only [go_sem, ↓reduceIte, tl, t1, t2, r17_5, r17_6, slcA32, a4, a5, fn1_rsum hby, sumV, hst, Nat.zero_add]
  rw [res_cell (n := 2) (k := 32) (b := h.next + 1) (cs := (Sha.sum (digT b)).map u8) (by simp only [go_sem, ↓reduceIte, t2]) get_put_eq rfl]
  exact ⟨by simp only [digV, hf, if_true]; rfl, (e1.trans q5.ext).put (by omega) _⟩
end Go.Air
set_option maxRecDepth 100000
namespace Go.Air
open Go.Air.Try
def zeroB : Bul := ⟨0, 0, 0, 0, false, [], 0, List.replicate 32 0, List.replicate 32 0⟩
theorem zero_ok : zeroB.Ok := ⟨by unfold I64; decide, by unfold I64; decide, by unfold I64; decide, by decide, by unfold I64; decide, by simp [zeroB], by simp [zeroB], rfl, rfl, fun c hc => by simp [zeroB] at hc; omega, fun c hc => by simp [zeroB] at hc; omega⟩
def zc : List V := [.i .i64 0, .i .i64 0, .i .i64 0] ++ [.i .u8 0] ++ [.b false] ++ [.s []] ++ [.i .i64 0] ++ List.replicate 64 (.i .u8 0)
theorem zc_eq : zc = zeroB.cells := rfl
def hideB (b : Bul) : Bul := { b with hid := true, body := [], salt := 0 }
def hideV (b : Bul) : Bul := if b.formed then hideB b else zeroB
theorem hide_ok {b : Bul} (h : b.Ok) : (hideB b).Ok := ⟨h.n, h.at', h.by', h.kind, zero_ok.salt, by simp [hideB], by simp [hideB], h.dig, h.prev, h.digB, h.prevB⟩
theorem hideV_ok {b : Bul} (h : b.Ok) : (hideV b).Ok := by unfold hideV; split; exact hide_ok h; exact zero_ok
theorem hide_formed {b : Bul} (h : b.formed = true) : (hideB b).formed = true := by
  simp only [Bul.formed, Bool.and_eq_true] at h ⊢
  exact ⟨h.1, by simp [hideB]⟩
theorem hide_dig {b : Bul} (h : b.formed = true) : digV (hideB b) = digV b := by
  unfold digV
  rw [hide_formed h, h]
  rfl
section
variable {h : H} {k : Nat} {b : Bul} (q : h.get k = some (.cells b.cells)) (hb : b.Ok)
include q hb
theorem bst4 {x : Bool} : stV h 1 (.p k 4) (.b x) = some (h.put k (.cells { b with hid := x }.cells)) := blk_st q (by rw [cells_len hb]; omega) rfl rfl
theorem bst5 {x : List Nat} : stV h 1 (.p k 5) (.s x) = some (h.put k (.cells { b with body := x }.cells)) := blk_st q (by rw [cells_len hb]; omega) rfl rfl
theorem bst6 {x : Int} : stV h 1 (.p k 6) (.i .i64 x) = some (h.put k (.cells { b with salt := x }.cells)) := blk_st q (by rw [cells_len hb]; omega) rfl rfl
end
theorem res_cell_tmp {h : H} {t : List V} {n b k m : Nat} {cs : List V} (hn : nth t n = .p b 0) (hg : h.get b = some (.cells cs)) (hk : cs.length = k) : resultsOf t h [.cell n (some k), .tmp m] = some [.agg cs, nth t m] := by
  have : cut cs 0 k = some cs := cut_eq.2 ⟨by omega, by simp [← hk]⟩
  simp only [resultsOf, resultOf, hn, hg, this, Option.map_some]
def hideR (b : Bul) : V := .tup [.agg (hideV b).cells, .i .i64 (if b.formed then 0 else 1)]
theorem t54 : tb1 14 = some a14 := by kernel_rfl
theorem t55 : tb1 15 = some a15 := by kernel_rfl
theorem fn_Hide {h : H} (ht : Tb4 h) {b : Bul} (hb : b.Ok) : WC tb1 (.fn 14 [] []) [.agg b.cells] h fun u h' => u = hideR b ∧ Ext h h' := by
  refine (WC_in t54).2 ?_
  have hc : (V.agg b.cells).cells = b.cells := rfl
  have e1 : Ext h ((h.new (.cells b.cells)).new (.cells zc)) := ((Ext.refl h).new _).new _
  have g : ((h.new (.cells b.cells)).new (.cells zc)).get h.next = some (.cells b.cells) := by rw [get_new_lt (by simp), get_new_eq rfl]
  have g2 : ((h.new (.cells b.cells)).new (.cells zc)).get (h.next + 1) = some (.cells zeroB.cells) := get_new_eq (by simp)
  have n1 : ((h.new (.cells b.cells)).new (.cells zc)).next = h.next + 2 := by simp
  have hz : [V.i .i64 0, .i .i64 0, .i .i64 0] ++ [.i .u8 0] ++ [.b false] ++ [.s []] ++ [.i .i64 0] ++ List.replicate 64 (.i .u8 0) = zc := rfl
  simp only [hz, go_sem, ↓reduceIte, r14_0, r14_1, hc, bl71 g hb]
  rw [show (h.new (.cells b.cells)).next = h.next + 1 from rfl]
  generalize (h.new (.cells b.cells)).new (.cells zc) = h1 at e1 g g2 n1
  refine (fn_formed (ht.ext e1) hb).mono ?_
  rintro u h2 ⟨rfl, e2⟩
  have g' : h2.get h.next = some (.cells b.cells) := e2.get (by omega) g
  have g2' : h2.get (h.next + 1) = some (.cells zeroB.cells) := e2.get (by omega) g2
  have e12 := e1.trans e2
  cases hf : b.formed
  · have hs := blk_stn (k := 71) (d := zc) g2' (cells_len zero_ok) (cells_len zero_ok) (cells_one zeroB)
    simp only [hz, go_sem, ↓reduceIte, r14_2, fill_none, hs]
    rw [res_cell_tmp (n := 2) (k := 71) (b := h.next + 1) (cs := zc) (by simp only [go_sem, ↓reduceIte]) get_put_eq rfl]
    refine ⟨?_, e12.put (by omega) _⟩
    simp only [go_sem, ↓reduceIte, hideR, hideV, hf, zc_eq]
  · have ok4 : ({ b with hid := true } : Bul).Ok := ⟨hb.n, hb.at', hb.by', hb.kind, hb.salt, hb.body, hb.len, hb.dig, hb.prev, hb.digB, hb.prevB⟩
    have ok5 : ({ b with hid := true, body := [] } : Bul).Ok := ⟨hb.n, hb.at', hb.by', hb.kind, hb.salt, by simp, by simp, hb.dig, hb.prev, hb.digB, hb.prevB⟩
    have s4 := bst4 g' hb (x := true)
    have g4 : (h2.put h.next (.cells ({ b with hid := true } : Bul).cells)).get h.next = some (.cells ({ b with hid := true } : Bul).cells) := get_put_eq
    have e4 := e12.put (Nat.le_refl h.next) (.cells ({ b with hid := true } : Bul).cells)
    have x4 : (h2.put h.next (.cells ({ b with hid := true } : Bul).cells)).get (h.next + 1) = some (.cells zeroB.cells) := (get_put_ne (by omega)).trans g2'
    generalize h2.put h.next (.cells ({ b with hid := true } : Bul).cells) = w4 at s4 g4 e4 x4
    have s5 := bst5 g4 ok4 (x := [])
    have g5 : (w4.put h.next (.cells ({ b with hid := true, body := [] } : Bul).cells)).get h.next = some (.cells ({ b with hid := true, body := [] } : Bul).cells) := get_put_eq
    have e5 := e4.put (Nat.le_refl h.next) (.cells ({ b with hid := true, body := [] } : Bul).cells)
    have x5 : (w4.put h.next (.cells ({ b with hid := true, body := [] } : Bul).cells)).get (h.next + 1) = some (.cells zeroB.cells) := (get_put_ne (by omega)).trans x4
    generalize w4.put h.next (.cells ({ b with hid := true, body := [] } : Bul).cells) = w5 at s5 g5 e5 x5
    have s6 := bst6 g5 ok5 (x := 0)
    have g6 : (w5.put h.next (.cells (hideB b).cells)).get h.next = some (.cells (hideB b).cells) := get_put_eq
    have e6 := e5.put (Nat.le_refl h.next) (.cells (hideB b).cells)
    have x6 : (w5.put h.next (.cells (hideB b).cells)).get (h.next + 1) = some (.cells zeroB.cells) := (get_put_ne (by omega)).trans x5
    have s6 : stV w5 1 (.p h.next 6) (.i .i64 0) = some (w5.put h.next (.cells (hideB b).cells)) := s6
    generalize w5.put h.next (.cells (hideB b).cells) = w6 at s6 g6 e6 x6
    have s7 := blk_stn (k := 71) (d := (hideB b).cells) x6 (cells_len zero_ok) (cells_len (hide_ok hb)) (cells_one _)
    simp only [go_sem, ↓reduceIte, r14_3, r14_4, s4, s5, s6, bl71 g6 (hide_ok hb), s7]
    rw [res_cell_tmp (n := 2) (k := 71) (b := h.next + 1) (cs := (hideB b).cells) (by simp only [go_sem, ↓reduceIte]) get_put_eq (cells_len (hide_ok hb))]
    refine ⟨?_, e6.put (by omega) _⟩
    simp only [go_sem, ↓reduceIte, hideR, hideV, hf]
theorem fn_rHide {h : H} (ht : Tb4 h) {b : Bul} (hb : b.Ok) : WC tb1 (.fn 15 [] []) [.agg b.cells] h fun u h' => u = hideR b ∧ Ext h h' := by
  refine (WC_in t55).2 ?_
  have hc : (V.agg b.cells).cells = b.cells := rfl
  have e1 : Ext h ((h.new (.cells b.cells)).new (.cells zc)) := ((Ext.refl h).new _).new _
  have g : ((h.new (.cells b.cells)).new (.cells zc)).get h.next = some (.cells b.cells) := by rw [get_new_lt (by simp), get_new_eq rfl]
  have g2 : ((h.new (.cells b.cells)).new (.cells zc)).get (h.next + 1) = some (.cells zeroB.cells) := get_new_eq (by simp)
  have n1 : ((h.new (.cells b.cells)).new (.cells zc)).next = h.next + 2 := by simp
  have hz : [V.i .i64 0, .i .i64 0, .i .i64 0] ++ [.i .u8 0] ++ [.b false] ++ [.s []] ++ [.i .i64 0] ++ List.replicate 64 (.i .u8 0) = zc := rfl
  simp only [hz, go_sem, ↓reduceIte, r15_0, r15_1, hc, bl71 g hb]
  rw [show (h.new (.cells b.cells)).next = h.next + 1 from rfl]
  generalize (h.new (.cells b.cells)).new (.cells zc) = h1 at e1 g g2 n1
  refine (fn_wellformed (ht.ext e1) hb).mono ?_
  rintro u h2 ⟨rfl, e2⟩
  have g' : h2.get h.next = some (.cells b.cells) := e2.get (by omega) g
  have g2' : h2.get (h.next + 1) = some (.cells zeroB.cells) := e2.get (by omega) g2
  have e12 := e1.trans e2
  cases hf : b.formed
  · have hs := blk_stn (k := 71) (d := zc) g2' (cells_len zero_ok) (cells_len zero_ok) (cells_one zeroB)
    simp only [hz, go_sem, ↓reduceIte, r15_2, r15_3, fill_none, hs]
    rw [res_cell_tmp (n := 2) (k := 71) (b := h.next + 1) (cs := zc) (by simp only [go_sem, ↓reduceIte]) get_put_eq rfl]
    refine ⟨?_, e12.put (by omega) _⟩
    simp only [go_sem, ↓reduceIte, hideR, hideV, hf, zc_eq]
  · have ok4 : ({ b with hid := true } : Bul).Ok := ⟨hb.n, hb.at', hb.by', hb.kind, hb.salt, hb.body, hb.len, hb.dig, hb.prev, hb.digB, hb.prevB⟩
    have ok5 : ({ b with hid := true, body := [] } : Bul).Ok := ⟨hb.n, hb.at', hb.by', hb.kind, hb.salt, by simp, by simp, hb.dig, hb.prev, hb.digB, hb.prevB⟩
    have s4 := bst4 g' hb (x := true)
    have g4 : (h2.put h.next (.cells ({ b with hid := true } : Bul).cells)).get h.next = some (.cells ({ b with hid := true } : Bul).cells) := get_put_eq
    have e4 := e12.put (Nat.le_refl h.next) (.cells ({ b with hid := true } : Bul).cells)
    have x4 : (h2.put h.next (.cells ({ b with hid := true } : Bul).cells)).get (h.next + 1) = some (.cells zeroB.cells) := (get_put_ne (by omega)).trans g2'
    generalize h2.put h.next (.cells ({ b with hid := true } : Bul).cells) = w4 at s4 g4 e4 x4
    have s5 := bst5 g4 ok4 (x := [])
    have g5 : (w4.put h.next (.cells ({ b with hid := true, body := [] } : Bul).cells)).get h.next = some (.cells ({ b with hid := true, body := [] } : Bul).cells) := get_put_eq
    have e5 := e4.put (Nat.le_refl h.next) (.cells ({ b with hid := true, body := [] } : Bul).cells)
    have x5 : (w4.put h.next (.cells ({ b with hid := true, body := [] } : Bul).cells)).get (h.next + 1) = some (.cells zeroB.cells) := (get_put_ne (by omega)).trans x4
    generalize w4.put h.next (.cells ({ b with hid := true, body := [] } : Bul).cells) = w5 at s5 g5 e5 x5
    have s6 := bst6 g5 ok5 (x := 0)
    have g6 : (w5.put h.next (.cells (hideB b).cells)).get h.next = some (.cells (hideB b).cells) := get_put_eq
    have e6 := e5.put (Nat.le_refl h.next) (.cells (hideB b).cells)
    have x6 : (w5.put h.next (.cells (hideB b).cells)).get (h.next + 1) = some (.cells zeroB.cells) := (get_put_ne (by omega)).trans x5
    have s6 : stV w5 1 (.p h.next 6) (.i .i64 0) = some (w5.put h.next (.cells (hideB b).cells)) := s6
    generalize w5.put h.next (.cells (hideB b).cells) = w6 at s6 g6 e6 x6
    have s7 := blk_stn (k := 71) (d := (hideB b).cells) x6 (cells_len zero_ok) (cells_len (hide_ok hb)) (cells_one _)
    simp only [go_sem, ↓reduceIte, r15_2, r15_4, r15_5, r15_6, r15_7, s4, s5, s6, bl71 g6 (hide_ok hb), s7]
    rw [res_cell_tmp (n := 2) (k := 71) (b := h.next + 1) (cs := (hideB b).cells) (by simp only [go_sem, ↓reduceIte]) get_put_eq (cells_len (hide_ok hb))]
    refine ⟨?_, e6.put (by omega) _⟩
    simp only [go_sem, ↓reduceIte, hideR, hideV, hf]
end Go.Air
set_option maxRecDepth 100000
namespace Go.Air
open Go.Air.Try
theorem fitL_app : ∀ {k1 k2 : List KT} {c1 c2 : List V}, fitL k1 c1 = true → fitL k2 c2 = true → fitL (k1 ++ k2) (c1 ++ c2) = true
  | [], k2, [], c2, _, h => h
  | [], _, _ :: _, _, h, _ => by cases h
  | _ :: _, _, [], _, h, _ => by cases h
  | k :: k1, k2, c :: c1, c2, h, h2 => by
    simp only [fitL, Bool.and_eq_true] at h
    show (k.fits c && fitL (k1 ++ k2) (c1 ++ c2)) = true
    rw [h.1, fitL_app h.2 h2]; rfl
theorem cellsEq_app : ∀ {a1 a2 c1 c2 : List V}, a1.length = c1.length → cellsEq (a1 ++ a2) (c1 ++ c2) = (cellsEq a1 c1 && cellsEq a2 c2)
  | [], _, [], _, _ => by simp [cellsEq]
  | [], _, _ :: _, _, h => by cases h
  | _ :: _, _, [], _, h => by cases h
  | x :: a1, a2, y :: c1, c2, h => by
    show (scalarEq x y && cellsEq (a1 ++ a2) (c1 ++ c2)) = (scalarEq x y && cellsEq a1 c1 && cellsEq a2 c2)
    rw [cellsEq_app (by simpa using h), Bool.and_assoc]
def ksB : List KT := [.i .i64, .i .i64, .i .i64, .i .u8, .b, .s, .i .i64, .i .u8, .i .u8, .i .u8, .i .u8, .i .u8, .i .u8, .i .u8, .i .u8, .i .u8, .i .u8, .i .u8, .i .u8, .i .u8, .i .u8, .i .u8, .i .u8, .i .u8, .i .u8, .i .u8, .i .u8, .i .u8, .i .u8, .i .u8, .i .u8, .i .u8, .i .u8, .i .u8, .i .u8, .i .u8, .i .u8, .i .u8, .i .u8, .i .u8, .i .u8, .i .u8, .i .u8, .i .u8, .i .u8, .i .u8, .i .u8, .i .u8, .i .u8, .i .u8, .i .u8, .i .u8, .i .u8, .i .u8, .i .u8, .i .u8, .i .u8, .i .u8, .i .u8, .i .u8, .i .u8, .i .u8, .i .u8, .i .u8, .i .u8, .i .u8, .i .u8, .i .u8, .i .u8, .i .u8, .i .u8]
theorem ksB_eq : ksB = [.i .i64, .i .i64, .i .i64, .i .u8, .b, .s, .i .i64] ++ (List.replicate 32 (.i .u8) ++ List.replicate 32 (.i .u8)) := rfl
theorem fit_bul {b : Bul} (hb : b.Ok) : fitL ksB b.cells = true := by
  rw [ksB_eq]
  unfold Bul.cells
  refine fitL_app rfl (fitL_app ?_ ?_)
  · rw [← hb.dig]; exact fit_u8 _
  · rw [← hb.prev]; exact fit_u8 _
theorem eq_bul {b c : Bul} (hb : b.Ok) (hc : c.Ok) : eqV (.agg ksB) (.agg b.cells) (.agg c.cells) = some (decide (b = c)) := by
  simp only [eqV, fit_bul hb, fit_bul hc, Bool.and_self, if_true]
  congr 1
  unfold Bul.cells
  rw [cellsEq_app (a1 := b.head) (c1 := c.head) rfl, cellsEq_app (by simp [hb.dig, hc.dig]), cellsEq_u8, cellsEq_u8]
  obtain ⟨n, a, y, k, hd, bo, sa, di, pr⟩ := b
  obtain ⟨n', a', y', k', hd', bo', sa', di', pr'⟩ := c
  have hs : bytesEq bo bo' = decide (bo = bo') := by rw [Bool.eq_iff_iff, bytesEq_iff]; simp
  simp only [Bul.head, cellsEq, scalarEq, hs, Bool.and_true, Bul.mk.injEq]
  rw [Bool.eq_iff_iff]
  simp only [Bool.and_eq_true, decide_eq_true_eq, beq_iff_eq, Int.natCast_inj]
  constructor
  · rintro ⟨⟨h1, h2, h3, h4, h5, h6, h7⟩, h8, h9⟩; exact ⟨h1, h2, h3, h4, h5, h6, h7, h8, h9⟩
  · rintro ⟨h1, h2, h3, h4, h5, h6, h7, h8, h9⟩; exact ⟨⟨h1, h2, h3, h4, h5, h6, h7⟩, h8, h9⟩
theorem l12 : tb1 5 = some a5 := by kernel_rfl
theorem law_digests {h : H} (ht : Tb4 h) {b : Bul} (hb : b.Ok) : WC tb1 (.fn 5 [] []) [.agg b.cells] h fun u h' => u = .b true ∧ Ext h h' := by
  refine (WC_in l12).2 ?_
  have hc : (V.agg b.cells).cells = b.cells := rfl
  have e1 : Ext h (h.new (.cells b.cells)) := (Ext.refl h).new _
  have g : (h.new (.cells b.cells)).get h.next = some (.cells b.cells) := get_new_eq rfl
  have n1 : (h.new (.cells b.cells)).next = h.next + 1 := rfl
  have hz : [V.i .i64 0, .i .i64 0, .i .i64 0] ++ [.i .u8 0] ++ [.b false] ++ [.s []] ++ [.i .i64 0] ++ List.replicate 64 (.i .u8 0) = zc := rfl
  simp only [go_sem, ↓reduceIte, r5_0, hc]
  generalize h.new (.cells b.cells) = h1 at e1 g n1
  by_cases hl : 8000 < b.body.length
  · have hI : (8000 : Int) < (b.body.length : Int) := by omega
    simp only [go_sem, ↓reduceIte, r5_1, r5_2, bl5 g, hI]
    exact e1
  have hI : ¬ (8000 : Int) < (b.body.length : Int) := by omega
  simp only [hz, go_sem, ↓reduceIte, r5_1, r5_3, bl5 g, hI, bl71 g hb]
  refine (fn_Hide (ht.ext e1) hb).mono ?_
  rintro u h2 ⟨rfl, e2⟩
  have o1 := hideV_ok hb
  have g2 : h2.get h.next = some (.cells b.cells) := e2.get (by omega) g
  have x2 : (h2.new (.cells zc)).get h2.next = some (.cells zeroB.cells) := get_new_eq rfl
  have s2 := blk_stn (k := 71) (d := (hideV b).cells) x2 (cells_len zero_ok) (cells_len o1) (cells_one _)
  have hE : hideR b = .tup [.agg (hideV b).cells, .i .i64 (if b.formed then 0 else 1)] := rfl
  simp only [hz, go_sem, ↓reduceIte, hE, s2]
  generalize he : (if b.formed = true then (0 : Int) else 1) = eb at hE
  have e12 := e1.trans e2
  have n2 : h.next < h2.next := by have := e2.nx; omega
  refine WL_genH (fun t hh => t.length = 49 ∧ nth t 1 = .p h.next 0 ∧ nth t 3 = .p h2.next 0 ∧ nth t 4 = .i .i64 eb ∧ Ext h hh ∧ hh.get h.next = some (.cells b.cells) ∧ hh.get h2.next = some (.cells (hideV b).cells) ∧ h2.next < hh.next) ?_ ?_
  · refine ⟨?_, ?_, ?_, ?_, (e12.new _).put (by omega) _, (get_put_ne (by omega)).trans ((get_new_lt n2).trans g2), get_put_eq, by simp⟩ <;> simp only [go_sem, ↓reduceIte]
  rintro t h3 ⟨tl, t1, t3, t4, e3, g3, x3, n3⟩
  simp only [hz, go_sem, ↓reduceIte, r5_4, tl, t1, bl71 g3 hb]
  refine (fn_rHide (ht.ext e3) hb).mono ?_
  rintro u h4 ⟨rfl, e4⟩
  have e34 := e3.trans e4
  have g4 : h4.get h.next = some (.cells b.cells) := e4.get (by omega) g3
  have x4 : h4.get h2.next = some (.cells (hideV b).cells) := e4.get n3 x3
  have n4 : h2.next < h4.next := Nat.lt_of_lt_of_le n3 e4.nx
  have y4 : (h4.new (.cells zc)).get h4.next = some (.cells zeroB.cells) := get_new_eq rfl
  have s4 := blk_stn (k := 71) (d := (hideV b).cells) y4 (cells_len zero_ok) (cells_len o1) (cells_one _)
  simp only [hz, go_sem, ↓reduceIte, tl, hE, s4]
  refine WD_genH (fun t hh => t.length = 49 ∧ nth t 1 = .p h.next 0 ∧ nth t 3 = .p h2.next 0 ∧ nth t 4 = .i .i64 eb ∧ nth t 5 = .p h4.next 0 ∧ nth t 6 = .i .i64 eb ∧ Ext h hh ∧ hh.get h.next = some (.cells b.cells) ∧ hh.get h2.next = some (.cells (hideV b).cells) ∧ hh.get h4.next = some (.cells (hideV b).cells) ∧ h4.next < hh.next) ?_ ?_
  · refine ⟨?_, ?_, ?_, ?_, ?_, ?_, (e34.new _).put (by omega) _, (get_put_ne (by omega)).trans ((get_new_lt (by omega)).trans g4), (get_put_ne (by omega)).trans ((get_new_lt n4).trans x4), get_put_eq, by simp⟩ <;> simp only [go_sem, ↓reduceIte, tl, t1, t3, t4]
  clear g2 x2 s2 g3 x3 g4 x4 y4 s4
  rintro t h5 ⟨tl, t1, t3, t4, t5, t6, e5, g5, x5, y5, n5⟩
  have hq : eqV (.agg ksB) (.agg (hideV b).cells) (.agg (hideV b).cells) = some true := by rw [eq_bul o1 o1]; simp
  unfold ksB at hq
  have hne : binV .neq (.i .i64 eb) (.i .i64 eb) = some (.b false) := by simp [binV, binI]
  simp only [go_sem, ↓reduceIte, r5_5, tl, t1, t3, t4, t5, t6, bl71 g5 hb, bl71 x5 o1, bl71 y5 o1, hq, hne, old_bare, H.back_bare, List.cons_append, List.nil_append]
  refine (fn_Digest (ht.ext e5).bare hb).mono ?_
  rintro u h6 ⟨rfl, e6⟩
  have ho6 := e6.old
  have e56 := e6.back
  rw [Kdrw_eq, ho6]
  generalize h5.back h6 = h7 at e56
  have g7 : h7.get h.next = some (.cells b.cells) := e56.get (by omega) g5
  simp only [go_sem, ↓reduceIte, tl, t1, bl71 g7 hb, List.cons_append, List.nil_append]
  have e7 := e5.trans e56
  refine (fn_rDigest (ht.ext e7).bare hb).mono ?_
  rintro u h8 ⟨rfl, e8⟩
  have ho8 := e8.old
  have e78 := e8.back
  rw [Kdrw_eq, ho8]
  generalize h7.back h8 = h9 at e78
  have hdq : eqV (.agg (List.replicate 32 (.i .u8))) (.agg ((digV b).map u8)) (.agg ((digV b).map u8)) = some true := by rw [eq_u8s (digV_len b) (digV_len b)]; simp
  simp only [go_sem, ↓reduceIte, tl, hdq, List.cons_append, List.nil_append]
  refine ⟨rfl, ?_⟩
  have e9 := e7.trans e78
  have n7 : h4.next < h7.next := Nat.lt_of_lt_of_le n5 e56.nx
  have g9 : h9.get h.next = some (.cells b.cells) := e78.get (by omega) g7
  have x9 : h9.get h2.next = some (.cells (hideV b).cells) := e78.get (by omega) (e56.get (by omega) x5)
  have n9 : h4.next < h9.next := Nat.lt_of_lt_of_le n7 e78.nx
  refine WD_gen (fun t => t.length = 49 ∧ nth t 1 = .p h.next 0 ∧ nth t 3 = .p h2.next 0 ∧ nth t 4 = .i .i64 eb) (by simp only [go_sem, ↓reduceIte, tl, t1, t3, t4]) ?_
  clear tl t1 t3 t4 t5 t6 hq hne
  rintro t ⟨tl, t1, t3, t4⟩
  cases hf : b.formed
  · obtain rfl : eb = 1 := by rw [← he, hf]; rfl
    simp only [go_sem, ↓reduceIte, r5_7, tl, t1, t3, t4, old_bare, H.back_bare, List.cons_append, List.nil_append]
    exact ⟨rfl, e9⟩
  · obtain rfl : eb = 0 := by rw [← he, hf]; rfl
    simp only [go_sem, ↓reduceIte, r5_7, tl, t1, t3, t4, bl71 x9 o1, old_bare, H.back_bare, List.cons_append, List.nil_append]
    refine (fn_Digest (ht.ext e9).bare o1).mono ?_
    rintro u h10 ⟨rfl, e10⟩
    have ho10 := e10.old
    have e910 := e10.back
    rw [Kdrw_eq, ho10]
    generalize h9.back h10 = h11 at e910
    have g11 : h11.get h.next = some (.cells b.cells) := e910.get (by omega) g9
    simp only [go_sem, ↓reduceIte, tl, t1, bl71 g11 hb, List.cons_append, List.nil_append]
    have e11 := e9.trans e910
    refine (fn_Digest (ht.ext e11).bare hb).mono ?_
    rintro u h12 ⟨rfl, e12'⟩
    have ho12 := e12'.old
    have e1112 := e12'.back
    rw [Kdrw_eq, ho12]
    generalize h11.back h12 = h13 at e1112
    have hdh : digV (hideV b) = digV b := by unfold hideV; rw [hf]; exact hide_dig hf
    rw [hdh]
    simp only [go_sem, ↓reduceIte, tl, hdq, List.cons_append, List.nil_append]
    exact ⟨rfl, e11.trans e1112⟩
end Go.Air
