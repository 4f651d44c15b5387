/-
  A part of the proof of: The row of BulletinNexts and its tied card, out of the lifted form.
-/
import Derived.Test.YtanmdooeaaafkaaGreatDoorNxC
set_option linter.unusedSectionVars false
set_option linter.unusedVariables false
set_option linter.unusedSimpArgs false
set_option maxRecDepth 100000
namespace Go.Air
open Go.Air.Try
structure Bul where
  (n at' by' : Int)
  kind : Nat
  hid : Bool
  body : List Nat
  salt : Int
  (dig prev : List Nat)
  deriving DecidableEq
def Bul.head (b : Bul) : List V := [.i .i64 b.n, .i .i64 b.at', .i .i64 b.by', .i .u8 (b.kind : Int), .b b.hid, .s b.body, .i .i64 b.salt]
def Bul.cells (b : Bul) : List V := b.head ++ (b.dig.map u8 ++ b.prev.map u8)
structure Bul.Ok (b : Bul) : Prop where
  n : I64 b.n
  at' : I64 b.at'
  by' : I64 b.by'
  kind : b.kind < 256
  salt : I64 b.salt
  body : ∀ c ∈ b.body, c < 256
  len : b.body.length ≤ 9223372036854775807
  dig : b.dig.length = 32
  prev : b.prev.length = 32
  digB : ∀ c ∈ b.dig, c < 256
  prevB : ∀ c ∈ b.prev, c < 256
def Bul.formed (b : Bul) : Bool := (((btw b.n 0 1999 && btw b.at' 0 100000) && btw b.by' 0 7) && btw b.kind 1 7) &&
  if b.hid then decide (b.body = []) && decide (b.salt = 0) else (decide ((b.body.length : Int) ≤ 7000) && btw b.salt 0 9007199254740992) && decide (b.dig = sealOf b.salt b.body)
theorem cells_len {b : Bul} (h : b.Ok) : b.cells.length = 71 := by simp [Bul.cells, Bul.head, h.dig, h.prev]
theorem cells_one (b : Bul) : ∀ u ∈ b.cells, u.oneCell = true := by
  intro u hu
  unfold Bul.cells at hu
  rcases List.mem_append.1 hu with hu | hu
  · simp only [Bul.head, List.mem_cons, List.not_mem_nil, or_false] at hu
    rcases hu with rfl | rfl | rfl | rfl | rfl | rfl | rfl <;> rfl
  · rcases List.mem_append.1 hu with hu | hu <;> exact u8s_one _ u hu
structure BulAt (h : H) (k : Nat) (b : Bul) : Prop where
  get : h.get k = some (.cells b.cells)
section
variable {h : H} {k : Nat} {b : Bul} (q : h.get k = some (.cells b.cells))
include q
theorem bl0 : ldV h (.p k 0) = some (.i .i64 b.n) := blk_ld q rfl
theorem bl1 : ldV h (.p k 1) = some (.i .i64 b.at') := blk_ld q rfl
theorem bl2 : ldV h (.p k 2) = some (.i .i64 b.by') := blk_ld q rfl
theorem bl3 : ldV h (.p k 3) = some (.i .u8 (b.kind : Int)) := blk_ld q rfl
theorem bl4 : ldV h (.p k 4) = some (.b b.hid) := blk_ld q rfl
theorem bl5 : ldV h (.p k 5) = some (.s b.body) := blk_ld q rfl
theorem bl6 : ldV h (.p k 6) = some (.i .i64 b.salt) := blk_ld q rfl
theorem bl7 (hb : b.Ok) : ldnV h 32 (.p k 7) = some (.agg (b.dig.map u8)) := by
  have : cut b.cells 7 32 = some (b.dig.map u8) := by
    refine cut_eq.2 ⟨by rw [cells_len hb]; omega, ?_⟩
    show _ = (b.dig.map u8 ++ b.prev.map u8).take 32
    rw [List.take_left' (by simpa using hb.dig)]
  simp [ldnV, q, Blk.rd, this]
theorem bl71 (hb : b.Ok) : ldnV h 71 (.p k 0) = some (.agg b.cells) := blk_ldn q (cells_len hb)
theorem bls7 (hb : b.Ok) (hk : k < h.next) : Sl 1 h (.sl k 7 32 32 none) 32 (b.dig.map u8) := by
  refine .inr ⟨k, 7, 32, none, _, rfl, hk, q, cut_eq.2 ⟨by rw [cells_len hb]; omega, ?_⟩⟩
  show _ = (b.dig.map u8 ++ b.prev.map u8).take 32
  rw [List.take_left' (by simpa using hb.dig)]
theorem bls39 (hb : b.Ok) (hk : k < h.next) : Sl 1 h (.sl k 39 32 32 none) 32 (b.prev.map u8) := by
  refine .inr ⟨k, 39, 32, none, _, rfl, hk, q, cut_eq.2 ⟨by rw [cells_len hb]; omega, ?_⟩⟩
  have e : b.cells.drop 39 = b.prev.map u8 := by
    unfold Bul.cells
    rw [← List.append_assoc, List.drop_left' (by simp [Bul.head, hb.dig])]
  rw [e, List.take_of_length_le (by simp [hb.prev])]
end
theorem t85 : tb1 31 = some a31 := by kernel_rfl
theorem t126 : tb1 32 = some a32 := by kernel_rfl
theorem conv_kind {n : Nat} (h : n < 256) : convV .i64 (.i .u8 (n : Int)) = some (.i .i64 (n : Int)) := by
  simp only [convV]; rw [wrap_in (by omega) (by omega)]
theorem fn_formed {h : H} (ht : Tb4 h) {b : Bul} (hb : b.Ok) : WC tb1 (.fn 31 [] []) [.agg b.cells] h fun u h' => u = .b b.formed ∧ Ext h h' := by
  refine (WC_in t85).2 ?_
  have hc : (V.agg b.cells).cells = b.cells := rfl
  have e1 : Ext h (h.new (.cells b.cells)) := (Ext.refl h).new _
  have g : (h.new (.cells b.cells)).get h.next = some (.cells b.cells) := get_new_eq rfl
  have hk := conv_kind hb.kind
  simp only [go_sem, ↓reduceIte, r31_0, hc]
  cases c1 : btw b.n 0 1999
  · simp only [go_sem, ↓reduceIte, r31_1, r31_2, bl0 g, bl1 g, bl2 g, bl3 g, hk, c1]
    refine ⟨by simp [Bul.formed, c1], e1⟩
  cases c2 : btw b.at' 0 100000
  · simp only [go_sem, ↓reduceIte, r31_1, r31_2, bl0 g, bl1 g, bl2 g, bl3 g, hk, c1, c2]
    refine ⟨by simp [Bul.formed, c2], e1⟩
  cases c3 : btw b.by' 0 7
  · simp only [go_sem, ↓reduceIte, r31_1, r31_2, bl0 g, bl1 g, bl2 g, bl3 g, hk, c1, c2, c3]
    refine ⟨by simp [Bul.formed, c3], e1⟩
  cases c4 : btw b.kind 1 7
  · simp only [go_sem, ↓reduceIte, r31_1, r31_2, bl0 g, bl1 g, bl2 g, bl3 g, hk, c1, c2, c3, c4]
    refine ⟨by simp [Bul.formed, c4], e1⟩
  cases c5 : b.hid
  · simp only [go_sem, ↓reduceIte, r31_1, r31_3, bl0 g, bl1 g, bl2 g, bl3 g, bl4 g, hk, c1, c2, c3, c4, c5]
    refine WD_gen (fun t => t.length = 55 ∧ nth t 1 = .p h.next 0) (by simp only [go_sem, ↓reduceIte]) ?_
    rintro t ⟨tl, t1⟩
    cases c6 : decide ((b.body.length : Int) ≤ 7000)
    · simp only [go_sem, ↓reduceIte, r31_5, tl, t1, bl5 g, bl6 g, c6, old_bare, List.cons_append, List.nil_append]
      exact ⟨rfl, by simp only [Bul.formed, c1, c2, c3, c4, c5, c6]; rfl, e1⟩
    cases c7 : btw b.salt 0 9007199254740992
    · simp only [go_sem, ↓reduceIte, r31_5, tl, t1, bl5 g, bl6 g, c6, c7, old_bare, List.cons_append, List.nil_append]
      exact ⟨rfl, by simp only [Bul.formed, c1, c2, c3, c4, c5, c6, c7]; rfl, e1⟩
    simp only [go_sem, ↓reduceIte, r31_5, tl, t1, bl5 g, bl6 g, bl7 g hb, c6, c7, old_bare, List.cons_append, List.nil_append]
    have c6' := of_decide_eq_true c6
    refine (fn_seal (ht.ext e1).bare hb.salt hb.body (by omega)).mono ?_
    rintro u h' ⟨rfl, e⟩
    have hq : eqV (.agg (List.replicate 32 (.i .u8))) (.agg (b.dig.map u8)) (.agg ((sealOf b.salt b.body).map u8)) = some (decide (b.dig = sealOf b.salt b.body)) := eq_u8s hb.dig (sum_len _)
    have ho := e.old
    simp only [go_sem, ↓reduceIte, tl, ho, hq, List.cons_append, List.nil_append]
    exact ⟨rfl, by simp only [Bul.formed, c1, c2, c3, c4, c5, c6, c7]; rfl, e1.trans e.back⟩
  cases c6 : decide (b.body = [])
  · have s6 : binV .eql (.s b.body) (.s []) = some (.b false) := by rw [bin_seq, c6]
    simp only [go_sem, ↓reduceIte, r31_1, r31_3, r31_4, bl0 g, bl1 g, bl2 g, bl3 g, bl4 g, bl5 g, bl6 g, hk, c1, c2, c3, c4, c5, s6]
    exact ⟨by simp only [Bul.formed, c1, c2, c3, c4, c5, c6]; rfl, e1⟩
  have s6 : binV .eql (.s b.body) (.s []) = some (.b true) := by rw [bin_seq, c6]
  cases c7 : decide (b.salt = 0)
  · simp only [go_sem, ↓reduceIte, r31_1, r31_3, r31_4, bl0 g, bl1 g, bl2 g, bl3 g, bl4 g, bl5 g, bl6 g, hk, c1, c2, c3, c4, c5, s6, c7]
    exact ⟨by simp only [Bul.formed, c1, c2, c3, c4, c5, c6, c7]; rfl, e1⟩
  · simp only [go_sem, ↓reduceIte, r31_1, r31_3, r31_4, bl0 g, bl1 g, bl2 g, bl3 g, bl4 g, bl5 g, bl6 g, hk, c1, c2, c3, c4, c5, s6, c7]
    exact ⟨by simp only [Bul.formed, c1, c2, c3, c4, c5, c6, c7]; rfl, e1⟩
end Go.Air
set_option maxRecDepth 100000
namespace Go.Air
open Go.Air.Try
theorem fn_wellformed {h : H} (ht : Tb4 h) {b : Bul} (hb : b.Ok) : WC tb1 (.fn 32 [] []) [.agg b.cells] h fun u h' => u = .b b.formed ∧ Ext h h' := by
  refine (WC_in t126).2 ?_
  have hc : (V.agg b.cells).cells = b.cells := rfl
  have e1 : Ext h (h.new (.cells b.cells)) := (Ext.refl h).new _
  have g : (h.new (.cells b.cells)).get h.next = some (.cells b.cells) := get_new_eq rfl
  have hk := conv_kind hb.kind
  simp only [go_sem, ↓reduceIte, r32_0, hc]
  cases c1 : btw b.n 0 1999
  · simp only [go_sem, ↓reduceIte, r32_1, r32_2, r32_3, bl0 g, bl1 g, bl2 g, bl3 g, hk, c1]
    refine ⟨by simp [Bul.formed, c1], e1⟩
  cases c2 : btw b.at' 0 100000
  · simp only [go_sem, ↓reduceIte, r32_1, r32_2, r32_3, bl0 g, bl1 g, bl2 g, bl3 g, hk, c1, c2]
    refine ⟨by simp [Bul.formed, c2], e1⟩
  cases c3 : btw b.by' 0 7
  · simp only [go_sem, ↓reduceIte, r32_1, r32_2, r32_3, bl0 g, bl1 g, bl2 g, bl3 g, hk, c1, c2, c3]
    refine ⟨by simp [Bul.formed, c3], e1⟩
  cases c4 : btw b.kind 1 7
  · simp only [go_sem, ↓reduceIte, r32_1, r32_2, r32_3, bl0 g, bl1 g, bl2 g, bl3 g, hk, c1, c2, c3, c4]
    refine ⟨by simp [Bul.formed, c4], e1⟩
  cases c5 : b.hid
  · simp only [go_sem, ↓reduceIte, r32_1, r32_2, r32_4, bl0 g, bl1 g, bl2 g, bl3 g, bl4 g, hk, c1, c2, c3, c4, c5]
    refine WL_gen (fun t => t.length = 56 ∧ nth t 1 = .p h.next 0) (by simp only [go_sem, ↓reduceIte]) ?_
    rintro t ⟨tl, t1⟩
    cases c7 : btw b.salt 0 9007199254740992
    · simp only [go_sem, ↓reduceIte, r32_6, r32_7, tl, t1, bl5 g, bl6 g, c7, old_bare, List.cons_append, List.nil_append]
      exact ⟨rfl, by simp only [Bul.formed, c1, c2, c3, c4, c5, c7, Bool.and_false]; rfl, e1⟩
    cases c6 : decide ((b.body.length : Int) ≤ 7000)
    · simp only [go_sem, ↓reduceIte, r32_6, r32_7, tl, t1, bl5 g, bl6 g, c6, c7, old_bare, List.cons_append, List.nil_append]
      exact ⟨rfl, by simp only [Bul.formed, c1, c2, c3, c4, c5, c6]; rfl, e1⟩
    simp only [go_sem, ↓reduceIte, r32_6, r32_7, tl, t1, bl5 g, bl6 g, bl7 g hb, c6, c7, old_bare, List.cons_append, List.nil_append]
    have c6' := of_decide_eq_true c6
    refine (fn_rseal (ht.ext e1).bare hb.salt hb.body (by omega)).mono ?_
    rintro u h' ⟨rfl, e⟩
    have hq : eqV (.agg (List.replicate 32 (.i .u8))) (.agg (b.dig.map u8)) (.agg ((sealOf b.salt b.body).map u8)) = some (decide (b.dig = sealOf b.salt b.body)) := eq_u8s hb.dig (sum_len _)
    have ho := e.old
    simp only [go_sem, ↓reduceIte, tl, ho, hq, List.cons_append, List.nil_append]
    exact ⟨rfl, by simp only [Bul.formed, c1, c2, c3, c4, c5, c6, c7]; rfl, e1.trans e.back⟩
  cases c6 : decide (b.body = [])
  · have s6 : binV .eql (.s b.body) (.s []) = some (.b false) := by rw [bin_seq, c6]
    simp only [go_sem, ↓reduceIte, r32_1, r32_2, r32_4, r32_5, bl0 g, bl1 g, bl2 g, bl3 g, bl4 g, bl5 g, bl6 g, hk, c1, c2, c3, c4, c5, s6]
    exact ⟨by simp only [Bul.formed, c1, c2, c3, c4, c5, c6]; rfl, e1⟩
  have s6 : binV .eql (.s b.body) (.s []) = some (.b true) := by rw [bin_seq, c6]
  cases c7 : decide (b.salt = 0)
  · simp only [go_sem, ↓reduceIte, r32_1, r32_2, r32_4, r32_5, bl0 g, bl1 g, bl2 g, bl3 g, bl4 g, bl5 g, bl6 g, hk, c1, c2, c3, c4, c5, s6, c7]
    exact ⟨by simp only [Bul.formed, c1, c2, c3, c4, c5, c6, c7]; rfl, e1⟩
  · simp only [go_sem, ↓reduceIte, r32_1, r32_2, r32_4, r32_5, bl0 g, bl1 g, bl2 g, bl3 g, bl4 g, bl5 g, bl6 g, hk, c1, c2, c3, c4, c5, s6, c7]
    exact ⟨by simp only [Bul.formed, c1, c2, c3, c4, c5, c6, c7]; rfl, e1⟩
end Go.Air
set_option maxRecDepth 100000
namespace Go.Air
open Go.Air.Try
def digT (b : Bul) : List Nat := [98, 32] ++ numText [b.n, b.at', b.by', (b.kind : Int)] ++ [10] ++ b.dig ++ b.prev
theorem numText_len (xs : List Int) : (numText xs).length ≤ xs.length * 22 := by
  have := joinL_len [32] (xs.map itoa) 21 (fun x hx => by obtain ⟨n, _, rfl⟩ := List.mem_map.1 hx; exact itoa_len n)
  simpa [numText] using this
theorem joinL_lt : ∀ (l : List (List Nat)), (∀ x ∈ l, ∀ c ∈ x, c < 256) → ∀ c ∈ joinL [32] l, c < 256
  | [], _ => by simp [joinL]
  | [x], h => h x (by simp)
  | x :: y :: l, h => by
    have ih := joinL_lt (y :: l) fun z hz => h z (List.mem_cons_of_mem _ hz)
    intro c hc
    have hc : c ∈ x ++ [32] ++ joinL [32] (y :: l) := hc
    simp only [List.mem_append, List.mem_cons, List.not_mem_nil, or_false] at hc
    rcases hc with (hc | rfl) | hc
    · exact h x (by simp) c hc
    · omega
    · exact ih c hc
theorem numText_lt (xs : List Int) : ∀ c ∈ numText xs, c < 256 := joinL_lt _ fun x hx => by
  obtain ⟨n, _, rfl⟩ := List.mem_map.1 hx
  exact itoa_lt n
theorem digT_lt {b : Bul} (hb : b.Ok) : ∀ c ∈ digT b, c < 256 := by
  unfold digT
  intro c hc
  simp only [List.mem_append, List.mem_cons, List.not_mem_nil, or_false] at hc
  rcases hc with ((((rfl | rfl) | hc) | rfl) | hc) | hc
  · omega
  · omega
  · exact numText_lt _ c hc
  · omega
  · exact hb.digB c hc
  · exact hb.prevB c hc
theorem digT_len {b : Bul} (hb : b.Ok) : (digT b).length ≤ 1000 := by
  have := numText_len [b.n, b.at', b.by', (b.kind : Int)]
  simp [digT, hb.dig, hb.prev] at this ⊢; omega
structure MB (h hh : H) (u : V) (m : List Nat) : Prop where
  ext : Ext h hh
  own : Own h 1 hh u m.length (m.map u8)
theorem MB.app {h hh : H} {u v : V} {m l : List Nat} (q : MB h hh u m) (hs : Sl 1 hh v l.length (l.map u8)) (hn : m.length + l.length ≤ 1000000) :
    ∃ u' h', appendV 1 1 hh u v = .ok u' h' ∧ MB h h' u' (m ++ l) := by
  obtain ⟨v', h', q1, q2, q3, _⟩ := q.own.app (bytes := 1) q.ext hs (u8s_one l) (by omega) (by omega) (by omega)
  exact ⟨v', h', q1, q2, by simpa using q3⟩
theorem MB.lit {h hh : H} (e : Ext h hh) (m : List Nat) : MB h (hh.new (.cells (m.map fun c : Nat => V.i .u8 (c : Int)))) (.sl hh.next 0 m.length m.length (some 1)) m :=
  ⟨e.new _, by simp, .inr ⟨hh.next, some 1, rfl, .inr rfl, e.nx, by simp, get_new_eq rfl⟩⟩
theorem slcA32 {t : List V} {k o : Nat} : slcAV t 32 1 (.p k o) none none = some (.sl k o 32 32 none) := rfl
theorem MB.sl {h hh : H} {u : V} {m : List Nat} (q : MB h hh u m) : Sl 1 hh u m.length (m.map u8) := q.own.sl
theorem fill4 (t : List V) (x0 x1 x2 x3 : X) (a b c d : Int) (h0 : x0.ev t = .i .i64 a) (h1 : x1.ev t = .i .i64 b) (h2 : x2.ev t = .i .i64 c) (h3 : x3.ev t = .i .i64 d) :
    fill t [.i .i64 0, .i .i64 0, .i .i64 0, .i .i64 0] [(0, 1, x0), (1, 1, x1), (2, 1, x2), (3, 1, x3)] = some [.i .i64 a, .i .i64 b, .i .i64 c, .i .i64 d] := by
  have e1 : ∀ n, Nat.beq (List.length [n]) 1 = true := fun _ : V => rfl
  have ec : ∀ n : Int, (V.i .i64 n).cells = [V.i .i64 n] := fun _ => rfl
  simp only [fill, h0, h1, h2, h3, ec, e1, if_true, lay, Option.map_some]
theorem t82 : tb1 28 = some a28 := by kernel_rfl
theorem fn_digest {h : H} (ht : Tb4 h) {b : Bul} (hb : b.Ok) : WC tb1 (.fn 28 [] []) [.agg b.cells] h fun u h' => u = .agg ((Sha.sum (digT b)).map u8) ∧ Ext h h' := by
  refine (WC_in t82).2 ?_
  have hc : (V.agg b.cells).cells = b.cells := rfl
  have e1 : Ext h ((h.new (.cells b.cells)).new (.cells (List.replicate 32 (V.i .u8 0)))) := ((Ext.refl h).new _).new _
  have g : ((h.new (.cells b.cells)).new (.cells (List.replicate 32 (V.i .u8 0)))).get h.next = some (.cells b.cells) := by rw [get_new_lt (by simp), get_new_eq rfl]
  have hk := conv_kind hb.kind
  simp only [go_sem, ↓reduceIte, r28_0, r28_1, hc, bl0 g, bl1 g, bl2 g, bl3 g, hk]
  rw [fill4 _ _ _ _ _ b.n b.at' b.by' (b.kind : Int) (by simp only [go_sem, ↓reduceIte]) (by simp only [go_sem, ↓reduceIte]) (by simp only [go_sem, ↓reduceIte]) (by simp only [go_sem, ↓reduceIte])]
  simp only [go_sem, ↓reduceIte]
  have g2 : ((h.new (.cells b.cells)).new (.cells (List.replicate 32 (V.i .u8 0)))).get (h.next + 1) = some (.cells (List.replicate 32 (V.i .u8 0))) := get_new_eq (by simp)
  have n1 : ((h.new (.cells b.cells)).new (.cells (List.replicate 32 (V.i .u8 0)))).next = h.next + 2 := by simp
  rw [show (h.new (.cells b.cells)).next = h.next + 1 from rfl]
  generalize (h.new (.cells b.cells)).new (.cells (List.replicate 32 (V.i .u8 0))) = h1 at e1 g g2 n1
  have eA : Ext h1 (h1.new (.cells [.i .i64 b.n, .i .i64 b.at', .i .i64 b.by', .i .i64 (b.kind : Int)])) := (Ext.refl h1).new _
  have hkI : I64 (b.kind : Int) := by have := hb.kind; unfold I64; omega
  refine (fn_numbers (xs := [b.n, b.at', b.by', (b.kind : Int)]) ((ht.ext e1).ext eA) (Own.lit (esz := 1) (Ext.refl h1) [.i .i64 b.n, .i .i64 b.at', .i .i64 b.by', .i .i64 (b.kind : Int)] 4 rfl).1.sl (by
    intro x hx
    simp only [List.mem_cons, List.not_mem_nil, or_false] at hx
    rcases hx with rfl | rfl | rfl | rfl
    · exact hb.n
    · exact hb.at'
    · exact hb.by'
    · exact hkI) (by simp)).mono ?_
  rintro u h2 ⟨rfl, e2⟩
  have hnl := numText_len [b.n, b.at', b.by', (b.kind : Int)]
  have hdl : digT b = [98, 32] ++ numText [b.n, b.at', b.by', (b.kind : Int)] ++ [10] ++ b.dig ++ b.prev := rfl
  generalize numText [b.n, b.at', b.by', (b.kind : Int)] = nt at hnl hdl
  simp only [List.length_cons, List.length_nil] at hnl
  have b1 : binV .add (.s [98, 32]) (.s nt) = some (.s ([98, 32] ++ nt)) := bin_sadd (by simp; omega)
  have b2 : binV .add (.s ([98, 32] ++ nt)) (.s [10]) = some (.s ([98, 32] ++ nt ++ [10])) := bin_sadd (by simp; omega)
  have q3 := MB.lit (eA.trans e2) ([98, 32] ++ nt ++ [10])
  simp only [go_sem, ↓reduceIte, b1, b2]
  generalize hm : [98, 32] ++ nt ++ [10] = m at q3 hdl
  have hml : m.length ≤ 200 := by subst hm; simp; omega
  generalize h2.new (.cells (m.map fun c : Nat => V.i .u8 (c : Int))) = h3 at q3
  have hlt1 : h.next < h1.next := by omega
  obtain ⟨u4, h4, a4, q4⟩ := q3.app (l := b.dig) (by rw [hb.dig]; exact bls7 ((q3.ext.same _ hlt1).trans g) hb (Nat.lt_of_lt_of_le hlt1 q3.ext.nx)) (by rw [hb.dig]; omega)
  obtain ⟨u5, h5, a5, q5⟩ := q4.app (l := b.prev) (by rw [hb.prev]; exact bls39 ((q4.ext.same _ hlt1).trans g) hb (Nat.lt_of_lt_of_le hlt1 q4.ext.nx)) (by rw [hb.prev, List.length_append, hb.dig]; omega)
  have hby := bytes_of (h := h5) (v := u5) (bs := digT b) (by rw [hdl]; exact q5.sl) (digT_lt hb) (by have := digT_len hb; omega)
  have g5 : h5.get (h.next + 1) = some (.cells (List.replicate 32 (V.i .u8 0))) := (q5.ext.same _ (by omega)).trans g2
  have hst := blk_stn (k := 32) (d := (Sha.sum (digT b)).map u8) g5 rfl rfl (u8s_one _)
  simp only [go_sem, ↓reduceIte, r28_2, r28_3, slcA32, a4, a5, fn1_sum hby, sumV, hst, Nat.zero_add]
  rw [res_cell (n := 2) (k := 32) (b := h.next + 1) (cs := (Sha.sum (digT b)).map u8) (by simp only [go_sem, ↓reduceIte]) get_put_eq rfl]
  exact ⟨rfl, (e1.trans q5.ext).put (by omega) _⟩
def digV (b : Bul) : List Nat := if b.formed then Sha.sum (digT b) else List.replicate 32 0
theorem digV_len (b : Bul) : (digV b).length = 32 := by unfold digV; split <;> rfl
theorem zero_u8 (n : Nat) : (List.replicate n (V.i .u8 0)) = (List.replicate n 0).map u8 := by rw [List.map_replicate]; rfl
theorem fill_none (t : List V) (z : List V) : fill t z [] = some z := rfl
theorem digT_ref (b : Bul) : digT b = [98] ++ (32 :: itoa b.n) ++ (32 :: itoa b.at') ++ (32 :: itoa b.by') ++ (32 :: itoa (b.kind : Int)) ++ [10] ++ b.dig ++ b.prev := by
  simp [digT, numText, joinL]
theorem t57 : tb1 17 = some a17 := by kernel_rfl
theorem fn_rDigest {h : H} (ht : Tb4 h) {b : Bul} (hb : b.Ok) : WC tb1 (.fn 17 [] []) [.agg b.cells] h fun u h' => u = .agg ((digV b).map u8) ∧ Ext h h' := by
  refine (WC_in t57).2 ?_
  have hc : (V.agg b.cells).cells = b.cells := rfl
  have e1 : Ext h ((h.new (.cells b.cells)).new (.cells (List.replicate 32 (V.i .u8 0)))) := ((Ext.refl h).new _).new _
  have g : ((h.new (.cells b.cells)).new (.cells (List.replicate 32 (V.i .u8 0)))).get h.next = some (.cells b.cells) := by rw [get_new_lt (by simp), get_new_eq rfl]
  have g2 : ((h.new (.cells b.cells)).new (.cells (List.replicate 32 (V.i .u8 0)))).get (h.next + 1) = some (.cells (List.replicate 32 (V.i .u8 0))) := get_new_eq (by simp)
  have n1 : ((h.new (.cells b.cells)).new (.cells (List.replicate 32 (V.i .u8 0)))).next = h.next + 2 := by simp
  simp only [go_sem, ↓reduceIte, r17_0, r17_1, hc, bl71 g hb]
  rw [show (h.new (.cells b.cells)).next = h.next + 1 from rfl]
  generalize (h.new (.cells b.cells)).new (.cells (List.replicate 32 (V.i .u8 0))) = h1 at e1 g g2 n1
  refine (fn_wellformed (ht.ext e1) hb).mono ?_
  rintro u h2 ⟨rfl, e2⟩
  have g' : h2.get h.next = some (.cells b.cells) := e2.get (by omega) g
  have g2' : h2.get (h.next + 1) = some (.cells (List.replicate 32 (V.i .u8 0))) := e2.get (by omega) g2
  have e12 := e1.trans e2
  cases hf : b.formed
  · have hs := blk_stn (k := 32) (d := (List.replicate 32 0).map u8) g2' rfl rfl (u8s_one _)
    rw [← zero_u8] at hs
    simp only [go_sem, ↓reduceIte, r17_2, r17_3, fill_none, hs]
    rw [res_cell (n := 2) (k := 32) (b := h.next + 1) (cs := List.replicate 32 (V.i .u8 0)) (by simp only [go_sem, ↓reduceIte]) get_put_eq rfl]
    exact ⟨by simp only [digV, hf, Bool.false_eq_true, if_false]; rw [← zero_u8]; rfl, e12.put (by omega) _⟩
  have hkI : I64 (b.kind : Int) := by have := hb.kind; unfold I64; omega
  have hk := conv_kind hb.kind
  have ht2 := (ht.ext e12).bare
  have hdl := digT_ref b
  have l0 := itoa_len b.n
  have l1 := itoa_len b.at'
  have l2 := itoa_len b.by'
  have l3 := itoa_len (b.kind : Int)
  have b1 : binV .add (.s [98]) (.s (32 :: itoa b.n)) = some (.s ([98] ++ (32 :: itoa b.n))) := bin_sadd (by simp; omega)
  have b2 : binV .add (.s ([98] ++ (32 :: itoa b.n))) (.s (32 :: itoa b.at')) = some (.s ([98] ++ (32 :: itoa b.n) ++ (32 :: itoa b.at'))) := bin_sadd (by simp; omega)
  have b3 : binV .add (.s ([98] ++ (32 :: itoa b.n) ++ (32 :: itoa b.at'))) (.s (32 :: itoa b.by')) = some (.s ([98] ++ (32 :: itoa b.n) ++ (32 :: itoa b.at') ++ (32 :: itoa b.by'))) := bin_sadd (by simp; omega)
  have b4 : binV .add (.s ([98] ++ (32 :: itoa b.n) ++ (32 :: itoa b.at') ++ (32 :: itoa b.by'))) (.s (32 :: itoa (b.kind : Int))) = some (.s ([98] ++ (32 :: itoa b.n) ++ (32 :: itoa b.at') ++ (32 :: itoa b.by') ++ (32 :: itoa (b.kind : Int)))) := bin_sadd (by simp; omega)
  have b5 : binV .add (.s ([98] ++ (32 :: itoa b.n) ++ (32 :: itoa b.at') ++ (32 :: itoa b.by') ++ (32 :: itoa (b.kind : Int)))) (.s [10]) = some (.s ([98] ++ (32 :: itoa b.n) ++ (32 :: itoa b.at') ++ (32 :: itoa b.by') ++ (32 :: itoa (b.kind : Int)) ++ [10])) := bin_sadd (by simp; omega)
  have hlast : ([98] ++ (32 :: itoa b.n) ++ (32 :: itoa b.at') ++ (32 :: itoa b.by') ++ (32 :: itoa (b.kind : Int)) ++ [10]).length ≤ 200 := by simp; omega
  generalize [98] ++ (32 :: itoa b.n) = m1 at b1 b2 b3 b4 b5 hdl hlast
  generalize m1 ++ (32 :: itoa b.at') = m2 at b2 b3 b4 b5 hdl hlast
  generalize m2 ++ (32 :: itoa b.by') = m3 at b3 b4 b5 hdl hlast
  generalize m3 ++ (32 :: itoa (b.kind : Int)) = m4 at b4 b5 hdl hlast
  generalize m4 ++ [10] = m at b5 hdl hlast
  simp only [go_sem, ↓reduceIte, r17_2]
  refine WD_gen (fun t => t.length = 38 ∧ nth t 1 = .p h.next 0 ∧ nth t 2 = .p (h.next + 1) 0) (by simp only [go_sem, ↓reduceIte]) ?_
  rintro t ⟨tl, t1, t2⟩
  simp only [go_sem, ↓reduceIte, r17_4, tl, t1, bl0 g', bl1 g', bl2 g', bl3 g', hk, fn_num ht2 hb.n, fn_num ht2 hb.at', fn_num ht2 hb.by', fn_num ht2 hkI, b1, b2, b3, b4, b5, old_bare, H.back_bare, H.back_new, List.cons_append, List.nil_append]
  refine ⟨rfl, ?_⟩
  have q3 := MB.lit e2 m
  generalize h2.new (.cells (m.map fun c : Nat => V.i .u8 (c : Int))) = h3 at q3
  have hlt1 : h.next < h1.next := by omega
  obtain ⟨u4, h4, a4, q4⟩ := q3.app (l := b.dig) (by rw [hb.dig]; exact bls7 ((q3.ext.same _ hlt1).trans g) hb (Nat.lt_of_lt_of_le hlt1 q3.ext.nx)) (by rw [hb.dig]; omega)
  obtain ⟨u5, h5, a5, q5⟩ := q4.app (l := b.prev) (by rw [hb.prev]; exact bls39 ((q4.ext.same _ hlt1).trans g) hb (Nat.lt_of_lt_of_le hlt1 q4.ext.nx)) (by rw [hb.prev, List.length_append, hb.dig]; omega)
  have hby := bytes_of (h := h5) (v := u5) (bs := digT b) (by rw [hdl]; exact q5.sl) (digT_lt hb) (by have := digT_len hb; omega)
  have g5 : h5.get (h.next + 1) = some (.cells (List.replicate 32 (V.i .u8 0))) := (q5.ext.same _ (by omega)).trans g2
  have hst := blk_stn (k := 32) (d := (Sha.sum (digT b)).map u8) g5 rfl rfl (u8s_one _)
  simp only [go_sem, ↓reduceIte, tl, t1, t2, r17_5, r17_6, slcA32, a4, a5, fn1_rsum hby, sumV, hst, Nat.zero_add]
  rw [res_cell (n := 2) (k := 32) (b := h.next + 1) (cs := (Sha.sum (digT b)).map u8) (by simp only [go_sem, ↓reduceIte, t2]) get_put_eq rfl]
  exact ⟨by simp only [digV, hf, if_true]; rfl, (e1.trans q5.ext).put (by omega) _⟩
end Go.Air
set_option maxRecDepth 100000
namespace Go.Air
open Go.Air.Try
def zeroB : Bul := ⟨0, 0, 0, 0, false, [], 0, List.replicate 32 0, List.replicate 32 0⟩
theorem zero_ok : zeroB.Ok := ⟨by unfold I64; decide, by unfold I64; decide, by unfold I64; decide, by decide, by unfold I64; decide, by simp [zeroB], by simp [zeroB], rfl, rfl, fun c hc => by simp [zeroB] at hc; omega, fun c hc => by simp [zeroB] at hc; omega⟩
def zc : List V := [.i .i64 0, .i .i64 0, .i .i64 0] ++ [.i .u8 0] ++ [.b false] ++ [.s []] ++ [.i .i64 0] ++ List.replicate 64 (.i .u8 0)
theorem zc_eq : zc = zeroB.cells := rfl
section
variable {h : H} {k : Nat} {b : Bul} (q : h.get k = some (.cells b.cells)) (hb : b.Ok)
include q hb
end
theorem res_cell_tmp {h : H} {t : List V} {n b k m : Nat} {cs : List V} (hn : nth t n = .p b 0) (hg : h.get b = some (.cells cs)) (hk : cs.length = k) : resultsOf t h [.cell n (some k), .tmp m] = some [.agg cs, nth t m] := by
  have : cut cs 0 k = some cs := cut_eq.2 ⟨by omega, by simp [← hk]⟩
  simp only [resultsOf, resultOf, hn, hg, this, Option.map_some]
end Go.Air
set_option maxRecDepth 100000
namespace Go.Air
open Go.Air.Try
theorem fitL_app : ∀ {k1 k2 : List KT} {c1 c2 : List V}, fitL k1 c1 = true → fitL k2 c2 = true → fitL (k1 ++ k2) (c1 ++ c2) = true
  | [], k2, [], c2, _, h => h
  | [], _, _ :: _, _, h, _ => by cases h
  | _ :: _, _, [], _, h, _ => by cases h
  | k :: k1, k2, c :: c1, c2, h, h2 => by
    simp only [fitL, Bool.and_eq_true] at h
    show (k.fits c && fitL (k1 ++ k2) (c1 ++ c2)) = true
    rw [h.1, fitL_app h.2 h2]; rfl
theorem cellsEq_app : ∀ {a1 a2 c1 c2 : List V}, a1.length = c1.length → cellsEq (a1 ++ a2) (c1 ++ c2) = (cellsEq a1 c1 && cellsEq a2 c2)
  | [], _, [], _, _ => by simp [cellsEq]
  | [], _, _ :: _, _, h => by cases h
  | _ :: _, _, [], _, h => by cases h
  | x :: a1, a2, y :: c1, c2, h => by
    show (scalarEq x y && cellsEq (a1 ++ a2) (c1 ++ c2)) = (scalarEq x y && cellsEq a1 c1 && cellsEq a2 c2)
    rw [cellsEq_app (by simpa using h), Bool.and_assoc]
def ksB : List KT := [.i .i64, .i .i64, .i .i64, .i .u8, .b, .s, .i .i64, .i .u8, .i .u8, .i .u8, .i .u8, .i .u8, .i .u8, .i .u8, .i .u8, .i .u8, .i .u8, .i .u8, .i .u8, .i .u8, .i .u8, .i .u8, .i .u8, .i .u8, .i .u8, .i .u8, .i .u8, .i .u8, .i .u8, .i .u8, .i .u8, .i .u8, .i .u8, .i .u8, .i .u8, .i .u8, .i .u8, .i .u8, .i .u8, .i .u8, .i .u8, .i .u8, .i .u8, .i .u8, .i .u8, .i .u8, .i .u8, .i .u8, .i .u8, .i .u8, .i .u8, .i .u8, .i .u8, .i .u8, .i .u8, .i .u8, .i .u8, .i .u8, .i .u8, .i .u8, .i .u8, .i .u8, .i .u8, .i .u8, .i .u8, .i .u8, .i .u8, .i .u8, .i .u8, .i .u8, .i .u8]
theorem ksB_eq : ksB = [.i .i64, .i .i64, .i .i64, .i .u8, .b, .s, .i .i64] ++ (List.replicate 32 (.i .u8) ++ List.replicate 32 (.i .u8)) := rfl
theorem fit_bul {b : Bul} (hb : b.Ok) : fitL ksB b.cells = true := by
  rw [ksB_eq]
  unfold Bul.cells
  refine fitL_app rfl (fitL_app ?_ ?_)
  · rw [← hb.dig]; exact fit_u8 _
  · rw [← hb.prev]; exact fit_u8 _
theorem eq_bul {b c : Bul} (hb : b.Ok) (hc : c.Ok) : eqV (.agg ksB) (.agg b.cells) (.agg c.cells) = some (decide (b = c)) := by
  simp only [eqV, fit_bul hb, fit_bul hc, Bool.and_self, if_true]
  congr 1
  unfold Bul.cells
  rw [cellsEq_app (a1 := b.head) (c1 := c.head) rfl, cellsEq_app (by simp [hb.dig, hc.dig]), cellsEq_u8, cellsEq_u8]
  obtain ⟨n, a, y, k, hd, bo, sa, di, pr⟩ := b
  obtain ⟨n', a', y', k', hd', bo', sa', di', pr'⟩ := c
  have hs : bytesEq bo bo' = decide (bo = bo') := by rw [Bool.eq_iff_iff, bytesEq_iff]; simp
  simp only [Bul.head, cellsEq, scalarEq, hs, Bool.and_true, Bul.mk.injEq]
  rw [Bool.eq_iff_iff]
  simp only [Bool.and_eq_true, decide_eq_true_eq, beq_iff_eq, Int.natCast_inj]
  constructor
  · rintro ⟨⟨h1, h2, h3, h4, h5, h6, h7⟩, h8, h9⟩; exact ⟨h1, h2, h3, h4, h5, h6, h7, h8, h9⟩
  · rintro ⟨h1, h2, h3, h4, h5, h6, h7, h8, h9⟩; exact ⟨⟨h1, h2, h3, h4, h5, h6, h7⟩, h8, h9⟩
end Go.Air
set_option maxRecDepth 100000
namespace Go.Air
open Go.Air.Try
structure Buls (h : H) (v : V) (bs : List Bul) : Prop where
  sl : Sl 71 h v bs.length (bs.flatMap Bul.cells)
  ok : ∀ b ∈ bs, b.Ok
theorem Buls.ext {h h' : H} {v : V} {bs : List Bul} (q : Buls h v bs) (e : Ext h h') : Buls h' v bs := ⟨q.sl.ext e, q.ok⟩
theorem Buls.bare {h : H} {v : V} {bs : List Bul} (q : Buls h v bs) : Buls h.bare v bs := ⟨q.sl.bare, q.ok⟩
theorem flat_drop : ∀ {bs : List Bul} {i : Nat} {b : Bul}, (∀ b ∈ bs, b.Ok) → bs[i]? = some b → ∃ r, (bs.flatMap Bul.cells).drop (i * 71) = b.cells ++ r
  | [], i, b, _, h => by simp at h
  | x :: bs, 0, b, ho, h => by
    simp only [List.getElem?_cons_zero, Option.some.injEq] at h
    subst h
    exact ⟨bs.flatMap Bul.cells, by simp⟩
  | x :: bs, i + 1, b, ho, h => by
    obtain ⟨r, hr⟩ := flat_drop (fun b hb => ho b (List.mem_cons_of_mem _ hb)) (by simpa using h)
    refine ⟨r, ?_⟩
    rw [List.flatMap_cons, show (i + 1) * 71 = 71 + i * 71 by omega, ← List.drop_drop, List.drop_left' (cells_len (ho x (by simp)))]
    exact hr
section
variable {h : H} {v : V} {bs : List Bul} {i : Nat} {b : Bul} (q : Buls h v bs) (hb : bs[i]? = some b)
include q hb
theorem Buls.lt : i < bs.length := (List.getElem?_eq_some_iff.1 hb).1
theorem Buls.okAt : b.Ok := q.ok b (List.mem_of_getElem? hb)
theorem Buls.ix : ixV 71 v (.i .i64 (i : Int)) = some (.p (blkV v) (offV v + i * 71)) := q.sl.ix (Buls.lt q hb)
theorem Buls.ldn : ldnV h 71 (.p (blkV v) (offV v + i * 71)) = some (.agg b.cells) := by
  rw [q.sl.ldn (Buls.lt q hb)]
  obtain ⟨r, hr⟩ := flat_drop q.ok hb
  rw [hr, List.take_left' (cells_len (Buls.okAt q hb))]
theorem Buls.cell {k : Nat} (hk : k < 71) : (bs.flatMap Bul.cells)[i * 71 + k]? = b.cells[k]? := by
  obtain ⟨r, hr⟩ := flat_drop q.ok hb
  rw [← List.getElem?_drop, hr, List.getElem?_append_left (by rw [cells_len (Buls.okAt q hb)]; exact hk)]
theorem Buls.ld0 : ldV h (.p (blkV v) (offV v + i * 71 + 0)) = some (.i .i64 b.n) := by
  rw [q.sl.ld (Buls.lt q hb) (k := 0) (by omega), Buls.cell q hb (by omega)]; rfl
theorem Buls.ld1 : ldV h (.p (blkV v) (offV v + i * 71 + 1)) = some (.i .i64 b.at') := by
  rw [q.sl.ld (Buls.lt q hb) (by omega), Buls.cell q hb (by omega)]; rfl
theorem Buls.ld5 : ldV h (.p (blkV v) (offV v + i * 71 + 5)) = some (.s b.body) := by
  rw [q.sl.ld (Buls.lt q hb) (by omega), Buls.cell q hb (by omega)]; rfl
theorem Buls.ld39 : ldnV h 32 (.p (blkV v) (offV v + i * 71 + 39)) = some (.agg (b.prev.map u8)) := by
  have hlt := Buls.lt q hb
  have ho := Buls.okAt q hb
  obtain ⟨r, hr⟩ := flat_drop q.ok hb
  rcases q.sl with ⟨h0, _⟩ | ⟨k, off, cap, g, bl, rfl, _, hg, hrd⟩
  · omega
  · have key : bl.rd (off + (i * 71 + 39)) 32 = some (((bs.flatMap Bul.cells).drop (i * 71 + 39)).take 32) := rd_sub hrd (by
      have : (i + 1) * 71 ≤ bs.length * 71 := Nat.mul_le_mul_right _ (by omega)
      omega)
    have e : ((bs.flatMap Bul.cells).drop (i * 71 + 39)).take 32 = b.prev.map u8 := by
      rw [← List.drop_drop, hr, List.drop_append_of_le_length (by rw [cells_len ho]; omega)]
      have e2 : b.cells.drop 39 = b.prev.map u8 := by
        unfold Bul.cells
        rw [← List.append_assoc, List.drop_left' (by simp [Bul.head, ho.dig])]
      rw [e2, List.take_left' (by simp [ho.prev])]
    rw [e] at key
    rw [show off + (i * 71 + 39) = off + i * 71 + 39 by omega] at key
    simp only [blkV, offV, ldnV, hg, Option.bind_some]
    rw [key]; rfl
end
def zeroD : List Nat := List.replicate 32 0
def restAt (bs : List Bul) (b : Bul) : Nat → Int
  | 0 => if b.prev = zeroD then 0 else 90
  | j + 1 => match bs[j]? with
    | none => 0
    | some p => if b.at' < p.at' then 7 else if b.prev = digV p then 0 else 90
def errAt (bs : List Bul) (i : Nat) : Int := match bs[i]? with
  | none => 0
  | some b => if (!b.formed || !decide (b.n = (i : Int))) = true then 1 else restAt bs b i
theorem errAt_eq {bs : List Bul} {i : Nat} {b : Bul} (hb : bs[i]? = some b) : errAt bs i = if (!b.formed || !decide (b.n = (i : Int))) = true then 1 else restAt bs b i := by
  unfold errAt; rw [hb]
def linked (bs : List Bul) : Int × Int := match (List.range bs.length).find? fun i => decide (errAt bs i ≠ 0) with
  | some i => ((i : Int), errAt bs i)
  | none => (0, 0)
theorem linked_at {bs : List Bul} {i : Nat} (hi : i < bs.length) (hlo : ∀ j, j < i → errAt bs j = 0) (he : errAt bs i ≠ 0) : linked bs = ((i : Int), errAt bs i) := by
  unfold linked
  have : (List.range bs.length).find? (fun i => decide (errAt bs i ≠ 0)) = some i := by
    rw [List.find?_range_eq_some]
    exact ⟨by simpa using he, by simpa using hi, fun j hj => by simpa using hlo j hj⟩
  rw [this]
theorem linked_none {bs : List Bul} (hlo : ∀ j, j < bs.length → errAt bs j = 0) : linked bs = (0, 0) := by
  unfold linked
  have : (List.range bs.length).find? (fun i => decide (errAt bs i ≠ 0)) = none := by
    rw [List.find?_eq_none]
    intro j hj
    simpa using hlo j (List.mem_range.1 hj)
  rw [this]
theorem formed_of {bs : List Bul} {i : Nat} {b : Bul} (hb : bs[i]? = some b) (he : errAt bs i = 0) : b.formed = true := by
  unfold errAt at he
  rw [hb] at he
  simp only at he
  split at he
  · cases he
  · rename_i h
    simp at h
    exact h.1
end Go.Air
set_option maxRecDepth 100000
namespace Go.Air
open Go.Air.Try
theorem t116 : tb1 34 = some a34 := by kernel_rfl
theorem fn_rlinked {h : H} (ht : Tb4 h) {v : V} {bs : List Bul} {i : Nat} {b : Bul} (q : Buls h v bs) (hb : bs[i]? = some b) (hn : bs.length ≤ 1000) (hlo : ∀ j, j < i → errAt bs j = 0) :
    WC tb1 (.fn 34 [] []) [v, .i .i64 (i : Int)] h fun u h' => u = .i .i64 (errAt bs i) ∧ Ext h h' := by
  refine (WC_in t116).2 ?_
  have hlt := Buls.lt q hb
  have ho := Buls.okAt q hb
  have h2000 : ¬ (2000 : Int) ≤ (i : Int) := by omega
  simp only [go_sem, ↓reduceIte, r34_0, r34_1, r34_3, h2000, Buls.ix q hb, Buls.ldn q hb]
  refine (fn_wellformed ht ho).mono ?_
  rintro u h1 ⟨rfl, e1⟩
  have q1 := q.ext e1
  have hE := errAt_eq hb
  cases hf : b.formed
  · simp only [go_sem, ↓reduceIte, r34_4, r34_5]
    refine ⟨by rw [hE, hf]; rfl, e1⟩
  cases hi : decide (b.n = (i : Int))
  · have hne : binV .neq (.i .i64 b.n) (.i .i64 (i : Int)) = some (.b true) := by simp [binV, binI, of_decide_eq_false hi]
    simp only [go_sem, ↓reduceIte, r34_4, r34_5, Buls.ix q1 hb, Buls.ld0 q1 hb, hne]
    refine ⟨by rw [hE, hf, hi]; rfl, e1⟩
  have hne : binV .neq (.i .i64 b.n) (.i .i64 (i : Int)) = some (.b false) := by simp [binV, binI, of_decide_eq_true hi]
  rw [hf, hi] at hE
  simp only [Bool.not_true, Bool.or_self, Bool.false_eq_true, if_false] at hE
  have hz : (zeroD.map u8 : List V) = List.replicate 32 (.i .u8 0) := by rw [zero_u8]; rfl
  have e2 : Ext h1 (h1.new (.cells (List.replicate 32 (V.i .u8 0)))) := (Ext.refl h1).new _
  have q2 := q1.ext e2
  have e12 := e1.trans e2
  have g2 : (h1.new (.cells (List.replicate 32 (V.i .u8 0)))).get h1.next = some (.cells (List.replicate 32 (V.i .u8 0))) := get_new_eq rfl
  have n2 : h1.next < (h1.new (.cells (List.replicate 32 (V.i .u8 0)))).next := by simp
  by_cases hpos : (0 : Int) < (i : Int)
  · obtain ⟨j, hij⟩ : ∃ j, i = j + 1 := ⟨i - 1, by omega⟩
    have hjl : j < bs.length := by omega
    have hp : bs[j]? = some bs[j] := List.getElem?_eq_getElem hjl
    generalize bs[j] = pr at hp
    have hpo := q.ok pr (List.mem_of_getElem? hp)
    have hsub : IntKind.i64.wrap ((i : Int) - 1) = (j : Int) := by rw [wrap_in (by omega) (by omega)]; omega
    have hr : restAt bs b i = if b.at' < pr.at' then 7 else if b.prev = digV pr then 0 else 90 := by rw [hij]; simp only [restAt, hp]
    rw [hr] at hE
    simp only [go_sem, ↓reduceIte, r34_4, r34_6, r34_7, r34_8, Buls.ix q1 hb, Buls.ld0 q1 hb, hne, hpos, hsub, Buls.ix q2 hp, Buls.ldn q2 hp]
    generalize h1.new (.cells (List.replicate 32 (V.i .u8 0))) = hh at e2 q2 e12 g2 n2
    refine (fn_rDigest (ht.ext e12) hpo).mono ?_
    rintro u h3 ⟨rfl, e3⟩
    have e13 := e12.trans e3
    have g3 : h3.get h1.next = some (.cells (List.replicate 32 (V.i .u8 0))) := e3.get n2 g2
    have hst := blk_stn (k := 32) (d := (digV pr).map u8) g3 rfl (by simpa using digV_len pr) (u8s_one _)
    have e4 : Ext h1 (h3.put h1.next (.cells ((digV pr).map u8))) := (e2.trans e3).put (Nat.le_refl _) _
    have q4 := q1.ext e4
    have hz4 : ldnV (h3.put h1.next (.cells ((digV pr).map u8))) 32 (.p h1.next 0) = some (.agg ((digV pr).map u8)) := blk_ldn get_put_eq (by simpa using digV_len pr)
    have e14 := e1.trans e4
    simp only [go_sem, ↓reduceIte, hst]
    generalize h3.put h1.next (.cells ((digV pr).map u8)) = h4 at e4 q4 hz4 e14
    refine WE_gen (fun t => t.length = 52 ∧ nth t 0 = v ∧ nth t 1 = .i .i64 (i : Int) ∧ nth t 6 = .p h1.next 0) (by simp only [go_sem, ↓reduceIte]) ?_
    rintro t ⟨tl, t0, t1, t6⟩
    have hq : eqV (.agg (List.replicate 32 (.i .u8))) (.agg (b.prev.map u8)) (.agg ((digV pr).map u8)) = some (decide (b.prev = digV pr)) := eq_u8s ho.prev (digV_len pr)
    by_cases hday : b.at' < pr.at'
    · simp only [go_sem, ↓reduceIte, r34_9, r34_10, tl, t0, t1, hsub, Buls.ix q4 hb, Buls.ld1 q4 hb, Buls.ix q4 hp, Buls.ld1 q4 hp, hday]
      exact ⟨by rw [hE, if_pos hday], e14⟩
    · cases hpd : decide (b.prev = digV pr)
      · rw [hpd] at hq
        simp only [go_sem, ↓reduceIte, r34_9, r34_11, r34_12, tl, t0, t1, t6, hsub, Buls.ix q4 hb, Buls.ld1 q4 hb, Buls.ix q4 hp, Buls.ld1 q4 hp, hday, Buls.ld39 q4 hb, hz4, hq]
        exact ⟨by rw [hE, if_neg hday, if_neg (of_decide_eq_false hpd)], e14⟩
      · rw [hpd] at hq
        simp only [go_sem, ↓reduceIte, r34_9, r34_11, r34_13, tl, t0, t1, t6, hsub, Buls.ix q4 hb, Buls.ld1 q4 hb, Buls.ix q4 hp, Buls.ld1 q4 hp, hday, Buls.ld39 q4 hb, hz4, hq]
        exact ⟨by rw [hE, if_neg hday, if_pos (of_decide_eq_true hpd)], e14⟩
  · have hi0 : i = 0 := by omega
    have hr : restAt bs b i = if b.prev = zeroD then 0 else 90 := by rw [hi0]; rfl
    rw [hr] at hE
    have hz2 : ldnV (h1.new (.cells (List.replicate 32 (V.i .u8 0)))) 32 (.p h1.next 0) = some (.agg (zeroD.map u8)) := by rw [hz]; exact blk_ldn g2 rfl
    have hq : eqV (.agg (List.replicate 32 (.i .u8))) (.agg (b.prev.map u8)) (.agg (zeroD.map u8)) = some (decide (b.prev = zeroD)) := eq_u8s ho.prev rfl
    cases hp : decide (b.prev = zeroD)
    · rw [hp] at hq
      simp only [go_sem, ↓reduceIte, r34_4, r34_6, r34_7, r34_11, r34_12, Buls.ix q1 hb, Buls.ld0 q1 hb, hne, hpos, Buls.ix q2 hb, Buls.ld39 q2 hb, hz2, hq, H.back_bare]
      exact ⟨by rw [hE, if_neg (of_decide_eq_false hp)], e12⟩
    · rw [hp] at hq
      simp only [go_sem, ↓reduceIte, r34_4, r34_6, r34_7, r34_11, r34_13, Buls.ix q1 hb, Buls.ld0 q1 hb, hne, hpos, Buls.ix q2 hb, Buls.ld39 q2 hb, hz2, hq, H.back_bare]
      exact ⟨by rw [hE, if_pos (of_decide_eq_true hp)], e12⟩
end Go.Air
set_option maxRecDepth 100000
namespace Go.Air
open Go.Air.Try
def linkV (bs : List Bul) : V := .tup [.i .i64 (linked bs).1, .i .i64 (linked bs).2]
theorem t58 : tb1 18 = some a18 := by kernel_rfl
theorem fn_rLinked {h : H} (ht : Tb4 h) {v : V} {bs : List Bul} (q : Buls h v bs) (hn : bs.length ≤ 1000) : WC tb1 (.fn 18 [] []) [v] h fun u h' => u = linkV bs ∧ Ext h h' := by
  refine (WC_in t58).2 ?_
  have hlv := q.sl.len
  simp only [go_sem, ↓reduceIte, r18_0, r18_1]
  refine W_while (fun k t h' => ∃ i, k = bs.length - i ∧ i ≤ bs.length ∧ t.length = 19 ∧ nth t 0 = v ∧ nth t 4 = .i .i64 (i : Int) ∧ Ext h h' ∧ ∀ j, j < i → errAt bs j = 0) ?_ bs.length ?_
  · rintro k t h' ⟨i, rfl, hi, tl, t0, t4, e, hlo⟩
    unfold b18_0
    have hl' := (q.ext e).sl.len
    by_cases hin : i < bs.length
    · have hI : (i : Int) < (bs.length : Int) := by omega
      have hb : bs[i]? = some bs[i] := List.getElem?_eq_getElem hin
      simp only [go_sem, ↓reduceIte, r18_2, r18_4, tl, t0, t4, hl', hI]
      refine (fn_rlinked (ht.ext e) (q.ext e) hb hn hlo).mono ?_
      rintro u h2 ⟨rfl, e2⟩
      by_cases hz : errAt bs i = 0
      · rw [hz]
        simp only [go_sem, ↓reduceIte, r18_3, r18_5, tl, t0, t4, wrap_succ (show i < 1000000000 by omega)]
        refine ⟨bs.length - (i + 1), by omega, i + 1, rfl, by omega, rfl, e.trans e2, fun j hj => ?_⟩
        by_cases hji : j < i
        · exact hlo j hji
        · rw [show j = i by omega]; exact hz
      · have hne : binV .neq (.i .i64 (errAt bs i)) (.i .i64 0) = some (.b true) := by simp [binV, binI, hz]
        simp only [go_sem, ↓reduceIte, r18_5, r18_6, tl, t4, hne]
        refine ⟨?_, e.trans e2⟩
        unfold linkV
        rw [linked_at hin hlo hz]
    · have hI : ¬ (i : Int) < (bs.length : Int) := by omega
      obtain rfl : i = bs.length := by omega
      simp only [go_sem, ↓reduceIte, r18_2, r18_7, tl, t0, t4, hl', hI]
      refine ⟨?_, e⟩
      unfold linkV
      rw [linked_none hlo]
  · exact ⟨0, by omega, by omega, by simp only [go_sem, ↓reduceIte], by simp only [go_sem, ↓reduceIte], by simp only [go_sem, ↓reduceIte], .refl h, fun j hj => by omega⟩
theorem bl39 {h : H} {k : Nat} {b : Bul} (q : h.get k = some (.cells b.cells)) (hb : b.Ok) : ldnV h 32 (.p k 39) = some (.agg (b.prev.map u8)) := by
  have : cut b.cells 39 32 = some (b.prev.map u8) := by
    refine cut_eq.2 ⟨by rw [cells_len hb]; omega, ?_⟩
    have e : b.cells.drop 39 = b.prev.map u8 := by
      unfold Bul.cells
      rw [← List.append_assoc, List.drop_left' (by simp [Bul.head, hb.dig])]
    rw [e, List.take_of_length_le (by simp [hb.prev])]
  simp [ldnV, q, Blk.rd, this]
def c27 : C := .seq (.ops r13_7) (.cond (.t 22) (.seq (.ops r13_8) (.ret)) (.seq (.ops r13_9) (.cond (.t 26) (.seq (.ops r13_10) (.ret)) (.seq (.draw r13_11 []) (.cond (.t 37) (.seq (.ops r13_12) (.ret)) (.seq (.ops r13_13) (.cond (.t 52) (.seq (.ops r13_14) (.ret)) (.skip))))))))
def Bef (bs : List Bul) (i : Nat) (bef : List Nat) : Prop := bef.length = 32 ∧ match i with
  | 0 => bef = zeroD
  | j + 1 => ∃ p, bs[j]? = some p ∧ bef = digV p
theorem restAt_bef {bs : List Bul} {b : Bul} {bef : List Nat} {i : Nat} (hB : Bef bs i bef) (hday : i = 0 ∨ ∃ p, bs[i - 1]? = some p ∧ ¬ b.at' < p.at') : restAt bs b i = if b.prev = bef then 0 else 90 := by
  cases i with
  | zero => obtain ⟨_, rfl⟩ := hB; rfl
  | succ j =>
    obtain ⟨_, p, hp, rfl⟩ := hB
    rcases hday with h | ⟨p', hp', h⟩
    · omega
    · rw [Nat.add_sub_cancel, hp] at hp'
      cases hp'
      simp only [restAt, hp, if_neg h]
theorem W27 {h hh : H} (ht : Tb4 h) {v : V} {bs : List Bul} {t : List V} {i k5 k6 : Nat} {b : Bul} {bef : List Nat} {Q : Out → List V → H → Prop} (q : Buls h v bs) (hn : bs.length ≤ 1000) (hb : bs[i]? = some b) (hB : Bef bs i bef)
    (tl : t.length = 59) (t0 : nth t 0 = v) (t4 : nth t 4 = .i .i64 (i : Int)) (t5 : nth t 5 = .p k5 0) (t6 : nth t 6 = .p k6 0) (t7 : nth t 7 = v) (t8 : nth t 8 = .i .i64 (bs.length : Int)) (t9 : nth t 9 = .i .i64 (i : Int))
    (e : Ext h hh) (g5 : hh.get k5 = some (.cells b.cells)) (g6 : hh.get k6 = some (.cells (bef.map u8))) (n5 : k5 < hh.next) (n6 : k6 < hh.next)
    (hret : ∀ t' h', nth t' 2 = .i .i64 (i : Int) → nth t' 3 = .i .i64 (errAt bs i) → errAt bs i ≠ 0 → Ext h h' → Q .ret t' h')
    (hnorm : ∀ t' h', t'.length = 59 → nth t' 0 = v → nth t' 7 = v → nth t' 8 = .i .i64 (bs.length : Int) → nth t' 9 = .i .i64 (i : Int) → errAt bs i = 0 → Ext h h' → Q .norm t' h') : W tb1 c27 t hh Q := by
  have hlt := Buls.lt q hb
  have ho := Buls.okAt q hb
  have h2000 : ¬ (2000 : Int) ≤ (i : Int) := by omega
  have hE := errAt_eq hb
  unfold c27
  simp only [go_sem, ↓reduceIte, r13_7, tl, t4, h2000]
  refine WL_gen (fun t => t.length = 59 ∧ nth t 0 = v ∧ nth t 4 = .i .i64 (i : Int) ∧ nth t 5 = .p k5 0 ∧ nth t 6 = .p k6 0 ∧ nth t 7 = v ∧ nth t 8 = .i .i64 (bs.length : Int) ∧ nth t 9 = .i .i64 (i : Int)) (by simp only [go_sem, ↓reduceIte, tl, t0, t4, t5, t6, t7, t8, t9]) ?_
  clear tl t0 t4 t5 t6 t7 t8 t9
  rintro t ⟨tl, t0, t4, t5, t6, t7, t8, t9⟩
  simp only [go_sem, ↓reduceIte, r13_9, tl, t5, bl71 g5 ho]
  refine (fn_formed (ht.ext e) ho).mono ?_
  rintro u h1 ⟨rfl, e1⟩
  have e01 := e.trans e1
  have g5 := e1.get n5 g5
  have g6 := e1.get n6 g6
  have q1 := q.ext e01
  cases hf : b.formed
  · have hx : errAt bs i = 1 := by rw [hE, hf]; rfl
    simp only [go_sem, ↓reduceIte, r13_10, tl, t4]
    exact hret _ _ (by simp only [go_sem, ↓reduceIte, tl]) (by simp only [go_sem, ↓reduceIte, tl, hx]) (by rw [hx]; decide) e01
  cases hi : decide (b.n = (i : Int))
  · have hx : errAt bs i = 1 := by rw [hE, hf, hi]; rfl
    have hne : binV .neq (.i .i64 b.n) (.i .i64 (i : Int)) = some (.b true) := by simp [binV, binI, of_decide_eq_false hi]
    simp only [go_sem, ↓reduceIte, r13_10, tl, t4, t5, bl0 g5, hne]
    exact hret _ _ (by simp only [go_sem, ↓reduceIte, tl]) (by simp only [go_sem, ↓reduceIte, tl, hx]) (by rw [hx]; decide) e01
  have hne : binV .neq (.i .i64 b.n) (.i .i64 (i : Int)) = some (.b false) := by simp [binV, binI, of_decide_eq_true hi]
  rw [hf, hi] at hE
  simp only [Bool.not_true, Bool.or_self, Bool.false_eq_true, if_false] at hE
  simp only [go_sem, ↓reduceIte, tl, t4, t5, bl0 g5, hne]
  refine WE_gen (fun t => t.length = 59 ∧ nth t 0 = v ∧ nth t 4 = .i .i64 (i : Int) ∧ nth t 5 = .p k5 0 ∧ nth t 6 = .p k6 0 ∧ nth t 7 = v ∧ nth t 8 = .i .i64 (bs.length : Int) ∧ nth t 9 = .i .i64 (i : Int)) (by simp only [go_sem, ↓reduceIte, tl, t0, t4, t5, t6, t7, t8, t9]) ?_
  clear tl t0 t4 t5 t6 t7 t8 t9
  rintro t ⟨tl, t0, t4, t5, t6, t7, t8, t9⟩
  have hq : eqV (.agg (List.replicate 32 (.i .u8))) (.agg (b.prev.map u8)) (.agg (bef.map u8)) = some (decide (b.prev = bef)) := eq_u8s ho.prev hB.1
  have l39 : ldnV h1 32 (.p k5 39) = some (.agg (b.prev.map u8)) := bl39 g5 ho
  have l6 : ldnV h1 32 (.p k6 0) = some (.agg (bef.map u8)) := blk_ldn g6 (by simpa using hB.1)
  have fin : ∀ t' : List V, t'.length = 59 ∧ nth t' 0 = v ∧ nth t' 4 = .i .i64 (i : Int) ∧ nth t' 5 = .p k5 0 ∧ nth t' 6 = .p k6 0 ∧ nth t' 7 = v ∧ nth t' 8 = .i .i64 (bs.length : Int) ∧ nth t' 9 = .i .i64 (i : Int) →
      restAt bs b i = (if b.prev = bef then 0 else 90) → WL tb1 r13_13 t' h1 (Kseq tb1 (.cond (.t 52) (.seq (.ops r13_14) (.ret)) (.skip)) Q) := by
    rintro t' ⟨tl, t0, t4, t5, t6, t7, t8, t9⟩ hr
    rw [hr] at hE
    cases hp : decide (b.prev = bef)
    · rw [hp] at hq
      have hx : errAt bs i = 90 := by rw [hE, if_neg (of_decide_eq_false hp)]
      simp only [go_sem, ↓reduceIte, r13_13, r13_14, tl, t4, t5, t6, l39, l6, hq]
      exact hret _ _ (by simp only [go_sem, ↓reduceIte, tl]) (by simp only [go_sem, ↓reduceIte, tl, hx]) (by rw [hx]; decide) e01
    · rw [hp] at hq
      have hx : errAt bs i = 0 := by rw [hE, if_pos (of_decide_eq_true hp)]
      simp only [go_sem, ↓reduceIte, r13_13, tl, t4, t5, t6, l39, l6, hq]
      exact hnorm _ _ (by simp only [go_sem, ↓reduceIte, tl]) (by simp only [go_sem, ↓reduceIte, t0]) (by simp only [go_sem, ↓reduceIte, t7]) (by simp only [go_sem, ↓reduceIte, t8]) (by simp only [go_sem, ↓reduceIte, t9]) hx e01
  by_cases hpos : (0 : Int) < (i : Int)
  · obtain ⟨j, hij⟩ : ∃ j, i = j + 1 := ⟨i - 1, by omega⟩
    have hjl : j < bs.length := by omega
    have hp : bs[j]? = some bs[j] := List.getElem?_eq_getElem hjl
    generalize bs[j] = pr at hp
    have hsub : IntKind.i64.wrap ((i : Int) - 1) = (j : Int) := by rw [wrap_in (by omega) (by omega)]; omega
    by_cases hday : b.at' < pr.at'
    · have hx : errAt bs i = 7 := by rw [hE, hij]; simp only [restAt, hp, if_pos hday]
      simp only [go_sem, ↓reduceIte, r13_11, r13_12, tl, t0, t4, t5, hpos, hsub, bl1 g5, Buls.ix q1 hp, Buls.ld1 q1 hp, hday]
      exact hret _ _ (by simp only [go_sem, ↓reduceIte, tl]) (by simp only [go_sem, ↓reduceIte, tl, hx]) (by rw [hx]; decide) e01
    · simp only [go_sem, ↓reduceIte, r13_11, tl, t0, t4, t5, hpos, hsub, bl1 g5, Buls.ix q1 hp, Buls.ld1 q1 hp, hday]
      exact fin _ (by simp only [go_sem, ↓reduceIte, tl, t0, t4, t5, t6, t7, t8, t9]) (restAt_bef hB (.inr ⟨pr, by rw [hij, Nat.add_sub_cancel]; exact hp, hday⟩))
  · simp only [go_sem, ↓reduceIte, r13_11, tl, t0, t4, t5, hpos]
    exact fin _ (by simp only [go_sem, ↓reduceIte, tl, t0, t4, t5, t6, t7, t8, t9]) (restAt_bef hB (.inl (by omega)))
theorem t27 : tb1 13 = some a13 := by kernel_rfl
theorem fn_Linked {h : H} (ht : Tb4 h) {v : V} {bs : List Bul} (q : Buls h v bs) (hn : bs.length ≤ 1000) : WC tb1 (.fn 13 [] []) [v] h fun u h' => u = linkV bs ∧ Ext h h' := by
  refine (WC_in t27).2 ?_
  have hlv := q.sl.len
  have hzc : [V.i .i64 0, .i .i64 0, .i .i64 0] ++ [.i .u8 0] ++ [.b false] ++ [.s []] ++ [.i .i64 0] ++ List.replicate 64 (.i .u8 0) = zc := rfl
  have hz : (zeroD.map u8 : List V) = List.replicate 32 (.i .u8 0) := by rw [zero_u8]; rfl
  simp only [go_sem, ↓reduceIte, r13_0, r13_1, hlv]
  refine W_while (fun k t h' => ∃ i, k = bs.length - i ∧ i ≤ bs.length ∧ t.length = 59 ∧ nth t 0 = v ∧ nth t 7 = v ∧ nth t 8 = .i .i64 (bs.length : Int) ∧ nth t 9 = .i .i64 (i : Int) ∧ Ext h h' ∧ ∀ j, j < i → errAt bs j = 0) ?_ bs.length ?_
  · rintro k t h' ⟨i, rfl, hi, tl, t0, t7, t8, t9, e, hlo⟩
    unfold b13_0
    by_cases hin : i < bs.length
    · have hI : (i : Int) < (bs.length : Int) := by omega
      have hb : bs[i]? = some bs[i] := List.getElem?_eq_getElem hin
      generalize bs[i] = b at hb
      have ho := q.ok b (List.mem_of_getElem? hb)
      have hE := errAt_eq hb
      have h2000 : ¬ (2000 : Int) ≤ (i : Int) := by omega
      have q' := q.ext e
      have x2 : (h'.new (.cells zc)).get h'.next = some (.cells zeroB.cells) := get_new_eq rfl
      have s2 := blk_stn (k := 71) (d := b.cells) x2 (cells_len zero_ok) (cells_len ho) (cells_one _)
      have e2 : Ext h' (((h'.new (.cells zc)).put h'.next (.cells b.cells)).new (.cells (List.replicate 32 (V.i .u8 0)))) := ((((Ext.refl h').new _).put (Nat.le_refl _) _).new _)
      have n2 : (((h'.new (.cells zc)).put h'.next (.cells b.cells)).new (.cells (List.replicate 32 (V.i .u8 0)))).next = h'.next + 2 := by simp
      have g5 : (((h'.new (.cells zc)).put h'.next (.cells b.cells)).new (.cells (List.replicate 32 (V.i .u8 0)))).get h'.next = some (.cells b.cells) := by rw [get_new_lt (by simp), get_put_eq]
      have g6 : (((h'.new (.cells zc)).put h'.next (.cells b.cells)).new (.cells (List.replicate 32 (V.i .u8 0)))).get (h'.next + 1) = some (.cells (List.replicate 32 (V.i .u8 0))) := get_new_eq (by simp)
      simp only [hzc, go_sem, ↓reduceIte, r13_2, r13_3, r13_4, tl, t0, t7, t8, t9, hI, Buls.ix q' hb, Buls.ldn q' hb, s2]
      rw [show ((h'.new (.cells zc)).put h'.next (.cells b.cells)).next = h'.next + 1 from rfl]
      generalize ((h'.new (.cells zc)).put h'.next (.cells b.cells)).new (.cells (List.replicate 32 (V.i .u8 0))) = h1 at e2 n2 g5 g6
      have e12 := e.trans e2
      have step : ∀ (t : List V) (hh : H) (bef : List Nat) (Q : Out → List V → H → Prop), Bef bs i bef → Ext h' hh → hh.get h'.next = some (.cells b.cells) → hh.get (h'.next + 1) = some (.cells (bef.map u8)) → h'.next + 1 < hh.next →
          (t.length = 59 ∧ nth t 0 = v ∧ nth t 4 = .i .i64 (i : Int) ∧ nth t 5 = .p h'.next 0 ∧ nth t 6 = .p (h'.next + 1) 0 ∧ nth t 7 = v ∧ nth t 8 = .i .i64 (bs.length : Int) ∧ nth t 9 = .i .i64 (i : Int)) →
          (∀ t' h', nth t' 2 = .i .i64 (i : Int) → nth t' 3 = .i .i64 (errAt bs i) → errAt bs i ≠ 0 → Ext h h' → Q .ret t' h') →
          (∀ t' h', t'.length = 59 → nth t' 0 = v → nth t' 7 = v → nth t' 8 = .i .i64 (bs.length : Int) → nth t' 9 = .i .i64 (i : Int) → errAt bs i = 0 → Ext h h' → Q .norm t' h') → W tb1 c27 t hh Q := by
        rintro t hh bef Q hB eh x5 x6 nn ⟨y1, y2, y3, y4, y5, y6, y7, y8⟩ hr hn'
        exact W27 ht q hn hb hB y1 y2 y3 y4 y5 y6 y7 y8 (e.trans eh) x5 x6 (by omega) nn hr hn'
      have hret : ∀ t' h', nth t' 2 = .i .i64 (i : Int) → nth t' 3 = .i .i64 (errAt bs i) → errAt bs i ≠ 0 → Ext h h' → resOk (resultsOf t' h' [.tmp 2, .tmp 3]) h' (fun u h' => u = linkV bs ∧ Ext h h') := by
        intro t' h' z2 z3 hz ex
        refine ⟨?_, ex⟩
        unfold linkV
        rw [linked_at hin hlo hz]
        simp only [z2, z3, resultOf, packR]
      by_cases hpos : (0 : Int) < (i : Int)
      · obtain ⟨j, hij⟩ : ∃ j, i = j + 1 := ⟨i - 1, by omega⟩
        have hjl : j < bs.length := by omega
        have hp : bs[j]? = some bs[j] := List.getElem?_eq_getElem hjl
        generalize bs[j] = pr at hp
        have hpo := q.ok pr (List.mem_of_getElem? hp)
        have hsub : IntKind.i64.wrap ((i : Int) - 1) = (j : Int) := by rw [wrap_in (by omega) (by omega)]; omega
        have hpf := formed_of hp (hlo j (by omega))
        have q1 := q.ext e12
        simp only [go_sem, ↓reduceIte, r13_5, r13_6, tl, t0, hpos, hsub, Buls.ix q1 hp, Buls.ldn q1 hp]
        refine (fn_digest (ht.ext e12) hpo).mono ?_
        rintro u h3 ⟨rfl, e3⟩
        have hdv : digV pr = Sha.sum (digT pr) := by unfold digV; rw [hpf]; rfl
        rw [← hdv]
        have x5 := e3.get (by omega) g5
        have x6 := e3.get (by omega) g6
        have hst := blk_stn (k := 32) (d := (digV pr).map u8) x6 rfl (by simpa using digV_len pr) (u8s_one _)
        simp only [go_sem, ↓reduceIte, tl, hst]
        refine W_ops'.1 (W_seq'.1 (step _ _ (digV pr) _ ⟨digV_len pr, by rw [hij]; exact ⟨pr, hp, rfl⟩⟩ ((e2.trans e3).put (by omega) _) ((get_put_ne (by omega)).trans x5) get_put_eq (by have := e3.nx; show h'.next + 1 < h3.next; omega) ?_ ?_ ?_))
        · simp only [go_sem, ↓reduceIte, tl, t0, t7, t8, t9]
        · intro t' h' z2 z3 hz ex
          simp only [go_sem]
          exact hret t' h' z2 z3 hz ex
        · intro t' h' y1 y2 y3 y4 y5 hz ex
          simp only [go_sem, ↓reduceIte, r13_15, y1, y2, y3, y4, y5, wrap_succ (show i < 1000000000 by omega)]
          refine ⟨bs.length - (i + 1), by omega, i + 1, rfl, by omega, rfl, ex, fun j hj => ?_⟩
          by_cases hji : j < i
          · exact hlo j hji
          · rw [show j = i by omega]; exact hz
      · simp only [go_sem, ↓reduceIte, r13_5, tl, hpos]
        refine W_ops'.1 (W_seq'.1 (step _ _ zeroD _ ⟨rfl, by rw [show i = 0 by omega]⟩ e2 g5 (by rw [hz]; exact g6) (by omega) ?_ ?_ ?_))
        · simp only [go_sem, ↓reduceIte, tl, t0, t7, t8, t9]
        · intro t' h' z2 z3 hz ex
          simp only [go_sem]
          exact hret t' h' z2 z3 hz ex
        · intro t' h' y1 y2 y3 y4 y5 hz ex
          simp only [go_sem, ↓reduceIte, r13_15, y1, y2, y3, y4, y5, wrap_succ (show i < 1000000000 by omega)]
          refine ⟨bs.length - (i + 1), by omega, i + 1, rfl, by omega, rfl, ex, fun j hj => ?_⟩
          by_cases hji : j < i
          · exact hlo j hji
          · rw [show j = i by omega]; exact hz
    · have hI : ¬ (i : Int) < (bs.length : Int) := by omega
      obtain rfl : i = bs.length := by omega
      simp only [go_sem, ↓reduceIte, r13_2, r13_16, tl, t8, t9, hI]
      refine ⟨?_, e⟩
      unfold linkV
      rw [linked_none hlo]
  · exact ⟨0, by omega, by omega, by simp only [go_sem, ↓reduceIte], by simp only [go_sem, ↓reduceIte], by simp only [go_sem, ↓reduceIte], by simp only [go_sem, ↓reduceIte], by simp only [go_sem, ↓reduceIte], .refl h, fun j hj => by omega⟩
end Go.Air
set_option maxRecDepth 100000
namespace Go.Air
open Go.Air.Try
def few (bs : List Bul) (m : Nat) : Bool := decide (bs.length ≤ m) && bs.all fun b => decide (b.body.length ≤ 1200)
theorem t24 : tb1 10 = some a10 := by kernel_rfl
theorem fn_few {h : H} {v : V} {bs : List Bul} (q : Buls h v bs) {m : Nat} (hm : m ≤ 1000) : WC tb1 (.fn 10 [] []) [v, .i .i64 (m : Int)] h fun u h' => u = .b (few bs m) ∧ Ext h h' := by
  refine (WC_in t24).2 ?_
  have hlv := q.sl.len
  by_cases hl : (m : Int) < (bs.length : Int)
  · simp only [go_sem, ↓reduceIte, r10_0, r10_1, r10_2, hlv, hl]
    refine ⟨?_, .refl h⟩
    unfold few
    rw [decide_eq_false (by omega)]
    rfl
  simp only [go_sem, ↓reduceIte, r10_0, r10_1, r10_3, hlv, hl]
  refine W_while (fun k t h' => ∃ i, k = bs.length - i ∧ i ≤ bs.length ∧ t.length = 23 ∧ nth t 0 = v ∧ nth t 5 = .i .i64 (i : Int) ∧ h' = h ∧ ∀ j b, j < i → bs[j]? = some b → b.body.length ≤ 1200) ?_ bs.length ?_
  · rintro k t h' ⟨i, rfl, hi, tl, t0, t5, rfl, hlo⟩
    unfold b10_0
    by_cases hin : i < bs.length
    · have hI : (i : Int) < (bs.length : Int) := by omega
      have hb : bs[i]? = some bs[i] := List.getElem?_eq_getElem hin
      generalize bs[i] = b at hb
      by_cases hx : (1200 : Int) < (b.body.length : Int)
      · simp only [go_sem, ↓reduceIte, r10_4, r10_6, r10_7, tl, t0, t5, hlv, hI, Buls.ix q hb, Buls.ld5 q hb, hx]
        refine ⟨?_, .refl _⟩
        unfold few
        have : (bs.all fun b => decide (b.body.length ≤ 1200)) = false := by
          rw [Bool.eq_false_iff]
          intro hall
          have := List.all_eq_true.1 hall b (List.mem_of_getElem? hb)
          simp at this
          omega
        rw [this, Bool.and_false]
      · simp only [go_sem, ↓reduceIte, r10_4, r10_5, r10_6, tl, t0, t5, hlv, hI, Buls.ix q hb, Buls.ld5 q hb, hx, wrap_succ (show i < 1000000000 by omega)]
        refine ⟨bs.length - (i + 1), by omega, i + 1, rfl, by omega, rfl, fun j b' hj hb' => ?_⟩
        by_cases hji : j < i
        · exact hlo j b' hji hb'
        · obtain rfl : j = i := by omega
          rw [hb] at hb'
          cases hb'
          omega
    · have hI : ¬ (i : Int) < (bs.length : Int) := by omega
      obtain rfl : i = bs.length := by omega
      simp only [go_sem, ↓reduceIte, r10_4, r10_8, tl, t0, t5, hlv, hI]
      refine ⟨?_, .refl _⟩
      unfold few
      rw [decide_eq_true (by omega)]
      have : (bs.all fun b => decide (b.body.length ≤ 1200)) = true := by
        rw [List.all_eq_true]
        intro b hb
        obtain ⟨j, hj⟩ := List.getElem?_of_mem hb
        simpa using hlo j b (List.getElem?_eq_some_iff.1 hj).1 hj
      rw [this]; rfl
  · exact ⟨0, by omega, by omega, by simp only [go_sem, ↓reduceIte], by simp only [go_sem, ↓reduceIte], by simp only [go_sem, ↓reduceIte], rfl, fun j b hj => by omega⟩
end Go.Air
set_option maxRecDepth 100000
namespace Go.Air
open Go.Air.Try
theorem errAt_take {bs : List Bul} {n j : Nat} (hj : j < n) : errAt (bs.take n) j = errAt bs j := by
  unfold errAt
  rw [List.getElem?_take_of_lt hj]
  cases bs[j]? with
  | none => rfl
  | some b =>
    simp only
    cases j with
    | zero => rfl
    | succ i => simp only [restAt, List.getElem?_take_of_lt (show i < n by omega)]
theorem linked_ok {bs : List Bul} (h : (linked bs).2 = 0) : ∀ j, j < bs.length → errAt bs j = 0 := by
  intro j hj
  unfold linked at h
  split at h
  · rename_i i hi
    have := List.find?_some hi
    simp at this
    exact absurd h this
  · rename_i hi
    rw [List.find?_eq_none] at hi
    have := hi j (List.mem_range.2 hj)
    simpa using this
theorem few_len {bs : List Bul} {m : Nat} (h : few bs m = true) : bs.length ≤ m := by
  unfold few at h
  rw [Bool.and_eq_true] at h
  exact of_decide_eq_true h.1
end Go.Air
set_option maxRecDepth 100000
namespace Go.Air
open Go.Air.Try
theorem fillB (t : List V) (x0 x1 x2 x3 x5 x6 x7 : X) {n d a s : Int} {k : Nat} {body l : List Nat} (h0 : x0.ev t = .i .i64 n) (h1 : x1.ev t = .i .i64 d) (h2 : x2.ev t = .i .i64 a) (h3 : x3.ev t = .i .u8 (k : Int)) (h5 : x5.ev t = .s body) (h6 : x6.ev t = .i .i64 s) (h7 : x7.ev t = .agg (l.map u8)) (hl : l.length = 32) :
    fill t zc [(0, 1, x0), (1, 1, x1), (2, 1, x2), (3, 1, x3), (5, 1, x5), (6, 1, x6), (7, 32, x7)] = some (⟨n, d, a, k, false, body, s, l, zeroD⟩ : Bul).cells := by
  have e1 : ∀ n : V, Nat.beq (List.length [n]) 1 = true := fun _ => rfl
  have ci : ∀ (kd : IntKind) (n : Int), (V.i kd n).cells = [V.i kd n] := fun _ _ => rfl
  have cs : ∀ (l : List Nat), (V.s l).cells = [V.s l] := fun _ => rfl
  have ca : (V.agg (l.map u8)).cells = l.map u8 := rfl
  have e32 : Nat.beq (l.map u8).length 32 = true := by rw [Nat.beq_eq, List.length_map]; exact hl
  have zl : zc.length = 71 := rfl
  simp only [fill, h0, h1, h2, h3, h5, h6, h7, ci, cs, ca, e1, e32, if_true]
  rw [lay_one (by rw [zl]; omega)]
  simp only []
  rw [lay_one (by simp [zl])]
  simp only []
  rw [lay_one (by simp [zl])]
  simp only []
  rw [lay_one (by simp [zl])]
  simp only []
  rw [lay_one (by simp [zl])]
  simp only []
  rw [lay_one (by simp [zl])]
  simp only []
  have hlay : lay ((((((zc.set 0 (.i .i64 n)).set 1 (.i .i64 d)).set 2 (.i .i64 a)).set 3 (.i .u8 (k : Int))).set 5 (.s body)).set 6 (.i .i64 s)) 7 (l.map u8) =
      some (((((((zc.set 0 (.i .i64 n)).set 1 (.i .i64 d)).set 2 (.i .i64 a)).set 3 (.i .u8 (k : Int))).set 5 (.s body)).set 6 (.i .i64 s)).take 7 ++ l.map u8 ++ ((((((zc.set 0 (.i .i64 n)).set 1 (.i .i64 d)).set 2 (.i .i64 a)).set 3 (.i .u8 (k : Int))).set 5 (.s body)).set 6 (.i .i64 s)).drop 39) := by
    refine lay_eq.2 ⟨by simp [zl, hl], ?_⟩
    simp [hl]
  rw [hlay]
  show some (_ ++ l.map u8 ++ _) = some (_ ++ (l.map u8 ++ zeroD.map u8))
  rw [List.append_assoc]
  rfl
end Go.Air
set_option maxRecDepth 100000
namespace Go.Air
open Go.Air.Try
structure NArg where
  (day author : Int)
  kind : Nat
  body : List Nat
  salt : Int
structure NArg.Ok (a : NArg) : Prop where
  day : I64 a.day
  author : I64 a.author
  kind : a.kind < 256
  salt : I64 a.salt
  body : ∀ c ∈ a.body, c < 256
  len : a.body.length ≤ 9223372036854775807
def befV (bs : List Bul) : List Nat := match bs.getLast? with
  | none => zeroD
  | some p => digV p
def newB (bs : List Bul) (a : NArg) : Bul := ⟨(bs.length : Int), a.day, a.author, a.kind, false, a.body, a.salt, sealOf a.salt a.body, befV bs⟩
def nextE (bs : List Bul) (a : NArg) : Int :=
  if (linked bs).2 ≠ 0 then (linked bs).2 else
  if (((btw a.day 0 100000 && btw a.author 0 7) && btw a.kind 1 7) && btw a.salt 0 9007199254740992) = false then 1 else
  if 7000 < a.body.length then 2 else
  match bs.getLast? with
  | none => 0
  | some p => if a.day < p.at' then 7 else 0
def nextV (bs : List Bul) (a : NArg) : V := .tup [.agg (if nextE bs a = 0 then newB bs a else zeroB).cells, .i .i64 (nextE bs a)]
theorem sum_lt (bs : List Nat) : ∀ c ∈ Sha.sum bs, c < 256 := by
  intro c hc
  unfold Sha.sum at hc
  simp only [Sha.bytes, List.mem_flatMap, List.mem_map] at hc
  obtain ⟨_, _, _, _, rfl⟩ := hc
  exact Nat.mod_lt _ (by omega)
theorem digV_lt (b : Bul) : ∀ c ∈ digV b, c < 256 := by
  unfold digV
  split
  · exact sum_lt _
  · intro c hc; simp at hc; omega
theorem befV_len (bs : List Bul) : (befV bs).length = 32 := by
  unfold befV
  split
  · rfl
  · exact digV_len _
theorem befV_lt (bs : List Bul) : ∀ c ∈ befV bs, c < 256 := by
  unfold befV
  split
  · intro c hc; simp [zeroD] at hc; omega
  · exact digV_lt _
theorem newB_ok {bs : List Bul} {a : NArg} (h : a.Ok) (hbo : ∀ b ∈ bs, b.Ok) (hn : bs.length ≤ 1000) : (newB bs a).Ok := by
  refine ⟨by unfold I64; show _ ≤ ((bs.length : Nat) : Int) ∧ ((bs.length : Nat) : Int) ≤ _; omega, h.day, h.author, h.kind, h.salt, h.body, h.len, rfl, befV_len bs, sum_lt _, befV_lt bs⟩
theorem bst39 {h : H} {k : Nat} {b : Bul} (q : h.get k = some (.cells b.cells)) (hb : b.Ok) {l : List Nat} (hl : l.length = 32) : stV h 32 (.p k 39) (.agg (l.map u8)) = some (h.put k (.cells { b with prev := l }.cells)) := by
  have h3 : Nat.beq (l.map u8).length 32 = true := by rw [Nat.beq_eq, List.length_map]; exact hl
  have h2 : (l.map u8).all V.oneCell = true := List.all_eq_true.2 (u8s_one l)
  have h1 : lay b.cells 39 (l.map u8) = some ({ b with prev := l } : Bul).cells := by
    refine lay_eq.2 ⟨by rw [cells_len hb, List.length_map]; omega, ?_⟩
    have hd : b.cells.drop (39 + (l.map u8).length) = [] := List.drop_eq_nil_of_le (by rw [cells_len hb, List.length_map]; omega)
    have ht : b.cells.take 39 = b.head ++ b.dig.map u8 := by
      unfold Bul.cells
      rw [← List.append_assoc, List.take_left' (by simp [Bul.head, hb.dig])]
    rw [hd, ht, List.append_nil, List.append_assoc]
    rfl
  simp only [stV, V.cells, h3, if_true, storeAt, q, h1, h2]
def c25 : C := .seq (.ops r11_12) (.seq (.seq (.ops r11_13) (.cond (.t 86) (.ops r11_14) (.skip))) (.seq (.ops r11_15) (.ret)))
theorem W25 {h h2 : H} (ht : Tb4 h) {v : V} {bs : List Bul} {a : NArg} {t : List V} {Q : Out → List V → H → Prop} (q : Buls h v bs) (hn : bs.length ≤ 1000) (ha : a.Ok) (hf : ∀ p, bs.getLast? = some p → p.formed = true) (hl7 : a.body.length ≤ 7000)
    (e12 : Ext h h2) (g2 : h2.get h.next = some (.cells zeroB.cells)) (n2 : h.next < h2.next)
    (tl : t.length = 96) (t0 : nth t 0 = v) (t1 : nth t 1 = .i .i64 a.day) (t2 : nth t 2 = .i .i64 a.author) (t3 : nth t 3 = .i .u8 (a.kind : Int)) (t4 : nth t 4 = .s a.body) (t5 : nth t 5 = .i .i64 a.salt) (t12 : nth t 12 = .p h.next 0)
    (hQ : ∀ t' h', nth t' 12 = .p h.next 0 → nth t' 13 = .i .i64 0 → h'.get h.next = some (.cells (newB bs a).cells) → Ext h h' → Q .ret t' h') : W tb1 c25 t h2 Q := by
  have hz : [V.i .i64 0, .i .i64 0, .i .i64 0] ++ [.i .u8 0] ++ [.b false] ++ [.s []] ++ [.i .i64 0] ++ List.replicate 64 (.i .u8 0) = zc := rfl
  have q2 := q.ext e12
  have hlv := q2.sl.len
  have hnb := newB_ok ha q.ok hn
  unfold c25
  simp only [hz, go_sem, ↓reduceIte, r11_12, tl, t0, t1, t2, t3, t4, t5, hlv]
  refine (fn_seal (ht.ext e12) ha.salt ha.body (by omega)).mono ?_
  rintro u h3 ⟨rfl, e3⟩
  have e13 := e12.trans e3
  simp only [hz, go_sem, ↓reduceIte, tl]
  rw [fillB _ _ _ _ _ _ _ _ (n := (bs.length : Int)) (d := a.day) (a := a.author) (k := a.kind) (body := a.body) (s := a.salt) (l := sealOf a.salt a.body) (by simp only [go_sem, ↓reduceIte, tl]) (by simp only [go_sem, ↓reduceIte, tl]) (by simp only [go_sem, ↓reduceIte, tl]) (by simp only [go_sem, ↓reduceIte, tl]) (by simp only [go_sem, ↓reduceIte, tl]) (by simp only [go_sem, ↓reduceIte, tl]) (by simp only [go_sem, ↓reduceIte, tl]) rfl]
  have ok0 : (⟨(bs.length : Int), a.day, a.author, a.kind, false, a.body, a.salt, sealOf a.salt a.body, zeroD⟩ : Bul).Ok := ⟨hnb.n, hnb.at', hnb.by', hnb.kind, hnb.salt, hnb.body, hnb.len, hnb.dig, rfl, hnb.digB, zero_ok.prevB⟩
  have hbef : ∀ d : List Nat, befV bs = d → newB bs a = ⟨(bs.length : Int), a.day, a.author, a.kind, false, a.body, a.salt, sealOf a.salt a.body, d⟩ := fun d hd => by rw [← hd]; rfl
  generalize hb0 : (⟨(bs.length : Int), a.day, a.author, a.kind, false, a.body, a.salt, sealOf a.salt a.body, zeroD⟩ : Bul) = b0 at ok0
  have x3 : (h3.new (.cells zc)).get h3.next = some (.cells zeroB.cells) := get_new_eq rfl
  have s3 := blk_stn (k := 71) (d := b0.cells) x3 (cells_len zero_ok) (cells_len ok0) (cells_one _)
  have n3 : h.next < h3.next := Nat.lt_of_lt_of_le n2 e3.nx
  have e4 : Ext h ((h3.new (.cells zc)).put h3.next (.cells b0.cells)) := (e13.new _).put (by omega) _
  have g4 : ((h3.new (.cells zc)).put h3.next (.cells b0.cells)).get h.next = some (.cells zeroB.cells) := (get_put_ne (by omega)).trans ((get_new_lt n3).trans (e3.get n2 g2))
  have y4 : ((h3.new (.cells zc)).put h3.next (.cells b0.cells)).get h3.next = some (.cells b0.cells) := get_put_eq
  have n4 : h3.next < ((h3.new (.cells zc)).put h3.next (.cells b0.cells)).next := by simp
  simp only [hz, go_sem, ↓reduceIte, tl, s3]
  generalize (h3.new (.cells zc)).put h3.next (.cells b0.cells) = h4 at e4 g4 y4 n4
  refine WL_gen (fun t => t.length = 96 ∧ nth t 0 = v ∧ nth t 12 = .p h.next 0 ∧ nth t 16 = .p h3.next 0) (by simp only [go_sem, ↓reduceIte, tl, t0, t12]) ?_
  clear tl t0 t1 t2 t3 t4 t5 t12
  rintro t ⟨tl, t0, t12, t16⟩
  have q4 := q.ext e4
  have hlv4 := q4.sl.len
  cases hgl : bs.getLast? with
  | none =>
    have h0l : bs.length = 0 := by
      cases bs with
      | nil => rfl
      | cons x l => simp at hgl
    have hposI : ¬ (0 : Int) < (bs.length : Int) := by omega
    have hnew : newB bs a = b0 := by rw [← hb0]; exact hbef zeroD (by unfold befV; rw [hgl])
    have s5 := blk_stn (k := 71) (d := b0.cells) g4 (cells_len zero_ok) (cells_len ok0) (cells_one _)
    simp only [go_sem, ↓reduceIte, r11_13, r11_15, tl, t0, t12, t16, hlv4, hposI, bl71 y4 ok0, s5]
    exact hQ _ _ (by simp only [go_sem, ↓reduceIte, t12]) (by simp only [go_sem, ↓reduceIte, tl]) (by rw [hnew]; exact get_put_eq) (e4.put (Nat.le_refl _) _)
  | some pr =>
    have hp : bs[bs.length - 1]? = some pr := by rw [← List.getLast?_eq_getElem?]; exact hgl
    have hpos : 0 < bs.length := by have := (List.getElem?_eq_some_iff.1 hp).1; omega
    have hposI : (0 : Int) < (bs.length : Int) := by omega
    have hsub : IntKind.i64.wrap ((bs.length : Int) - 1) = ((bs.length - 1 : Nat) : Int) := by rw [wrap_in (by omega) (by omega)]; omega
    have hpo := q.ok pr (List.mem_of_getElem? hp)
    simp only [go_sem, ↓reduceIte, r11_13, r11_14, tl, t0, hlv4, hposI, hsub, Buls.ix q4 hp, Buls.ldn q4 hp]
    refine (fn_digest (ht.ext e4) hpo).mono ?_
    rintro u h5 ⟨rfl, e5⟩
    have hdv : digV pr = Sha.sum (digT pr) := by unfold digV; rw [hf pr hgl]; rfl
    rw [← hdv]
    have hnew : newB bs a = { b0 with prev := digV pr } := by rw [← hb0]; exact hbef (digV pr) (by unfold befV; rw [hgl])
    have y5 := e5.get n4 y4
    have g5 := e5.get (by omega) g4
    have s5 : stV h5 32 (.p h3.next 39) (.agg ((digV pr).map u8)) = some (h5.put h3.next (.cells (newB bs a).cells)) := by rw [hnew]; exact bst39 y5 ok0 (digV_len pr)
    have e6 : Ext h (h5.put h3.next (.cells (newB bs a).cells)) := (e4.trans e5).put (by omega) _
    have y6 : (h5.put h3.next (.cells (newB bs a).cells)).get h3.next = some (.cells (newB bs a).cells) := get_put_eq
    have g6 : (h5.put h3.next (.cells (newB bs a).cells)).get h.next = some (.cells zeroB.cells) := (get_put_ne (by omega)).trans g5
    simp only [go_sem, ↓reduceIte, tl, t16, s5]
    generalize h5.put h3.next (.cells (newB bs a).cells) = h6 at e6 y6 g6
    have s6 := blk_stn (k := 71) (d := (newB bs a).cells) g6 (cells_len zero_ok) (cells_len hnb) (cells_one _)
    simp only [go_sem, ↓reduceIte, r11_15, tl, t12, t16, bl71 y6 hnb, s6]
    exact hQ _ _ (by simp only [go_sem, ↓reduceIte, t12]) (by simp only [go_sem, ↓reduceIte, tl]) get_put_eq (e6.put (Nat.le_refl _) _)
theorem t25 : tb1 11 = some a11 := by kernel_rfl
theorem fn_Next {h : H} (ht : Tb4 h) {v : V} {bs : List Bul} {a : NArg} (q : Buls h v bs) (hn : bs.length ≤ 1000) (ha : a.Ok) :
    WC tb1 (.fn 11 [] []) [v, .i .i64 a.day, .i .i64 a.author, .i .u8 (a.kind : Int), .s a.body, .i .i64 a.salt] h fun u h' => u = nextV bs a ∧ Ext h h' := by
  refine (WC_in t25).2 ?_
  have hz : [V.i .i64 0, .i .i64 0, .i .i64 0] ++ [.i .u8 0] ++ [.b false] ++ [.s []] ++ [.i .i64 0] ++ List.replicate 64 (.i .u8 0) = zc := rfl
  have e1 : Ext h (h.new (.cells zc)) := (Ext.refl h).new _
  have g1 : (h.new (.cells zc)).get h.next = some (.cells zeroB.cells) := get_new_eq rfl
  have n1 : (h.new (.cells zc)).next = h.next + 1 := rfl
  simp only [hz, go_sem, ↓reduceIte, r11_0, r11_1]
  generalize h.new (.cells zc) = h1 at e1 g1 n1
  refine (fn_Linked (ht.ext e1) (q.ext e1) hn).mono ?_
  rintro u h2 ⟨rfl, e2⟩
  have e12 := e1.trans e2
  have q2 := q.ext e12
  have g2 := e2.get (by omega) g1
  have n2 := e2.nx
  have hlk : linkV bs = .tup [.i .i64 (linked bs).1, .i .i64 (linked bs).2] := rfl
  have sz := blk_stn (k := 71) (d := zc) g2 (cells_len zero_ok) (cells_len zero_ok) (cells_one zeroB)
  by_cases hl0 : (linked bs).2 = 0
  · rw [hl0] at hlk
    have hlv := q2.sl.len
    have h2000 : ¬ (2000 : Int) ≤ (bs.length : Int) := by omega
    have hk := conv_kind ha.kind
    have hE : nextE bs a = if (((btw a.day 0 100000 && btw a.author 0 7) && btw a.kind 1 7) && btw a.salt 0 9007199254740992) = false then 1 else
        if 7000 < a.body.length then 2 else match bs.getLast? with | none => 0 | some p => if a.day < p.at' then 7 else 0 := by unfold nextE; rw [if_neg (by rw [hl0]; decide)]
    simp only [hlk, go_sem, ↓reduceIte, r11_2]
    refine WL_gen (fun t => t.length = 96 ∧ nth t 0 = v ∧ nth t 1 = .i .i64 a.day ∧ nth t 2 = .i .i64 a.author ∧ nth t 3 = .i .u8 (a.kind : Int) ∧ nth t 4 = .s a.body ∧ nth t 5 = .i .i64 a.salt ∧ nth t 12 = .p h.next 0) (by simp only [go_sem, ↓reduceIte]; exact ⟨rfl, rfl⟩) ?_
    rintro t ⟨tl, t0, t1, t2, t3, t4, t5, t12⟩
    simp only [go_sem, ↓reduceIte, r11_4, tl, t0, hlv, h2000]
    refine WL_gen (fun t => t.length = 96 ∧ nth t 0 = v ∧ nth t 1 = .i .i64 a.day ∧ nth t 2 = .i .i64 a.author ∧ nth t 3 = .i .u8 (a.kind : Int) ∧ nth t 4 = .s a.body ∧ nth t 5 = .i .i64 a.salt ∧ nth t 12 = .p h.next 0) (by simp only [go_sem, ↓reduceIte, tl, t0, t1, t2, t3, t4, t5, t12]) ?_
    clear tl t0 t1 t2 t3 t4 t5 t12
    rintro t ⟨tl, t0, t1, t2, t3, t4, t5, t12⟩
    cases c1 : btw a.day 0 100000
    · simp only [hz, go_sem, ↓reduceIte, r11_6, r11_7, tl, t1, t2, t3, t5, t12, hk, c1, fill_none, sz]
      rw [res_cell_tmp (n := 12) (k := 71) (b := h.next) (cs := zc) (by simp only [go_sem, ↓reduceIte, tl, t12]) get_put_eq rfl]
      have hne2 : nextE bs a = 1 := by rw [hE, c1]; rfl
      refine ⟨?_, e12.put (Nat.le_refl _) _⟩
      unfold nextV
      rw [hne2, if_neg (by decide), zc_eq]
      simp only [go_sem, ↓reduceIte, tl]
    cases c2 : btw a.author 0 7
    · simp only [hz, go_sem, ↓reduceIte, r11_6, r11_7, tl, t1, t2, t3, t5, t12, hk, c1, c2, fill_none, sz]
      rw [res_cell_tmp (n := 12) (k := 71) (b := h.next) (cs := zc) (by simp only [go_sem, ↓reduceIte, tl, t12]) get_put_eq rfl]
      have hne2 : nextE bs a = 1 := by rw [hE, c1, c2]; rfl
      refine ⟨?_, e12.put (Nat.le_refl _) _⟩
      unfold nextV
      rw [hne2, if_neg (by decide), zc_eq]
      simp only [go_sem, ↓reduceIte, tl]
    cases c3 : btw a.kind 1 7
    · simp only [hz, go_sem, ↓reduceIte, r11_6, r11_7, tl, t1, t2, t3, t5, t12, hk, c1, c2, c3, fill_none, sz]
      rw [res_cell_tmp (n := 12) (k := 71) (b := h.next) (cs := zc) (by simp only [go_sem, ↓reduceIte, tl, t12]) get_put_eq rfl]
      have hne2 : nextE bs a = 1 := by rw [hE, c1, c2, c3]; rfl
      refine ⟨?_, e12.put (Nat.le_refl _) _⟩
      unfold nextV
      rw [hne2, if_neg (by decide), zc_eq]
      simp only [go_sem, ↓reduceIte, tl]
    cases c4 : btw a.salt 0 9007199254740992
    · simp only [hz, go_sem, ↓reduceIte, r11_6, r11_7, tl, t1, t2, t3, t5, t12, hk, c1, c2, c3, c4, fill_none, sz]
      rw [res_cell_tmp (n := 12) (k := 71) (b := h.next) (cs := zc) (by simp only [go_sem, ↓reduceIte, tl, t12]) get_put_eq rfl]
      have hne2 : nextE bs a = 1 := by rw [hE, c1, c2, c3, c4]; rfl
      refine ⟨?_, e12.put (Nat.le_refl _) _⟩
      unfold nextV
      rw [hne2, if_neg (by decide), zc_eq]
      simp only [go_sem, ↓reduceIte, tl]
    simp only [go_sem, ↓reduceIte, r11_6, tl, t1, t2, t3, t5, t12, hk, c1, c2, c3, c4]
    refine WL_gen (fun t => t.length = 96 ∧ nth t 0 = v ∧ nth t 1 = .i .i64 a.day ∧ nth t 2 = .i .i64 a.author ∧ nth t 3 = .i .u8 (a.kind : Int) ∧ nth t 4 = .s a.body ∧ nth t 5 = .i .i64 a.salt ∧ nth t 12 = .p h.next 0) (by simp only [go_sem, ↓reduceIte, tl, t0, t1, t2, t3, t4, t5, t12]) ?_
    clear tl t0 t1 t2 t3 t4 t5 t12
    rintro t ⟨tl, t0, t1, t2, t3, t4, t5, t12⟩
    rw [c1, c2, c3, c4] at hE
    simp only [Bool.and_self, Bool.true_eq_false, if_false] at hE
    by_cases c5 : 7000 < a.body.length
    · have c5' : (7000 : Int) < (a.body.length : Int) := by omega
      simp only [hz, go_sem, ↓reduceIte, r11_8, r11_9, tl, t4, t12, c5', fill_none, sz]
      rw [res_cell_tmp (n := 12) (k := 71) (b := h.next) (cs := zc) (by simp only [go_sem, ↓reduceIte, tl, t12]) get_put_eq rfl]
      have hne2 : nextE bs a = 2 := by rw [hE, if_pos c5]
      refine ⟨?_, e12.put (Nat.le_refl _) _⟩
      unfold nextV
      rw [hne2, if_neg (by decide), zc_eq]
      simp only [go_sem, ↓reduceIte, tl]
    have c5' : ¬ (7000 : Int) < (a.body.length : Int) := by omega
    rw [if_neg c5] at hE
    simp only [go_sem, ↓reduceIte, r11_8, tl, t4, c5']
    refine WL_gen (fun t => t.length = 96 ∧ nth t 0 = v ∧ nth t 1 = .i .i64 a.day ∧ nth t 2 = .i .i64 a.author ∧ nth t 3 = .i .u8 (a.kind : Int) ∧ nth t 4 = .s a.body ∧ nth t 5 = .i .i64 a.salt ∧ nth t 12 = .p h.next 0) (by simp only [go_sem, ↓reduceIte, tl, t0, t1, t2, t3, t4, t5, t12]) ?_
    clear tl t0 t1 t2 t3 t4 t5 t12
    rintro t ⟨tl, t0, t1, t2, t3, t4, t5, t12⟩
    have hlast : ∀ pr, bs.getLast? = some pr → 0 < bs.length ∧ bs[bs.length - 1]? = some pr := by
      intro pr hpr
      rw [List.getLast?_eq_getElem?] at hpr
      exact ⟨by have := (List.getElem?_eq_some_iff.1 hpr).1; omega, hpr⟩
    cases hgl : bs.getLast? with
    | some pr =>
      obtain ⟨hpos, hp⟩ := hlast pr hgl
      have hposI : (0 : Int) < (bs.length : Int) := by omega
      have hsub : IntKind.i64.wrap ((bs.length : Int) - 1) = ((bs.length - 1 : Nat) : Int) := by rw [wrap_in (by omega) (by omega)]; omega
      rw [hgl] at hE
      simp only at hE
      by_cases c6 : a.day < pr.at'
      · simp only [hz, go_sem, ↓reduceIte, r11_10, r11_11, tl, t0, t1, t12, hlv, hposI, hsub, Buls.ix q2 hp, Buls.ld1 q2 hp, c6, fill_none, sz]
        rw [res_cell_tmp (n := 12) (k := 71) (b := h.next) (cs := zc) (by simp only [go_sem, ↓reduceIte, tl, t12]) get_put_eq rfl]
        have hne2 : nextE bs a = 7 := by rw [hE, if_pos c6]
        refine ⟨?_, e12.put (Nat.le_refl _) _⟩
        unfold nextV
        rw [hne2, if_neg (by decide), zc_eq]
        simp only [go_sem, ↓reduceIte, tl]
      rw [if_neg c6] at hE
      simp only [go_sem, ↓reduceIte, r11_10, tl, t0, t1, hlv, hposI, hsub, Buls.ix q2 hp, Buls.ld1 q2 hp, c6]
      have hfm : ∀ p, bs.getLast? = some p → p.formed = true := fun p hp' => formed_of (hlast p hp').2 (linked_ok hl0 _ (by have := (hlast p hp').1; omega))
      refine W_ops'.1 (W_seq'.1 (W25 (a := a) ht q hn ha hfm (by omega) e12 g2 (by omega) ?_ ?_ ?_ ?_ ?_ ?_ ?_ ?_ ?_))
      all_goals try simp only [go_sem, ↓reduceIte, tl, t0, t1, t2, t3, t4, t5, t12]
      intro t' h' x12 x13 gx ex
      rw [res_cell_tmp (n := 12) (k := 71) (b := h.next) (cs := (newB bs a).cells) x12 gx (cells_len (newB_ok ha q.ok hn))]
      refine ⟨?_, ex⟩
      unfold nextV
      rw [hE, if_pos rfl, x13]
      simp only [go_sem]
    | none =>
      have h0l : bs.length = 0 := by
        cases bs with
        | nil => rfl
        | cons x l => simp at hgl
      have hposI : ¬ (0 : Int) < (bs.length : Int) := by omega
      rw [hgl] at hE
      simp only at hE
      simp only [go_sem, ↓reduceIte, r11_10, tl, t0, t1, hlv, hposI]
      have hfm : ∀ p, bs.getLast? = some p → p.formed = true := fun p hp' => formed_of (hlast p hp').2 (linked_ok hl0 _ (by have := (hlast p hp').1; omega))
      refine W_ops'.1 (W_seq'.1 (W25 (a := a) ht q hn ha hfm (by omega) e12 g2 (by omega) ?_ ?_ ?_ ?_ ?_ ?_ ?_ ?_ ?_))
      all_goals try simp only [go_sem, ↓reduceIte, tl, t0, t1, t2, t3, t4, t5, t12]
      intro t' h' x12 x13 gx ex
      rw [res_cell_tmp (n := 12) (k := 71) (b := h.next) (cs := (newB bs a).cells) x12 gx (cells_len (newB_ok ha q.ok hn))]
      refine ⟨?_, ex⟩
      unfold nextV
      rw [hE, if_pos rfl, x13]
      simp only [go_sem]
  · have hne : binV .neq (.i .i64 (linked bs).2) (.i .i64 0) = some (.b true) := by simp [binV, binI, hl0]
    simp only [hz, hlk, go_sem, ↓reduceIte, r11_2, r11_3, hne, fill_none, sz]
    rw [res_cell_tmp (n := 12) (k := 71) (b := h.next) (cs := zc) (by simp only [go_sem, ↓reduceIte]) get_put_eq rfl]
    have hne2 : nextE bs a = (linked bs).2 := by unfold nextE; rw [if_pos hl0]
    refine ⟨?_, e12.put (Nat.le_refl _) _⟩
    unfold nextV
    rw [hne2, if_neg hl0, zc_eq]
    simp only [go_sem, ↓reduceIte]
end Go.Air
set_option maxRecDepth 100000
namespace Go.Air
open Go.Air.Try
def c26 : C := .seq (.ops r12_11) (.seq (.seq (.ops r12_12) (.cond (.t 67) (.seq (.ops r12_13) (.seq (.seq (.ops r12_14) (.cond (.t 77) (.seq (.ops r12_15) (.ret)) (.skip))) (.ops r12_16))) (.skip))) (.seq (.ops r12_17) (.ret)))
theorem W26 {h h2 : H} (ht : Tb4 h) {v : V} {bs : List Bul} {a : NArg} {t : List V} {Q : Out → List V → H → Prop} (q : Buls h v bs) (hn : bs.length ≤ 1000) (ha : a.Ok) (hE : nextE bs a = match bs.getLast? with | none => 0 | some p => if a.day < p.at' then 7 else 0) (hl7 : a.body.length ≤ 7000)
    (e12 : Ext h h2) (g2 : h2.get h.next = some (.cells zeroB.cells)) (n2 : h.next < h2.next)
    (tl : t.length = 83) (t0 : nth t 0 = v) (t1 : nth t 1 = .i .i64 a.day) (t2 : nth t 2 = .i .i64 a.author) (t3 : nth t 3 = .i .u8 (a.kind : Int)) (t4 : nth t 4 = .s a.body) (t5 : nth t 5 = .i .i64 a.salt) (t12 : nth t 12 = .p h.next 0)
    (hQ : ∀ t' h', nth t' 12 = .p h.next 0 → nth t' 13 = .i .i64 (nextE bs a) → h'.get h.next = some (.cells (if nextE bs a = 0 then newB bs a else zeroB).cells) → Ext h h' → Q .ret t' h') : W tb1 c26 t h2 Q := by
  have hz : [V.i .i64 0, .i .i64 0, .i .i64 0] ++ [.i .u8 0] ++ [.b false] ++ [.s []] ++ [.i .i64 0] ++ List.replicate 64 (.i .u8 0) = zc := rfl
  have q2 := q.ext e12
  have hlv := q2.sl.len
  have hnb := newB_ok ha q.ok hn
  unfold c26
  simp only [hz, go_sem, ↓reduceIte, r12_11, tl, t0, t1, t2, t3, t4, t5, hlv]
  refine (fn_rseal (ht.ext e12) ha.salt ha.body (by omega)).mono ?_
  rintro u h3 ⟨rfl, e3⟩
  have e13 := e12.trans e3
  simp only [hz, go_sem, ↓reduceIte, tl]
  rw [fillB _ _ _ _ _ _ _ _ (n := (bs.length : Int)) (d := a.day) (a := a.author) (k := a.kind) (body := a.body) (s := a.salt) (l := sealOf a.salt a.body) (by simp only [go_sem, ↓reduceIte, tl]) (by simp only [go_sem, ↓reduceIte, tl]) (by simp only [go_sem, ↓reduceIte, tl]) (by simp only [go_sem, ↓reduceIte, tl]) (by simp only [go_sem, ↓reduceIte, tl]) (by simp only [go_sem, ↓reduceIte, tl]) (by simp only [go_sem, ↓reduceIte, tl]) rfl]
  have ok0 : (⟨(bs.length : Int), a.day, a.author, a.kind, false, a.body, a.salt, sealOf a.salt a.body, zeroD⟩ : Bul).Ok := ⟨hnb.n, hnb.at', hnb.by', hnb.kind, hnb.salt, hnb.body, hnb.len, hnb.dig, rfl, hnb.digB, zero_ok.prevB⟩
  have hbef : ∀ d : List Nat, befV bs = d → newB bs a = ⟨(bs.length : Int), a.day, a.author, a.kind, false, a.body, a.salt, sealOf a.salt a.body, d⟩ := fun d hd => by rw [← hd]; rfl
  generalize hb0 : (⟨(bs.length : Int), a.day, a.author, a.kind, false, a.body, a.salt, sealOf a.salt a.body, zeroD⟩ : Bul) = b0 at ok0
  have x3 : (h3.new (.cells zc)).get h3.next = some (.cells zeroB.cells) := get_new_eq rfl
  have s3 := blk_stn (k := 71) (d := b0.cells) x3 (cells_len zero_ok) (cells_len ok0) (cells_one _)
  have n3 : h.next < h3.next := Nat.lt_of_lt_of_le n2 e3.nx
  have e4 : Ext h ((h3.new (.cells zc)).put h3.next (.cells b0.cells)) := (e13.new _).put (by omega) _
  have g4 : ((h3.new (.cells zc)).put h3.next (.cells b0.cells)).get h.next = some (.cells zeroB.cells) := (get_put_ne (by omega)).trans ((get_new_lt n3).trans (e3.get n2 g2))
  have y4 : ((h3.new (.cells zc)).put h3.next (.cells b0.cells)).get h3.next = some (.cells b0.cells) := get_put_eq
  have n4 : h3.next < ((h3.new (.cells zc)).put h3.next (.cells b0.cells)).next := by simp
  simp only [hz, go_sem, ↓reduceIte, tl, s3]
  generalize (h3.new (.cells zc)).put h3.next (.cells b0.cells) = h4 at e4 g4 y4 n4
  refine WL_gen (fun t => t.length = 83 ∧ nth t 0 = v ∧ nth t 12 = .p h.next 0 ∧ nth t 17 = .p h3.next 0 ∧ nth t 1 = .i .i64 a.day) (by simp only [go_sem, ↓reduceIte, tl, t0, t1, t12]) ?_
  clear tl t0 t1 t2 t3 t4 t5 t12
  rintro t ⟨tl, t0, t12, t16, t1⟩
  have q4 := q.ext e4
  have hlv4 := q4.sl.len
  cases hgl : bs.getLast? with
  | none =>
    have h0l : bs.length = 0 := by
      cases bs with
      | nil => rfl
      | cons x l => simp at hgl
    have hposI : ¬ (0 : Int) < (bs.length : Int) := by omega
    have hnew : newB bs a = b0 := by rw [← hb0]; exact hbef zeroD (by unfold befV; rw [hgl])
    rw [hgl] at hE
    simp only at hE
    have s5 := blk_stn (k := 71) (d := b0.cells) g4 (cells_len zero_ok) (cells_len ok0) (cells_one _)
    simp only [go_sem, ↓reduceIte, r12_12, r12_17, tl, t0, t12, t16, hlv4, hposI, bl71 y4 ok0, s5]
    exact hQ _ _ (by simp only [go_sem, ↓reduceIte, t12]) (by simp only [go_sem, ↓reduceIte, tl, hE]) (by rw [hE, if_pos rfl, hnew]; exact get_put_eq) (e4.put (Nat.le_refl _) _)
  | some pr =>
    rw [hgl] at hE
    simp only at hE
    have hp : bs[bs.length - 1]? = some pr := by rw [← List.getLast?_eq_getElem?]; exact hgl
    have hpos : 0 < bs.length := by have := (List.getElem?_eq_some_iff.1 hp).1; omega
    have hposI : (0 : Int) < (bs.length : Int) := by omega
    have hsub : IntKind.i64.wrap ((bs.length : Int) - 1) = ((bs.length - 1 : Nat) : Int) := by rw [wrap_in (by omega) (by omega)]; omega
    have hpo := q.ok pr (List.mem_of_getElem? hp)
    have x18 : (h4.new (.cells zc)).get h4.next = some (.cells zeroB.cells) := get_new_eq rfl
    have s18 := blk_stn (k := 71) (d := pr.cells) x18 (cells_len zero_ok) (cells_len hpo) (cells_one _)
    have e18 : Ext h ((h4.new (.cells zc)).put h4.next (.cells pr.cells)) := (e4.new _).put (by omega) _
    have p18 : ((h4.new (.cells zc)).put h4.next (.cells pr.cells)).get h4.next = some (.cells pr.cells) := get_put_eq
    have y18 : ((h4.new (.cells zc)).put h4.next (.cells pr.cells)).get h3.next = some (.cells b0.cells) := (get_put_ne (by omega)).trans ((get_new_lt n4).trans y4)
    have g18 : ((h4.new (.cells zc)).put h4.next (.cells pr.cells)).get h.next = some (.cells zeroB.cells) := (get_put_ne (by omega)).trans ((get_new_lt (by omega)).trans g4)
    have n18 : h3.next < ((h4.new (.cells zc)).put h4.next (.cells pr.cells)).next := by show h3.next < h4.next + 1; omega
    have hz : [V.i .i64 0, .i .i64 0, .i .i64 0] ++ [.i .u8 0] ++ [.b false] ++ [.s []] ++ [.i .i64 0] ++ List.replicate 64 (.i .u8 0) = zc := rfl
    simp only [hz, go_sem, ↓reduceIte, r12_12, r12_13, tl, t0, hlv4, hposI, hsub, Buls.ix q4 hp, Buls.ldn q4 hp, s18]
    generalize (h4.new (.cells zc)).put h4.next (.cells pr.cells) = h8 at e18 p18 y18 g18 n18
    refine WL_gen (fun t => t.length = 83 ∧ nth t 1 = .i .i64 a.day ∧ nth t 12 = .p h.next 0 ∧ nth t 17 = .p h3.next 0 ∧ nth t 18 = .p h4.next 0) (by simp only [go_sem, ↓reduceIte, tl, t1, t12, t16]) ?_
    clear tl t0 t1 t12 t16
    rintro t ⟨tl, t1, t12, t17, t18⟩
    by_cases c6 : a.day < pr.at'
    · rw [if_pos c6] at hE
      have sz := blk_stn (k := 71) (d := zc) g18 (cells_len zero_ok) (cells_len zero_ok) (cells_one zeroB)
      simp only [hz, go_sem, ↓reduceIte, r12_14, r12_15, tl, t1, t12, t18, bl1 p18, c6, fill_none, sz]
      exact hQ _ _ (by simp only [go_sem, ↓reduceIte, t12]) (by simp only [go_sem, ↓reduceIte, tl, hE]) (by rw [hE, if_neg (by decide)]; exact get_put_eq) (e18.put (Nat.le_refl _) _)
    rw [if_neg c6] at hE
    simp only [go_sem, ↓reduceIte, r12_14, r12_16, tl, t1, t18, bl1 p18, c6, bl71 p18 hpo]
    refine (fn_rDigest (ht.ext e18) hpo).mono ?_
    rintro u h5 ⟨rfl, e5⟩
    have hnew : newB bs a = { b0 with prev := digV pr } := by rw [← hb0]; exact hbef (digV pr) (by unfold befV; rw [hgl])
    have y5 := e5.get n18 y18
    have g5 := e5.get (by omega) g18
    have s5 : stV h5 32 (.p h3.next 39) (.agg ((digV pr).map u8)) = some (h5.put h3.next (.cells (newB bs a).cells)) := by rw [hnew]; exact bst39 y5 ok0 (digV_len pr)
    have e6 : Ext h (h5.put h3.next (.cells (newB bs a).cells)) := (e18.trans e5).put (by omega) _
    have y6 : (h5.put h3.next (.cells (newB bs a).cells)).get h3.next = some (.cells (newB bs a).cells) := get_put_eq
    have g6 : (h5.put h3.next (.cells (newB bs a).cells)).get h.next = some (.cells zeroB.cells) := (get_put_ne (by omega)).trans g5
    simp only [go_sem, ↓reduceIte, tl, t17, s5]
    generalize h5.put h3.next (.cells (newB bs a).cells) = h6 at e6 y6 g6
    have s6 := blk_stn (k := 71) (d := (newB bs a).cells) g6 (cells_len zero_ok) (cells_len hnb) (cells_one _)
    simp only [go_sem, ↓reduceIte, r12_17, tl, t12, t17, bl71 y6 hnb, s6]
    exact hQ _ _ (by simp only [go_sem, ↓reduceIte, t12]) (by simp only [go_sem, ↓reduceIte, tl, hE]) (by rw [hE, if_pos rfl]; exact get_put_eq) (e6.put (Nat.le_refl _) _)
theorem t26 : tb1 12 = some a12 := by kernel_rfl
theorem fn_rNext {h : H} (ht : Tb4 h) {v : V} {bs : List Bul} {a : NArg} (q : Buls h v bs) (hn : bs.length ≤ 1000) (ha : a.Ok) :
    WC tb1 (.fn 12 [] []) [v, .i .i64 a.day, .i .i64 a.author, .i .u8 (a.kind : Int), .s a.body, .i .i64 a.salt] h fun u h' => u = nextV bs a ∧ Ext h h' := by
  refine (WC_in t26).2 ?_
  have hz : [V.i .i64 0, .i .i64 0, .i .i64 0] ++ [.i .u8 0] ++ [.b false] ++ [.s []] ++ [.i .i64 0] ++ List.replicate 64 (.i .u8 0) = zc := rfl
  have e1 : Ext h (h.new (.cells zc)) := (Ext.refl h).new _
  have g1 : (h.new (.cells zc)).get h.next = some (.cells zeroB.cells) := get_new_eq rfl
  have n1 : (h.new (.cells zc)).next = h.next + 1 := rfl
  simp only [hz, go_sem, ↓reduceIte, r12_0, r12_1]
  generalize h.new (.cells zc) = h1 at e1 g1 n1
  refine (fn_rLinked (ht.ext e1) (q.ext e1) hn).mono ?_
  rintro u h2 ⟨rfl, e2⟩
  have e12 := e1.trans e2
  have q2 := q.ext e12
  have g2 := e2.get (by omega) g1
  have n2 := e2.nx
  have hlk : linkV bs = .tup [.i .i64 (linked bs).1, .i .i64 (linked bs).2] := rfl
  have sz := blk_stn (k := 71) (d := zc) g2 (cells_len zero_ok) (cells_len zero_ok) (cells_one zeroB)
  by_cases hl0 : (linked bs).2 = 0
  · rw [hl0] at hlk
    have hlv := q2.sl.len
    have h2000 : ¬ (2000 : Int) ≤ (bs.length : Int) := by omega
    have hk := conv_kind ha.kind
    have hE : nextE bs a = if (((btw a.day 0 100000 && btw a.author 0 7) && btw a.kind 1 7) && btw a.salt 0 9007199254740992) = false then 1 else
        if 7000 < a.body.length then 2 else match bs.getLast? with | none => 0 | some p => if a.day < p.at' then 7 else 0 := by unfold nextE; exact if_neg (by rw [hl0]; decide)
    simp only [hlk, go_sem, ↓reduceIte, r12_2]
    refine WL_gen (fun t => t.length = 83 ∧ nth t 0 = v ∧ nth t 1 = .i .i64 a.day ∧ nth t 2 = .i .i64 a.author ∧ nth t 3 = .i .u8 (a.kind : Int) ∧ nth t 4 = .s a.body ∧ nth t 5 = .i .i64 a.salt ∧ nth t 12 = .p h.next 0) (by simp only [go_sem, ↓reduceIte]; exact ⟨rfl, rfl⟩) ?_
    rintro t ⟨tl, t0, t1, t2, t3, t4, t5, t12⟩
    simp only [go_sem, ↓reduceIte, r12_4, tl, t0, hlv, h2000]
    refine WL_gen (fun t => t.length = 83 ∧ nth t 0 = v ∧ nth t 1 = .i .i64 a.day ∧ nth t 2 = .i .i64 a.author ∧ nth t 3 = .i .u8 (a.kind : Int) ∧ nth t 4 = .s a.body ∧ nth t 5 = .i .i64 a.salt ∧ nth t 12 = .p h.next 0) (by simp only [go_sem, ↓reduceIte, tl, t0, t1, t2, t3, t4, t5, t12]) ?_
    clear tl t0 t1 t2 t3 t4 t5 t12
    rintro t ⟨tl, t0, t1, t2, t3, t4, t5, t12⟩
    cases c1 : btw a.day 0 100000
    · simp only [hz, go_sem, ↓reduceIte, r12_6, r12_7, r12_8, tl, t1, t2, t3, t5, t12, hk, c1, fill_none, sz]
      rw [res_cell_tmp (n := 12) (k := 71) (b := h.next) (cs := zc) (by simp only [go_sem, ↓reduceIte, tl, t12]) get_put_eq rfl]
      have hne2 : nextE bs a = 1 := by rw [hE, c1]; rfl
      refine ⟨?_, e12.put (Nat.le_refl _) _⟩
      unfold nextV
      rw [hne2, if_neg (by decide), zc_eq]
      simp only [go_sem, ↓reduceIte, tl]
    cases c2 : btw a.author 0 7
    · simp only [hz, go_sem, ↓reduceIte, r12_6, r12_7, r12_8, tl, t1, t2, t3, t5, t12, hk, c1, c2, fill_none, sz]
      rw [res_cell_tmp (n := 12) (k := 71) (b := h.next) (cs := zc) (by simp only [go_sem, ↓reduceIte, tl, t12]) get_put_eq rfl]
      have hne2 : nextE bs a = 1 := by rw [hE, c1, c2]; rfl
      refine ⟨?_, e12.put (Nat.le_refl _) _⟩
      unfold nextV
      rw [hne2, if_neg (by decide), zc_eq]
      simp only [go_sem, ↓reduceIte, tl]
    cases c3 : btw a.kind 1 7
    · simp only [hz, go_sem, ↓reduceIte, r12_6, r12_7, r12_8, tl, t1, t2, t3, t5, t12, hk, c1, c2, c3, fill_none, sz]
      rw [res_cell_tmp (n := 12) (k := 71) (b := h.next) (cs := zc) (by simp only [go_sem, ↓reduceIte, tl, t12]) get_put_eq rfl]
      have hne2 : nextE bs a = 1 := by rw [hE, c1, c2, c3]; rfl
      refine ⟨?_, e12.put (Nat.le_refl _) _⟩
      unfold nextV
      rw [hne2, if_neg (by decide), zc_eq]
      simp only [go_sem, ↓reduceIte, tl]
    cases c4 : btw a.salt 0 9007199254740992
    · simp only [hz, go_sem, ↓reduceIte, r12_6, r12_7, r12_8, tl, t1, t2, t3, t5, t12, hk, c1, c2, c3, c4, fill_none, sz]
      rw [res_cell_tmp (n := 12) (k := 71) (b := h.next) (cs := zc) (by simp only [go_sem, ↓reduceIte, tl, t12]) get_put_eq rfl]
      have hne2 : nextE bs a = 1 := by rw [hE, c1, c2, c3, c4]; rfl
      refine ⟨?_, e12.put (Nat.le_refl _) _⟩
      unfold nextV
      rw [hne2, if_neg (by decide), zc_eq]
      simp only [go_sem, ↓reduceIte, tl]
    simp only [go_sem, ↓reduceIte, r12_6, r12_7, tl, t1, t2, t3, t5, t12, hk, c1, c2, c3, c4]
    refine WL_gen (fun t => t.length = 83 ∧ nth t 0 = v ∧ nth t 1 = .i .i64 a.day ∧ nth t 2 = .i .i64 a.author ∧ nth t 3 = .i .u8 (a.kind : Int) ∧ nth t 4 = .s a.body ∧ nth t 5 = .i .i64 a.salt ∧ nth t 12 = .p h.next 0) (by simp only [go_sem, ↓reduceIte, tl, t0, t1, t2, t3, t4, t5, t12]) ?_
    clear tl t0 t1 t2 t3 t4 t5 t12
    rintro t ⟨tl, t0, t1, t2, t3, t4, t5, t12⟩
    rw [c1, c2, c3, c4] at hE
    simp only [Bool.and_self, Bool.true_eq_false, if_false] at hE
    by_cases c5 : 7000 < a.body.length
    · have c5' : (7000 : Int) < (a.body.length : Int) := by omega
      simp only [hz, go_sem, ↓reduceIte, r12_9, r12_10, tl, t4, t12, c5', fill_none, sz]
      rw [res_cell_tmp (n := 12) (k := 71) (b := h.next) (cs := zc) (by simp only [go_sem, ↓reduceIte, tl, t12]) get_put_eq rfl]
      have hne2 : nextE bs a = 2 := by rw [hE, if_pos c5]
      refine ⟨?_, e12.put (Nat.le_refl _) _⟩
      unfold nextV
      rw [hne2, if_neg (by decide), zc_eq]
      simp only [go_sem, ↓reduceIte, tl]
    have c5' : ¬ (7000 : Int) < (a.body.length : Int) := by omega
    rw [if_neg c5] at hE
    simp only [go_sem, ↓reduceIte, r12_9, tl, t4, c5']
    refine WL_gen (fun t => t.length = 83 ∧ nth t 0 = v ∧ nth t 1 = .i .i64 a.day ∧ nth t 2 = .i .i64 a.author ∧ nth t 3 = .i .u8 (a.kind : Int) ∧ nth t 4 = .s a.body ∧ nth t 5 = .i .i64 a.salt ∧ nth t 12 = .p h.next 0) (by simp only [go_sem, ↓reduceIte, tl, t0, t1, t2, t3, t4, t5, t12]) ?_
    clear tl t0 t1 t2 t3 t4 t5 t12
    rintro t ⟨tl, t0, t1, t2, t3, t4, t5, t12⟩
    refine W_ops'.1 (W_seq'.1 (W26 (a := a) ht q hn ha hE (by omega) e12 g2 (by omega) ?_ ?_ ?_ ?_ ?_ ?_ ?_ ?_ ?_))
    all_goals try simp only [go_sem, ↓reduceIte, tl, t0, t1, t2, t3, t4, t5, t12]
    intro t' h' x12 x13 gx ex
    have hcl : (if nextE bs a = 0 then newB bs a else zeroB).cells.length = 71 := by split; exact cells_len (newB_ok ha q.ok hn); exact cells_len zero_ok
    rw [res_cell_tmp (n := 12) (k := 71) (b := h.next) (cs := (if nextE bs a = 0 then newB bs a else zeroB).cells) x12 gx hcl]
    refine ⟨?_, ex⟩
    unfold nextV
    rw [x13]
    simp only [go_sem]
  · have hne : binV .neq (.i .i64 (linked bs).2) (.i .i64 0) = some (.b true) := by simp [binV, binI, hl0]
    simp only [hz, hlk, go_sem, ↓reduceIte, r12_2, r12_3, hne, fill_none, sz]
    rw [res_cell_tmp (n := 12) (k := 71) (b := h.next) (cs := zc) (by simp only [go_sem, ↓reduceIte]) get_put_eq rfl]
    have hne2 : nextE bs a = (linked bs).2 := by unfold nextE; rw [if_pos hl0]
    refine ⟨?_, e12.put (Nat.le_refl _) _⟩
    unfold nextV
    rw [hne2, if_neg hl0, zc_eq]
    simp only [go_sem, ↓reduceIte]
end Go.Air
set_option maxRecDepth 100000
namespace Go.Air
open Go.Air.Try
theorem d4_9 {h0 hh : H} {t : List V} {v : V} {bs : List Bul} {x : Bul} {b : Nat} (q : Buls hh v bs) (xo : x.Ok) (hx : hh.get b = some (.cells x.cells)) (hb : b < hh.next) (hn : bs.length ≤ 900) (hlink : (linked (bs ++ [x])).2 = 0) (ht : Tb4 hh) (tl : t.length = 74) (t0 : nth t 0 = v) (t13 : nth t 13 = .p b 0) (e0 : Ext h0 hh) :
    WD tb1 r4_9 t hh [] (Kcrit [(2, 3)] (Kseq tb1 ((C.ops r4_10).seq C.ret) (Kfn [ResV.tmp 12] (fun u h' => u = V.b true ∧ Ext h0 h') noPan))) := by
  have hz : [V.i .i64 0, .i .i64 0, .i .i64 0] ++ [.i .u8 0] ++ [.b false] ++ [.s []] ++ [.i .i64 0] ++ List.replicate 64 (.i .u8 0) = zc := rfl
  have hone : ∀ (l : List Bul), ∀ u ∈ l.flatMap Bul.cells, u.oneCell = true := by
    intro l u hu
    obtain ⟨y, _, hy⟩ := List.mem_flatMap.1 hu
    exact cells_one _ u hy
  obtain ⟨o1, e1⟩ := Own.lit (esz := 71) (Ext.refl hh) [] 0 (by simp)
  generalize hg1 : hh.new (.cells []) = g1 at o1 e1
  obtain ⟨v2, hb2, g2, p1, p2, e2, o2, n2, _, _⟩ := o1.appB (bytes := 120) e1 (q.sl.ext e1) (hone bs) (by decide) (by decide) (by simp; omega)
  have x2 : g2.get b = some (.cells x.cells) := e2.get hb hx
  obtain ⟨o3, e3⟩ := Own.lit (esz := 71) (Ext.refl g2) x.cells 1 (by rw [cells_len xo])
  generalize hg3 : g2.new (.cells x.cells) = g3 at o3 e3
  obtain ⟨v4, hb4, g4, p3, p4, e4, o4, n4, _, _⟩ := (o2.ext e3).appB (bytes := 120) (e2.trans e3) o3.sl (fun u hu => cells_one _ u hu) (by decide) (by decide) (by simp; omega)
  have hl2 : ∀ c ∈ oldOnes g1.next hb2.log, hh.next ≤ c := by
    obtain ⟨l, f1, f2⟩ := e2.log
    intro c hc
    refine f2 c ?_
    have : l = oldOnes g1.next hb2.log := by
      rw [← p2, ← hg1] at f1
      rw [← hg1]
      exact (List.append_cancel_right f1).symm
    rw [this]; exact hc
  have hf1 : ∀ t, fill t [] [] = some [] := fun _ => rfl
  have hf3 : ∀ t', nth t' 63 = .agg x.cells → fill t' zc [(0, 71, .t 63)] = some x.cells := by
    intro t' h63
    have hc : ((X.t 63).ev t').cells = x.cells := by show (nth t' 63).cells = _; rw [h63]; rfl
    have hl : lay zc 0 x.cells = some x.cells := by
      rw [lay_eq]
      have hzl : zc.length = 71 := rfl
      rw [cells_len xo, hzl]
      exact ⟨by decide, by simp [List.drop_eq_nil_of_le (Nat.le_of_eq hzl)]⟩
    have hb' : Nat.beq x.cells.length 71 = true := by rw [cells_len xo]; rfl
    simp only [fill, hc, hb', hl, ↓reduceIte]
  simp only [hz, go_sem, ↓reduceIte, r4_9, tl, t0, t13, old_bare, H.back_bare, hf1, hg1, p1]
  have bb := bl71 x2 xo
  rw [p2]
  simp only [hz, go_sem, ↓reduceIte, tl, t0, t13, old_bare, H.back_bare, bb, hf3, hg3, p3]
  rw [p4]
  have q4 : Buls g4 v4 (bs ++ [x]) := by
    refine ⟨?_, fun y hy => ?_⟩
    · have := o4.sl
      simpa using this
    · rcases List.mem_append.1 hy with hy | hy
      · exact q.ok y hy
      · rw [List.mem_singleton.1 hy]; exact xo
  refine (fn_Linked (ht.ext e4).bare q4.bare (by simp; omega)).mono ?_
  rintro u h5 ⟨rfl, e5⟩
  have e45 := e5.back
  have ho5 := e5.old
  rw [Kdrw_eq, ho5]
  generalize g4.back h5 = h6 at e45
  have hlv : linkV (bs ++ [x]) = .tup [.i .i64 (linked (bs ++ [x])).1, .i .i64 0] := by unfold linkV; rw [hlink]
  rw [hlv]
  generalize (linked (bs ++ [x])).1 = li
  simp only [go_sem, ↓reduceIte, tl, List.cons_append, List.nil_append]
  refine ⟨?_, ?_⟩
  · have hr : reads (A.ldn 71 (X.t 13)) (upd (upd (upd t 60 (V.sl hh.next 0 0 0 none)) 61 v) 62 v2) = some [b] := by
      show some (blockOf (nth _ 13)) = _
      simp only [go_sem, ↓reduceIte, t13, tl]
      rfl
    have ha : apart ⟨none, oldOnes g1.next hb2.log⟩ ⟨some [b], []⟩ = true := by
      simp only [apart, Bool.and_eq_true, List.all_eq_true]
      refine ⟨⟨fun y hy => ?_, rfl⟩, fun y hy => rfl⟩
      have := hl2 y hy
      have hne : y ≠ b := by omega
      simp [hne]
    simp only [critOk, List.all_cons, List.all_nil, Bool.and_true, List.getElem?_cons_succ, List.getElem?_cons_zero, hr]
    exact ha
  · simp only [go_sem, ↓reduceIte, r4_10, tl]
    first | exact e0.trans (e4.trans e45) | exact ⟨rfl, e0.trans (e4.trans e45)⟩
end Go.Air
set_option maxRecDepth 100000
namespace Go.Air
open Go.Air.Try
theorem nextE_zero {bs : List Bul} {a : NArg} (h : nextE bs a = 0) : (linked bs).2 = 0 ∧ (((btw a.day 0 100000 && btw a.author 0 7) && btw a.kind 1 7) && btw a.salt 0 9007199254740992) = true ∧ a.body.length ≤ 7000 ∧ ∀ p, bs.getLast? = some p → ¬ a.day < p.at' := by
  unfold nextE at h
  by_cases h1 : (linked bs).2 = 0
  · rw [if_neg (by simp [h1])] at h
    cases h2 : (((btw a.day 0 100000 && btw a.author 0 7) && btw a.kind 1 7) && btw a.salt 0 9007199254740992)
    · rw [h2, if_pos rfl] at h; cases h
    · rw [h2, if_neg (by decide)] at h
      by_cases h3 : 7000 < a.body.length
      · rw [if_pos h3] at h; cases h
      · rw [if_neg h3] at h
        refine ⟨h1, rfl, by omega, fun p hp => ?_⟩
        rw [hp] at h
        intro hd
        simp only [if_pos hd] at h
        cases h
  · rw [if_pos h1] at h; exact absurd h h1
theorem newB_formed {bs : List Bul} {a : NArg} (hn : bs.length ≤ 1000) (h : nextE bs a = 0) : (newB bs a).formed = true := by
  obtain ⟨_, h2, h3, _⟩ := nextE_zero h
  simp only [Bool.and_eq_true] at h2
  obtain ⟨⟨⟨d1, d2⟩, d3⟩, d4⟩ := h2
  have d0 : btw (bs.length : Int) 0 1999 = true := by unfold btw; simp; omega
  have d5 : decide ((a.body.length : Int) ≤ 7000) = true := by simp; omega
  show ((((btw (bs.length : Int) 0 1999 && btw a.day 0 100000) && btw a.author 0 7) && btw a.kind 1 7) &&
    ((decide ((a.body.length : Int) ≤ 7000) && btw a.salt 0 9007199254740992) && decide (sealOf a.salt a.body = sealOf a.salt a.body))) = true
  rw [d0, d1, d2, d3, d4, d5]
  simp
theorem linked_snoc {bs : List Bul} {a : NArg} (hn : bs.length ≤ 1000) (h : nextE bs a = 0) : (linked (bs ++ [newB bs a])).2 = 0 := by
  obtain ⟨h1, _, _, h4⟩ := nextE_zero h
  have hf := newB_formed hn h
  rw [linked_none]
  intro j hj
  by_cases hjl : j < bs.length
  · have : errAt (bs ++ [newB bs a]) j = errAt bs j := by
      have := errAt_take (bs := bs ++ [newB bs a]) hjl
      rw [List.take_left' rfl] at this
      exact this.symm
    rw [this]
    exact linked_ok h1 j hjl
  · have hje : j = bs.length := by simp at hj; omega
    have hb : (bs ++ [newB bs a])[j]? = some (newB bs a) := by rw [hje]; simp
    rw [errAt_eq hb, hf]
    have hnn : (newB bs a).n = (j : Int) := by rw [hje]; rfl
    rw [hnn]
    simp only [Bool.not_true, decide_true, Bool.or_self, Bool.false_eq_true, if_false]
    cases j with
    | zero =>
      have hnil : bs = [] := List.eq_nil_of_length_eq_zero hje.symm
      subst hnil
      rfl
    | succ i =>
      have hp : bs[i]? = some bs[i] := List.getElem?_eq_getElem (by omega)
      generalize bs[i]'(by omega) = p at hp
      have hg : bs.getLast? = some p := by rw [List.getLast?_eq_getElem?, ← hje]; exact hp
      have hpa : (bs ++ [newB bs a])[i]? = some p := by rw [List.getElem?_append_left (by omega)]; exact hp
      have hprev : (newB bs a).prev = digV p := by show befV bs = _; unfold befV; rw [hg]
      simp only [restAt, hpa, hprev, if_true]
      exact if_neg (h4 p hg)
theorem l4 : tb1 4 = some a4 := by kernel_rfl
theorem law_nexts {h : H} (ht : Tb4 h) {v : V} {bs : List Bul} {a : NArg} (q : Buls h v bs) (ha : a.Ok) : WC tb1 (.fn 4 [] []) [v, .i .i64 a.day, .i .i64 a.author, .i .u8 (a.kind : Int), .s a.body, .i .i64 a.salt] h fun u h' => u = .b true ∧ Ext h h' := by
  refine (WC_in l4).2 ?_
  have hz : [V.i .i64 0, .i .i64 0, .i .i64 0] ++ [.i .u8 0] ++ [.b false] ++ [.s []] ++ [.i .i64 0] ++ List.replicate 64 (.i .u8 0) = zc := rfl
  simp only [go_sem, ↓reduceIte, r4_0, r4_1]
  refine (fn_few q (m := 40) (by omega)).mono ?_
  rintro u h1 ⟨rfl, e1⟩
  cases f1 : few bs 40
  · simp only [go_sem, ↓reduceIte, r4_2]
    exact e1
  have l1 := few_len f1
  have hlk : nextV bs a = .tup [.agg (if nextE bs a = 0 then newB bs a else zeroB).cells, .i .i64 (nextE bs a)] := rfl
  by_cases hb8 : (8000 : Int) < (a.body.length : Int)
  · simp only [go_sem, ↓reduceIte, r4_2, nth, hb8]
    exact e1
  have o1 : (if nextE bs a = 0 then newB bs a else zeroB).Ok := by split; exact newB_ok ha q.ok (by omega); exact zero_ok
  simp only [hz, go_sem, ↓reduceIte, r4_3, nth, hb8]
  refine (fn_Next (ht.ext e1) (q.ext e1) (by omega) ha).mono ?_
  rintro u h2 ⟨rfl, e2⟩
  have e02 := e1.trans e2
  have x2 : (h2.new (.cells zc)).get h2.next = some (.cells zeroB.cells) := get_new_eq rfl
  have hne : ∀ e : Int, binV .neq (.i .i64 e) (.i .i64 e) = some (.b false) := fun e => by simp [binV, binI]
  generalize hx : (if nextE bs a = 0 then newB bs a else zeroB) = x at o1 hlk
  generalize he : nextE bs a = ee at hlk hx
  have s2 := blk_stn (k := 71) (d := x.cells) x2 (cells_len zero_ok) (cells_len o1) (cells_one _)
  simp only [hz, hlk, go_sem, ↓reduceIte, s2]
  refine WL_genH (fun t hh => t.length = 74 ∧ nth t 0 = v ∧ nth t 1 = .i .i64 a.day ∧ nth t 2 = .i .i64 a.author ∧ nth t 3 = .i .u8 (a.kind : Int) ∧ nth t 4 = .s a.body ∧ nth t 5 = .i .i64 a.salt ∧ nth t 13 = .p h2.next 0 ∧ nth t 14 = .i .i64 ee ∧ Ext h hh ∧ hh.get h2.next = some (.cells x.cells) ∧ h2.next < hh.next) ?_ ?_
  · refine ⟨?_, ?_, ?_, ?_, ?_, ?_, ?_, ?_, ?_, (e02.new _).put e02.nx _, get_put_eq, by simp⟩ <;> first | (simp only [go_sem, ↓reduceIte]; done) | (simp only [go_sem, ↓reduceIte]; rfl)
  rintro t h3 ⟨tl, t0, t1, t2, t3, t4, t5, t13, t14, e3, x3, n3⟩
  simp only [hz, go_sem, ↓reduceIte, r4_4, tl, t0, t1, t2, t3, t4, t5]
  refine (fn_rNext (ht.ext e3) (q.ext e3) (by omega) ha).mono ?_
  rintro u h4 ⟨rfl, e4⟩
  have e04 := e3.trans e4
  have x4 := e4.get n3 x3
  have n4 : h2.next < h4.next := Nat.lt_of_lt_of_le n3 e4.nx
  have y4 : (h4.new (.cells zc)).get h4.next = some (.cells zeroB.cells) := get_new_eq rfl
  have s4 := blk_stn (k := 71) (d := x.cells) y4 (cells_len zero_ok) (cells_len o1) (cells_one _)
  simp only [hz, hlk, go_sem, ↓reduceIte, tl, s4]
  refine WL_genH (fun t hh => t.length = 74 ∧ nth t 0 = v ∧ nth t 13 = .p h2.next 0 ∧ nth t 14 = .i .i64 ee ∧ nth t 15 = .p h4.next 0 ∧ nth t 16 = .i .i64 ee ∧ Ext h hh ∧ hh.get h2.next = some (.cells x.cells) ∧ hh.get h4.next = some (.cells x.cells) ∧ h2.next < hh.next) ?_ ?_
  · refine ⟨?_, ?_, ?_, ?_, ?_, ?_, (e04.new _).put e04.nx _, (get_put_ne (by omega)).trans ((get_new_lt n4).trans x4), get_put_eq, by show h2.next < h4.next + 1; omega⟩ <;> simp only [go_sem, ↓reduceIte, tl, t0, t13, t14]
  clear tl t0 t1 t2 t3 t4 t5 t13 t14
  rintro t h5 ⟨tl, t0, t13, t14, t15, t16, e5, x5, y5, n5⟩
  have hq : eqV (.agg ksB) (.agg x.cells) (.agg x.cells) = some true := by rw [eq_bul o1 o1]; simp
  unfold ksB at hq
  simp only [go_sem, ↓reduceIte, r4_5, tl, t13, t14, t15, t16, bl71 x5 o1, bl71 y5 o1, hq, hne]
  refine WL_gen (fun t => t.length = 74 ∧ nth t 0 = v ∧ nth t 13 = .p h2.next 0 ∧ nth t 14 = .i .i64 ee) (by simp only [go_sem, ↓reduceIte, tl, t0, t13, t14]) ?_
  clear tl t0 t13 t14 t15 t16
  rintro t ⟨tl, t0, t13, t14⟩
  by_cases hee : ee = 0
  · subst hee
    have hnew : x = newB bs a := by rw [← hx, if_pos rfl]
    simp only [go_sem, ↓reduceIte, r4_7, tl, t14]
    subst hnew
    exact d4_9 (q.ext e5) o1 x5 n5 (by omega) (linked_snoc (by omega) he) (ht.ext e5) (by simp only [go_sem, tl]) (by simp only [go_sem, ↓reduceIte, t0]) (by simp only [go_sem, ↓reduceIte, t13]) e5
  · have hn0 : binV .neq (.i .i64 ee) (.i .i64 0) = some (.b true) := by simp [binV, binI, hee]
    simp only [go_sem, ↓reduceIte, r4_7, r4_8, tl, t14, hn0]
    exact e5
end Go.Air
