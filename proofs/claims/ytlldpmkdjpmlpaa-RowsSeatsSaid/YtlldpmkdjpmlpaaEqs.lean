/-
  The calculus as a set of rewriting rules (go_sem): Air's code is carried out from the front; what comes behind is not looked at until it is its turn.
-/
import Derived.Test.YtlldpmkdjpmlpaaHeap
import Derived.Attr
set_option linter.unusedSectionVars false
set_option linter.unusedVariables false
set_option linter.unusedSimpArgs false
namespace Go.Air
variable {tbl : Nat → Option FI} {t t' : List V} {h h' : H} {Q : Out → List V → H → Prop} {S : V → H → Prop} {T : List V → H → Prop} {U : List V → H → List Foot → Prop}

/-! ### What comes behind, as names -/
def Kseq (tbl : Nat → Option FI) (b : C) (Q : Out → List V → H → Prop) (o : Out) (t : List V) (h : H) : Prop := match o with
  | .norm => W tbl b t h Q
  | .exit i => Q (.exit i) t h
  | .ret => Q .ret t h
def Kblk (id : Nat) (Q : Out → List V → H → Prop) (o : Out) (t : List V) (h : H) : Prop := match o with
  | .exit i => if i = id then Q .norm t h else Q (.exit i) t h
  | .norm => Q .norm t h
  | .ret => Q .ret t h
def Kops (Q : Out → List V → H → Prop) (t : List V) (h : H) : Prop := Q .norm t h
def Kput (tbl : Nat → Option FI) (d : Option Nat) (l : List O) (T : List V → H → Prop) (t : List V) (v : V) (h : H) : Prop := WL tbl l (putD t d v) h T
def Kdrw (tbl : Nat → Option FI) (d : Option Nat) (l : List O) (U : List V → H → List Foot → Prop) (t : List V) (f : List Foot) (r : Option (List Nat)) (h : H) (v : V) (h' : H) : Prop :=
  WD tbl l (putD t d v) (h.back h') (f ++ [⟨r, oldOnes h.next h'.log⟩]) U
def Kcrit (crit : List (Nat × Nat)) (Q : Out → List V → H → Prop) (t : List V) (h : H) (f : List Foot) : Prop := critOk f crit = true ∧ Q .norm t h
def Kfn (res : List ResV) (S : V → H → Prop) (o : Out) (t : List V) (h : H) : Prop := match o with
  | .exit _ => False
  | .norm => resOk (resultsOf t h res) h S
  | .ret => resOk (resultsOf t h res) h S
def Kloop (I : Nat → List V → H → Prop) (n : Nat) (Q : Out → List V → H → Prop) (o : Out) (t : List V) (h : H) : Prop := match o with
  | .norm => ∃ m, m < n ∧ I m t h
  | .exit i => Q (.exit i) t h
  | .ret => Q .ret t h
def guardB (b : Bool) (A B : Prop) : Prop := if b = true then A else B

@[go_sem ↓] theorem W_seq' {a b : C} : W tbl (.seq a b) t h Q ↔ W tbl a t h (Kseq tbl b Q) := W_seq
@[go_sem ↓] theorem W_block' {id : Nat} {a : C} : W tbl (.block id a) t h Q ↔ W tbl a t h (Kblk id Q) := W_block
@[go_sem ↓] theorem W_ops' {l : List O} : W tbl (.ops l) t h Q ↔ WL tbl l t h (Kops Q) := W_ops
/-- an open order of which no two parts could meet. -/
def WE (tbl : Nat → Option FI) : List O → List V → H → (List V → H → Prop) → Prop
  | [], t, h, T => T t h
  | o :: l, t, h, T => if wants o.g t = true then WA tbl o.op t h.bare (fun v h' => WE tbl l (putD t o.dst v) (h.back h') T) else WE tbl l (putD t o.dst .undef) h T
theorem WD_WE {T : List V → H → Prop} : ∀ {l : List O} {t : List V} {h : H} {f : List Foot}, WD tbl l t h f (fun t h _ => T t h) ↔ WE tbl l t h T
  | [], _, _, _ => WD_nil
  | o :: l, t, h, f => by
    rw [WD_cons]
    simp only [WE]
    split
    · constructor
      · exact fun w => w.mono fun v h' q => WD_WE.1 q
      · exact fun w => w.mono fun v h' q => WD_WE.2 q
    · exact WD_WE
def Kdr0 (tbl : Nat → Option FI) (d : Option Nat) (l : List O) (T : List V → H → Prop) (t : List V) (h : H) (v : V) (h' : H) : Prop := WE tbl l (putD t d v) (h.back h') T
@[go_sem ↓] theorem Kdr0_eq {d : Option Nat} {l : List O} {T : List V → H → Prop} {v : V} : Kdr0 tbl d l T t h v h' ↔ WE tbl l (putD t d v) (h.back h') T := Iff.rfl
@[go_sem ↓] theorem WE_nil {T : List V → H → Prop} : WE tbl [] t h T ↔ T t h := Iff.rfl
@[go_sem ↓] theorem WE_plain {d : Option Nat} {op : A} {l : List O} {T : List V → H → Prop} : WE tbl (⟨d, none, op⟩ :: l) t h T ↔ WA tbl op t h.bare (Kdr0 tbl d l T t h) := by
  simp [WE, wants]; rfl
@[go_sem ↓] theorem WE_guard {d : Option Nat} {op : A} {l : List O} {n : Nat} {w : Bool} {T : List V → H → Prop} : WE tbl (⟨d, some (n, w), op⟩ :: l) t h T ↔
    guardB (wants (some (n, w)) t) (WA tbl op t h.bare (Kdr0 tbl d l T t h)) (WE tbl l (putD t d .undef) h T) := Iff.rfl
@[go_sem ↓ high] theorem W_draw0 {l : List O} : W tbl (.draw l []) t h Q ↔ WE tbl l t h (Kops Q) := by
  rw [W_draw, ← WD_WE (f := [])]
  have : (fun t' h' f => critOk f [] = true ∧ Q .norm t' h') = fun t h (_ : List Foot) => Kops Q t h := by
    funext t' h' f
    simp [critOk, Kops]
  rw [this]
@[go_sem ↓] theorem W_draw' {l : List O} {crit : List (Nat × Nat)} : W tbl (.draw l crit) t h Q ↔ WD tbl l t h [] (Kcrit crit Q) := W_draw
attribute [go_sem ↓] W_skip W_exit W_ret W_cond WL_nil WD_nil WA_call
attribute [go_sem] ROk_ok
section
variable {b : C} {id i : Nat} {l : List O} {d : Option Nat} {v : V} {f : List Foot} {r : Option (List Nat)} {crit : List (Nat × Nat)} {res : List ResV} {I : Nat → List V → H → Prop} {n : Nat} {op : A} {A B : Prop}
@[go_sem ↓] theorem Kseq_norm : Kseq tbl b Q .norm t h ↔ W tbl b t h Q := Iff.rfl
@[go_sem ↓] theorem Kseq_exit : Kseq tbl b Q (.exit i) t h ↔ Q (.exit i) t h := Iff.rfl
@[go_sem ↓] theorem Kseq_ret : Kseq tbl b Q .ret t h ↔ Q .ret t h := Iff.rfl
@[go_sem ↓] theorem Kblk_norm : Kblk id Q .norm t h ↔ Q .norm t h := Iff.rfl
@[go_sem ↓] theorem Kblk_ret : Kblk id Q .ret t h ↔ Q .ret t h := Iff.rfl
@[go_sem ↓] theorem Kblk_exit : Kblk id Q (.exit i) t h ↔ guardB (Nat.beq i id) (Q .norm t h) (Q (.exit i) t h) := by simp [Kblk, guardB]
@[go_sem ↓] theorem Kops_eq : Kops Q t h ↔ Q .norm t h := Iff.rfl
@[go_sem ↓] theorem Kput_eq {T : List V → H → Prop} : Kput tbl d l T t v h ↔ WL tbl l (putD t d v) h T := Iff.rfl
@[go_sem ↓] theorem Kdrw_eq : Kdrw tbl d l U t f r h v h' ↔ WD tbl l (putD t d v) (h.back h') (f ++ [⟨r, oldOnes h.next h'.log⟩]) U := Iff.rfl
@[go_sem ↓] theorem Kcrit_eq : Kcrit crit Q t h f ↔ critOk f crit = true ∧ Q .norm t h := Iff.rfl
@[go_sem ↓] theorem Kfn_norm : Kfn res S .norm t h ↔ resOk (resultsOf t h res) h S := Iff.rfl
@[go_sem ↓] theorem Kfn_ret : Kfn res S .ret t h ↔ resOk (resultsOf t h res) h S := Iff.rfl
@[go_sem ↓] theorem Kloop_norm : Kloop I n Q .norm t h ↔ ∃ m, m < n ∧ I m t h := Iff.rfl
@[go_sem ↓] theorem Kloop_exit : Kloop I n Q (.exit i) t h ↔ Q (.exit i) t h := Iff.rfl
@[go_sem ↓] theorem Kloop_ret : Kloop I n Q .ret t h ↔ Q .ret t h := Iff.rfl
@[go_sem ↓] theorem WL_plain {T : List V → H → Prop} : WL tbl (⟨d, none, op⟩ :: l) t h T ↔ WA tbl op t h (Kput tbl d l T t) := by
  rw [WL_cons]; simp [wants, Kput]; rfl
@[go_sem ↓] theorem WL_guard {T : List V → H → Prop} {w : Bool} : WL tbl (⟨d, some (n, w), op⟩ :: l) t h T ↔ guardB (wants (some (n, w)) t) (WA tbl op t h (Kput tbl d l T t)) (WL tbl l (putD t d .undef) h T) := WL_cons
@[go_sem ↓] theorem WD_plain : WD tbl (⟨d, none, op⟩ :: l) t h f U ↔ WA tbl op t h.bare (Kdrw tbl d l U t f (reads op t) h) := by
  rw [WD_cons]; simp [wants, H.bare]; rfl
@[go_sem ↓] theorem WD_guard {w : Bool} : WD tbl (⟨d, some (n, w), op⟩ :: l) t h f U ↔
    guardB (wants (some (n, w)) t) (WA tbl op t h.bare (Kdrw tbl d l U t f (reads op t) h)) (WD tbl l (putD t d .undef) h (f ++ [⟨some [], []⟩]) U) := WD_cons
@[go_sem] theorem guardB_true : guardB true A B ↔ A := by simp [guardB]
@[go_sem] theorem guardB_false : guardB false A B ↔ B := by simp [guardB]
theorem guardB_if {p : Prop} [Decidable p] : guardB (decide p) A B ↔ if p then A else B := by simp [guardB]
@[go_sem] theorem condV_true : condV (.b true) A B ↔ A := Iff.rfl
@[go_sem] theorem condV_false : condV (.b false) A B ↔ B := Iff.rfl
theorem condV_if {p : Prop} [Decidable p] : condV (.b (decide p)) A B ↔ if p then A else B := by rw [condV_b]; simp
@[go_sem] theorem resOk_some {l : List V} : resOk (some l) h S ↔ S (packR l) h := Iff.rfl
@[go_sem] theorem loopOut_some {lp : Loop} {L : Loop → Prop} : loopOut (some (.loop lp)) L ↔ L lp := Iff.rfl
theorem WC_fn' {g : Nat} {first caps args : List V} {fi : FI} (ht : tbl g = some fi) : WC tbl (.fn g first caps) args h S ↔ W tbl fi.body (pad (first ++ args ++ caps) fi.ntmps) h (Kfn fi.res S) := WC_fn ht
/-- a function's call without captured values. -/
theorem WC_in {g : Nat} {args : List V} {m : Nat} {res : List ResV} {body : C} (ht : tbl g = some ⟨m, res, body⟩) : WC tbl (.fn g [] []) args h S ↔ W tbl body (pad args m) h (Kfn res S) := by
  rw [WC_fn' ht]; simp
theorem W_while {a : C} (I : Nat → List V → H → Prop) (hI : ∀ n t h, I n t h → W tbl a t h (Kloop I n Q)) (n : Nat) (hi : I n t h) : W tbl (.loop a) t h Q :=
  W_loop_inv (I := I) (fun n t h hi => hI n t h hi) n t h hi
end
attribute [go_sem] eq_self reduceCtorEq Int.reduceEq Int.reduceLT Int.reduceLE Int.reduceAdd Int.reduceSub Int.reduceMul Int.reduceNe decide_true decide_false Bool.not_true Bool.not_false
@[go_sem] theorem beq_tf : (true == false) = false := rfl
@[go_sem] theorem beq_ff : (false == false) = true := rfl
@[go_sem] theorem beq_tt : (true == true) = true := rfl
@[go_sem] theorem beq_ft : (false == true) = false := rfl
theorem beq_self' (n : Nat) : Nat.beq n n = true := by simp
theorem beq_ne {m n : Nat} (h : m ≠ n) : Nat.beq m n = false := by rw [Bool.eq_false_iff, ne_eq, Nat.beq_eq]; exact h
attribute [go_sem] beq_self'
@[go_sem] theorem beq_dec' (m n : Nat) : Nat.beq m n = decide (m = n) := by rw [Bool.eq_iff_iff]; simp

/-! ### Open orders -/
attribute [go_sem] H.back_bare H.back_new H.get_bare H.next_bare
@[go_sem] theorem ldV_bare (v : V) : ldV h.bare v = ldV h v := by cases v <;> rfl
@[go_sem] theorem ldnV_bare (n : Nat) (v : V) : ldnV h.bare n v = ldnV h n v := by cases v <;> rfl
@[go_sem] theorem critOk_nil (f : List Foot) : critOk f [] = true := rfl

/-! ### Temporaries -/
theorem upd_length (t : List V) (n : Nat) (v : V) : (upd t n v).length = t.length := by rw [upd_eq]; simp
theorem nth_upd (t : List V) (n m : Nat) (v : V) : nth (upd t n v) m = if n = m then (if n < t.length then v else nth t m) else nth t m := by
  rw [upd_eq, nth_eq, nth_eq, List.getD_eq_getElem?_getD, List.getD_eq_getElem?_getD, List.getElem?_set]
  by_cases h : n = m
  · subst h
    by_cases h2 : n < t.length
    · simp [h2]
    · simp only [if_pos True.intro, if_neg h2, if_true]
      rw [List.getElem?_eq_none (by omega)]
  · simp [h]
theorem nth_upd_self {t : List V} {n : Nat} {v : V} (hn : n < t.length) : nth (upd t n v) n = v := by rw [nth_upd, if_pos rfl, if_pos hn]
theorem nth_upd_ne {t : List V} {n m : Nat} {v : V} (hn : n ≠ m) : nth (upd t n v) m = nth t m := by rw [nth_upd, if_neg hn]
attribute [go_sem] nth_upd upd_length Nat.reduceEqDiff Nat.reduceLT
@[go_sem] theorem nth_pad (l : List V) (n k : Nat) : nth (pad l n) k = nth l k := by
  rw [nth_eq, nth_eq, List.getD_eq_getElem?_getD, List.getD_eq_getElem?_getD]
  unfold pad
  by_cases h : k < l.length
  · rw [List.getElem?_append_left h]
  · rw [List.getElem?_append_right (by omega), List.getElem?_eq_none (l := l) (by omega)]
    by_cases h2 : k - l.length < n - l.length
    · rw [List.getElem?_replicate, if_pos h2]; rfl
    · rw [List.getElem?_replicate, if_neg h2]
@[go_sem] theorem pad_length (l : List V) (n : Nat) : (pad l n).length = l.length + (n - l.length) := by simp [pad]
@[go_sem] theorem nth_0 (x : V) (l : List V) : nth (x :: l) 0 = x := rfl
@[go_sem] theorem nth_1 (x y : V) (l : List V) : nth (x :: y :: l) 1 = y := rfl
@[go_sem] theorem nth_2 (x y z : V) (l : List V) : nth (x :: y :: z :: l) 2 = z := rfl
@[go_sem] theorem nth_3 (x y z u : V) (l : List V) : nth (x :: y :: z :: u :: l) 3 = u := rfl
attribute [go_sem] List.length_cons List.length_nil Nat.reduceAdd Nat.reduceSub
@[go_sem] theorem putD_none (t : List V) (v : V) : putD t none v = t := rfl
@[go_sem] theorem putD_some (t : List V) (n : Nat) (v : V) : putD t (some n) v = upd t n v := rfl
@[go_sem] theorem ev_t (t : List V) (n : Nat) : (X.t n).ev t = nth t n := rfl
@[go_sem] theorem ev_c (t : List V) (v : V) : (X.c v).ev t = v := rfl
@[go_sem] theorem ev_f (t : List V) (n : Nat) : (X.f n).ev t = .fn n [] [] := rfl
def wantV (v : V) (w : Bool) : Bool := match v with
  | .b x => x == w
  | _ => false
@[go_sem] theorem wants_some (n : Nat) (w : Bool) (t : List V) : wants (some (n, w)) t = wantV (nth t n) w := rfl
@[go_sem] theorem wantV_b (x w : Bool) : wantV (.b x) w = (x == w) := rfl
attribute [go_sem] List.map_nil List.map_cons

@[go_sem] theorem lenV_sn : lenV .sn = some 0 := rfl
@[go_sem] theorem lenV_sl {b o n c : Nat} {g : Option Nat} : lenV (.sl b o n c g) = some n := rfl
@[go_sem] theorem natCast_zero : ((0 : Nat) : Int) = 0 := rfl

/-! ### Operations -/
def pickV (c a b : V) : Option V := match c with
  | .b true => some a
  | .b false => some b
  | _ => none
def stV (h : H) (n : Nat) (p v : V) : Option H := match p with
  | .p b o => if Nat.beq v.cells.length n then storeAt h b o v.cells else none
  | _ => none
def fldP (off : Nat) : V → Option V
  | .p b o => some (.p b (o + off))
  | _ => none
def extV (n : Nat) : V → Option V
  | .tup c => nth? c n
  | _ => none
def lookV (h : H) (kk : KK) (m k : V) : Option (Option V) :=
  if kk.fits k then (match m with
    | .mn => some none
    | .m b => match h.get b with
      | some (.map es) => find kk k es
      | _ => none
    | _ => none) else none
def lookR (zero : V) (ok : Bool) (r : Option V) : V := if ok then .tup [r.getD zero, .b r.isSome] else r.getD zero
def mapSetV (h : H) (kk : KK) (m k v : V) : Option H := match m with
  | .m b => match h.get b with
    | some (.map es) => if kk.fits k then (mput kk k v es).map fun es' => h.put b (.map es') else none
    | _ => none
  | _ => none
def lenMV (h : H) : V → Option Nat
  | .mn => some 0
  | .m b => match h.get b with
    | some (.map es) => some es.length
    | _ => none
  | _ => none
def RO.ofH : Option H → RO
  | some h => .ok .undef h
  | none => .fail

variable {x y z k : X}
theorem ev_mov : evA noCall (.mov x) t h = .ok (x.ev t) h := rfl
theorem ev_pick : evA noCall (.pick x y z) t h = RO.ofV h (pickV (x.ev t) (y.ev t) (z.ev t)) := by
  simp only [evA]
  cases x.ev t <;> try rfl
  rename_i b
  cases b <;> rfl
theorem ev_alloc {c : List V} : evA noCall (.alloc c) t h = .ok (.p h.next 0) (h.new (.cells c)) := rfl
theorem ev_box : evA noCall (.box x) t h = .ok (.p h.next 0) (h.new (.cells (x.ev t).cells)) := rfl
theorem ev_build {c : List V} {ps : List (Nat × Nat × X)} : evA noCall (.build c ps) t h = RO.ofV h ((fill t c ps).map .agg) := by
  simp only [evA]; cases fill t c ps <;> rfl
def bslR (h : H) (len : Nat) : Option (List V) → RO
  | some c => .ok (.sl h.next 0 len len none) (h.new (.cells c))
  | none => .fail
@[go_sem] theorem bslR_some {len : Nat} {c : List V} : bslR h len (some c) = .ok (.sl h.next 0 len len none) (h.new (.cells c)) := rfl
theorem ev_buildSl {c : List V} {n : Nat} {ps : List (Nat × Nat × X)} : evA noCall (.buildSl c n ps) t h = bslR h n (fill t c ps) := by
  simp only [evA]; cases fill t c ps <;> rfl
theorem ev_st {n : Nat} : evA noCall (.st n x y) t h = RO.ofH (stV h n (x.ev t) (y.ev t)) := by
  simp only [evA, stV]
  cases x.ev t <;> try rfl
  simp only
  split
  · cases storeAt h _ _ (y.ev t).cells <;> rfl
  · rfl
theorem ev_bin {op : BinOp} : evA noCall (.bin op x y) t h = RO.ofV h (binV op (x.ev t) (y.ev t)) := rfl
theorem ev_eqv {neg : Bool} {kd : EqK} : evA noCall (.eqv neg kd x y) t h = RO.ofV h ((eqV kd (x.ev t) (y.ev t)).map fun r => .b (if neg then !r else r)) := by
  simp only [evA]; cases eqV kd (x.ev t) (y.ev t) <;> rfl
theorem ev_un {op : UnOp} : evA noCall (.un op x) t h = RO.ofV h (unV op (x.ev t)) := rfl
def convV (kd : IntKind) : V → Option V
  | .i _ n => some (.i kd (kd.wrap n))
  | _ => none
theorem ev_conv {kd : IntKind} : evA noCall (.conv kd x) t h = RO.ofV h (convV kd (x.ev t)) := by
  simp only [evA]; cases x.ev t <;> rfl
theorem ev_mkFn {f : Nat} {a c : List X} : evA noCall (.mkFn f a c) t h = .ok (.fn f (a.map (X.ev t)) (c.map (X.ev t))) h := rfl
theorem ev_mkMap : evA noCall .mkMap t h = .ok (.m h.next) (h.new (.map [])) := rfl
def mkSlR (h : H) (c : List V) (bytes : Nat) : Option Nat → Option Nat → RO
  | some l, some m => if Nat.ble l m && Nat.ble m 281474976710656 && Nat.ble (bytes * m) 281474976710656 then .ok (.sl h.next 0 l m none) (h.new (.cells (rep c m))) else .fail
  | _, _ => .fail
theorem ev_mkSl {c : List V} {bytes : Nat} : evA noCall (.mkSl c bytes x y) t h = mkSlR h c bytes (natOf (x.ev t)) (natOf (y.ev t)) := by
  simp only [evA]
  cases natOf (x.ev t) <;> cases natOf (y.ev t) <;> rfl
theorem ev_slcH {esz : Nat} : evA noCall (.slc esz x none (some y) none) t h = RO.ofV h (slHi esz (x.ev t) (y.ev t)) := rfl
theorem ev_slcL {esz : Nat} : evA noCall (.slc esz x (some y) none none) t h = RO.ofV h (slLo esz (x.ev t) (y.ev t)) := rfl
theorem ev_slcLH {esz : Nat} : evA noCall (.slc esz x (some y) (some z) none) t h = RO.ofV h (slLH esz (x.ev t) (y.ev t) (z.ev t)) := rfl
theorem ev_fld {off : Nat} : evA noCall (.fld off x) t h = RO.ofV h (fldP off (x.ev t)) := by
  simp only [evA]; cases x.ev t <;> rfl
def fldvV (off : Nat) (sz : Option Nat) : V → Option V
  | .agg c => match sz with
    | none => nth? c off
    | some n => (cut c off n).map .agg
  | _ => none
theorem ev_fldv {off : Nat} {sz : Option Nat} : evA noCall (.fldv off sz x) t h = RO.ofV h (fldvV off sz (x.ev t)) := by
  simp only [evA]
  cases x.ev t <;> try rfl
  cases sz with
  | none => rfl
  | some n =>
    simp only [fldvV]
    cases cut _ off n <;> rfl
theorem ev_look {kk : KK} {zero : V} {ok : Bool} : evA noCall (.look kk zero ok x k) t h = RO.ofV h ((lookV h kk (x.ev t) (k.ev t)).map (lookR zero ok)) := by
  simp only [evA, lookV]
  by_cases hk : kk.fits (k.ev t) = true
  · simp only [if_pos hk]
    cases x.ev t <;> try rfl
    simp only
    cases h.get _ with
    | none => rfl
    | some bl =>
      cases bl <;> try rfl
      simp only
      cases find kk (k.ev t) _ <;> rfl
  · simp only [if_neg hk]
    rfl
theorem ev_mapSet {kk : KK} : evA noCall (.mapSet kk x k y) t h = RO.ofH (mapSetV h kk (x.ev t) (k.ev t) (y.ev t)) := by
  simp only [evA, mapSetV]
  cases x.ev t <;> try rfl
  simp only
  cases h.get _ with
  | none => rfl
  | some bl =>
    cases bl <;> try rfl
    simp only
    by_cases hk : kk.fits (k.ev t) = true
    · simp only [if_pos hk]
      cases mput kk (k.ev t) (y.ev t) _ <;> rfl
    · simp only [if_neg hk]
      rfl
theorem ev_ext {n : Nat} : evA noCall (.ext x n) t h = RO.ofV h (extV n (x.ev t)) := by
  simp only [evA]; cases x.ev t <;> rfl
theorem ev_lenC {n : Nat} : evA noCall (.lenC n) t h = .ok (.i .i64 (n : Int)) h := rfl
theorem ev_lenM : evA noCall (.lenM x) t h = RO.ofV h ((lenMV h (x.ev t)).map fun (n : Nat) => V.i .i64 (n : Int)) := by
  simp only [evA, lenMV]
  cases x.ev t <;> try rfl
  simp only
  cases h.get _ with
  | none => rfl
  | some bl => cases bl <;> rfl
theorem ev_app {esz bytes : Nat} : evA noCall (.app esz bytes x y) t h = appendV esz bytes h (x.ev t) (y.ev t) := rfl
theorem ev_cpy {esz : Nat} : evA noCall (.cpy esz x y) t h = copyV esz h (x.ev t) (y.ev t) := rfl
theorem ev_min {xs : List X} : evA noCall (.min xs) t h = RO.ofV h (minL false (xs.map (X.ev t))) := rfl
theorem ev_max {xs : List X} : evA noCall (.max xs) t h = RO.ofV h (minL true (xs.map (X.ev t))) := rfl

def ixAV (len esz : Nat) (v i : V) : Option V := match v, natOf i with
  | .p b o, some n => if n < len then some (.p b (o + n * esz)) else none
  | _, _ => none
theorem ev_ixA {len esz : Nat} : evA noCall (.ixA len esz x y) t h = RO.ofV h (ixAV len esz (x.ev t) (y.ev t)) := by
  simp only [evA, ixAV]
  cases x.ev t <;> first | (cases natOf (y.ev t) <;> rfl) | skip
  cases natOf (y.ev t) with
  | none => rfl
  | some n =>
    simp only [Nat.blt_eq]
    split <;> rfl
theorem ixA_ok {len esz b o n : Nat} (hn : n < len) : ixAV len esz (.p b o) (.i .i64 (n : Int)) = some (.p b (o + n * esz)) := by
  simp only [ixAV]
  rw [show natOf (.i .i64 (n : Int)) = some n from rfl]
  simp [hn]
theorem WA_of {op : A} {r : RO} (hp : op.plain = true) (he : evA noCall op t h = r) : WA tbl op t h S ↔ ROk r S := by rw [WA_plain hp, he]
@[go_sem ↓] theorem wa_mov : WA tbl (.mov x) t h S ↔ ROk (.ok (x.ev t) h) S := WA_of rfl ev_mov
@[go_sem ↓] theorem wa_pick : WA tbl (.pick x y z) t h S ↔ ROk (RO.ofV h (pickV (x.ev t) (y.ev t) (z.ev t))) S := WA_of rfl ev_pick
@[go_sem ↓] theorem wa_alloc {c : List V} : WA tbl (.alloc c) t h S ↔ ROk (.ok (.p h.next 0) (h.new (.cells c))) S := WA_of rfl ev_alloc
@[go_sem ↓] theorem wa_box : WA tbl (.box x) t h S ↔ ROk (.ok (.p h.next 0) (h.new (.cells (x.ev t).cells))) S := WA_of rfl ev_box
@[go_sem ↓] theorem wa_build {c : List V} {ps : List (Nat × Nat × X)} : WA tbl (.build c ps) t h S ↔ ROk (RO.ofV h ((fill t c ps).map .agg)) S := WA_of rfl ev_build
@[go_sem ↓] theorem wa_buildSl {c : List V} {n : Nat} {ps : List (Nat × Nat × X)} : WA tbl (.buildSl c n ps) t h S ↔ ROk (bslR h n (fill t c ps)) S := WA_of rfl ev_buildSl
@[go_sem ↓] theorem wa_st {n : Nat} : WA tbl (.st n x y) t h S ↔ ROk (RO.ofH (stV h n (x.ev t) (y.ev t))) S := WA_of rfl ev_st
@[go_sem ↓] theorem wa_bin {op : BinOp} : WA tbl (.bin op x y) t h S ↔ ROk (RO.ofV h (binV op (x.ev t) (y.ev t))) S := WA_of rfl ev_bin
@[go_sem ↓] theorem wa_eqv {neg : Bool} {kd : EqK} : WA tbl (.eqv neg kd x y) t h S ↔ ROk (RO.ofV h ((eqV kd (x.ev t) (y.ev t)).map fun r => .b (if neg then !r else r))) S := WA_of rfl ev_eqv
@[go_sem ↓] theorem wa_un {op : UnOp} : WA tbl (.un op x) t h S ↔ ROk (RO.ofV h (unV op (x.ev t))) S := WA_of rfl ev_un
@[go_sem ↓] theorem wa_conv {kd : IntKind} : WA tbl (.conv kd x) t h S ↔ ROk (RO.ofV h (convV kd (x.ev t))) S := WA_of rfl ev_conv
@[go_sem ↓] theorem wa_mkFn {f : Nat} {a c : List X} : WA tbl (.mkFn f a c) t h S ↔ ROk (.ok (.fn f (a.map (X.ev t)) (c.map (X.ev t))) h) S := WA_of rfl ev_mkFn
@[go_sem ↓] theorem wa_mkMap : WA tbl .mkMap t h S ↔ ROk (.ok (.m h.next) (h.new (.map []))) S := WA_of rfl ev_mkMap
@[go_sem ↓] theorem wa_mkSl {c : List V} {bytes : Nat} : WA tbl (.mkSl c bytes x y) t h S ↔ ROk (mkSlR h c bytes (natOf (x.ev t)) (natOf (y.ev t))) S := WA_of rfl ev_mkSl
@[go_sem ↓] theorem wa_slcH {esz : Nat} : WA tbl (.slc esz x none (some y) none) t h S ↔ ROk (RO.ofV h (slHi esz (x.ev t) (y.ev t))) S := WA_of rfl ev_slcH
@[go_sem ↓] theorem wa_slcL {esz : Nat} : WA tbl (.slc esz x (some y) none none) t h S ↔ ROk (RO.ofV h (slLo esz (x.ev t) (y.ev t))) S := WA_of rfl ev_slcL
@[go_sem ↓] theorem wa_slcLH {esz : Nat} : WA tbl (.slc esz x (some y) (some z) none) t h S ↔ ROk (RO.ofV h (slLH esz (x.ev t) (y.ev t) (z.ev t))) S := WA_of rfl ev_slcLH
@[go_sem ↓] theorem wa_fld {off : Nat} : WA tbl (.fld off x) t h S ↔ ROk (RO.ofV h (fldP off (x.ev t))) S := WA_of rfl ev_fld
@[go_sem ↓] theorem wa_fldv {off : Nat} {sz : Option Nat} : WA tbl (.fldv off sz x) t h S ↔ ROk (RO.ofV h (fldvV off sz (x.ev t))) S := WA_of rfl ev_fldv
@[go_sem ↓] theorem wa_look {kk : KK} {zero : V} {ok : Bool} : WA tbl (.look kk zero ok x k) t h S ↔ ROk (RO.ofV h ((lookV h kk (x.ev t) (k.ev t)).map (lookR zero ok))) S := WA_of rfl ev_look
@[go_sem ↓] theorem wa_mapSet {kk : KK} : WA tbl (.mapSet kk x k y) t h S ↔ ROk (RO.ofH (mapSetV h kk (x.ev t) (k.ev t) (y.ev t))) S := WA_of rfl ev_mapSet
@[go_sem ↓] theorem wa_ext {n : Nat} : WA tbl (.ext x n) t h S ↔ ROk (RO.ofV h (extV n (x.ev t))) S := WA_of rfl ev_ext
@[go_sem ↓] theorem wa_lenC {n : Nat} : WA tbl (.lenC n) t h S ↔ ROk (.ok (.i .i64 (n : Int)) h) S := WA_of rfl ev_lenC
@[go_sem ↓] theorem wa_lenM : WA tbl (.lenM x) t h S ↔ ROk (RO.ofV h ((lenMV h (x.ev t)).map fun (n : Nat) => V.i .i64 (n : Int))) S := WA_of rfl ev_lenM
@[go_sem ↓] theorem wa_app {esz bytes : Nat} : WA tbl (.app esz bytes x y) t h S ↔ ROk (appendV esz bytes h (x.ev t) (y.ev t)) S := WA_of rfl ev_app
@[go_sem ↓] theorem wa_cpy {esz : Nat} : WA tbl (.cpy esz x y) t h S ↔ ROk (copyV esz h (x.ev t) (y.ev t)) S := WA_of rfl ev_cpy
@[go_sem ↓] theorem wa_min {xs : List X} : WA tbl (.min xs) t h S ↔ ROk (RO.ofV h (minL false (xs.map (X.ev t)))) S := WA_of rfl ev_min
@[go_sem ↓] theorem wa_max {xs : List X} : WA tbl (.max xs) t h S ↔ ROk (RO.ofV h (minL true (xs.map (X.ev t)))) S := WA_of rfl ev_max
@[go_sem ↓] theorem wa_ld : WA tbl (.ld x) t h S ↔ ROk (RO.ofV h (ldV h (x.ev t))) S := WA_of rfl ev_ld
@[go_sem ↓] theorem wa_ldn {n : Nat} : WA tbl (.ldn n x) t h S ↔ ROk (RO.ofV h (ldnV h n (x.ev t))) S := WA_of rfl ev_ldn
@[go_sem ↓] theorem wa_ixS {esz : Nat} : WA tbl (.ixS esz x k) t h S ↔ ROk (RO.ofV h (ixV esz (x.ev t) (k.ev t))) S := WA_of rfl ev_ixS
@[go_sem ↓] theorem wa_ixA {len esz : Nat} : WA tbl (.ixA len esz x y) t h S ↔ ROk (RO.ofV h (ixAV len esz (x.ev t) (y.ev t))) S := WA_of rfl ev_ixA
@[go_sem ↓] theorem wa_lenL : WA tbl (.lenL x) t h S ↔ ROk (RO.ofV h ((lenV (x.ev t)).map fun (n : Nat) => V.i .i64 (n : Int))) S := WA_of rfl ev_lenL

@[go_sem] theorem ofV_some {v : V} : RO.ofV h (some v) = .ok v h := rfl
@[go_sem] theorem ofH_some : RO.ofH (some h) = .ok .undef h := rfl
attribute [go_sem] Option.map_some Option.bind_some Option.getD_some Option.getD_none true_and and_true
@[go_sem] theorem pickV_t {a b : V} : pickV (.b true) a b = some a := rfl
@[go_sem] theorem pickV_f {a b : V} : pickV (.b false) a b = some b := rfl
@[go_sem] theorem fldP_p {b o off : Nat} : fldP off (.p b o) = some (.p b (o + off)) := rfl
@[go_sem] theorem extV_0 {a : V} {l : List V} : extV 0 (.tup (a :: l)) = some a := rfl
@[go_sem] theorem extV_1 {a b : V} {l : List V} : extV 1 (.tup (a :: b :: l)) = some b := rfl
@[go_sem] theorem convV_i {kd kd' : IntKind} {n : Int} : convV kd (.i kd' n) = some (.i kd (kd.wrap n)) := rfl
@[go_sem] theorem lookR_f {zero : V} {r : Option V} : lookR zero false r = r.getD zero := rfl
@[go_sem] theorem lookR_t {zero : V} {r : Option V} : lookR zero true r = .tup [r.getD zero, .b r.isSome] := rfl
@[go_sem] theorem packR_1 {v : V} : packR [v] = v := rfl
@[go_sem] theorem packR_2 {u v : V} {l : List V} : packR (u :: v :: l) = .tup (u :: v :: l) := rfl
@[go_sem] theorem packR_0 : packR [] = .tup [] := rfl
@[go_sem] theorem res_nil : resultsOf t h [] = some [] := rfl
@[go_sem] theorem res_tmp {n : Nat} {l : List ResV} : resultsOf t h (.tmp n :: l) = (resultsOf t h l).map (nth t n :: ·) := rfl

def fill1 (v : V) : Option (List V) := if Nat.beq v.cells.length 1 then some v.cells else none
@[go_sem] theorem fill_one {z0 : V} : fill t [z0] [(0, 1, x)] = fill1 (x.ev t) := by
  simp only [fill, fill1]
  split
  · rename_i hl
    cases hc : (x.ev t).cells with
    | nil => rw [hc] at hl; simp at hl
    | cons u l =>
      cases l with
      | nil => simp [lay]
      | cons _ _ => rw [hc] at hl; simp at hl
  · rfl
def fill2 (x y : V) : Option (List V) := if Nat.beq x.cells.length 1 then (if Nat.beq y.cells.length 1 then some (x.cells ++ y.cells) else none) else none
@[go_sem] theorem fill_two {z0 z1 : V} : fill t [z0, z1] [(0, 1, x), (1, 1, y)] = fill2 (x.ev t) (y.ev t) := by
  simp only [fill, fill2]
  split
  · rename_i hl
    cases hc : (x.ev t).cells with
    | nil => rw [hc] at hl; simp at hl
    | cons u l =>
      cases l with
      | cons _ _ => rw [hc] at hl; simp at hl
      | nil =>
        simp only [lay, Option.map_some]
        split
        · rename_i hl2
          cases hd : (y.ev t).cells with
          | nil => rw [hd] at hl2; simp at hl2
          | cons u2 l2 =>
            cases l2 with
            | cons _ _ => rw [hd] at hl2; simp at hl2
            | nil => simp [lay]
        · rfl
  · rfl
@[go_sem] theorem fill2_ii {kd kd' : IntKind} {m n : Int} : fill2 (.i kd m) (.i kd' n) = some [.i kd m, .i kd' n] := rfl
def fillR (z0 x : V) : Option (List V) := if Nat.beq x.cells.length 1 then some (z0 :: x.cells) else none
@[go_sem] theorem fill_at1 {z0 z1 : V} : fill t [z0, z1] [(1, 1, x)] = fillR z0 (x.ev t) := by
  simp only [fill, fillR]
  split
  · rename_i hl
    cases hc : (x.ev t).cells with
    | nil => rw [hc] at hl; simp at hl
    | cons u l =>
      cases l with
      | nil => simp [lay]
      | cons _ _ => rw [hc] at hl; simp at hl
  · rfl
@[go_sem] theorem fillR_i {z0 : V} {kd : IntKind} {n : Int} : fillR z0 (.i kd n) = some [z0, .i kd n] := rfl
theorem fill2_of {x y : V} (hx : x.cells = [x]) (hy : y.cells = [y]) : fill2 x y = some [x, y] := by simp [fill2, hx, hy]
def fillA (k : Nat) (v : V) : Option (List V) := if Nat.beq v.cells.length k then some v.cells else none
@[go_sem] theorem fill_agg2 {z0 z1 : V} : fill t [z0, z1] [(0, 2, x)] = fillA 2 (x.ev t) := by
  simp only [fill, fillA]
  split
  · rename_i hl
    cases hc : (x.ev t).cells with
    | nil => rw [hc] at hl; simp at hl
    | cons u l =>
      cases l with
      | nil => rw [hc] at hl; simp at hl
      | cons u2 l2 =>
        cases l2 with
        | cons _ _ => rw [hc] at hl; simp at hl
        | nil => simp [lay]
  · rfl
@[go_sem] theorem fillA_2 {a b : V} : fillA 2 (.agg [a, b]) = some [a, b] := rfl
@[go_sem] theorem fill1_i {kd : IntKind} {n : Int} : fill1 (.i kd n) = some [.i kd n] := rfl
@[go_sem] theorem fill1_sl {b o l c : Nat} {g : Option Nat} : fill1 (.sl b o l c g) = some [.sl b o l c g] := rfl
@[go_sem] theorem fill1_sn : fill1 .sn = some [.sn] := rfl

/-! ### Maps with int keys -/
def encM (l : List (Int × V)) : List (V × V) := l.map fun p => (.i .i64 p.1, p.2)
def insI (x : Int) (v : V) : List (Int × V) → List (Int × V)
  | [] => [(x, v)]
  | p :: l => if x = p.1 then (p.1, v) :: l else p :: insI x v l
def lkp (x : Int) : List (Int × V) → Option V
  | [] => none
  | p :: l => if x = p.1 then some p.2 else lkp x l
theorem find_int (x : Int) : ∀ l : List (Int × V), find (.sc (.i .i64)) (.i .i64 x) (encM l) = some (lkp x l)
  | [] => rfl
  | p :: l => by
    have hf : (KK.sc (.i .i64)).fits (.i .i64 p.1) = true := rfl
    have ih := find_int x l
    simp only [encM] at ih
    simp only [encM, List.map_cons, find, hf, if_true, lkp, keyEq, scalarEq, ih, decide_eq_true_eq]
    split <;> rfl
theorem mput_int (x : Int) (v : V) : ∀ l : List (Int × V), mput (.sc (.i .i64)) (.i .i64 x) v (encM l) = some (encM (insI x v l))
  | [] => rfl
  | p :: l => by
    have hf : (KK.sc (.i .i64)).fits (.i .i64 p.1) = true := rfl
    have ih := mput_int x v l
    simp only [encM] at ih
    simp only [encM, List.map_cons, mput, hf, if_true, keyEq, scalarEq, ih, insI, decide_eq_true_eq]
    by_cases h : x = p.1
    · simp [h]
    · simp [h]
theorem lkp_ins (x : Int) (v : V) (y : Int) : ∀ l : List (Int × V), lkp y (insI x v l) = if y = x then some v else lkp y l
  | [] => by simp only [insI, lkp]
  | p :: l => by
    have ih := lkp_ins x v y l
    simp only [insI]
    by_cases h : x = p.1
    · rw [if_pos h]
      simp only [lkp, h]
      split <;> rfl
    · rw [if_neg h]
      simp only [lkp, ih]
      by_cases h2 : y = p.1
      · rw [if_pos h2, if_pos h2, if_neg (by omega)]
      · rw [if_neg h2, if_neg h2]
theorem length_ins (x : Int) (v : V) : ∀ l : List (Int × V), (insI x v l).length = if (lkp x l).isSome then l.length else l.length + 1
  | [] => by simp [insI, lkp]
  | p :: l => by
    have ih := length_ins x v l
    simp only [insI]
    by_cases h : x = p.1
    · subst h; simp [lkp]
    · rw [if_neg h]
      simp only [lkp, if_neg h, List.length_cons, ih]
      split <;> rfl
theorem lookV_int {m : Nat} {l : List (Int × V)} (hg : h.get m = some (.map (encM l))) (x : Int) : lookV h (.sc (.i .i64)) (.m m) (.i .i64 x) = some (lkp x l) := by
  have hf : (KK.sc (.i .i64)).fits (.i .i64 x) = true := rfl
  simp only [lookV, hf, if_true, hg, find_int]
theorem mapSetV_int {m : Nat} {l : List (Int × V)} (hg : h.get m = some (.map (encM l))) (x : Int) (v : V) : mapSetV h (.sc (.i .i64)) (.m m) (.i .i64 x) v = some (h.put m (.map (encM (insI x v l)))) := by
  have hf : (KK.sc (.i .i64)).fits (.i .i64 x) = true := rfl
  simp only [mapSetV, hg, hf, if_true, mput_int, Option.map_some]
theorem lenMV_int {m : Nat} {l : List (Int × V)} (hg : h.get m = some (.map (encM l))) : lenMV h (.m m) = some l.length := by
  simp [lenMV, hg, encM]

@[go_sem] theorem lookV_bare (kk : KK) (m k : V) : lookV h.bare kk m k = lookV h kk m k := rfl
@[go_sem] theorem lenMV_bare (m : V) : lenMV h.bare m = lenMV h m := rfl

/-! ### A copy of a struct of two cells -/
theorem st_new2 (h : H) (z0 z1 : V) {x y : V} (hx : x.oneCell = true) (hy : y.oneCell = true) :
    ∃ h2, stV (h.new (.cells [z0, z1])) 2 (.p h.next 0) (.agg [x, y]) = some h2 ∧ Ext h h2 ∧ h2.get h.next = some (.cells [x, y]) ∧ h2.next = h.next + 1 ∧ ldV h2 (.p h.next 0) = some x ∧ ldV h2 (.p h.next 1) = some y := by
  have hg : ((h.new (.cells [z0, z1])).put h.next (.cells [x, y])).get h.next = some (.cells [x, y]) := by rw [H.get_put, if_pos rfl]
  refine ⟨(h.new (.cells [z0, z1])).put h.next (.cells [x, y]), ?_, ((Ext.refl h).new _).put (Nat.le_refl _) _, hg, rfl, ?_, ?_⟩
  · have g1 : (h.new (.cells [z0, z1])).get h.next = some (.cells [z0, z1]) := by rw [H.get_new, if_pos rfl]
    simp [stV, V.cells, storeAt, g1, lay, hx, hy]
  · simp [ldV, hg, Blk.rd1, nth?]
  · simp [ldV, hg, Blk.rd1, nth?]
theorem back_put {h : H} {b : Nat} (hb : b < h.next) (x : Blk) : h.back (h.bare.put b x) = h.put b x := by
  have : Nat.blt b h.next = true := by rw [Nat.blt_eq]; exact hb
  simp [H.back, H.bare, H.put, oldOnes, this]
theorem old_put {h : H} {b : Nat} (hb : b < h.next) (x : Blk) : oldOnes h.next (h.bare.put b x).log = [b] := by
  have : Nat.blt b h.next = true := by rw [Nat.blt_eq]; exact hb
  simp [H.bare, H.put, oldOnes, this]
theorem old_bare (h : H) (n : Nat) : oldOnes n h.bare.log = [] := rfl
attribute [go_sem] Option.isSome_some Option.isSome_none
@[go_sem] theorem un_not {b : Bool} : unV .not (.b b) = some (.b !b) := rfl

/-! ### Arithmetic -/
theorem wrap_in {n : Int} (h0 : -9223372036854775808 ≤ n) (h1 : n ≤ 9223372036854775807) : IntKind.i64.wrap n = n :=
  by exact IntWalk.i64_in _ (by omega)
section
variable {a b : Int} {kd : IntKind}
@[go_sem] theorem bin_add : binV .add (.i .i64 a) (.i .i64 b) = some (.i .i64 (IntKind.i64.wrap (a + b))) := rfl
@[go_sem] theorem bin_sub : binV .sub (.i .i64 a) (.i .i64 b) = some (.i .i64 (IntKind.i64.wrap (a - b))) := rfl
@[go_sem] theorem bin_mul : binV .mul (.i .i64 a) (.i .i64 b) = some (.i .i64 (IntKind.i64.wrap (a * b))) := rfl
@[go_sem] theorem bin_lss : binV .lss (.i kd a) (.i kd b) = some (.b (decide (a < b))) := by simp [binV, binI]
@[go_sem] theorem bin_leq : binV .leq (.i kd a) (.i kd b) = some (.b (decide (a ≤ b))) := by simp [binV, binI]
@[go_sem] theorem bin_gtr : binV .gtr (.i kd a) (.i kd b) = some (.b (decide (b < a))) := by simp [binV, binI]
@[go_sem] theorem bin_geq : binV .geq (.i kd a) (.i kd b) = some (.b (decide (b ≤ a))) := by simp [binV, binI]
@[go_sem] theorem bin_eql : binV .eql (.i kd a) (.i kd b) = some (.b (decide (a = b))) := by simp [binV, binI]
@[go_sem] theorem bin_neq : binV .neq (.i kd a) (.i kd b) = some (.b (!decide (a = b))) := by simp [binV, binI]
@[go_sem] theorem eqV_bool {p q : Bool} : eqV .bool (.b p) (.b q) = some (p == q) := rfl
@[go_sem] theorem natOf_nat {n : Nat} : natOf (.i kd (n : Int)) = some n := rfl
@[go_sem] theorem natOf_0 : natOf (.i kd 0) = some 0 := rfl
@[go_sem] theorem natOf_1 : natOf (.i kd 1) = some 1 := rfl
end
end Go.Air
