/-
  A part of the proof of: The row of BulletinTexts and its tied card, out of the lifted form.
-/
import Derived.Attr
import Derived.Lib.AtoiAll
import Derived.Lib.MapU
import Derived.Lib.CaseT
import Derived.Lib.DecodeN
import Derived.KernelRfl
import Derived.RangeFuncCalls
import Derived.RangeFuncNested
import Derived.Scope
import Derived.RecoverIn
import Derived.Test.YtekdhcpjoeikkaaGreatDoorTxB
set_option linter.unusedSectionVars false
set_option linter.unusedVariables false
set_option linter.unusedSimpArgs false
namespace Go.Air
variable {tbl : Tb} {t t' : List V} {h h' : H} {Q : Out → List V → H → Prop} {S Sp : V → H → Prop} {T : List V → H → Prop} {U : List V → H → List Foot → Prop}
def Kseq (tbl : Tb) (b : C) (Q : Out → List V → H → Prop) (o : Out) (t : List V) (h : H) : Prop := match o with
  | .norm => W tbl b t h Q
  | .exit i => Q (.exit i) t h
  | .ret => Q .ret t h
  | .pan v => Q (.pan v) t h
def Kblk (id : Nat) (Q : Out → List V → H → Prop) (o : Out) (t : List V) (h : H) : Prop := match o with
  | .exit i => if i = id then Q .norm t h else Q (.exit i) t h
  | .norm => Q .norm t h
  | .ret => Q .ret t h
  | .pan v => Q (.pan v) t h
def Kops (Q : Out → List V → H → Prop) (t : List V) (h : H) : Prop := Q .norm t h
def Kput (tbl : Tb) (d : Option Nat) (l : List O) (Q : Out → List V → H → Prop) (t : List V) (v : V) (h : H) : Prop := WL tbl l (putD t d v) h Q
def Kpn (Q : Out → List V → H → Prop) (t : List V) (v : V) (h : H) : Prop := Q (.pan v) t h
def Kdrw (tbl : Tb) (d : Option Nat) (l : List O) (U : List V → H → List Foot → Prop) (t : List V) (f : List Foot) (r : Option (List Nat)) (h : H) (v : V) (h' : H) : Prop :=
  WD tbl l (putD t d v) (h.back h') (f ++ [⟨r, oldOnes h.next h'.log⟩]) U
def Kcrit (crit : List (Nat × Nat)) (Q : Out → List V → H → Prop) (t : List V) (h : H) (f : List Foot) : Prop := critOk f crit = true ∧ Q .norm t h
def Kfn (res : List ResV) (S Sp : V → H → Prop) (o : Out) (t : List V) (h : H) : Prop := match o with
  | .exit _ => False
  | .norm => resOk (resultsOf t h res) h S
  | .ret => resOk (resultsOf t h res) h S
  | .pan v => Sp v h
def Kloop (I : Nat → List V → H → Prop) (n : Nat) (Q : Out → List V → H → Prop) (o : Out) (t : List V) (h : H) : Prop := match o with
  | .norm => ∃ m, m < n ∧ I m t h
  | .exit i => Q (.exit i) t h
  | .ret => Q .ret t h
  | .pan v => Q (.pan v) t h
def guardB (b : Bool) (A B : Prop) : Prop := if b = true then A else B
@[go_sem ↓] theorem W_seq' {a b : C} : W tbl (.seq a b) t h Q ↔ W tbl a t h (Kseq tbl b Q) := W_seq
@[go_sem ↓] theorem W_block' {id : Nat} {a : C} : W tbl (.block id a) t h Q ↔ W tbl a t h (Kblk id Q) := W_block
@[go_sem ↓] theorem W_ops' {l : List O} : W tbl (.ops l) t h Q ↔ WL tbl l t h Q := W_ops
def WE (tbl : Tb) : List O → List V → H → (List V → H → Prop) → Prop
  | [], t, h, T => T t h
  | o :: l, t, h, T => if wants o.g t = true then WA tbl o.op t h.bare (fun v h' => WE tbl l (putD t o.dst v) (h.back h') T) noPan else WE tbl l (putD t o.dst .undef) h T
theorem WD_WE {T : List V → H → Prop} : ∀ {l : List O} {t : List V} {h : H} {f : List Foot}, WD tbl l t h f (fun t h _ => T t h) ↔ WE tbl l t h T
  | [], _, _, _ => WD_nil
  | o :: l, t, h, f => by
    rw [WD_cons]
    simp only [WE]
    split
    · constructor
      · exact fun w => w.mono (fun v h' q => WD_WE.1 q) fun _ _ h => h
      · exact fun w => w.mono (fun v h' q => WD_WE.2 q) fun _ _ h => h
    · exact WD_WE
def Kdr0 (tbl : Tb) (d : Option Nat) (l : List O) (T : List V → H → Prop) (t : List V) (h : H) (v : V) (h' : H) : Prop := WE tbl l (putD t d v) (h.back h') T
@[go_sem ↓] theorem Kdr0_eq {d : Option Nat} {l : List O} {T : List V → H → Prop} {v : V} : Kdr0 tbl d l T t h v h' ↔ WE tbl l (putD t d v) (h.back h') T := Iff.rfl
@[go_sem ↓] theorem WE_nil {T : List V → H → Prop} : WE tbl [] t h T ↔ T t h := Iff.rfl
@[go_sem ↓] theorem WE_plain {d : Option Nat} {op : A} {l : List O} {T : List V → H → Prop} : WE tbl (⟨d, none, op⟩ :: l) t h T ↔ WA tbl op t h.bare (Kdr0 tbl d l T t h) noPan := by
  simp [WE, wants]; rfl
@[go_sem ↓] theorem WE_guard {d : Option Nat} {op : A} {l : List O} {n : Nat} {w : Bool} {T : List V → H → Prop} : WE tbl (⟨d, some (n, w), op⟩ :: l) t h T ↔
    if wants (some (n, w)) t = true then WA tbl op t h.bare (Kdr0 tbl d l T t h) noPan else WE tbl l (putD t d .undef) h T := Iff.rfl
@[go_sem ↓ high] theorem W_draw0 {l : List O} : W tbl (.draw l []) t h Q ↔ WE tbl l t h (Kops Q) := by
  rw [W_draw, ← WD_WE (f := [])]
  have : (fun t' h' f => critOk f [] = true ∧ Q .norm t' h') = fun t h (_ : List Foot) => Kops Q t h := by
    funext t' h' f
    simp [critOk, Kops]
  rw [this]
@[go_sem ↓] theorem W_draw' {l : List O} {crit : List (Nat × Nat)} : W tbl (.draw l crit) t h Q ↔ WD tbl l t h [] (Kcrit crit Q) := W_draw
attribute [go_sem ↓] W_skip W_exit W_ret W_cond WL_nil WD_nil WA_call WA_panic
attribute [go_sem] ROk_ok
section
variable {b : C} {id i : Nat} {l : List O} {d : Option Nat} {v : V} {f : List Foot} {r : Option (List Nat)} {crit : List (Nat × Nat)} {res : List ResV} {I : Nat → List V → H → Prop} {n : Nat} {op : A} {A B : Prop}
@[go_sem ↓] theorem Kseq_norm : Kseq tbl b Q .norm t h ↔ W tbl b t h Q := Iff.rfl
@[go_sem ↓] theorem Kseq_exit : Kseq tbl b Q (.exit i) t h ↔ Q (.exit i) t h := Iff.rfl
@[go_sem ↓] theorem Kseq_ret : Kseq tbl b Q .ret t h ↔ Q .ret t h := Iff.rfl
@[go_sem ↓] theorem Kblk_norm : Kblk id Q .norm t h ↔ Q .norm t h := Iff.rfl
@[go_sem ↓] theorem Kblk_ret : Kblk id Q .ret t h ↔ Q .ret t h := Iff.rfl
@[go_sem ↓] theorem Kblk_exit : Kblk id Q (.exit i) t h ↔ guardB (Nat.beq i id) (Q .norm t h) (Q (.exit i) t h) := by simp [Kblk, guardB]
@[go_sem ↓] theorem Kseq_pan : Kseq tbl b Q (.pan v) t h ↔ Q (.pan v) t h := Iff.rfl
@[go_sem ↓] theorem Kblk_pan : Kblk id Q (.pan v) t h ↔ Q (.pan v) t h := Iff.rfl
@[go_sem ↓] theorem Kpn_eq : Kpn Q t v h ↔ Q (.pan v) t h := Iff.rfl
@[go_sem ↓] theorem Kloop_pan : Kloop I n Q (.pan v) t h ↔ Q (.pan v) t h := Iff.rfl
@[go_sem ↓] theorem Kops_eq : Kops Q t h ↔ Q .norm t h := Iff.rfl
@[go_sem ↓] theorem Kput_eq : Kput tbl d l Q t v h ↔ WL tbl l (putD t d v) h Q := Iff.rfl
@[go_sem ↓] theorem Kdrw_eq : Kdrw tbl d l U t f r h v h' ↔ WD tbl l (putD t d v) (h.back h') (f ++ [⟨r, oldOnes h.next h'.log⟩]) U := Iff.rfl
@[go_sem ↓] theorem Kcrit_eq : Kcrit crit Q t h f ↔ critOk f crit = true ∧ Q .norm t h := Iff.rfl
@[go_sem ↓] theorem Kfn_norm : Kfn res S Sp .norm t h ↔ resOk (resultsOf t h res) h S := Iff.rfl
@[go_sem ↓] theorem Kfn_ret : Kfn res S Sp .ret t h ↔ resOk (resultsOf t h res) h S := Iff.rfl
@[go_sem ↓] theorem Kfn_pan : Kfn res S Sp (.pan v) t h ↔ Sp v h := Iff.rfl
@[go_sem ↓] theorem Kloop_norm : Kloop I n Q .norm t h ↔ ∃ m, m < n ∧ I m t h := Iff.rfl
@[go_sem ↓] theorem Kloop_exit : Kloop I n Q (.exit i) t h ↔ Q (.exit i) t h := Iff.rfl
@[go_sem ↓] theorem Kloop_ret : Kloop I n Q .ret t h ↔ Q .ret t h := Iff.rfl
@[go_sem ↓] theorem WL_plain : WL tbl (⟨d, none, op⟩ :: l) t h Q ↔ WA tbl op t h (Kput tbl d l Q t) (Kpn Q t) := by
  rw [WL_cons]; simp [wants, Kput]; rfl
@[go_sem ↓] theorem WL_guard {w : Bool} : WL tbl (⟨d, some (n, w), op⟩ :: l) t h Q ↔ if wants (some (n, w)) t = true then WA tbl op t h (Kput tbl d l Q t) (Kpn Q t) else WL tbl l (putD t d .undef) h Q := WL_cons
@[go_sem ↓] theorem WD_plain : WD tbl (⟨d, none, op⟩ :: l) t h f U ↔ WA tbl op t h.bare (Kdrw tbl d l U t f (reads op t) h) noPan := by
  rw [WD_cons]; simp [wants, H.bare]; rfl
@[go_sem ↓] theorem WD_guard {w : Bool} : WD tbl (⟨d, some (n, w), op⟩ :: l) t h f U ↔
    if wants (some (n, w)) t = true then WA tbl op t h.bare (Kdrw tbl d l U t f (reads op t) h) noPan else WD tbl l (putD t d .undef) h (f ++ [⟨some [], []⟩]) U := WD_cons
@[go_sem] theorem guardB_true : guardB true A B ↔ A := by simp [guardB]
@[go_sem] theorem guardB_false : guardB false A B ↔ B := by simp [guardB]
@[go_sem] theorem condV_true : condV (.b true) A B ↔ A := Iff.rfl
@[go_sem] theorem condV_false : condV (.b false) A B ↔ B := Iff.rfl
@[go_sem] theorem resOk_some {l : List V} : resOk (some l) h S ↔ S (packR l) h := Iff.rfl
@[go_sem] theorem loopOut_some {lp : Loop} {L : Loop → Prop} : loopOut (some (.loop lp)) L ↔ L lp := Iff.rfl
theorem WC_fn' {g : Nat} {first caps args : List V} {fi : FI} (ht : tbl g = some fi) (hr : fi.rcv = none) (hd : fi.dfr = none) : WX tbl (.fn g first caps) args h S Sp ↔ W tbl fi.body (pad (first ++ args ++ caps) fi.ntmps) h (Kfn fi.res S Sp) := WC_fn ht hr hd
theorem WC_in {g : Nat} {args : List V} {m : Nat} {res : List ResV} {body : C} (ht : tbl g = some ⟨m, res, body, none, none⟩) : WX tbl (.fn g [] []) args h S Sp ↔ W tbl body (pad args m) h (Kfn res S Sp) := by
  rw [WC_fn' ht rfl rfl]; simp
theorem WC_cap {g : Nat} {first caps args : List V} {m : Nat} {res : List ResV} {body : C} (ht : tbl g = some ⟨m, res, body, none, none⟩) : WX tbl (.fn g first caps) args h S Sp ↔ W tbl body (pad (first ++ args ++ caps) m) h (Kfn res S Sp) := WC_fn' ht rfl rfl
theorem WC_prim {g : Nat} {args : List V} {m n : Nat} {v : V} {b : Option Blk} (ht : tbl g = some (primFI m n)) (hp : tbl.pr n (pad args m) h = some (v, b)) : WX tbl (.fn g [] []) args h S Sp ↔ S v (h.newO b) := by
  rw [WC_fn' ht rfl rfl]
  show W tbl (.prim n) (pad ([] ++ args ++ []) m) h (Kfn [.tmp 0] S Sp) ↔ _
  rw [W_prim (v := v) (b := b) (by simpa using hp)]
  rfl
theorem W_while {a : C} (I : Nat → List V → H → Prop) (hI : ∀ n t h, I n t h → W tbl a t h (Kloop I n Q)) (n : Nat) (hi : I n t h) : W tbl (.loop a) t h Q :=
  W_loop_inv (I := I) (fun n t h hi => hI n t h hi) n t h hi
end
attribute [go_sem] eq_self reduceCtorEq Int.reduceEq Int.reduceLT Int.reduceLE Int.reduceAdd Int.reduceSub Int.reduceMul Int.reduceNe decide_true decide_false Bool.not_true Bool.not_false
@[go_sem] theorem beq_tf : (true == false) = false := rfl
@[go_sem] theorem beq_ff : (false == false) = true := rfl
@[go_sem] theorem beq_tt : (true == true) = true := rfl
@[go_sem] theorem beq_ft : (false == true) = false := rfl
theorem beq_self' (n : Nat) : Nat.beq n n = true := by simp
attribute [go_sem] beq_self'
@[go_sem] theorem beq_dec' (m n : Nat) : Nat.beq m n = decide (m = n) := by rw [Bool.eq_iff_iff]; simp
attribute [go_sem] H.back_bare H.back_new H.get_bare H.next_bare
@[go_sem] theorem ldV_bare (v : V) : ldV h.bare v = ldV h v := by cases v <;> rfl
@[go_sem] theorem ldnV_bare (n : Nat) (v : V) : ldnV h.bare n v = ldnV h n v := by cases v <;> rfl
@[go_sem] theorem critOk_nil (f : List Foot) : critOk f [] = true := rfl
theorem upd_length (t : List V) (n : Nat) (v : V) : (upd t n v).length = t.length := by rw [upd_eq]; simp
theorem nth_upd (t : List V) (n m : Nat) (v : V) : nth (upd t n v) m = if n = m then (if n < t.length then v else nth t m) else nth t m := by
  rw [upd_eq, nth_eq, nth_eq, List.getD_eq_getElem?_getD, List.getD_eq_getElem?_getD, List.getElem?_set]
  by_cases h : n = m
  · subst h
    by_cases h2 : n < t.length
    · simp [h2]
    · simp only [if_pos True.intro, if_neg h2, if_true]
      rw [List.getElem?_eq_none (by omega)]
  · simp [h]
attribute [go_sem] nth_upd upd_length Nat.reduceEqDiff Nat.reduceLT
@[go_sem] theorem nth_pad (l : List V) (n k : Nat) : nth (pad l n) k = nth l k := by
  rw [nth_eq, nth_eq, List.getD_eq_getElem?_getD, List.getD_eq_getElem?_getD]
  unfold pad
  by_cases h : k < l.length
  · rw [List.getElem?_append_left h]
  · rw [List.getElem?_append_right (by omega), List.getElem?_eq_none (l := l) (by omega)]
    by_cases h2 : k - l.length < n - l.length
    · rw [List.getElem?_replicate, if_pos h2]; rfl
    · rw [List.getElem?_replicate, if_neg h2]
@[go_sem] theorem pad_length (l : List V) (n : Nat) : (pad l n).length = l.length + (n - l.length) := by simp [pad]
@[go_sem] theorem nth_0 (x : V) (l : List V) : nth (x :: l) 0 = x := rfl
@[go_sem] theorem nth_1 (x y : V) (l : List V) : nth (x :: y :: l) 1 = y := rfl
@[go_sem] theorem nth_2 (x y z : V) (l : List V) : nth (x :: y :: z :: l) 2 = z := rfl
@[go_sem] theorem nth_3 (x y z u : V) (l : List V) : nth (x :: y :: z :: u :: l) 3 = u := rfl
attribute [go_sem] List.length_cons List.length_nil Nat.reduceAdd Nat.reduceSub
@[go_sem] theorem putD_none (t : List V) (v : V) : putD t none v = t := rfl
@[go_sem] theorem putD_some (t : List V) (n : Nat) (v : V) : putD t (some n) v = upd t n v := rfl
@[go_sem] theorem ev_t (t : List V) (n : Nat) : (X.t n).ev t = nth t n := rfl
@[go_sem] theorem ev_c (t : List V) (v : V) : (X.c v).ev t = v := rfl
@[go_sem] theorem ev_f (t : List V) (n : Nat) : (X.f n).ev t = .fn n [] [] := rfl
def wantV (v : V) (w : Bool) : Bool := match v with
  | .b x => x == w
  | _ => false
@[go_sem] theorem wants_some (n : Nat) (w : Bool) (t : List V) : wants (some (n, w)) t = wantV (nth t n) w := rfl
@[go_sem] theorem wantV_b (x w : Bool) : wantV (.b x) w = (x == w) := rfl
attribute [go_sem] List.map_nil List.map_cons
@[go_sem] theorem lenV_sn : lenV .sn = some 0 := rfl
@[go_sem] theorem lenV_sl {b o n c : Nat} {g : Option Nat} : lenV (.sl b o n c g) = some n := rfl
@[go_sem] theorem natCast_zero : ((0 : Nat) : Int) = 0 := rfl
@[go_sem] theorem natCast_one : ((1 : Nat) : Int) = 1 := rfl
def pickV (c a b : V) : Option V := match c with
  | .b true => some a
  | .b false => some b
  | _ => none
def stV (h : H) (n : Nat) (p v : V) : Option H := match p with
  | .p b o => if Nat.beq v.cells.length n then storeAt h b o v.cells else none
  | _ => none
def fldP (off : Nat) : V → Option V
  | .p b o => some (.p b (o + off))
  | _ => none
def extV (n : Nat) : V → Option V
  | .tup c => nth? c n
  | _ => none
def lookV (h : H) (kk : KK) (m k : V) : Option (Option V) :=
  if kk.fits k then (match m with
    | .mn => some none
    | .m b => match h.get b with
      | some (.map es) => find kk k es
      | _ => none
    | _ => none) else none
def lookR (zero : V) (ok : Bool) (r : Option V) : V := if ok then .tup [r.getD zero, .b r.isSome] else r.getD zero
def mapSetV (h : H) (kk : KK) (m k v : V) : Option H := match m with
  | .m b => match h.get b with
    | some (.map es) => if kk.fits k then (mput kk k v es).map fun es' => h.put b (.map es') else none
    | _ => none
  | _ => none
def lenMV (h : H) : V → Option Nat
  | .mn => some 0
  | .m b => match h.get b with
    | some (.map es) => some es.length
    | _ => none
  | _ => none
def RO.ofH : Option H → RO
  | some h => .ok .undef h
  | none => .fail
variable {x y z k : X}
theorem ev_mov : evA noCall (.mov x) t h = .ok (x.ev t) h := rfl
theorem ev_pick : evA noCall (.pick x y z) t h = RO.ofV h (pickV (x.ev t) (y.ev t) (z.ev t)) := by
  simp only [evA]
  cases x.ev t <;> try rfl
  rename_i b
  cases b <;> rfl
theorem ev_alloc {c : List V} : evA noCall (.alloc c) t h = .ok (.p h.next 0) (h.new (.cells c)) := rfl
theorem ev_box : evA noCall (.box x) t h = .ok (.p h.next 0) (h.new (.cells (x.ev t).cells)) := rfl
theorem ev_build {c : List V} {ps : List (Nat × Nat × X)} : evA noCall (.build c ps) t h = RO.ofV h ((fill t c ps).map .agg) := by
  simp only [evA]; cases fill t c ps <;> rfl
def bslR (h : H) (len : Nat) : Option (List V) → RO
  | some c => .ok (.sl h.next 0 len len none) (h.new (.cells c))
  | none => .fail
@[go_sem] theorem bslR_some {len : Nat} {c : List V} : bslR h len (some c) = .ok (.sl h.next 0 len len none) (h.new (.cells c)) := rfl
theorem ev_buildSl {c : List V} {n : Nat} {ps : List (Nat × Nat × X)} : evA noCall (.buildSl c n ps) t h = bslR h n (fill t c ps) := by
  simp only [evA]; cases fill t c ps <;> rfl
theorem ev_st {n : Nat} : evA noCall (.st n x y) t h = RO.ofH (stV h n (x.ev t) (y.ev t)) := by
  simp only [evA, stV]
  cases x.ev t <;> try rfl
  simp only
  split
  · cases storeAt h _ _ (y.ev t).cells <;> rfl
  · rfl
theorem ev_bin {op : BinOp} : evA noCall (.bin op x y) t h = RO.ofV h (binV op (x.ev t) (y.ev t)) := rfl
theorem ev_eqv {neg : Bool} {kd : EqK} : evA noCall (.eqv neg kd x y) t h = RO.ofV h ((eqV kd (x.ev t) (y.ev t)).map fun r => .b (if neg then !r else r)) := by
  simp only [evA]; cases eqV kd (x.ev t) (y.ev t) <;> rfl
theorem ev_un {op : UnOp} : evA noCall (.un op x) t h = RO.ofV h (unV op (x.ev t)) := rfl
def convV (kd : IntKind) : V → Option V
  | .i _ n => some (.i kd (kd.wrap n))
  | _ => none
theorem ev_conv {kd : IntKind} : evA noCall (.conv kd x) t h = RO.ofV h (convV kd (x.ev t)) := by
  simp only [evA]; cases x.ev t <;> rfl
theorem ev_mkFn {f : Nat} {a c : List X} : evA noCall (.mkFn f a c) t h = .ok (.fn f (a.map (X.ev t)) (c.map (X.ev t))) h := rfl
theorem ev_mkMap : evA noCall .mkMap t h = .ok (.m h.next) (h.new (.map [])) := rfl
def mkSlR (h : H) (c : List V) (bytes : Nat) : Option Nat → Option Nat → RO
  | some l, some m => if Nat.ble l m && Nat.ble m 281474976710656 && Nat.ble (bytes * m) 281474976710656 then .ok (.sl h.next 0 l m none) (h.new (.cells (rep c m))) else .fail
  | _, _ => .fail
theorem ev_mkSl {c : List V} {bytes : Nat} : evA noCall (.mkSl c bytes x y) t h = mkSlR h c bytes (natOf (x.ev t)) (natOf (y.ev t)) := by
  simp only [evA]
  cases natOf (x.ev t) <;> cases natOf (y.ev t) <;> rfl
theorem ev_slcH {esz : Nat} : evA noCall (.slc esz x none (some y) none) t h = RO.ofV h (slHi esz (x.ev t) (y.ev t)) := rfl
theorem ev_slcL {esz : Nat} : evA noCall (.slc esz x (some y) none none) t h = RO.ofV h (slLo esz (x.ev t) (y.ev t)) := rfl
theorem ev_slcLH {esz : Nat} : evA noCall (.slc esz x (some y) (some z) none) t h = RO.ofV h (slLH esz (x.ev t) (y.ev t) (z.ev t)) := rfl
theorem ev_fld {off : Nat} : evA noCall (.fld off x) t h = RO.ofV h (fldP off (x.ev t)) := by
  simp only [evA]; cases x.ev t <;> rfl
def fldvV (off : Nat) (sz : Option Nat) : V → Option V
  | .agg c => match sz with
    | none => nth? c off
    | some n => (cut c off n).map .agg
  | _ => none
theorem ev_fldv {off : Nat} {sz : Option Nat} : evA noCall (.fldv off sz x) t h = RO.ofV h (fldvV off sz (x.ev t)) := by
  simp only [evA]
  cases x.ev t <;> try rfl
  cases sz with
  | none => rfl
  | some n =>
    simp only [fldvV]
    cases cut _ off n <;> rfl
theorem ev_look {kk : KK} {zero : V} {ok : Bool} : evA noCall (.look kk zero ok x k) t h = RO.ofV h ((lookV h kk (x.ev t) (k.ev t)).map (lookR zero ok)) := by
  simp only [evA, lookV]
  by_cases hk : kk.fits (k.ev t) = true
  · simp only [if_pos hk]
    cases x.ev t <;> try rfl
    simp only
    cases h.get _ with
    | none => rfl
    | some bl =>
      cases bl <;> try rfl
      simp only
      cases find kk (k.ev t) _ <;> rfl
  · simp only [if_neg hk]
    rfl
theorem ev_mapSet {kk : KK} : evA noCall (.mapSet kk x k y) t h = RO.ofH (mapSetV h kk (x.ev t) (k.ev t) (y.ev t)) := by
  simp only [evA, mapSetV]
  cases x.ev t <;> try rfl
  simp only
  cases h.get _ with
  | none => rfl
  | some bl =>
    cases bl <;> try rfl
    simp only
    by_cases hk : kk.fits (k.ev t) = true
    · simp only [if_pos hk]
      cases mput kk (k.ev t) (y.ev t) _ <;> rfl
    · simp only [if_neg hk]
      rfl
theorem ev_ext {n : Nat} : evA noCall (.ext x n) t h = RO.ofV h (extV n (x.ev t)) := by
  simp only [evA]; cases x.ev t <;> rfl
theorem ev_lenC {n : Nat} : evA noCall (.lenC n) t h = .ok (.i .i64 (n : Int)) h := rfl
theorem ev_lenM : evA noCall (.lenM x) t h = RO.ofV h ((lenMV h (x.ev t)).map fun (n : Nat) => V.i .i64 (n : Int)) := by
  simp only [evA, lenMV]
  cases x.ev t <;> try rfl
  simp only
  cases h.get _ with
  | none => rfl
  | some bl => cases bl <;> rfl
theorem ev_app {esz bytes : Nat} : evA noCall (.app esz bytes x y) t h = appendV esz bytes h (x.ev t) (y.ev t) := rfl
theorem ev_cpy {esz : Nat} : evA noCall (.cpy esz x y) t h = copyV esz h (x.ev t) (y.ev t) := rfl
theorem ev_min {xs : List X} : evA noCall (.min xs) t h = RO.ofV h (minL false (xs.map (X.ev t))) := rfl
theorem ev_max {xs : List X} : evA noCall (.max xs) t h = RO.ofV h (minL true (xs.map (X.ev t))) := rfl
def ixAV (len esz : Nat) (v i : V) : Option V := match v, natOf i with
  | .p b o, some n => if n < len then some (.p b (o + n * esz)) else none
  | _, _ => none
theorem ev_ixA {len esz : Nat} : evA noCall (.ixA len esz x y) t h = RO.ofV h (ixAV len esz (x.ev t) (y.ev t)) := by
  simp only [evA, ixAV]
  cases x.ev t <;> first | (cases natOf (y.ev t) <;> rfl) | skip
  cases natOf (y.ev t) with
  | none => rfl
  | some n =>
    simp only [Nat.blt_eq]
    split <;> rfl
theorem ixA_ok {len esz b o n : Nat} (hn : n < len) : ixAV len esz (.p b o) (.i .i64 (n : Int)) = some (.p b (o + n * esz)) := by
  simp only [ixAV]
  rw [show natOf (.i .i64 (n : Int)) = some n from rfl]
  simp [hn]
theorem WA_of {op : A} {r : RO} (hp : op.plain = true) (he : evA noCall op t h = r) : WA tbl op t h S Sp ↔ ROk r S := by rw [WA_plain hp, he]
@[go_sem ↓] theorem wa_mov : WA tbl (.mov x) t h S Sp ↔ ROk (.ok (x.ev t) h) S := WA_of rfl ev_mov
@[go_sem ↓] theorem wa_pick : WA tbl (.pick x y z) t h S Sp ↔ ROk (RO.ofV h (pickV (x.ev t) (y.ev t) (z.ev t))) S := WA_of rfl ev_pick
@[go_sem ↓] theorem wa_alloc {c : List V} : WA tbl (.alloc c) t h S Sp ↔ ROk (.ok (.p h.next 0) (h.new (.cells c))) S := WA_of rfl ev_alloc
@[go_sem ↓] theorem wa_box : WA tbl (.box x) t h S Sp ↔ ROk (.ok (.p h.next 0) (h.new (.cells (x.ev t).cells))) S := WA_of rfl ev_box
@[go_sem ↓] theorem wa_build {c : List V} {ps : List (Nat × Nat × X)} : WA tbl (.build c ps) t h S Sp ↔ ROk (RO.ofV h ((fill t c ps).map .agg)) S := WA_of rfl ev_build
@[go_sem ↓] theorem wa_buildSl {c : List V} {n : Nat} {ps : List (Nat × Nat × X)} : WA tbl (.buildSl c n ps) t h S Sp ↔ ROk (bslR h n (fill t c ps)) S := WA_of rfl ev_buildSl
@[go_sem ↓] theorem wa_st {n : Nat} : WA tbl (.st n x y) t h S Sp ↔ ROk (RO.ofH (stV h n (x.ev t) (y.ev t))) S := WA_of rfl ev_st
@[go_sem ↓] theorem wa_bin {op : BinOp} : WA tbl (.bin op x y) t h S Sp ↔ ROk (RO.ofV h (binV op (x.ev t) (y.ev t))) S := WA_of rfl ev_bin
@[go_sem ↓] theorem wa_eqv {neg : Bool} {kd : EqK} : WA tbl (.eqv neg kd x y) t h S Sp ↔ ROk (RO.ofV h ((eqV kd (x.ev t) (y.ev t)).map fun r => .b (if neg then !r else r))) S := WA_of rfl ev_eqv
@[go_sem ↓] theorem wa_un {op : UnOp} : WA tbl (.un op x) t h S Sp ↔ ROk (RO.ofV h (unV op (x.ev t))) S := WA_of rfl ev_un
@[go_sem ↓] theorem wa_conv {kd : IntKind} : WA tbl (.conv kd x) t h S Sp ↔ ROk (RO.ofV h (convV kd (x.ev t))) S := WA_of rfl ev_conv
@[go_sem ↓] theorem wa_mkFn {f : Nat} {a c : List X} : WA tbl (.mkFn f a c) t h S Sp ↔ ROk (.ok (.fn f (a.map (X.ev t)) (c.map (X.ev t))) h) S := WA_of rfl ev_mkFn
@[go_sem ↓] theorem wa_mkMap : WA tbl .mkMap t h S Sp ↔ ROk (.ok (.m h.next) (h.new (.map []))) S := WA_of rfl ev_mkMap
@[go_sem ↓] theorem wa_mkSl {c : List V} {bytes : Nat} : WA tbl (.mkSl c bytes x y) t h S Sp ↔ ROk (mkSlR h c bytes (natOf (x.ev t)) (natOf (y.ev t))) S := WA_of rfl ev_mkSl
@[go_sem ↓] theorem wa_slcH {esz : Nat} : WA tbl (.slc esz x none (some y) none) t h S Sp ↔ ROk (RO.ofV h (slHi esz (x.ev t) (y.ev t))) S := WA_of rfl ev_slcH
@[go_sem ↓] theorem wa_slcL {esz : Nat} : WA tbl (.slc esz x (some y) none none) t h S Sp ↔ ROk (RO.ofV h (slLo esz (x.ev t) (y.ev t))) S := WA_of rfl ev_slcL
@[go_sem ↓] theorem wa_slcLH {esz : Nat} : WA tbl (.slc esz x (some y) (some z) none) t h S Sp ↔ ROk (RO.ofV h (slLH esz (x.ev t) (y.ev t) (z.ev t))) S := WA_of rfl ev_slcLH
@[go_sem ↓] theorem wa_fld {off : Nat} : WA tbl (.fld off x) t h S Sp ↔ ROk (RO.ofV h (fldP off (x.ev t))) S := WA_of rfl ev_fld
@[go_sem ↓] theorem wa_fldv {off : Nat} {sz : Option Nat} : WA tbl (.fldv off sz x) t h S Sp ↔ ROk (RO.ofV h (fldvV off sz (x.ev t))) S := WA_of rfl ev_fldv
@[go_sem ↓] theorem wa_look {kk : KK} {zero : V} {ok : Bool} : WA tbl (.look kk zero ok x k) t h S Sp ↔ ROk (RO.ofV h ((lookV h kk (x.ev t) (k.ev t)).map (lookR zero ok))) S := WA_of rfl ev_look
@[go_sem ↓] theorem wa_mapSet {kk : KK} : WA tbl (.mapSet kk x k y) t h S Sp ↔ ROk (RO.ofH (mapSetV h kk (x.ev t) (k.ev t) (y.ev t))) S := WA_of rfl ev_mapSet
@[go_sem ↓] theorem wa_ext {n : Nat} : WA tbl (.ext x n) t h S Sp ↔ ROk (RO.ofV h (extV n (x.ev t))) S := WA_of rfl ev_ext
@[go_sem ↓] theorem wa_lenC {n : Nat} : WA tbl (.lenC n) t h S Sp ↔ ROk (.ok (.i .i64 (n : Int)) h) S := WA_of rfl ev_lenC
@[go_sem ↓] theorem wa_lenM : WA tbl (.lenM x) t h S Sp ↔ ROk (RO.ofV h ((lenMV h (x.ev t)).map fun (n : Nat) => V.i .i64 (n : Int))) S := WA_of rfl ev_lenM
@[go_sem ↓] theorem wa_app {esz bytes : Nat} : WA tbl (.app esz bytes x y) t h S Sp ↔ ROk (appendV esz bytes h (x.ev t) (y.ev t)) S := WA_of rfl ev_app
@[go_sem ↓] theorem wa_cpy {esz : Nat} : WA tbl (.cpy esz x y) t h S Sp ↔ ROk (copyV esz h (x.ev t) (y.ev t)) S := WA_of rfl ev_cpy
@[go_sem ↓] theorem wa_min {xs : List X} : WA tbl (.min xs) t h S Sp ↔ ROk (RO.ofV h (minL false (xs.map (X.ev t)))) S := WA_of rfl ev_min
@[go_sem ↓] theorem wa_max {xs : List X} : WA tbl (.max xs) t h S Sp ↔ ROk (RO.ofV h (minL true (xs.map (X.ev t)))) S := WA_of rfl ev_max
@[go_sem ↓] theorem wa_ld : WA tbl (.ld x) t h S Sp ↔ ROk (RO.ofV h (ldV h (x.ev t))) S := WA_of rfl ev_ld
@[go_sem ↓] theorem wa_ldn {n : Nat} : WA tbl (.ldn n x) t h S Sp ↔ ROk (RO.ofV h (ldnV h n (x.ev t))) S := WA_of rfl ev_ldn
@[go_sem ↓] theorem wa_ixS {esz : Nat} : WA tbl (.ixS esz x k) t h S Sp ↔ ROk (RO.ofV h (ixV esz (x.ev t) (k.ev t))) S := WA_of rfl ev_ixS
@[go_sem ↓] theorem wa_ixA {len esz : Nat} : WA tbl (.ixA len esz x y) t h S Sp ↔ ROk (RO.ofV h (ixAV len esz (x.ev t) (y.ev t))) S := WA_of rfl ev_ixA
@[go_sem ↓] theorem wa_lenL : WA tbl (.lenL x) t h S Sp ↔ ROk (RO.ofV h ((lenV (x.ev t)).map fun (n : Nat) => V.i .i64 (n : Int))) S := WA_of rfl ev_lenL
def nilckV : V → Option V
  | .p b o => some (.p b o)
  | .fn f a c => some (.fn f a c)
  | .yld l => some (.yld l)
  | _ => none
theorem ev_nilck : evA noCall (.nilck x) t h = RO.ofV h (nilckV (x.ev t)) := by
  simp only [evA]; cases x.ev t <;> rfl
@[go_sem ↓] theorem wa_nilck : WA tbl (.nilck x) t h S Sp ↔ ROk (RO.ofV h (nilckV (x.ev t))) S := WA_of rfl ev_nilck
@[go_sem] theorem nilckV_p {b o : Nat} : nilckV (.p b o) = some (.p b o) := rfl
@[go_sem] theorem nilckV_fn {f : Nat} {a c : List V} : nilckV (.fn f a c) = some (.fn f a c) := rfl
def lenSV : V → Option V
  | .s l => some (.i .i64 (l.length : Int))
  | _ => none
theorem ev_lenS : evA noCall (.lenS x) t h = RO.ofV h (lenSV (x.ev t)) := by
  simp only [evA]; cases x.ev t <;> rfl
@[go_sem ↓] theorem wa_lenS : WA tbl (.lenS x) t h S Sp ↔ ROk (RO.ofV h (lenSV (x.ev t))) S := WA_of rfl ev_lenS
@[go_sem] theorem lenSV_s {l : List Nat} : lenSV (.s l) = some (.i .i64 (l.length : Int)) := rfl
def slcSV (t : List V) (v : V) (lo hi : Option X) : Option V := match v with
  | .s l => (bounds t l.length l.length lo hi).map fun p => .s ((l.drop p.1).take (p.2 - p.1))
  | _ => none
theorem ev_slcS {lo hi : Option X} : evA noCall (.slcS x lo hi) t h = RO.ofV h (slcSV t (x.ev t) lo hi) := by
  simp only [evA, slcSV]
  cases x.ev t <;> try rfl
  simp only
  cases bounds t _ _ lo hi <;> rfl
@[go_sem ↓] theorem wa_slcS {lo hi : Option X} : WA tbl (.slcS x lo hi) t h S Sp ↔ ROk (RO.ofV h (slcSV t (x.ev t) lo hi)) S := WA_of rfl ev_slcS
def ixSV (v i : V) : Option V := match v, natOf i with
  | .s l, some n => (l[n]?).map fun c => .i .u8 (c : Int)
  | _, _ => none
theorem ev_ixStr : evA noCall (.ixStr x y) t h = RO.ofV h (ixSV (x.ev t) (y.ev t)) := by
  simp only [evA, ixSV]
  cases x.ev t <;> first | (cases natOf (y.ev t) <;> rfl; done) | skip
  rename_i l
  cases natOf (y.ev t) with
  | none => rfl
  | some n =>
    simp only
    cases l[n]? <;> rfl
@[go_sem ↓] theorem wa_ixStr : WA tbl (.ixStr x y) t h S Sp ↔ ROk (RO.ofV h (ixSV (x.ev t) (y.ev t))) S := WA_of rfl ev_ixStr
def slcAV (t : List V) (len esz : Nat) (v : V) (lo hi : Option X) : Option V := match v with
  | .p b o => (bounds t len len lo hi).map fun p => .sl b (if Nat.beq p.1 len then o else o + p.1 * esz) (p.2 - p.1) (len - p.1) none
  | _ => none
theorem ev_slcA {len esz : Nat} {lo hi : Option X} : evA noCall (.slcA len esz x lo hi) t h = RO.ofV h (slcAV t len esz (x.ev t) lo hi) := by
  simp only [evA, slcAV]
  cases x.ev t <;> try rfl
  simp only
  cases bounds t len len lo hi <;> rfl
@[go_sem ↓] theorem wa_slcA {len esz : Nat} {lo hi : Option X} : WA tbl (.slcA len esz x lo hi) t h S Sp ↔ ROk (RO.ofV h (slcAV t len esz (x.ev t) lo hi)) S := WA_of rfl ev_slcA
theorem ev_slc3 {esz : Nat} {lo hi : Option X} {mx : X} : evA noCall (.slc esz x lo hi (some mx)) t h = RO.ofV h (sliceV3 esz t lo hi mx (x.ev t)) := rfl
@[go_sem ↓] theorem wa_slc3 {esz : Nat} {lo hi : Option X} {mx : X} : WA tbl (.slc esz x lo hi (some mx)) t h S Sp ↔ ROk (RO.ofV h (sliceV3 esz t lo hi mx (x.ev t))) S := WA_of rfl ev_slc3
def ixVV (len esz : Nat) (ag : Bool) (v i : V) : Option V := match v, natOf i with
  | .agg c, some n => if n < len then (if ag then (cut c (n * esz) esz).map .agg else nth? c (n * esz)) else none
  | _, _ => none
theorem ev_ixV {len esz : Nat} {ag : Bool} : evA noCall (.ixV len esz ag x y) t h = RO.ofV h (ixVV len esz ag (x.ev t) (y.ev t)) := by
  simp only [evA, ixVV]
  cases x.ev t <;> first | (cases natOf (y.ev t) <;> rfl) | skip
  cases natOf (y.ev t) with
  | none => rfl
  | some n =>
    simp only [Nat.blt_eq]
    split
    · cases ag
      · rfl
      · simp only [if_true]
        cases cut _ (n * esz) esz <;> rfl
    · rfl
@[go_sem ↓] theorem wa_ixV {len esz : Nat} {ag : Bool} : WA tbl (.ixV len esz ag x y) t h S Sp ↔ ROk (RO.ofV h (ixVV len esz ag (x.ev t) (y.ev t))) S := WA_of rfl ev_ixV
theorem ev_mkI {k : Nat} : evA noCall (.mkI k x) t h = .ok (.ifc k (x.ev t)) h := rfl
@[go_sem ↓] theorem wa_mkI {k : Nat} : WA tbl (.mkI k x) t h S Sp ↔ ROk (.ok (.ifc k (x.ev t)) h) S := WA_of rfl ev_mkI
def taV (k : Nat) (z : V) (ok : Bool) : V → Option V
  | .in0 => if ok then some (.tup [z, .b false]) else none
  | .ifc k' v => if Nat.beq k' k then some (if ok then .tup [v, .b true] else v) else (if ok then some (.tup [z, .b false]) else none)
  | _ => none
theorem ev_tassert {k : Nat} {zv : V} {ok : Bool} : evA noCall (.tassert k zv ok x) t h = RO.ofV h (taV k zv ok (x.ev t)) := by
  simp only [evA]
  cases x.ev t <;> try rfl
  · cases ok <;> rfl
  · simp only [taV]
    split
    · rfl
    · cases ok <;> rfl
@[go_sem ↓] theorem wa_tassert {k : Nat} {zv : V} {ok : Bool} : WA tbl (.tassert k zv ok x) t h S Sp ↔ ROk (RO.ofV h (taV k zv ok (x.ev t))) S := WA_of rfl ev_tassert
def s2bR (h : H) : V → RO
  | .s l => .ok (.sl h.next 0 l.length l.length (some 1)) (h.new (.cells (l.map fun c : Nat => V.i .u8 (c : Int))))
  | _ => .fail
theorem ev_s2b : evA noCall (.s2b x) t h = s2bR h (x.ev t) := by
  simp only [evA]; cases x.ev t <;> rfl
@[go_sem ↓] theorem wa_s2b : WA tbl (.s2b x) t h S Sp ↔ ROk (s2bR h (x.ev t)) S := WA_of rfl ev_s2b
@[go_sem] theorem s2bR_s {l : List Nat} : s2bR h (.s l) = .ok (.sl h.next 0 l.length l.length (some 1)) (h.new (.cells (l.map fun c : Nat => V.i .u8 (c : Int)))) := rfl
theorem ev_b2s : evA noCall (.b2s x) t h = RO.ofV h (strOf h (x.ev t)) := rfl
@[go_sem ↓] theorem wa_b2s : WA tbl (.b2s x) t h S Sp ↔ ROk (RO.ofV h (strOf h (x.ev t))) S := WA_of rfl ev_b2s
@[go_sem] theorem bin_sadd {a b : List Nat} (hl : a.length + b.length ≤ 9223372036854775807) : binV .add (.s a) (.s b) = some (.s (a ++ b)) := by
  have : Nat.ble (a.length + b.length) 9223372036854775807 = true := by rw [Nat.ble_eq]; exact hl
  simp only [binV, binS, this, if_true]
theorem bin_seq {a b : List Nat} : binV .eql (.s a) (.s b) = some (.b (decide (a = b))) := by
  have : bytesEq a b = decide (a = b) := by rw [Bool.eq_iff_iff, bytesEq_iff]; simp
  simp only [binV, binS, this]
theorem bin_sne {a b : List Nat} : binV .neq (.s a) (.s b) = some (.b (!decide (a = b))) := by
  have : bytesEq a b = decide (a = b) := by rw [Bool.eq_iff_iff, bytesEq_iff]; simp
  simp only [binV, binS, this]
@[go_sem] theorem ofV_some {v : V} : RO.ofV h (some v) = .ok v h := rfl
@[go_sem] theorem ofH_some : RO.ofH (some h) = .ok .undef h := rfl
attribute [go_sem] Option.map_some Option.bind_some Option.getD_some Option.getD_none true_and and_true
@[go_sem] theorem pickV_t {a b : V} : pickV (.b true) a b = some a := rfl
@[go_sem] theorem pickV_f {a b : V} : pickV (.b false) a b = some b := rfl
@[go_sem] theorem fldP_p {b o off : Nat} : fldP off (.p b o) = some (.p b (o + off)) := rfl
@[go_sem] theorem extV_0 {a : V} {l : List V} : extV 0 (.tup (a :: l)) = some a := rfl
@[go_sem] theorem extV_1 {a b : V} {l : List V} : extV 1 (.tup (a :: b :: l)) = some b := rfl
@[go_sem] theorem extV_2 {a b c : V} {l : List V} : extV 2 (.tup (a :: b :: c :: l)) = some c := rfl
@[go_sem] theorem convV_i {kd kd' : IntKind} {n : Int} : convV kd (.i kd' n) = some (.i kd (kd.wrap n)) := rfl
@[go_sem] theorem lookR_f {zero : V} {r : Option V} : lookR zero false r = r.getD zero := rfl
@[go_sem] theorem lookR_t {zero : V} {r : Option V} : lookR zero true r = .tup [r.getD zero, .b r.isSome] := rfl
@[go_sem] theorem packR_1 {v : V} : packR [v] = v := rfl
@[go_sem] theorem packR_2 {u v : V} {l : List V} : packR (u :: v :: l) = .tup (u :: v :: l) := rfl
@[go_sem] theorem packR_0 : packR [] = .tup [] := rfl
@[go_sem] theorem res_nil : resultsOf t h [] = some [] := rfl
@[go_sem] theorem res_tmp {n : Nat} {l : List ResV} : resultsOf t h (.tmp n :: l) = (resultsOf t h l).map (nth t n :: ·) := rfl
def fill1 (v : V) : Option (List V) := if Nat.beq v.cells.length 1 then some v.cells else none
@[go_sem] theorem fill_one {z0 : V} : fill t [z0] [(0, 1, x)] = fill1 (x.ev t) := by
  simp only [fill, fill1]
  split
  · rename_i hl
    cases hc : (x.ev t).cells with
    | nil => rw [hc] at hl; simp at hl
    | cons u l =>
      cases l with
      | nil => simp [lay]
      | cons _ _ => rw [hc] at hl; simp at hl
  · rfl
def fill2 (x y : V) : Option (List V) := if Nat.beq x.cells.length 1 then (if Nat.beq y.cells.length 1 then some (x.cells ++ y.cells) else none) else none
@[go_sem] theorem fill_two {z0 z1 : V} : fill t [z0, z1] [(0, 1, x), (1, 1, y)] = fill2 (x.ev t) (y.ev t) := by
  simp only [fill, fill2]
  split
  · rename_i hl
    cases hc : (x.ev t).cells with
    | nil => rw [hc] at hl; simp at hl
    | cons u l =>
      cases l with
      | cons _ _ => rw [hc] at hl; simp at hl
      | nil =>
        simp only [lay, Option.map_some]
        split
        · rename_i hl2
          cases hd : (y.ev t).cells with
          | nil => rw [hd] at hl2; simp at hl2
          | cons u2 l2 =>
            cases l2 with
            | cons _ _ => rw [hd] at hl2; simp at hl2
            | nil => simp [lay]
        · rfl
  · rfl
@[go_sem] theorem fill2_ii {kd kd' : IntKind} {m n : Int} : fill2 (.i kd m) (.i kd' n) = some [.i kd m, .i kd' n] := rfl
def fillR (z0 x : V) : Option (List V) := if Nat.beq x.cells.length 1 then some (z0 :: x.cells) else none
@[go_sem] theorem fill_at1 {z0 z1 : V} : fill t [z0, z1] [(1, 1, x)] = fillR z0 (x.ev t) := by
  simp only [fill, fillR]
  split
  · rename_i hl
    cases hc : (x.ev t).cells with
    | nil => rw [hc] at hl; simp at hl
    | cons u l =>
      cases l with
      | nil => simp [lay]
      | cons _ _ => rw [hc] at hl; simp at hl
  · rfl
@[go_sem] theorem fillR_i {z0 : V} {kd : IntKind} {n : Int} : fillR z0 (.i kd n) = some [z0, .i kd n] := rfl
def fillA (k : Nat) (v : V) : Option (List V) := if Nat.beq v.cells.length k then some v.cells else none
@[go_sem] theorem fill_agg2 {z0 z1 : V} : fill t [z0, z1] [(0, 2, x)] = fillA 2 (x.ev t) := by
  simp only [fill, fillA]
  split
  · rename_i hl
    cases hc : (x.ev t).cells with
    | nil => rw [hc] at hl; simp at hl
    | cons u l =>
      cases l with
      | nil => rw [hc] at hl; simp at hl
      | cons u2 l2 =>
        cases l2 with
        | cons _ _ => rw [hc] at hl; simp at hl
        | nil => simp [lay]
  · rfl
@[go_sem] theorem fillA_2 {a b : V} : fillA 2 (.agg [a, b]) = some [a, b] := rfl
@[go_sem] theorem fill1_i {kd : IntKind} {n : Int} : fill1 (.i kd n) = some [.i kd n] := rfl
@[go_sem] theorem fill1_sl {b o l c : Nat} {g : Option Nat} : fill1 (.sl b o l c g) = some [.sl b o l c g] := rfl
@[go_sem] theorem fill1_sn : fill1 .sn = some [.sn] := rfl
@[go_sem] theorem lookV_bare (kk : KK) (m k : V) : lookV h.bare kk m k = lookV h kk m k := rfl
@[go_sem] theorem lenMV_bare (m : V) : lenMV h.bare m = lenMV h m := rfl
theorem back_put {h : H} {b : Nat} (hb : b < h.next) (x : Blk) : h.back (h.bare.put b x) = h.put b x := by
  have : Nat.blt b h.next = true := by rw [Nat.blt_eq]; exact hb
  simp [H.back, H.bare, H.put, oldOnes, this]
theorem old_put {h : H} {b : Nat} (hb : b < h.next) (x : Blk) : oldOnes h.next (h.bare.put b x).log = [b] := by
  have : Nat.blt b h.next = true := by rw [Nat.blt_eq]; exact hb
  simp [H.bare, H.put, oldOnes, this]
theorem old_bare (h : H) (n : Nat) : oldOnes n h.bare.log = [] := rfl
attribute [go_sem] Option.isSome_some Option.isSome_none
@[go_sem] theorem un_not {b : Bool} : unV .not (.b b) = some (.b !b) := rfl
theorem wrap_in {n : Int} (h0 : -9223372036854775808 ≤ n) (h1 : n ≤ 9223372036854775807) : IntKind.i64.wrap n = n :=
  by exact IntWalk.i64_in _ (by omega)
section
variable {a b : Int} {kd : IntKind}
@[go_sem] theorem bin_add : binV .add (.i .i64 a) (.i .i64 b) = some (.i .i64 (IntKind.i64.wrap (a + b))) := rfl
@[go_sem] theorem bin_sub : binV .sub (.i .i64 a) (.i .i64 b) = some (.i .i64 (IntKind.i64.wrap (a - b))) := rfl
@[go_sem] theorem bin_mul : binV .mul (.i .i64 a) (.i .i64 b) = some (.i .i64 (IntKind.i64.wrap (a * b))) := rfl
@[go_sem] theorem bin_lss : binV .lss (.i kd a) (.i kd b) = some (.b (decide (a < b))) := by simp [binV, binI]
@[go_sem] theorem bin_leq : binV .leq (.i kd a) (.i kd b) = some (.b (decide (a ≤ b))) := by simp [binV, binI]
@[go_sem] theorem bin_gtr : binV .gtr (.i kd a) (.i kd b) = some (.b (decide (b < a))) := by simp [binV, binI]
@[go_sem] theorem bin_geq : binV .geq (.i kd a) (.i kd b) = some (.b (decide (b ≤ a))) := by simp [binV, binI]
@[go_sem] theorem bin_eql : binV .eql (.i kd a) (.i kd b) = some (.b (decide (a = b))) := by simp [binV, binI]
@[go_sem] theorem bin_neq : binV .neq (.i kd a) (.i kd b) = some (.b (!decide (a = b))) := by simp [binV, binI]
@[go_sem] theorem eqV_bool {p q : Bool} : eqV .bool (.b p) (.b q) = some (p == q) := rfl
@[go_sem] theorem natOf_nat {n : Nat} : natOf (.i kd (n : Int)) = some n := rfl
@[go_sem] theorem natOf_0 : natOf (.i kd 0) = some 0 := rfl
@[go_sem] theorem natOf_1 : natOf (.i kd 1) = some 1 := rfl
end
end Go.Air
namespace Go.Air.Sha
abbrev W32 := BitVec 32
def rotr (x : W32) (n : Nat) : W32 := (x <<< (32 - n)) ||| (x >>> n)
def K : List Nat := [
  0x428a2f98, 0x71374491, 0xb5c0fbcf, 0xe9b5dba5, 0x3956c25b, 0x59f111f1, 0x923f82a4, 0xab1c5ed5,
  0xd807aa98, 0x12835b01, 0x243185be, 0x550c7dc3, 0x72be5d74, 0x80deb1fe, 0x9bdc06a7, 0xc19bf174,
  0xe49b69c1, 0xefbe4786, 0x0fc19dc6, 0x240ca1cc, 0x2de92c6f, 0x4a7484aa, 0x5cb0a9dc, 0x76f988da,
  0x983e5152, 0xa831c66d, 0xb00327c8, 0xbf597fc7, 0xc6e00bf3, 0xd5a79147, 0x06ca6351, 0x14292967,
  0x27b70a85, 0x2e1b2138, 0x4d2c6dfc, 0x53380d13, 0x650a7354, 0x766a0abb, 0x81c2c92e, 0x92722c85,
  0xa2bfe8a1, 0xa81a664b, 0xc24b8b70, 0xc76c51a3, 0xd192e819, 0xd6990624, 0xf40e3585, 0x106aa070,
  0x19a4c116, 0x1e376c08, 0x2748774c, 0x34b0bcb5, 0x391c0cb3, 0x4ed8aa4a, 0x5b9cca4f, 0x682e6ff3,
  0x748f82ee, 0x78a5636f, 0x84c87814, 0x8cc70208, 0x90befffa, 0xa4506ceb, 0xbef9a3f7, 0xc67178f2]
def H0 : List Nat := [0x6a09e667, 0xbb67ae85, 0x3c6ef372, 0xa54ff53a, 0x510e527f, 0x9b05688c, 0x1f83d9ab, 0x5be0cd19]
def wN (l : List Nat) (i : Nat) : W32 := BitVec.ofNat 32 (l.getD i 0)
def w0 (l : List W32) (i : Nat) : W32 := l.getD i 0
def word (b : List Nat) (i : Nat) : W32 := ((((0 <<< 8 ||| wN b (4 * i)) <<< 8 ||| wN b (4 * i + 1)) <<< 8 ||| wN b (4 * i + 2)) <<< 8) ||| wN b (4 * i + 3)
def words (b : List Nat) : List W32 := (List.range 16).map (word b)
def more (w : List W32) : W32 :=
  let n := w.length
  let x := w0 w (n - 15)
  let y := w0 w (n - 2)
  (rotr y 17 ^^^ rotr y 19 ^^^ (y >>> 10)) + w0 w (n - 7) + (rotr x 7 ^^^ rotr x 18 ^^^ (x >>> 3)) + w0 w (n - 16)
def grow : Nat → List W32 → List W32
  | 0, w => w
  | k + 1, w => grow k (w ++ [more w])
def sched (b : List Nat) : List W32 := grow 48 (words b)
structure St where
  (a b c d e f g h : W32)
  deriving DecidableEq
def St.list (s : St) : List W32 := [s.a, s.b, s.c, s.d, s.e, s.f, s.g, s.h]
def round (s : St) (k w : W32) : St :=
  let t := s.h + (rotr s.e 6 ^^^ rotr s.e 11 ^^^ rotr s.e 25) + ((s.e &&& s.f) ^^^ (~~~s.e &&& s.g)) + k + w
  let u := (rotr s.a 2 ^^^ rotr s.a 13 ^^^ rotr s.a 22) + ((s.a &&& s.b) ^^^ (s.a &&& s.c) ^^^ (s.b &&& s.c))
  ⟨t + u, s.a, s.b, s.c, s.d + t, s.e, s.f, s.g⟩
def rounds (w : List W32) : Nat → St → St
  | 0, s => s
  | n + 1, s => let s' := rounds w n s; round s' (wN K n) (w0 w n)
def St.add (x y : St) : St := ⟨x.a + y.a, x.b + y.b, x.c + y.c, x.d + y.d, x.e + y.e, x.f + y.f, x.g + y.g, x.h + y.h⟩
def block (s : St) (b : List Nat) : St := (rounds (sched b) 64 s).add s
def start : St := ⟨wN H0 0, wN H0 1, wN H0 2, wN H0 3, wN H0 4, wN H0 5, wN H0 6, wN H0 7⟩
def zeros (n : Nat) : Nat := (119 - n % 64) % 64
def pad (b : List Nat) : List Nat := b ++ [128] ++ List.replicate (zeros b.length) 0 ++ (List.range 8).map fun i => ((b.length * 8) >>> (56 - 8 * i)) % 256
def blocks : Nat → St → List Nat → St
  | 0, s, _ => s
  | n + 1, s, m => blocks n (block s (m.take 64)) (m.drop 64)
def bytes (s : St) : List Nat := s.list.flatMap fun x => (List.range 4).map fun k => (x.toNat >>> (24 - 8 * k)) % 256
def sum (b : List Nat) : List Nat := bytes (blocks ((pad b).length / 64) start (pad b))
end Go.Air.Sha
namespace Go.Air
def isStr : V → Bool
  | .s _ => true
  | _ => false
def u8Of : V → Option Nat
  | .i .u8 (.ofNat n) => if Nat.blt n 256 then some n else none
  | _ => none
def u8s : List V → Option (List Nat)
  | [] => some []
  | x :: l => match u8Of x with
    | some c => (u8s l).map (c :: ·)
    | none => none
def bytesAt (h : H) (v : V) : Option (List Nat) := if isStr v then none else match sourceLen v with
  | none => none
  | some n => match sourceCells 1 n h v with
    | none => none
    | some cs => if Nat.ble cs.length 10000000 then u8s cs else none
def digitsF : Nat → Nat → List Nat → List Nat
  | 0, _, acc => acc
  | f + 1, n, acc => if n < 10 then (48 + n) :: acc else digitsF f (n / 10) ((48 + n % 10) :: acc)
def digits (n : Nat) : List Nat := digitsF 20 n []
def itoa (n : Int) : List Nat := if n < 0 then 45 :: digits n.natAbs else digits n.toNat
def pow10s : List (Option V) := (List.range 20).map fun i => some (.i .u64 (.ofNat (10 ^ i)))
def isTab : Option Blk → Bool
  | some (.ro l) => decide (l.map tabCell = pow10s.map tabCell)
  | _ => false
where tabCell : Option V → Option Int
  | some (.i .u64 n) => some n
  | _ => none
def strsOf : List V → Option (List (List Nat))
  | [] => some []
  | .s x :: l => (strsOf l).map (x :: ·)
  | _ :: _ => none
def strsAt (h : H) : V → Option (List (List Nat))
  | .sn => some []
  | .se _ => some []
  | .sl b o len cap g => if Nat.ble len cap then match sourceCells 1 len h (.sl b o len cap g) with
    | none => none
    | some cs => strsOf cs
    else none
  | _ => none
def joinL (sep : List Nat) : List (List Nat) → List Nat
  | [] => []
  | [x] => x
  | x :: l => x ++ sep ++ joinL sep l
def idxB (c : Nat) : List Nat → Nat → Int
  | [], _ => -1
  | x :: l, i => if x = c then (i : Int) else idxB c l (i + 1)
def isErr : Option Blk → Bool
  | some (.ro [some (.ifc _ _)]) => true
  | _ => false
def atoiE (l : List Nat) : Lib.NumEnd Int := Lib.atoiAll (l.map UInt8.ofNat)
def roI (h : H) (b i : Nat) : Option (IntKind × Int) := match h.get b with
  | some (.ro l) => match l[i]? with
    | some (some (.i k n)) => some (k, n)
    | _ => none
  | _ => none
def caseOf (h : H) : Option (Nat × Nat) := match h.get caseBlk with
  | some (.ro (some (.sl b o n _ none) :: _)) => if Nat.beq n 336 && Nat.blt b h.next then some (b, o) else none
  | _ => none
def isRow (h : H) (b o i : Nat) : Bool :=
  decide (roI h b (o + i * 5) = some (IntKind.u32, ((Lib.caseA.getD i (0, 0, 0, 0, 0)).1 : Int))) && (decide (roI h b (o + i * 5 + 1) = some (IntKind.u32, ((Lib.caseA.getD i (0, 0, 0, 0, 0)).2.1 : Int))) && (decide (roI h b (o + i * 5 + 2) = some (IntKind.i32, (Lib.caseA.getD i (0, 0, 0, 0, 0)).2.2.1)) &&
  (decide (roI h b (o + i * 5 + 3) = some (IntKind.i32, (Lib.caseA.getD i (0, 0, 0, 0, 0)).2.2.2.1)) && decide (roI h b (o + i * 5 + 4) = some (IntKind.i32, (Lib.caseA.getD i (0, 0, 0, 0, 0)).2.2.2.2)))))
def isU (h : H) : Bool := ((List.range 256).all fun c => decide (roI h firstBlk c = some (IntKind.u8, (Lib.firstT c : Int)))) && (((List.range 16).all fun i => decide (roI h accBlk (2 * i) = some (IntKind.u8, (Lib.accLo i : Int))) && decide (roI h accBlk (2 * i + 1) = some (IntKind.u8, (Lib.accHi i : Int)))) &&
  match caseOf h with
  | none => false
  | some (b, o) => (List.range 336).all fun i => isRow h b o i)
def lowerL (l : List Nat) : List Nat := (Lib.toLowerD (l.map UInt8.ofNat)).map UInt8.toNat
def primV : Prims
  | 0, t, h => match t with
    | [v] => (bytesAt h v).map fun b => (.agg ((Sha.sum b).map fun c => .i .u8 (.ofNat c)), none)
    | _ => none
  | 1, t, h => match t with
    | [.i .i64 n] => if isTab (h.get tabBlk) && (decide (-9223372036854775808 ≤ n) && decide (n ≤ 9223372036854775807)) then some (.s (itoa n), none) else none
    | _ => none
  | 2, t, h => match t with
    | [v, .s sep] => match strsAt h v with
      | none => none
      | some l => if Nat.ble l.length 140737488355328 && Nat.ble (joinL sep l).length 140737488355328 then some (.s (joinL sep l), none) else none
    | _ => none
  | 3, t, h => match t with
    | [.s l] => if isErr (h.get synBlk) && (isErr (h.get rngBlk) && Nat.ble l.length 281474976710656) then
        match atoiE l with
        | .ok n => some (.tup [.i .i64 n, .in0], none)
        | Lib.NumEnd.syntax => some (.tup [.i .i64 0, .ifc numErrT (.p h.next 0)], some (.ro [none, none, none]))
        | .range => some (.tup [.i .i64 (Lib.atoiSat (l.map UInt8.ofNat)), .ifc numErrT (.p h.next 0)], some (.ro [none, none, none]))
      else none
    | _ => none
  | 4, t, h => match t with
    | [.s l] => if isU h && Nat.ble l.length 1000000 then some (.s (lowerL l), none) else none
    | _ => none
  | 5, t, _ => match t with
    | [.s l, .i .u8 (.ofNat c)] => if Nat.blt c 256 then some (.i .i64 (idxB c l 0), none) else none
    | _ => none
  | 6, t, _ => match t with
    | [.s l, .i .u8 (.ofNat c)] => if Nat.blt c 256 then some (.i .i64 (.ofNat (l.countP (Nat.beq c))), none) else none
    | _ => none
  | 7, t, _ => match t with
    | [.s l, .i .u8 c] => some (.i .i64 (idxB c.toNat l 0), none)
    | _ => none
  | 8, t, _ => match t with
    | [.i .i64 (.ofNat n)] => if Nat.blt n 100 then some (.s (digits n), none) else none
    | _ => none
  | 9, t, _ => match t with
    | [] => some (.b true, none)
    | _ => none
  | _, _, _ => none
end Go.Air
namespace Go.Air
open Go.Air.Sha (rotr)
def u32 (x : BitVec 32) : V := .i .u32 (x.toNat : Int)
def u8 (c : Nat) : V := .i .u8 (c : Int)
@[go_sem] theorem u32_cells (x : BitVec 32) : (u32 x).cells = [u32 x] := rfl
theorem wrap_u32 (n : Int) : IntKind.u32.wrap n = n % 4294967296 := by simp [IntKind.wrap, IntKind.signed, IntKind.bits]
theorem wrap_u8 (n : Int) : IntKind.u8.wrap n = n % 256 := by simp [IntKind.wrap, IntKind.signed, IntKind.bits]
theorem wrap_u64 (n : Int) : IntKind.u64.wrap n = n % 18446744073709551616 := by simp [IntKind.wrap, IntKind.signed, IntKind.bits]
theorem lt32 (x : BitVec 32) : x.toNat < 4294967296 := x.isLt
theorem ofInt32 (x : BitVec 32) : BitVec.ofInt 32 (x.toNat : Int) = x := by
  apply BitVec.eq_of_toNat_eq
  rw [BitVec.toNat_ofInt]
  have := lt32 x
  omega
theorem bits32 (f : BitVec 32 → BitVec 32 → BitVec 32) (x y : BitVec 32) : bitsV .u32 f (x.toNat : Int) (y.toNat : Int) = u32 (f x y) := by
  unfold bitsV u32
  have h : ((BitVec.ofInt (IntKind.u32).bits (x.toNat : Int)) : BitVec 32) = x := ofInt32 x
  have h2 : ((BitVec.ofInt (IntKind.u32).bits (y.toNat : Int)) : BitVec 32) = y := ofInt32 y
  show V.i .u32 (IntKind.u32.wrap ((f (BitVec.ofInt 32 (x.toNat : Int)) (BitVec.ofInt 32 (y.toNat : Int))).toNat : Int)) = _
  rw [ofInt32, ofInt32, wrap_u32]
  have := lt32 (f x y)
  congr 1
  omega
section
variable {x y : BitVec 32}
@[go_sem] theorem u32_xor : binV .xor (u32 x) (u32 y) = some (u32 (x ^^^ y)) := by
  exact congrArg some (bits32 (fun x y => x ^^^ y) x y)
@[go_sem] theorem u32_and : binV .and (u32 x) (u32 y) = some (u32 (x &&& y)) := by
  exact congrArg some (bits32 (fun x y => x &&& y) x y)
@[go_sem] theorem u32_or : binV .or (u32 x) (u32 y) = some (u32 (x ||| y)) := by
  exact congrArg some (bits32 (fun x y => x ||| y) x y)
@[go_sem] theorem u32_not : unV .xor (u32 x) = some (u32 (~~~x)) := by
  show some (bitsV .u32 (fun x y => x ^^^ y) (if (IntKind.u32).signed then -1 else (IntKind.u32).max) (x.toNat : Int)) = _
  have : (if (IntKind.u32).signed then -1 else (IntKind.u32).max) = ((4294967295#32 : BitVec 32).toNat : Int) := by decide
  rw [this]
  refine congrArg some ((bits32 (fun x y => x ^^^ y) _ x).trans (congrArg u32 ?_))
  have h1 : (4294967295#32 : BitVec 32) = BitVec.allOnes 32 := by decide
  exact (congrArg (· ^^^ x) h1).trans BitVec.allOnes_xor
@[go_sem] theorem u32_add : binV .add (u32 x) (u32 y) = some (u32 (x + y)) := by
  show some (V.i .u32 (IntKind.u32.wrap ((x.toNat : Int) + (y.toNat : Int)))) = _
  rw [wrap_u32]
  unfold u32
  rw [BitVec.toNat_add]
  congr 2
theorem u32_shl {k : IntKind} {n : Nat} (hn : n < 32) : binV .shl (u32 x) (.i k (n : Int)) = some (u32 (x <<< n)) := by
  show shI .shl .u32 (x.toNat : Int) (n : Int) = _
  unfold shI
  rw [if_neg (by omega)]
  simp only [Int.toNat_natCast]
  have hb : (IntKind.u32).bits = 32 := rfl
  rw [hb, Nat.min_eq_left (by omega), wrap_u32]
  unfold u32
  rw [BitVec.toNat_shiftLeft, Nat.shiftLeft_eq]
  congr 2
theorem u32_shr {k : IntKind} {n : Nat} (hn : n < 32) : binV .shr (u32 x) (.i k (n : Int)) = some (u32 (x >>> n)) := by
  show shI .shr .u32 (x.toNat : Int) (n : Int) = _
  unfold shI
  rw [if_neg (by omega)]
  simp only [Int.toNat_natCast]
  have hb : (IntKind.u32).bits = 32 := rfl
  rw [hb, Nat.min_eq_left (by omega)]
  unfold u32
  rw [BitVec.toNat_ushiftRight, Nat.shiftRight_eq_div_pow]
  have e : (2 : Int) ^ n = ((2 ^ n : Nat) : Int) := by simp
  rw [e, Int.fdiv_eq_ediv_of_nonneg _ (Int.natCast_nonneg _)]
  rfl
@[go_sem] theorem conv_u8 {c : Nat} (hc : c < 256) : convV .u32 (u8 c) = some (u32 (BitVec.ofNat 32 c)) := by
  unfold u8 convV u32
  simp only [wrap_u32, BitVec.toNat_ofNat]
  congr 2
@[go_sem] theorem conv_u32_u8 : convV .u8 (u32 x) = some (u8 (x.toNat % 256)) := by
  unfold u8 convV u32
  simp only [wrap_u8]
  congr 2
end
end Go.Air
set_option maxRecDepth 100000
namespace Go.Air
theorem wrap_succ {i : Nat} (hi : i < 1000000000) : IntKind.i64.wrap ((i : Int) + 1) = ((i + 1 : Nat) : Int) := by rw [wrap_in (by omega) (by omega)]; simp
theorem take_succ' {α : Type} {xs : List α} {i : Nat} {x : α} (hx : xs[i]? = some x) : xs.take (i + 1) = xs.take i ++ [x] := by
  rw [List.take_add_one, hx]; rfl
theorem WL_gen {tbl : Tb} {l : List O} {t : List V} {h : H} {Q : Out → List V → H → Prop} (P : List V → Prop) (hp : P t) (H : ∀ t', P t' → WL tbl l t' h Q) : WL tbl l t h Q := H t hp
theorem WD_gen {tbl : Tb} {l : List O} {t : List V} {h : H} {f : List Foot} {U : List V → H → List Foot → Prop} (P : List V → Prop) (hp : P t) (H : ∀ t', P t' → WD tbl l t' h f U) : WD tbl l t h f U := H t hp
theorem WE_gen {tbl : Tb} {l : List O} {t : List V} {h : H} {T : List V → H → Prop} (P : List V → Prop) (hp : P t) (H : ∀ t', P t' → WE tbl l t' h T) : WE tbl l t h T := H t hp
theorem WL_genH {tbl : Tb} {l : List O} {t : List V} {h : H} {Q : Out → List V → H → Prop} (P : List V → H → Prop) (hp : P t h) (H : ∀ t' h', P t' h' → WL tbl l t' h' Q) : WL tbl l t h Q := H t h hp
section
variable {h h' : H} {b : Nat} {c : List V}
theorem blk_ldn {k : Nat} (g : h.get b = some (.cells c)) (hk : c.length = k) : ldnV h k (.p b 0) = some (.agg c) := by
  have : cut c 0 k = some c := cut_eq.2 ⟨by omega, by simp [← hk]⟩
  simp [ldnV, g, Blk.rd, this]
theorem blk_ld {i : Nat} {x : V} (g : h.get b = some (.cells c)) (hx : c[i]? = some x) : ldV h (.p b i) = some x := by
  simp [ldV, g, Blk.rd1, nth?_eq, hx]
theorem blk_ld0 {i : Nat} {x : V} (g : h.get b = some (.cells c)) (hx : c[i]? = some x) : ldV h (.p b (0 + i * 1)) = some x := by
  rw [show 0 + i * 1 = i by omega]; exact blk_ld g hx
theorem Ext.get (e : Ext h h') {x : Blk} (hb : b < h.next) (g : h.get b = some x) : h'.get b = some x := (e.same b hb).trans g
theorem lay_one {l : List V} {i : Nat} {x : V} (hi : i < l.length) : lay l i [x] = some (l.set i x) := by
  refine lay_eq.2 ⟨by simp; omega, ?_⟩
  rw [List.set_eq_take_append_cons_drop, if_pos hi]
  simp
theorem blk_st {i : Nat} {x : V} (g : h.get b = some (.cells c)) (hi : i < c.length) (hx : x.cells = [x]) (ho : x.oneCell = true) : stV h 1 (.p b i) x = some (h.put b (.cells (c.set i x))) := by
  simp [stV, hx, storeAt, g, lay_one hi, ho]
theorem blk_st0 {i : Nat} {x : V} (g : h.get b = some (.cells c)) (hi : i < c.length) (hx : x.cells = [x]) (ho : x.oneCell = true) : stV h 1 (.p b (0 + i * 1)) x = some (h.put b (.cells (c.set i x))) := by
  rw [show 0 + i * 1 = i by omega]; exact blk_st g hi hx ho
theorem blk_stn {k : Nat} {d : List V} (g : h.get b = some (.cells c)) (hk : c.length = k) (hd : d.length = k) (ho : ∀ u ∈ d, u.oneCell = true) : stV h k (.p b 0) (.agg d) = some (h.put b (.cells d)) := by
  have h1 : lay c 0 d = some d := lay_eq.2 ⟨by omega, by simp [show c.length ≤ d.length by omega]⟩
  have h2 : d.all V.oneCell = true := List.all_eq_true.2 ho
  have h3 : Nat.beq d.length k = true := by rw [Nat.beq_eq]; exact hd
  simp only [stV, V.cells, h3, if_true, storeAt, g, h1, h2]
theorem get_new_lt {x : Blk} (hb : b < h.next) : (h.new x).get b = h.get b := by rw [H.get_new, if_neg (by omega)]
theorem get_new_eq {x : Blk} (hb : b = h.next) : (h.new x).get b = some x := by rw [H.get_new, if_pos hb]
theorem get_put_eq {x : Blk} : (h.put b x).get b = some x := by rw [H.get_put, if_pos rfl]
theorem get_put_ne {d : Nat} {x : Blk} (hd : d ≠ b) : (h.put b x).get d = h.get d := by rw [H.get_put, if_neg hd]
end
def Sc (esz : Nat) (h : H) (v : V) (n : Nat) (cs : List V) : Prop :=
  ∃ b off cap g bl, v = .sl b off n cap g ∧ n ≤ cap ∧ (g = none ∨ g = some esz) ∧ b < h.next ∧ h.get b = some bl ∧ bl.rd off (n * esz) = some cs
section
variable {esz n : Nat} {h h' : H} {v : V} {cs : List V}
theorem Sc.sl (s : Sc esz h v n cs) : Sl esz h v n cs := by
  obtain ⟨b, off, cap, g, bl, q1, _, _, q2⟩ := s
  exact .inr ⟨b, off, cap, g, bl, q1, q2⟩
theorem Sc.ext (s : Sc esz h v n cs) (e : Ext h h') : Sc esz h' v n cs := by
  obtain ⟨b, off, cap, g, bl, q1, q2, q3, q4, q5, q6⟩ := s
  exact ⟨b, off, cap, g, bl, q1, q2, q3, Nat.lt_of_lt_of_le q4 e.nx, (e.same b q4).trans q5, q6⟩
theorem Sc.keep (s : Sc esz h v n cs) (hn : h.next ≤ h'.next) (hk : h'.get (blkV v) = h.get (blkV v)) : Sc esz h' v n cs := by
  obtain ⟨b, off, cap, g, bl, rfl, q2, q3, q4, q5, q6⟩ := s
  exact ⟨b, off, cap, g, bl, rfl, q2, q3, Nat.lt_of_lt_of_le q4 hn, hk.trans q5, q6⟩
theorem Sc.lt (s : Sc esz h v n cs) : blkV v < h.next := by
  obtain ⟨b, off, cap, g, bl, rfl, q2, q3, q4, _⟩ := s
  exact q4
theorem Sc.lh (s : Sc esz h v n cs) {a b : Nat} (hab : a ≤ b) (hb : b ≤ n) (ha : a < n) :
    ∃ u, slLH esz v (.i .i64 (a : Int)) (.i .i64 (b : Int)) = some u ∧ Sc esz h u (b - a) ((cs.drop (a * esz)).take ((b - a) * esz)) ∧ blkV u = blkV v := by
  obtain ⟨blk, off, cap, g, bl, rfl, q2, q3, q4, q5, q6⟩ := s
  have key : bl.rd (off + a * esz) ((b - a) * esz) = some ((cs.drop (a * esz)).take ((b - a) * esz)) := rd_sub q6 (by
    have : (a + (b - a)) * esz ≤ n * esz := Nat.mul_le_mul_right _ (by omega)
    rw [Nat.add_mul] at this; exact this)
  have hbd : bounds [V.i .i64 (a : Int), V.i .i64 (b : Int)] n cap (some (.t 0)) (some (.t 1)) = some (a, b) := bounds_lh rfl rfl (by omega) hab
  have h1 : Nat.beq a cap = false := by rw [Bool.eq_false_iff, ne_eq, Nat.beq_eq]; omega
  have h2 : Nat.blt a cap = true := by rw [Nat.blt_eq]; omega
  unfold slLH
  rcases q3 with rfl | rfl
  · refine ⟨.sl blk (off + a * esz) (b - a) (cap - a) none, ?_, ⟨blk, _, _, none, bl, rfl, by omega, .inl rfl, q4, q5, key⟩, rfl⟩
    simp only [sliceV, hbd, h1, Bool.false_eq_true, if_false]
  · refine ⟨.sl blk (off + a * esz) (b - a) (cap - a) (some esz), ?_, ⟨blk, _, _, some esz, bl, rfl, by omega, .inr rfl, q4, q5, key⟩, rfl⟩
    have h3 : Nat.beq esz esz = true := by simp
    simp only [sliceV, hbd, h2, h3, Bool.and_self, if_true]
end
theorem Own.sc {h0 h : H} {esz n : Nat} {v : V} {cs : List V} (o : Own h0 esz h v n cs) (hn : 0 < n) : Sc esz h v n cs := by
  obtain ⟨hl, ⟨rfl, _⟩ | ⟨b, g, rfl, hg, _, h2, h3⟩⟩ := o
  · omega
  · exact ⟨b, 0, n, g, _, rfl, Nat.le_refl _, hg, h2, h3, cut_eq.2 ⟨by omega, by rw [← hl]; simp⟩⟩
theorem res_cell {h : H} {t : List V} {n b k : Nat} {cs : List V} (hn : nth t n = .p b 0) (hg : h.get b = some (.cells cs)) (hk : cs.length = k) : resultsOf t h [.cell n (some k)] = some [.agg cs] := by
  have : cut cs 0 k = some cs := cut_eq.2 ⟨by omega, by simp [← hk]⟩
  simp only [resultsOf, resultOf, hn, hg, this, Option.map_some]
theorem u8s_one (l : List Nat) : ∀ u ∈ l.map u8, u.oneCell = true := by
  intro u hu
  obtain ⟨n, _, rfl⟩ := List.mem_map.1 hu
  rfl
end Go.Air
namespace Go.Air.Try
def tb0 : Tb := ⟨tree.get, primV, ext⟩
end Go.Air.Try
set_option autoImplicit false
namespace Go.Air.Fast
universe u
variable {α : Type}
def forceN (n : Nat) (k : Nat → α) : α := Nat.casesOn n (k 0) (fun m => k (Nat.succ m))
def forceZ (z : Int) (k : Int → α) : α := Int.casesOn z (fun n => forceN n fun m => k (Int.ofNat m)) (fun n => forceN n fun m => k (Int.negSucc m))
def forceB (b : Bool) (k : Bool → α) : α := Bool.casesOn b (k false) (k true)
noncomputable def nthK : List V → Nat → (V → α) → α :=
  fun l => List.rec (fun _ k => k V.undef) (fun x _ ih n k => Nat.casesOn n (k x) (fun m => ih m k)) l
noncomputable def nthOK : List V → Nat → α → (V → α) → α :=
  fun l => List.rec (fun _ z _ => z) (fun x _ ih n z k => Nat.casesOn n (k x) (fun m => ih m z k)) l
noncomputable def updK : List V → Nat → V → (List V → α) → α :=
  fun l => List.rec (fun _ _ k => k []) (fun x l ih n v k => Nat.casesOn n (k (v :: l)) (fun m => ih m v (fun r => k (x :: r)))) l
noncomputable def takeK : List V → Nat → α → (List V → α) → α :=
  fun l => List.rec (fun n z k => Nat.casesOn n (k []) (fun _ => z)) (fun x _ ih n z k => Nat.casesOn n (k []) (fun m => ih m z (fun r => k (x :: r)))) l
noncomputable def cutK : List V → Nat → Nat → α → (List V → α) → α :=
  fun l => List.rec (fun o n z k => Nat.casesOn o (Nat.casesOn n (k []) (fun _ => z)) (fun _ => z))
    (fun x l ih o n z k => Nat.casesOn o (takeK (x :: l) n z k) (fun o' => ih o' n z k)) l
noncomputable def layK0 : List V → List V → α → (List V → α) → α :=
  fun l => List.rec (fun vs z k => List.casesOn vs (k []) (fun _ _ => z))
    (fun x l ih vs z k => List.casesOn vs (k (x :: l)) (fun v vs => ih vs z (fun r => k (v :: r)))) l
noncomputable def layK : List V → Nat → List V → α → (List V → α) → α :=
  fun l => List.rec (fun o vs z k => Nat.casesOn o (layK0 [] vs z k) (fun _ => z))
    (fun x l ih o vs z k => Nat.casesOn o (layK0 (x :: l) vs z k) (fun o' => ih o' vs z (fun r => k (x :: r)))) l
noncomputable def appK : List V → List V → (List V → α) → α :=
  fun l => List.rec (fun r k => k r) (fun x _ ih r k => ih r (fun s => k (x :: s))) l
noncomputable def repK (z : List V) : Nat → (List V → α) → α :=
  fun n => Nat.rec (fun k => k []) (fun _ ih k => ih (fun r => appK z r k)) n
noncomputable def lenK : List V → (Nat → α) → α :=
  fun l => List.rec (fun k => k 0) (fun _ _ ih k => ih (fun n => forceN (Nat.succ n) k)) l
noncomputable def nfL : List V → (List V → α) → α :=
  fun l => List.rec (fun k => k []) (fun x _ ih k => ih (fun r => V.casesOn x (fun b => forceB b fun b => k (.b b :: r)) (fun kd n => forceZ n fun n => k (.i kd n :: r))
    (fun s => k (.s s :: r)) (k (.pn :: r)) (fun a b => k (.p a b :: r)) (k (.sn :: r)) (fun a b c d e => k (.sl a b c d e :: r)) (fun a => k (.se a :: r)) (k (.mn :: r)) (fun a => k (.m a :: r)) (k (.fnil :: r))
    (fun a b c => k (.fn a b c :: r)) (fun a => k (.yld a :: r)) (k (.in0 :: r)) (fun a b => k (.ifc a b :: r)) (fun c => k (.agg c :: r)) (fun c => k (.tup c :: r)))) l
noncomputable def getK : T Blk → Nat → α → (Blk → α) → α :=
  fun t => T.rec (fun _ z _ => z) (fun _ x _ ihl ihr n z k => Nat.casesOn n (Option.casesOn x z k)
    (fun m => Nat.casesOn (Nat.mod m 2) (ihl (Nat.div m 2) z k) (fun _ => ihr (Nat.div m 2) z k))) t
noncomputable def leafK (x : Option Blk) : Nat → Nat → (T Blk → α) → α :=
  fun f => Nat.rec (fun _ k => k .e) (fun _ ih n k => Nat.casesOn n (k (.n .e x .e))
    (fun m => Nat.casesOn (Nat.mod m 2) (ih (Nat.div m 2) (fun s => k (.n s none .e))) (fun _ => ih (Nat.div m 2) (fun s => k (.n .e none s))))) f
noncomputable def setK (x : Option Blk) (f : Nat) : T Blk → Nat → (T Blk → α) → α :=
  fun t => T.rec (fun n k => leafK x f n k) (fun l y r ihl ihr n k => Nat.casesOn n (k (.n l x r))
    (fun m => Nat.casesOn (Nat.mod m 2) (ihl (Nat.div m 2) (fun s => k (.n s y r))) (fun _ => ihr (Nat.div m 2) (fun s => k (.n l y s))))) t
noncomputable def hGet (h : H) (b : Nat) (z : α) (k : Blk → α) : α := H.casesOn h (fun _ m _ => getK m b z k)
noncomputable def hNew (h : H) (x : Blk) (k : Nat → H → α) : α :=
  H.casesOn h (fun n m l => setK (some x) (Nat.succ n) m n (fun m' => forceN (Nat.succ n) fun n' => k n ⟨n', m', l⟩))
noncomputable def hPut (h : H) (b : Nat) (x : Blk) (k : H → α) : α :=
  H.casesOn h (fun n m l => setK (some x) (Nat.succ b) m b (fun m' => k ⟨n, m', b :: l⟩))
noncomputable def hKill (h : H) (b : Nat) (k : H → α) : α :=
  H.casesOn h (fun n m l => setK none (Nat.succ b) m b (fun m' => k ⟨n, m', b :: l⟩))
noncomputable def evX (x : X) (t : List V) (k : V → α) : α := X.casesOn x (fun n => nthK t n k) (fun v => k v) (fun f => k (.fn f [] []))
noncomputable def evL (xs : List X) (t : List V) (k : List V → α) : α :=
  List.rec (motive := fun _ => (List V → α) → α) (fun k => k []) (fun x _ ih k => evX x t fun v => ih fun r => k (v :: r)) xs k
noncomputable def cellsK (v : V) (k : List V → α) : α :=
  V.casesOn v (fun _ => k [v]) (fun _ _ => k [v]) (fun _ => k [v]) (k [v]) (fun _ _ => k [v]) (k [v]) (fun _ _ _ _ _ => k [v]) (fun _ => k [v]) (k [v]) (fun _ => k [v]) (k [v]) (fun _ _ _ => k [v])
    (fun _ => k [v]) (k [v]) (fun _ _ => k [v]) (fun c => k c) (fun _ => k [v])
noncomputable def fillK (t : List V) (parts : List (Nat × Nat × X)) : List V → α → (List V → α) → α :=
  List.rec (motive := fun _ => List V → α → (List V → α) → α) (fun z _ k => k z)
    (fun p _ ih z e k => Prod.casesOn p fun off q => Prod.casesOn q fun sz x => evX x t fun v => cellsK v fun cs =>
      lenK cs fun n => Bool.casesOn (Nat.beq n sz) e (layK z off cs e fun z' => ih z' e k)) parts
noncomputable def forceV (v : V) (k : V → α) : α :=
  V.casesOn v (fun b => forceB b fun b => k (.b b)) (fun kd n => forceZ n fun n => k (.i kd n)) (fun s => k (.s s)) (k .pn) (fun a b => forceN b fun b => k (.p a b)) (k .sn)
    (fun a b c d e => forceN b fun b => forceN c fun c => forceN d fun d => k (.sl a b c d e)) (fun a => k (.se a)) (k .mn) (fun a => k (.m a)) (k .fnil)
    (fun a b c => k (.fn a b c)) (fun a => k (.yld a)) (k .in0) (fun a b => k (.ifc a b)) (fun c => k (.agg c)) (fun c => k (.tup c))
noncomputable def forceO (v : Option V) (z : α) (k : V → α) : α := Option.casesOn v z (fun v => forceV v k)
abbrev Call (α : Type) := V → List V → H → α → (V → H → α) → (V → H → α) → α
noncomputable def eMov (x : X) (_ : Call α) (t : List V) (h : H) (_ : α) (k : V → H → α) : α := evX x t fun v => k v h
noncomputable def ePick (c a b : X) (_ : Call α) (t : List V) (h : H) (z : α) (k : V → H → α) : α :=
  evX c t fun c => match c with
    | .b true => evX a t fun v => k v h
    | .b false => evX b t fun v => k v h
    | _ => z
noncomputable def eAlloc (c : List V) (_ : Call α) (_ : List V) (h : H) (_ : α) (k : V → H → α) : α := nfL c fun c => hNew h (.cells c) fun n h => k (.p n 0) h
noncomputable def eBox (x : X) (_ : Call α) (t : List V) (h : H) (_ : α) (k : V → H → α) : α := evX x t fun v => cellsK v fun c => hNew h (.cells c) fun n h => k (.p n 0) h
noncomputable def eBuild (c : List V) (ps : List (Nat × Nat × X)) (_ : Call α) (t : List V) (h : H) (z : α) (k : V → H → α) : α := nfL c fun c => fillK t ps c z fun c => k (.agg c) h
noncomputable def eBuildSl (c : List V) (len : Nat) (ps : List (Nat × Nat × X)) (_ : Call α) (t : List V) (h : H) (z : α) (k : V → H → α) : α :=
  nfL c fun c => fillK t ps c z fun c => hNew h (.cells c) fun n h => k (.sl n 0 len len none) h
noncomputable def asCells (b : Blk) (z : α) (k : List V → α) : α := Blk.casesOn b k (fun _ => z) (fun _ => z) (fun _ => z)
noncomputable def rd1K (b : Blk) (o : Nat) (z : α) (k : V → α) : α := Blk.casesOn b (fun cs => nthOK cs o z k) (fun cs => Option.casesOn (nthO cs o) z k) (fun _ => z) (fun _ => z)
noncomputable def rdK (b : Blk) (o n : Nat) (z : α) (k : List V → α) : α := Blk.casesOn b (fun cs => cutK cs o n z k) (fun cs => Option.casesOn (cutO cs o n) z k) (fun _ => z) (fun _ => z)
noncomputable def eLd (x : X) (_ : Call α) (t : List V) (h : H) (z : α) (k : V → H → α) : α :=
  evX x t fun a => match a with
    | .p b o => hGet h b z fun bl => rd1K bl o z fun v => k v h
    | _ => z
noncomputable def eLdn (n : Nat) (x : X) (_ : Call α) (t : List V) (h : H) (z : α) (k : V → H → α) : α :=
  evX x t fun a => match a with
    | .p b o => hGet h b z fun bl => rdK bl o n z fun l => k (.agg l) h
    | _ => z
noncomputable def onesK (l : List V) : Bool := List.rec true (fun x _ ih => Bool.casesOn x.oneCell false ih) l
noncomputable def stK (h : H) (b o : Nat) (vs : List V) (z : α) (k : H → α) : α :=
  hGet h b z fun bl => asCells bl z fun cs => layK cs o vs z fun cs => Bool.casesOn (onesK vs) z (hPut h b (.cells cs) k)
noncomputable def eSt (n : Nat) (x v : X) (_ : Call α) (t : List V) (h : H) (z : α) (k : V → H → α) : α :=
  evX x t fun a => match a with
    | .p b o => evX v t fun v => cellsK v fun vs => lenK vs fun m => Bool.casesOn (Nat.beq m n) z (stK h b o vs z fun h => k .undef h)
    | _ => z
noncomputable def eNil (x : X) (_ : Call α) (t : List V) (h : H) (z : α) (k : V → H → α) : α :=
  evX x t fun a => match a with
    | .p b o => k (.p b o) h
    | .fn f a c => k (.fn f a c) h
    | .yld l => k (.yld l) h
    | _ => z
noncomputable def intK (v : V) (z : α) (k : IntKind → Int → α) : α :=
  V.casesOn v (fun _ => z) k (fun _ => z) z (fun _ _ => z) z (fun _ _ _ _ _ => z) (fun _ => z) z (fun _ => z) z (fun _ _ _ => z) (fun _ => z) z (fun _ _ => z) (fun _ => z) (fun _ => z)
noncomputable def slowBin (op : BinOp) (a b : V) (h : H) (z : α) (k : V → H → α) : α := forceO (binV op a b) z fun v => k v h
noncomputable def fast2 (op : BinOp) (f : Nat → Nat → α → (V → α) → α) (a b : V) (h : H) (z : α) (k : V → H → α) : α :=
  intK a (slowBin op a b h z k) fun ka m => IntKind.casesOn ka (slowBin op a b h z k) (slowBin op a b h z k) (slowBin op a b h z k)
    (intK b (slowBin op a b h z k) fun kb n => IntKind.casesOn kb (slowBin op a b h z k) (slowBin op a b h z k) (slowBin op a b h z k)
      (Int.casesOn m (fun m => Int.casesOn n (fun n => f m n (slowBin op a b h z k) fun v => k v h) (fun _ => slowBin op a b h z k)) (fun _ => slowBin op a b h z k))
      (slowBin op a b h z k) (slowBin op a b h z k) (slowBin op a b h z k) (slowBin op a b h z k))
    (slowBin op a b h z k) (slowBin op a b h z k) (slowBin op a b h z k) (slowBin op a b h z k)
def fAdd (m n : Nat) (s : α) (k : V → α) : α := Bool.casesOn (Nat.ble (Nat.add m n) 9223372036854775807) s (forceN (Nat.add m n) fun r => k (.i .i64 (.ofNat r)))
def fSub (m n : Nat) (s : α) (k : V → α) : α := Bool.casesOn (Nat.ble n m && Nat.ble m 9223372036854775807) s (forceN (Nat.sub m n) fun r => k (.i .i64 (.ofNat r)))
def fMul (m n : Nat) (s : α) (k : V → α) : α := Bool.casesOn (Nat.ble (Nat.mul m n) 9223372036854775807) s (forceN (Nat.mul m n) fun r => k (.i .i64 (.ofNat r)))
def fLss (m n : Nat) (_ : α) (k : V → α) : α := Bool.casesOn (Nat.blt m n) (k (.b false)) (k (.b true))
def fLeq (m n : Nat) (_ : α) (k : V → α) : α := Bool.casesOn (Nat.ble m n) (k (.b false)) (k (.b true))
def fGtr (m n : Nat) (_ : α) (k : V → α) : α := Bool.casesOn (Nat.blt n m) (k (.b false)) (k (.b true))
def fGeq (m n : Nat) (_ : α) (k : V → α) : α := Bool.casesOn (Nat.ble n m) (k (.b false)) (k (.b true))
def fEql (m n : Nat) (_ : α) (k : V → α) : α := Bool.casesOn (Nat.beq m n) (k (.b false)) (k (.b true))
def fNeq (m n : Nat) (_ : α) (k : V → α) : α := Bool.casesOn (Nat.beq m n) (k (.b true)) (k (.b false))
noncomputable def binK (op : BinOp) : V → V → H → α → (V → H → α) → α :=
  BinOp.casesOn op (fast2 .add fAdd) (fast2 .sub fSub) (fast2 .mul fMul) (slowBin .quo) (slowBin .rem) (slowBin .and) (slowBin .or) (slowBin .xor) (slowBin .shl) (slowBin .shr) (slowBin .andNot)
    (fast2 .eql fEql) (fast2 .neq fNeq) (fast2 .lss fLss) (fast2 .leq fLeq) (fast2 .gtr fGtr) (fast2 .geq fGeq)
noncomputable def eBin (op : BinOp) (x y : X) (_ : Call α) (t : List V) (h : H) (z : α) (k : V → H → α) : α :=
  evX x t fun a => evX y t fun b => binK op a b h z k
noncomputable def eEqv (neg : Bool) (kd : EqK) (x y : X) (_ : Call α) (t : List V) (h : H) (z : α) (k : V → H → α) : α :=
  evX x t fun a => evX y t fun b => Option.casesOn (eqV kd a b) z fun r => forceB (if neg then !r else r) fun r => k (.b r) h
noncomputable def eUn (op : UnOp) (x : X) (_ : Call α) (t : List V) (h : H) (z : α) (k : V → H → α) : α :=
  evX x t fun a => forceO (unV op a) z fun v => k v h
noncomputable def eConv (kd : IntKind) (x : X) (_ : Call α) (t : List V) (h : H) (z : α) (k : V → H → α) : α :=
  evX x t fun a => match a with
    | .i _ n => forceZ (kd.wrap n) fun n => k (.i kd n) h
    | _ => z
noncomputable def eMkI (ty : Nat) (x : X) (_ : Call α) (t : List V) (h : H) (_ : α) (k : V → H → α) : α := evX x t fun v => k (.ifc ty v) h
noncomputable def eMkFn (f : Nat) (a c : List X) (_ : Call α) (t : List V) (h : H) (_ : α) (k : V → H → α) : α := evL a t fun a => evL c t fun c => k (.fn f a c) h
noncomputable def eMkMap (_ : Call α) (_ : List V) (h : H) (_ : α) (k : V → H → α) : α := hNew h (.map []) fun n h => k (.m n) h
noncomputable def natK (v : V) (z : α) (k : Nat → α) : α := match v with
  | .i _ (.ofNat n) => k n
  | _ => z
noncomputable def eMkSl (c : List V) (bytes : Nat) (l m : X) (_ : Call α) (t : List V) (h : H) (z : α) (k : V → H → α) : α :=
  evX l t fun l => evX m t fun m => natK l z fun l => natK m z fun m =>
    Bool.casesOn (Nat.ble l m && Nat.ble m 281474976710656 && Nat.ble (Nat.mul bytes m) 281474976710656) z (repK c m fun cs => nfL cs fun cs => hNew h (.cells cs) fun n h => k (.sl n 0 l m none) h)
noncomputable def eSlc (esz : Nat) (x : X) (lo hi mx : Option X) (_ : Call α) (t : List V) (h : H) (z : α) (k : V → H → α) : α :=
  evX x t fun a => forceO (match mx with | none => sliceV esz t lo hi a | some m => sliceV3 esz t lo hi m a) z fun v => k v h
noncomputable def eOther (op : A) (t : List V) (h : H) (z : α) (k : V → H → α) : α :=
  match evA (fun _ _ _ => .fail) op t h with
  | .fail => z
  | .pan _ _ => z
  | .ok v h => forceV v fun v => k v h
noncomputable def eS2b (x : X) (_ : Call α) (t : List V) (h : H) (z : α) (k : V → H → α) : α :=
  evX x t fun v => match v with
    | .s l => forceN l.length fun n => nfL (l.map fun c => .i .u8 (.ofNat c)) fun cs => hNew h (.cells cs) fun b h => k (.sl b 0 n n (some 1)) h
    | _ => z
noncomputable def nfN : List Nat → (List Nat → α) → α :=
  fun l => List.rec (fun k => k []) (fun x _ ih k => forceN x fun x => ih fun r => k (x :: r)) l
noncomputable def eB2s (x : X) (_ : Call α) (t : List V) (h : H) (z : α) (k : V → H → α) : α :=
  evX x t fun v => match strOf h v with
    | none => z
    | some v => match v with
      | .s l => nfN l fun l => k (.s l) h
      | v => k v h
noncomputable def eFld (off : Nat) (x : X) (_ : Call α) (t : List V) (h : H) (z : α) (k : V → H → α) : α :=
  evX x t fun a => match a with
    | .p b o => forceN (Nat.add o off) fun o => k (.p b o) h
    | _ => z
noncomputable def eIxS (esz : Nat) (x ix : X) (_ : Call α) (t : List V) (h : H) (z : α) (k : V → H → α) : α :=
  evX x t fun a => evX ix t fun i => natK i z fun n => match a with
    | .sl b o len _ _ => Bool.casesOn (Nat.blt n len) z (forceN (Nat.add o (Nat.mul n esz)) fun o => k (.p b o) h)
    | _ => z
noncomputable def eIxA (len esz : Nat) (x ix : X) (_ : Call α) (t : List V) (h : H) (z : α) (k : V → H → α) : α :=
  evX x t fun a => evX ix t fun i => natK i z fun n => match a with
    | .p b o => Bool.casesOn (Nat.blt n len) z (forceN (Nat.add o (Nat.mul n esz)) fun o => k (.p b o) h)
    | _ => z
noncomputable def asMap (b : Blk) (z : α) (k : List (V × V) → α) : α := Blk.casesOn b (fun _ => z) (fun _ => z) k (fun _ => z)
noncomputable def mputK (fk : KK) (key v : V) (es : List (V × V)) : α → (List (V × V) → α) → α :=
  List.rec (motive := fun _ => α → (List (V × V) → α) → α) (fun _ k => k [(key, v)]) (fun e es ih z k =>
    Bool.casesOn (fk.fits e.1) z (Bool.casesOn (keyEq key e.1) (ih z fun r => k (e :: r)) (k ((e.1, v) :: es)))) es
noncomputable def eMapSet (fk : KK) (x kk v : X) (_ : Call α) (t : List V) (h : H) (z : α) (k : V → H → α) : α :=
  evX x t fun a => evX kk t fun kk => evX v t fun v => match a with
    | .m b => hGet h b z fun bl => asMap bl z fun es => Bool.casesOn (fk.fits kk) z (mputK fk kk v es z fun es => hPut h b (.map es) fun h => k .undef h)
    | _ => z
noncomputable def eExt (x : X) (n : Nat) (_ : Call α) (t : List V) (h : H) (z : α) (k : V → H → α) : α :=
  evX x t fun a => match a with
    | .tup c => nthOK c n z fun v => k v h
    | _ => z
noncomputable def eCall (f : X) (args : List X) (call : Call α) (t : List V) (h : H) (z : α) (k p : V → H → α) : α :=
  evX f t fun f => evL args t fun l => call f l h z k p
noncomputable def ePanic (x : X) (_ : Call α) (t : List V) (h : H) (z : α) (_ p : V → H → α) : α :=
  evX x t fun v => match v with
    | .ifc ty v => p (.ifc ty v) h
    | _ => z
noncomputable def eLenL (x : X) (_ : Call α) (t : List V) (h : H) (z : α) (k : V → H → α) : α :=
  evX x t fun a => match a with
    | .sn => k (.i .i64 (.ofNat 0)) h
    | .se _ => k (.i .i64 (.ofNat 0)) h
    | .sl _ _ n _ _ => k (.i .i64 (.ofNat n)) h
    | _ => z
noncomputable def srcK (esz n : Nat) (h : H) (x : V) (z : α) (k : List V → α) : α :=
  match x with
  | .sn => Bool.casesOn (Nat.beq n 0) z (k [])
  | .sl blk off _ _ _ => hGet h blk z fun bl => rdK bl off (Nat.mul n esz) z k
  | x => Option.casesOn (sourceCells esz n h x) z fun l => nfL l k
noncomputable def eApp (esz bytes : Nat) (s x : X) (_ : Call α) (t : List V) (h : H) (z : α) (k : V → H → α) : α :=
  evX s t fun s => evX x t fun x => Option.casesOn (sourceLen x) z fun n => forceN n fun n => srcK esz n h x z fun new =>
    Bool.casesOn (Nat.ble (Nat.mul (Nat.add (Nat.mul 2 n) 200) bytes) 281474976710656 && Nat.blt 0 bytes && Nat.blt 0 esz) z
      (match s with
      | .sn => Bool.casesOn (Nat.beq n 0) (hNew h (.cells new) fun b h => k (.sl b 0 n n (some esz)) h) (k .sn h)
      | .se a => Bool.casesOn (Nat.beq n 0) (hNew h (.cells new) fun b h => k (.sl b 0 n n (some esz)) h) (k (.se a) h)
      | .sl blk off len cap g => forceN (Nat.add len n) fun m =>
        Bool.casesOn (Nat.ble m cap)
          (Bool.casesOn (Nat.ble (Nat.mul (Nat.add (Nat.mul 2 m) 200) bytes) 281474976710656) z
            (match g with
              | none => hGet h blk z fun bl => rdK bl off (Nat.mul len esz) z fun old => appK old new fun all => hNew h (.cells all) fun b h => k (.sl b 0 m m (some esz)) h
              | some e => hGet h blk z fun bl => asCells bl z fun cs => cutK cs off (Nat.mul len esz) z fun old => appK old new fun all => Bool.casesOn (Nat.beq e esz && Nat.beq off 0 && Nat.beq cs.length (Nat.mul cap esz) && onesK new) z (hKill h blk fun h => hNew h (.cells all) fun b h => k (.sl b 0 m m (some esz)) h)))
          (stK h blk (Nat.add off (Nat.mul len esz)) new z fun h => k (.sl blk off m cap g) h)
      | _ => z)
noncomputable def eCpy (esz : Nat) (d s : X) (_ : Call α) (t : List V) (h : H) (z : α) (k : V → H → α) : α :=
  evX d t fun d => evX s t fun s => Option.casesOn (sourceLen s) z fun m => match d with
    | .sn => k (.i .i64 0) h
    | .sl blk off len _ _ => forceN (Nat.min m len) fun n => srcK esz n h s z fun l => stK h blk off l z fun h => k (.i .i64 (.ofNat n)) h
    | _ => z
noncomputable def eClr (c : List V) (x : X) (_ : Call α) (t : List V) (h : H) (z : α) (k : V → H → α) : α :=
  evX x t fun a => match a with
    | .sn => k .undef h
    | .sl b o n _ _ => Bool.casesOn (Nat.beq n 0) (repK c n fun cs => nfL cs fun cs => stK h b o cs z fun h => k .undef h) (k .undef h)
    | _ => z
abbrev OpK (α : Type) := Call α → List V → H → α → (V → H → α) → (V → H → α) → α
noncomputable def np (f : Call α → List V → H → α → (V → H → α) → α) : OpK α := fun c t h z k _ => f c t h z k
noncomputable def evAK (op : A) : OpK α :=
  A.casesOn op (fun a => np (eMov a)) (fun a b c => np (ePick a b c)) (fun a => np (eAlloc a)) (fun a => np (eBox a)) (fun a b => np (eBuild a b)) (fun a b c => np (eBuildSl a b c)) (fun a => np (eLd a)) (fun a b => np (eLdn a b))
    (fun a b c => np (eSt a b c)) (fun a => np (eNil a)) (fun a b c => np (eBin a b c)) (fun a b c d => np (eEqv a b c d)) (fun a b => np (eUn a b)) (fun a b => np (eConv a b)) (fun a b => np (eMkI a b)) (fun a b c => np (eMkFn a b c))
    (np eMkMap) (fun a b c d => np (eMkSl a b c d)) (fun a b c d e => np (eSlc a b c d e))
    (fun a b c d e => np fun _ t h z k => eOther (.slcA a b c d e) t h z k) (fun a b c => np fun _ t h z k => eOther (.slcS a b c) t h z k) (fun a b => np (eFld a b)) (fun a b c => np fun _ t h z k => eOther (.fldv a b c) t h z k) (fun a b c => np (eIxS a b c)) (fun a b c d => np (eIxA a b c d))
    (fun a b => np fun _ t h z k => eOther (.ixStr a b) t h z k) (fun a b c d e => np fun _ t h z k => eOther (.ixV a b c d e) t h z k) (fun a b c d e => np fun _ t h z k => eOther (.look a b c d e) t h z k) (fun a b c d => np (eMapSet a b c d)) (fun a b => np (eExt a b)) eCall
    (fun a => np fun _ t h z k => eOther (.lenS a) t h z k) (fun a => np (eLenL a)) (fun n => np fun _ _ h _ k => k (.i .i64 (.ofNat n)) h) (fun a => np fun _ t h z k => eOther (.lenM a) t h z k) (fun a b c d => np (eApp a b c d)) (fun a b c => np (eCpy a b c)) (fun a b => np (eClr a b))
    (fun a => np fun _ t h z k => eOther (.min a) t h z k) (fun a => np fun _ t h z k => eOther (.max a) t h z k)
    ePanic (fun a b c d => np fun _ t h z k => eOther (.tassert a b c d) t h z k) (fun a => np (eS2b a)) (fun a => np (eB2s a)) (fun a => np fun _ t h z k => eOther (.mark a) t h z k)
    (np fun _ _ _ z _ => z)
noncomputable def wantK (g : Option (Nat × Bool)) (t : List V) (y n : α) : α :=
  Option.casesOn g y fun p => Prod.casesOn p fun i w => nthK t i fun v => match v with
    | .b x => Bool.casesOn w (Bool.casesOn x y n) (Bool.casesOn x n y)
    | _ => n
noncomputable def putK (t : List V) (d : Option Nat) (v : V) (k : List V → α) : α := Option.casesOn d (k t) fun n => updK t n v k
noncomputable def opsK (call : Call α) (l : List O) : List V → H → α → (List V → H → α) → (V → List V → H → α) → α :=
  List.rec (motive := fun _ => List V → H → α → (List V → H → α) → (V → List V → H → α) → α) (fun t h _ k _ => k t h)
    (fun o _ ih t h z k p => O.casesOn o fun d g op =>
      wantK g t (evAK op call t h z (fun v h' => putK t d v fun t' => ih t' h' z k p) (fun v h' => p v t h')) (putK t d .undef fun t' => ih t' h z k p)) l
noncomputable def oldK (n : Nat) (l : List Nat) : (List Nat → α) → α :=
  List.rec (motive := fun _ => (List Nat → α) → α) (fun k => k []) (fun x _ ih k => Bool.casesOn (Nat.blt x n) (ih k) (ih fun r => k (x :: r))) l
noncomputable def natsApp (l r : List Nat) (k : List Nat → α) : α :=
  List.rec (motive := fun _ => (List Nat → α) → α) (fun k => k r) (fun x _ ih k => ih fun s => k (x :: s)) l k
noncomputable def drawK (call : Call α) (l : List O) : List V → H → List Foot → α → (List V → H → List Foot → α) → α :=
  List.rec (motive := fun _ => List V → H → List Foot → α → (List V → H → List Foot → α) → α) (fun t h f _ k => k t h f)
    (fun o _ ih t h f z k => O.casesOn o fun d g op =>
      wantK g t (H.casesOn h fun n0 m0 l0 => evAK op call t ⟨n0, m0, []⟩ z (fun v h' => H.casesOn h' fun n1 m1 l1 => oldK n0 l1 fun old => natsApp old l0 fun l2 =>
          putK t d v fun t' => ih t' ⟨n1, m1, l2⟩ (f ++ [⟨reads op t, old⟩]) z k) (fun _ _ => z))
        (putK t d .undef fun t' => ih t' h (f ++ [⟨some [], []⟩]) z k)) l
abbrev R0 (α : Type) := C → List V → H → α → (Out → List V → H → α) → α
noncomputable def resK (t : List V) (h : H) (l : List ResV) : α → (List V → α) → α :=
  List.rec (motive := fun _ => α → (List V → α) → α) (fun _ k => k [])
    (fun r _ ih z k => ResV.casesOn r (fun n => nthK t n fun v => ih z fun s => k (v :: s))
      (fun n sz => nthK t n fun a => match a with
        | .p b o => hGet h b z fun bl => asCells bl z fun cs => Option.casesOn sz (nthOK cs o z fun v => ih z fun s => k (v :: s)) (fun m => cutK cs o m z fun l => ih z fun s => k (.agg l :: s))
        | _ => z)
      (fun v => List.casesOn t (ih z fun s => k (v :: s)) (fun _ _ => z))) l
noncomputable def packK (l : List V) (k : V → α) : α := List.casesOn l (k (.tup [])) fun x r => List.casesOn r (k x) fun y s => k (.tup (x :: y :: s))
noncomputable def padK (l : List V) : Nat → (List V → α) → α :=
  List.rec (motive := fun _ => Nat → (List V → α) → α) (fun n k => repK [V.undef] n k) (fun x _ ih n k => Nat.casesOn n (ih 0 fun r => k (x :: r)) (fun m => ih m fun r => k (x :: r))) l
noncomputable def updsK (ps : List Nat) : List V → List V → (List V → α) → α :=
  List.rec (motive := fun _ => List V → List V → (List V → α) → α) (fun t _ k => k t) (fun p _ ih t vs k => List.casesOn vs (k t) fun v vs => updK t p v fun t' => ih t' vs k) ps
structure TbK (α : Type) where
  fi : Nat → Option FI
  ext : Nat → Bool
  pr : Nat → List V → H → α → (V → Option Blk → α) → α
noncomputable def finK (t : List V) (h : H) (res : List ResV) (z : α) (k : V → H → α) : α := resK t h res z fun l => packK l fun v => k v h
noncomputable def callDK (tbl : TbK α) (r : R0 α) (f v : V) (h : H) (z : α) (k : H → α) : α :=
  match f with
  | .fn g a caps => List.casesOn a (Option.casesOn (tbl.fi g) z fun fi => FI.casesOn fi fun n _ body _ rcv => Option.casesOn rcv z fun m => padK caps n fun t => updK t m v fun t =>
      r body t h z fun o _ h' => Out.casesOn o (k h') (fun _ => z) (k h') (fun _ => z)) (fun _ _ => z)
  | _ => z
noncomputable def callFn (tbl : TbK α) (r : R0 α) (g : Nat) (a c args : List V) (h : H) (z : α) (k p : V → H → α) : α :=
  Option.casesOn (tbl.fi g) z fun fi => FI.casesOn fi fun n res body dfr rcv => Option.casesOn rcv (appK a args fun l => appK l c fun l => padK l n fun t =>
    Option.casesOn dfr (r body t h z fun o t' h' => Out.casesOn o (finK t' h' res z k) (fun _ => z) (finK t' h' res z k) (fun v => p v h'))
      fun px => Prod.casesOn px fun pre x => r pre t h z fun o0 t0 h0 => Out.casesOn o0
        (r body t0 h0 z fun o t' h' => evX x t0 fun f => Out.casesOn o (callDK tbl r f .in0 h' z fun h2 => finK t' h2 res z k) (fun _ => z) (callDK tbl r f .in0 h' z fun h2 => finK t' h2 res z k) (fun v => callDK tbl r f v h' z fun h2 => finK t' h2 res z k))
        (fun _ => z) z (fun _ => z)) (fun _ => z)
noncomputable def asLoop (b : Blk) (z : α) (k : Loop → α) : α := Blk.casesOn b (fun _ => z) (fun _ => z) (fun _ => z) k
noncomputable def callYld (r : R0 α) (l : Nat) (args : List V) (h : H) (z : α) (k : V → H → α) : α :=
  hGet h l z fun bl => asLoop bl z fun lp => Loop.casesOn lp fun _ _ tm ps ag bo0 => Bool.casesOn (Nat.beq args.length ps.length) z
      (updsK ps tm args fun t => r ag t h z fun o t h1 => match o with
        | .norm => hGet h1 l z fun bl => asLoop bl z fun lp => match lp with
          | ⟨.ready, pe, tm, ps, ag, bo⟩ => hPut h1 l (.loop ⟨.busy, pe, tm, ps, ag, bo⟩) fun h2 => r bo0 t h2 z fun o _ h2 => hGet h2 l z fun bl => asLoop bl z fun lp => match lp with
              | ⟨.busy, _, tm, ps, ag, bo⟩ => match o with
                | .norm => hPut h2 l (.loop ⟨.ready, none, tm, ps, ag, bo⟩) fun h3 => k (.b true) h3
                | .exit i => hPut h2 l (.loop ⟨.done, some (.exit i), tm, ps, ag, bo⟩) fun h3 => k (.b false) h3
                | .ret => hPut h2 l (.loop ⟨.done, some .ret, tm, ps, ag, bo⟩) fun h3 => k (.b false) h3
                | .pan _ => z
              | _ => z
          | _ => z
        | _ => z)
noncomputable def callK (tbl : TbK α) (r : R0 α) : Call α := fun f args h z k p =>
  match f with
  | .fn g a c => callFn tbl r g a c args h z k p
  | .yld l => callYld r l args h z k
  | _ => z
abbrev CK (α : Type) := TbK α → R0 α → List V → H → α → (Out → List V → H → α) → α
noncomputable def cSkip (_ : TbK α) (_ : R0 α) (t : List V) (h : H) (_ : α) (k : Out → List V → H → α) : α := k .norm t h
noncomputable def cOps (l : List O) (tbl : TbK α) (r : R0 α) (t : List V) (h : H) (z : α) (k : Out → List V → H → α) : α := opsK (callK tbl r) l t h z (fun t h => k .norm t h) (fun v t h => k (.pan v) t h)
noncomputable def cDraw (l : List O) (crit : List (Nat × Nat)) (tbl : TbK α) (r : R0 α) (t : List V) (h : H) (z : α) (k : Out → List V → H → α) : α :=
  drawK (callK tbl r) l t h [] z fun t h f => Bool.casesOn (critOk f crit) z (k .norm t h)
noncomputable def cSeq (a b : C) (_ : TbK α) (r : R0 α) (t : List V) (h : H) (z : α) (k : Out → List V → H → α) : α :=
  r a t h z fun o t' h' => Out.casesOn o (r b t' h' z k) (fun i => k (.exit i) t' h') (k .ret t' h') (fun v => k (.pan v) t' h')
noncomputable def cCond (x : X) (a b : C) (_ : TbK α) (r : R0 α) (t : List V) (h : H) (z : α) (k : Out → List V → H → α) : α :=
  evX x t fun c => match c with
    | .b true => r a t h z k
    | .b false => r b t h z k
    | _ => z
noncomputable def cBlock (id : Nat) (a : C) (_ : TbK α) (r : R0 α) (t : List V) (h : H) (z : α) (k : Out → List V → H → α) : α :=
  r a t h z fun o t' h' => Out.casesOn o (k .norm t' h') (fun i => Bool.casesOn (Nat.beq i id) (k (.exit i) t' h') (k .norm t' h')) (k .ret t' h') (fun v => k (.pan v) t' h')
noncomputable def cLoop (a : C) (_ : TbK α) (r : R0 α) (t : List V) (h : H) (z : α) (k : Out → List V → H → α) : α :=
  r a t h z fun o t' h' => Out.casesOn o (r (.loop a) t' h' z k) (fun i => k (.exit i) t' h') (k .ret t' h') (fun v => k (.pan v) t' h')
noncomputable def cExit (id : Nat) (_ : TbK α) (_ : R0 α) (t : List V) (h : H) (_ : α) (k : Out → List V → H → α) : α := k (.exit id) t h
noncomputable def cRet (_ : TbK α) (_ : R0 α) (t : List V) (h : H) (_ : α) (k : Out → List V → H → α) : α := k .ret t h
noncomputable def cRange (f : X) (ps : List Nat) (ag bo : C) (tbl : TbK α) (r : R0 α) (t : List V) (h : H) (z : α) (k : Out → List V → H → α) : α :=
  evX f t fun f => match f with
    | .fn g a c => Bool.casesOn (tbl.ext g) (hNew h (.loop ⟨.ready, none, t, ps, ag, bo⟩) fun l h => callFn tbl r g a c [.yld l] h z (fun _ h' =>
      hGet h' l z fun bl => asLoop bl z fun lp => match lp with
        | ⟨st, pe, tm, ps, ag, bo⟩ => match st with
          | .busy => z
          | _ => match pe with
            | none => hPut h' l (.loop ⟨.over, none, tm, ps, ag, bo⟩) fun h3 => k .norm t h3
            | some o => Out.casesOn o (hPut h' l (.loop ⟨.over, some .norm, tm, ps, ag, bo⟩) fun h3 => k .norm t h3) (fun i => hPut h' l (.loop ⟨.over, some (.exit i), tm, ps, ag, bo⟩) fun h3 => k (.exit i) t h3)
              (hPut h' l (.loop ⟨.over, some .ret, tm, ps, ag, bo⟩) fun h3 => k .ret t h3) (fun _ => z)) (fun _ _ => z)) z
    | _ => z
noncomputable def cPrim (n : Nat) (tbl : TbK α) (_ : R0 α) (t : List V) (h : H) (z : α) (k : Out → List V → H → α) : α :=
  tbl.pr n t h z fun v b => Option.casesOn b (k .ret [v] h) fun x => hNew h x fun _ h' => k .ret [v] h'
noncomputable def stepK (c : C) : CK α :=
  C.casesOn c cSkip cOps cDraw cSeq cCond cBlock cLoop cExit cRet cRange cPrim
noncomputable def EK (tbl : TbK α) (k : Nat) : R0 α := Nat.rec (fun _ _ _ z _ => z) (fun _ r c => stepK c tbl r) k
noncomputable def runK (tbl : TbK α) (k f : Nat) (args : List V) (h : H) (z : α) (g : V → H → α) : α := callK tbl (EK tbl k) (.fn f [] []) args h z g (fun _ _ => z)
end Go.Air.Fast
namespace Go.Air.Fast
universe u
variable {α : Type}
theorem forceN_eq (n : Nat) (k : Nat → α) : forceN n k = k n := by cases n <;> rfl
theorem forceZ_eq (z : Int) (k : Int → α) : forceZ z k = k z := by cases z <;> simp [forceZ, forceN_eq]
theorem forceB_eq (b : Bool) (k : Bool → α) : forceB b k = k b := by cases b <;> rfl
theorem nthK_eq : ∀ (l : List V) (n : Nat) (k : V → α), nthK l n k = k (nth l n)
  | [], _, _ => rfl
  | _ :: _, 0, _ => rfl
  | _ :: l, n + 1, k => nthK_eq l n k
theorem nthOK_eq : ∀ (l : List V) (n : Nat) (z : α) (k : V → α), nthOK l n z k = match nth? l n with | none => z | some v => k v
  | [], _, _, _ => rfl
  | _ :: _, 0, _, _ => rfl
  | _ :: l, n + 1, z, k => nthOK_eq l n z k
theorem updK_eq : ∀ (l : List V) (n : Nat) (v : V) (k : List V → α), updK l n v k = k (upd l n v)
  | [], _, _, _ => rfl
  | _ :: _, 0, _, _ => rfl
  | x :: l, n + 1, v, k => updK_eq l n v _
theorem takeK_eq : ∀ (l : List V) (n : Nat) (z : α) (k : List V → α), takeK l n z k = match cut l 0 n with | none => z | some v => k v
  | [], 0, _, _ => rfl
  | [], _ + 1, _, _ => rfl
  | _ :: _, 0, _, _ => rfl
  | x :: l, n + 1, z, k => by
    show takeK l n z (fun r => k (x :: r)) = _
    rw [takeK_eq l n]
    simp only [cut]
    cases cut l 0 n <;> rfl
theorem cutK_eq : ∀ (l : List V) (o n : Nat) (z : α) (k : List V → α), cutK l o n z k = match cut l o n with | none => z | some v => k v
  | [], 0, 0, _, _ => rfl
  | [], 0, _ + 1, _, _ => rfl
  | [], _ + 1, _, _, _ => rfl
  | x :: l, 0, n, z, k => takeK_eq (x :: l) n z k
  | x :: l, o + 1, n, z, k => by
    show cutK l o n z k = _
    rw [cutK_eq l o n]
    rfl
theorem layK0_eq : ∀ (l vs : List V) (z : α) (k : List V → α), layK0 l vs z k = match lay l 0 vs with | none => z | some v => k v
  | [], [], _, _ => rfl
  | [], _ :: _, _, _ => rfl
  | _ :: _, [], _, _ => rfl
  | x :: l, v :: vs, z, k => by
    show layK0 l vs z (fun r => k (v :: r)) = _
    rw [layK0_eq l vs]
    simp only [lay]
    cases lay l 0 vs <;> rfl
theorem layK_eq : ∀ (l : List V) (o : Nat) (vs : List V) (z : α) (k : List V → α), layK l o vs z k = match lay l o vs with | none => z | some v => k v
  | [], 0, vs, z, k => layK0_eq [] vs z k
  | [], _ + 1, _, _, _ => rfl
  | x :: l, 0, vs, z, k => layK0_eq (x :: l) vs z k
  | x :: l, o + 1, vs, z, k => by
    show layK l o vs z (fun r => k (x :: r)) = _
    rw [layK_eq l o vs]
    simp only [lay]
    cases lay l o vs <;> rfl
theorem appK_eq : ∀ (l r : List V) (k : List V → α), appK l r k = k (l ++ r)
  | [], _, _ => rfl
  | x :: l, r, k => appK_eq l r _
theorem repK_eq (z : List V) : ∀ (n : Nat) (k : List V → α), repK z n k = k (rep z n)
  | 0, _ => rfl
  | n + 1, k => by
    show repK z n (fun r => appK z r k) = _
    rw [repK_eq z n, appK_eq]; rfl
theorem lenK_eq : ∀ (l : List V) (k : Nat → α), lenK l k = k l.length
  | [], _ => rfl
  | x :: l, k => by
    show lenK l (fun n => forceN (Nat.succ n) k) = _
    rw [lenK_eq l, forceN_eq]; rfl
theorem nfL_eq : ∀ (l : List V) (k : List V → α), nfL l k = k l
  | [], _ => rfl
  | x :: l, k => by
    show nfL l (fun r => _) = _
    rw [nfL_eq l]
    cases x <;> simp [forceB_eq, forceZ_eq]
theorem getK_eq : ∀ (t : T Blk) (n : Nat) (z : α) (k : Blk → α), getK t n z k = match t.get n with | none => z | some b => k b
  | .e, _, _, _ => rfl
  | .n l x r, 0, z, k => by cases x <;> rfl
  | .n l x r, m + 1, z, k => by
    show (Nat.casesOn (motive := fun _ => α) (Nat.mod m 2) (getK l (Nat.div m 2) z k) (fun _ => getK r (Nat.div m 2) z k)) = _
    simp only [T.get]
    rw [show Nat.mod m 2 = m % 2 from rfl, show Nat.div m 2 = m / 2 from rfl]
    cases m % 2 with
    | zero => exact getK_eq l (m / 2) z k
    | succ j => exact getK_eq r (m / 2) z k
theorem setF_fuel {β : Type} (v : Option β) : ∀ (f g : Nat) (t : T β) (k : Nat), k < f → k < g → T.setF f t k v = T.setF g t k v
  | 0, _, _, _, h, _ => by omega
  | _ + 1, 0, _, _, _, h => by omega
  | f + 1, g + 1, .e, 0, _, _ => rfl
  | f + 1, g + 1, .n l x r, 0, _, _ => rfl
  | f + 1, g + 1, .e, k + 1, h1, h2 => by
    simp only [T.setF]
    rw [setF_fuel v f g .e (k / 2) (by omega) (by omega)]
  | f + 1, g + 1, .n l x r, k + 1, h1, h2 => by
    simp only [T.setF]
    rw [setF_fuel v f g l (k / 2) (by omega) (by omega), setF_fuel v f g r (k / 2) (by omega) (by omega)]
theorem leafK_eq (x : Option Blk) : ∀ (f n : Nat) (k : T Blk → α), n < f → leafK x f n k = k (T.setF f .e n x)
  | 0, n, _, h => by omega
  | f + 1, 0, _, _ => rfl
  | f + 1, m + 1, k, h => by
    show (Nat.casesOn (motive := fun _ => α) (Nat.mod m 2) (leafK x f (Nat.div m 2) fun s => k (.n s none .e)) (fun _ => leafK x f (Nat.div m 2) fun s => k (.n .e none s))) = _
    simp only [T.setF]
    rw [show Nat.mod m 2 = m % 2 from rfl, show Nat.div m 2 = m / 2 from rfl]
    cases m % 2 with
    | zero => exact leafK_eq x f (m / 2) _ (by omega)
    | succ j => exact leafK_eq x f (m / 2) _ (by omega)
theorem setK_eq (x : Option Blk) (f : Nat) : ∀ (t : T Blk) (n : Nat) (k : T Blk → α), n < f → setK x f t n k = k (T.setF f t n x)
  | .e, n, k, h => leafK_eq x f n k h
  | .n l y r, 0, k, h => by
    cases f with
    | zero => omega
    | succ f => rfl
  | .n l y r, m + 1, k, h => by
    cases f with
    | zero => omega
    | succ f =>
      show (Nat.casesOn (motive := fun _ => α) (Nat.mod m 2) (setK x (f + 1) l (Nat.div m 2) fun s => k (.n s y r)) (fun _ => setK x (f + 1) r (Nat.div m 2) fun s => k (.n l y s))) = _
      simp only [T.setF]
      rw [show Nat.mod m 2 = m % 2 from rfl, show Nat.div m 2 = m / 2 from rfl]
      cases m % 2 with
      | zero =>
        have := setK_eq x (f + 1) l (m / 2) (fun s => k (.n s y r)) (by omega)
        refine this.trans ?_
        simp only
        rw [setF_fuel x (f + 1) f l (m / 2) (by omega) (by omega)]
      | succ j =>
        have := setK_eq x (f + 1) r (m / 2) (fun s => k (.n l y s)) (by omega)
        refine this.trans ?_
        simp only
        rw [setF_fuel x (f + 1) f r (m / 2) (by omega) (by omega)]
theorem hGet_eq (h : H) (b : Nat) (z : α) (k : Blk → α) : hGet h b z k = match h.get b with | none => z | some x => k x := getK_eq _ _ _ _
theorem hNew_eq (h : H) (x : Blk) (k : Nat → H → α) : hNew h x k = k h.next (h.new x) := by
  show setK (some x) (Nat.succ h.next) h.mem h.next _ = _
  rw [setK_eq _ _ _ _ _ (Nat.lt_succ_self _), forceN_eq]; rfl
theorem hPut_eq (h : H) (b : Nat) (x : Blk) (k : H → α) : hPut h b x k = k (h.put b x) := by
  show setK (some x) (Nat.succ b) h.mem b _ = _
  rw [setK_eq _ _ _ _ _ (Nat.lt_succ_self _)]; rfl
theorem hKill_eq (h : H) (b : Nat) (k : H → α) : hKill h b k = k (h.kill b) := by
  show setK none (Nat.succ b) h.mem b _ = _
  rw [setK_eq _ _ _ _ _ (Nat.lt_succ_self _)]; rfl
theorem evX_eq (x : X) (t : List V) (k : V → α) : evX x t k = k (x.ev t) := by
  cases x
  · exact nthK_eq _ _ _
  · rfl
  · rfl
theorem evL_eq (t : List V) : ∀ (xs : List X) (k : List V → α), evL xs t k = k (xs.map (X.ev t))
  | [], _ => rfl
  | x :: xs, k => by
    show evX x t (fun v => evL xs t fun r => k (v :: r)) = _
    rw [evX_eq, evL_eq t xs]; rfl
theorem cellsK_eq (v : V) (k : List V → α) : cellsK v k = k v.cells := by cases v <;> rfl
theorem fillK_eq (t : List V) : ∀ (ps : List (Nat × Nat × X)) (z : List V) (e : α) (k : List V → α), fillK t ps z e k = match fill t z ps with | none => e | some r => k r
  | [], _, _, _ => rfl
  | (off, sz, x) :: ps, z, e, k => by
    show evX x t (fun v => cellsK v fun cs => lenK cs fun n => Bool.casesOn (motive := fun _ => α) (Nat.beq n sz) e (layK z off cs e fun z1 => fillK t ps z1 e k)) = _
    rw [evX_eq, cellsK_eq, lenK_eq]
    simp only [fill]
    cases Nat.beq (x.ev t).cells.length sz with
    | false => rfl
    | true =>
      simp only [if_true]
      rw [layK_eq]
      cases lay z off (x.ev t).cells with
      | none => rfl
      | some z' => exact fillK_eq t ps z' e k
theorem forceV_eq (v : V) (k : V → α) : forceV v k = k v := by cases v <;> simp [forceV, forceB_eq, forceZ_eq, forceN_eq]
theorem forceO_eq (v : Option V) (z : α) (k : V → α) : forceO v z k = match v with | none => z | some v => k v := by
  cases v
  · rfl
  · exact forceV_eq _ _
def RO.el (r : RO) (z : α) (k : V → H → α) : α := match r with
  | .fail => z
  | .pan _ _ => z
  | .ok v h => k v h
def RO.elp (r : RO) (z : α) (k p : V → H → α) : α := match r with
  | .fail => z
  | .pan v h => p v h
  | .ok v h => k v h
theorem forceO_el (v : Option V) (h : H) (z : α) (k : V → H → α) : forceO v z (fun v => k v h) = RO.el (RO.ofV h v) z k := by
  rw [forceO_eq]; cases v <;> rfl
end Go.Air.Fast
namespace Go.Air.Fast
universe u
variable {α : Type}
theorem wrap64 {n : Int} (h0 : 0 ≤ n) (h1 : n ≤ 9223372036854775807) : IntKind.i64.wrap n = n := by
  unfold IntKind.wrap
  simp only [IntKind.bits, IntKind.signed, Bool.true_and, ge_iff_le, decide_eq_true_eq]
  have : n % (2 ^ 64 : Int) = n := Int.emod_eq_of_lt h0 (by omega)
  rw [this, if_neg (by omega)]
theorem slowBin_eq (op : BinOp) (a b : V) (h : H) (z : α) (k : V → H → α) : slowBin op a b h z k = RO.el (RO.ofV h (binV op a b)) z k := forceO_el _ _ _ _
theorem fast2_eq {op : BinOp} {f : Nat → Nat → α → (V → α) → α}
    (hf : ∀ m n s k, f m n s k = s ∨ ∃ v, binV op (.i .i64 (.ofNat m)) (.i .i64 (.ofNat n)) = some v ∧ f m n s k = k v) (a b : V) (h : H) (z : α) (k : V → H → α) :
    fast2 op f a b h z k = RO.el (RO.ofV h (binV op a b)) z k := by
  have slow : ∀ a b, fast2 op f a b h z k = slowBin op a b h z k → fast2 op f a b h z k = RO.el (RO.ofV h (binV op a b)) z k := fun a b e => e.trans (slowBin_eq op a b h z k)
  cases a <;> try exact slow _ _ rfl
  rename_i ka m
  cases ka <;> try exact slow _ _ rfl
  cases b <;> try exact slow _ _ rfl
  rename_i kb n
  cases kb <;> try exact slow _ _ rfl
  cases m <;> try exact slow _ _ rfl
  cases n <;> try exact slow _ _ rfl
  rename_i m n
  show f m n (slowBin op (.i .i64 (.ofNat m)) (.i .i64 (.ofNat n)) h z k) (fun v => k v h) = _
  rcases hf m n (slowBin op (.i .i64 (.ofNat m)) (.i .i64 (.ofNat n)) h z k) (fun v => k v h) with e | ⟨v, e1, e2⟩
  · rw [e]; exact slowBin_eq _ _ _ _ _ _
  · rw [e2, e1]; rfl
theorem fAdd_ok (m n : Nat) (s : α) (k : V → α) : fAdd m n s k = s ∨ ∃ v, binV .add (.i .i64 (.ofNat m)) (.i .i64 (.ofNat n)) = some v ∧ fAdd m n s k = k v := by
  unfold fAdd
  cases hb : Nat.ble (Nat.add m n) 9223372036854775807 with
  | false => exact .inl rfl
  | true =>
    refine .inr ⟨.i .i64 (.ofNat (m + n)), ?_, forceN_eq _ _⟩
    have : m + n ≤ 9223372036854775807 := Nat.le_of_ble_eq_true hb
    simp only [binV, binI, if_true]
    rw [wrap64 (by simp; omega) (by simp; omega)]
    simp
theorem fSub_ok (m n : Nat) (s : α) (k : V → α) : fSub m n s k = s ∨ ∃ v, binV .sub (.i .i64 (.ofNat m)) (.i .i64 (.ofNat n)) = some v ∧ fSub m n s k = k v := by
  unfold fSub
  cases hb : (Nat.ble n m && Nat.ble m 9223372036854775807) with
  | false => exact .inl rfl
  | true =>
    refine .inr ⟨.i .i64 (.ofNat (m - n)), ?_, forceN_eq _ _⟩
    rw [Bool.and_eq_true] at hb
    have h1 : n ≤ m := Nat.le_of_ble_eq_true hb.1
    have h2 : m ≤ 9223372036854775807 := Nat.le_of_ble_eq_true hb.2
    simp only [binV, binI, if_true]
    rw [wrap64 (by simp; omega) (by simp; omega)]
    simp; omega
theorem fMul_ok (m n : Nat) (s : α) (k : V → α) : fMul m n s k = s ∨ ∃ v, binV .mul (.i .i64 (.ofNat m)) (.i .i64 (.ofNat n)) = some v ∧ fMul m n s k = k v := by
  unfold fMul
  cases hb : Nat.ble (Nat.mul m n) 9223372036854775807 with
  | false => exact .inl rfl
  | true =>
    refine .inr ⟨.i .i64 (.ofNat (m * n)), ?_, forceN_eq _ _⟩
    have h1 : m * n ≤ 9223372036854775807 := Nat.le_of_ble_eq_true hb
    have e : (Int.ofNat m * Int.ofNat n) = Int.ofNat (m * n) := by simp
    simp only [binV, binI, if_true]
    have h2 : (Int.ofNat (m * n)) ≤ 9223372036854775807 := by simp only [Int.ofNat_eq_natCast]; omega
    rw [e, wrap64 (n := Int.ofNat (m * n)) (Int.natCast_nonneg _) h2]
theorem ble_dec (m n : Nat) : Nat.ble m n = decide (m ≤ n) := by
  rw [Bool.eq_iff_iff]; simp
theorem blt_dec (m n : Nat) : Nat.blt m n = decide (m < n) := by
  rw [Bool.eq_iff_iff]; simp [Nat.blt]; omega
theorem beq_dec (m n : Nat) : Nat.beq m n = decide (m = n) := by
  rw [Bool.eq_iff_iff]; simp
theorem fLss_ok (m n : Nat) (s : α) (k : V → α) : fLss m n s k = s ∨ ∃ v, binV .lss (.i .i64 (.ofNat m)) (.i .i64 (.ofNat n)) = some v ∧ fLss m n s k = k v := by
  refine .inr ⟨.b (decide (m < n)), by simp [binV, binI], ?_⟩
  unfold fLss; rw [blt_dec]; cases decide (m < n) <;> rfl
theorem fLeq_ok (m n : Nat) (s : α) (k : V → α) : fLeq m n s k = s ∨ ∃ v, binV .leq (.i .i64 (.ofNat m)) (.i .i64 (.ofNat n)) = some v ∧ fLeq m n s k = k v := by
  refine .inr ⟨.b (decide (m ≤ n)), by simp [binV, binI], ?_⟩
  unfold fLeq; rw [ble_dec]; cases decide (m ≤ n) <;> rfl
theorem fGtr_ok (m n : Nat) (s : α) (k : V → α) : fGtr m n s k = s ∨ ∃ v, binV .gtr (.i .i64 (.ofNat m)) (.i .i64 (.ofNat n)) = some v ∧ fGtr m n s k = k v := by
  refine .inr ⟨.b (decide (n < m)), by simp [binV, binI], ?_⟩
  unfold fGtr; rw [blt_dec]; cases decide (n < m) <;> rfl
theorem fGeq_ok (m n : Nat) (s : α) (k : V → α) : fGeq m n s k = s ∨ ∃ v, binV .geq (.i .i64 (.ofNat m)) (.i .i64 (.ofNat n)) = some v ∧ fGeq m n s k = k v := by
  refine .inr ⟨.b (decide (n ≤ m)), by simp [binV, binI], ?_⟩
  unfold fGeq; rw [ble_dec]; cases decide (n ≤ m) <;> rfl
theorem fEql_ok (m n : Nat) (s : α) (k : V → α) : fEql m n s k = s ∨ ∃ v, binV .eql (.i .i64 (.ofNat m)) (.i .i64 (.ofNat n)) = some v ∧ fEql m n s k = k v := by
  refine .inr ⟨.b (decide (m = n)), by simp [binV, binI]; omega, ?_⟩
  unfold fEql; rw [beq_dec]; cases decide (m = n) <;> rfl
theorem fNeq_ok (m n : Nat) (s : α) (k : V → α) : fNeq m n s k = s ∨ ∃ v, binV .neq (.i .i64 (.ofNat m)) (.i .i64 (.ofNat n)) = some v ∧ fNeq m n s k = k v := by
  refine .inr ⟨.b (!decide (m = n)), by simp [binV, binI]; omega, ?_⟩
  unfold fNeq; rw [beq_dec]; cases decide (m = n) <;> rfl
theorem binK_eq (op : BinOp) (a b : V) (h : H) (z : α) (k : V → H → α) : binK op a b h z k = RO.el (RO.ofV h (binV op a b)) z k := by
  cases op <;> first | exact slowBin_eq _ _ _ _ _ _ | skip
  · exact fast2_eq fAdd_ok _ _ _ _ _
  · exact fast2_eq fSub_ok _ _ _ _ _
  · exact fast2_eq fMul_ok _ _ _ _ _
  · exact fast2_eq fEql_ok _ _ _ _ _
  · exact fast2_eq fNeq_ok _ _ _ _ _
  · exact fast2_eq fLss_ok _ _ _ _ _
  · exact fast2_eq fLeq_ok _ _ _ _ _
  · exact fast2_eq fGtr_ok _ _ _ _ _
  · exact fast2_eq fGeq_ok _ _ _ _ _
theorem asCells_eq (b : Blk) (z : α) (k : List V → α) : asCells b z k = match b with | .cells c => k c | _ => z := by cases b <;> rfl
theorem asMap_eq (b : Blk) (z : α) (k : List (V × V) → α) : asMap b z k = match b with | .map c => k c | _ => z := by cases b <;> rfl
theorem asLoop_eq (b : Blk) (z : α) (k : Loop → α) : asLoop b z k = match b with | .loop c => k c | _ => z := by cases b <;> rfl
theorem onesK_eq : ∀ (l : List V), onesK l = l.all V.oneCell
  | [] => rfl
  | x :: l => by
    show (Bool.casesOn (motive := fun _ => Bool) x.oneCell false (onesK l)) = _
    rw [onesK_eq l, List.all_cons]
    cases x.oneCell <;> rfl
theorem stK_eq (h : H) (b o : Nat) (vs : List V) (z : α) (k : H → α) : stK h b o vs z k = match storeAt h b o vs with | none => z | some h' => k h' := by
  unfold stK storeAt
  rw [hGet_eq]
  cases h.get b with
  | none => rfl
  | some bl =>
    cases bl with
    | cells cs =>
      simp only [asCells_eq, layK_eq]
      cases lay cs o vs with
      | none => rfl
      | some cs' =>
        simp only [onesK_eq]
        cases vs.all V.oneCell with
        | false => rfl
        | true => exact hPut_eq _ _ _ _
    | ro _ => rfl
    | map _ => rfl
    | loop _ => rfl
theorem rd1K_eq (b : Blk) (o : Nat) (z : α) (k : V → α) : rd1K b o z k = match b.rd1 o with | none => z | some v => k v := by
  cases b with
  | cells cs => exact nthOK_eq _ _ _ _
  | ro cs =>
    show (Option.casesOn (motive := fun _ => α) (nthO cs o) z k) = match nthO cs o with | none => z | some v => k v
    cases nthO cs o <;> rfl
  | map _ => rfl
  | loop _ => rfl
theorem rdK_eq (b : Blk) (o n : Nat) (z : α) (k : List V → α) : rdK b o n z k = match b.rd o n with | none => z | some v => k v := by
  cases b with
  | cells cs => exact cutK_eq _ _ _ _ _
  | ro cs =>
    show (Option.casesOn (motive := fun _ => α) (cutO cs o n) z k) = match cutO cs o n with | none => z | some v => k v
    cases cutO cs o n <;> rfl
  | map _ => rfl
  | loop _ => rfl
theorem srcK_eq (esz n : Nat) (h : H) (x : V) (z : α) (k : List V → α) : srcK esz n h x z k = match sourceCells esz n h x with | none => z | some l => k l := by
  have slow : (Option.casesOn (motive := fun _ => α) (sourceCells esz n h x) z fun l => nfL l k) = match sourceCells esz n h x with | none => z | some l => k l := by
    cases sourceCells esz n h x with
    | none => rfl
    | some l => exact nfL_eq _ _
  cases x <;> first | exact slow | skip
  · unfold srcK sourceCells
    cases Nat.beq n 0 <;> rfl
  · unfold srcK sourceCells
    simp only
    rw [hGet_eq]
    cases h.get _ with
    | none => rfl
    | some bl => exact rdK_eq _ _ _ _ _
theorem natK_eq (v : V) (z : α) (k : Nat → α) : natK v z k = match natOf v with | none => z | some n => k n := by
  cases v <;> try rfl
  rename_i kd n
  cases n <;> rfl
theorem mputK_eq (fk : KK) (key v : V) : ∀ (es : List (V × V)) (z : α) (k : List (V × V) → α), mputK fk key v es z k = match mput fk key v es with | none => z | some r => k r
  | [], _, _ => rfl
  | e :: es, z, k => by
    show (Bool.casesOn (motive := fun _ => α) (fk.fits e.1) z (Bool.casesOn (motive := fun _ => α) (keyEq key e.1) (mputK fk key v es z fun r => k (e :: r)) (k ((e.1, v) :: es)))) = _
    simp only [mput]
    cases fk.fits e.1 with
    | false => rfl
    | true =>
      simp only [if_true]
      cases keyEq key e.1 with
      | true => rfl
      | false =>
        simp only [Bool.false_eq_true, if_false]
        rw [mputK_eq fk key v es]
        cases mput fk key v es <;> rfl
def CallEq (cK : Call α) (call : V → List V → H → RO) : Prop := ∀ f args h z k p, cK f args h z k p = RO.elp (call f args h) z k p
theorem eOther_eq {op : A} {call : V → List V → H → RO} (hop : ∀ t h, evA (fun _ _ _ => .fail) op t h = evA call op t h) (t : List V) (h : H) (z : α) (k : V → H → α) : eOther op t h z k = RO.el (evA call op t h) z k := by
  unfold eOther
  rw [hop]
  cases evA call op t h with
  | fail => rfl
  | pan v h => rfl
  | ok v h => exact forceV_eq _ _
theorem nfN_eq : ∀ (l : List Nat) (k : List Nat → α), nfN l k = k l
  | [], _ => rfl
  | x :: l, k => by
    show forceN x (fun x => nfN l fun r => k (x :: r)) = _
    rw [forceN_eq, nfN_eq l]
theorem eS2b_eq (x : X) {call : V → List V → H → RO} (cK : Call α) (t : List V) (h : H) (z : α) (k : V → H → α) : eS2b x cK t h z k = RO.el (evA call (.s2b x) t h) z k := by
  unfold eS2b
  simp only [evX_eq, evA]
  cases x.ev t <;> try rfl
  simp only [forceN_eq, nfL_eq, hNew_eq]
  rfl
theorem eB2s_eq (x : X) {call : V → List V → H → RO} (cK : Call α) (t : List V) (h : H) (z : α) (k : V → H → α) : eB2s x cK t h z k = RO.el (evA call (.b2s x) t h) z k := by
  unfold eB2s
  simp only [evX_eq, evA]
  cases strOf h (x.ev t) with
  | none => rfl
  | some v => cases v <;> first | rfl | exact nfN_eq _ _
theorem eSt_eq (n : Nat) (x v : X) {call : V → List V → H → RO} (cK : Call α) (t : List V) (h : H) (z : α) (k : V → H → α) : eSt n x v cK t h z k = RO.el (evA call (.st n x v) t h) z k := by
  unfold eSt
  simp only [evX_eq, evA]
  cases x.ev t <;> try rfl
  simp only [cellsK_eq, lenK_eq, stK_eq]
  cases Nat.beq (v.ev t).cells.length n with
  | false => rfl
  | true =>
    simp only [if_true]
    cases storeAt h _ _ (v.ev t).cells <;> rfl
theorem eApp_eq (esz bytes : Nat) (s x : X) {call : V → List V → H → RO} (cK : Call α) (t : List V) (h : H) (z : α) (k : V → H → α) : eApp esz bytes s x cK t h z k = RO.el (evA call (.app esz bytes s x) t h) z k := by
  unfold eApp
  simp only [evX_eq, evA]
  unfold appendV
  cases sourceLen (x.ev t) with
  | none => rfl
  | some n =>
    simp only [forceN_eq, srcK_eq]
    cases sourceCells esz n h (x.ev t) with
    | none => rfl
    | some new =>
      simp only
      rw [show Nat.ble (Nat.mul (Nat.add (Nat.mul 2 n) 200) bytes) 281474976710656 = Nat.ble ((2 * n + 200) * bytes) 281474976710656 from rfl]
      cases (Nat.ble ((2 * n + 200) * bytes) 281474976710656 && Nat.blt 0 bytes && Nat.blt 0 esz) with
      | false => rfl
      | true =>
        simp only [if_true]
        cases s.ev t <;> try rfl
        · simp only [hNew_eq]
          cases Nat.beq n 0 <;> rfl
        rotate_left
        · simp only [hNew_eq]
          cases Nat.beq n 0 <;> rfl
        · rename_i blk off len cap g
          simp only
          rw [show Nat.add len n = len + n from rfl]
          cases Nat.ble (len + n) cap with
          | true =>
            simp only [if_true, stK_eq]
            rw [show Nat.add off (Nat.mul len esz) = off + len * esz from rfl]
            cases storeAt h blk (off + len * esz) new <;> rfl
          | false =>
            simp only [Bool.false_eq_true, if_false]
            rw [show Nat.ble (Nat.mul (Nat.add (Nat.mul 2 (len + n)) 200) bytes) 281474976710656 = Nat.ble ((2 * (len + n) + 200) * bytes) 281474976710656 from rfl]
            cases Nat.ble ((2 * (len + n) + 200) * bytes) 281474976710656 with
            | false => rfl
            | true =>
              simp only [if_true]
              cases g with
              | none =>
                simp only [hGet_eq]
                cases h.get blk with
                | none => rfl
                | some bl =>
                  simp only [rdK_eq]
                  rw [show Nat.mul len esz = len * esz from rfl]
                  cases bl.rd off (len * esz) with
                  | none => rfl
                  | some old =>
                    simp only [appK_eq]
                    exact hNew_eq _ _ _
              | some e =>
                simp only [hGet_eq]
                cases h.get blk with
                | none => rfl
                | some bl =>
                  cases bl with
                  | ro _ => rfl
                  | map _ => rfl
                  | loop _ => rfl
                  | cells cs =>
                    simp only [asCells_eq, cutK_eq]
                    rw [show Nat.mul len esz = len * esz from rfl]
                    cases cut cs off (len * esz) with
                    | none => rfl
                    | some old =>
                      simp only [appK_eq, onesK_eq]
                      rw [show Nat.mul cap esz = cap * esz from rfl]
                      cases (Nat.beq e esz && Nat.beq off 0 && Nat.beq cs.length (cap * esz) && new.all V.oneCell) with
                      | false => rfl
                      | true =>
                        simp only [if_true, hKill_eq, hNew_eq]
                        rfl
theorem eCpy_eq (esz : Nat) (d s : X) {call : V → List V → H → RO} (cK : Call α) (t : List V) (h : H) (z : α) (k : V → H → α) : eCpy esz d s cK t h z k = RO.el (evA call (.cpy esz d s) t h) z k := by
  unfold eCpy
  simp only [evX_eq, evA]
  unfold copyV
  cases sourceLen (s.ev t) with
  | none => rfl
  | some m =>
    simp only
    cases d.ev t <;> try rfl
    simp only [forceN_eq, srcK_eq]
    cases sourceCells esz (Nat.min m _) h (s.ev t) with
    | none => rfl
    | some l =>
      simp only [stK_eq]
      cases storeAt h _ _ l <;> rfl
theorem eClr_eq (c : List V) (x : X) {call : V → List V → H → RO} (cK : Call α) (t : List V) (h : H) (z : α) (k : V → H → α) : eClr c x cK t h z k = RO.el (evA call (.clr c x) t h) z k := by
  unfold eClr
  simp only [evX_eq, evA]
  cases x.ev t <;> try rfl
  rename_i b o n _ _
  simp only [repK_eq, nfL_eq, stK_eq]
  cases Nat.beq n 0 with
  | true => rfl
  | false =>
    simp only [Bool.false_eq_true, if_false]
    cases storeAt h b o (rep c n) <;> rfl
theorem eMapSet_eq (fk : KK) (x kk v : X) {call : V → List V → H → RO} (cK : Call α) (t : List V) (h : H) (z : α) (k : V → H → α) : eMapSet fk x kk v cK t h z k = RO.el (evA call (.mapSet fk x kk v) t h) z k := by
  unfold eMapSet
  simp only [evX_eq, evA]
  cases x.ev t <;> try rfl
  simp only [hGet_eq]
  cases h.get _ with
  | none => rfl
  | some bl =>
    cases bl with
    | cells _ => rfl
    | ro _ => rfl
    | loop _ => rfl
    | map es =>
      simp only [asMap_eq]
      cases fk.fits (kk.ev t) with
      | false => rfl
      | true =>
        simp only [if_true, mputK_eq]
        cases mput fk (kk.ev t) (v.ev t) es with
        | none => rfl
        | some es' => exact hPut_eq _ _ _ _
theorem np_eq {op : A} {call : V → List V → H → RO} {t : List V} {h : H} {z : α} {k p : V → H → α} {e : α} (hnp : ∀ v h', evA call op t h ≠ .pan v h') (he : e = RO.el (evA call op t h) z k) : e = RO.elp (evA call op t h) z k p := by
  rw [he]
  cases hv : evA call op t h with
  | fail => rfl
  | ok v h => rfl
  | pan v h' => exact absurd hv (hnp v h')
def quiet : A → Bool
  | .call .. | .panic .. => false
  | _ => true
theorem evAK_plain {cK : Call α} {call : V → List V → H → RO} (op : A) (hq : quiet op = true) (t : List V) (h : H) (z : α) (k p : V → H → α) : evAK op cK t h z k p = RO.el (evA call op t h) z k := by
  cases op
  case mov x => exact evX_eq _ _ _
  case pick c a b =>
    show ePick c a b cK t h z k = _
    unfold ePick
    simp only [evX_eq, evA]
    cases c.ev t <;> try rfl
    rename_i b; cases b <;> rfl
  case alloc c =>
    show eAlloc c cK t h z k = _
    unfold eAlloc; rw [nfL_eq, hNew_eq]; rfl
  case box x =>
    show eBox x cK t h z k = _
    unfold eBox; rw [evX_eq, cellsK_eq, hNew_eq]; rfl
  case build c ps =>
    show eBuild c ps cK t h z k = _
    unfold eBuild; rw [nfL_eq, fillK_eq]; simp only [evA]; cases fill t c ps <;> rfl
  case buildSl c n ps =>
    show eBuildSl c n ps cK t h z k = _
    unfold eBuildSl; rw [nfL_eq, fillK_eq]; simp only [evA]
    cases fill t c ps with
    | none => rfl
    | some c => exact hNew_eq _ _ _
  case ld x =>
    show eLd x cK t h z k = _
    unfold eLd; simp only [evX_eq, evA]
    cases x.ev t <;> try rfl
    simp only [hGet_eq]
    cases h.get _ with
    | none => rfl
    | some bl =>
      simp only [rd1K_eq]
      cases bl.rd1 _ <;> rfl
  case ldn n x =>
    show eLdn n x cK t h z k = _
    unfold eLdn; simp only [evX_eq, evA]
    cases x.ev t <;> try rfl
    simp only [hGet_eq]
    cases h.get _ with
    | none => rfl
    | some bl =>
      simp only [rdK_eq]
      cases bl.rd _ n <;> rfl
  case st n x v => exact eSt_eq n x v cK _ _ _ _
  case nilck x =>
    show eNil x cK t h z k = _
    unfold eNil; simp only [evX_eq, evA]; cases x.ev t <;> rfl
  case bin op x y =>
    show eBin op x y cK t h z k = _
    unfold eBin; simp only [evX_eq, evA]; exact binK_eq _ _ _ _ _ _
  case eqv neg kd x y =>
    show eEqv neg kd x y cK t h z k = _
    unfold eEqv; simp only [evX_eq, evA]
    cases eqV kd (x.ev t) (y.ev t) with
    | none => rfl
    | some r => exact forceB_eq _ _
  case un op x =>
    show eUn op x cK t h z k = _
    unfold eUn; rw [evX_eq]; exact forceO_el _ _ _ _
  case conv kd x =>
    show eConv kd x cK t h z k = _
    unfold eConv; simp only [evX_eq, evA]
    cases x.ev t <;> try rfl
    exact forceZ_eq _ _
  case mkI ty x => exact evX_eq _ _ _
  case mkFn f a c =>
    show eMkFn f a c cK t h z k = _
    unfold eMkFn; rw [evL_eq, evL_eq]; rfl
  case mkMap =>
    show eMkMap cK t h z k = _
    unfold eMkMap; rw [hNew_eq]; rfl
  case mkSl c bytes l m =>
    show eMkSl c bytes l m cK t h z k = _
    unfold eMkSl; simp only [evX_eq, evA, natK_eq]
    cases natOf (l.ev t) with
    | none => rfl
    | some l =>
      cases natOf (m.ev t) with
      | none => rfl
      | some m =>
        simp only
        rw [show Nat.mul bytes m = bytes * m from rfl]
        cases (Nat.ble l m && Nat.ble m 281474976710656 && Nat.ble (bytes * m) 281474976710656) with
        | false => rfl
        | true => simp only [if_true, repK_eq, nfL_eq, hNew_eq]; rfl
  case slc esz x lo hi mx =>
    show eSlc esz x lo hi mx cK t h z k = _
    unfold eSlc
    rw [evX_eq]
    cases mx with
    | none => exact forceO_el _ _ _ _
    | some m => exact forceO_el _ _ _ _
  case slcA a b c d e => exact eOther_eq (fun _ _ => rfl) _ _ _ _
  case slcS a b c => exact eOther_eq (fun _ _ => rfl) _ _ _ _
  case fld off x =>
    show eFld off x cK t h z k = _
    unfold eFld; simp only [evX_eq, evA]
    cases x.ev t <;> try rfl
    exact forceN_eq _ _
  case fldv a b c => exact eOther_eq (fun _ _ => rfl) _ _ _ _
  case ixS esz x ix =>
    show eIxS esz x ix cK t h z k = _
    unfold eIxS; simp only [evX_eq, evA, natK_eq]
    cases natOf (ix.ev t) with
    | none => cases x.ev t <;> rfl
    | some n =>
      cases x.ev t <;> try rfl
      rename_i len _ _
      simp only
      cases Nat.blt n len with
      | false => rfl
      | true => exact forceN_eq _ _
  case ixA len esz x ix =>
    show eIxA len esz x ix cK t h z k = _
    unfold eIxA; simp only [evX_eq, evA, natK_eq]
    cases natOf (ix.ev t) with
    | none => cases x.ev t <;> rfl
    | some n =>
      cases x.ev t <;> try rfl
      simp only
      cases Nat.blt n len with
      | false => rfl
      | true => exact forceN_eq _ _
  case ixStr a b => exact eOther_eq (fun _ _ => rfl) _ _ _ _
  case ixV a b c d e => exact eOther_eq (fun _ _ => rfl) _ _ _ _
  case look a b c d e => exact eOther_eq (fun _ _ => rfl) _ _ _ _
  case mapSet fk x kk v => exact eMapSet_eq fk x kk v cK _ _ _ _
  case ext x n =>
    show eExt x n cK t h z k = _
    unfold eExt; simp only [evX_eq, evA]
    cases x.ev t <;> try rfl
    simp only [nthOK_eq]
    cases nth? _ n <;> rfl
  case call f args => exact (Bool.false_ne_true hq).elim
  case panic x => exact (Bool.false_ne_true hq).elim
  case tassert a b c d => exact eOther_eq (fun _ _ => rfl) _ _ _ _
  case s2b x => exact eS2b_eq x cK _ _ _ _
  case b2s x => exact eB2s_eq x cK _ _ _ _
  case mark x => exact eOther_eq (fun _ _ => rfl) _ _ _ _
  case lenS a => exact eOther_eq (fun _ _ => rfl) _ _ _ _
  case lenL x =>
    show eLenL x cK t h z k = _
    unfold eLenL; simp only [evX_eq, evA]; cases x.ev t <;> rfl
  case lenC n => rfl
  case lenM a => exact eOther_eq (fun _ _ => rfl) _ _ _ _
  case app e b s x => exact eApp_eq e b s x cK _ _ _ _
  case cpy e d s => exact eCpy_eq e d s cK _ _ _ _
  case clr c x => exact eClr_eq c x cK _ _ _ _
  case min a => exact eOther_eq (fun _ _ => rfl) _ _ _ _
  case max a => exact eOther_eq (fun _ _ => rfl) _ _ _ _
  case no => rfl
theorem quiet_pan {call : V → List V → H → RO} {op : A} (hq : quiet op = true) (t : List V) (h : H) (v : V) (h' : H) : evA call op t h ≠ .pan v h' := by
  intro he
  cases op <;> try exact (Bool.false_ne_true hq).elim
  all_goals
    simp only [evA] at he
    revert he
    first
      | (unfold appendV; repeat' split) <;> simp
      | (unfold copyV; repeat' split) <;> simp
      | (repeat' split) <;> first | (simp; done) | (unfold RO.ofV; split <;> simp)
theorem evAK_eq {cK : Call α} {call : V → List V → H → RO} (hc : CallEq cK call) (op : A) (t : List V) (h : H) (z : α) (k p : V → H → α) : evAK op cK t h z k p = RO.elp (evA call op t h) z k p := by
  by_cases hq : quiet op = true
  · exact np_eq (quiet_pan hq t h) (evAK_plain op hq t h z k p)
  · cases op <;> first | exact absurd rfl hq | skip
    case call f args =>
      show eCall f args cK t h z k p = _
      unfold eCall; rw [evX_eq, evL_eq]; exact hc _ _ _ _ _ _
    case panic x =>
      show ePanic x cK t h z k p = _
      unfold ePanic; simp only [evX_eq, evA]
      cases x.ev t <;> rfl
end Go.Air.Fast
namespace Go.Air.Fast
universe u
variable {α : Type}
theorem wantK_eq (g : Option (Nat × Bool)) (t : List V) (y n : α) : wantK g t y n = if wants g t then y else n := by
  cases g with
  | none => rfl
  | some p =>
    obtain ⟨i, w⟩ := p
    have key : ∀ v : V, (match v with
        | .b x => Bool.casesOn (motive := fun _ => α) w (Bool.casesOn (motive := fun _ => α) x y n) (Bool.casesOn (motive := fun _ => α) x n y)
        | _ => n) = if (match v with | .b x => x == w | _ => false) = true then y else n := by
      intro v
      cases v <;> first | rfl | (rename_i x; cases x <;> cases w <;> rfl)
    show nthK t i (fun v => match v with
        | .b x => Bool.casesOn (motive := fun _ => α) w (Bool.casesOn (motive := fun _ => α) x y n) (Bool.casesOn (motive := fun _ => α) x n y)
        | _ => n) = _
    rw [nthK_eq]
    exact key (nth t i)
theorem putK_eq (t : List V) (d : Option Nat) (v : V) (k : List V → α) : putK t d v k = k (putD t d v) := by
  cases d
  · rfl
  · exact updK_eq _ _ _ _
def RL.el (r : RL) (z : α) (k : List V → H → α) (p : V → List V → H → α) : α := match r with
  | .fail => z
  | .pan v t h => p v t h
  | .ok t h => k t h
def RD.el (r : RD) (z : α) (k : List V → H → List Foot → α) : α := match r with
  | .fail => z
  | .ok t h f => k t h f
def RC.el (r : RC) (z : α) (k : Out → List V → H → α) : α := match r with
  | .fail => z
  | .ok o t h => k o t h
theorem opsK_eq {cK : Call α} {call : V → List V → H → RO} (hc : CallEq cK call) : ∀ (l : List O) (t : List V) (h : H) (z : α) (k : List V → H → α) (p : V → List V → H → α), opsK cK l t h z k p = RL.el (runOps call l t h) z k p
  | [], _, _, _, _, _ => rfl
  | o :: l, t, h, z, k, p => by
    obtain ⟨d, g, op⟩ := o
    show wantK g t (evAK op cK t h z (fun v h' => putK t d v fun t' => opsK cK l t' h' z k p) (fun v h' => p v t h')) (putK t d .undef fun t' => opsK cK l t' h z k p) = _
    rw [wantK_eq]
    simp only [runOps]
    cases wants g t with
    | true =>
      simp only [if_true]
      rw [evAK_eq hc]
      cases evA call op t h with
      | fail => rfl
      | pan v h' => rfl
      | ok v h' => simp only [RO.elp, putK_eq]; exact opsK_eq hc l _ _ _ _ _
    | false =>
      simp only [Bool.false_eq_true, if_false, putK_eq]
      exact opsK_eq hc l _ _ _ _ _
theorem oldK_eq (n : Nat) : ∀ (l : List Nat) (k : List Nat → α), oldK n l k = k (oldOnes n l)
  | [], _ => rfl
  | x :: l, k => by
    show (Bool.casesOn (motive := fun _ => α) (Nat.blt x n) (oldK n l k) (oldK n l fun r => k (x :: r))) = _
    simp only [oldOnes]
    cases Nat.blt x n with
    | true => exact oldK_eq n l _
    | false => exact oldK_eq n l _
theorem natsApp_eq (r : List Nat) : ∀ (l : List Nat) (k : List Nat → α), natsApp l r k = k (l ++ r)
  | [], _ => rfl
  | x :: l, k => natsApp_eq r l _
theorem drawK_eq {cK : Call α} {call : V → List V → H → RO} (hc : CallEq cK call) : ∀ (l : List O) (t : List V) (h : H) (f : List Foot) (z : α) (k : List V → H → List Foot → α), drawK cK l t h f z k = RD.el (runDraw call l t h f) z k
  | [], _, _, _, _, _ => rfl
  | o :: l, t, h, f, z, k => by
    obtain ⟨d, g, op⟩ := o
    obtain ⟨n0, m0, l0⟩ := h
    show wantK g t (evAK op cK t ⟨n0, m0, []⟩ z (fun v h' => H.casesOn h' fun n1 m1 l1 => oldK n0 l1 fun old => natsApp old l0 fun l2 => putK t d v fun t' => drawK cK l t' ⟨n1, m1, l2⟩ (f ++ [⟨reads op t, old⟩]) z k) (fun _ _ => z))
      (putK t d .undef fun t' => drawK cK l t' ⟨n0, m0, l0⟩ (f ++ [⟨some [], []⟩]) z k) = _
    rw [wantK_eq]
    simp only [runDraw]
    cases wants g t with
    | true =>
      simp only [if_true]
      rw [evAK_eq hc]
      cases evA call op t ⟨n0, m0, []⟩ with
      | fail => rfl
      | pan v h' => rfl
      | ok v h' =>
        obtain ⟨n1, m1, l1⟩ := h'
        simp only [RO.elp, oldK_eq, natsApp_eq, putK_eq]
        exact drawK_eq hc l _ _ _ _ _
    | false =>
      simp only [Bool.false_eq_true, if_false, putK_eq]
      exact drawK_eq hc l _ _ _ _ _
theorem resK_eq (t : List V) (h : H) : ∀ (l : List ResV) (z : α) (k : List V → α), resK t h l z k = match resultsOf t h l with | none => z | some r => k r
  | [], _, _ => rfl
  | .tmp n :: l, z, k => by
    show nthK t n (fun v => resK t h l z fun s => k (v :: s)) = _
    rw [nthK_eq, resK_eq t h l]
    simp only [resultsOf, resultOf]
    cases resultsOf t h l <;> rfl
  | .only v :: l, z, k => by
    show (List.casesOn (motive := fun _ => α) t (resK t h l z fun s => k (v :: s)) (fun _ _ => z)) = _
    rw [resK_eq t h l]
    simp only [resultsOf, resultOf]
    cases t with
    | nil =>
      simp only
      cases resultsOf [] h l <;> rfl
    | cons _ _ => rfl
  | .cell n sz :: l, z, k => by
    show nthK t n (fun a => match a with
        | .p b o => hGet h b z fun bl => asCells bl z fun cs => Option.casesOn (motive := fun _ => α) sz (nthOK cs o z fun v => resK t h l z fun s => k (v :: s)) (fun m => cutK cs o m z fun l' => resK t h l z fun s => k (.agg l' :: s))
        | _ => z) = _
    rw [nthK_eq]
    simp only [resultsOf, resultOf]
    cases nth t n <;> try rfl
    rename_i b o
    simp only [hGet_eq]
    cases h.get b with
    | none => rfl
    | some bl =>
      cases bl with
      | ro _ => rfl
      | map _ => rfl
      | loop _ => rfl
      | cells cs =>
        simp only [asCells_eq]
        cases sz with
        | none =>
          simp only [nthOK_eq]
          cases nth? cs o with
          | none => rfl
          | some v =>
            simp only [resK_eq t h l]
            cases resultsOf t h l <;> rfl
        | some m =>
          simp only [cutK_eq]
          cases cut cs o m with
          | none => rfl
          | some v =>
            simp only [resK_eq t h l, Option.map_some]
            cases resultsOf t h l <;> rfl
theorem packK_eq (l : List V) (k : V → α) : packK l k = k (packR l) := by
  match l with
  | [] => rfl
  | [_] => rfl
  | _ :: _ :: _ => rfl
theorem rep_undef : ∀ n, rep [V.undef] n = List.replicate n V.undef
  | 0 => rfl
  | n + 1 => by rw [rep, rep_undef n]; rfl
theorem padK_eq : ∀ (l : List V) (n : Nat) (k : List V → α), padK l n k = k (pad l n)
  | [], n, k => by
    show repK [V.undef] n k = _
    rw [repK_eq, rep_undef]
    simp [pad]
  | x :: l, 0, k => by
    show padK l 0 (fun r => k (x :: r)) = _
    rw [padK_eq l 0]
    simp [pad]
  | x :: l, n + 1, k => by
    show padK l n (fun r => k (x :: r)) = _
    rw [padK_eq l n]
    simp [pad]
theorem updsK_eq : ∀ (ps : List Nat) (t vs : List V) (k : List V → α), updsK ps t vs k = k (updAll t ps vs)
  | [], t, vs, k => by simp [updAll]; rfl
  | p :: ps, t, [], k => by simp [updAll]; rfl
  | p :: ps, t, v :: vs, k => by
    show updK t p v (fun t' => updsK ps t' vs k) = _
    rw [updK_eq, updsK_eq ps]; rfl
def REq (rK : R0 α) (r : C → List V → H → RC) : Prop := ∀ c t h z k, rK c t h z k = RC.el (r c t h) z k
structure TEq (tK : TbK α) (tbl : Tb) : Prop where
  fi : ∀ n, tK.fi n = tbl n
  ext : ∀ n, tK.ext n = tbl.ext n
  pr : ∀ n t h z k, tK.pr n t h z k = match tbl.pr n t h with
    | none => z
    | some (v, b) => k v b
section
variable {tK : TbK α} {tbl : Tb} (ht : TEq tK tbl) {rK : R0 α} {r : C → List V → H → RC} (hr : REq rK r)
include ht hr
theorem finK_eq (fi : FI) (t : List V) (h : H) (z : α) (k p : V → H → α) : finK t h fi.res z k = RO.elp (finish fi t h) z k p := by
  unfold finK finish
  simp only [resK_eq, packK_eq]
  cases resultsOf t h fi.res <;> rfl
theorem callDK_eq (f v : V) (h : H) (z : α) (k : H → α) : callDK tK rK f v h z k = match callD tbl r f v h with
    | none => z
    | some h' => k h' := by
  unfold callDK callD
  cases f <;> try rfl
  rename_i g a caps
  cases a <;> try rfl
  simp only [ht.fi]
  cases tbl g with
  | none => rfl
  | some fi =>
    obtain ⟨n, res, body, dfr, rcv⟩ := fi
    cases rcv with
    | none => rfl
    | some m =>
      simp only [padK_eq, updK_eq, hr body]
      cases r body (upd (pad caps n) m v) h with
      | fail => rfl
      | ok o t' h' => cases o <;> rfl
theorem callFn_eq (g : Nat) (a c args : List V) (h : H) (z : α) (k p : V → H → α) : callFn tK rK g a c args h z k p = RO.elp (callV tbl r (.fn g a c) args h) z k p := by
  unfold callFn
  simp only [ht.fi, callV]
  cases tbl g with
  | none => rfl
  | some fi =>
    obtain ⟨n, res, body, dfr, rcv⟩ := fi
    cases rcv with
    | some _ => rfl
    | none =>
      cases dfr with
      | none =>
        simp only [appK_eq, padK_eq, hr body]
        cases r body (pad (a ++ args ++ c) n) h with
        | fail => rfl
        | ok o t' h' =>
          cases o with
          | exit i => rfl
          | norm => exact finK_eq ht hr ⟨n, res, body, none, none⟩ _ _ _ _ _
          | ret => exact finK_eq ht hr ⟨n, res, body, none, none⟩ _ _ _ _ _
          | pan v => rfl
      | some px =>
        obtain ⟨pre, x⟩ := px
        simp only [appK_eq, padK_eq, hr pre]
        cases r pre (pad (a ++ args ++ c) n) h with
        | fail => rfl
        | ok o0 t0 h0 =>
          cases o0 <;> try rfl
          simp only [RC.el, hr body]
          cases r body t0 h0 with
          | fail => rfl
          | ok o t1 h1 =>
            simp only [RC.el, evX_eq]
            have key : ∀ u, (callDK tK rK (x.ev t0) u h1 z fun h2 => finK t1 h2 res z k) = RO.elp (match callD tbl r (x.ev t0) u h1 with
                | none => .fail
                | some h2 => finish ⟨n, res, body, some (pre, x), none⟩ t1 h2) z k p := by
              intro u
              rw [callDK_eq ht hr]
              cases callD tbl r (x.ev t0) u h1 with
              | none => rfl
              | some h2 => exact finK_eq ht hr ⟨n, res, body, some (pre, x), none⟩ _ _ _ _ _
            cases o with
            | exit i => rfl
            | norm => exact key _
            | ret => exact key _
            | pan v => exact key _
theorem callYld_eq (l : Nat) (args : List V) (h : H) (z : α) (k : V → H → α) : callYld rK l args h z k = RO.el (callV tbl r (.yld l) args h) z k := by
  unfold callYld
  simp only [callV]
  rw [hGet_eq]
  cases h.get l with
  | none => rfl
  | some bl =>
    cases bl with
    | cells _ => rfl
    | ro _ => rfl
    | map _ => rfl
    | loop lp =>
      obtain ⟨st, pe, tm, ps, ag, bo⟩ := lp
      simp only [asLoop_eq]
      cases Nat.beq args.length ps.length with
      | false => rfl
      | true =>
        simp only [if_true, updsK_eq, hr ag]
        cases r ag (updAll tm ps args) h with
        | fail => rfl
        | ok o t h1 =>
          cases o with
          | exit _ => rfl
          | ret => rfl
          | pan _ => rfl
          | norm =>
            simp only [RC.el, hGet_eq]
            cases h1.get l with
            | none => rfl
            | some bl =>
              cases bl with
              | cells _ => rfl
              | ro _ => rfl
              | map _ => rfl
              | loop lp1 =>
                obtain ⟨st1, pe1, tm1, ps1, ag1, bo1⟩ := lp1
                simp only [asLoop_eq]
                cases st1 with
                | busy => rfl
                | done => rfl
                | over => rfl
                | ready =>
                  simp only [hPut_eq, hr bo, if_true]
                  cases r bo t (h1.put l (.loop ⟨.busy, pe1, tm1, ps1, ag1, bo1⟩)) with
                  | fail => rfl
                  | ok o2 t2 h2 =>
                    simp only [RC.el, hGet_eq]
                    cases h2.get l with
                    | none => rfl
                    | some bl =>
                      cases bl with
                      | cells _ => rfl
                      | ro _ => rfl
                      | map _ => rfl
                      | loop lp2 =>
                        obtain ⟨st2, pe2, tm2, ps2, ag2, bo2⟩ := lp2
                        simp only [asLoop_eq]
                        cases st2 with
                        | ready => rfl
                        | done => rfl
                        | over => rfl
                        | busy =>
                          simp only [if_true]
                          cases o2 <;> rfl
theorem callYld_eqp (l : Nat) (args : List V) (h : H) (z : α) (k p : V → H → α) : callYld rK l args h z k = RO.elp (callV tbl r (.yld l) args h) z k p := by
  rw [callYld_eq ht hr]
  cases hv : callV tbl r (.yld l) args h with
  | fail => rfl
  | ok v h => rfl
  | pan v h' =>
    exfalso
    simp only [callV] at hv
    repeat' split at hv
    all_goals simp at hv
theorem callK_eq : CallEq (callK tK rK) (callV tbl r) := by
  intro f args h z k p
  cases f <;> try rfl
  · exact callFn_eq ht hr _ _ _ _ _ _ _ _
  · exact callYld_eqp ht hr _ _ _ _ _ _
theorem stepK_eq (c : C) (t : List V) (h : H) (z : α) (k : Out → List V → H → α) : stepK c tK rK t h z k = RC.el (stepC tbl r c t h) z k := by
  have hc := callK_eq ht hr
  cases c
  case skip => rfl
  case ops l =>
    show opsK (callK tK rK) l t h z (fun t h => k .norm t h) (fun v t h => k (.pan v) t h) = _
    rw [opsK_eq hc]
    simp only [stepC]
    cases runOps (callV tbl r) l t h <;> rfl
  case draw l crit =>
    show drawK (callK tK rK) l t h [] z (fun t h f => Bool.casesOn (motive := fun _ => α) (critOk f crit) z (k .norm t h)) = _
    rw [drawK_eq hc]
    simp only [stepC]
    cases runDraw (callV tbl r) l t h [] with
    | fail => rfl
    | ok t' h' f =>
      simp only [RD.el]
      cases critOk f crit <;> rfl
  case seq a b =>
    show rK a t h z (fun o t' h' => Out.casesOn (motive := fun _ => α) o (rK b t' h' z k) (fun i => k (.exit i) t' h') (k .ret t' h') (fun v => k (.pan v) t' h')) = _
    rw [hr a]
    simp only [stepC]
    cases r a t h with
    | fail => rfl
    | ok o t' h' =>
      cases o with
      | norm => exact hr b _ _ _ _
      | exit i => rfl
      | ret => rfl
      | pan v => rfl
  case cond x a b =>
    show cCond x a b tK rK t h z k = _
    unfold cCond
    simp only [evX_eq, stepC]
    cases x.ev t <;> try rfl
    rename_i c
    cases c with
    | true => exact hr a _ _ _ _
    | false => exact hr b _ _ _ _
  case block id a =>
    show rK a t h z (fun o t' h' => Out.casesOn (motive := fun _ => α) o (k .norm t' h') (fun i => Bool.casesOn (motive := fun _ => α) (Nat.beq i id) (k (.exit i) t' h') (k .norm t' h')) (k .ret t' h') (fun v => k (.pan v) t' h')) = _
    rw [hr a]
    simp only [stepC]
    cases r a t h with
    | fail => rfl
    | ok o t' h' =>
      cases o with
      | norm => rfl
      | ret => rfl
      | pan v => rfl
      | exit i =>
        simp only [RC.el]
        cases Nat.beq i id <;> rfl
  case loop a =>
    show rK a t h z (fun o t' h' => Out.casesOn (motive := fun _ => α) o (rK (.loop a) t' h' z k) (fun i => k (.exit i) t' h') (k .ret t' h') (fun v => k (.pan v) t' h')) = _
    rw [hr a]
    simp only [stepC]
    cases r a t h with
    | fail => rfl
    | ok o t' h' =>
      cases o with
      | norm => exact hr (.loop a) _ _ _ _
      | exit i => rfl
      | ret => rfl
      | pan v => rfl
  case exit => rfl
  case ret => rfl
  case rangeF f ps ag bo =>
    show cRange f ps ag bo tK rK t h z k = _
    unfold cRange
    simp only [evX_eq, stepC]
    cases f.ev t <;> try rfl
    rename_i g a c
    simp only [ht.ext]
    cases tbl.ext g with
    | true => rfl
    | false =>
      simp only [hNew_eq, callFn_eq ht hr, Bool.false_eq_true, if_false]
      cases callV tbl r (.fn g a c) [.yld h.next] (h.new (.loop ⟨.ready, none, t, ps, ag, bo⟩)) with
      | fail => rfl
      | pan v h' => rfl
      | ok v h' =>
        simp only [RO.elp, hGet_eq]
        cases h'.get h.next with
        | none => rfl
        | some bl =>
          cases bl with
          | cells _ => rfl
          | ro _ => rfl
          | map _ => rfl
          | loop lp =>
            obtain ⟨st, pe, tm, ps', ag', bo'⟩ := lp
            simp only [asLoop_eq]
            cases st <;> first
              | rfl
              | (cases pe with
                | none => simp only [hPut_eq]; rfl
                | some o => cases o <;> first | (simp only [hPut_eq]; rfl) | rfl)
  case prim n =>
    show cPrim n tK rK t h z k = _
    unfold cPrim
    simp only [ht.pr, stepC]
    cases tbl.pr n t h with
    | none => rfl
    | some q =>
      obtain ⟨v, b⟩ := q
      cases b with
      | none => rfl
      | some x => simp only [hNew_eq]; rfl
end
theorem EK_eq {tK : TbK α} {tbl : Tb} (ht : TEq tK tbl) : ∀ (k : Nat), REq (α := α) (EK tK k) (E tbl k)
  | 0 => fun _ _ _ _ _ => rfl
  | k + 1 => fun c t h z g => stepK_eq ht (EK_eq ht k) c t h z g
theorem runK_eq {tK : TbK α} {tbl : Tb} (ht : TEq tK tbl) (k f : Nat) (args : List V) (h : H) (z : α) (g : V → H → α) : runK tK k f args h z g = RO.el (run tbl k f args h) z g := by
  have := callK_eq ht (EK_eq ht k) (.fn f [] []) args h z g (fun _ _ => z)
  refine this.trans ?_
  unfold run
  cases callV tbl (E tbl k) (.fn f [] []) args h <;> rfl
noncomputable def tblK (tree : T FI) (k : Nat) : Option FI :=
  T.rec (motive := fun _ => Nat → Option FI) (fun _ => none) (fun _ x _ ihl ihr n => Nat.casesOn n x (fun m => Nat.casesOn (Nat.mod m 2) (ihl (Nat.div m 2)) (fun _ => ihr (Nat.div m 2)))) tree k
theorem tblK_eq : ∀ (t : T FI) (k : Nat), tblK t k = t.get k
  | .e, _ => rfl
  | .n _ _ _, 0 => rfl
  | .n l x r, m + 1 => by
    show (Nat.casesOn (motive := fun _ => Option FI) (Nat.mod m 2) (tblK l (Nat.div m 2)) (fun _ => tblK r (Nat.div m 2))) = _
    simp only [T.get]
    rw [show Nat.mod m 2 = m % 2 from rfl, show Nat.div m 2 = m / 2 from rfl]
    cases m % 2 with
    | zero => exact tblK_eq l (m / 2)
    | succ j => exact tblK_eq r (m / 2)
def isTrue : V → Bool
  | .b true => true
  | _ => false
end Go.Air.Fast
set_option autoImplicit false
namespace Go.Air.Fast
open Go.Air.Sha
universe u
variable {α : Type}
def forceW (x : W32) (k : W32 → α) : α := forceN x.toNat fun n => k (BitVec.ofNat 32 n)
theorem forceN_id (n : Nat) (k : Nat → α) : forceN n k = k n := by cases n <;> rfl
theorem forceW_id (x : W32) (k : W32 → α) : forceW x k = k x := by
  unfold forceW
  rw [forceN_id]
  simp
noncomputable def nfW (l : List W32) : (List W32 → α) → α := List.rec (motive := fun _ => (List W32 → α) → α) (fun k => k []) (fun x _ ih k => forceW x fun x => ih fun r => k (x :: r)) l
theorem nfW_id : ∀ (l : List W32) (k : List W32 → α), nfW l k = k l
  | [], _ => rfl
  | x :: l, k => by
    show forceW x (fun x => nfW l fun r => k (x :: r)) = _
    rw [forceW_id, nfW_id l]
noncomputable def snocW (l : List W32) (x : W32) : (List W32 → α) → α := List.rec (motive := fun _ => (List W32 → α) → α) (fun k => k [x]) (fun y _ ih k => ih fun r => k (y :: r)) l
theorem snocW_id : ∀ (l : List W32) (x : W32) (k : List W32 → α), snocW l x k = k (l ++ [x])
  | [], _, _ => rfl
  | y :: l, x, k => by
    show snocW l x (fun r => k (y :: r)) = _
    rw [snocW_id l]; rfl
noncomputable def growK (n : Nat) : List W32 → (List W32 → α) → α := Nat.rec (motive := fun _ => List W32 → (List W32 → α) → α) (fun w k => k w) (fun _ ih w k => forceW (Sha.more w) fun x => snocW w x fun w' => ih w' k) n
theorem growK_id : ∀ (n : Nat) (w : List W32) (k : List W32 → α), growK n w k = k (grow n w)
  | 0, _, _ => rfl
  | n + 1, w, k => by
    show forceW (Sha.more w) (fun x => snocW w x fun w' => growK n w' k) = _
    rw [forceW_id, snocW_id, growK_id n]; rfl
noncomputable def roundK (s : St) (x w : W32) (k : St → α) : α := St.casesOn s fun a b c d e f g h =>
  forceW (h + (rotr e 6 ^^^ rotr e 11 ^^^ rotr e 25) + ((e &&& f) ^^^ (~~~e &&& g)) + x + w) fun t =>
  forceW ((rotr a 2 ^^^ rotr a 13 ^^^ rotr a 22) + ((a &&& b) ^^^ (a &&& c) ^^^ (b &&& c))) fun u =>
  forceW (t + u) fun y => forceW (d + t) fun z => k ⟨y, a, b, c, z, e, f, g⟩
theorem roundK_id (s : St) (x w : W32) (k : St → α) : roundK s x w k = k (round s x w) := by
  obtain ⟨a, b, c, d, e, f, g, h⟩ := s
  simp only [roundK, forceW_id]
  rfl
noncomputable def roundsK (w : List W32) (s : St) (n : Nat) : (St → α) → α := Nat.rec (motive := fun _ => (St → α) → α) (fun k => k s) (fun n ih k => ih fun s' => roundK s' (wN K n) (w0 w n) k) n
theorem roundsK_id (w : List W32) (s : St) : ∀ (n : Nat) (k : St → α), roundsK w s n k = k (rounds w n s)
  | 0, _ => rfl
  | n + 1, k => by
    show roundsK w s n (fun s' => roundK s' (wN K n) (w0 w n) k) = _
    rw [roundsK_id w s n, roundK_id]; rfl
noncomputable def addK (x y : St) (k : St → α) : α := St.casesOn x fun a b c d e f g h => St.casesOn y fun a' b' c' d' e' f' g' h' =>
  forceW (a + a') fun a => forceW (b + b') fun b => forceW (c + c') fun c => forceW (d + d') fun d => forceW (e + e') fun e => forceW (f + f') fun f => forceW (g + g') fun g => forceW (h + h') fun h => k ⟨a, b, c, d, e, f, g, h⟩
theorem addK_id (x y : St) (k : St → α) : addK x y k = k (x.add y) := by
  obtain ⟨a, b, c, d, e, f, g, h⟩ := x
  obtain ⟨a', b', c', d', e', f', g', h'⟩ := y
  simp only [addK, forceW_id]
  rfl
noncomputable def blockK (s : St) (b : List Nat) (k : St → α) : α := nfW (words b) fun w => growK 48 w fun w => roundsK w s 64 fun r => addK r s k
theorem blockK_id (s : St) (b : List Nat) (k : St → α) : blockK s b k = k (block s b) := by
  simp only [blockK, nfW_id, growK_id, roundsK_id, addK_id]
  rfl
noncomputable def blocksK (n : Nat) : St → List Nat → (St → α) → α := Nat.rec (motive := fun _ => St → List Nat → (St → α) → α) (fun s _ k => k s)
  (fun _ ih s m k => nfN (m.take 64) fun b => nfN (m.drop 64) fun m' => blockK s b fun s' => ih s' m' k) n
theorem blocksK_id : ∀ (n : Nat) (s : St) (m : List Nat) (k : St → α), blocksK n s m k = k (blocks n s m)
  | 0, _, _, _ => rfl
  | n + 1, s, m, k => by
    show nfN (m.take 64) (fun b => nfN (m.drop 64) fun m' => blockK s b fun s' => blocksK n s' m' k) = _
    simp only [nfN_eq, blockK_id, blocksK_id n]
    rfl
noncomputable def startK (k : St → α) : α := St.casesOn Sha.start fun a b c d e f g h => forceW a fun a => forceW b fun b => forceW c fun c => forceW d fun d => forceW e fun e => forceW f fun f => forceW g fun g => forceW h fun h => k ⟨a, b, c, d, e, f, g, h⟩
theorem startK_id (k : St → α) : startK k = k Sha.start := by
  simp only [startK, forceW_id]
noncomputable def sumK (b : List Nat) (k : List Nat → α) : α := nfN (Sha.pad b) fun p => forceN (p.length / 64) fun n => startK fun s => blocksK n s p fun s => nfN (Sha.bytes s) k
theorem sumK_id (b : List Nat) (k : List Nat → α) : sumK b k = k (Sha.sum b) := by
  simp only [sumK, nfN_eq, forceN_id, startK_id, blocksK_id]
  rfl
noncomputable def nfV (v : V) (k : V → α) : α := match v with
  | .s l => nfN l fun l => k (.s l)
  | v => forceV v k
noncomputable def prK (n : Nat) (t : List V) (h : H) (z : α) (k : V → Option Blk → α) : α := match n with
  | 0 => match t with
    | [v] => match bytesAt h v with
      | some b => nfN b fun b => sumK b fun r => nfL (r.map fun c => .i .u8 (.ofNat c)) fun r => k (.agg r) none
      | none => z
    | _ => z
  | n + 1 => match primV (n + 1) t h with
    | none => z
    | some (v, b) => nfV v fun v => k v b
theorem nfV_id (v : V) (k : V → α) : nfV v k = k v := by
  unfold nfV
  split
  · rw [nfN_eq]
  · exact forceV_eq _ _
theorem prK_eq (n : Nat) (t : List V) (h : H) (z : α) (k : V → Option Blk → α) : prK n t h z k = match primV n t h with
    | none => z
    | some (v, b) => k v b := by
  cases n with
  | zero =>
    rcases t with _ | ⟨v, _ | ⟨u, t⟩⟩
    · rfl
    · show (match bytesAt h v with
        | some b => nfN b fun b => sumK b fun r => nfL (r.map fun c => .i .u8 (.ofNat c)) fun r => k (.agg r) none
        | none => z) = match (bytesAt h v).map fun b => (V.agg ((Sha.sum b).map fun c => .i .u8 (.ofNat c)), (none : Option Blk)) with
        | none => z
        | some (v, b) => k v b
      cases bytesAt h v with
      | none => rfl
      | some b => simp only [nfN_eq, sumK_id, nfL_eq, Option.map_some]
    · rfl
  | succ n =>
    show (match primV (n + 1) t h with
      | none => z
      | some (v, b) => nfV v fun v => k v b) = _
    cases primV (n + 1) t h with
    | none => rfl
    | some q => exact nfV_id _ _
end Go.Air.Fast
set_option maxRecDepth 100000
namespace Go.Air.Try
open Go.Air.Fast
def fiV (k : Nat) : Option FI := if k = 9 then some (primFI 1 0) else tree.get k
def tbV : Tb := ⟨fiV, primV, ext⟩
noncomputable def tkV (α : Type) : TbK α := ⟨fun k => Bool.casesOn (Nat.beq k 9) (tblK tree k) (some (primFI 1 0)), fun k => forceB (ext k) fun b => b, prK⟩
theorem tkV_eq {α : Type} : TEq (tkV α) tbV := by
  refine ⟨fun k => ?_, fun k => ?_, prK_eq⟩
  · show (Bool.casesOn (Nat.beq k 9) (tblK tree k) (some (primFI 1 0)) : Option FI) = if k = 9 then _ else _
    by_cases h : k = 9
    · subst h; rfl
    · rw [if_neg h]
      have : Nat.beq k 9 = false := by rw [Bool.eq_false_iff, ne_eq, Nat.beq_eq]; exact h
      rw [this]
      exact tblK_eq tree k
  · show forceB (ext k) (fun b => b) = ext k
    cases ext k <;> rfl
end Go.Air.Try
namespace Go.Air
def Wd (ro : Option Nat) : Fence := { Fence.wide with round := ro }
def allB : Nat → Prop := fun _ => True
section
variable {P : Program} {F : Nat → Prop} {R R1 : Emb} {h h1 h' : H} {w w1 : World} {t t' : List V} {a : Act} {v : V}
theorem Sim.sub {G : Nat → Prop} (hs : Sim P F R h.get w) (hG : ∀ b, G b → F b) : Sim P G R h.get w :=
  ⟨fun b c sz x hb => hs.blk b c sz x (hG b hb), fun b b' c sz sz' x x' h1 h2 => hs.inj b b' c sz sz' x x' (hG b h1) (hG b' h2), hs.lt, hs.fix⟩
def Upon (P : Program) (nx : Next) (w : World) (K : Ending → World → Prop) : Prop :=
  match nx with
  | .value x => K (.returned x) w
  | .skip => K (.returned undef) w
  | .enter f args => ∀ ro n, CallsIn (Wd ro) n P f args w K
  | .round l f tmps assign body => ∀ ro n, RoundIn (Wd ro) n P l f tmps assign body w K
  | _ => False
def PostR (P : Program) (F : Nat → Prop) (R : Emb) (h : H) (w : World) (r : RO) : Ending → World → Prop
  | .returned x, w' => match r with
    | .ok v h' => PostV P F R h w v h' x w'
    | _ => False
  | .panicked chain, w' => match r with
    | .pan v h' => ∃ x, chain = [{ v := x, recovered := false }] ∧ PostV P F R h w v h' x w'
    | _ => False
  | .outgrown, _ => False
def RO.Gives (r : RO) (h' : H) : Prop := match r with
  | .ok _ h => h' = h
  | .pan _ h => h' = h
  | .fail => False
theorem RO.Gives.or {r : RO} {h' : H} (g : r.Gives h') : (∃ v, r = .ok v h') ∨ ∃ v, r = .pan v h' := by
  cases r with
  | fail => exact g.elim
  | ok v h => exact .inl ⟨v, by rw [show h' = h from g]⟩
  | pan v h => exact .inr ⟨v, by rw [show h' = h from g]⟩
theorem RO.gives_ok {v : V} {h' : H} : (RO.ok v h').Gives h' := rfl
theorem RO.gives_pan {v : V} {h' : H} : (RO.pan v h').Gives h' := rfl
def CallSnd (P : Program) (call : V → List V → H → RO) : Prop :=
  ∀ (f : V) (args : List V) (h h' : H) (r : RO) (R : Emb) (w : World) (fv : Value) (vs : List Value), call f args h = r → r.Gives h' → Sim P allB R h.get w → Fresh R h h' → WF h →
    conc R f = some fv → concL R args = some vs →
    ∃ nx w1, (do let d ← Deferred.ofValue fv vs.toArray; invoke d.target d.args : Sem Next).run P w = .ok nx w1 ∧ Upon P nx w1 (PostR P allB R h w r)
theorem upon_in {o : Oper} {n : Nat} {ro : Option Nat} {next : Act → World → Prop} {Q : Exit → Act → World → Prop} {nx : Next} {r : RO} {wx : World} (hu : Upon P nx wx (PostR P F R h w r))
    (hn : ∀ v h' x w', r = .ok v h' → PostV P F R h w v h' x w' → next (a.put o.dst x) w')
    (hp : ∀ v h' x w', r = .pan v h' → PostV P F R h w v h' x w' → Q (.panic [{ v := x, recovered := false }]) a w') : o.uponIn (Wd ro) n P a next Q (.ok nx wx) := by
  have room : ((Wd ro).depth.isSome = true → 1 ≤ n) := fun h => by simp [Wd, Fence.wide] at h
  have ret : ∀ x w', PostR P F R h w r (.returned x) w' → next (a.put o.dst x) w' := by
    intro x w' q
    cases r with
    | ok v h' => exact hn v h' x w' rfl q
    | _ => exact q.elim
  have pan : ∀ chain w', PostR P F R h w r (.panicked chain) w' → Q (.panic chain) a w' := by
    intro chain w' q
    cases r with
    | pan v h' => obtain ⟨x, rfl, q⟩ := q; exact hp v h' x w' rfl q
    | _ => exact q.elim
  cases nx <;> first | exact hu.elim | skip
  case value x => exact ret _ _ hu
  case skip => exact ret _ _ hu
  case enter f args =>
    refine ⟨room, (hu ro (n - 1)).mono ?_⟩
    intro e w' he
    cases e with
    | returned v => exact ret _ _ he
    | panicked _ => exact pan _ _ he
    | outgrown => exact he.elim
  case round l f tmps assign body =>
    refine ⟨room, (hu ro (n - 1)).mono ?_⟩
    intro e w' he
    cases e with
    | returned v => exact ret _ _ he
    | panicked _ => exact pan _ _ he
    | outgrown => exact he.elim
theorem envOk_of (ht : concL R t = some a.tmps.toList) : EnvOk R t a.eval := by
  intro x y hxy
  unfold okX at hxy
  split at hxy <;> try simp at hxy
  · subst hxy
    have := conc_nth ht ‹Nat›
    simp only [X.ev, Act.eval]
    rw [this]
    simp [Array.getD_eq_getD_getElem?, List.getD_eq_getElem?_getD]
  · exact conc_of_same R _ _ hxy
  · subst hxy
    simp [X.ev, Act.eval, conc, concL]
theorem PostV.all {v : V} {x : Value} {w' : World} (q : PostV P allB R h w v h' x w') : PostV P F R h w v h' x w' :=
  let ⟨R', l, q1, q2, q3⟩ := q
  ⟨R', l, q1, ⟨fun b c sz x _ => q2.blk b c sz x trivial, fun b b' c sz sz' x x' _ _ => q2.inj b b' c sz sz' x x' trivial trivial, q2.lt, q2.fix⟩, q3⟩
theorem op_wp {o : Oper} {ao : A} {n : Nat} {ro : Option Nat} {next : Act → World → Prop} {Q : Exit → Act → World → Prop} {call : V → List V → H → RO} {r : RO} (hc : CallSnd P call)
    (hok : okA P o.op ao = true) (hρ : EnvOk R t a.eval) (hs : Sim P F R h.get w) (hF : FootOk F (reads ao t)) (hfr : Fresh R h h') (hw : WF h) (he : evA call ao t h = r) (hg : r.Gives h')
    (hn : ∀ v x w', r = .ok v h' → PostV P F R h w v h' x w' → next (a.put o.dst x) w')
    (hp : ∀ v x w', r = .pan v h' → PostV P F R h w v h' x w' → Q (.panic [{ v := x, recovered := false }]) a w') : o.wpIn (Wd ro) n P a w next Q := by
  refine ⟨fun _ _ => trivial, ?_⟩
  obtain ⟨dst, op, ty, pos, af, gd⟩ := o
  simp only at hok
  have hsem : Oper.semAt (Wd ro).round a.eval ⟨dst, op, ty, pos, af, gd⟩ = execOp a.eval ⟨dst, op, ty, pos, af, gd⟩ := by
    refine Oper.semAt_eq _ _ _ (fun c hcc => ?_)
    simp only at hcc
    subst hcc
    cases ao <;> first | exact (Bool.false_ne_true hok).elim | (simp [evA] at he; subst he; exact hg.elim)
  rw [hsem]
  by_cases hcall : ∃ f xs, ao = .call f xs
  · obtain ⟨f, xs, rfl⟩ := hcall
    have hall : ∀ b, F b := hF
    cases op <;> try exact (Bool.false_ne_true hok).elim
    rename_i c
    have hok : (match c.callee with
      | .value g => okX g f && okXs c.args.toList xs
      | _ => false) = true := hok
    split at hok <;> try simp at hok
    rename_i g hgc
    obtain ⟨h1, h2⟩ := hok
    have hfv := hρ g f h1
    have hxs := okXs_conc hρ _ _ h2
    obtain ⟨nx, wx, hr, hu⟩ := hc _ _ _ _ _ R w _ _ he hg (hs.sub fun b _ => hall b) hfr hw hfv hxs
    have hr' : (execOp a.eval ⟨dst, .call c, ty, pos, af, gd⟩).run P w = .ok nx wx := by
      simp only [execOp, resolve, hgc]
      rw [show c.args.map a.eval = (c.args.toList.map a.eval).toArray from Array.toList_inj.1 (by simp)]
      exact hr
    rw [hr']
    refine upon_in hu (fun v h1 x w' hv q => ?_) (fun v h1 x w' hv q => ?_)
    · have hh : h' = h1 := by rw [hv] at hg; exact hg
      subst hh
      exact hn v x w' hv q.all
    · have hh : h' = h1 := by rw [hv] at hg; exact hg
      subst hh
      exact hp v x w' hv q.all
  · rcases hg.or with ⟨v, hv⟩ | ⟨v, hv⟩
    · obtain ⟨nx, x, w', hr, hnx, hpv⟩ := run_any (dst := dst) (ty := ty) (pos := pos) (af := af) (gd := gd) hok (fun f xs e => hcall ⟨f, xs, e⟩) hρ hs hF hfr (he.trans hv)
      rw [hr]
      rcases hnx with rfl | ⟨rfl, rfl⟩
      · exact hn _ _ _ hv hpv
      · exact hn _ _ _ hv hpv
    · rcases evA_pan (he.trans hv) with ⟨y, k, u, rfl, q1, rfl, rfl⟩ | ⟨f, xs, e, _⟩
      · cases op <;> try exact (Bool.false_ne_true hok).elim
        rename_i x
        have hx := hρ x y hok
        rw [q1] at hx
        obtain ⟨z, _, hxe⟩ := conc_ifc hx
        have hrun : (execOp a.eval ⟨dst, .panic x, ty, pos, af, gd⟩).run P w = .halt (.panic (a.eval x)) w := by
          simp only [execOp, Sem.run_bind, hxe, Instr.panic, run_goPanic, Result.andThen]
        rw [hrun]
        exact hp _ _ _ hv (.same hs hx)
      · exact absurd ⟨f, xs, e⟩ hcall
theorem put_tmps {x : Value} {dst : Option Tmp} {d : Option Nat} (hd : okDst dst d = true) (ht : concL R t = some a.tmps.toList) (hv : conc R v = some x) :
    concL R (putD t d v) = some (a.put dst x).tmps.toList := by
  unfold okDst at hd
  split at hd <;> try simp at hd
  · exact ht
  · subst hd
    simp only [putD, Act.put, Array.toList_setIfInBounds]
    exact conc_upd _ ht hv
theorem put_defers {x : Value} {dst : Option Tmp} : (a.put dst x).defers = a.defers := by cases dst <;> rfl
theorem wanted_iff {ops : Array Oper} {o : Oper} {g : Option (Nat × Bool)} (hg : okG ops o.guard g = true) (ht : concL R t = some a.tmps.toList) :
    Region.wanted o (yielded ops a.tmps) = wants g t := by
  unfold okG at hg
  split at hg <;> try simp at hg
  · rename_i h1
    simp [Region.wanted, h1, wants]
  · rename_i j w1 d w2 h1
    obtain ⟨rfl, hd⟩ := hg
    split at hd <;> try simp at hd
    rename_i o' ho
    have hdst : o'.dst = some d := by
      cases hq : o'.dst with
      | none => rw [hq] at hd; exact (Bool.false_ne_true hd).elim
      | some e =>
        rw [hq] at hd
        have hd : Nat.beq e d = true := hd
        rw [Nat.beq_eq] at hd
        rw [hd]
    simp only [Region.wanted, h1, yielded, ho, hdst, Option.bind_some, wants]
    have hcn := conc_nth ht d
    rw [List.getD_eq_getElem?_getD, Array.getElem?_toList] at hcn
    cases hq : a.tmps[d]? with
    | none =>
      have : t.length ≤ d := by
        have e := concL_length ht
        rw [Array.getElem?_eq_none_iff] at hq
        simp at e
        omega
      have : nth t d = .undef := by rw [nth_eq]; simp [this]
      rw [this]
      rfl
    | some x =>
      rw [hq, Option.getD_some] at hcn
      cases hn : nth t d with
      | b y =>
        rw [hn] at hcn
        simp [conc] at hcn
        subst hcn
        cases y <;> cases w1 <;> rfl
      | _ =>
        rw [hn] at hcn
        have : ∀ b, x ≠ .bool b := by
          intro b e
          subst e
          first | (simp [conc] at hcn; done) | (simp only [conc] at hcn; split at hcn <;> simp at hcn; done) | (rename_i gr; cases gr <;> first | (simp [conc] at hcn; done) | (simp only [conc, Option.bind_eq_some_iff] at hcn; obtain ⟨y, _, h2⟩ := hcn; split at h2 <;> simp at h2; done))
        cases x <;> first | rfl | exact absurd rfl (this _)
end
end Go.Air
namespace Go.Air
theorem least {p : Nat → Prop} (h : ∃ j, p j) : ∃ m, p m ∧ ∀ j, p j → m ≤ j := by
  obtain ⟨j, hj⟩ := h
  induction j using Nat.strongRecOn with
  | _ j ih =>
    by_cases hl : ∃ i, i < j ∧ p i
    · obtain ⟨i, hi, hp⟩ := hl
      exact ih i hi hp
    · exact ⟨j, hj, fun i hi => Nat.le_of_not_lt fun hlt => hl ⟨i, hlt, hi⟩⟩
theorem wpIn_loop_rel {F : Fence} {n : Nat} {P : Program} {Q : Exit → Act → World → Prop} {a : Act} {w : World} {c : Code} (J : Nat → Act → World → Prop) (h0 : ∃ j, J j a w)
    (round : ∀ j a w, J j a w → c.wpIn F n P (Exit.then (fun a' w' => ∃ j', j' < j ∧ J j' a' w') Q) a w) : (Code.loop c).wpIn F n P Q a w := by
  classical
  refine wpIn_loop (fun a w => ∃ j, J j a w) (fun a w => if h : ∃ j, J j a w then Classical.choose (least h) else 0) h0 ?_
  intro a w hj
  have hfind := (Classical.choose_spec (least hj)).1
  refine wpIn_mono (round _ a w hfind) ?_
  intro e a' w' hq
  cases e with
  | normal =>
    obtain ⟨j', hlt, hj'⟩ := hq
    refine ⟨⟨j', hj'⟩, ?_⟩
    simp only [dif_pos hj, dif_pos (⟨j', hj'⟩ : ∃ j, J j a' w')]
    exact Nat.lt_of_le_of_lt ((Classical.choose_spec (least (⟨j', hj'⟩ : ∃ j, J j a' w'))).2 _ hj') hlt
  | _ => exact hq
section
variable {P : Program} {b : Frame} {a : Act} {k : List Item} {cs : List Frame} {w : World} {Q : Exit → Act → World → Prop} {F : Fence} {n : Nat}
theorem stepR_scope {c : Code} : step P (lone (b.atR a (.code (.scope c) :: k)) cs w) = .next (lone (b.atR a (.code c :: .inScope c :: k)) cs w) :=
  step_lone_go (by simp [stepG, stepG.exec, Frame.atR])
theorem stepR_inScope {c : Code} : step P (lone (b.atR a (.inScope c :: k)) cs w) = .next (lone (b.atR a k) cs w) :=
  step_lone_go (by simp [stepG, stepG.exec, Frame.atR])
theorem wpIn_scope_straight {c : Code} (h : c.wpIn F n P (Exit.noGoto Q) a w) : (Code.scope c).wpIn F n P Q a w := by
  intro b k cs hro hb hr
  have h0 : (lone (b.atR a (.code (.scope c) :: k)) cs w).fenced P F := fenced_calm hb hr rfl
  obtain ⟨e, a₁, w₁, hq, harr⟩ := h b (.inScope c :: k) cs hro hb hr
  cases e with
  | normal => exact ⟨.normal, a₁, w₁, hq, .head h0 stepR_scope (StepsIn.trans harr (.one (fenced_calm hb hr rfl) stepR_inScope))⟩
  | exit id =>
    have hx : exitTo id (.inScope c :: k) = exitTo id k := by simp [exitTo]
    exact ⟨.exit id, a₁, w₁, hq, fun k' hk => .head h0 stepR_scope (harr.1 k' (by rw [hx]; exact hk)),
      fun hr' hk => let ⟨k₁, h1, h2⟩ := harr.2 hr' (by rw [hx]; exact hk); ⟨k₁, h1, .head h0 stepR_scope h2⟩⟩
  | goto l => exact hq.elim
  | ret => exact ⟨_, a₁, w₁, hq, .of_steps (.one h0 stepR_scope) harr⟩
  | panic ch => exact ⟨_, a₁, w₁, hq, .of_steps (.one h0 stepR_scope) harr⟩
  | outgrown => exact ⟨_, a₁, w₁, hq, .of_steps (.one h0 stepR_scope) harr⟩
end
section
variable {P : Program} {R R1 R' : Emb} {h h1 h' : H} {w w1 w' : World} {t t' : List V} {a : Act} {v : V} {m : Nat}
def Marks (m : Nat) (R : Emb) (w : World) : List Deferred → Prop
  | [] => True
  | d :: ds => (∃ D, d = { target := .collected D, args := #[] } ∧ m ≤ D ∧ D < w.heap.size ∧ w.heap[D]? = some (.deferred (some [])) ∧ (∀ b sz, R b ≠ some (D, sz)) ∧
      ∀ e ∈ ds, e.target ≠ .collected D) ∧ Marks m R w ds
theorem Marks.fwd {l : List Nat} (f : Fwd R R' h h' w w' l) : ∀ {ds : List Deferred}, Marks m R w ds → Marks m R' w' ds
  | [], _ => trivial
  | d :: ds, ⟨⟨D, h1, h2, h3, h4, h5, h6⟩, hs⟩ => by
    refine ⟨⟨D, h1, h2, Nat.lt_of_lt_of_le h3 f.size, ?_, ?_, h6⟩, hs.fwd f⟩
    · rw [f.frame D h3 (fun b sz hb => absurd hb (h5 b sz))]; exact h4
    · intro b sz hb
      rcases f.new b D sz hb with q | ⟨_, _, q | ⟨b0, s0, q, _⟩⟩
      · exact h5 b sz q
      · omega
      · exact h5 b0 s0 q
theorem Marks.took {D : Nat} : ∀ {ds : List Deferred}, (∀ e ∈ ds, e.target ≠ .collected D) → Marks m R w ds → Marks m R (w.putObj D (.deferred none)) ds
  | [], _, _ => trivial
  | d :: ds, hne, ⟨⟨E, h1, h2, h3, h4, h5, h6⟩, hs⟩ => by
    have hED : E ≠ D := by
      intro e; subst e
      exact hne d (by simp) (by rw [h1])
    refine ⟨⟨E, h1, h2, by simpa using h3, ?_, h5, h6⟩, Marks.took (fun e he => hne e (by simp [he])) hs⟩
    rw [World.putObj_heap_other hED]; exact h4
def MarksOn (D0 : List Deferred) (m : Nat) (R : Emb) (w : World) (ds : List Deferred) : Prop := ∃ ms, ds = ms ++ D0 ∧ Marks m R w ms
theorem MarksOn.fwd {D0 : List Deferred} {l : List Nat} {ds : List Deferred} (h : MarksOn D0 m R w ds) (f : Fwd R R' h1 h' w w' l) : MarksOn D0 m R' w' ds :=
  let ⟨ms, e, q⟩ := h; ⟨ms, e, q.fwd f⟩
theorem MarksOn.nil {D0 : List Deferred} : MarksOn D0 m R w D0 := ⟨[], rfl, trivial⟩
def exitIs (R : Emb) : Out → Exit → Prop
  | .norm, e => e = .normal
  | .exit i, e => e = .exit i
  | .ret, e => e = .ret
  | .pan v, e => ∃ x, conc R v = some x ∧ e = .panic [{ v := x, recovered := false }]
theorem exitIs.mono {R R' : Emb} (hR : R.le R') {o : Out} {e : Exit} (h : exitIs R o e) : exitIs R' o e := by
  cases o with
  | pan v => obtain ⟨x, h1, h2⟩ := h; exact ⟨x, conc_mono hR _ _ h1, h2⟩
  | _ => exact h
def PostE (P : Program) (D0 : List Deferred) (m : Nat) (R : Emb) (h : H) (w : World) (o : Out) (t' : List V) (h' : H) (e : Exit) (a' : Act) (w' : World) : Prop :=
  ∃ R' l, exitIs R' o e ∧ Fwd R R' h h' w w' l ∧ Sim P allB R' h'.get w' ∧ concL R' t' = some a'.tmps.toList ∧ MarksOn D0 m R' w' a'.defers
abbrev PostA (P : Program) (D0 : List Deferred) (m : Nat) (R : Emb) (h : H) (w : World) (t' : List V) (h' : H) (a' : Act) (w' : World) : Prop := PostE P D0 m R h w .norm t' h' .normal a' w'
theorem PostE.step {D0 : List Deferred} {o : Out} {e : Exit} {a' : Act} {l : List Nat} (f : Fwd R R1 h h1 w w1 l) (hp : PostE P D0 m R1 h1 w1 o t' h' e a' w') : PostE P D0 m R h w o t' h' e a' w' :=
  let ⟨R', l', q0, q1, q2⟩ := hp
  ⟨R', _, q0, f.trans q1, q2⟩
theorem PostE.here {D0 : List Deferred} {o : Out} {e : Exit} (he : exitIs R o e) (hs : Sim P allB R h.get w) (ht : concL R t = some a.tmps.toList) (hm : MarksOn D0 m R w a.defers) : PostE P D0 m R h w o t h e a w := ⟨R, [], he, .refl R h w, hs, ht, hm⟩
theorem PostE.same {D0 : List Deferred} {o : Out} {e : Exit} {a' : Act} (hp : PostE P D0 m R h w o t' h' e a' w') : exitIs (fun _ => none) o e ∨ ∃ v x, o = .pan v ∧ e = .panic [{ v := x, recovered := false }] := by
  obtain ⟨R', l, q, _⟩ := hp
  cases o with
  | pan v => obtain ⟨x, _, h2⟩ := q; exact .inr ⟨v, x, rfl, h2⟩
  | _ => exact .inl q
def Around (R : Emb) (h : H) : Option Nat → Prop
  | none => True
  | some c => ∃ b sz lp, R b = some (c, sz) ∧ b < h.next ∧ h.get b = some (.loop lp)
theorem Around.fwd {ro : Option Nat} {l : List Nat} (f : Fwd R R' h h' w w' l) (k : Keep h h') (ha : Around R h ro) : Around R' h' ro := by
  cases ro with
  | none => trivial
  | some c =>
    obtain ⟨b, sz, lp, h1, h2, h3⟩ := ha
    obtain ⟨lp', h4⟩ := k.loop b lp h2 h3
    exact ⟨b, sz, lp', f.le b _ h1, Nat.lt_of_lt_of_le h2 k.nx, h4⟩
theorem res_one {t : List V} {tmps : Array Value} (hs : Sim P allB R h.get w) (ht : concL R t = some tmps.toList) :
    ∀ {rs : List ResultVar} {ms : List ResV} {vs : List V}, okRes P rs ms = true → resultsOf t h ms = some vs →
      ∃ xs, (rs.mapM (m := Sem) fun
        | .tmp t => pure (tmps.getD t undef)
        | .cell a t => do loadVar t (← asAddr (tmps.getD a undef))).run P w = .ok xs w ∧ concL R vs = some xs
  | [], [], vs, _, hr => by
    simp [resultsOf] at hr
    subst hr
    exact ⟨[], by simp, concL_nil R⟩
  | [], _ :: _, _, ho, _ => by simp [okRes] at ho
  | .tmp _ :: _, [], _, ho, _ => by simp [okRes] at ho
  | .cell _ _ :: _, [], _, ho, _ => by simp [okRes] at ho
  | .tmp _ :: _, .cell _ _ :: _, _, ho, _ => by simp [okRes] at ho
  | .tmp _ :: _, .only _ :: _, _, ho, _ => by simp [okRes] at ho
  | .cell _ _ :: _, .only _ :: _, _, ho, _ => by simp [okRes] at ho
  | .cell _ _ :: _, .tmp _ :: _, _, ho, _ => by simp [okRes] at ho
  | .tmp x :: rs, .tmp y :: ms, vs, ho, hr => by
    simp only [okRes, Bool.and_eq_true, Nat.beq_eq] at ho
    obtain ⟨rfl, ho⟩ := ho
    simp only [resultsOf, resultOf, Option.map_eq_some_iff] at hr
    obtain ⟨vs', hr, rfl⟩ := hr
    obtain ⟨xs, h1, h2⟩ := res_one hs ht ho hr
    refine ⟨tmps.getD x undef :: xs, ?_, concL_cons.2 ⟨_, _, ?_, h2, rfl⟩⟩
    · rw [List.mapM_cons]
      simp only [Sem.run_bind, Sem.run_pure, Result.andThen_ok, h1]
    · have := conc_nth ht x
      rw [this]
      simp [Array.getD_eq_getD_getElem?, List.getD_eq_getElem?_getD]
  | .cell x ty :: rs, .cell y sz :: ms, vs, ho, hr => by
    simp only [okRes, Bool.and_eq_true, Nat.beq_eq] at ho
    obtain ⟨⟨rfl, hty⟩, ho⟩ := ho
    simp only [resultsOf] at hr
    split at hr <;> try simp at hr
    rename_i v0 hv0
    obtain ⟨vs', hr, rfl⟩ := hr
    obtain ⟨xs, h1, h2⟩ := res_one hs ht ho hr
    simp only [resultOf] at hv0
    split at hv0 <;> try simp at hv0
    rename_i b o hn
    split at hv0 <;> try simp at hv0
    rename_i cs hg
    have hx := conc_nth ht x
    rw [hn, List.getD_eq_getElem?_getD, Array.getElem?_toList] at hx
    obtain ⟨c, sz', hb, hxe⟩ := conc_p hx
    have hxe' : tmps.getD x undef = .pointer (some ⟨c, o, none⟩) := by rw [Array.getD_eq_getD_getElem?, hxe]
    obtain ⟨arr, e', ys, rest, g1, g2, g3, g4⟩ := cells_at hs trivial hb hg
    have hload : ∃ u, (loadVar ty ⟨c, o, none⟩).run P w = .ok u w ∧ conc R v0 = some u := by
      cases sz with
      | none =>
        simp only at hty hv0
        rw [nth?_eq] at hv0
        obtain ⟨u, hu, hc⟩ := concL_get g2 hv0
        have hcell : w.cell? ⟨c, o, none⟩ = some u := cell_at g1 (by rw [g3, List.getElem?_append_left (List.getElem?_eq_some_iff.1 hu).1]; exact hu)
        exact ⟨u, by simp [loadVar, run_isAgg_plain w hty, hcell], hc⟩
      | some k =>
        simp only [Bool.and_eq_true, Option.map_eq_some_iff] at hty hv0
        obtain ⟨l, hl, rfl⟩ := hv0
        obtain ⟨hle, rfl⟩ := cut_eq.1 hl
        have hlen := concL_length g2
        have hr := run_loadCells_at (P := P) g1 g3 (by omega : o + k ≤ ys.length)
        exact ⟨.agg ((ys.drop o).take k).toArray, by simp [loadVar, run_isAgg_agg w hty.1, run_size w hty.2, hr], by simp [conc, concL_take k (concL_drop o g2)]⟩
    obtain ⟨u, hu1, hu2⟩ := hload
    refine ⟨u :: xs, ?_, concL_cons.2 ⟨_, _, hu2, h2, rfl⟩⟩
    rw [List.mapM_cons]
    have has : (asAddr (tmps.getD x undef)).run P w = .ok ⟨c, o, none⟩ w := by rw [hxe']; simp [asAddr]
    simp only [Sem.run_bind, has, Sem.run_pure, Result.andThen_ok, hu1, h1]
theorem conc_pack {vs : List V} {xs : List Value} (hv : concL R vs = some xs) : conc R (packR vs) = some (if h : xs.toArray.size = 1 then xs.toArray[0] else .tuple xs.toArray) := by
  match vs, xs, hv with
  | [], xs, hv => simp [concL] at hv; subst hv; simp [packR, conc, concL]
  | [v], xs, hv =>
    obtain ⟨x, ys, h1, h2, rfl⟩ := concL_cons.1 hv
    simp [concL] at h2; subst h2
    simpa [packR] using h1
  | v :: v' :: vs, xs, hv =>
    obtain ⟨x, ys, h1, h2, rfl⟩ := concL_cons.1 hv
    obtain ⟨x', ys', h1', h2', rfl⟩ := concL_cons.1 h2
    simp [packR, conc, hv]
theorem run_results {fn : Func} {t : List V} {tmps : Array Value} {ms : List ResV} {vs : List V} (hs : Sim P allB R h.get w) (ht : concL R t = some tmps.toList) (ho : okRes P fn.results.toList ms = true)
    (hr : resultsOf t h ms = some vs) : ∃ x, (results fn tmps).run P w = .ok x w ∧ conc R (packR vs) = some x := by
  obtain ⟨xs, h1, h2⟩ := res_one hs ht ho hr
  refine ⟨_, ?_, conc_pack h2⟩
  unfold results
  rw [Array.mapM_eq_mapM_toList]
  simp only [Sem.run_bind, Sem.run_map, Functor.map_map, Sem.run_pure]
  erw [h1]
  rfl
theorem Sim.took {D : Nat} {o : Obj} (hs : Sim P allB R h.get w) (hD : ∀ b sz, R b ≠ some (D, sz)) : Sim P allB R h.get (w.putObj D o) :=
  ⟨fun b c sz x hF hb hx => (hs.blk b c sz x hF hb hx).mono P R.le_refl (World.putObj_heap_other (fun e => hD b sz (e ▸ hb))), hs.inj, fun b c sz hb => by simpa using hs.lt b c sz hb, hs.fix⟩
theorem Fwd.took {D : Nat} {o : Obj} {l : List Nat} (f : Fwd R R' h h' w w' l) (hD : w.heap.size ≤ D) : Fwd R R' h h' w (w'.putObj D o) l :=
  ⟨f.le, f.log, f.nx, by simpa using f.size, f.new, f.same, fun c hc hl => by rw [World.putObj_heap_other (by omega)]; exact f.frame c hc hl, f.own, f.io.trans ⟨rfl, rfl, rfl⟩⟩
theorem leavesM {F : Fence} {n : Nat} {fn : Func} {tmps : Array Value} {K : Ending → World → Prop} {D0 : List Deferred} {l : List Nat} {u : FrameMode} (hu : u ≠ .run) :
    ∀ {ms : List Deferred} {w' : World}, Fwd R R' h h' w w' l → Sim P allB R' h'.get w' → Marks w.heap.size R' w' ms →
      (∀ w'', Fwd R R' h h' w w'' l → Sim P allB R' h'.get w'' → LeavesInM F n P fn tmps K D0 u w'') → LeavesInM F n P fn tmps K (ms ++ D0) u w'
  | [], w', f, hs, _, k => k w' f hs
  | d :: ds, w', f, hs, ⟨⟨D, h1, h2, h3, h4, h5, h6⟩, hm⟩, k => by
    refine ⟨hu, .inl ⟨D, w'.putObj D (.deferred none), by rw [h1], run_takeDeferred h4, ?_⟩⟩
    exact leavesM hu (f.took h2) (hs.took h5) (hm.took h6) k
theorem leaves {F : Fence} {n : Nat} {fn : Func} {t : List V} {tmps : Array Value} {ms : List ResV} {vs : List V} {l : List Nat} (ho : okRes P fn.results.toList ms = true) (ht : concL R' t = some tmps.toList)
    (hr : resultsOf t h' ms = some vs) {ds : List Deferred} {w' : World} (f : Fwd R R' h h' w w' l) (hs : Sim P allB R' h'.get w') (hm : MarksOn [] w.heap.size R' w' ds) :
      LeavesInM F n P fn tmps (PostR P allB R h w (.ok (packR vs) h')) ds .returning w' := by
  obtain ⟨ms, rfl, hm⟩ := hm
  refine leavesM (by simp) f hs hm fun w'' f hs => ?_
  obtain ⟨x, h1, h2⟩ := run_results hs ht ho hr
  exact ⟨x, h1, R', l, f, hs, h2⟩
theorem leavesP {F : Fence} {n : Nat} {fn : Func} {tmps : Array Value} {v : V} {x : Value} {l : List Nat} (hx : conc R' v = some x) {ds : List Deferred} {w' : World} (f : Fwd R R' h h' w w' l)
    (hs : Sim P allB R' h'.get w') (hm : MarksOn [] w.heap.size R' w' ds) : LeavesInM F n P fn tmps (PostR P allB R h w (.pan v h')) ds (.panicking [{ v := x, recovered := false }]) w' := by
  obtain ⟨ms, rfl, hm⟩ := hm
  refine leavesM (by simp) f hs hm fun w'' f hs => ?_
  exact ⟨x, rfl, R', l, f, hs, hx⟩
def RL.Gives (r : RL) (o : Out) (t' : List V) (h' : H) : Prop := match r with
  | .ok t h => o = .norm ∧ t' = t ∧ h' = h
  | .pan v t h => o = .pan v ∧ t' = t ∧ h' = h
  | .fail => False
theorem ops_wp {call : V → List V → H → RO} {ops : Array Oper} {n : Nat} {ro : Option Nat} {Q : Exit → Act → World → Prop} {D0 : List Deferred} {o : Out} {tail : List Nat} (hc : CallSnd P call) (hk : KeepC call) :
    ∀ (L : List Oper) (l : List O) (i : Nat) (t : List V) (h : H) (R : Emb) (w : World) (a : Act), (∀ j, j < L.length → ops[i + j]? = L[j]?) → okOps P ops L l = true → (runOps call l t h).Gives o t' h' →
      Sim P allB R h.get w → Fresh R h h' → WF h → concL R t = some a.tmps.toList → MarksOn D0 m R w a.defers →
      (∀ a' w', PostA P D0 m R h w t' h' a' w' → a'.defers = a.defers → o = .norm → wpOpsIn (Wd ro) n P ops Q tail a' w') →
      (∀ v x a' w', o = .pan v → PostE P D0 m R h w o t' h' (.panic [{ v := x, recovered := false }]) a' w' → a'.defers = a.defers → Q (.panic [{ v := x, recovered := false }]) a' w') →
      wpOpsIn (Wd ro) n P ops Q (List.range' i L.length ++ tail) a w
  | [], [], i, t, h, R, w, a, _, _, he, hs, hfr, hw, ht, hm, hQ, _ => by
    obtain ⟨rfl, rfl, rfl⟩ := he
    exact hQ a w (.here rfl hs ht hm) rfl rfl
  | [], _ :: _, _, _, _, _, _, _, _, ho, _, _, _, _, _, _, _, _ => by simp [okOps] at ho
  | _ :: _, [], _, _, _, _, _, _, _, ho, _, _, _, _, _, _, _, _ => by simp [okOps] at ho
  | o1 :: L, ao :: l, i, t, h, R, w, a, hL, ho, he, hs, hfr, hw, ht, hm, hQ, hP => by
    simp only [okOps, okO, Bool.and_eq_true] at ho
    obtain ⟨⟨⟨hdst, hg⟩, hop⟩, ho⟩ := ho
    have hi : ops[i]? = some o1 := by simpa using hL 0 (by simp)
    have hL' : ∀ j, j < L.length → ops[i + 1 + j]? = L[j]? := fun j hj => by
      have := hL (j + 1) (by simp; omega)
      rw [show i + 1 + j = i + (j + 1) by omega]
      simpa using this
    simp only [List.length_cons, List.range'_succ, List.cons_append, wpOpsIn, hi]
    rw [wanted_iff hg ht]
    simp only [runOps] at he
    have gives : ∀ {t1 : List V} {h1 : H}, (runOps call l t1 h1).Gives o t' h' → Keep h1 h' := by
      intro t1 h1 hg
      cases hr : runOps call l t1 h1 with
      | fail => rw [hr] at hg; exact hg.elim
      | ok t2 h2 => rw [hr] at hg; obtain ⟨_, _, rfl⟩ := hg; exact runOps_keep hk l _ _ _ _ (.inl hr)
      | pan v t2 h2 => rw [hr] at hg; obtain ⟨_, _, rfl⟩ := hg; exact runOps_keep hk l _ _ _ _ (.inr ⟨v, hr⟩)
    cases hwt : wants ao.g t with
    | true =>
      simp only [hwt] at he
      simp only [if_true]
      cases hev : evA call ao.op t h with
      | fail => simp only [hev] at he; exact he.elim
      | ok v h1 =>
        simp only [hev] at he
        have k1 := (evA_does hk hev).1
        have k2 := gives he
        refine op_wp hc hop (envOk_of ht) hs (F := allB) ?_ (hfr.left k2.nx) hw hev RO.gives_ok ?_ ?_
        · cases reads ao.op t <;> simp [FootOk, allB]
        · rintro v' x w1 hv ⟨R1, l1, q1, q2, q3⟩
          simp only [RO.ok.injEq] at hv
          obtain ⟨rfl, _⟩ := hv
          refine ops_wp hc hk L l (i + 1) _ h1 R1 w1 _ hL' ho he q2 (hfr.right q1) (k1.wf hw) (put_tmps hdst (concL_mono q1.le _ _ ht) q3) (by rw [put_defers]; exact hm.fwd q1) ?_ ?_
          · exact fun a' w' hp hd => hQ a' w' (hp.step q1) (by rw [hd, put_defers])
          · exact fun v x a' w' ho hp hd => hP v x a' w' ho (hp.step q1) (by rw [hd, put_defers])
        · rintro v' x w1 hv _
          cases hv
      | pan v h1 =>
        simp only [hev] at he
        obtain ⟨rfl, rfl, rfl⟩ := he
        refine op_wp hc hop (envOk_of ht) hs (F := allB) ?_ hfr hw hev RO.gives_pan ?_ ?_
        · cases reads ao.op t' <;> simp [FootOk, allB]
        · rintro v' x w1 hv _
          cases hv
        · rintro v' x w1 hv ⟨R1, l1, q1, q2, q3⟩
          simp only [RO.pan.injEq] at hv
          obtain ⟨rfl, _⟩ := hv
          exact hP v x a w1 rfl ⟨R1, l1, ⟨x, q3, rfl⟩, q1, q2, concL_mono q1.le _ _ ht, hm.fwd q1⟩ rfl
    | false =>
      simp only [hwt] at he
      simp only [Bool.false_eq_true, if_false]
      refine ⟨fun _ _ => trivial, ?_⟩
      refine ops_wp hc hk L l (i + 1) _ h R w _ hL' ho he hs hfr hw (put_tmps hdst ht (conc_undef R)) (by rw [put_defers]; exact hm) ?_ ?_
      · exact fun a' w' hp hd => hQ a' w' hp (by rw [hd, put_defers])
      · exact fun v x a' w' ho hp hd => hP v x a' w' ho hp (by rw [hd, put_defers])
end
end Go.Air
namespace Go.Air
section
variable {P : Program} {tbl : Tb} {R R1 R' : Emb} {h h1 h' : H} {w w1 w' : World} {t t' : List V} {a : Act} {v : V} {m : Nat}
def Snd (P : Program) (r : C → List V → H → RC) : Prop :=
  ∀ (c : Code) (ac : C) (t : List V) (h : H) (o : Out) (t' : List V) (h' : H) (R : Emb) (w : World) (a : Act) (D0 : List Deferred) (m n : Nat) (ro : Option Nat),
    r ac t h = .ok o t' h' → okC P c ac = true → Sim P allB R h.get w → Fresh R h h' → WF h → concL R t = some a.tmps.toList → MarksOn D0 m R w a.defers → m ≤ w.heap.size → Around R h ro →
    c.wpIn (Wd ro) n P (fun e a' w' => PostE P D0 m R h w o t' h' e a' w' ∧ (flat ac = true → a'.defers = a.defers)) a w
def DrawSnd (P : Program) (call : V → List V → H → RO) : Prop :=
  ∀ (ops : Array Oper) (l : List O) (crit : List (Nat × Nat)) (t : List V) (h : H) (t' : List V) (h' : H) (f : List Foot) (R : Emb) (w : World) (a : Act) (D0 : List Deferred) (m n : Nat) (ro : Option Nat)
    (Q : Exit → Act → World → Prop) (order : Nat), okOps P ops ops.toList l = true → okDraw ops l crit = true → runDraw call l t h [] = .ok t' h' f → critOk f crit = true →
    Sim P allB R h.get w → Fresh R h h' → WF h → concL R t = some a.tmps.toList → MarksOn D0 m R w a.defers → (∀ a' w', PostA P D0 m R h w t' h' a' w' → Q .normal a' w') →
    wpOpsIn (Wd ro) n P ops Q (Region.schedule (P.follows .mixedOrders) ops order) a w
theorem concL_pad {l : List V} {vs : List Value} (hl : concL R l = some vs) (n : Nat) : concL R (pad l n) = some (vs.toArray ++ Array.replicate (n - vs.toArray.size) undef).toList := by
  have e := concL_length hl
  unfold pad
  rw [concL_append hl (concL_replicate (conc_undef R) _)]
  simp [e]
theorem okFI_inv {k : Nat} {fi : FI} (hok : okFI P k fi = true) : ∃ fn c, P.funcs[k]? = some fn ∧ fn.body = some c ∧ fn.ntmps = fi.ntmps ∧ (fn.name == "runtime.NumGoroutine") = false ∧ okRes P fn.results.toList fi.res = true ∧ okBody P c fi = true := by
  unfold okFI at hok
  split at hok <;> try simp at hok
  rename_i fn hfn
  obtain ⟨⟨⟨h1, h2⟩, h3⟩, h4⟩ := hok
  split at h4 <;> try simp at h4
  rename_i c hc
  exact ⟨fn, c, hfn, hc, h1, by simpa using h2, h3, h4⟩
def PrimOk (P : Program) (pr : Prims) (g : Nat) (fi : FI) : Prop := ∃ m n, fi = primFI m n ∧ ∀ (args : List V) (h : H) (v : V) (ob : Option Blk) (R : Emb) (w : World) (vs : List Value),
  pr n (pad args m) h = some (v, ob) → Sim P allB R h.get w → Fresh R h (h.newO ob) → WF h → concL R args = some vs →
  (callFunc g vs.toArray).run P w = .ok (.enter g vs.toArray) w ∧ ∀ ro k, CallsIn (Wd ro) k P g vs.toArray w (PostR P allB R h w (.ok v (h.newO ob)))
def ExtOk (P : Program) (pr : Prims) (g : Nat) (fi : FI) : Prop := ∃ m n, fi = primFI m n ∧ ∀ (args : List V) (h : H) (v : V) (ob : Option Blk) (R : Emb) (w : World) (vs : List Value),
  pr n (pad args m) h = some (v, ob) → Sim P allB R h.get w → Fresh R h (h.newO ob) → WF h → concL R args = some vs →
  ∃ x w', (callFunc g vs.toArray).run P w = .ok (.value x) w' ∧ PostV P allB R h w v (h.newO ob) x w'
def FnOk (P : Program) (tbl : Tb) (k : Nat) (fi : FI) : Prop := okFI P k fi = true ∨ PrimOk P tbl.pr k fi ∨ tbl.ext k = true ∧ ExtOk P tbl.pr k fi
theorem E_seq {k : Nat} {a b : C} {o : Out} (he : E tbl k (.seq a b) t h = .ok o t' h') : ∃ j, j < k ∧ ((∃ t1 h1, E tbl j a t h = .ok .norm t1 h1 ∧ E tbl j b t1 h1 = .ok o t' h') ∨ (E tbl j a t h = .ok o t' h' ∧ ∀ (x : Unit), o ≠ .norm)) := by
  cases k with
  | zero => cases he
  | succ k =>
    simp only [E, stepC] at he
    refine ⟨k, by omega, ?_⟩
    split at he
    · rename_i t1 h1 q
      exact .inl ⟨t1, h1, q, he⟩
    · rename_i hne
      refine .inr ⟨he, fun _ e => ?_⟩
      subst e
      exact hne _ _ he
theorem E_ops {k : Nat} {l : List O} {o : Out} (he : E tbl k (.ops l) t h = .ok o t' h') : ∃ j, j < k ∧ (runOps (callV tbl (E tbl j)) l t h).Gives o t' h' := by
  cases k with
  | zero => cases he
  | succ k =>
    simp only [E, stepC] at he
    refine ⟨k, by omega, ?_⟩
    cases hr : runOps (callV tbl (E tbl k)) l t h with
    | fail => simp only [hr, reduceCtorEq] at he
    | ok t1 h1 => simp only [hr, RC.ok.injEq] at he; exact ⟨he.1.symm, he.2.1.symm, he.2.2.symm⟩
    | pan v t1 h1 => simp only [hr, RC.ok.injEq] at he; exact ⟨he.1.symm, he.2.1.symm, he.2.2.symm⟩
theorem E_prim {k n : Nat} {o : Out} (he : E tbl k (.prim n) t h = .ok o t' h') : ∃ v ob, tbl.pr n t h = some (v, ob) ∧ o = .ret ∧ t' = [v] ∧ h' = h.newO ob := by
  cases k with
  | zero => cases he
  | succ k =>
    simp only [E, stepC] at he
    split at he <;> simp only [RC.ok.injEq, reduceCtorEq] at he
    rename_i v ob hv
    exact ⟨v, ob, hv, he.1.symm, he.2.1.symm, he.2.2.symm⟩
theorem finish_inv {fi : FI} {r : RO} (he : finish fi t h = r) (hg : r.Gives h') : ∃ ls, resultsOf t h fi.res = some ls ∧ r = .ok (packR ls) h ∧ h' = h := by
  unfold finish at he
  split at he
  · rename_i ls hl
    subst he
    exact ⟨ls, hl, rfl, hg⟩
  · subst he
    exact hg.elim
theorem prim_inv {k g m n : Nat} {first caps args : List V} {r : RO} (hg : tbl g = some (primFI m n)) (he : callV tbl (E tbl k) (.fn g first caps) args h = r) (hgv : r.Gives h') :
    ∃ v ob, tbl.pr n (pad (first ++ args ++ caps) m) h = some (v, ob) ∧ r = .ok v (h.newO ob) ∧ h' = h.newO ob := by
  simp only [callV, hg, primFI] at he
  cases hrun : E tbl k (.prim n) (pad (first ++ args ++ caps) m) h with
  | fail => simp only [hrun] at he; subst he; exact hgv.elim
  | ok o t1 h1 =>
    obtain ⟨v, ob, q1, rfl, rfl, rfl⟩ := E_prim hrun
    simp only [hrun] at he
    obtain ⟨ls, q2, rfl, rfl⟩ := finish_inv he hgv
    simp only [resultsOf, resultOf, nth, Option.map_some, Option.some.injEq] at q2
    subst q2
    exact ⟨v, ob, q1, rfl, rfl⟩
theorem prim_snd {k g : Nat} {fi : FI} {first caps args : List V} {f1 c1 vs : List Value} {r : RO} (hg : tbl g = some fi) (hp : PrimOk P tbl.pr g fi)
    (he : callV tbl (E tbl k) (.fn g first caps) args h = r) (hgv : r.Gives h') (hs : Sim P allB R h.get w) (hfr : Fresh R h h') (hw : WF h) (hf : concL R first = some f1) (hcp : concL R caps = some c1) (hv : concL R args = some vs) :
    (callFunc g (f1.toArray ++ vs.toArray ++ c1.toArray)).run P w = .ok (.enter g (f1.toArray ++ vs.toArray ++ c1.toArray)) w ∧
    ∀ ro n, CallsIn (Wd ro) n P g (f1.toArray ++ vs.toArray ++ c1.toArray) w (PostR P allB R h w r) := by
  obtain ⟨m, n, rfl, hp⟩ := hp
  obtain ⟨v, ob, q1, rfl, rfl⟩ := prim_inv hg he hgv
  have hall : concL R (first ++ args ++ caps) = some (f1 ++ vs ++ c1) := concL_append (concL_append hf hv) hcp
  have e : (f1 ++ vs ++ c1).toArray = f1.toArray ++ vs.toArray ++ c1.toArray := by simp
  obtain ⟨p1, p2⟩ := hp _ h v ob R w _ q1 hs hfr hw hall
  rw [e] at p1 p2
  exact ⟨p1, p2⟩
theorem ext_snd {k g : Nat} {fi : FI} {first caps args : List V} {f1 c1 vs : List Value} {r : RO} (hg : tbl g = some fi) (hp : ExtOk P tbl.pr g fi)
    (he : callV tbl (E tbl k) (.fn g first caps) args h = r) (hgv : r.Gives h') (hs : Sim P allB R h.get w) (hfr : Fresh R h h') (hw : WF h) (hf : concL R first = some f1) (hcp : concL R caps = some c1) (hv : concL R args = some vs) :
    ∃ x w', (callFunc g (f1.toArray ++ vs.toArray ++ c1.toArray)).run P w = .ok (.value x) w' ∧ ∃ v, r = .ok v h' ∧ PostV P allB R h w v h' x w' := by
  obtain ⟨m, n, rfl, hp⟩ := hp
  obtain ⟨v, ob, q1, rfl, rfl⟩ := prim_inv hg he hgv
  have hall : concL R (first ++ args ++ caps) = some (f1 ++ vs ++ c1) := concL_append (concL_append hf hv) hcp
  have e : (f1 ++ vs ++ c1).toArray = f1.toArray ++ vs.toArray ++ c1.toArray := by simp
  obtain ⟨x, w', p1, p2⟩ := hp _ h v ob R w _ q1 hs hfr hw hall
  rw [e] at p1
  exact ⟨x, w', p1, v, rfl, p2⟩
theorem ops_wpS {call : V → List V → H → RO} {ops : Array Oper} {n : Nat} {Q : Exit → Act → List Frame → World → Prop} {cs : List Frame} {o : Out} {D0 : List Deferred} (hk : KeepC call) :
    ∀ (L : List Oper) (l : List O) (i : Nat) (t : List V) (h : H) (R : Emb) (w : World) (a : Act), (∀ j, j < L.length → ops[i + j]? = L[j]?) → okOps P ops L l = true → l.all (fun a => !isCall a.op) = true →
      (runOps call l t h).Gives o t' h' → Sim P allB R h.get w → Fresh R h h' → WF h → concL R t = some a.tmps.toList → MarksOn D0 m R w a.defers →
      (∀ a' w', PostA P D0 m R h w t' h' a' w' → a'.defers = a.defers → o = .norm → Q .normal a' cs w') →
      (∀ v x a' w', o = .pan v → PostE P D0 m R h w o t' h' (.panic [{ v := x, recovered := false }]) a' w' → a'.defers = a.defers → Q (.panic [{ v := x, recovered := false }]) a' cs w') →
      wpOpsSIn (Wd none) n P ops Q (List.range' i L.length) a cs w
  | [], [], i, t, h, R, w, a, _, _, _, he, hs, hfr, hw, ht, hm, hQ, _ => by
    obtain ⟨rfl, rfl, rfl⟩ := he
    exact hQ a w (.here rfl hs ht hm) rfl rfl
  | [], _ :: _, _, _, _, _, _, _, _, ho, _, _, _, _, _, _, _, _, _ => by simp [okOps] at ho
  | _ :: _, [], _, _, _, _, _, _, _, ho, _, _, _, _, _, _, _, _, _ => by simp [okOps] at ho
  | o1 :: L, ao :: l, i, t, h, R, w, a, hL, ho, hnc, he, hs, hfr, hw, ht, hm, hQ, hP => by
    simp only [okOps, okO, Bool.and_eq_true] at ho
    obtain ⟨⟨⟨hdst, hg⟩, hop⟩, ho⟩ := ho
    simp only [List.all_cons, Bool.and_eq_true] at hnc
    obtain ⟨hnc1, hnc⟩ := hnc
    have hi : ops[i]? = some o1 := by simpa using hL 0 (by simp)
    have hL' : ∀ j, j < L.length → ops[i + 1 + j]? = L[j]? := fun j hj => by
      have := hL (j + 1) (by simp; omega)
      rw [show i + 1 + j = i + (j + 1) by omega]
      simpa using this
    simp only [List.length_cons, List.range'_succ, wpOpsSIn, hi]
    refine ⟨fun _ _ => trivial, ?_⟩
    rw [wanted_iff hg ht]
    simp only [runOps] at he
    have gives : ∀ {t1 : List V} {h1 : H}, (runOps call l t1 h1).Gives o t' h' → Keep h1 h' := by
      intro t1 h1 hg
      cases hr : runOps call l t1 h1 with
      | fail => rw [hr] at hg; exact hg.elim
      | ok t2 h2 => rw [hr] at hg; obtain ⟨_, _, rfl⟩ := hg; exact runOps_keep hk l _ _ _ _ (.inl hr)
      | pan v t2 h2 => rw [hr] at hg; obtain ⟨_, _, rfl⟩ := hg; exact runOps_keep hk l _ _ _ _ (.inr ⟨v, hr⟩)
    cases hwt : wants ao.g t with
    | true =>
      simp only [hwt] at he
      simp only [if_true]
      cases hev : evA call ao.op t h with
      | fail => simp only [hev] at he; exact he.elim
      | ok v h1 =>
        simp only [hev] at he
        have k1 := (evA_does hk hev).1
        have k2 := gives he
        obtain ⟨dst, op, ty, pos, af, gd⟩ := o1
        obtain ⟨nx, x, w1, hr, hnx, R1, l1, q1, q2, q3⟩ := run_any (dst := dst) (ty := ty) (pos := pos) (af := af) (gd := gd) hop (fun f xs e => by rw [e] at hnc1; simp [isCall] at hnc1) (envOk_of ht) hs
          (by cases reads ao.op t <;> simp [FootOk, allB]) (hfr.left k2.nx) hev
        have next : wpOpsSIn (Wd none) n P ops Q (List.range' (i + 1) L.length) (a.put dst x) cs w1 := by
          refine ops_wpS hk L l (i + 1) _ h1 R1 w1 _ hL' ho hnc he q2 (hfr.right q1) (k1.wf hw) (put_tmps hdst (concL_mono q1.le _ _ ht) q3) (by rw [put_defers]; exact hm.fwd q1) ?_ ?_
          · exact fun a' w' hp hd => hQ a' w' (hp.step q1) (by rw [hd, put_defers])
          · exact fun v x a' w' ho hp hd => hP v x a' w' ho (hp.step q1) (by rw [hd, put_defers])
        rw [hr]
        rcases hnx with rfl | ⟨rfl, rfl⟩
        · exact next
        · exact next
      | pan v h1 =>
        simp only [hev] at he
        obtain ⟨rfl, rfl, rfl⟩ := he
        rcases evA_pan hev with ⟨y, k, u, e, q1, rfl, rfl⟩ | ⟨f, xs, e, _⟩
        · obtain ⟨dst, op, ty, pos, af, gd⟩ := o1
          simp only at hop
          rw [e] at hop
          cases op <;> try exact (Bool.false_ne_true hop).elim
          rename_i x
          have hx := envOk_of ht x y hop
          rw [q1] at hx
          obtain ⟨z, _, hxe⟩ := conc_ifc hx
          have hrun : (execOp a.eval ⟨dst, .panic x, ty, pos, af, gd⟩).run P w = .halt (.panic (a.eval x)) w := by
            simp only [execOp, Sem.run_bind, hxe, Instr.panic, run_goPanic, Result.andThen]
          rw [hrun]
          exact hP _ _ a w rfl ⟨R, [], ⟨_, hx, rfl⟩, .refl R _ w, hs, ht, hm⟩ rfl
        · rw [e] at hnc1
          simp [isCall] at hnc1
    | false =>
      simp only [hwt] at he
      simp only [Bool.false_eq_true, if_false]
      refine ops_wpS hk L l (i + 1) _ h R w _ hL' ho hnc he hs hfr hw (put_tmps hdst ht (conc_undef R)) (by rw [put_defers]; exact hm) ?_ ?_
      · exact fun a' w' hp hd => hQ a' w' hp (by rw [hd, put_defers])
      · exact fun v x a' w' ho hp hd => hP v x a' w' ho hp (by rw [hd, put_defers])
theorem runs_gives {call : V → List V → H → RO} {l : List O} {o : Out} (hk : KeepC call) (hg : (runOps call l t h).Gives o t' h') : Keep h h' := by
  cases hr : runOps call l t h with
  | fail => rw [hr] at hg; exact hg.elim
  | ok t2 h2 => rw [hr] at hg; obtain ⟨_, _, rfl⟩ := hg; exact runOps_keep hk l _ _ _ _ (.inl hr)
  | pan v t2 h2 => rw [hr] at hg; obtain ⟨_, _, rfl⟩ := hg; exact runOps_keep hk l _ _ _ _ (.inr ⟨v, hr⟩)
theorem okDst_some {d : Option Tmp} {n : Nat} (h : okDst d (some n) = true) : d = some n := by
  cases d with
  | none => exact (Bool.false_ne_true h).elim
  | some e =>
    have h : Nat.beq e n = true := h
    rw [Nat.beq_eq] at h
    rw [h]
theorem closure_snd {k : Nat} (hsnd : ∀ j, j ≤ k → Snd P (E tbl j)) (htbl : ∀ k fi, tbl k = some fi → FnOk P tbl k fi) {f v : V} {fv x : Value} {u u2 : FrameMode} (he : callD tbl (E tbl k) f v h = some h')
    (hs : Sim P allB R h.get w) (hfr : Fresh R h h') (hw : WF h) (hf : conc R f = some fv) (hv : conc R v = some x)
    (hu : ∀ (c₀ : Frame) (cs : List Frame), c₀.mode = u → (recoverD (c₀ :: cs) = some (x, { c₀ with mode := u2 } :: cs)) ∨ (recoverD (c₀ :: cs) = none ∧ x = .nilIface ∧ u2 = u)) :
    ∃ g caps, fv = .func (.func g) #[] caps ∧ (callFunc g caps).run P w = .ok (.enter g caps) w ∧ ∀ n, CallsDIn (Wd none) n P g caps u w fun e u' w' => (∃ y, e = .returned y) ∧ u' = u2 ∧ ∃ R' l, Fwd R R' h h' w w' l ∧ Sim P allB R' h'.get w' := by
  unfold callD at he
  split at he <;> try simp only [reduceCtorEq] at he
  rename_i g caps
  split at he <;> try simp only [reduceCtorEq] at he
  rename_i fi hfi
  split at he <;> try simp only [reduceCtorEq] at he
  rename_i nr hrcv
  split at he <;> try simp only [reduceCtorEq] at he
  rename_i o t1 h1 hrun
  obtain ⟨ho, rfl⟩ : (o = .norm ∨ o = .ret) ∧ h' = h1 := by
    split at he <;> simp only [Option.some.injEq, reduceCtorEq] at he
    · exact ⟨.inl rfl, he.symm⟩
    · exact ⟨.inr rfl, he.symm⟩
  obtain ⟨f1, c1, hf1, hc1, rfl⟩ := conc_fn hf
  simp only [concL, Option.some.injEq] at hf1
  subst hf1
  have hfo : okFI P g fi = true := by
    rcases htbl g fi hfi with q | ⟨m, n, rfl, _⟩ | ⟨_, m, n, rfl, _⟩
    · exact q
    · cases hrcv
    · cases hrcv
  obtain ⟨fn, c, q1, q2, q3, q4, q5, q6⟩ := okFI_inv hfo
  unfold okBody at q6
  rw [hrcv] at q6
  cases hd : fi.dfr with
  | some _ => rw [hd] at q6; simp at q6
  | none =>
    rw [hd] at q6
    simp only [Bool.and_eq_true, List.isEmpty_iff] at q6
    obtain ⟨hres, q6⟩ := q6
    rw [hres] at q5
    unfold okRcv at q6
    split at q6 <;> try simp only [reduceCtorEq] at q6
    rename_i id ops b l rest hbody
    split at q6 <;> try simp only [reduceCtorEq] at q6
    rename_i op1 L hops
    simp only [Bool.and_eq_true] at q6
    obtain ⟨⟨⟨⟨⟨⟨r1, r2⟩, r3⟩, r4⟩, r5⟩, r6⟩, r7⟩ := q6
    refine ⟨g, c1.toArray, rfl, by simp [callFunc, q1, by simpa using q4, q2], fun n => ?_⟩
    rw [hbody] at hrun
    refine callsDIn_of_wpSIn q1 q2 trivial fun c₀ cs hc₀ => ?_
    refine wpSIn_seq (wpSIn_region ?_)
    have hsz : ops.size = L.length + 1 := by
      have : ops.toList.length = ops.size := Array.length_toList
      rw [hops] at this
      simpa using this.symm
    have h0 : ops[0]? = some op1 := by rw [← Array.getElem?_toList, hops]; rfl
    rw [hsz, List.range_eq_range', List.range'_succ]
    simp only [wpOpsSIn, h0]
    refine ⟨fun _ _ => trivial, ?_⟩
    have hgd : op1.guard = none := by simpa using r3
    have hdst : op1.dst = some nr := okDst_some r2
    have hwant : ∀ y, Region.wanted op1 y = true := by intro y; simp [Region.wanted, hgd]
    rw [hwant]
    simp only [if_true]
    have hrec : ∀ (ρ : Operand → Value) (w : World), (execOp ρ op1).run P w = .ok .recover w := by
      intro ρ w
      split at r1 <;> try simp only [reduceCtorEq] at r1
      rename_i kc hk1
      split at r1 <;> try simp only [reduceCtorEq] at r1
      rename_i hk2
      simp only [execOp, hk1, resolve, hk2, Sem.run_bind, Sem.run_pure, Result.andThen_ok, invoke, builtin]
    rw [hrec]
    simp only
    have hpad := concL_pad hc1 fi.ntmps
    have ht0 : concL R (upd (pad caps fi.ntmps) nr v) = some ((({ tmps := c1.toArray ++ Array.replicate (fn.ntmps - c1.toArray.size) undef, defers := [] } : Act).put op1.dst x).tmps.toList) := by
      rw [hdst]
      simp only [Act.put, Array.toList_setIfInBounds]
      refine conc_upd _ ?_ hv
      rw [hpad, q3]
    have hmain : ∀ (cs' : List Frame), (cs' = { c₀ with mode := u2 } :: cs) →
        wpOpsSIn (Wd none) n P ops (Exit.thenS (b.wpSIn (Wd none) n P (bodyPostS P fn c₀ cs fun e u' w' => (∃ y, e = .returned y) ∧ u' = u2 ∧ ∃ R' l, Fwd R R' h h' w w' l ∧ Sim P allB R' h'.get w'))
          (bodyPostS P fn c₀ cs fun e u' w' => (∃ y, e = .returned y) ∧ u' = u2 ∧ ∃ R' l, Fwd R R' h h' w w' l ∧ Sim P allB R' h'.get w')) (List.range' (0 + 1) L.length)
          (({ tmps := c1.toArray ++ Array.replicate (fn.ntmps - c1.toArray.size) undef, defers := [] } : Act).put op1.dst x) cs' w := by
      rintro cs' rfl
      obtain ⟨j, hj, hseq⟩ := E_seq hrun
      have hkeep := E_keep (tbl := tbl) j
      have hL : ∀ i, i < L.length → ops[0 + 1 + i]? = L[i]? := by
        intro i hi
        rw [← Array.getElem?_toList, hops, show 0 + 1 + i = i + 1 by omega]
        rfl
      have hnil : MarksOn [] w.heap.size R w (({ tmps := c1.toArray ++ Array.replicate (fn.ntmps - c1.toArray.size) undef, defers := [] } : Act).put op1.dst x).defers := by rw [put_defers]; exact .nil
      rcases hseq with ⟨t2, h2, e1, e2⟩ | ⟨e1, hne⟩
      · obtain ⟨i, hi, hops1⟩ := E_ops e1
        have k2 := hkeep _ _ _ _ _ _ e2
        have k1 := hkeep _ _ _ _ _ _ e1
        refine ops_wpS (callV_keep (E_keep i)) L l (0 + 1) _ h R w _ hL r4 r5 hops1 hs (hfr.left k2.nx) hw ht0 hnil ?_ ?_
        · rintro a' w' ⟨R1, l1, _, f1, s1, ht1, hm1⟩ hd' _
          simp only [Exit.thenS]
          refine wpSIn_of_wpIn rfl ?_
          have hda : a'.defers = [] := by rw [hd', put_defers]
          refine wpIn_mono (hsnd j (by omega) b rest t2 h2 o t1 h' R1 w' a' [] w.heap.size n none e2 r6 s1 (hfr.right f1) (k1.wf hw) ht1 hm1 f1.size trivial) ?_
          rintro e a2 w2 ⟨⟨R2, l2, hx2, f2, s2, ht2, hm2⟩, hflat⟩
          have hd2 : a2.defers = [] := by rw [hflat r7, hda]
          obtain ⟨y, y1, _⟩ := run_results (fn := fn) (ms := []) (vs := []) s2 ht2 q5 rfl
          rcases ho with rfl | rfl
          · obtain rfl := hx2
            exact ⟨hd2, u2, rfl, y, y1, ⟨y, rfl⟩, rfl, R2, _, f1.trans f2, s2⟩
          · obtain rfl := hx2
            exact ⟨hd2, u2, rfl, y, y1, ⟨y, rfl⟩, rfl, R2, _, f1.trans f2, s2⟩
        · intro v x a' w' hv' _ _
          cases hv'
      · rcases ho with rfl | rfl
        · exact absurd rfl (hne ())
        · obtain ⟨i, hi, hops1⟩ := E_ops e1
          cases hr : runOps (callV tbl (E tbl i)) l (upd (pad caps fi.ntmps) nr v) h with
          | fail => rw [hr] at hops1; exact hops1.elim
          | ok t2 h2 => rw [hr] at hops1; cases hops1.1
          | pan v t2 h2 => rw [hr] at hops1; cases hops1.1
    rcases hu c₀ cs hc₀ with hrc | ⟨hrc, hx0, hu0⟩
    · rw [hrc]
      exact hmain _ rfl
    · rw [hrc]
      subst hx0 hu0
      refine hmain _ ?_
      rw [← hc₀]
theorem okPre_ops {c : Code} {l : List O} {rest : C} {x : X} (h : okPre P c (.ops l) rest x = true) : ∃ id ops b, c = .seq (.region id ops false) b ∧ okDf P ops ops.toList l x = true ∧ okC P b rest = true := by
  cases c <;> try simp [okPre] at h
  rename_i a b
  cases a <;> try simp [okPre] at h
  rename_i id ops d
  cases d <;> simp [okPre] at h
  exact ⟨id, ops, b, rfl, h⟩
theorem okPre_seq {c : Code} {a' b' rest : C} {x : X} (h : okPre P c (.seq a' b') rest x = true) : ∃ a b, c = .seq a b ∧ okC P a a' = true ∧ flat a' = true ∧ okPre P b b' rest x = true := by
  cases c <;> try simp [okPre] at h
  exact ⟨_, _, rfl, h.1.1, h.1.2, h.2⟩
def AtRest (P : Program) (R : Emb) (h : H) (w : World) (x : X) (rest : C) (t0 : List V) (h0 : H) (n : Nat) (Q : Exit → Act → World → Prop) : Prop :=
  ∀ (b : Code) (R' : Emb) (l : List Nat) (a' : Act) (w' : World) (fv : Value) (g : Nat) (caps : Array Value), okC P b rest = true → Fwd R R' h h0 w w' l → Sim P allB R' h0.get w' → concL R' t0 = some a'.tmps.toList →
    conc R' (x.ev t0) = some fv → fv = .func (.func g) #[] caps → a'.defers = [{ target := .fn (.func g) caps, args := #[] }] → b.wpIn (Wd none) n P Q a' w'
theorem AtRest.step {x : X} {rest : C} {t0 : List V} {h0 : H} {n : Nat} {Q : Exit → Act → World → Prop} {l : List Nat} (q : AtRest P R h w x rest t0 h0 n Q) (f : Fwd R R1 h h1 w w1 l) : AtRest P R1 h1 w1 x rest t0 h0 n Q :=
  fun b R' l' a' w' fv g caps h1 h2 h3 h4 h5 h6 h7 => q b R' _ a' w' fv g caps h1 (f.trans h2) h3 h4 h5 h6 h7
theorem df_one {call : V → List V → H → RO} {x : X} {rest : C} {t0 : List V} {h0 : H} {n : Nat} {Q : Exit → Act → World → Prop} {ops : Array Oper} {b : Code} (hc : CallSnd P call) (hk : KeepC call) (hb : okC P b rest = true)
    (hx : ∃ g caps, x.ev t0 = .fn g [] caps) :
    ∀ (o1 : Oper) (ao : O) (i0 : Nat) (t : List V) (h : H) (R : Emb) (w : World) (a : Act), (∀ j, j < [o1].length → ops[i0 + j]? = [o1][j]?) → okDf P ops [o1] [ao] x = true →
      (runOps call [ao] t h).Gives .norm t0 h0 → Sim P allB R h.get w → Fresh R h h0 → WF h → concL R t = some a.tmps.toList → a.defers = [] → AtRest P R h w x rest t0 h0 n Q →
      wpOpsIn (Wd none) n P ops (Exit.then (b.wpIn (Wd none) n P Q) Q) (List.range' i0 [o1].length) a w := by
  intro o1 ao i0 t h R w a hL hdf hgv hs hfr hw ht hd hQ
  have hi0 : ops[i0]? = some o1 := by simpa using hL 0 (by simp)
  simp only [okDf, Bool.and_eq_true, Option.isNone_iff_eq_none] at hdf
  obtain ⟨⟨⟨⟨⟨p1, p2⟩, p3⟩, p4⟩, p5⟩, p6⟩ := hdf
  obtain ⟨dst, op, ty, pos, af, gd⟩ := o1
  simp only at p1 p2 p3
  subst p2 p3
  split at p1 <;> try simp only [reduceCtorEq] at p1
  rename_i kc
  split at p1 <;> try simp only [reduceCtorEq] at p1
  rename_i y hy
  rw [Bool.and_eq_true, Nat.beq_eq] at p1
  obtain ⟨p1, p7⟩ := p1
  split at p6 <;> try simp only [reduceCtorEq] at p6
  rename_i z hz
  obtain ⟨adst, ag, aop⟩ := ao
  simp only at p4 p5 hz
  subst p4 p5 hz
  simp only [runOps, wants, evA, putD, RL.Gives] at hgv
  obtain ⟨_, rfl, rfl⟩ := hgv
  have hfv := envOk_of ht y x p1
  obtain ⟨g, caps, hxe⟩ := hx
  have hfv' := hfv
  rw [hxe] at hfv'
  obtain ⟨f1, c1, hf1, _, hyv⟩ := conc_fn hfv'
  simp only [concL, Option.some.injEq] at hf1
  subst hf1
  have hargs : kc.args = #[] := Array.eq_empty_of_size_eq_zero p7
  have hw1 : Region.wanted (⟨none, .defer kc, ty, pos, af, none⟩ : Oper) (yielded ops a.tmps) = true := rfl
  simp only [List.length_cons, List.length_nil, Nat.zero_add, List.range'_one, wpOpsIn, hi0, hw1, if_true]
  refine ⟨fun _ _ => trivial, ?_⟩
  rw [show (Wd none).round = none from rfl, Oper.semAt_none]
  have hrun : (execOp a.eval ⟨none, .defer kc, ty, pos, af, none⟩).run P w = .ok (.defer { target := .fn (.func g) c1.toArray, args := #[] }) w := by
    simp only [execOp, resolve, hy, hargs, Array.map_empty, Sem.run_bind, hyv, Deferred.ofValue, Sem.run_pure, Result.andThen_ok, Array.append_empty]
  rw [hrun]
  simp only [Oper.uponIn, wpOpsIn, Exit.then]
  exact hQ b R [] _ w _ g c1.toArray hb (.refl R _ w) hs (by simpa [Act.put] using ht) hfv hyv (by simp [Act.put, hd])
theorem df_wp {call : V → List V → H → RO} {x : X} {rest : C} {t0 : List V} {h0 : H} {n : Nat} {Q : Exit → Act → World → Prop} {ops : Array Oper} {b : Code} (hc : CallSnd P call) (hk : KeepC call) (hb : okC P b rest = true)
    (hx : ∃ g caps, x.ev t0 = .fn g [] caps) :
    ∀ (L : List Oper) (l : List O) (i0 : Nat) (t : List V) (h : H) (R : Emb) (w : World) (a : Act), (∀ j, j < L.length → ops[i0 + j]? = L[j]?) → okDf P ops L l x = true →
      (runOps call l t h).Gives .norm t0 h0 → Sim P allB R h.get w → Fresh R h h0 → WF h → concL R t = some a.tmps.toList → a.defers = [] → AtRest P R h w x rest t0 h0 n Q →
      wpOpsIn (Wd none) n P ops (Exit.then (b.wpIn (Wd none) n P Q) Q) (List.range' i0 L.length) a w
  | [], l, i0, t, h, R, w, a, _, hdf, _, _, _, _, _, _, _ => by cases l <;> simp [okDf] at hdf
  | o1 :: L, [], i0, t, h, R, w, a, _, hdf, _, _, _, _, _, _, _ => by cases L <;> simp [okDf] at hdf
  | o1 :: L, ao :: l, i0, t, h, R, w, a, hL, hdf, hgv, hs, hfr, hw, ht, hd, hQ => by
    by_cases hlast : L = [] ∧ l = []
    · obtain ⟨rfl, rfl⟩ := hlast
      exact df_one hc hk hb hx o1 ao i0 t h R w a hL hdf hgv hs hfr hw ht hd hQ
    · have hi0 : ops[i0]? = some o1 := by simpa using hL 0 (by simp)
      have hL' : ∀ j, j < L.length → ops[i0 + 1 + j]? = L[j]? := fun j hj => by
        have := hL (j + 1) (by simp; omega)
        rw [show i0 + 1 + j = i0 + (j + 1) by omega]
        simpa using this
      have hdf' : okO P ops o1 ao = true ∧ okDf P ops L l x = true := by
        have : okDf P ops (o1 :: L) (ao :: l) x = (okO P ops o1 ao && okDf P ops L l x) := by
          cases L <;> cases l <;> first | rfl | exact absurd ⟨rfl, rfl⟩ hlast
        rw [this, Bool.and_eq_true] at hdf
        exact hdf
      obtain ⟨ho1, hdf'⟩ := hdf'
      simp only [okO, Bool.and_eq_true] at ho1
      obtain ⟨⟨hdst, hg⟩, hop⟩ := ho1
      simp only [List.length_cons, List.range'_succ, wpOpsIn, hi0]
      rw [wanted_iff hg ht]
      simp only [runOps] at hgv
      cases hwt : wants ao.g t with
      | true =>
        simp only [hwt] at hgv
        simp only [if_true]
        cases hev : evA call ao.op t h with
        | fail => simp only [hev] at hgv; exact hgv.elim
        | pan v h1 => simp only [hev] at hgv; cases hgv.1
        | ok v h1 =>
          simp only [hev] at hgv
          have k1 := (evA_does hk hev).1
          have k2 := runs_gives hk hgv
          refine op_wp hc hop (envOk_of ht) hs (F := allB) ?_ (hfr.left k2.nx) hw hev RO.gives_ok ?_ ?_
          · cases reads ao.op t <;> simp [FootOk, allB]
          · rintro v' y w1 hv ⟨R1, l1, q1, q2, q3⟩
            simp only [RO.ok.injEq] at hv
            obtain ⟨rfl, _⟩ := hv
            exact df_wp hc hk hb hx L l (i0 + 1) _ h1 R1 w1 _ hL' hdf' hgv q2 (hfr.right q1) (k1.wf hw) (put_tmps hdst (concL_mono q1.le _ _ ht) q3) (by rw [put_defers]; exact hd) (hQ.step q1)
          · rintro v' y w1 hv _
            cases hv
      | false =>
        simp only [hwt] at hgv
        simp only [Bool.false_eq_true, if_false]
        refine ⟨fun _ _ => trivial, ?_⟩
        exact df_wp hc hk hb hx L l (i0 + 1) _ h R w _ hL' hdf' hgv hs hfr hw (put_tmps hdst ht (conc_undef R)) (by rw [put_defers]; exact hd) hQ
theorem pre_wp {k : Nat} {x : X} {rest : C} {t0 : List V} {h0 : H} {n : Nat} {Q : Exit → Act → World → Prop} (hsnd : ∀ j, j ≤ k → Snd P (E tbl j)) (hcs : ∀ j, j < k → CallSnd P (callV tbl (E tbl j)))
    (hx : ∃ g caps, x.ev t0 = .fn g [] caps) :
    ∀ (j : Nat) (pre : C) (c : Code) (t : List V) (h : H) (R : Emb) (w : World) (a : Act), j ≤ k → okPre P c pre rest x = true → E tbl j pre t h = .ok .norm t0 h0 → Sim P allB R h.get w → Fresh R h h0 → WF h →
      concL R t = some a.tmps.toList → a.defers = [] → AtRest P R h w x rest t0 h0 n Q → c.wpIn (Wd none) n P Q a w := by
  intro j
  induction j using Nat.strongRecOn with
  | ind j ih =>
    intro pre c t h R w a hj hok he hs hfr hw ht hd hQ
    cases pre with
    | ops l =>
      obtain ⟨id, ops, b, rfl, hdf, hb⟩ := okPre_ops hok
      obtain ⟨i, hi, hgv⟩ := E_ops he
      refine wpIn_seq (wpIn_region ?_)
      rw [List.range_eq_range']
      exact df_wp (hcs i (by omega)) (callV_keep (E_keep i)) hb hx ops.toList l 0 t h R w a (fun j _ => by simp) hdf hgv hs hfr hw ht hd hQ
    | seq a' b' =>
      obtain ⟨ca, cb, rfl, h1, h2, h3⟩ := okPre_seq hok
      obtain ⟨i, hi, ⟨t1, h1', e1, e2⟩ | ⟨e1, hne⟩⟩ := E_seq he
      · have k1 := E_keep i _ _ _ _ _ _ e1
        have k2 := E_keep i _ _ _ _ _ _ e2
        refine wpIn_seq (wpIn_mono (hsnd i (by omega) ca a' t h .norm t1 h1' R w a [] w.heap.size n none e1 h1 hs (hfr.left k2.nx) hw ht (by rw [hd]; exact .nil) (Nat.le_refl _) trivial) ?_)
        rintro e a1 w1 ⟨⟨R1, l1, hx1, f1, s1, ht1, hm1⟩, hfl⟩
        obtain rfl := hx1
        simp only [Exit.then]
        exact ih i hi b' cb t1 h1' R1 w1 a1 (by omega) h3 e2 s1 (hfr.right f1) (k1.wf hw) ht1 (by rw [hfl h2, hd]) (hQ.step f1)
      · exact absurd rfl (hne ())
    | _ => cases c <;> simp [okPre] at hok
theorem updAll_conc : ∀ {ps : List Nat} {t : List V} {args : List V} {tmps : Array Value} {vs : List Value}, concL R t = some tmps.toList → concL R args = some vs →
    concL R (updAll t ps args) = some ((ps.zip vs).foldl (fun (tmps : Array Value) (x : Nat × Value) => tmps.setIfInBounds x.1 x.2) tmps).toList
  | [], t, args, tmps, vs, ht, _ => by simpa [updAll] using ht
  | p :: ps, t, [], tmps, vs, ht, hv => by
    simp [concL] at hv
    subst hv
    simpa [updAll] using ht
  | p :: ps, t, x :: args, tmps, vs, ht, hv => by
    obtain ⟨y, ys, h1, h2, rfl⟩ := concL_cons.1 hv
    simp only [updAll, List.zip_cons_cons, List.foldl_cons]
    refine updAll_conc ?_ h2
    rw [Array.toList_setIfInBounds]
    exact conc_upd p ht h1
theorem loop_at {b c sz : Nat} {lp : Loop} (hs : Sim P allB R h.get w) (hb : R b = some (c, sz)) (hg : h.get b = some (.loop lp)) :
    ∃ L : Go.Loop, w.heap[c]? = some (.loop L) ∧ L.state = stateOf lp.state ∧ L.pending = pendOf lp.pending ∧ concL R lp.tmps = some L.tmps.toList ∧
      L.params.toList = lp.params ∧ okC P L.assign lp.asg = true ∧ okC P L.body lp.body = true := hs.blk b c sz _ trivial hb hg
theorem put_loop {b c sz : Nat} {lp : Loop} {L : Go.Loop} (lp' : Loop) (L' : Go.Loop) (hs : Sim P allB R h.get w) (hb : R b = some (c, sz)) (hg : h.get b = some (.loop lp)) (hL : w.heap[c]? = some (.loop L))
    (h1 : L'.state = stateOf lp'.state) (h2 : L'.pending = pendOf lp'.pending) (h3 : concL R lp'.tmps = some L'.tmps.toList) (h4 : L'.params.toList = lp'.params) (h5 : okC P L'.assign lp'.asg = true) (h6 : okC P L'.body lp'.body = true) :
    Fwd R R h (h.put b (.loop lp')) w (w.putObj c (.loop L')) [b] ∧ Sim P allB R (h.put b (.loop lp')).get (w.putObj c (.loop L')) :=
  put_step hs trivial hb hg ⟨rfl, rfl, rfl⟩ (by simp) (fun d hd => World.putObj_heap_other hd) ⟨L', World.putObj_heap_same (hs.lt b c sz hb), h1, h2, h3, h4, h5, h6⟩
theorem yld_snd {r : C → List V → H → RC} (hsnd : Snd P r) (hkeep : ∀ c t h o t' h', r c t h = .ok o t' h' → Keep h h') {l c sz : Nat} {args : List V} {vs : List Value} {res : RO}
    (he : callV tbl r (.yld l) args h = res) (hgv : res.Gives h') (hs : Sim P allB R h.get w) (hfr : Fresh R h h') (hw : WF h) (hb : R l = some (c, sz)) (hv : concL R args = some vs) :
    ∃ nx, (Instr.yield c vs.toArray).run P w = .ok nx w ∧ Upon P nx w (PostR P allB R h w res) := by
  obtain ⟨v, rfl⟩ : ∃ v, res = .ok v h' := by
    rcases hgv.or with q | ⟨v, rfl⟩
    · exact q
    · exfalso
      simp only [callV] at he
      repeat' split at he
      all_goals simp at he
  simp only [callV] at he
  split at he <;> try simp at he
  rename_i lp hg
  obtain ⟨L, g1, g2, g3, g4, g5, g6, g7⟩ := loop_at hs hb hg
  split at he <;> try simp at he
  rename_i hlen
  split at he <;> try simp at he
  rename_i t1 h1 hasg
  split at he <;> try simp at he
  rename_i lp1 hg1
  split at he <;> try simp at he
  rename_i hst1
  split at he <;> try simp at he
  rename_i o t2 h2 hbody
  split at he <;> try simp at he
  rename_i lp2 hg2
  split at he <;> try simp at he
  rename_i hst2
  have hpl : L.params.size = lp.params.length := by rw [← g5]; simp
  have hvl := concL_length hv
  refine ⟨_, run_yield g1 (by simp; omega), fun ro n => ?_⟩
  have k1 := hkeep _ _ _ _ _ _ hasg
  have k2 : Keep h1 (h1.put l (.loop { lp1 with state := .busy })) := .put hg1 (fun lp _ => ⟨_, rfl⟩)
  have k3 := hkeep _ _ _ _ _ _ hbody
  obtain ⟨lp3, hh3, hfin⟩ : ∃ lp3, h' = h2.put l (.loop lp3) ∧ (o = .norm ∧ v = .b true ∧ lp3 = { lp2 with state := .ready, pending := none } ∨ (o ≠ .norm ∧ ∀ u, o ≠ .pan u) ∧ v = .b false ∧ lp3 = { lp2 with state := .done, pending := some o }) := by
    cases o <;> simp at he
    · exact ⟨_, he.2.symm, .inl ⟨rfl, he.1.symm, rfl⟩⟩
    · exact ⟨_, he.2.symm, .inr ⟨by simp, he.1.symm, rfl⟩⟩
    · exact ⟨_, he.2.symm, .inr ⟨by simp, he.1.symm, rfl⟩⟩
  have hn3 : h2.next ≤ h'.next := by rw [hh3]; simp
  have hn2 := k3.nx
  have hn1 : h1.next ≤ h'.next := Nat.le_trans (Nat.le_trans (by simp) hn2) hn3
  refine roundIn_of_wpIn (F := Wd ro) trivial ?_
  have hzip : concL R (updAll lp.tmps lp.params args) = some ((L.params.zip vs.toArray).foldl (fun tmps (t, a) => tmps.setIfInBounds t a) L.tmps).toList := by
    have := updAll_conc (R := R) (ps := lp.params) g4 hv
    rw [this, ← g5, ← Array.foldl_toList, Array.toList_zip]
  have w1 := hsnd L.assign lp.asg _ h _ t1 h1 R w { tmps := (L.params.zip vs.toArray).foldl (fun tmps (t, a) => tmps.setIfInBounds t a) L.tmps, defers := [] } [] w.heap.size n (some c) hasg g6 hs (hfr.left hn1) hw hzip .nil (Nat.le_refl _)
    ⟨l, sz, lp, hb, hw.lt hg, hg⟩
  refine wpIn_mono w1 ?_
  rintro e a1 w1 ⟨⟨R1, l1, hx1, f1, s1, ht1, hm1⟩, _⟩
  obtain rfl := hx1
  obtain ⟨L1, p1, p2, p3, p4, p5, p6, p7⟩ := loop_at s1 (f1.le _ _ hb) hg1
  have hw1 := k1.wf hw
  refine ⟨_, run_beginRound p1 (by rw [p2, hst1]; rfl), ?_⟩
  obtain ⟨f2, s2⟩ := put_loop { lp1 with state := .busy } { L1 with state := .busy } s1 (f1.le _ _ hb) hg1 p1 rfl p3 p4 p5 p6 p7
  have hfr1 := (hfr.right f1).right f2
  have w2 := hsnd L.body lp.body t1 _ o t2 h2 R1 _ a1 [] w.heap.size n (some c) hbody g7 s2 (hfr1.left hn3) (k2.wf hw1) ht1 (hm1.fwd f2) (by simpa using f1.size)
    ⟨l, sz, _, f1.le _ _ hb, by simp; exact hw1.lt hg1, by rw [H.get_put, if_pos rfl]⟩
  refine wpIn_mono w2 ?_
  rintro e a2 w3 ⟨⟨R2, l2, hx2, f3, s3, ht2, hm2⟩, _⟩
  have hb2 := f3.le _ _ (f1.le _ _ hb)
  obtain ⟨L2, r1, r2, r3, r4, r5, r6, r7⟩ := loop_at s3 hb2 hg2
  have fall := f1.trans (f2.trans f3)
  rcases hfin with ⟨rfl, rfl, rfl⟩ | ⟨hne, rfl, rfl⟩
  · obtain rfl := hx2
    obtain ⟨f4, s4⟩ := put_loop { lp2 with state := .ready, pending := none } { L2 with state := .ready, pending := none } s3 hb2 hg2 r1 rfl rfl r4 r5 r6 r7
    subst hh3
    exact ⟨_, _, run_endRound none r1, R2, _, fall.trans f4, s4, by simp [conc]⟩
  · subst hh3
    cases o with
    | norm => exact absurd rfl hne.1
    | pan u => exact absurd rfl (hne.2 u)
    | exit i =>
      obtain rfl := hx2
      obtain ⟨f4, s4⟩ := put_loop { lp2 with state := .done, pending := some (.exit i) } { L2 with state := .done, pending := some (.exit i) } s3 hb2 hg2 r1 rfl rfl r4 r5 r6 r7
      exact ⟨_, _, run_endRound (some (.exit i)) r1, R2, _, fall.trans f4, s4, by simp [conc]⟩
    | ret =>
      obtain rfl := hx2
      obtain ⟨f4, s4⟩ := put_loop { lp2 with state := .done, pending := some .ret } { L2 with state := .done, pending := some .ret } s3 hb2 hg2 r1 rfl rfl r4 r5 r6 r7
      exact ⟨_, _, run_endRound (some .ret) r1, R2, _, fall.trans f4, s4, by simp [conc]⟩
theorem guard_snd {k : Nat} (hsnd : ∀ j, j ≤ k → Snd P (E tbl j)) (hcs : ∀ j, j < k → CallSnd P (callV tbl (E tbl j))) (htbl : ∀ k fi, tbl k = some fi → FnOk P tbl k fi) {g : Nat} {fi : FI} {fn : Func} {c : Code} {pre : C} {x : X}
    {args : List V} {vs : List Value} {t0 t1 : List V} {h0 h2 : H} {o : Out} {r : RO} (q1 : P.funcs[g]? = some fn) (q2 : fn.body = some c) (q3 : fn.ntmps = fi.ntmps) (q5 : okRes P fn.results.toList fi.res = true)
    (hok : okPre P c pre fi.body x = true) (e0 : E tbl k pre (pad args fi.ntmps) h = .ok .norm t0 h0) (e1 : E tbl k fi.body t0 h0 = .ok o t1 h1)
    (ed : (match (generalizing := false) o with
      | .exit _ => none
      | .pan v => callD tbl (E tbl k) (x.ev t0) v h1
      | .norm => callD tbl (E tbl k) (x.ev t0) .in0 h1
      | .ret => callD tbl (E tbl k) (x.ev t0) .in0 h1) = some h2) (er : finish fi t1 h2 = r) (hg : r.Gives h')
    (hs : Sim P allB R h.get w) (hfr : Fresh R h h') (hw : WF h) (hv : concL R args = some vs) (n : Nat) : CallsIn (Wd none) n P g vs.toArray w (PostR P allB R h w r) := by
  obtain ⟨ls, hls, rfl, rfl⟩ := finish_inv er hg
  have hpad := concL_pad hv fi.ntmps
  have kp0 := E_keep k _ _ _ _ _ _ e0
  have kp1 := E_keep k _ _ _ _ _ _ e1
  have ed' : ∃ v, callD tbl (E tbl k) (x.ev t0) v h1 = some h' ∧ ((v = .in0 ∧ (o = .norm ∨ o = .ret)) ∨ o = .pan v) := by
    cases o with
    | exit i => cases ed
    | norm => exact ⟨_, ed, .inl ⟨rfl, .inl rfl⟩⟩
    | ret => exact ⟨_, ed, .inl ⟨rfl, .inr rfl⟩⟩
    | pan v => exact ⟨v, ed, .inr rfl⟩
  obtain ⟨v, edv, hov⟩ := ed'
  have kp2 := callD_keep (E_keep k) edv
  have hxe : ∃ g caps, x.ev t0 = .fn g [] caps := by
    have := edv
    unfold callD at this
    split at this <;> try simp only [reduceCtorEq] at this
    exact ⟨_, _, by assumption⟩
  refine callsIn_of_wp_marks (F := Wd none) q1 q2 trivial ?_
  refine pre_wp (n := n) hsnd hcs hxe k pre c _ h R w { tmps := vs.toArray ++ Array.replicate (fn.ntmps - vs.toArray.size) undef, defers := [] } (Nat.le_refl k) hok e0 hs (hfr.left (Nat.le_trans kp1.nx kp2.nx)) hw
    (by rw [hpad, q3]) rfl ?_
  intro b R1 l1 a1 w1 fv gc caps hb f1 s1 ht1 hfv hfve hd1
  have hw0 := kp0.wf hw
  have hfr0 : Fresh R1 h0 h' := hfr.right f1
  refine wpIn_mono (hsnd k (Nat.le_refl k) b fi.body t0 h0 o t1 h1 R1 w1 a1 [{ target := .fn (.func gc) caps, args := #[] }] w.heap.size n none e1 hb s1 (hfr0.left kp2.nx) hw0 ht1 (by rw [hd1]; exact .nil) f1.size trivial) ?_
  rintro e a2 w2 ⟨⟨R2, l2, hx2, f2, s2, ht2, ⟨ms, hms, hm2⟩⟩, _⟩
  have hw1 := kp1.wf hw0
  have hfr1 : Fresh R2 h1 h' := hfr0.right f2
  have hfv2 := conc_mono f2.le _ _ hfv
  have fin : ∀ (u u2 : FrameMode) (x : Value), u ≠ .run → conc R2 v = some x → settle u2 = .returning → (∀ (c₀ : Frame) (cs : List Frame), c₀.mode = u → (recoverD (c₀ :: cs) = some (x, { c₀ with mode := u2 } :: cs)) ∨ (recoverD (c₀ :: cs) = none ∧ x = .nilIface ∧ u2 = u)) →
      LeavesInM (Wd none) n P fn a2.tmps (PostR P allB R h w (.ok (packR ls) h')) a2.defers u w2 := by
    intro u u2 x hu hx hset hrec
    rw [hms]
    refine leavesM hu (f1.trans f2) s2 hm2 fun w3 f3 s3 => ?_
    obtain ⟨g', caps', e1', e2', hcl⟩ := closure_snd (u := u) (u2 := u2) hsnd htbl edv s3 hfr1 hw1 hfv2 hx hrec
    rw [hfve] at e1'
    simp only [Value.func.injEq, Fn.func.injEq, true_and] at e1'
    obtain ⟨rfl, rfl⟩ := e1'
    refine ⟨hu, .inr ⟨fun hd => by simp [Wd, Fence.wide] at hd, .func gc, caps, gc, caps, rfl, ?_, fun _ _ => trivial, ?_⟩⟩
    · simpa [invoke] using e2'
    · refine (hcl (n - 1)).mono ?_
      rintro e u' w4 ⟨⟨y, rfl⟩, rfl, R4, l4, f4, s4⟩
      simp only [hset]
      obtain ⟨z, z1, z2⟩ := run_results (fn := fn) s4 (concL_mono f4.le _ _ ht2) q5 hls
      exact ⟨z, z1, R4, _, f3.trans f4, s4, z2⟩
  rcases hov with ⟨rfl, rfl | rfl⟩ | rfl
  · obtain rfl := hx2
    exact fin .returning .returning .nilIface (by simp) (by simp [conc]) rfl fun c₀ cs hc => .inr ⟨by simp [recoverD, hc], rfl, rfl⟩
  · obtain rfl := hx2
    exact fin .returning .returning .nilIface (by simp) (by simp [conc]) rfl fun c₀ cs hc => .inr ⟨by simp [recoverD, hc], rfl, rfl⟩
  · obtain ⟨x, hx, rfl⟩ := hx2
    exact fin (.panicking [{ v := x, recovered := false }]) (.panicking [{ v := x, recovered := true }]) x (by simp) hx rfl fun c₀ cs hc => .inl (by simp [recoverD, hc])
theorem fn_snd {k : Nat} (hsnd : ∀ j, j ≤ k → Snd P (E tbl j)) (hcs : ∀ j, j < k → CallSnd P (callV tbl (E tbl j))) (htbl : ∀ k fi, tbl k = some fi → FnOk P tbl k fi) {g : Nat} {first caps args : List V} {f1 c1 vs : List Value} {r : RO}
    (hx : ∀ fi, tbl g = some fi → ¬ (tbl.ext g = true ∧ ExtOk P tbl.pr g fi)) (he : callV tbl (E tbl k) (.fn g first caps) args h = r) (hgv : r.Gives h') (hs : Sim P allB R h.get w) (hfr : Fresh R h h') (hw : WF h) (hf : concL R first = some f1) (hcp : concL R caps = some c1) (hv : concL R args = some vs) :
    (callFunc g (f1.toArray ++ vs.toArray ++ c1.toArray)).run P w = .ok (.enter g (f1.toArray ++ vs.toArray ++ c1.toArray)) w ∧
    ∀ ro n, CallsIn (Wd ro) n P g (f1.toArray ++ vs.toArray ++ c1.toArray) w (PostR P allB R h w r) := by
  have he0 := he
  simp only [callV] at he
  split at he
  case h_1 => subst he; exact hgv.elim
  rename_i fi hfi
  rcases htbl g fi hfi with hfo | hpr | hxt
  case inr.inl => exact prim_snd hfi hpr he0 hgv hs hfr hw hf hcp hv
  case inr.inr => exact absurd hxt (hx fi hfi)
  clear he0
  obtain ⟨fn, c, q1, q2, q3, q4, q5, q6⟩ := okFI_inv hfo
  refine ⟨by simp [callFunc, q1, by simpa using q4, q2], fun ro n => ?_⟩
  have hall : concL R (first ++ args ++ caps) = some (f1 ++ vs ++ c1) := concL_append (concL_append hf hv) hcp
  have e : (f1 ++ vs ++ c1).toArray = f1.toArray ++ vs.toArray ++ c1.toArray := by simp
  rw [← e]
  have hpad := concL_pad hall fi.ntmps
  show CallsIn (Wd none) n P g (f1 ++ vs ++ c1).toArray w (PostR P allB R h w r)
  unfold okBody at q6
  cases hrc : fi.rcv with
  | some nr => simp only [hrc] at he; subst he; exact hgv.elim
  | none =>
    simp only [hrc] at he q6
    cases hdf : fi.dfr with
    | some px =>
      obtain ⟨pre, x⟩ := px
      simp only [hdf] at he q6
      cases e0 : E tbl k pre (pad (first ++ args ++ caps) fi.ntmps) h with
      | fail => simp only [e0] at he; subst he; exact hgv.elim
      | ok o0 t0 h0 =>
        cases o0 <;> simp only [e0] at he <;> first | (subst he; exact hgv.elim) | skip
        cases e1 : E tbl k fi.body t0 h0 with
        | fail => simp only [e1] at he; subst he; exact hgv.elim
        | ok o t1 h1 =>
          simp only [e1] at he
          split at he
          · subst he; exact hgv.elim
          · rename_i h2 hd
            exact guard_snd hsnd hcs htbl q1 q2 q3 q5 q6 e0 e1 hd he hgv hs hfr hw hall n
    | none =>
      simp only [hdf] at he q6
      cases e1 : E tbl k fi.body (pad (first ++ args ++ caps) fi.ntmps) h with
      | fail => simp only [e1] at he; subst he; exact hgv.elim
      | ok o t1 h1 =>
        simp only [e1] at he
        have main : h' = h1 → CallsIn (Wd none) n P g (f1 ++ vs ++ c1).toArray w (PostR P allB R h w r) := by
          rintro rfl
          refine callsIn_of_wp_marks (F := Wd none) q1 q2 trivial ?_
          refine wpIn_mono (hsnd k (Nat.le_refl k) c fi.body _ h o t1 h' R w { tmps := (f1 ++ vs ++ c1).toArray ++ Array.replicate (fn.ntmps - (f1 ++ vs ++ c1).toArray.size) undef, defers := [] } [] w.heap.size n none e1 q6 hs hfr hw
            (by rw [hpad, q3]) .nil (Nat.le_refl _) trivial) ?_
          rintro e a' w' ⟨⟨R', l, hx, f, hs', ht', hm'⟩, _⟩
          cases o with
          | exit i => simp only at he; subst he; exact hgv.elim
          | norm =>
            obtain rfl := hx
            obtain ⟨ls, hls, rfl, _⟩ := finish_inv he hgv
            exact leaves q5 ht' hls f hs' hm'
          | ret =>
            obtain rfl := hx
            obtain ⟨ls, hls, rfl, _⟩ := finish_inv he hgv
            exact leaves q5 ht' hls f hs' hm'
          | pan v =>
            obtain ⟨x, hx, rfl⟩ := hx
            simp only at he
            subst he
            exact leavesP hx f hs' hm'
        cases o with
        | exit i => simp only at he; subst he; exact hgv.elim
        | norm => obtain ⟨_, _, _, hh⟩ := finish_inv he hgv; exact main hh
        | ret => obtain ⟨_, _, _, hh⟩ := finish_inv he hgv; exact main hh
        | pan v => simp only at he; subst he; exact main hgv
theorem call_snd (htbl : ∀ k fi, tbl k = some fi → FnOk P tbl k fi) : ∀ k, (∀ j, j ≤ k → Snd P (E tbl j)) → CallSnd P (callV tbl (E tbl k)) := by
  intro k
  induction k using Nat.strongRecOn with
  | ind k ih =>
    intro hsnd f args h h' r R w fv vs he hg hs hfr hw hf hv
    cases f <;> try (simp only [callV] at he; subst he; exact hg.elim)
    case fn g first caps =>
      obtain ⟨f1, c1, q1, q2, rfl⟩ := conc_fn hf
      by_cases hx : ∃ fi, tbl g = some fi ∧ tbl.ext g = true ∧ ExtOk P tbl.pr g fi
      · obtain ⟨fi, hfi, _, hxo⟩ := hx
        obtain ⟨x, w1, p1, v, rfl, p2⟩ := ext_snd hfi hxo he hg hs hfr hw q1 q2 hv
        exact ⟨.value x, w1, by simpa [Deferred.ofValue, invoke] using p1, p2⟩
      · obtain ⟨p1, p2⟩ := fn_snd hsnd (fun j hj => ih j hj fun i hi => hsnd i (by omega)) htbl (fun fi hfi h => hx ⟨fi, hfi, h⟩) he hg hs hfr hw q1 q2 hv
        exact ⟨.enter g _, w, by simpa [Deferred.ofValue, invoke] using p1, p2⟩
    case yld l =>
      obtain ⟨c, sz, q1, rfl⟩ := conc_yld hf
      obtain ⟨nx, p1, p2⟩ := yld_snd (hsnd k (Nat.le_refl k)) (E_keep k) he hg hs hfr hw q1 hv
      exact ⟨nx, w, by simpa [Deferred.ofValue, invoke] using p1, p2⟩
end
end Go.Air
namespace Go.Air
section
variable {P : Program} {tbl : Tb} {R R1 R' : Emb} {h h1 h' : H} {w w1 w' : World} {t t' : List V} {a : Act} {v : V} {m : Nat}
theorem alloc_other {o : Obj} (hs : Sim P allB R h.get w) : Fwd R R h h w (w.alloc o) [] ∧ Sim P allB R h.get (w.alloc o) := by
  refine ⟨⟨R.le_refl, rfl, Nat.le_refl _, by simp, fun _ _ _ h => .inl h, fun _ _ _ => rfl, fun c hc _ => heap_push_lt hc, fun _ hb => by simp at hb, ⟨rfl, rfl, rfl⟩⟩, ⟨?_, hs.inj, ?_, hs.fix⟩⟩
  · intro b c sz x hF hb hx
    exact (hs.blk b c sz x hF hb hx).mono P R.le_refl (heap_push_lt (hs.lt b c sz hb))
  · intro b c sz hb
    have := hs.lt b c sz hb
    simp; omega
theorem new_loop {lp : Loop} {L : Go.Loop} (hs : Sim P allB R h.get w) (hf : R h.next = none) (h1 : L.state = stateOf lp.state) (h2 : L.pending = pendOf lp.pending) (h3 : concL R lp.tmps = some L.tmps.toList)
    (h4 : L.params.toList = lp.params) (h5 : okC P L.assign lp.asg = true) (h6 : okC P L.body lp.body = true) :
    Fwd R (R.add h.next (w.heap.size, 0)) h (h.new (.loop lp)) w (w.alloc (.loop L)) [] ∧ Sim P allB (R.add h.next (w.heap.size, 0)) (h.new (.loop lp)).get (w.alloc (.loop L)) :=
  new_step hs hf fun w' hw' => ⟨L, hw', h1, h2, concL_mono (Emb.le_add hf) _ _ h3, h4, h5, h6⟩
theorem pending_case {F : Fence} {n : Nat} {K : Exit → Act → World → Prop} {p : Option Out} {j : Option Code} (hj : j = pendOf p) (hp : isPan p = false) (hK : ∀ e, exitIs (fun _ => none) (p.getD .norm) e → K e a w) :
    (match (generalizing := false) j with
    | none => K .normal a w
    | some c => c.wpIn F n P K a w) := by
  subst hj
  cases p with
  | none => exact hK _ rfl
  | some o =>
    cases o with
    | norm => exact hK _ rfl
    | exit i => exact wpIn_exit (hK _ rfl)
    | ret => exact wpIn_ret (hK _ rfl)
    | pan v => cases hp
theorem range_snd {k : Nat} (hsnd : ∀ j, j ≤ k → Snd P (E tbl j)) (hcs : ∀ j, j < k → CallSnd P (callV tbl (E tbl j))) (htbl : ∀ k fi, tbl k = some fi → FnOk P tbl k fi)
    {g : Operand} {f : X} {ps : Array Tmp} {qs : List Nat} {asg body : Code} {aasg abody : C} {n : Nat} {ro : Option Nat} {o : Out} {D0 : List Deferred}
    (he : stepC tbl (E tbl k) (.rangeF f qs aasg abody) t h = .ok o t' h') (hgf : okX g f = true) (hps : ps.toList = qs) (hasg : okC P asg aasg = true) (hbody : okC P body abody = true)
    (hs : Sim P allB R h.get w) (hfr : Fresh R h h') (hw : WF h) (ht : concL R t = some a.tmps.toList) (hm : MarksOn D0 m R w a.defers) (hmw : m ≤ w.heap.size) (har : Around R h ro) :
    (Code.rangeFunc g ps asg body).wpIn (Wd ro) n P (fun e a' w' => PostE P D0 m R h w o t' h' e a' w' ∧ (flat (.rangeF f qs aasg abody) = true → a'.defers = a.defers)) a w := by
  have hkeep := E_keep (tbl := tbl) k
  simp only [stepC] at he
  split at he <;> try simp at he
  rename_i gf first caps hfe
  split at he <;> try simp at he
  rename_i hnx
  split at he <;> try simp at he
  rename_i vr hr hcall
  split at he <;> try simp at he
  rename_i lp hlp
  split at he <;> try simp at he
  rename_i hbusy
  split at he <;> simp at he
  rename_i hnp
  obtain ⟨rfl, rfl, rfl⟩ := he
  have hg := envOk_of ht g f hgf
  rw [hfe] at hg
  obtain ⟨f1, c1, hf1, hc1, hge⟩ := conc_fn hg
  have hfn : R h.next = none := hfr h.next (Nat.le_refl _) (by
    have := (callV_keep hkeep _ _ _ _ _ (.inl hcall)).nx
    simp at this ⊢; omega)
  have hnr : h.next < hr.next := by
    have := (callV_keep hkeep _ _ _ _ _ (.inl hcall)).nx
    simp at this; omega
  obtain ⟨ms, hms, hm⟩ := hm
  have lay : ∀ fn, ∃ (l : Nat) (mark : List Deferred) (w₁ : World), (Instr.enterLoop fn a.tmps ps asg body ro).run P w = .ok (l, mark) w₁ ∧
      Fwd R (R.add h.next (l, 0)) h (h.new (.loop ⟨.ready, none, t, qs, aasg, abody⟩)) w w₁ [] ∧ Sim P allB (R.add h.next (l, 0)) (h.new (.loop ⟨.ready, none, t, qs, aasg, abody⟩)).get w₁ ∧
      MarksOn D0 m (R.add h.next (l, 0)) w₁ (mark ++ a.defers) := by
    intro fn
    cases ro with
    | none =>
      obtain ⟨f2, s2⟩ := alloc_other (o := .deferred (some [])) hs
      obtain ⟨f3, s3⟩ := new_loop (lp := ⟨.ready, none, t, qs, aasg, abody⟩) (L := { state := .ready, pending := none, fn, tmps := a.tmps, params := ps, assign := asg, body, defers := w.heap.size }) s2 hfn rfl rfl ht hps hasg hbody
      rw [World.size_alloc] at f3 s3
      refine ⟨w.heap.size + 1, _, _, run_enterLoop_outer fn a.tmps ps asg body, f2.trans f3, s3, { target := .collected w.heap.size, args := #[] } :: ms, by rw [hms]; rfl, ⟨⟨w.heap.size, rfl, hmw, by simp; omega, ?_, ?_, ?_⟩, hm.fwd (f2.trans f3)⟩⟩
      · rw [heap_push_lt (by simp)]; exact heap_push_eq
      · intro b sz hb
        simp only [Emb.add] at hb
        split at hb
        · simp at hb
        · have := hs.lt b _ sz hb
          omega
      · intro e he hee
        have : ∀ {ds : List Deferred}, Marks m R w ds → e ∈ ds → e.target = .collected w.heap.size → False := by
          intro ds
          induction ds with
          | nil => intro _ h1; simp at h1
          | cons d ds ih =>
            rintro ⟨⟨D, q1, q2, q3, _⟩, hrest⟩ hin hee
            rcases List.mem_cons.1 hin with rfl | hin
            · rw [q1] at hee
              simp at hee
              omega
            · exact ih hrest hin hee
        exact this hm he hee
    | some l₀ =>
      obtain ⟨b, sz, lp0, b1, b2, b3⟩ := har
      obtain ⟨L0, g1, _⟩ := loop_at hs b1 b3
      obtain ⟨f3, s3⟩ := new_loop (lp := ⟨.ready, none, t, qs, aasg, abody⟩) (L := { state := .ready, pending := none, fn, tmps := a.tmps, params := ps, assign := asg, body, defers := L0.defers }) hs hfn rfl rfl ht hps hasg hbody
      exact ⟨w.heap.size, [], _, run_enterLoop_inner g1 fn a.tmps ps asg body, f3, s3, ms, by rw [hms]; rfl, hm.fwd f3⟩
  refine wpIn_rangeFunc fun fn _ => ?_
  obtain ⟨l, mark, w₁, e1, f1', s1, m1⟩ := lay fn
  have hfr1 : Fresh (R.add h.next (l, 0)) (h.new (.loop ⟨.ready, none, t, qs, aasg, abody⟩)) hr := (hfr.left (h1 := hr) (by simp)).right f1'
  have hyl : concL (R.add h.next (l, 0)) [.yld h.next] = some [.func (.yield l) #[] #[]] := by simp [concL, conc, Emb.add_self]
  obtain ⟨p1, p2⟩ := fn_snd hsnd hcs htbl (fun fi _ hx => hnx hx.1) hcall RO.gives_ok s1 hfr1 ((Keep.new h _).wf hw) (concL_mono f1'.le _ _ hf1) (concL_mono f1'.le _ _ hc1) hyl
  refine ⟨l, mark, w₁, { target := .fn (.func gf) c1.toArray, args := f1.toArray ++ #[.func (.yield l) #[] #[]] }, w₁, gf, f1.toArray ++ #[.func (.yield l) #[] #[]] ++ c1.toArray, w₁, e1, ?_, fun _ _ => trivial, ?_, fun hd => by simp [Wd, Fence.wide] at hd, ?_⟩
  · have : a.eval g = .func (.func gf) f1.toArray c1.toArray := hge
    simp only [resolve, rangeCall]
    rw [this]
    simp [Deferred.ofValue, Act.eval]
  · simpa [invoke] using p1
  · refine (p2 ro (n - 1)).mono ?_
    intro e w₃ hq
    cases e with
    | panicked _ => exact hq.elim
    | outgrown => exact hq.elim
    | returned x =>
      obtain ⟨R3, l3, f3, s3, _⟩ := hq
      have hb3 : R3 h.next = some (l, 0) := f3.le _ _ Emb.add_self
      obtain ⟨L, q1, q2, q3, q4, q5, q6, q7⟩ := loop_at s3 hb3 hlp
      have hnb : L.state ≠ .busy := by
        rw [q2]
        intro e
        apply hbusy
        revert e
        cases lp.state <;> simp [stateOf]
      obtain ⟨f4, s4⟩ := put_loop { lp with state := .over } { L with state := .exhausted } s3 hb3 hlp q1 rfl q3 q4 q5 q6 q7
      have fall := f1'.trans (f3.trans f4)
      have hpost : ∀ e, exitIs (fun _ => none) (lp.pending.getD .norm) e → PostE P D0 m R h w (lp.pending.getD .norm) t (hr.put h.next (.loop { lp with state := .over })) e { a with defers := mark ++ a.defers } (w₃.putObj l (.loop { L with state := .exhausted })) :=
        fun e hx => ⟨R3, _, hx.mono (fun _ _ hb => by cases hb), fall, s4, concL_mono fall.le _ _ ht, (m1.fwd f3).fwd f4⟩
      have hnp' : isPan lp.pending = false := by simpa using hnp
      refine ⟨_, _, run_endLoop q1 hnb, ?_⟩
      exact pending_case (F := Wd ro) (n := n) (K := fun e a' w' => PostE P D0 m R h w (lp.pending.getD .norm) t (hr.put h.next (.loop { lp with state := .over })) e a' w' ∧ (flat (.rangeF f qs aasg abody) = true → a'.defers = a.defers)) q3 hnp' (fun e hx => ⟨hpost e hx, fun hf => by cases hf⟩)
theorem Marks.drew : ∀ {ds : List Deferred}, Marks m R w ds → Marks m R w.drew ds
  | [], _ => trivial
  | _ :: _, ⟨⟨D, h1, h2, h3, h4, h5, h6⟩, hs⟩ => ⟨⟨D, h1, h2, h3, h4, h5, h6⟩, hs.drew⟩
theorem okC_scope {c : Code} {ac : C} : okC P (.scope c) ac = okC P c ac := by cases ac <;> rfl
theorem MarksOn.drew {D0 : List Deferred} {ds : List Deferred} (h : MarksOn D0 m R w ds) : MarksOn D0 m R w.drew ds := let ⟨ms, e, q⟩ := h; ⟨ms, e, q.drew⟩
theorem exitIs.pass {o : Out} {e : Exit} (hx : exitIs R o e) (hn : o ≠ .norm) : e ≠ .normal := by
  cases o with
  | norm => exact absurd rfl hn
  | exit i => obtain rfl := hx; simp
  | ret => obtain rfl := hx; simp
  | pan v => obtain ⟨x, _, rfl⟩ := hx; simp
theorem step_snd {k : Nat} (ih : ∀ j, j ≤ k → Snd P (E tbl j)) (htbl : ∀ k fi, tbl k = some fi → FnOk P tbl k fi) (hdraw : ∀ call, CallSnd P call → KeepC call → DrawSnd P call) :
    Snd P (stepC tbl (E tbl k)) := by
  have ihk := ih k (Nat.le_refl _)
  have hkeep := E_keep (tbl := tbl) k
  have hcall : ∀ j, j ≤ k → CallSnd P (callV tbl (E tbl j)) := fun j hj => call_snd htbl j fun i hi => ih i (by omega)
  have hcs := hcall k (Nat.le_refl k)
  have hck := callV_keep (tbl := tbl) hkeep
  intro c
  induction c with
  | scope c ihc =>
    intro ac t h o t' h' R w a D0 m n ro he hok hs hfr hw ht hm hmw har
    rw [okC_scope] at hok
    refine wpIn_scope_straight (wpIn_mono (ihc ac t h o t' h' R w a D0 m n ro he hok hs hfr hw ht hm hmw har) ?_)
    rintro e a' w' ⟨hp, hd⟩
    obtain ⟨R', l, hx, hp⟩ := hp
    cases o with
    | pan v => obtain ⟨x, hv, rfl⟩ := hx; exact ⟨⟨R', l, ⟨x, hv, rfl⟩, hp⟩, hd⟩
    | _ => obtain rfl := hx; exact ⟨⟨R', l, rfl, hp⟩, hd⟩
  | skip =>
    intro ac t h o t' h' R w a D0 m n ro he hok hs hfr hw ht hm hmw har
    cases ac <;> try exact (Bool.false_ne_true hok).elim
    simp only [stepC, RC.ok.injEq] at he
    obtain ⟨rfl, rfl, rfl⟩ := he
    exact wpIn_skip ⟨.here rfl hs ht hm, fun _ => rfl⟩
  | label l =>
    intro ac t h o t' h' R w a D0 m n ro he hok hs hfr hw ht hm hmw har
    cases ac <;> try exact (Bool.false_ne_true hok).elim
    simp only [stepC, RC.ok.injEq] at he
    obtain ⟨rfl, rfl, rfl⟩ := he
    exact wpIn_label ⟨.here rfl hs ht hm, fun _ => rfl⟩
  | region id ops dr =>
    intro ac t h o t' h' R w a D0 m n ro he hok hs hfr hw ht hm hmw har
    cases dr with
    | false =>
      cases ac <;> try exact (Bool.false_ne_true hok).elim
      rename_i l
      have hok : okOps P ops ops.toList l = true := hok
      have hgv : (runOps (callV tbl (E tbl k)) l t h).Gives o t' h' := by
        simp only [stepC] at he
        cases hr : runOps (callV tbl (E tbl k)) l t h with
        | fail => simp only [hr, reduceCtorEq] at he
        | ok t1 h1 => simp only [hr, RC.ok.injEq] at he; exact ⟨he.1.symm, he.2.1.symm, he.2.2.symm⟩
        | pan v t1 h1 => simp only [hr, RC.ok.injEq] at he; exact ⟨he.1.symm, he.2.1.symm, he.2.2.symm⟩
      refine wpIn_region ?_
      rw [List.range_eq_range']
      have := ops_wp (tail := []) (n := n) (ro := ro) (Q := fun e a' w' => PostE P D0 m R h w o t' h' e a' w' ∧ (flat (.ops l) = true → a'.defers = a.defers)) hcs hck ops.toList l 0 t h R w a (fun j _ => by simp) hok hgv hs hfr hw ht hm
        (fun a' w' hp hd ho => by subst ho; exact ⟨hp, fun _ => hd⟩) (fun v x a' w' ho hp hd => ⟨hp, fun _ => hd⟩)
      rw [List.append_nil] at this
      exact this
    | true =>
      cases ac <;> try exact (Bool.false_ne_true hok).elim
      rename_i l crit
      have hok : (okOps P ops ops.toList l && okDraw ops l crit) = true := hok
      rw [Bool.and_eq_true] at hok
      simp only [stepC] at he
      split at he <;> try simp at he
      rename_i t1 h1 f hrun
      split at he <;> simp at he
      rename_i hcrit
      obtain ⟨rfl, rfl, rfl⟩ := he
      refine wpIn_region_draw fun order => ?_
      have hs' : Sim P allB R h.get { w with drawn := w.drawn + 1 } := hs.drew
      refine hdraw _ hcs hck ops l crit t h t1 h1 f R { w with drawn := w.drawn + 1 } a D0 m n ro _ order hok.1 hok.2 hrun hcrit hs' hfr hw ht ?_ (fun a' w' hp => ⟨?_, fun hf => by cases hf⟩)
      · exact hm.drew
      · obtain ⟨R', l', q0, q1, q2⟩ := hp
        exact ⟨R', l', q0, ⟨q1.le, q1.log, q1.nx, q1.size, q1.new, q1.same, q1.frame, q1.own, q1.io⟩, q2⟩
  | seq x y _ _ =>
    intro ac t h o t' h' R w a D0 m n ro he hok hs hfr hw ht hm hmw har
    cases ac <;> try exact (Bool.false_ne_true hok).elim
    rename_i ax ay
    have hok : (okC P x ax && okC P y ay) = true := hok
    rw [Bool.and_eq_true] at hok
    have hfl : flat (.seq ax ay) = true → flat ax = true ∧ flat ay = true := fun hf => by
      have hf : (flat ax && flat ay) = true := hf
      rwa [Bool.and_eq_true] at hf
    simp only [stepC] at he
    split at he
    · rename_i t1 h1 hrun
      have k1 := hkeep _ _ _ _ _ _ hrun
      have k2 := hkeep _ _ _ _ _ _ he
      refine wpIn_seq (wpIn_mono (ihk x ax t h _ t1 h1 R w a D0 m n ro hrun hok.1 hs (hfr.left k2.nx) hw ht hm hmw har) ?_)
      rintro e a1 w1 ⟨⟨R1, l1, hx1, f1, s1, ht1, hm1⟩, hd1⟩
      obtain rfl := hx1
      refine wpIn_mono (ihk y ay t1 h1 o t' h' R1 w1 a1 D0 m n ro he hok.2 s1 (hfr.right f1) (k1.wf hw) ht1 hm1 (Nat.le_trans hmw f1.size) (har.fwd f1 k1)) ?_
      rintro e a' w' ⟨hp, hd⟩
      exact ⟨hp.step f1, fun hf => by rw [hd (hfl hf).2, hd1 (hfl hf).1]⟩
    · rename_i hne
      refine wpIn_seq (wpIn_mono (ihk x ax t h o t' h' R w a D0 m n ro he hok.1 hs hfr hw ht hm hmw har) ?_)
      rintro e a1 w1 ⟨hp, hd⟩
      have hon : o ≠ .norm := by rintro rfl; exact absurd he (hne t' h')
      have hen : e ≠ .normal := by obtain ⟨_, _, hx, _⟩ := hp; exact hx.pass hon
      cases e <;> first | exact absurd rfl hen | exact ⟨hp, fun hf => hd (hfl hf).1⟩
  | cond x y z _ _ =>
    intro ac t h o t' h' R w a D0 m n ro he hok hs hfr hw ht hm hmw har
    cases ac <;> try exact (Bool.false_ne_true hok).elim
    rename_i ax ay az
    have hok : (okX x ax && okC P y ay && okC P z az) = true := hok
    rw [Bool.and_eq_true, Bool.and_eq_true] at hok
    obtain ⟨⟨hx, hy⟩, hz⟩ := hok
    have hfl : flat (.cond ax ay az) = true → flat ay = true ∧ flat az = true := fun hf => by
      have hf : (flat ay && flat az) = true := hf
      rwa [Bool.and_eq_true] at hf
    have hxe := envOk_of ht x ax hx
    simp only [stepC] at he
    split at he <;> try simp at he
    · rename_i hb
      rw [hb] at hxe
      refine wpIn_cond_true ?_ (wpIn_mono (ihk y ay t h o t' h' R w a D0 m n ro he hy hs hfr hw ht hm hmw har) fun e a' w' q => ⟨q.1, fun hf => q.2 (hfl hf).1⟩)
      simpa [conc, eq_comm] using hxe
    · rename_i hb
      rw [hb] at hxe
      refine wpIn_cond_false ?_ (wpIn_mono (ihk z az t h o t' h' R w a D0 m n ro he hz hs hfr hw ht hm hmw har) fun e a' w' q => ⟨q.1, fun hf => q.2 (hfl hf).2⟩)
      simpa [conc, eq_comm] using hxe
  | block i x _ =>
    intro ac t h o t' h' R w a D0 m n ro he hok hs hfr hw ht hm hmw har
    cases ac <;> try exact (Bool.false_ne_true hok).elim
    rename_i j ax
    have hok1 : (Nat.beq i j && okC P x ax) = true := hok
    rw [Bool.and_eq_true, Nat.beq_eq] at hok1
    clear hok
    obtain ⟨hij, hok⟩ := hok1
    subst hij
    simp only [stepC] at he
    split at he
    · rename_i e t1 h1 hrun
      by_cases hei : e = i
      · subst hei
        simp at he
        obtain ⟨rfl, rfl, rfl⟩ := he
        refine wpIn_block (wpIn_mono (ihk x ax t h _ t1 h1 R w a D0 m n ro hrun hok hs hfr hw ht hm hmw har) ?_)
        rintro e' a1 w1 ⟨⟨R1, l1, hx1, hp⟩, hd⟩
        obtain rfl := hx1
        simp only [Exit.inBlock, if_true]
        exact ⟨⟨R1, l1, rfl, hp⟩, hd⟩
      · rw [if_neg (by simpa using hei)] at he
        simp at he
        obtain ⟨rfl, rfl, rfl⟩ := he
        refine wpIn_block (wpIn_mono (ihk x ax t h _ t1 h1 R w a D0 m n ro hrun hok hs hfr hw ht hm hmw har) ?_)
        rintro e' a1 w1 ⟨⟨R1, l1, hx1, hp⟩, hd⟩
        obtain rfl := hx1
        simp only [Exit.inBlock, hei, if_false]
        exact ⟨⟨R1, l1, rfl, hp⟩, hd⟩
    · rename_i hne
      refine wpIn_block (wpIn_mono (ihk x ax t h o t' h' R w a D0 m n ro he hok hs hfr hw ht hm hmw har) ?_)
      rintro e a1 w1 ⟨⟨R1, l1, hx1, hp⟩, hd⟩
      cases o with
      | exit e => exact absurd he (hne e t' h')
      | norm => obtain rfl := hx1; exact ⟨⟨R1, l1, rfl, hp⟩, hd⟩
      | ret => obtain rfl := hx1; exact ⟨⟨R1, l1, rfl, hp⟩, hd⟩
      | pan v => obtain ⟨x, hv, rfl⟩ := hx1; exact ⟨⟨R1, l1, ⟨x, hv, rfl⟩, hp⟩, hd⟩
  | loop x _ =>
    intro ac t h o t' h' R w a D0 m n ro he hok hs hfr hw ht hm hmw har
    cases ac <;> try exact (Bool.false_ne_true hok).elim
    rename_i ax
    have hok : okC P x ax = true := hok
    have he' : E tbl (k + 1) (.loop ax) t h = .ok o t' h' := he
    refine wpIn_loop_rel (fun j a1 w1 => j ≤ k + 1 ∧ ∃ t1 h1 R1 l1, E tbl j (.loop ax) t1 h1 = .ok o t' h' ∧ Fwd R R1 h h1 w w1 l1 ∧ Keep h h1 ∧ Sim P allB R1 h1.get w1 ∧
      concL R1 t1 = some a1.tmps.toList ∧ MarksOn D0 m R1 w1 a1.defers ∧ (flat (.loop ax) = true → a1.defers = a.defers)) ⟨k + 1, Nat.le_refl _, t, h, R, [], he', .refl R h w, .refl h, hs, ht, hm, fun _ => rfl⟩ ?_
    rintro j a1 w1 ⟨hj, t1, h1, R1, l1, he1, f1, k1, s1, ht1, hm1, hd1⟩
    cases j with
    | zero => simp [E] at he1
    | succ j =>
      have ihj := ih j (by omega)
      have hkj := E_keep (tbl := tbl) j
      simp only [E, stepC] at he1
      split at he1
      · rename_i t2 h2 hrun
        have k2 := hkj _ _ _ _ _ _ hrun
        have k3 := hkj _ _ _ _ _ _ he1
        refine wpIn_mono (ihj x ax t1 h1 _ t2 h2 R1 w1 a1 D0 m n ro hrun hok s1 ((hfr.right f1).left k3.nx) (k1.wf hw) ht1 hm1 (Nat.le_trans hmw f1.size) (har.fwd f1 k1)) ?_
        rintro e a2 w2 ⟨⟨R2, l2, hx2, f2, s2, ht2, hm2⟩, hd2⟩
        obtain rfl := hx2
        exact ⟨j, by omega, by omega, t2, h2, R2, _, he1, f1.trans f2, k1.trans k2, s2, ht2, hm2, fun hf => by rw [hd2 hf, hd1 hf]⟩
      · rename_i hne
        refine wpIn_mono (ihj x ax t1 h1 o t' h' R1 w1 a1 D0 m n ro he1 hok s1 (hfr.right f1) (k1.wf hw) ht1 hm1 (Nat.le_trans hmw f1.size) (har.fwd f1 k1)) ?_
        rintro e a2 w2 ⟨hp, hd⟩
        have hon : o ≠ .norm := by rintro rfl; exact absurd he1 (hne t' h')
        have hen : e ≠ .normal := by obtain ⟨_, _, hx, _⟩ := hp; exact hx.pass hon
        cases e <;> first | exact absurd rfl hen | exact ⟨hp.step f1, fun hf => by rw [hd hf, hd1 hf]⟩
  | exit i =>
    intro ac t h o t' h' R w a D0 m n ro he hok hs hfr hw ht hm hmw har
    cases ac <;> try exact (Bool.false_ne_true hok).elim
    rename_i j
    have hok : Nat.beq i j = true := hok
    rw [Nat.beq_eq] at hok
    subst hok
    simp only [stepC, RC.ok.injEq] at he
    obtain ⟨rfl, rfl, rfl⟩ := he
    exact wpIn_exit ⟨.here rfl hs ht hm, fun _ => rfl⟩
  | ret =>
    intro ac t h o t' h' R w a D0 m n ro he hok hs hfr hw ht hm hmw har
    cases ac <;> try exact (Bool.false_ne_true hok).elim
    simp only [stepC, RC.ok.injEq] at he
    obtain ⟨rfl, rfl, rfl⟩ := he
    exact wpIn_ret ⟨.here rfl hs ht hm, fun _ => rfl⟩
  | rangeFunc g ps x y _ _ =>
    intro ac t h o t' h' R w a D0 m n ro he hok hs hfr hw ht hm hmw har
    cases ac <;> try exact (Bool.false_ne_true hok).elim
    rename_i f qs ax ay
    have hok : (okX g f && decide (ps.toList = qs) && okC P x ax && okC P y ay) = true := hok
    simp only [Bool.and_eq_true, decide_eq_true_eq] at hok
    obtain ⟨⟨⟨h1, h2⟩, h3⟩, h4⟩ := hok
    exact range_snd ih (fun j hj => hcall j (by omega)) htbl he h1 h2 h3 h4 hs hfr hw ht hm hmw har
  | _ =>
    intro ac t h o t' h' R w a D0 m n ro he hok
    cases ac <;> exact (Bool.false_ne_true hok).elim
theorem snd (htbl : ∀ k fi, tbl k = some fi → FnOk P tbl k fi) (hdraw : ∀ call, CallSnd P call → KeepC call → DrawSnd P call) : ∀ k j, j ≤ k → Snd P (E tbl j)
  | _, 0, _ => fun c ac t h o t' h' R w a D0 m n ro he => by simp [E] at he
  | 0, j + 1, hj => by omega
  | k + 1, j + 1, hj => step_snd (fun i hi => snd htbl hdraw k i (by omega)) htbl hdraw
end
end Go.Air
namespace Go.Air
section
variable {t t' : List V}
theorem ev_congr {x : X} (h : ∀ n ∈ xT x, nth t n = nth t' n) : x.ev t = x.ev t' := by
  cases x <;> simp only [X.ev]
  exact h _ (by simp [xT])
theorem evL_congr {xs : List X} (h : ∀ n ∈ xs.flatMap xT, nth t n = nth t' n) : xs.map (X.ev t) = xs.map (X.ev t') := by
  apply List.map_congr_left
  intro x hx
  exact ev_congr fun n hn => h n (List.mem_flatMap.2 ⟨x, hx, hn⟩)
theorem fill_congr : ∀ {ps : List (Nat × Nat × X)} {z : List V}, (∀ n ∈ ps.flatMap (fun p => xT p.2.2), nth t n = nth t' n) → fill t z ps = fill t' z ps
  | [], _, _ => rfl
  | (off, sz, x) :: ps, z, h => by
    have hx : x.ev t = x.ev t' := ev_congr fun n hn => h n (by simp [hn])
    have ih : ∀ z, fill t z ps = fill t' z ps := fun z => fill_congr fun n hn => h n (by simp only [List.flatMap_cons, List.mem_append]; exact .inr hn)
    simp only [fill, hx, ih]
theorem bounds_congr {len cap : Nat} {lo hi : Option X} (h1 : ∀ n ∈ xoT lo, nth t n = nth t' n) (h2 : ∀ n ∈ xoT hi, nth t n = nth t' n) : bounds t len cap lo hi = bounds t' len cap lo hi := by
  cases lo <;> cases hi <;> simp only [bounds]
  · rw [ev_congr h2]
  · rw [ev_congr h1]
  · rw [ev_congr h1, ev_congr h2]
theorem sliceV_congr {esz : Nat} {lo hi : Option X} {v : V} (h1 : ∀ n ∈ xoT lo, nth t n = nth t' n) (h2 : ∀ n ∈ xoT hi, nth t n = nth t' n) : sliceV esz t lo hi v = sliceV esz t' lo hi v := by
  cases v <;> simp only [sliceV, bounds_congr h1 h2]
theorem sliceV3_congr {esz : Nat} {lo hi : Option X} {m : X} {v : V} (h1 : ∀ n ∈ xoT lo, nth t n = nth t' n) (h2 : ∀ n ∈ xoT hi, nth t n = nth t' n) (h3 : ∀ n ∈ xT m, nth t n = nth t' n) :
    sliceV3 esz t lo hi m v = sliceV3 esz t' lo hi m v := by
  cases v <;> simp only [sliceV3, bounds_congr h1 h2, ev_congr h3]
theorem evA_congr {call : V → List V → H → RO} {op : A} {h : H} (hu : ∀ n ∈ uses op, nth t n = nth t' n) : evA call op t h = evA call op t' h := by
  cases op <;> simp only [uses, List.mem_append] at hu <;> simp only [evA]
  case mov x => rw [ev_congr hu]
  case pick a b c => rw [ev_congr (x := a) fun n hn => hu n (.inl (.inl hn)), ev_congr (x := b) fun n hn => hu n (.inl (.inr hn)), ev_congr (x := c) fun n hn => hu n (.inr hn)]
  case box x => rw [ev_congr hu]
  case build z ps => rw [fill_congr hu]
  case buildSl z n ps => rw [fill_congr hu]
  case ld x => rw [ev_congr hu]
  case ldn n x => rw [ev_congr hu]
  case st n a b => rw [ev_congr (x := a) fun n hn => hu n (.inl hn), ev_congr (x := b) fun n hn => hu n (.inr hn)]
  case nilck x => rw [ev_congr hu]
  case bin o a b => rw [ev_congr (x := a) fun n hn => hu n (.inl hn), ev_congr (x := b) fun n hn => hu n (.inr hn)]
  case eqv o k a b => rw [ev_congr (x := a) fun n hn => hu n (.inl hn), ev_congr (x := b) fun n hn => hu n (.inr hn)]
  case un o x => rw [ev_congr hu]
  case conv o x => rw [ev_congr hu]
  case mkI o x => rw [ev_congr hu]
  case mkFn f a c => rw [evL_congr (xs := a) fun n hn => hu n (.inl hn), evL_congr (xs := c) fun n hn => hu n (.inr hn)]
  case mkSl z n a b => rw [ev_congr (x := a) fun n hn => hu n (.inl hn), ev_congr (x := b) fun n hn => hu n (.inr hn)]
  case slc e x a b c =>
    have h1 : ∀ n ∈ xT x, nth t n = nth t' n := fun n hn => hu n (.inl (.inl (.inl hn)))
    have h2 : ∀ n ∈ xoT a, nth t n = nth t' n := fun n hn => hu n (.inl (.inl (.inr hn)))
    have h3 : ∀ n ∈ xoT b, nth t n = nth t' n := fun n hn => hu n (.inl (.inr hn))
    have h4 : ∀ n ∈ xoT c, nth t n = nth t' n := fun n hn => hu n (.inr hn)
    cases c with
    | none => simp only; rw [ev_congr h1, sliceV_congr h2 h3]
    | some m => simp only; rw [ev_congr h1, sliceV3_congr h2 h3 h4]
  case slcA n e x a b => rw [ev_congr (x := x) fun n hn => hu n (.inl (.inl hn)), bounds_congr (fun n hn => hu n (.inl (.inr hn))) fun n hn => hu n (.inr hn)]
  case slcS x a b =>
    rw [ev_congr (x := x) fun n hn => hu n (.inl (.inl hn))]
    split
    · rw [bounds_congr (fun n hn => hu n (.inl (.inr hn))) fun n hn => hu n (.inr hn)]
    · rfl
  case fld o x => rw [ev_congr hu]
  case fldv o s x => rw [ev_congr hu]
  case ixS e a b => rw [ev_congr (x := a) fun n hn => hu n (.inl hn), ev_congr (x := b) fun n hn => hu n (.inr hn)]
  case ixA m e a b => rw [ev_congr (x := a) fun n hn => hu n (.inl hn), ev_congr (x := b) fun n hn => hu n (.inr hn)]
  case ixStr a b => rw [ev_congr (x := a) fun n hn => hu n (.inl hn), ev_congr (x := b) fun n hn => hu n (.inr hn)]
  case ixV m e g a b => rw [ev_congr (x := a) fun n hn => hu n (.inl hn), ev_congr (x := b) fun n hn => hu n (.inr hn)]
  case look k z o a b => rw [ev_congr (x := a) fun n hn => hu n (.inl hn), ev_congr (x := b) fun n hn => hu n (.inr hn)]
  case mapSet k a b c => rw [ev_congr (x := a) fun n hn => hu n (.inl (.inl hn)), ev_congr (x := b) fun n hn => hu n (.inl (.inr hn)), ev_congr (x := c) fun n hn => hu n (.inr hn)]
  case ext x n => rw [ev_congr hu]
  case call f xs => rw [ev_congr (x := f) fun n hn => hu n (.inl hn), evL_congr (xs := xs) fun n hn => hu n (.inr hn)]
  case lenS x => rw [ev_congr hu]
  case lenL x => rw [ev_congr hu]
  case lenM x => rw [ev_congr hu]
  case app e b x y => rw [ev_congr (x := x) fun n hn => hu n (.inl hn), ev_congr (x := y) fun n hn => hu n (.inr hn)]
  case cpy e x y => rw [ev_congr (x := x) fun n hn => hu n (.inl hn), ev_congr (x := y) fun n hn => hu n (.inr hn)]
  case clr z x => rw [ev_congr hu]
  case min xs => rw [evL_congr hu]
  case max xs => rw [evL_congr hu]
  case panic x => rw [ev_congr hu]
  case tassert k z o x => rw [ev_congr hu]
  case s2b x => rw [ev_congr hu]
  case b2s x => rw [ev_congr hu]
  case mark x => rw [ev_congr hu]
theorem reads_congr {op : A} (hu : ∀ n ∈ uses op, nth t n = nth t' n) : reads op t = reads op t' := by
  cases op <;> simp only [uses, List.mem_append] at hu <;> simp only [reads]
  case ld x => rw [ev_congr hu]
  case ldn n x => rw [ev_congr hu]
  case st n a b => rw [ev_congr (x := a) fun n hn => hu n (.inl hn)]
  case look k z o a b => rw [ev_congr (x := a) fun n hn => hu n (.inl hn)]
  case mapSet k a b c => rw [ev_congr (x := a) fun n hn => hu n (.inl (.inl hn))]
  case lenM x => rw [ev_congr hu]
  case b2s x => rw [ev_congr hu]
  case mark x => rw [ev_congr hu]
theorem wants_congr {g : Option (Nat × Bool)} (hu : ∀ n ∈ (match g with | some (n, _) => [n] | none => []), nth t n = nth t' n) : wants g t = wants g t' := by
  cases g with
  | none => rfl
  | some p => simp only [wants]; rw [hu p.1 (by simp)]
end
theorem cls_reads {op : A} {t : List V} (h : cls op ≠ .writes) : ∃ r, reads op t = some r ∧ (cls op = .idle → r = []) := by
  cases op <;> first | (exact absurd rfl h) | exact ⟨_, rfl, fun _ => rfl⟩ | exact ⟨_, rfl, fun e => by cases e⟩
theorem cls_log {call : V → List V → H → RO} {op : A} {t : List V} {h h' : H} {v : V} (hc : cls op ≠ .writes) (he : evA call op t h = .ok v h') : h'.log = h.log := by
  have pure' : ∀ (o : Option V), RO.ofV h o = .ok v h' → h'.log = h.log := fun o ho => by rw [(ofV_ok ho).2]
  have here : ∀ u, RO.ok u h = .ok v h' → h'.log = h.log := fun u hu => by simp at hu; rw [← hu.2]
  have fresh : ∀ u x, RO.ok u (h.new x) = .ok v h' → h'.log = h.log := fun u x hu => by simp at hu; rw [← hu.2]; rfl
  cases op <;> try exact absurd rfl hc
  all_goals simp only [evA] at he
  case mov => exact here _ he
  case pick => split at he <;> first | exact here _ he | simp at he
  case alloc => exact fresh _ _ he
  case box => exact fresh _ _ he
  case build => split at he <;> first | exact here _ he | simp at he
  case buildSl => split at he <;> first | exact fresh _ _ he | simp at he
  case ld => split at he <;> try simp at he
             split at he <;> try simp at he
             exact pure' _ he
  case ldn => split at he <;> try simp at he
              split at he <;> try simp at he
              split at he <;> first | exact here _ he | simp at he
  case nilck => split at he <;> first | exact here _ he | simp at he
  case bin => exact pure' _ he
  case eqv => split at he <;> first | exact here _ he | simp at he
  case un => exact pure' _ he
  case conv => split at he <;> first | exact here _ he | simp at he
  case mkI => exact here _ he
  case mkFn => exact here _ he
  case mkMap => exact fresh _ _ he
  case mkSl => split at he <;> try simp at he
               split at he <;> first | exact fresh _ _ he | simp at he
  case slc => split at he <;> exact pure' _ he
  case slcA => split at he <;> try simp at he
               split at he <;> first | exact here _ he | simp at he
  case slcS => split at he <;> try simp at he
               split at he <;> first | exact here _ he | simp at he
  case fld => split at he <;> first | exact here _ he | simp at he
  case fldv => split at he <;> try simp at he
               split at he <;> first | exact pure' _ he | (split at he <;> first | exact here _ he | simp at he)
  case ixS => split at he <;> try simp at he
              split at he <;> first | exact here _ he | simp at he
  case ixA => split at he <;> try simp at he
              split at he <;> first | exact here _ he | simp at he
  case ixStr => split at he <;> try simp at he
                split at he <;> first | exact here _ he | simp at he
  case ixV => split at he <;> try simp at he
              split at he <;> try simp at he
              split at he <;> first | exact pure' _ he | (split at he <;> first | exact here _ he | simp at he)
  case look => split at he <;> try simp at he
               split at he <;> first | exact here _ he | simp at he
  case ext => split at he <;> first | exact pure' _ he | simp at he
  case lenS => split at he <;> first | exact here _ he | simp at he
  case lenL => split at he <;> first | exact here _ he | simp at he
  case lenC => exact here _ he
  case lenM => split at he <;> try simp only [reduceCtorEq] at he
               · exact here _ he
               · split at he <;> first | exact here _ he | simp at he
  case min => exact pure' _ he
  case max => exact pure' _ he
  case panic => split at he <;> simp at he
  case tassert =>
    split at he <;> try simp at he
    · split at he <;> first | exact here _ he | simp at he
    · split at he
      · exact here _ he
      · split at he <;> first | exact here _ he | simp at he
  case s2b => split at he <;> first | exact fresh _ _ he | simp at he
  case b2s => exact pure' _ he
  case no => simp at he
structure At (call : V → List V → H → RO) (o : O) (t : List V) (h : H) (t' : List V) (h' : H) (ft : Foot) : Prop where
  nx : h.next ≤ h'.next
  wf : WF h → WF h'
  log : h'.log = ft.wr ++ h.log
  same : ∀ b, b < h.next → b ∉ ft.wr → h'.get b = h.get b
  had : ∀ b ∈ ft.wr, b < h.next ∧ ∃ y, h.get b = some y
  sub : ∀ r, ft.rd = some r → ∀ b ∈ ft.wr, b ∈ r
  idle : cls o.op = .idle → ft = ⟨some [], []⟩
  rds : cls o.op ≠ .writes → ft.wr = [] ∧ ∃ r, ft.rd = some r
  run : (wants o.g t = true ∧ ∃ v hh, evA call o.op t ⟨h.next, h.mem, []⟩ = .ok v hh ∧ t' = putD t o.dst v ∧ h' = ⟨hh.next, hh.mem, ft.wr ++ h.log⟩ ∧ ft.rd = reads o.op t ∧ ft.wr = oldOnes h.next hh.log ∧ (WF h → WF hh)) ∨
    (wants o.g t = false ∧ t' = putD t o.dst .undef ∧ h' = h ∧ ft = ⟨some [], []⟩)
def Chain (call : V → List V → H → RO) : List O → List Foot → List V → H → List V → H → Prop
  | [], [], t, h, t', h' => t = t' ∧ h = h'
  | o :: l, ft :: fs, t, h, t', h' => ∃ t1 h1, At call o t h t1 h1 ft ∧ Chain call l fs t1 h1 t' h'
  | _, _, _, _, _, _ => False
theorem chain_of {call : V → List V → H → RO} (hk : KeepC call) : ∀ (l : List O) (t : List V) (h : H) (f : List Foot) (t' : List V) (h' : H) (f' : List Foot),
    runDraw call l t h f = .ok t' h' f' → ∃ fs, f' = f ++ fs ∧ Chain call l fs t h t' h'
  | [], t, h, f, t', h', f', he => by
    simp [runDraw] at he
    exact ⟨[], by simp [he.2.2], he.1, he.2.1⟩
  | o :: l, t, h, f, t', h', f', he => by
    simp only [runDraw] at he
    split at he
    · rename_i hwt
      split at he <;> try simp at he
      rename_i v hh hev
      obtain ⟨fs, q1, q2⟩ := chain_of hk l _ _ _ _ _ _ he
      obtain ⟨k, hsub⟩ := evA_does hk hev
      obtain ⟨w, w1, w2, w3⟩ := k.wr
      simp only [List.append_nil] at w1
      subst w1
      refine ⟨_ :: fs, by rw [q1, List.append_assoc]; rfl, _, ⟨hh.next, hh.mem, oldOnes h.next hh.log ++ h.log⟩, ⟨k.nx, ?_, rfl, ?_, ?_, ?_, ?_, ?_, .inl ⟨hwt, v, hh, hev, rfl, rfl, rfl, rfl, fun hw => k.wf ⟨hw.1, fun _ hb => by simp at hb⟩⟩⟩, q2⟩
      · intro hw
        refine ⟨(k.wf ⟨hw.1, fun _ hb => by simp at hb⟩).1, fun b hb => ?_⟩
        rcases List.mem_append.1 hb with hb | hb
        · exact Nat.lt_of_lt_of_le (oldOnes_lt hb).1 k.nx
        · exact Nat.lt_of_lt_of_le (hw.2 b hb) k.nx
      · exact fun b hb hl => w2 b hb (fun hm => hl (mem_oldOnes hb hm))
      · exact fun b hb => ⟨(oldOnes_lt hb).1, w3 b (oldOnes_lt hb).2 (oldOnes_lt hb).1⟩
      · intro r hr b hb
        obtain ⟨l', e1, e2⟩ := hsub r hr
        simp only [List.append_nil] at e1
        exact e2 b (e1 ▸ (oldOnes_lt hb).2)
      · intro hc
        obtain ⟨r, r1, r2⟩ := cls_reads (op := o.op) (t := t) (by rw [hc]; simp)
        have := cls_log (by rw [hc]; simp) hev
        simp only at this
        rw [this, r1, r2 hc]
        rfl
      · intro hc
        obtain ⟨r, r1, _⟩ := cls_reads (op := o.op) (t := t) hc
        have := cls_log hc hev
        simp only at this
        exact ⟨by rw [this]; rfl, r, r1⟩
    · rename_i hwt
      obtain ⟨fs, q1, q2⟩ := chain_of hk l _ _ _ _ _ _ he
      refine ⟨_ :: fs, by rw [q1, List.append_assoc]; rfl, _, _, ⟨Nat.le_refl _, id, rfl, fun _ _ _ => rfl, fun _ hb => by simp at hb, fun _ _ _ hb => by simp at hb, fun _ => rfl, fun _ => ⟨rfl, _, rfl⟩, .inr ⟨hwt, rfl, rfl, rfl⟩⟩, q2⟩
theorem Chain.states {call : V → List V → H → RO} : ∀ {l : List O} {fs : List Foot} {t t' : List V} {h h' : H}, Chain call l fs t h t' h' →
    fs.length = l.length ∧ ∃ (T : Nat → List V) (S : Nat → H), T 0 = t ∧ S 0 = h ∧ T l.length = t' ∧ S l.length = h' ∧
      ∀ i o ft, l[i]? = some o → fs[i]? = some ft → At call o (T i) (S i) (T (i + 1)) (S (i + 1)) ft
  | [], [], t, t', h, h', hc => ⟨rfl, fun _ => t, fun _ => h, rfl, rfl, hc.1, hc.2, fun i o ft hi => by simp at hi⟩
  | [], _ :: _, _, _, _, _, hc => hc.elim
  | _ :: _, [], _, _, _, _, hc => hc.elim
  | o :: l, ft :: fs, t, t', h, h', ⟨t1, h1, ha, hc⟩ => by
    obtain ⟨e, T, S, q1, q2, q3, q4, q5⟩ := hc.states
    refine ⟨by simp [e], fun i => match i with | 0 => t | i + 1 => T i, fun i => match i with | 0 => h | i + 1 => S i, rfl, rfl, q3, q4, ?_⟩
    intro i o' ft' hi hf
    cases i with
    | zero =>
      simp at hi hf
      subst hi hf
      simp only [q1, q2]
      exact ha
    | succ i => exact q5 i o' ft' (by simpa using hi) (by simpa using hf)
end Go.Air
namespace Go.Air
def Mem (f g : Foot) : Prop := ∀ b ∈ f.wr, (∀ r, g.rd = some r → b ∉ r) ∧ g.rd ≠ none ∧ b ∉ g.wr
structure Ind (a b : O) (f g : Foot) : Prop where
  d1 : ∀ d, a.dst = some d → d ∉ usesO b ∧ b.dst ≠ some d
  d2 : ∀ d, b.dst = some d → d ∉ usesO a
  m1 : Mem f g
  m2 : Mem g f
theorem putD_length {t : List V} {d : Option Nat} {v : V} : (putD t d v).length = t.length := by
  cases d <;> simp [putD, upd_eq]
theorem nth_putD {t : List V} {d : Option Nat} {v : V} {x : Nat} (h : d ≠ some x) : nth (putD t d v) x = nth t x := by
  cases d with
  | none => rfl
  | some d =>
    have : d ≠ x := fun e => h (by rw [e])
    simp only [putD, upd_eq, nth_eq, List.getD_eq_getElem?_getD, List.getElem?_set_ne this]
theorem nth_putD_same {t t' : List V} {v : V} {x : Nat} (h : t.length = t'.length) : nth (putD t (some x) v) x = nth (putD t' (some x) v) x := by
  simp only [putD, upd_eq, nth_eq, List.getD_eq_getElem?_getD, List.getElem?_set, h]
  by_cases hl : x < t'.length
  · simp [hl]
  · simp [hl]
section
open Classical
variable {P : Program} {call : V → List V → H → RO} (N : Nat) (o : Nat → O) (ft : Nat → Foot) (T : Nat → List V) (S : Nat → H)
def touch (i b : Nat) : Prop := b ∈ (ft i).wr ∨ ((S i).next ≤ b ∧ b < (S (i + 1)).next)
noncomputable def ver (D : Nat → Prop) (b : Nat) : Nat → Option Blk
  | 0 => (S 0).get b
  | n + 1 => if D n ∧ touch ft S n b then (S (n + 1)).get b else ver D b n
noncomputable def vt (D : Nat → Prop) (x : Nat) : Nat → V
  | 0 => nth (T 0) x
  | n + 1 => if D n ∧ (o n).dst = some x then nth (T (n + 1)) x else vt D x n
structure Run (call : V → List V → H → RO) (pr : Nat → Nat → Prop) : Prop where
  at' : ∀ i, i < N → At call (o i) (T i) (S i) (T (i + 1)) (S (i + 1)) (ft i)
  ind : ∀ i j, i < j → j < N → ¬ pr i j → Ind (o i) (o j) (ft i) (ft j)
  wf : WF (S 0)
variable {N o ft T S}
variable {pr : Nat → Nat → Prop} {D D' : Nat → Prop} {i j n m b x : Nat}
theorem Run.nx (hr : Run N o ft T S call pr) : ∀ (j i : Nat), i ≤ j → j ≤ N → (S i).next ≤ (S j).next
  | 0, i, h1, _ => by rw [Nat.le_zero.1 h1]; exact Nat.le_refl _
  | j + 1, i, h1, h2 => by
    rcases Nat.lt_or_ge j i with h | h
    · rw [show i = j + 1 by omega]; exact Nat.le_refl _
    · exact Nat.le_trans (hr.nx j i h (by omega)) (hr.at' j (by omega)).nx
theorem Run.wfs (hr : Run N o ft T S call pr) : ∀ (i : Nat), i ≤ N → WF (S i)
  | 0, _ => hr.wf
  | i + 1, h => (hr.at' i (by omega)).wf (hr.wfs i (by omega))
theorem Run.len (hr : Run N o ft T S call pr) : ∀ (i : Nat), i ≤ N → (T i).length = (T 0).length
  | 0, _ => rfl
  | i + 1, h => by
    have a := (hr.at' i (by omega)).run
    rw [← hr.len i (by omega)]
    rcases a with ⟨_, v, hh, _, e, _⟩ | ⟨_, e, _⟩ <;> rw [e, putD_length]
theorem Run.same (hr : Run N o ft T S call pr) (hi : i < N) (ht : ¬ touch ft S i b) : (S (i + 1)).get b = (S i).get b := by
  have a := hr.at' i hi
  rw [touch, not_or] at ht
  by_cases hb : b < (S i).next
  · exact a.same b hb ht.1
  · rw [(hr.wfs i (by omega)).1 b (by omega), (hr.wfs (i + 1) (by omega)).1 b (Nat.le_of_not_lt fun h => ht.2 ⟨by omega, h⟩)]
theorem Run.sameT (hr : Run N o ft T S call pr) (hi : i < N) (ht : (o i).dst ≠ some x) : nth (T (i + 1)) x = nth (T i) x := by
  rcases (hr.at' i hi).run with ⟨_, v, hh, _, e, _⟩ | ⟨_, e, _⟩ <;> rw [e, nth_putD ht]
theorem ver_text (hr : Run N o ft T S call pr) : ∀ (n : Nat), n ≤ N → (∀ j, j < n → touch ft S j b → D j) → ver ft S D b n = (S n).get b
  | 0, _, _ => rfl
  | n + 1, hn, h => by
    rw [ver]
    split
    · rfl
    · rename_i hno
      have ht : ¬ touch ft S n b := fun ht => hno ⟨h n (by omega) ht, ht⟩
      rw [ver_text hr n (by omega) (fun j hj => h j (by omega)), hr.same (by omega) ht]
theorem vt_text (hr : Run N o ft T S call pr) : ∀ (n : Nat), n ≤ N → (∀ j, j < n → (o j).dst = some x → D j) → vt o T D x n = nth (T n) x
  | 0, _, _ => rfl
  | n + 1, hn, h => by
    rw [vt]
    split
    · rfl
    · rename_i hno
      have ht : (o n).dst ≠ some x := fun ht => hno ⟨h n (by omega) ht, ht⟩
      rw [vt_text hr n (by omega) (fun j hj => h j (by omega)), hr.sameT (by omega) ht]
theorem ver_stop (n : Nat) : ∀ (m : Nat), n ≤ m → (∀ j, n ≤ j → j < m → ¬ (D j ∧ touch ft S j b)) → ver ft S D b m = ver ft S D b n
  | 0, h, _ => by rw [Nat.le_zero.1 h]
  | m + 1, h, hno => by
    rcases Nat.lt_or_ge m n with hl | hl
    · rw [show n = m + 1 by omega]
    · rw [ver, if_neg (hno m hl (by omega))]
      exact ver_stop n m hl fun j h1 h2 => hno j h1 (by omega)
theorem vt_stop (n : Nat) : ∀ (m : Nat), n ≤ m → (∀ j, n ≤ j → j < m → ¬ (D j ∧ (o j).dst = some x)) → vt o T D x m = vt o T D x n
  | 0, h, _ => by rw [Nat.le_zero.1 h]
  | m + 1, h, hno => by
    rcases Nat.lt_or_ge m n with hl | hl
    · rw [show n = m + 1 by omega]
    · rw [vt, if_neg (hno m hl (by omega))]
      exact vt_stop n m hl fun j h1 h2 => hno j h1 (by omega)
theorem ver_hit (hi : D i) (ht : touch ft S i b) (him : i < m) (hno : ∀ j, i < j → j < m → ¬ (D j ∧ touch ft S j b)) : ver ft S D b m = (S (i + 1)).get b := by
  rw [ver_stop (i + 1) m him (fun j h1 h2 => hno j h1 h2), ver, if_pos ⟨hi, ht⟩]
theorem vt_hit (hi : D i) (ht : (o i).dst = some x) (him : i < m) (hno : ∀ j, i < j → j < m → ¬ (D j ∧ (o j).dst = some x)) : vt o T D x m = nth (T (i + 1)) x := by
  rw [vt_stop (i + 1) m him (fun j h1 h2 => hno j h1 h2), vt, if_pos ⟨hi, ht⟩]
theorem ver_same : ∀ (m : Nat), (∀ j, j < m → touch ft S j b → (D j ↔ D' j)) → ver ft S D b m = ver ft S D' b m
  | 0, _ => rfl
  | m + 1, h => by
    rw [ver, ver, ver_same m fun j hj => h j (by omega)]
    by_cases ht : touch ft S m b
    · simp only [h m (by omega) ht]
    · simp [ht]
theorem vt_same : ∀ (m : Nat), (∀ j, j < m → (o j).dst = some x → (D j ↔ D' j)) → vt o T D x m = vt o T D' x m
  | 0, _ => rfl
  | m + 1, h => by
    rw [vt, vt, vt_same m fun j hj => h j (by omega)]
    by_cases ht : (o m).dst = some x
    · simp only [h m (by omega) ht]
    · simp [ht]
def born (S : Nat → H) (i b : Nat) : Prop := (S i).next ≤ b ∧ b < (S (i + 1)).next
theorem born_one (hr : Run N o ft T S call pr) (hi : i < N) (hj : j < N) (h1 : born S i b) (h2 : born S j b) : i = j := by
  rcases Nat.lt_trichotomy i j with h | h | h
  · have := hr.nx j (i + 1) h (by omega)
    have := h1.2; have := h2.1; omega
  · exact h
  · have := hr.nx i (j + 1) h (by omega)
    have := h1.1; have := h2.2; omega
structure Inv (P : Program) (N : Nat) (o : Nat → O) (ft : Nat → Foot) (T : Nat → List V) (S : Nat → H) (mk : List Deferred × Nat) (R0 : Emb) (w0 : World) (D : Nat → Prop) (R : Emb) (w : World) (a : Act) : Prop where
  sub : ∀ j, D j → j < N
  tm : ∃ th, concL R th = some a.tmps.toList ∧ th.length = (T 0).length ∧ ∀ x, nth th x = vt o T D x N
  sim : Sim P allB R (fun b => ver ft S D b N) w
  brn : ∀ b x, R b = some x → b < (S 0).next ∨ (S N).next ≤ b ∨ ∃ j, D j ∧ born S j b
  own : ∀ j, D j → ∀ b ∈ (ft j).wr, ∃ x, R b = some x
  le : R0.le R
  size : w0.heap.size ≤ w.heap.size
  new : ∀ b c sz, R b = some (c, sz) → R0 b = some (c, sz) ∨ ((S 0).next ≤ b ∧ b < (S N).next ∧ (w0.heap.size ≤ c ∨ ∃ b0 sz0, R0 b0 = some (c, sz0) ∧ ∃ j, j < N ∧ b0 ∈ (ft j).wr))
  frame : ∀ c, c < w0.heap.size → (∀ b sz, R0 b = some (c, sz) → ¬ ∃ j, j < N ∧ b ∈ (ft j).wr) → w.heap[c]? = w0.heap[c]?
  marks : MarksOn mk.1 mk.2 R w a.defers
  io : SameIO w0 w
variable {mk : List Deferred × Nat} {R0 R R' : Emb} {w0 w w' : World} {a : Act}
structure Nxt (N : Nat) (pr : Nat → Nat → Prop) (D : Nat → Prop) (i : Nat) : Prop where
  lt : i < N
  not : ¬ D i
  pre : ∀ p, pr p i → D p
  cl : ∀ j p, D j → pr p j → D p
  sub : ∀ j, D j → j < N
theorem Nxt.before (hn : Nxt N pr D i) (hr : Run N o ft T S call pr) (hj : j < i) (hD : ¬ D j) : Ind (o j) (o i) (ft j) (ft i) := hr.ind j i hj hn.lt fun hp => hD (hn.pre j hp)
theorem Nxt.after (hn : Nxt N pr D i) (hr : Run N o ft T S call pr) (hj : i < j) (hjN : j < N) (hD : D j) : Ind (o i) (o j) (ft i) (ft j) := hr.ind i j hj hjN fun hp => hn.not (hn.cl j i hD hp)
theorem Nxt.tmp (hn : Nxt N pr D i) (hr : Run N o ft T S call pr) (hx : x ∈ usesO (o i)) : vt o T D x N = nth (T i) x := by
  have hi := hn.lt
  rw [vt_stop i N (by omega), vt_text hr i (by omega)]
  · intro j hj hd
    exact Classical.byContradiction fun hD => ((hn.before hr hj hD).d1 x hd).1 hx
  · rintro j h1 h2 ⟨hD, hd⟩
    rcases Nat.eq_or_lt_of_le h1 with rfl | h1
    · exact hn.not hD
    · exact (hn.after hr h1 h2 hD).d2 x hd hx
theorem Nxt.blk (hn : Nxt N pr D i) (hr : Run N o ft T S call pr) (hborn : ∀ y, R b = some y → b < (S 0).next ∨ (S N).next ≤ b ∨ ∃ j, D j ∧ born S j b) {y : Nat × Nat} (hR : R b = some y)
    (hF : ∀ r, (ft i).rd = some r → b ∈ r) (hb : b < (S i).next) : ver ft S D b N = (S i).get b := by
  have hi := hn.lt
  rw [ver_stop i N (by omega), ver_text hr i (by omega)]
  · rintro j hj (ht | ht)
    · refine Classical.byContradiction fun hD => ?_
      obtain ⟨q1, q2, _⟩ := (hn.before hr hj hD).m1 b ht
      cases hrd : (ft i).rd with
      | none => exact q2 hrd
      | some r => exact q1 r hrd (hF r hrd)
    · rcases hborn y hR with h | h | ⟨j', hD, hj'⟩
      · have := hr.nx j 0 (by omega) (by omega)
        have := ht.1; omega
      · have := hr.nx N (j + 1) (by omega) (by omega)
        have := ht.2; omega
      · rw [born_one hr (by omega) (hn.sub j' hD) ht hj']; exact hD
  · rintro j h1 h2 ⟨hD, ht⟩
    rcases Nat.eq_or_lt_of_le h1 with rfl | h1
    · exact hn.not hD
    · rcases ht with ht | ht
      · obtain ⟨q1, q2, _⟩ := (hn.after hr h1 h2 hD).m2 b ht
        cases hrd : (ft i).rd with
        | none => exact q2 hrd
        | some r => exact q1 r hrd (hF r hrd)
      · have := hr.nx j i (by omega) (by omega)
        have := ht.1; omega
end
end Go.Air
namespace Go.Air
section
open Classical
variable {P : Program} {call : V → List V → H → RO} {N : Nat} {o : Nat → O} {ft : Nat → Foot} {T : Nat → List V} {S : Nat → H}
variable {pr : Nat → Nat → Prop} {D : Nat → Prop} {i j n m b x : Nat} {mk : List Deferred × Nat} {R0 R R' : Emb} {w0 w w' : World} {a : Act}
def more (D : Nat → Prop) (i : Nat) : Nat → Prop := fun j => D j ∨ j = i
theorem more_off (h : j ≠ i) : more D i j ↔ D j := ⟨fun q => q.resolve_right h, .inl⟩
theorem step_tm (hr : Run N o ft T S call pr) (hn : Nxt N pr D i) {th : List V} {v : V} (hlen : th.length = (T 0).length) (hth : ∀ x, nth th x = vt o T D x N) (hT : T (i + 1) = putD (T i) (o i).dst v) :
    (putD th (o i).dst v).length = (T 0).length ∧ ∀ x, nth (putD th (o i).dst v) x = vt o T (more D i) x N := by
  refine ⟨by rw [putD_length]; exact hlen, fun x => ?_⟩
  have hi := hn.lt
  by_cases hx : (o i).dst = some x
  · rw [vt_hit (i := i) (D := more D i) (.inr rfl) hx hi, hT, hx]
    · exact nth_putD_same (by rw [hlen, hr.len i (by omega)])
    · rintro j h1 h2 ⟨hD, hd⟩
      have hD' : D j := hD.resolve_right (by omega)
      exact ((hn.after hr h1 h2 hD').d1 x hx).2 hd
  · rw [nth_putD hx, hth, vt_same]
    intro j hj hd
    exact (more_off (by rintro rfl; exact hx hd)).symm
theorem Inv.skip (hr : Run N o ft T S call pr) (hn : Nxt N pr D i) (I : Inv P N o ft T S mk R0 w0 D R w a) {dst : Option Tmp} (hd : okDst dst (o i).dst = true) (hwt : wants (o i).g (T i) = false) :
    Inv P N o ft T S mk R0 w0 (more D i) R w (a.put dst undef) := by
  have hi := hn.lt
  obtain ⟨hT, hS, hf⟩ : T (i + 1) = putD (T i) (o i).dst .undef ∧ S (i + 1) = S i ∧ ft i = ⟨some [], []⟩ := by
    rcases (hr.at' i hi).run with ⟨h1, _⟩ | ⟨_, h⟩
    · rw [hwt] at h1; cases h1
    · exact h
  have hno : ∀ b, ¬ touch ft S i b := by
    rintro b (h | h)
    · rw [hf] at h; simp at h
    · rw [hS] at h; omega
  have hver : (fun b => ver ft S (more D i) b N) = fun b => ver ft S D b N := by
    funext b
    refine ver_same N fun j _ ht => more_off ?_
    rintro rfl
    exact hno b ht
  obtain ⟨th, h1, h2, h3⟩ := I.tm
  refine ⟨?_, ⟨_, put_tmps hd h1 (conc_undef R), step_tm hr hn h2 h3 hT⟩, by rw [hver]; exact I.sim, ?_, ?_, I.le, I.size, I.new, I.frame, by rw [put_defers]; exact I.marks, I.io⟩
  · rintro j (h | rfl)
    · exact I.sub j h
    · exact hi
  · intro b y hb
    rcases I.brn b y hb with h | h | ⟨j, h, h'⟩
    · exact .inl h
    · exact .inr (.inl h)
    · exact .inr (.inr ⟨j, .inl h, h'⟩)
  · rintro j (h | rfl) b hb
    · exact I.own j h b hb
    · rw [hf] at hb; simp at hb
def footF (ft : Nat → Foot) (S : Nat → H) (i : Nat) : Nat → Prop := fun b => ∀ r, (ft i).rd = some r → b ∈ r ∨ (S i).next ≤ b
theorem Inv.sim_at (hr : Run N o ft T S call pr) (hn : Nxt N pr D i) (I : Inv P N o ft T S mk R0 w0 D R w a) : Sim P (footF ft S i) R (S i).get w := by
  have key : ∀ b c sz y, footF ft S i b → R b = some (c, sz) → (S i).get b = some y → ver ft S D b N = some y := by
    intro b c sz y hF hR hy
    have hlt := (hr.wfs i (by have := hn.lt; omega)).lt hy
    rw [hn.blk hr (I.brn b) hR (fun r hrd => (hF r hrd).resolve_right (by omega)) hlt]
    exact hy
  exact ⟨fun b c sz y hF hR hy => I.sim.blk b c sz y trivial hR (key b c sz y hF hR hy),
    fun b b' c sz sz' y y' hF hF' hR hR' hy hy' => I.sim.inj b b' c sz sz' y y' trivial trivial hR hR' (key b c sz y hF hR hy) (key b' c sz' y' hF' hR' hy'), I.sim.lt, I.sim.fix⟩
theorem Inv.fresh (hr : Run N o ft T S call pr) (hn : Nxt N pr D i) (I : Inv P N o ft T S mk R0 w0 D R w a) (hb : born S i b) : R b = none := by
  have hi := hn.lt
  cases hR : R b with
  | none => rfl
  | some y =>
    exfalso
    rcases I.brn b y hR with h | h | ⟨j, h, h'⟩
    · have := hr.nx i 0 (by omega) (by omega)
      have := hb.1; omega
    · have := hr.nx N (i + 1) (by omega) (by omega)
      have := hb.2; omega
    · rw [← born_one hr hi (I.sub j h) hb h'] at h
      exact hn.not h
theorem Inv.done (hr : Run N o ft T S call pr) (hn : Nxt N pr D i) (I : Inv P N o ft T S mk R0 w0 D R w a) {dst : Option Tmp} {v : V} {hh : H} {u : Value} {th : List V} (hd : okDst dst (o i).dst = true)
    (hth1 : concL R th = some a.tmps.toList) (hth2 : th.length = (T 0).length) (hth3 : ∀ x, nth th x = vt o T D x N)
    (hT : T (i + 1) = putD (T i) (o i).dst v) (hS : S (i + 1) = ⟨hh.next, hh.mem, (ft i).wr ++ (S i).log⟩) (hwr : (ft i).wr = oldOnes (S i).next hh.log) (hwfh : WF hh)
    (hp : PostV P (footF ft S i) R ⟨(S i).next, (S i).mem, []⟩ w v hh u w') : ∃ R', Inv P N o ft T S mk R0 w0 (more D i) R' w' (a.put dst u) := by
  have hi := hn.lt
  obtain ⟨R', l, f, s, hu⟩ := hp
  have hll : l = hh.log := by have := f.log; simpa using this.symm
  subst hll
  have hnext : (S (i + 1)).next = hh.next := by rw [hS]
  have hget : ∀ b, (S (i + 1)).get b = hh.get b := by intro b; rw [hS]; rfl
  have hnewR : ∀ b c sz, R' b = some (c, sz) → R b = some (c, sz) ∨ (born S i b ∧ (w.heap.size ≤ c ∨ ∃ b0 sz0, R b0 = some (c, sz0) ∧ b0 ∈ hh.log)) := by
    intro b c sz hb
    rcases f.new b c sz hb with h | ⟨h1, h2, h3⟩
    · exact .inl h
    · exact .inr ⟨⟨h1, by rw [hnext]; exact h2⟩, h3⟩
  have hwrit : ∀ b y, R b = some y → b ∈ hh.log → b ∈ (ft i).wr ∧ ∃ z, ver ft S D b N = some z := by
    intro b y hR hb
    have hlt := hwfh.2 b hb
    have hltS : b < (S i).next := by
      rcases Nat.lt_or_ge b (S i).next with h | h
      · exact h
      · have := I.fresh hr hn (b := b) ⟨h, by rw [hnext]; exact hlt⟩
        rw [this] at hR; cases hR
    have hin : b ∈ (ft i).wr := by rw [hwr]; exact mem_oldOnes hltS hb
    obtain ⟨_, z, hz⟩ := (hr.at' i hi).had b hin
    refine ⟨hin, z, ?_⟩
    rw [hn.blk hr (I.brn b) hR (fun r hrd => (hr.at' i hi).sub r hrd b hin) hltS]
    exact hz
  have hwrR : ∀ b ∈ (ft i).wr, ∃ y, R b = some y := by
    intro b hb
    rw [hwr] at hb
    have hlt := (oldOnes_lt hb).1
    rcases f.own b (oldOnes_lt hb).2 with h | h
    · exact absurd h.1 (by simp; exact hlt)
    · exact h.1
  have hvtouch : ∀ b, touch ft S i b → ver ft S (more D i) b N = hh.get b := by
    intro b ht
    rw [ver_hit (i := i) (D := more D i) (.inr rfl) ht hi, hget]
    rintro j h1 h2 ⟨hD, htj⟩
    have hD' : D j := hD.resolve_right (by omega)
    have hni := hr.nx j (i + 1) (by omega) (by omega)
    rcases htj with htj | htj
    · rcases ht with ht | ht
      · exact ((hn.after hr h1 h2 hD').m1 b ht).2.2 htj
      · obtain ⟨y, hy⟩ := I.own j hD' b htj
        rw [I.fresh hr hn ht] at hy; cases hy
    · rcases ht with ht | ht
      · rw [hwr] at ht
        have := (oldOnes_lt ht).1
        have := htj.1
        have := (hr.at' i hi).nx
        omega
      · have := ht.2; have := htj.1; omega
  have hvoff : ∀ b, ¬ touch ft S i b → ver ft S (more D i) b N = ver ft S D b N := by
    intro b ht
    refine ver_same N fun j _ htj => more_off ?_
    rintro rfl
    exact ht htj
  have hFt : ∀ b, touch ft S i b → footF ft S i b := by
    rintro b (h | h) r hrd
    · exact .inl ((hr.at' i hi).sub r hrd b h)
    · exact .inr h.1
  have hold : ∀ b c sz, ¬ touch ft S i b → R' b = some (c, sz) → R b = some (c, sz) := by
    intro b c sz ht hb
    rcases hnewR b c sz hb with h | ⟨h, _⟩
    · exact h
    · exact absurd (.inr h) ht
  have hmix : ∀ b1 b2 c s1 s2 z1 z2, touch ft S i b1 → ¬ touch ft S i b2 → R' b1 = some (c, s1) → R' b2 = some (c, s2) → ver ft S (more D i) b1 N = some z1 → ver ft S (more D i) b2 N = some z2 → False := by
    intro b1 b2 c s1 s2 z1 z2 h1 h2 r1 r2 v1 v2
    have r2' := hold b2 c s2 h2 r2
    rw [hvoff b2 h2] at v2
    rcases hnewR b1 c s1 r1 with h | ⟨hb, h | ⟨b0, s0, h, h'⟩⟩
    · rcases h1 with h1 | h1
      · obtain ⟨y, hy⟩ := hwrit b1 _ h (by rw [hwr] at h1; exact (oldOnes_lt h1).2)
        obtain ⟨z, hz⟩ := hy
        have := I.sim.inj b1 b2 c s1 s2 z z2 trivial trivial h r2' hz v2
        subst this
        exact h2 (.inl y)
      · rw [I.fresh hr hn h1] at h; cases h
    · have := I.sim.lt b2 c s2 r2'
      omega
    · obtain ⟨y, z, hz⟩ := hwrit b0 _ h h'
      have := I.sim.inj b0 b2 c s0 s2 z z2 trivial trivial h r2' hz v2
      subst this
      exact h2 (.inl y)
  have hLL : ∀ b, b ∈ (ft i).wr → ∃ j, j < N ∧ b ∈ (ft j).wr := fun b hb => ⟨i, hi, hb⟩
  refine ⟨R', ⟨?_, ⟨_, put_tmps hd (concL_mono f.le _ _ hth1) hu, step_tm hr hn hth2 hth3 hT⟩, ⟨?_, ?_, s.lt, s.fix⟩, ?_, ?_, Emb.le_trans I.le f.le, Nat.le_trans I.size f.size, ?_, ?_, by rw [put_defers]; exact I.marks.fwd f, I.io.trans f.io⟩⟩
  · rintro j (h | rfl)
    · exact I.sub j h
    · exact hi
  · intro b c sz y _ hb hy
    by_cases ht : touch ft S i b
    · rw [hvtouch b ht] at hy
      exact s.blk b c sz y (hFt b ht) hb hy
    · have hb' := hold b c sz ht hb
      have hy' := hy
      rw [hvoff b ht] at hy'
      refine (I.sim.blk b c sz y trivial hb' hy').mono P f.le (f.frame c (I.sim.lt b c sz hb') ?_)
      intro b' sz' hb1 hb2
      obtain ⟨h1, z, h2⟩ := hwrit b' _ hb1 hb2
      have := I.sim.inj b b' c sz sz' y z trivial trivial hb' hb1 hy' h2
      subst this
      exact ht (.inl h1)
  · intro b1 b2 c s1 s2 z1 z2 _ _ r1 r2 v1 v2
    by_cases h1 : touch ft S i b1
    · by_cases h2 : touch ft S i b2
      · simp only [hvtouch b1 h1] at v1
        simp only [hvtouch b2 h2] at v2
        exact s.inj b1 b2 c s1 s2 z1 z2 (hFt b1 h1) (hFt b2 h2) r1 r2 v1 v2
      · exact (hmix b1 b2 c s1 s2 z1 z2 h1 h2 r1 r2 v1 v2).elim
    · by_cases h2 : touch ft S i b2
      · exact (hmix b2 b1 c s2 s1 z2 z1 h2 h1 r2 r1 v2 v1).elim
      · simp only [hvoff b1 h1] at v1
        simp only [hvoff b2 h2] at v2
        exact I.sim.inj b1 b2 c s1 s2 z1 z2 trivial trivial (hold b1 c s1 h1 r1) (hold b2 c s2 h2 r2) v1 v2
  · intro b y hb
    obtain ⟨c, sz⟩ := y
    rcases hnewR b c sz hb with h | ⟨h, _⟩
    · rcases I.brn b _ h with h | h | ⟨j, h, h'⟩
      · exact .inl h
      · exact .inr (.inl h)
      · exact .inr (.inr ⟨j, .inl h, h'⟩)
    · exact .inr (.inr ⟨i, .inr rfl, h⟩)
  · rintro j (h | rfl) b hb
    · obtain ⟨y, hy⟩ := I.own j h b hb
      exact ⟨y, f.le _ _ hy⟩
    · obtain ⟨y, hy⟩ := hwrR b hb
      exact ⟨y, f.le _ _ hy⟩
  · intro b c sz hb
    rcases hnewR b c sz hb with h | ⟨h, h'⟩
    · exact I.new b c sz h
    · refine .inr ⟨Nat.le_trans (hr.nx i 0 (by omega) (by omega)) h.1, Nat.lt_of_lt_of_le h.2 (hr.nx N (i + 1) (by omega) (by omega)), ?_⟩
      rcases h' with h' | ⟨b0, s0, h1, h2⟩
      · exact .inl (Nat.le_trans I.size h')
      · rcases I.new b0 c s0 h1 with h3 | ⟨_, _, h3⟩
        · exact .inr ⟨b0, s0, h3, hLL b0 (hwrit b0 _ h1 h2).1⟩
        · exact h3
  · intro c hc hno
    rw [f.frame c (Nat.lt_of_lt_of_le hc I.size) ?_, I.frame c hc hno]
    intro b sz hb hbl
    rcases I.new b c sz hb with h | ⟨_, _, h | ⟨b0, s0, h1, h2⟩⟩
    · exact hno b sz h (hLL b (hwrit b _ hb hbl).1)
    · omega
    · exact hno b0 s0 h1 h2
end
end Go.Air
