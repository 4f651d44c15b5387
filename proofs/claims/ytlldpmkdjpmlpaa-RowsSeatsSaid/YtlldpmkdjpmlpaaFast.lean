/-
  The evaluator of Air again, laid out for the kernel: bare recursors, small constants, and every piece of data carried on in its normal form. It answers what E answers (FastEq).
-/
import Derived.Test.YtlldpmkdjpmlpaaAir
set_option linter.unusedSectionVars false
set_option linter.unusedVariables false
set_option linter.unusedSimpArgs false
set_option autoImplicit false
namespace Go.Air.Fast
universe u
variable {α : Type}

def forceN (n : Nat) (k : Nat → α) : α := Nat.casesOn n (k 0) (fun m => k (Nat.succ m))
def forceZ (z : Int) (k : Int → α) : α := Int.casesOn z (fun n => forceN n fun m => k (Int.ofNat m)) (fun n => forceN n fun m => k (Int.negSucc m))
def forceB (b : Bool) (k : Bool → α) : α := Bool.casesOn b (k false) (k true)

noncomputable def nthK : List V → Nat → (V → α) → α :=
  fun l => List.rec (fun _ k => k V.undef) (fun x _ ih n k => Nat.casesOn n (k x) (fun m => ih m k)) l
noncomputable def nthOK : List V → Nat → α → (V → α) → α :=
  fun l => List.rec (fun _ z _ => z) (fun x _ ih n z k => Nat.casesOn n (k x) (fun m => ih m z k)) l
noncomputable def updK : List V → Nat → V → (List V → α) → α :=
  fun l => List.rec (fun _ _ k => k []) (fun x l ih n v k => Nat.casesOn n (k (v :: l)) (fun m => ih m v (fun r => k (x :: r)))) l
noncomputable def takeK : List V → Nat → α → (List V → α) → α :=
  fun l => List.rec (fun n z k => Nat.casesOn n (k []) (fun _ => z)) (fun x _ ih n z k => Nat.casesOn n (k []) (fun m => ih m z (fun r => k (x :: r)))) l
noncomputable def cutK : List V → Nat → Nat → α → (List V → α) → α :=
  fun l => List.rec (fun o n z k => Nat.casesOn o (Nat.casesOn n (k []) (fun _ => z)) (fun _ => z))
    (fun x l ih o n z k => Nat.casesOn o (takeK (x :: l) n z k) (fun o' => ih o' n z k)) l
noncomputable def layK0 : List V → List V → α → (List V → α) → α :=
  fun l => List.rec (fun vs z k => List.casesOn vs (k []) (fun _ _ => z))
    (fun x l ih vs z k => List.casesOn vs (k (x :: l)) (fun v vs => ih vs z (fun r => k (v :: r)))) l
noncomputable def layK : List V → Nat → List V → α → (List V → α) → α :=
  fun l => List.rec (fun o vs z k => Nat.casesOn o (layK0 [] vs z k) (fun _ => z))
    (fun x l ih o vs z k => Nat.casesOn o (layK0 (x :: l) vs z k) (fun o' => ih o' vs z (fun r => k (x :: r)))) l
noncomputable def appK : List V → List V → (List V → α) → α :=
  fun l => List.rec (fun r k => k r) (fun x _ ih r k => ih r (fun s => k (x :: s))) l
noncomputable def repK (z : List V) : Nat → (List V → α) → α :=
  fun n => Nat.rec (fun k => k []) (fun _ ih k => ih (fun r => appK z r k)) n
noncomputable def lenK : List V → (Nat → α) → α :=
  fun l => List.rec (fun k => k 0) (fun _ _ ih k => ih (fun n => forceN (Nat.succ n) k)) l

/-- normal form of a list that was built otherwise. -/
noncomputable def nfL : List V → (List V → α) → α :=
  fun l => List.rec (fun k => k []) (fun x _ ih k => ih (fun r => V.casesOn x (fun b => forceB b fun b => k (.b b :: r)) (fun kd n => forceZ n fun n => k (.i kd n :: r))
    (fun s => k (.s s :: r)) (k (.pn :: r)) (fun a b => k (.p a b :: r)) (k (.sn :: r)) (fun a b c d e => k (.sl a b c d e :: r)) (fun a => k (.se a :: r)) (k (.mn :: r)) (fun a => k (.m a :: r)) (k (.fnil :: r))
    (fun a b c => k (.fn a b c :: r)) (fun a => k (.yld a :: r)) (k (.in0 :: r)) (fun a b => k (.ifc a b :: r)) (fun c => k (.agg c :: r)) (fun c => k (.tup c :: r)))) l

noncomputable def getK : T Blk → Nat → α → (Blk → α) → α :=
  fun t => T.rec (fun _ z _ => z) (fun _ x _ ihl ihr n z k => Nat.casesOn n (Option.casesOn x z k)
    (fun m => Nat.casesOn (Nat.mod m 2) (ihl (Nat.div m 2) z k) (fun _ => ihr (Nat.div m 2) z k))) t
/-- a leaf that holds x at n. -/
noncomputable def leafK (x : Option Blk) : Nat → Nat → (T Blk → α) → α :=
  fun f => Nat.rec (fun _ k => k .e) (fun _ ih n k => Nat.casesOn n (k (.n .e x .e))
    (fun m => Nat.casesOn (Nat.mod m 2) (ih (Nat.div m 2) (fun s => k (.n s none .e))) (fun _ => ih (Nat.div m 2) (fun s => k (.n .e none s))))) f
noncomputable def setK (x : Option Blk) (f : Nat) : T Blk → Nat → (T Blk → α) → α :=
  fun t => T.rec (fun n k => leafK x f n k) (fun l y r ihl ihr n k => Nat.casesOn n (k (.n l x r))
    (fun m => Nat.casesOn (Nat.mod m 2) (ihl (Nat.div m 2) (fun s => k (.n s y r))) (fun _ => ihr (Nat.div m 2) (fun s => k (.n l y s))))) t

noncomputable def hGet (h : H) (b : Nat) (z : α) (k : Blk → α) : α := H.casesOn h (fun _ m _ => getK m b z k)
noncomputable def hNew (h : H) (x : Blk) (k : Nat → H → α) : α :=
  H.casesOn h (fun n m l => setK (some x) (Nat.succ n) m n (fun m' => forceN (Nat.succ n) fun n' => k n ⟨n', m', l⟩))
noncomputable def hPut (h : H) (b : Nat) (x : Blk) (k : H → α) : α :=
  H.casesOn h (fun n m l => setK (some x) (Nat.succ b) m b (fun m' => k ⟨n, m', b :: l⟩))
noncomputable def hKill (h : H) (b : Nat) (k : H → α) : α :=
  H.casesOn h (fun n m l => setK none (Nat.succ b) m b (fun m' => k ⟨n, m', b :: l⟩))

noncomputable def evX (x : X) (t : List V) (k : V → α) : α := X.casesOn x (fun n => nthK t n k) (fun v => k v) (fun f => k (.fn f [] []))
noncomputable def evL (xs : List X) (t : List V) (k : List V → α) : α :=
  List.rec (motive := fun _ => (List V → α) → α) (fun k => k []) (fun x _ ih k => evX x t fun v => ih fun r => k (v :: r)) xs k

noncomputable def cellsK (v : V) (k : List V → α) : α :=
  V.casesOn v (fun _ => k [v]) (fun _ _ => k [v]) (fun _ => k [v]) (k [v]) (fun _ _ => k [v]) (k [v]) (fun _ _ _ _ _ => k [v]) (fun _ => k [v]) (k [v]) (fun _ => k [v]) (k [v]) (fun _ _ _ => k [v])
    (fun _ => k [v]) (k [v]) (fun _ _ => k [v]) (fun c => k c) (fun _ => k [v])

noncomputable def fillK (t : List V) (parts : List (Nat × Nat × X)) : List V → α → (List V → α) → α :=
  List.rec (motive := fun _ => List V → α → (List V → α) → α) (fun z _ k => k z)
    (fun p _ ih z e k => Prod.casesOn p fun off q => Prod.casesOn q fun sz x => evX x t fun v => cellsK v fun cs =>
      lenK cs fun n => Bool.casesOn (Nat.beq n sz) e (layK z off cs e fun z' => ih z' e k)) parts

/-- a value out of arithmetic, in its normal form. -/
noncomputable def forceV (v : V) (k : V → α) : α :=
  V.casesOn v (fun b => forceB b fun b => k (.b b)) (fun kd n => forceZ n fun n => k (.i kd n)) (fun s => k (.s s)) (k .pn) (fun a b => forceN b fun b => k (.p a b)) (k .sn)
    (fun a b c d e => forceN b fun b => forceN c fun c => forceN d fun d => k (.sl a b c d e)) (fun a => k (.se a)) (k .mn) (fun a => k (.m a)) (k .fnil)
    (fun a b c => k (.fn a b c)) (fun a => k (.yld a)) (k .in0) (fun a b => k (.ifc a b)) (fun c => k (.agg c)) (fun c => k (.tup c))
noncomputable def forceO (v : Option V) (z : α) (k : V → α) : α := Option.casesOn v z (fun v => forceV v k)

abbrev Call (α : Type) := V → List V → H → α → (V → H → α) → α

noncomputable def eMov (x : X) (_ : Call α) (t : List V) (h : H) (_ : α) (k : V → H → α) : α := evX x t fun v => k v h
noncomputable def ePick (c a b : X) (_ : Call α) (t : List V) (h : H) (z : α) (k : V → H → α) : α :=
  evX c t fun c => match c with
    | .b true => evX a t fun v => k v h
    | .b false => evX b t fun v => k v h
    | _ => z
noncomputable def eAlloc (c : List V) (_ : Call α) (_ : List V) (h : H) (_ : α) (k : V → H → α) : α := nfL c fun c => hNew h (.cells c) fun n h => k (.p n 0) h
noncomputable def eBox (x : X) (_ : Call α) (t : List V) (h : H) (_ : α) (k : V → H → α) : α := evX x t fun v => cellsK v fun c => hNew h (.cells c) fun n h => k (.p n 0) h
noncomputable def eBuild (c : List V) (ps : List (Nat × Nat × X)) (_ : Call α) (t : List V) (h : H) (z : α) (k : V → H → α) : α := nfL c fun c => fillK t ps c z fun c => k (.agg c) h
noncomputable def eBuildSl (c : List V) (len : Nat) (ps : List (Nat × Nat × X)) (_ : Call α) (t : List V) (h : H) (z : α) (k : V → H → α) : α :=
  nfL c fun c => fillK t ps c z fun c => hNew h (.cells c) fun n h => k (.sl n 0 len len none) h
noncomputable def asCells (b : Blk) (z : α) (k : List V → α) : α := Blk.casesOn b k (fun _ => z) (fun _ => z) (fun _ => z)
/-- a block read: one cell; n. -/
noncomputable def rd1K (b : Blk) (o : Nat) (z : α) (k : V → α) : α := Blk.casesOn b (fun cs => nthOK cs o z k) (fun cs => Option.casesOn (nthO cs o) z k) (fun _ => z) (fun _ => z)
noncomputable def rdK (b : Blk) (o n : Nat) (z : α) (k : List V → α) : α := Blk.casesOn b (fun cs => cutK cs o n z k) (fun cs => Option.casesOn (cutO cs o n) z k) (fun _ => z) (fun _ => z)
noncomputable def eLd (x : X) (_ : Call α) (t : List V) (h : H) (z : α) (k : V → H → α) : α :=
  evX x t fun a => match a with
    | .p b o => hGet h b z fun bl => rd1K bl o z fun v => k v h
    | _ => z
noncomputable def eLdn (n : Nat) (x : X) (_ : Call α) (t : List V) (h : H) (z : α) (k : V → H → α) : α :=
  evX x t fun a => match a with
    | .p b o => hGet h b z fun bl => rdK bl o n z fun l => k (.agg l) h
    | _ => z
noncomputable def onesK (l : List V) : Bool := List.rec true (fun x _ ih => Bool.casesOn x.oneCell false ih) l
noncomputable def stK (h : H) (b o : Nat) (vs : List V) (z : α) (k : H → α) : α :=
  hGet h b z fun bl => asCells bl z fun cs => layK cs o vs z fun cs => Bool.casesOn (onesK vs) z (hPut h b (.cells cs) k)
noncomputable def eSt (n : Nat) (x v : X) (_ : Call α) (t : List V) (h : H) (z : α) (k : V → H → α) : α :=
  evX x t fun a => match a with
    | .p b o => evX v t fun v => cellsK v fun vs => lenK vs fun m => Bool.casesOn (Nat.beq m n) z (stK h b o vs z fun h => k .undef h)
    | _ => z
noncomputable def eNil (x : X) (_ : Call α) (t : List V) (h : H) (z : α) (k : V → H → α) : α :=
  evX x t fun a => match a with
    | .p b o => k (.p b o) h
    | .fn f a c => k (.fn f a c) h
    | .yld l => k (.yld l) h
    | _ => z
/-- v as an int of a kind: k; else z. -/
noncomputable def intK (v : V) (z : α) (k : IntKind → Int → α) : α :=
  V.casesOn v (fun _ => z) k (fun _ => z) z (fun _ _ => z) z (fun _ _ _ _ _ => z) (fun _ => z) z (fun _ => z) z (fun _ _ _ => z) (fun _ => z) z (fun _ _ => z) (fun _ => z) (fun _ => z)
noncomputable def slowBin (op : BinOp) (a b : V) (h : H) (z : α) (k : V → H → α) : α := forceO (binV op a b) z fun v => k v h
/-- two ints of 64 bits, not negative: f; else the slow way. -/
noncomputable def fast2 (op : BinOp) (f : Nat → Nat → α → (V → α) → α) (a b : V) (h : H) (z : α) (k : V → H → α) : α :=
  intK a (slowBin op a b h z k) fun ka m => IntKind.casesOn ka (slowBin op a b h z k) (slowBin op a b h z k) (slowBin op a b h z k)
    (intK b (slowBin op a b h z k) fun kb n => IntKind.casesOn kb (slowBin op a b h z k) (slowBin op a b h z k) (slowBin op a b h z k)
      (Int.casesOn m (fun m => Int.casesOn n (fun n => f m n (slowBin op a b h z k) fun v => k v h) (fun _ => slowBin op a b h z k)) (fun _ => slowBin op a b h z k))
      (slowBin op a b h z k) (slowBin op a b h z k) (slowBin op a b h z k) (slowBin op a b h z k))
    (slowBin op a b h z k) (slowBin op a b h z k) (slowBin op a b h z k) (slowBin op a b h z k)
def fAdd (m n : Nat) (s : α) (k : V → α) : α := Bool.casesOn (Nat.ble (Nat.add m n) 9223372036854775807) s (forceN (Nat.add m n) fun r => k (.i .i64 (.ofNat r)))
def fSub (m n : Nat) (s : α) (k : V → α) : α := Bool.casesOn (Nat.ble n m && Nat.ble m 9223372036854775807) s (forceN (Nat.sub m n) fun r => k (.i .i64 (.ofNat r)))
def fMul (m n : Nat) (s : α) (k : V → α) : α := Bool.casesOn (Nat.ble (Nat.mul m n) 9223372036854775807) s (forceN (Nat.mul m n) fun r => k (.i .i64 (.ofNat r)))
def fLss (m n : Nat) (_ : α) (k : V → α) : α := Bool.casesOn (Nat.blt m n) (k (.b false)) (k (.b true))
def fLeq (m n : Nat) (_ : α) (k : V → α) : α := Bool.casesOn (Nat.ble m n) (k (.b false)) (k (.b true))
def fGtr (m n : Nat) (_ : α) (k : V → α) : α := Bool.casesOn (Nat.blt n m) (k (.b false)) (k (.b true))
def fGeq (m n : Nat) (_ : α) (k : V → α) : α := Bool.casesOn (Nat.ble n m) (k (.b false)) (k (.b true))
def fEql (m n : Nat) (_ : α) (k : V → α) : α := Bool.casesOn (Nat.beq m n) (k (.b false)) (k (.b true))
def fNeq (m n : Nat) (_ : α) (k : V → α) : α := Bool.casesOn (Nat.beq m n) (k (.b true)) (k (.b false))
noncomputable def binK (op : BinOp) : V → V → H → α → (V → H → α) → α :=
  BinOp.casesOn op (fast2 .add fAdd) (fast2 .sub fSub) (fast2 .mul fMul) (slowBin .quo) (slowBin .rem) (slowBin .and) (slowBin .or) (slowBin .xor) (slowBin .shl) (slowBin .shr) (slowBin .andNot)
    (fast2 .eql fEql) (fast2 .neq fNeq) (fast2 .lss fLss) (fast2 .leq fLeq) (fast2 .gtr fGtr) (fast2 .geq fGeq)
noncomputable def eBin (op : BinOp) (x y : X) (_ : Call α) (t : List V) (h : H) (z : α) (k : V → H → α) : α :=
  evX x t fun a => evX y t fun b => binK op a b h z k
noncomputable def eEqv (neg : Bool) (kd : EqK) (x y : X) (_ : Call α) (t : List V) (h : H) (z : α) (k : V → H → α) : α :=
  evX x t fun a => evX y t fun b => Option.casesOn (eqV kd a b) z fun r => forceB (if neg then !r else r) fun r => k (.b r) h
noncomputable def eUn (op : UnOp) (x : X) (_ : Call α) (t : List V) (h : H) (z : α) (k : V → H → α) : α :=
  evX x t fun a => forceO (unV op a) z fun v => k v h
noncomputable def eConv (kd : IntKind) (x : X) (_ : Call α) (t : List V) (h : H) (z : α) (k : V → H → α) : α :=
  evX x t fun a => match a with
    | .i _ n => forceZ (kd.wrap n) fun n => k (.i kd n) h
    | _ => z
noncomputable def eMkI (ty : Nat) (x : X) (_ : Call α) (t : List V) (h : H) (_ : α) (k : V → H → α) : α := evX x t fun v => k (.ifc ty v) h
noncomputable def eMkFn (f : Nat) (a c : List X) (_ : Call α) (t : List V) (h : H) (_ : α) (k : V → H → α) : α := evL a t fun a => evL c t fun c => k (.fn f a c) h
noncomputable def eMkMap (_ : Call α) (_ : List V) (h : H) (_ : α) (k : V → H → α) : α := hNew h (.map []) fun n h => k (.m n) h
noncomputable def natK (v : V) (z : α) (k : Nat → α) : α := match v with
  | .i _ (.ofNat n) => k n
  | _ => z
noncomputable def eMkSl (c : List V) (bytes : Nat) (l m : X) (_ : Call α) (t : List V) (h : H) (z : α) (k : V → H → α) : α :=
  evX l t fun l => evX m t fun m => natK l z fun l => natK m z fun m =>
    Bool.casesOn (Nat.ble l m && Nat.ble m 281474976710656 && Nat.ble (Nat.mul bytes m) 281474976710656) z (repK c m fun cs => nfL cs fun cs => hNew h (.cells cs) fun n h => k (.sl n 0 l m none) h)
noncomputable def eSlc (esz : Nat) (x : X) (lo hi mx : Option X) (_ : Call α) (t : List V) (h : H) (z : α) (k : V → H → α) : α :=
  evX x t fun a => forceO (match mx with | none => sliceV esz t lo hi a | some m => sliceV3 esz t lo hi m a) z fun v => k v h
noncomputable def eOther (op : A) (t : List V) (h : H) (z : α) (k : V → H → α) : α :=
  match evA (fun _ _ _ => .fail) op t h with
  | .fail => z
  | .ok v h => forceV v fun v => k v h
noncomputable def eFld (off : Nat) (x : X) (_ : Call α) (t : List V) (h : H) (z : α) (k : V → H → α) : α :=
  evX x t fun a => match a with
    | .p b o => forceN (Nat.add o off) fun o => k (.p b o) h
    | _ => z
noncomputable def eIxS (esz : Nat) (x ix : X) (_ : Call α) (t : List V) (h : H) (z : α) (k : V → H → α) : α :=
  evX x t fun a => evX ix t fun i => natK i z fun n => match a with
    | .sl b o len _ _ => Bool.casesOn (Nat.blt n len) z (forceN (Nat.add o (Nat.mul n esz)) fun o => k (.p b o) h)
    | _ => z
noncomputable def eIxA (len esz : Nat) (x ix : X) (_ : Call α) (t : List V) (h : H) (z : α) (k : V → H → α) : α :=
  evX x t fun a => evX ix t fun i => natK i z fun n => match a with
    | .p b o => Bool.casesOn (Nat.blt n len) z (forceN (Nat.add o (Nat.mul n esz)) fun o => k (.p b o) h)
    | _ => z
noncomputable def asMap (b : Blk) (z : α) (k : List (V × V) → α) : α := Blk.casesOn b (fun _ => z) (fun _ => z) k (fun _ => z)
noncomputable def mputK (fk : KK) (key v : V) (es : List (V × V)) : α → (List (V × V) → α) → α :=
  List.rec (motive := fun _ => α → (List (V × V) → α) → α) (fun _ k => k [(key, v)]) (fun e es ih z k =>
    Bool.casesOn (fk.fits e.1) z (Bool.casesOn (keyEq key e.1) (ih z fun r => k (e :: r)) (k ((e.1, v) :: es)))) es
noncomputable def eMapSet (fk : KK) (x kk v : X) (_ : Call α) (t : List V) (h : H) (z : α) (k : V → H → α) : α :=
  evX x t fun a => evX kk t fun kk => evX v t fun v => match a with
    | .m b => hGet h b z fun bl => asMap bl z fun es => Bool.casesOn (fk.fits kk) z (mputK fk kk v es z fun es => hPut h b (.map es) fun h => k .undef h)
    | _ => z
noncomputable def eExt (x : X) (n : Nat) (_ : Call α) (t : List V) (h : H) (z : α) (k : V → H → α) : α :=
  evX x t fun a => match a with
    | .tup c => nthOK c n z fun v => k v h
    | _ => z
noncomputable def eCall (f : X) (args : List X) (call : Call α) (t : List V) (h : H) (z : α) (k : V → H → α) : α :=
  evX f t fun f => evL args t fun l => call f l h z k
noncomputable def eLenL (x : X) (_ : Call α) (t : List V) (h : H) (z : α) (k : V → H → α) : α :=
  evX x t fun a => match a with
    | .sn => k (.i .i64 (.ofNat 0)) h
    | .se _ => k (.i .i64 (.ofNat 0)) h
    | .sl _ _ n _ _ => k (.i .i64 (.ofNat n)) h
    | _ => z
noncomputable def srcK (esz n : Nat) (h : H) (x : V) (z : α) (k : List V → α) : α :=
  match x with
  | .sn => Bool.casesOn (Nat.beq n 0) z (k [])
  | .sl blk off _ _ _ => hGet h blk z fun bl => rdK bl off (Nat.mul n esz) z k
  | x => Option.casesOn (sourceCells esz n h x) z fun l => nfL l k
noncomputable def eApp (esz bytes : Nat) (s x : X) (_ : Call α) (t : List V) (h : H) (z : α) (k : V → H → α) : α :=
  evX s t fun s => evX x t fun x => Option.casesOn (sourceLen x) z fun n => forceN n fun n => srcK esz n h x z fun new =>
    Bool.casesOn (Nat.ble (Nat.mul (Nat.add (Nat.mul 2 n) 200) bytes) 281474976710656 && Nat.blt 0 bytes && Nat.blt 0 esz) z
      (match s with
      | .sn => Bool.casesOn (Nat.beq n 0) (hNew h (.cells new) fun b h => k (.sl b 0 n n (some esz)) h) (k .sn h)
      | .se a => Bool.casesOn (Nat.beq n 0) (hNew h (.cells new) fun b h => k (.sl b 0 n n (some esz)) h) (k (.se a) h)
      | .sl blk off len cap g => forceN (Nat.add len n) fun m =>
        Bool.casesOn (Nat.ble m cap)
          (Bool.casesOn (Nat.ble (Nat.mul (Nat.add (Nat.mul 2 m) 200) bytes) 281474976710656) z
            (match g with
              | none => hGet h blk z fun bl => rdK bl off (Nat.mul len esz) z fun old => appK old new fun all => hNew h (.cells all) fun b h => k (.sl b 0 m m (some esz)) h
              | some e => hGet h blk z fun bl => asCells bl z fun cs => cutK cs off (Nat.mul len esz) z fun old => appK old new fun all => Bool.casesOn (Nat.beq e esz && Nat.beq off 0 && Nat.beq cs.length (Nat.mul cap esz) && onesK new) z (hKill h blk fun h => hNew h (.cells all) fun b h => k (.sl b 0 m m (some esz)) h)))
          (stK h blk (Nat.add off (Nat.mul len esz)) new z fun h => k (.sl blk off m cap g) h)
      | _ => z)
noncomputable def eCpy (esz : Nat) (d s : X) (_ : Call α) (t : List V) (h : H) (z : α) (k : V → H → α) : α :=
  evX d t fun d => evX s t fun s => Option.casesOn (sourceLen s) z fun m => match d with
    | .sn => k (.i .i64 0) h
    | .sl blk off len _ _ => forceN (Nat.min m len) fun n => srcK esz n h s z fun l => stK h blk off l z fun h => k (.i .i64 (.ofNat n)) h
    | _ => z
noncomputable def eClr (c : List V) (x : X) (_ : Call α) (t : List V) (h : H) (z : α) (k : V → H → α) : α :=
  evX x t fun a => match a with
    | .sn => k .undef h
    | .sl b o n _ _ => Bool.casesOn (Nat.beq n 0) (repK c n fun cs => nfL cs fun cs => stK h b o cs z fun h => k .undef h) (k .undef h)
    | _ => z

noncomputable def evAK (op : A) : Call α → List V → H → α → (V → H → α) → α :=
  A.casesOn op eMov ePick eAlloc eBox eBuild eBuildSl eLd eLdn eSt eNil eBin eEqv eUn eConv eMkI eMkFn eMkMap eMkSl eSlc
    (fun a b c d e _ t h z k => eOther (.slcA a b c d e) t h z k) (fun a b c _ t h z k => eOther (.slcS a b c) t h z k) eFld (fun a b c _ t h z k => eOther (.fldv a b c) t h z k) eIxS eIxA
    (fun a b _ t h z k => eOther (.ixStr a b) t h z k) (fun a b c d e _ t h z k => eOther (.ixV a b c d e) t h z k) (fun a b c d e _ t h z k => eOther (.look a b c d e) t h z k) eMapSet eExt eCall
    (fun a _ t h z k => eOther (.lenS a) t h z k) eLenL (fun n _ _ h _ k => k (.i .i64 (.ofNat n)) h) (fun a _ t h z k => eOther (.lenM a) t h z k) eApp eCpy eClr
    (fun a _ t h z k => eOther (.min a) t h z k) (fun a _ t h z k => eOther (.max a) t h z k) (fun _ _ _ z _ => z)

noncomputable def wantK (g : Option (Nat × Bool)) (t : List V) (y n : α) : α :=
  Option.casesOn g y fun p => Prod.casesOn p fun i w => nthK t i fun v => match v with
    | .b x => Bool.casesOn w (Bool.casesOn x y n) (Bool.casesOn x n y)
    | _ => n
noncomputable def putK (t : List V) (d : Option Nat) (v : V) (k : List V → α) : α := Option.casesOn d (k t) fun n => updK t n v k

noncomputable def opsK (call : Call α) (l : List O) : List V → H → α → (List V → H → α) → α :=
  List.rec (motive := fun _ => List V → H → α → (List V → H → α) → α) (fun t h _ k => k t h)
    (fun o _ ih t h z k => O.casesOn o fun d g op =>
      wantK g t (evAK op call t h z fun v h' => putK t d v fun t' => ih t' h' z k) (putK t d .undef fun t' => ih t' h z k)) l

noncomputable def oldK (n : Nat) (l : List Nat) : (List Nat → α) → α :=
  List.rec (motive := fun _ => (List Nat → α) → α) (fun k => k []) (fun x _ ih k => Bool.casesOn (Nat.blt x n) (ih k) (ih fun r => k (x :: r))) l
noncomputable def natsApp (l r : List Nat) (k : List Nat → α) : α :=
  List.rec (motive := fun _ => (List Nat → α) → α) (fun k => k r) (fun x _ ih k => ih fun s => k (x :: s)) l k

noncomputable def drawK (call : Call α) (l : List O) : List V → H → List Foot → α → (List V → H → List Foot → α) → α :=
  List.rec (motive := fun _ => List V → H → List Foot → α → (List V → H → List Foot → α) → α) (fun t h f _ k => k t h f)
    (fun o _ ih t h f z k => O.casesOn o fun d g op =>
      wantK g t (H.casesOn h fun n0 m0 l0 => evAK op call t ⟨n0, m0, []⟩ z fun v h' => H.casesOn h' fun n1 m1 l1 => oldK n0 l1 fun old => natsApp old l0 fun l2 =>
          putK t d v fun t' => ih t' ⟨n1, m1, l2⟩ (f ++ [⟨reads op t, old⟩]) z k)
        (putK t d .undef fun t' => ih t' h (f ++ [⟨some [], []⟩]) z k)) l

abbrev R0 (α : Type) := C → List V → H → α → (Out → List V → H → α) → α

noncomputable def resK (t : List V) (h : H) (l : List ResV) : α → (List V → α) → α :=
  List.rec (motive := fun _ => α → (List V → α) → α) (fun _ k => k [])
    (fun r _ ih z k => ResV.casesOn r (fun n => nthK t n fun v => ih z fun s => k (v :: s))
      (fun n sz => nthK t n fun a => match a with
        | .p b o => hGet h b z fun bl => asCells bl z fun cs => Option.casesOn sz (nthOK cs o z fun v => ih z fun s => k (v :: s)) (fun m => cutK cs o m z fun l => ih z fun s => k (.agg l :: s))
        | _ => z)
      (fun v => List.casesOn t (ih z fun s => k (v :: s)) (fun _ _ => z))) l
noncomputable def packK (l : List V) (k : V → α) : α := List.casesOn l (k (.tup [])) fun x r => List.casesOn r (k x) fun y s => k (.tup (x :: y :: s))
noncomputable def padK (l : List V) : Nat → (List V → α) → α :=
  List.rec (motive := fun _ => Nat → (List V → α) → α) (fun n k => repK [V.undef] n k) (fun x _ ih n k => Nat.casesOn n (ih 0 fun r => k (x :: r)) (fun m => ih m fun r => k (x :: r))) l
noncomputable def updsK (ps : List Nat) : List V → List V → (List V → α) → α :=
  List.rec (motive := fun _ => List V → List V → (List V → α) → α) (fun t _ k => k t) (fun p _ ih t vs k => List.casesOn vs (k t) fun v vs => updK t p v fun t' => ih t' vs k) ps

noncomputable def callFn (tbl : Nat → Option FI) (r : R0 α) (g : Nat) (a c args : List V) (h : H) (z : α) (k : V → H → α) : α :=
  Option.casesOn (tbl g) z fun fi => FI.casesOn fi fun n res body => appK a args fun l => appK l c fun l => padK l n fun t =>
    r body t h z fun o t' h' => Out.casesOn o (resK t' h' res z fun l => packK l fun v => k v h') (fun _ => z) (resK t' h' res z fun l => packK l fun v => k v h')
noncomputable def asLoop (b : Blk) (z : α) (k : Loop → α) : α := Blk.casesOn b (fun _ => z) (fun _ => z) (fun _ => z) k
noncomputable def callYld (r : R0 α) (l : Nat) (args : List V) (h : H) (z : α) (k : V → H → α) : α :=
  hGet h l z fun bl => asLoop bl z fun lp => Loop.casesOn lp fun _ _ tm ps ag bo0 => Bool.casesOn (Nat.beq args.length ps.length) z
      (updsK ps tm args fun t => r ag t h z fun o t h1 => match o with
        | .norm => hGet h1 l z fun bl => asLoop bl z fun lp => match lp with
          | ⟨.ready, pe, tm, ps, ag, bo⟩ => hPut h1 l (.loop ⟨.busy, pe, tm, ps, ag, bo⟩) fun h2 => r bo0 t h2 z fun o _ h2 => hGet h2 l z fun bl => asLoop bl z fun lp => match lp with
              | ⟨.busy, _, tm, ps, ag, bo⟩ => match o with
                | .norm => hPut h2 l (.loop ⟨.ready, none, tm, ps, ag, bo⟩) fun h3 => k (.b true) h3
                | .exit i => hPut h2 l (.loop ⟨.done, some (.exit i), tm, ps, ag, bo⟩) fun h3 => k (.b false) h3
                | .ret => hPut h2 l (.loop ⟨.done, some .ret, tm, ps, ag, bo⟩) fun h3 => k (.b false) h3
              | _ => z
          | _ => z
        | _ => z)
noncomputable def callK (tbl : Nat → Option FI) (r : R0 α) : Call α := fun f args h z k =>
  match f with
  | .fn g a c => callFn tbl r g a c args h z k
  | .yld l => callYld r l args h z k
  | _ => z

abbrev CK (α : Type) := (Nat → Option FI) → R0 α → List V → H → α → (Out → List V → H → α) → α
noncomputable def cSkip (_ : Nat → Option FI) (_ : R0 α) (t : List V) (h : H) (_ : α) (k : Out → List V → H → α) : α := k .norm t h
noncomputable def cOps (l : List O) (tbl : Nat → Option FI) (r : R0 α) (t : List V) (h : H) (z : α) (k : Out → List V → H → α) : α := opsK (callK tbl r) l t h z fun t h => k .norm t h
noncomputable def cDraw (l : List O) (crit : List (Nat × Nat)) (tbl : Nat → Option FI) (r : R0 α) (t : List V) (h : H) (z : α) (k : Out → List V → H → α) : α :=
  drawK (callK tbl r) l t h [] z fun t h f => Bool.casesOn (critOk f crit) z (k .norm t h)
noncomputable def cSeq (a b : C) (_ : Nat → Option FI) (r : R0 α) (t : List V) (h : H) (z : α) (k : Out → List V → H → α) : α :=
  r a t h z fun o t' h' => Out.casesOn o (r b t' h' z k) (fun i => k (.exit i) t' h') (k .ret t' h')
noncomputable def cCond (x : X) (a b : C) (_ : Nat → Option FI) (r : R0 α) (t : List V) (h : H) (z : α) (k : Out → List V → H → α) : α :=
  evX x t fun c => match c with
    | .b true => r a t h z k
    | .b false => r b t h z k
    | _ => z
noncomputable def cBlock (id : Nat) (a : C) (_ : Nat → Option FI) (r : R0 α) (t : List V) (h : H) (z : α) (k : Out → List V → H → α) : α :=
  r a t h z fun o t' h' => Out.casesOn o (k .norm t' h') (fun i => Bool.casesOn (Nat.beq i id) (k (.exit i) t' h') (k .norm t' h')) (k .ret t' h')
noncomputable def cLoop (a : C) (_ : Nat → Option FI) (r : R0 α) (t : List V) (h : H) (z : α) (k : Out → List V → H → α) : α :=
  r a t h z fun o t' h' => Out.casesOn o (r (.loop a) t' h' z k) (fun i => k (.exit i) t' h') (k .ret t' h')
noncomputable def cExit (id : Nat) (_ : Nat → Option FI) (_ : R0 α) (t : List V) (h : H) (_ : α) (k : Out → List V → H → α) : α := k (.exit id) t h
noncomputable def cRet (_ : Nat → Option FI) (_ : R0 α) (t : List V) (h : H) (_ : α) (k : Out → List V → H → α) : α := k .ret t h
noncomputable def cRange (f : X) (ps : List Nat) (ag bo : C) (tbl : Nat → Option FI) (r : R0 α) (t : List V) (h : H) (z : α) (k : Out → List V → H → α) : α :=
  evX f t fun f => match f with
    | .fn g a c => hNew h (.loop ⟨.ready, none, t, ps, ag, bo⟩) fun l h => callFn tbl r g a c [.yld l] h z fun _ h' =>
      hGet h' l z fun bl => asLoop bl z fun lp => match lp with
        | ⟨st, pe, tm, ps, ag, bo⟩ => match st with
          | .busy => z
          | _ => hPut h' l (.loop ⟨.over, pe, tm, ps, ag, bo⟩) fun h3 => match pe with
            | none => k .norm t h3
            | some o => k o t h3
    | _ => z
noncomputable def stepK (c : C) : CK α :=
  C.casesOn c cSkip cOps cDraw cSeq cCond cBlock cLoop cExit cRet cRange

noncomputable def EK (tbl : Nat → Option FI) (k : Nat) : R0 α := Nat.rec (fun _ _ _ z _ => z) (fun _ r c => stepK c tbl r) k
noncomputable def runK (tbl : Nat → Option FI) (k f : Nat) (args : List V) (h : H) (z : α) (g : V → H → α) : α := callK tbl (EK tbl k) (.fn f [] []) args h z g

end Go.Air.Fast
