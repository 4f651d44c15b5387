/-
  A part of the proof of: The row RowsMemory, from the law in Air.
-/
import Derived.Test.YtlldpmkdjpmlpaaProg
import Derived.KernelRfl
import Derived.Test.YtlldpmkdjpmlpaaMeB
set_option linter.unusedSectionVars false
set_option linter.unusedVariables false
set_option linter.unusedSimpArgs false
set_option autoImplicit false
namespace Go.Air.Fast
universe u
variable {α : Type}
def forceN (n : Nat) (k : Nat → α) : α := Nat.casesOn n (k 0) (fun m => k (Nat.succ m))
def forceZ (z : Int) (k : Int → α) : α := Int.casesOn z (fun n => forceN n fun m => k (Int.ofNat m)) (fun n => forceN n fun m => k (Int.negSucc m))
def forceB (b : Bool) (k : Bool → α) : α := Bool.casesOn b (k false) (k true)
noncomputable def nthK : List V → Nat → (V → α) → α :=
  fun l => List.rec (fun _ k => k V.undef) (fun x _ ih n k => Nat.casesOn n (k x) (fun m => ih m k)) l
noncomputable def nthOK : List V → Nat → α → (V → α) → α :=
  fun l => List.rec (fun _ z _ => z) (fun x _ ih n z k => Nat.casesOn n (k x) (fun m => ih m z k)) l
noncomputable def updK : List V → Nat → V → (List V → α) → α :=
  fun l => List.rec (fun _ _ k => k []) (fun x l ih n v k => Nat.casesOn n (k (v :: l)) (fun m => ih m v (fun r => k (x :: r)))) l
noncomputable def takeK : List V → Nat → α → (List V → α) → α :=
  fun l => List.rec (fun n z k => Nat.casesOn n (k []) (fun _ => z)) (fun x _ ih n z k => Nat.casesOn n (k []) (fun m => ih m z (fun r => k (x :: r)))) l
noncomputable def cutK : List V → Nat → Nat → α → (List V → α) → α :=
  fun l => List.rec (fun o n z k => Nat.casesOn o (Nat.casesOn n (k []) (fun _ => z)) (fun _ => z))
    (fun x l ih o n z k => Nat.casesOn o (takeK (x :: l) n z k) (fun o' => ih o' n z k)) l
noncomputable def layK0 : List V → List V → α → (List V → α) → α :=
  fun l => List.rec (fun vs z k => List.casesOn vs (k []) (fun _ _ => z))
    (fun x l ih vs z k => List.casesOn vs (k (x :: l)) (fun v vs => ih vs z (fun r => k (v :: r)))) l
noncomputable def layK : List V → Nat → List V → α → (List V → α) → α :=
  fun l => List.rec (fun o vs z k => Nat.casesOn o (layK0 [] vs z k) (fun _ => z))
    (fun x l ih o vs z k => Nat.casesOn o (layK0 (x :: l) vs z k) (fun o' => ih o' vs z (fun r => k (x :: r)))) l
noncomputable def appK : List V → List V → (List V → α) → α :=
  fun l => List.rec (fun r k => k r) (fun x _ ih r k => ih r (fun s => k (x :: s))) l
noncomputable def repK (z : List V) : Nat → (List V → α) → α :=
  fun n => Nat.rec (fun k => k []) (fun _ ih k => ih (fun r => appK z r k)) n
noncomputable def lenK : List V → (Nat → α) → α :=
  fun l => List.rec (fun k => k 0) (fun _ _ ih k => ih (fun n => forceN (Nat.succ n) k)) l
noncomputable def nfL : List V → (List V → α) → α :=
  fun l => List.rec (fun k => k []) (fun x _ ih k => ih (fun r => V.casesOn x (fun b => forceB b fun b => k (.b b :: r)) (fun kd n => forceZ n fun n => k (.i kd n :: r))
    (fun s => k (.s s :: r)) (k (.pn :: r)) (fun a b => k (.p a b :: r)) (k (.sn :: r)) (fun a b c d e => k (.sl a b c d e :: r)) (fun a => k (.se a :: r)) (k (.mn :: r)) (fun a => k (.m a :: r)) (k (.fnil :: r))
    (fun a b c => k (.fn a b c :: r)) (fun a => k (.yld a :: r)) (k (.in0 :: r)) (fun a b => k (.ifc a b :: r)) (fun c => k (.agg c :: r)) (fun c => k (.tup c :: r)))) l
noncomputable def getK : T Blk → Nat → α → (Blk → α) → α :=
  fun t => T.rec (fun _ z _ => z) (fun _ x _ ihl ihr n z k => Nat.casesOn n (Option.casesOn x z k)
    (fun m => Nat.casesOn (Nat.mod m 2) (ihl (Nat.div m 2) z k) (fun _ => ihr (Nat.div m 2) z k))) t
noncomputable def leafK (x : Option Blk) : Nat → Nat → (T Blk → α) → α :=
  fun f => Nat.rec (fun _ k => k .e) (fun _ ih n k => Nat.casesOn n (k (.n .e x .e))
    (fun m => Nat.casesOn (Nat.mod m 2) (ih (Nat.div m 2) (fun s => k (.n s none .e))) (fun _ => ih (Nat.div m 2) (fun s => k (.n .e none s))))) f
noncomputable def setK (x : Option Blk) (f : Nat) : T Blk → Nat → (T Blk → α) → α :=
  fun t => T.rec (fun n k => leafK x f n k) (fun l y r ihl ihr n k => Nat.casesOn n (k (.n l x r))
    (fun m => Nat.casesOn (Nat.mod m 2) (ihl (Nat.div m 2) (fun s => k (.n s y r))) (fun _ => ihr (Nat.div m 2) (fun s => k (.n l y s))))) t
noncomputable def hGet (h : H) (b : Nat) (z : α) (k : Blk → α) : α := H.casesOn h (fun _ m _ => getK m b z k)
noncomputable def hNew (h : H) (x : Blk) (k : Nat → H → α) : α :=
  H.casesOn h (fun n m l => setK (some x) (Nat.succ n) m n (fun m' => forceN (Nat.succ n) fun n' => k n ⟨n', m', l⟩))
noncomputable def hPut (h : H) (b : Nat) (x : Blk) (k : H → α) : α :=
  H.casesOn h (fun n m l => setK (some x) (Nat.succ b) m b (fun m' => k ⟨n, m', b :: l⟩))
noncomputable def hKill (h : H) (b : Nat) (k : H → α) : α :=
  H.casesOn h (fun n m l => setK none (Nat.succ b) m b (fun m' => k ⟨n, m', b :: l⟩))
noncomputable def evX (x : X) (t : List V) (k : V → α) : α := X.casesOn x (fun n => nthK t n k) (fun v => k v) (fun f => k (.fn f [] []))
noncomputable def evL (xs : List X) (t : List V) (k : List V → α) : α :=
  List.rec (motive := fun _ => (List V → α) → α) (fun k => k []) (fun x _ ih k => evX x t fun v => ih fun r => k (v :: r)) xs k
noncomputable def cellsK (v : V) (k : List V → α) : α :=
  V.casesOn v (fun _ => k [v]) (fun _ _ => k [v]) (fun _ => k [v]) (k [v]) (fun _ _ => k [v]) (k [v]) (fun _ _ _ _ _ => k [v]) (fun _ => k [v]) (k [v]) (fun _ => k [v]) (k [v]) (fun _ _ _ => k [v])
    (fun _ => k [v]) (k [v]) (fun _ _ => k [v]) (fun c => k c) (fun _ => k [v])
noncomputable def fillK (t : List V) (parts : List (Nat × Nat × X)) : List V → α → (List V → α) → α :=
  List.rec (motive := fun _ => List V → α → (List V → α) → α) (fun z _ k => k z)
    (fun p _ ih z e k => Prod.casesOn p fun off q => Prod.casesOn q fun sz x => evX x t fun v => cellsK v fun cs =>
      lenK cs fun n => Bool.casesOn (Nat.beq n sz) e (layK z off cs e fun z' => ih z' e k)) parts
noncomputable def forceV (v : V) (k : V → α) : α :=
  V.casesOn v (fun b => forceB b fun b => k (.b b)) (fun kd n => forceZ n fun n => k (.i kd n)) (fun s => k (.s s)) (k .pn) (fun a b => forceN b fun b => k (.p a b)) (k .sn)
    (fun a b c d e => forceN b fun b => forceN c fun c => forceN d fun d => k (.sl a b c d e)) (fun a => k (.se a)) (k .mn) (fun a => k (.m a)) (k .fnil)
    (fun a b c => k (.fn a b c)) (fun a => k (.yld a)) (k .in0) (fun a b => k (.ifc a b)) (fun c => k (.agg c)) (fun c => k (.tup c))
noncomputable def forceO (v : Option V) (z : α) (k : V → α) : α := Option.casesOn v z (fun v => forceV v k)
abbrev Call (α : Type) := V → List V → H → α → (V → H → α) → α
noncomputable def eMov (x : X) (_ : Call α) (t : List V) (h : H) (_ : α) (k : V → H → α) : α := evX x t fun v => k v h
noncomputable def ePick (c a b : X) (_ : Call α) (t : List V) (h : H) (z : α) (k : V → H → α) : α :=
  evX c t fun c => match c with
    | .b true => evX a t fun v => k v h
    | .b false => evX b t fun v => k v h
    | _ => z
noncomputable def eAlloc (c : List V) (_ : Call α) (_ : List V) (h : H) (_ : α) (k : V → H → α) : α := nfL c fun c => hNew h (.cells c) fun n h => k (.p n 0) h
noncomputable def eBox (x : X) (_ : Call α) (t : List V) (h : H) (_ : α) (k : V → H → α) : α := evX x t fun v => cellsK v fun c => hNew h (.cells c) fun n h => k (.p n 0) h
noncomputable def eBuild (c : List V) (ps : List (Nat × Nat × X)) (_ : Call α) (t : List V) (h : H) (z : α) (k : V → H → α) : α := nfL c fun c => fillK t ps c z fun c => k (.agg c) h
noncomputable def eBuildSl (c : List V) (len : Nat) (ps : List (Nat × Nat × X)) (_ : Call α) (t : List V) (h : H) (z : α) (k : V → H → α) : α :=
  nfL c fun c => fillK t ps c z fun c => hNew h (.cells c) fun n h => k (.sl n 0 len len none) h
noncomputable def asCells (b : Blk) (z : α) (k : List V → α) : α := Blk.casesOn b k (fun _ => z) (fun _ => z) (fun _ => z)
noncomputable def rd1K (b : Blk) (o : Nat) (z : α) (k : V → α) : α := Blk.casesOn b (fun cs => nthOK cs o z k) (fun cs => Option.casesOn (nthO cs o) z k) (fun _ => z) (fun _ => z)
noncomputable def rdK (b : Blk) (o n : Nat) (z : α) (k : List V → α) : α := Blk.casesOn b (fun cs => cutK cs o n z k) (fun cs => Option.casesOn (cutO cs o n) z k) (fun _ => z) (fun _ => z)
noncomputable def eLd (x : X) (_ : Call α) (t : List V) (h : H) (z : α) (k : V → H → α) : α :=
  evX x t fun a => match a with
    | .p b o => hGet h b z fun bl => rd1K bl o z fun v => k v h
    | _ => z
noncomputable def eLdn (n : Nat) (x : X) (_ : Call α) (t : List V) (h : H) (z : α) (k : V → H → α) : α :=
  evX x t fun a => match a with
    | .p b o => hGet h b z fun bl => rdK bl o n z fun l => k (.agg l) h
    | _ => z
noncomputable def onesK (l : List V) : Bool := List.rec true (fun x _ ih => Bool.casesOn x.oneCell false ih) l
noncomputable def stK (h : H) (b o : Nat) (vs : List V) (z : α) (k : H → α) : α :=
  hGet h b z fun bl => asCells bl z fun cs => layK cs o vs z fun cs => Bool.casesOn (onesK vs) z (hPut h b (.cells cs) k)
noncomputable def eSt (n : Nat) (x v : X) (_ : Call α) (t : List V) (h : H) (z : α) (k : V → H → α) : α :=
  evX x t fun a => match a with
    | .p b o => evX v t fun v => cellsK v fun vs => lenK vs fun m => Bool.casesOn (Nat.beq m n) z (stK h b o vs z fun h => k .undef h)
    | _ => z
noncomputable def eNil (x : X) (_ : Call α) (t : List V) (h : H) (z : α) (k : V → H → α) : α :=
  evX x t fun a => match a with
    | .p b o => k (.p b o) h
    | .fn f a c => k (.fn f a c) h
    | .yld l => k (.yld l) h
    | _ => z
noncomputable def intK (v : V) (z : α) (k : IntKind → Int → α) : α :=
  V.casesOn v (fun _ => z) k (fun _ => z) z (fun _ _ => z) z (fun _ _ _ _ _ => z) (fun _ => z) z (fun _ => z) z (fun _ _ _ => z) (fun _ => z) z (fun _ _ => z) (fun _ => z) (fun _ => z)
noncomputable def slowBin (op : BinOp) (a b : V) (h : H) (z : α) (k : V → H → α) : α := forceO (binV op a b) z fun v => k v h
noncomputable def fast2 (op : BinOp) (f : Nat → Nat → α → (V → α) → α) (a b : V) (h : H) (z : α) (k : V → H → α) : α :=
  intK a (slowBin op a b h z k) fun ka m => IntKind.casesOn ka (slowBin op a b h z k) (slowBin op a b h z k) (slowBin op a b h z k)
    (intK b (slowBin op a b h z k) fun kb n => IntKind.casesOn kb (slowBin op a b h z k) (slowBin op a b h z k) (slowBin op a b h z k)
      (Int.casesOn m (fun m => Int.casesOn n (fun n => f m n (slowBin op a b h z k) fun v => k v h) (fun _ => slowBin op a b h z k)) (fun _ => slowBin op a b h z k))
      (slowBin op a b h z k) (slowBin op a b h z k) (slowBin op a b h z k) (slowBin op a b h z k))
    (slowBin op a b h z k) (slowBin op a b h z k) (slowBin op a b h z k) (slowBin op a b h z k)
def fAdd (m n : Nat) (s : α) (k : V → α) : α := Bool.casesOn (Nat.ble (Nat.add m n) 9223372036854775807) s (forceN (Nat.add m n) fun r => k (.i .i64 (.ofNat r)))
def fSub (m n : Nat) (s : α) (k : V → α) : α := Bool.casesOn (Nat.ble n m && Nat.ble m 9223372036854775807) s (forceN (Nat.sub m n) fun r => k (.i .i64 (.ofNat r)))
def fMul (m n : Nat) (s : α) (k : V → α) : α := Bool.casesOn (Nat.ble (Nat.mul m n) 9223372036854775807) s (forceN (Nat.mul m n) fun r => k (.i .i64 (.ofNat r)))
def fLss (m n : Nat) (_ : α) (k : V → α) : α := Bool.casesOn (Nat.blt m n) (k (.b false)) (k (.b true))
def fLeq (m n : Nat) (_ : α) (k : V → α) : α := Bool.casesOn (Nat.ble m n) (k (.b false)) (k (.b true))
def fGtr (m n : Nat) (_ : α) (k : V → α) : α := Bool.casesOn (Nat.blt n m) (k (.b false)) (k (.b true))
def fGeq (m n : Nat) (_ : α) (k : V → α) : α := Bool.casesOn (Nat.ble n m) (k (.b false)) (k (.b true))
def fEql (m n : Nat) (_ : α) (k : V → α) : α := Bool.casesOn (Nat.beq m n) (k (.b false)) (k (.b true))
def fNeq (m n : Nat) (_ : α) (k : V → α) : α := Bool.casesOn (Nat.beq m n) (k (.b true)) (k (.b false))
noncomputable def binK (op : BinOp) : V → V → H → α → (V → H → α) → α :=
  BinOp.casesOn op (fast2 .add fAdd) (fast2 .sub fSub) (fast2 .mul fMul) (slowBin .quo) (slowBin .rem) (slowBin .and) (slowBin .or) (slowBin .xor) (slowBin .shl) (slowBin .shr) (slowBin .andNot)
    (fast2 .eql fEql) (fast2 .neq fNeq) (fast2 .lss fLss) (fast2 .leq fLeq) (fast2 .gtr fGtr) (fast2 .geq fGeq)
noncomputable def eBin (op : BinOp) (x y : X) (_ : Call α) (t : List V) (h : H) (z : α) (k : V → H → α) : α :=
  evX x t fun a => evX y t fun b => binK op a b h z k
noncomputable def eEqv (neg : Bool) (kd : EqK) (x y : X) (_ : Call α) (t : List V) (h : H) (z : α) (k : V → H → α) : α :=
  evX x t fun a => evX y t fun b => Option.casesOn (eqV kd a b) z fun r => forceB (if neg then !r else r) fun r => k (.b r) h
noncomputable def eUn (op : UnOp) (x : X) (_ : Call α) (t : List V) (h : H) (z : α) (k : V → H → α) : α :=
  evX x t fun a => forceO (unV op a) z fun v => k v h
noncomputable def eConv (kd : IntKind) (x : X) (_ : Call α) (t : List V) (h : H) (z : α) (k : V → H → α) : α :=
  evX x t fun a => match a with
    | .i _ n => forceZ (kd.wrap n) fun n => k (.i kd n) h
    | _ => z
noncomputable def eMkI (ty : Nat) (x : X) (_ : Call α) (t : List V) (h : H) (_ : α) (k : V → H → α) : α := evX x t fun v => k (.ifc ty v) h
noncomputable def eMkFn (f : Nat) (a c : List X) (_ : Call α) (t : List V) (h : H) (_ : α) (k : V → H → α) : α := evL a t fun a => evL c t fun c => k (.fn f a c) h
noncomputable def eMkMap (_ : Call α) (_ : List V) (h : H) (_ : α) (k : V → H → α) : α := hNew h (.map []) fun n h => k (.m n) h
noncomputable def natK (v : V) (z : α) (k : Nat → α) : α := match v with
  | .i _ (.ofNat n) => k n
  | _ => z
noncomputable def eMkSl (c : List V) (bytes : Nat) (l m : X) (_ : Call α) (t : List V) (h : H) (z : α) (k : V → H → α) : α :=
  evX l t fun l => evX m t fun m => natK l z fun l => natK m z fun m =>
    Bool.casesOn (Nat.ble l m && Nat.ble m 281474976710656 && Nat.ble (Nat.mul bytes m) 281474976710656) z (repK c m fun cs => nfL cs fun cs => hNew h (.cells cs) fun n h => k (.sl n 0 l m none) h)
noncomputable def eSlc (esz : Nat) (x : X) (lo hi mx : Option X) (_ : Call α) (t : List V) (h : H) (z : α) (k : V → H → α) : α :=
  evX x t fun a => forceO (match mx with | none => sliceV esz t lo hi a | some m => sliceV3 esz t lo hi m a) z fun v => k v h
noncomputable def eOther (op : A) (t : List V) (h : H) (z : α) (k : V → H → α) : α :=
  match evA (fun _ _ _ => .fail) op t h with
  | .fail => z
  | .ok v h => forceV v fun v => k v h
noncomputable def eFld (off : Nat) (x : X) (_ : Call α) (t : List V) (h : H) (z : α) (k : V → H → α) : α :=
  evX x t fun a => match a with
    | .p b o => forceN (Nat.add o off) fun o => k (.p b o) h
    | _ => z
noncomputable def eIxS (esz : Nat) (x ix : X) (_ : Call α) (t : List V) (h : H) (z : α) (k : V → H → α) : α :=
  evX x t fun a => evX ix t fun i => natK i z fun n => match a with
    | .sl b o len _ _ => Bool.casesOn (Nat.blt n len) z (forceN (Nat.add o (Nat.mul n esz)) fun o => k (.p b o) h)
    | _ => z
noncomputable def eIxA (len esz : Nat) (x ix : X) (_ : Call α) (t : List V) (h : H) (z : α) (k : V → H → α) : α :=
  evX x t fun a => evX ix t fun i => natK i z fun n => match a with
    | .p b o => Bool.casesOn (Nat.blt n len) z (forceN (Nat.add o (Nat.mul n esz)) fun o => k (.p b o) h)
    | _ => z
noncomputable def asMap (b : Blk) (z : α) (k : List (V × V) → α) : α := Blk.casesOn b (fun _ => z) (fun _ => z) k (fun _ => z)
noncomputable def mputK (fk : KK) (key v : V) (es : List (V × V)) : α → (List (V × V) → α) → α :=
  List.rec (motive := fun _ => α → (List (V × V) → α) → α) (fun _ k => k [(key, v)]) (fun e es ih z k =>
    Bool.casesOn (fk.fits e.1) z (Bool.casesOn (keyEq key e.1) (ih z fun r => k (e :: r)) (k ((e.1, v) :: es)))) es
noncomputable def eMapSet (fk : KK) (x kk v : X) (_ : Call α) (t : List V) (h : H) (z : α) (k : V → H → α) : α :=
  evX x t fun a => evX kk t fun kk => evX v t fun v => match a with
    | .m b => hGet h b z fun bl => asMap bl z fun es => Bool.casesOn (fk.fits kk) z (mputK fk kk v es z fun es => hPut h b (.map es) fun h => k .undef h)
    | _ => z
noncomputable def eExt (x : X) (n : Nat) (_ : Call α) (t : List V) (h : H) (z : α) (k : V → H → α) : α :=
  evX x t fun a => match a with
    | .tup c => nthOK c n z fun v => k v h
    | _ => z
noncomputable def eCall (f : X) (args : List X) (call : Call α) (t : List V) (h : H) (z : α) (k : V → H → α) : α :=
  evX f t fun f => evL args t fun l => call f l h z k
noncomputable def eLenL (x : X) (_ : Call α) (t : List V) (h : H) (z : α) (k : V → H → α) : α :=
  evX x t fun a => match a with
    | .sn => k (.i .i64 (.ofNat 0)) h
    | .se _ => k (.i .i64 (.ofNat 0)) h
    | .sl _ _ n _ _ => k (.i .i64 (.ofNat n)) h
    | _ => z
noncomputable def srcK (esz n : Nat) (h : H) (x : V) (z : α) (k : List V → α) : α :=
  match x with
  | .sn => Bool.casesOn (Nat.beq n 0) z (k [])
  | .sl blk off _ _ _ => hGet h blk z fun bl => rdK bl off (Nat.mul n esz) z k
  | x => Option.casesOn (sourceCells esz n h x) z fun l => nfL l k
noncomputable def eApp (esz bytes : Nat) (s x : X) (_ : Call α) (t : List V) (h : H) (z : α) (k : V → H → α) : α :=
  evX s t fun s => evX x t fun x => Option.casesOn (sourceLen x) z fun n => forceN n fun n => srcK esz n h x z fun new =>
    Bool.casesOn (Nat.ble (Nat.mul (Nat.add (Nat.mul 2 n) 200) bytes) 281474976710656 && Nat.blt 0 bytes && Nat.blt 0 esz) z
      (match s with
      | .sn => Bool.casesOn (Nat.beq n 0) (hNew h (.cells new) fun b h => k (.sl b 0 n n (some esz)) h) (k .sn h)
      | .se a => Bool.casesOn (Nat.beq n 0) (hNew h (.cells new) fun b h => k (.sl b 0 n n (some esz)) h) (k (.se a) h)
      | .sl blk off len cap g => forceN (Nat.add len n) fun m =>
        Bool.casesOn (Nat.ble m cap)
          (Bool.casesOn (Nat.ble (Nat.mul (Nat.add (Nat.mul 2 m) 200) bytes) 281474976710656) z
            (match g with
              | none => hGet h blk z fun bl => rdK bl off (Nat.mul len esz) z fun old => appK old new fun all => hNew h (.cells all) fun b h => k (.sl b 0 m m (some esz)) h
              | some e => hGet h blk z fun bl => asCells bl z fun cs => cutK cs off (Nat.mul len esz) z fun old => appK old new fun all => Bool.casesOn (Nat.beq e esz && Nat.beq off 0 && Nat.beq cs.length (Nat.mul cap esz) && onesK new) z (hKill h blk fun h => hNew h (.cells all) fun b h => k (.sl b 0 m m (some esz)) h)))
          (stK h blk (Nat.add off (Nat.mul len esz)) new z fun h => k (.sl blk off m cap g) h)
      | _ => z)
noncomputable def eCpy (esz : Nat) (d s : X) (_ : Call α) (t : List V) (h : H) (z : α) (k : V → H → α) : α :=
  evX d t fun d => evX s t fun s => Option.casesOn (sourceLen s) z fun m => match d with
    | .sn => k (.i .i64 0) h
    | .sl blk off len _ _ => forceN (Nat.min m len) fun n => srcK esz n h s z fun l => stK h blk off l z fun h => k (.i .i64 (.ofNat n)) h
    | _ => z
noncomputable def eClr (c : List V) (x : X) (_ : Call α) (t : List V) (h : H) (z : α) (k : V → H → α) : α :=
  evX x t fun a => match a with
    | .sn => k .undef h
    | .sl b o n _ _ => Bool.casesOn (Nat.beq n 0) (repK c n fun cs => nfL cs fun cs => stK h b o cs z fun h => k .undef h) (k .undef h)
    | _ => z
noncomputable def evAK (op : A) : Call α → List V → H → α → (V → H → α) → α :=
  A.casesOn op eMov ePick eAlloc eBox eBuild eBuildSl eLd eLdn eSt eNil eBin eEqv eUn eConv eMkI eMkFn eMkMap eMkSl eSlc
    (fun a b c d e _ t h z k => eOther (.slcA a b c d e) t h z k) (fun a b c _ t h z k => eOther (.slcS a b c) t h z k) eFld (fun a b c _ t h z k => eOther (.fldv a b c) t h z k) eIxS eIxA
    (fun a b _ t h z k => eOther (.ixStr a b) t h z k) (fun a b c d e _ t h z k => eOther (.ixV a b c d e) t h z k) (fun a b c d e _ t h z k => eOther (.look a b c d e) t h z k) eMapSet eExt eCall
    (fun a _ t h z k => eOther (.lenS a) t h z k) eLenL (fun n _ _ h _ k => k (.i .i64 (.ofNat n)) h) (fun a _ t h z k => eOther (.lenM a) t h z k) eApp eCpy eClr
    (fun a _ t h z k => eOther (.min a) t h z k) (fun a _ t h z k => eOther (.max a) t h z k) (fun _ _ _ z _ => z)
noncomputable def wantK (g : Option (Nat × Bool)) (t : List V) (y n : α) : α :=
  Option.casesOn g y fun p => Prod.casesOn p fun i w => nthK t i fun v => match v with
    | .b x => Bool.casesOn w (Bool.casesOn x y n) (Bool.casesOn x n y)
    | _ => n
noncomputable def putK (t : List V) (d : Option Nat) (v : V) (k : List V → α) : α := Option.casesOn d (k t) fun n => updK t n v k
noncomputable def opsK (call : Call α) (l : List O) : List V → H → α → (List V → H → α) → α :=
  List.rec (motive := fun _ => List V → H → α → (List V → H → α) → α) (fun t h _ k => k t h)
    (fun o _ ih t h z k => O.casesOn o fun d g op =>
      wantK g t (evAK op call t h z fun v h' => putK t d v fun t' => ih t' h' z k) (putK t d .undef fun t' => ih t' h z k)) l
noncomputable def oldK (n : Nat) (l : List Nat) : (List Nat → α) → α :=
  List.rec (motive := fun _ => (List Nat → α) → α) (fun k => k []) (fun x _ ih k => Bool.casesOn (Nat.blt x n) (ih k) (ih fun r => k (x :: r))) l
noncomputable def natsApp (l r : List Nat) (k : List Nat → α) : α :=
  List.rec (motive := fun _ => (List Nat → α) → α) (fun k => k r) (fun x _ ih k => ih fun s => k (x :: s)) l k
noncomputable def drawK (call : Call α) (l : List O) : List V → H → List Foot → α → (List V → H → List Foot → α) → α :=
  List.rec (motive := fun _ => List V → H → List Foot → α → (List V → H → List Foot → α) → α) (fun t h f _ k => k t h f)
    (fun o _ ih t h f z k => O.casesOn o fun d g op =>
      wantK g t (H.casesOn h fun n0 m0 l0 => evAK op call t ⟨n0, m0, []⟩ z fun v h' => H.casesOn h' fun n1 m1 l1 => oldK n0 l1 fun old => natsApp old l0 fun l2 =>
          putK t d v fun t' => ih t' ⟨n1, m1, l2⟩ (f ++ [⟨reads op t, old⟩]) z k)
        (putK t d .undef fun t' => ih t' h (f ++ [⟨some [], []⟩]) z k)) l
abbrev R0 (α : Type) := C → List V → H → α → (Out → List V → H → α) → α
noncomputable def resK (t : List V) (h : H) (l : List ResV) : α → (List V → α) → α :=
  List.rec (motive := fun _ => α → (List V → α) → α) (fun _ k => k [])
    (fun r _ ih z k => ResV.casesOn r (fun n => nthK t n fun v => ih z fun s => k (v :: s))
      (fun n sz => nthK t n fun a => match a with
        | .p b o => hGet h b z fun bl => asCells bl z fun cs => Option.casesOn sz (nthOK cs o z fun v => ih z fun s => k (v :: s)) (fun m => cutK cs o m z fun l => ih z fun s => k (.agg l :: s))
        | _ => z)
      (fun v => List.casesOn t (ih z fun s => k (v :: s)) (fun _ _ => z))) l
noncomputable def packK (l : List V) (k : V → α) : α := List.casesOn l (k (.tup [])) fun x r => List.casesOn r (k x) fun y s => k (.tup (x :: y :: s))
noncomputable def padK (l : List V) : Nat → (List V → α) → α :=
  List.rec (motive := fun _ => Nat → (List V → α) → α) (fun n k => repK [V.undef] n k) (fun x _ ih n k => Nat.casesOn n (ih 0 fun r => k (x :: r)) (fun m => ih m fun r => k (x :: r))) l
noncomputable def updsK (ps : List Nat) : List V → List V → (List V → α) → α :=
  List.rec (motive := fun _ => List V → List V → (List V → α) → α) (fun t _ k => k t) (fun p _ ih t vs k => List.casesOn vs (k t) fun v vs => updK t p v fun t' => ih t' vs k) ps
noncomputable def callFn (tbl : Nat → Option FI) (r : R0 α) (g : Nat) (a c args : List V) (h : H) (z : α) (k : V → H → α) : α :=
  Option.casesOn (tbl g) z fun fi => FI.casesOn fi fun n res body => appK a args fun l => appK l c fun l => padK l n fun t =>
    r body t h z fun o t' h' => Out.casesOn o (resK t' h' res z fun l => packK l fun v => k v h') (fun _ => z) (resK t' h' res z fun l => packK l fun v => k v h')
noncomputable def asLoop (b : Blk) (z : α) (k : Loop → α) : α := Blk.casesOn b (fun _ => z) (fun _ => z) (fun _ => z) k
noncomputable def callYld (r : R0 α) (l : Nat) (args : List V) (h : H) (z : α) (k : V → H → α) : α :=
  hGet h l z fun bl => asLoop bl z fun lp => Loop.casesOn lp fun _ _ tm ps ag bo0 => Bool.casesOn (Nat.beq args.length ps.length) z
      (updsK ps tm args fun t => r ag t h z fun o t h1 => match o with
        | .norm => hGet h1 l z fun bl => asLoop bl z fun lp => match lp with
          | ⟨.ready, pe, tm, ps, ag, bo⟩ => hPut h1 l (.loop ⟨.busy, pe, tm, ps, ag, bo⟩) fun h2 => r bo0 t h2 z fun o _ h2 => hGet h2 l z fun bl => asLoop bl z fun lp => match lp with
              | ⟨.busy, _, tm, ps, ag, bo⟩ => match o with
                | .norm => hPut h2 l (.loop ⟨.ready, none, tm, ps, ag, bo⟩) fun h3 => k (.b true) h3
                | .exit i => hPut h2 l (.loop ⟨.done, some (.exit i), tm, ps, ag, bo⟩) fun h3 => k (.b false) h3
                | .ret => hPut h2 l (.loop ⟨.done, some .ret, tm, ps, ag, bo⟩) fun h3 => k (.b false) h3
              | _ => z
          | _ => z
        | _ => z)
noncomputable def callK (tbl : Nat → Option FI) (r : R0 α) : Call α := fun f args h z k =>
  match f with
  | .fn g a c => callFn tbl r g a c args h z k
  | .yld l => callYld r l args h z k
  | _ => z
abbrev CK (α : Type) := (Nat → Option FI) → R0 α → List V → H → α → (Out → List V → H → α) → α
noncomputable def cSkip (_ : Nat → Option FI) (_ : R0 α) (t : List V) (h : H) (_ : α) (k : Out → List V → H → α) : α := k .norm t h
noncomputable def cOps (l : List O) (tbl : Nat → Option FI) (r : R0 α) (t : List V) (h : H) (z : α) (k : Out → List V → H → α) : α := opsK (callK tbl r) l t h z fun t h => k .norm t h
noncomputable def cDraw (l : List O) (crit : List (Nat × Nat)) (tbl : Nat → Option FI) (r : R0 α) (t : List V) (h : H) (z : α) (k : Out → List V → H → α) : α :=
  drawK (callK tbl r) l t h [] z fun t h f => Bool.casesOn (critOk f crit) z (k .norm t h)
noncomputable def cSeq (a b : C) (_ : Nat → Option FI) (r : R0 α) (t : List V) (h : H) (z : α) (k : Out → List V → H → α) : α :=
  r a t h z fun o t' h' => Out.casesOn o (r b t' h' z k) (fun i => k (.exit i) t' h') (k .ret t' h')
noncomputable def cCond (x : X) (a b : C) (_ : Nat → Option FI) (r : R0 α) (t : List V) (h : H) (z : α) (k : Out → List V → H → α) : α :=
  evX x t fun c => match c with
    | .b true => r a t h z k
    | .b false => r b t h z k
    | _ => z
noncomputable def cBlock (id : Nat) (a : C) (_ : Nat → Option FI) (r : R0 α) (t : List V) (h : H) (z : α) (k : Out → List V → H → α) : α :=
  r a t h z fun o t' h' => Out.casesOn o (k .norm t' h') (fun i => Bool.casesOn (Nat.beq i id) (k (.exit i) t' h') (k .norm t' h')) (k .ret t' h')
noncomputable def cLoop (a : C) (_ : Nat → Option FI) (r : R0 α) (t : List V) (h : H) (z : α) (k : Out → List V → H → α) : α :=
  r a t h z fun o t' h' => Out.casesOn o (r (.loop a) t' h' z k) (fun i => k (.exit i) t' h') (k .ret t' h')
noncomputable def cExit (id : Nat) (_ : Nat → Option FI) (_ : R0 α) (t : List V) (h : H) (_ : α) (k : Out → List V → H → α) : α := k (.exit id) t h
noncomputable def cRet (_ : Nat → Option FI) (_ : R0 α) (t : List V) (h : H) (_ : α) (k : Out → List V → H → α) : α := k .ret t h
noncomputable def cRange (f : X) (ps : List Nat) (ag bo : C) (tbl : Nat → Option FI) (r : R0 α) (t : List V) (h : H) (z : α) (k : Out → List V → H → α) : α :=
  evX f t fun f => match f with
    | .fn g a c => hNew h (.loop ⟨.ready, none, t, ps, ag, bo⟩) fun l h => callFn tbl r g a c [.yld l] h z fun _ h' =>
      hGet h' l z fun bl => asLoop bl z fun lp => match lp with
        | ⟨st, pe, tm, ps, ag, bo⟩ => match st with
          | .busy => z
          | _ => hPut h' l (.loop ⟨.over, pe, tm, ps, ag, bo⟩) fun h3 => match pe with
            | none => k .norm t h3
            | some o => k o t h3
    | _ => z
noncomputable def stepK (c : C) : CK α :=
  C.casesOn c cSkip cOps cDraw cSeq cCond cBlock cLoop cExit cRet cRange
noncomputable def EK (tbl : Nat → Option FI) (k : Nat) : R0 α := Nat.rec (fun _ _ _ z _ => z) (fun _ r c => stepK c tbl r) k
noncomputable def runK (tbl : Nat → Option FI) (k f : Nat) (args : List V) (h : H) (z : α) (g : V → H → α) : α := callK tbl (EK tbl k) (.fn f [] []) args h z g
end Go.Air.Fast
namespace Go.Air.Fast
universe u
variable {α : Type}
theorem forceN_eq (n : Nat) (k : Nat → α) : forceN n k = k n := by cases n <;> rfl
theorem forceZ_eq (z : Int) (k : Int → α) : forceZ z k = k z := by cases z <;> simp [forceZ, forceN_eq]
theorem forceB_eq (b : Bool) (k : Bool → α) : forceB b k = k b := by cases b <;> rfl
theorem nthK_eq : ∀ (l : List V) (n : Nat) (k : V → α), nthK l n k = k (nth l n)
  | [], _, _ => rfl
  | _ :: _, 0, _ => rfl
  | _ :: l, n + 1, k => nthK_eq l n k
theorem nthOK_eq : ∀ (l : List V) (n : Nat) (z : α) (k : V → α), nthOK l n z k = match nth? l n with | none => z | some v => k v
  | [], _, _, _ => rfl
  | _ :: _, 0, _, _ => rfl
  | _ :: l, n + 1, z, k => nthOK_eq l n z k
theorem updK_eq : ∀ (l : List V) (n : Nat) (v : V) (k : List V → α), updK l n v k = k (upd l n v)
  | [], _, _, _ => rfl
  | _ :: _, 0, _, _ => rfl
  | x :: l, n + 1, v, k => updK_eq l n v _
theorem takeK_eq : ∀ (l : List V) (n : Nat) (z : α) (k : List V → α), takeK l n z k = match cut l 0 n with | none => z | some v => k v
  | [], 0, _, _ => rfl
  | [], _ + 1, _, _ => rfl
  | _ :: _, 0, _, _ => rfl
  | x :: l, n + 1, z, k => by
    show takeK l n z (fun r => k (x :: r)) = _
    rw [takeK_eq l n]
    simp only [cut]
    cases cut l 0 n <;> rfl
theorem cutK_eq : ∀ (l : List V) (o n : Nat) (z : α) (k : List V → α), cutK l o n z k = match cut l o n with | none => z | some v => k v
  | [], 0, 0, _, _ => rfl
  | [], 0, _ + 1, _, _ => rfl
  | [], _ + 1, _, _, _ => rfl
  | x :: l, 0, n, z, k => takeK_eq (x :: l) n z k
  | x :: l, o + 1, n, z, k => by
    show cutK l o n z k = _
    rw [cutK_eq l o n]
    rfl
theorem layK0_eq : ∀ (l vs : List V) (z : α) (k : List V → α), layK0 l vs z k = match lay l 0 vs with | none => z | some v => k v
  | [], [], _, _ => rfl
  | [], _ :: _, _, _ => rfl
  | _ :: _, [], _, _ => rfl
  | x :: l, v :: vs, z, k => by
    show layK0 l vs z (fun r => k (v :: r)) = _
    rw [layK0_eq l vs]
    simp only [lay]
    cases lay l 0 vs <;> rfl
theorem layK_eq : ∀ (l : List V) (o : Nat) (vs : List V) (z : α) (k : List V → α), layK l o vs z k = match lay l o vs with | none => z | some v => k v
  | [], 0, vs, z, k => layK0_eq [] vs z k
  | [], _ + 1, _, _, _ => rfl
  | x :: l, 0, vs, z, k => layK0_eq (x :: l) vs z k
  | x :: l, o + 1, vs, z, k => by
    show layK l o vs z (fun r => k (x :: r)) = _
    rw [layK_eq l o vs]
    simp only [lay]
    cases lay l o vs <;> rfl
theorem appK_eq : ∀ (l r : List V) (k : List V → α), appK l r k = k (l ++ r)
  | [], _, _ => rfl
  | x :: l, r, k => appK_eq l r _
theorem repK_eq (z : List V) : ∀ (n : Nat) (k : List V → α), repK z n k = k (rep z n)
  | 0, _ => rfl
  | n + 1, k => by
    show repK z n (fun r => appK z r k) = _
    rw [repK_eq z n, appK_eq]; rfl
theorem lenK_eq : ∀ (l : List V) (k : Nat → α), lenK l k = k l.length
  | [], _ => rfl
  | x :: l, k => by
    show lenK l (fun n => forceN (Nat.succ n) k) = _
    rw [lenK_eq l, forceN_eq]; rfl
theorem nfL_eq : ∀ (l : List V) (k : List V → α), nfL l k = k l
  | [], _ => rfl
  | x :: l, k => by
    show nfL l (fun r => _) = _
    rw [nfL_eq l]
    cases x <;> simp [forceB_eq, forceZ_eq]
theorem getK_eq : ∀ (t : T Blk) (n : Nat) (z : α) (k : Blk → α), getK t n z k = match t.get n with | none => z | some b => k b
  | .e, _, _, _ => rfl
  | .n l x r, 0, z, k => by cases x <;> rfl
  | .n l x r, m + 1, z, k => by
    show (Nat.casesOn (motive := fun _ => α) (Nat.mod m 2) (getK l (Nat.div m 2) z k) (fun _ => getK r (Nat.div m 2) z k)) = _
    simp only [T.get]
    rw [show Nat.mod m 2 = m % 2 from rfl, show Nat.div m 2 = m / 2 from rfl]
    cases m % 2 with
    | zero => exact getK_eq l (m / 2) z k
    | succ j => exact getK_eq r (m / 2) z k
theorem setF_fuel {β : Type} (v : Option β) : ∀ (f g : Nat) (t : T β) (k : Nat), k < f → k < g → T.setF f t k v = T.setF g t k v
  | 0, _, _, _, h, _ => by omega
  | _ + 1, 0, _, _, _, h => by omega
  | f + 1, g + 1, .e, 0, _, _ => rfl
  | f + 1, g + 1, .n l x r, 0, _, _ => rfl
  | f + 1, g + 1, .e, k + 1, h1, h2 => by
    simp only [T.setF]
    rw [setF_fuel v f g .e (k / 2) (by omega) (by omega)]
  | f + 1, g + 1, .n l x r, k + 1, h1, h2 => by
    simp only [T.setF]
    rw [setF_fuel v f g l (k / 2) (by omega) (by omega), setF_fuel v f g r (k / 2) (by omega) (by omega)]
theorem leafK_eq (x : Option Blk) : ∀ (f n : Nat) (k : T Blk → α), n < f → leafK x f n k = k (T.setF f .e n x)
  | 0, n, _, h => by omega
  | f + 1, 0, _, _ => rfl
  | f + 1, m + 1, k, h => by
    show (Nat.casesOn (motive := fun _ => α) (Nat.mod m 2) (leafK x f (Nat.div m 2) fun s => k (.n s none .e)) (fun _ => leafK x f (Nat.div m 2) fun s => k (.n .e none s))) = _
    simp only [T.setF]
    rw [show Nat.mod m 2 = m % 2 from rfl, show Nat.div m 2 = m / 2 from rfl]
    cases m % 2 with
    | zero => exact leafK_eq x f (m / 2) _ (by omega)
    | succ j => exact leafK_eq x f (m / 2) _ (by omega)
theorem setK_eq (x : Option Blk) (f : Nat) : ∀ (t : T Blk) (n : Nat) (k : T Blk → α), n < f → setK x f t n k = k (T.setF f t n x)
  | .e, n, k, h => leafK_eq x f n k h
  | .n l y r, 0, k, h => by
    cases f with
    | zero => omega
    | succ f => rfl
  | .n l y r, m + 1, k, h => by
    cases f with
    | zero => omega
    | succ f =>
      show (Nat.casesOn (motive := fun _ => α) (Nat.mod m 2) (setK x (f + 1) l (Nat.div m 2) fun s => k (.n s y r)) (fun _ => setK x (f + 1) r (Nat.div m 2) fun s => k (.n l y s))) = _
      simp only [T.setF]
      rw [show Nat.mod m 2 = m % 2 from rfl, show Nat.div m 2 = m / 2 from rfl]
      cases m % 2 with
      | zero =>
        have := setK_eq x (f + 1) l (m / 2) (fun s => k (.n s y r)) (by omega)
        refine this.trans ?_
        simp only
        rw [setF_fuel x (f + 1) f l (m / 2) (by omega) (by omega)]
      | succ j =>
        have := setK_eq x (f + 1) r (m / 2) (fun s => k (.n l y s)) (by omega)
        refine this.trans ?_
        simp only
        rw [setF_fuel x (f + 1) f r (m / 2) (by omega) (by omega)]
theorem hGet_eq (h : H) (b : Nat) (z : α) (k : Blk → α) : hGet h b z k = match h.get b with | none => z | some x => k x := getK_eq _ _ _ _
theorem hNew_eq (h : H) (x : Blk) (k : Nat → H → α) : hNew h x k = k h.next (h.new x) := by
  show setK (some x) (Nat.succ h.next) h.mem h.next _ = _
  rw [setK_eq _ _ _ _ _ (Nat.lt_succ_self _), forceN_eq]; rfl
theorem hPut_eq (h : H) (b : Nat) (x : Blk) (k : H → α) : hPut h b x k = k (h.put b x) := by
  show setK (some x) (Nat.succ b) h.mem b _ = _
  rw [setK_eq _ _ _ _ _ (Nat.lt_succ_self _)]; rfl
theorem hKill_eq (h : H) (b : Nat) (k : H → α) : hKill h b k = k (h.kill b) := by
  show setK none (Nat.succ b) h.mem b _ = _
  rw [setK_eq _ _ _ _ _ (Nat.lt_succ_self _)]; rfl
theorem evX_eq (x : X) (t : List V) (k : V → α) : evX x t k = k (x.ev t) := by
  cases x
  · exact nthK_eq _ _ _
  · rfl
  · rfl
theorem evL_eq (t : List V) : ∀ (xs : List X) (k : List V → α), evL xs t k = k (xs.map (X.ev t))
  | [], _ => rfl
  | x :: xs, k => by
    show evX x t (fun v => evL xs t fun r => k (v :: r)) = _
    rw [evX_eq, evL_eq t xs]; rfl
theorem cellsK_eq (v : V) (k : List V → α) : cellsK v k = k v.cells := by cases v <;> rfl
theorem fillK_eq (t : List V) : ∀ (ps : List (Nat × Nat × X)) (z : List V) (e : α) (k : List V → α), fillK t ps z e k = match fill t z ps with | none => e | some r => k r
  | [], _, _, _ => rfl
  | (off, sz, x) :: ps, z, e, k => by
    show evX x t (fun v => cellsK v fun cs => lenK cs fun n => Bool.casesOn (motive := fun _ => α) (Nat.beq n sz) e (layK z off cs e fun z1 => fillK t ps z1 e k)) = _
    rw [evX_eq, cellsK_eq, lenK_eq]
    simp only [fill]
    cases Nat.beq (x.ev t).cells.length sz with
    | false => rfl
    | true =>
      simp only [if_true]
      rw [layK_eq]
      cases lay z off (x.ev t).cells with
      | none => rfl
      | some z' => exact fillK_eq t ps z' e k
theorem forceV_eq (v : V) (k : V → α) : forceV v k = k v := by cases v <;> simp [forceV, forceB_eq, forceZ_eq, forceN_eq]
theorem forceO_eq (v : Option V) (z : α) (k : V → α) : forceO v z k = match v with | none => z | some v => k v := by
  cases v
  · rfl
  · exact forceV_eq _ _
def RO.el (r : RO) (z : α) (k : V → H → α) : α := match r with
  | .fail => z
  | .ok v h => k v h
theorem forceO_el (v : Option V) (h : H) (z : α) (k : V → H → α) : forceO v z (fun v => k v h) = RO.el (RO.ofV h v) z k := by
  rw [forceO_eq]; cases v <;> rfl
end Go.Air.Fast
namespace Go.Air.Fast
universe u
variable {α : Type}
theorem wrap64 {n : Int} (h0 : 0 ≤ n) (h1 : n ≤ 9223372036854775807) : IntKind.i64.wrap n = n := by
  unfold IntKind.wrap
  simp only [IntKind.bits, IntKind.signed, Bool.true_and, ge_iff_le, decide_eq_true_eq]
  have : n % (2 ^ 64 : Int) = n := Int.emod_eq_of_lt h0 (by omega)
  rw [this, if_neg (by omega)]
theorem slowBin_eq (op : BinOp) (a b : V) (h : H) (z : α) (k : V → H → α) : slowBin op a b h z k = RO.el (RO.ofV h (binV op a b)) z k := forceO_el _ _ _ _
theorem fast2_eq {op : BinOp} {f : Nat → Nat → α → (V → α) → α}
    (hf : ∀ m n s k, f m n s k = s ∨ ∃ v, binV op (.i .i64 (.ofNat m)) (.i .i64 (.ofNat n)) = some v ∧ f m n s k = k v) (a b : V) (h : H) (z : α) (k : V → H → α) :
    fast2 op f a b h z k = RO.el (RO.ofV h (binV op a b)) z k := by
  have slow : ∀ a b, fast2 op f a b h z k = slowBin op a b h z k → fast2 op f a b h z k = RO.el (RO.ofV h (binV op a b)) z k := fun a b e => e.trans (slowBin_eq op a b h z k)
  cases a <;> try exact slow _ _ rfl
  rename_i ka m
  cases ka <;> try exact slow _ _ rfl
  cases b <;> try exact slow _ _ rfl
  rename_i kb n
  cases kb <;> try exact slow _ _ rfl
  cases m <;> try exact slow _ _ rfl
  cases n <;> try exact slow _ _ rfl
  rename_i m n
  show f m n (slowBin op (.i .i64 (.ofNat m)) (.i .i64 (.ofNat n)) h z k) (fun v => k v h) = _
  rcases hf m n (slowBin op (.i .i64 (.ofNat m)) (.i .i64 (.ofNat n)) h z k) (fun v => k v h) with e | ⟨v, e1, e2⟩
  · rw [e]; exact slowBin_eq _ _ _ _ _ _
  · rw [e2, e1]; rfl
theorem fAdd_ok (m n : Nat) (s : α) (k : V → α) : fAdd m n s k = s ∨ ∃ v, binV .add (.i .i64 (.ofNat m)) (.i .i64 (.ofNat n)) = some v ∧ fAdd m n s k = k v := by
  unfold fAdd
  cases hb : Nat.ble (Nat.add m n) 9223372036854775807 with
  | false => exact .inl rfl
  | true =>
    refine .inr ⟨.i .i64 (.ofNat (m + n)), ?_, forceN_eq _ _⟩
    have : m + n ≤ 9223372036854775807 := Nat.le_of_ble_eq_true hb
    simp only [binV, binI, if_true]
    rw [wrap64 (by simp; omega) (by simp; omega)]
    simp
theorem fSub_ok (m n : Nat) (s : α) (k : V → α) : fSub m n s k = s ∨ ∃ v, binV .sub (.i .i64 (.ofNat m)) (.i .i64 (.ofNat n)) = some v ∧ fSub m n s k = k v := by
  unfold fSub
  cases hb : (Nat.ble n m && Nat.ble m 9223372036854775807) with
  | false => exact .inl rfl
  | true =>
    refine .inr ⟨.i .i64 (.ofNat (m - n)), ?_, forceN_eq _ _⟩
    rw [Bool.and_eq_true] at hb
    have h1 : n ≤ m := Nat.le_of_ble_eq_true hb.1
    have h2 : m ≤ 9223372036854775807 := Nat.le_of_ble_eq_true hb.2
    simp only [binV, binI, if_true]
    rw [wrap64 (by simp; omega) (by simp; omega)]
    simp; omega
theorem fMul_ok (m n : Nat) (s : α) (k : V → α) : fMul m n s k = s ∨ ∃ v, binV .mul (.i .i64 (.ofNat m)) (.i .i64 (.ofNat n)) = some v ∧ fMul m n s k = k v := by
  unfold fMul
  cases hb : Nat.ble (Nat.mul m n) 9223372036854775807 with
  | false => exact .inl rfl
  | true =>
    refine .inr ⟨.i .i64 (.ofNat (m * n)), ?_, forceN_eq _ _⟩
    have h1 : m * n ≤ 9223372036854775807 := Nat.le_of_ble_eq_true hb
    have e : (Int.ofNat m * Int.ofNat n) = Int.ofNat (m * n) := by simp
    simp only [binV, binI, if_true]
    have h2 : (Int.ofNat (m * n)) ≤ 9223372036854775807 := by simp only [Int.ofNat_eq_natCast]; omega
    rw [e, wrap64 (n := Int.ofNat (m * n)) (Int.natCast_nonneg _) h2]
theorem ble_dec (m n : Nat) : Nat.ble m n = decide (m ≤ n) := by
  rw [Bool.eq_iff_iff]; simp
theorem blt_dec (m n : Nat) : Nat.blt m n = decide (m < n) := by
  rw [Bool.eq_iff_iff]; simp [Nat.blt]; omega
theorem beq_dec (m n : Nat) : Nat.beq m n = decide (m = n) := by
  rw [Bool.eq_iff_iff]; simp
theorem fLss_ok (m n : Nat) (s : α) (k : V → α) : fLss m n s k = s ∨ ∃ v, binV .lss (.i .i64 (.ofNat m)) (.i .i64 (.ofNat n)) = some v ∧ fLss m n s k = k v := by
  refine .inr ⟨.b (decide (m < n)), by simp [binV, binI], ?_⟩
  unfold fLss; rw [blt_dec]; cases decide (m < n) <;> rfl
theorem fLeq_ok (m n : Nat) (s : α) (k : V → α) : fLeq m n s k = s ∨ ∃ v, binV .leq (.i .i64 (.ofNat m)) (.i .i64 (.ofNat n)) = some v ∧ fLeq m n s k = k v := by
  refine .inr ⟨.b (decide (m ≤ n)), by simp [binV, binI], ?_⟩
  unfold fLeq; rw [ble_dec]; cases decide (m ≤ n) <;> rfl
theorem fGtr_ok (m n : Nat) (s : α) (k : V → α) : fGtr m n s k = s ∨ ∃ v, binV .gtr (.i .i64 (.ofNat m)) (.i .i64 (.ofNat n)) = some v ∧ fGtr m n s k = k v := by
  refine .inr ⟨.b (decide (n < m)), by simp [binV, binI], ?_⟩
  unfold fGtr; rw [blt_dec]; cases decide (n < m) <;> rfl
theorem fGeq_ok (m n : Nat) (s : α) (k : V → α) : fGeq m n s k = s ∨ ∃ v, binV .geq (.i .i64 (.ofNat m)) (.i .i64 (.ofNat n)) = some v ∧ fGeq m n s k = k v := by
  refine .inr ⟨.b (decide (n ≤ m)), by simp [binV, binI], ?_⟩
  unfold fGeq; rw [ble_dec]; cases decide (n ≤ m) <;> rfl
theorem fEql_ok (m n : Nat) (s : α) (k : V → α) : fEql m n s k = s ∨ ∃ v, binV .eql (.i .i64 (.ofNat m)) (.i .i64 (.ofNat n)) = some v ∧ fEql m n s k = k v := by
  refine .inr ⟨.b (decide (m = n)), by simp [binV, binI]; omega, ?_⟩
  unfold fEql; rw [beq_dec]; cases decide (m = n) <;> rfl
theorem fNeq_ok (m n : Nat) (s : α) (k : V → α) : fNeq m n s k = s ∨ ∃ v, binV .neq (.i .i64 (.ofNat m)) (.i .i64 (.ofNat n)) = some v ∧ fNeq m n s k = k v := by
  refine .inr ⟨.b (!decide (m = n)), by simp [binV, binI]; omega, ?_⟩
  unfold fNeq; rw [beq_dec]; cases decide (m = n) <;> rfl
theorem binK_eq (op : BinOp) (a b : V) (h : H) (z : α) (k : V → H → α) : binK op a b h z k = RO.el (RO.ofV h (binV op a b)) z k := by
  cases op <;> first | exact slowBin_eq _ _ _ _ _ _ | skip
  · exact fast2_eq fAdd_ok _ _ _ _ _
  · exact fast2_eq fSub_ok _ _ _ _ _
  · exact fast2_eq fMul_ok _ _ _ _ _
  · exact fast2_eq fEql_ok _ _ _ _ _
  · exact fast2_eq fNeq_ok _ _ _ _ _
  · exact fast2_eq fLss_ok _ _ _ _ _
  · exact fast2_eq fLeq_ok _ _ _ _ _
  · exact fast2_eq fGtr_ok _ _ _ _ _
  · exact fast2_eq fGeq_ok _ _ _ _ _
theorem asCells_eq (b : Blk) (z : α) (k : List V → α) : asCells b z k = match b with | .cells c => k c | _ => z := by cases b <;> rfl
theorem asMap_eq (b : Blk) (z : α) (k : List (V × V) → α) : asMap b z k = match b with | .map c => k c | _ => z := by cases b <;> rfl
theorem asLoop_eq (b : Blk) (z : α) (k : Loop → α) : asLoop b z k = match b with | .loop c => k c | _ => z := by cases b <;> rfl
theorem onesK_eq : ∀ (l : List V), onesK l = l.all V.oneCell
  | [] => rfl
  | x :: l => by
    show (Bool.casesOn (motive := fun _ => Bool) x.oneCell false (onesK l)) = _
    rw [onesK_eq l, List.all_cons]
    cases x.oneCell <;> rfl
theorem stK_eq (h : H) (b o : Nat) (vs : List V) (z : α) (k : H → α) : stK h b o vs z k = match storeAt h b o vs with | none => z | some h' => k h' := by
  unfold stK storeAt
  rw [hGet_eq]
  cases h.get b with
  | none => rfl
  | some bl =>
    cases bl with
    | cells cs =>
      simp only [asCells_eq, layK_eq]
      cases lay cs o vs with
      | none => rfl
      | some cs' =>
        simp only [onesK_eq]
        cases vs.all V.oneCell with
        | false => rfl
        | true => exact hPut_eq _ _ _ _
    | ro _ => rfl
    | map _ => rfl
    | loop _ => rfl
theorem rd1K_eq (b : Blk) (o : Nat) (z : α) (k : V → α) : rd1K b o z k = match b.rd1 o with | none => z | some v => k v := by
  cases b with
  | cells cs => exact nthOK_eq _ _ _ _
  | ro cs =>
    show (Option.casesOn (motive := fun _ => α) (nthO cs o) z k) = match nthO cs o with | none => z | some v => k v
    cases nthO cs o <;> rfl
  | map _ => rfl
  | loop _ => rfl
theorem rdK_eq (b : Blk) (o n : Nat) (z : α) (k : List V → α) : rdK b o n z k = match b.rd o n with | none => z | some v => k v := by
  cases b with
  | cells cs => exact cutK_eq _ _ _ _ _
  | ro cs =>
    show (Option.casesOn (motive := fun _ => α) (cutO cs o n) z k) = match cutO cs o n with | none => z | some v => k v
    cases cutO cs o n <;> rfl
  | map _ => rfl
  | loop _ => rfl
theorem srcK_eq (esz n : Nat) (h : H) (x : V) (z : α) (k : List V → α) : srcK esz n h x z k = match sourceCells esz n h x with | none => z | some l => k l := by
  have slow : (Option.casesOn (motive := fun _ => α) (sourceCells esz n h x) z fun l => nfL l k) = match sourceCells esz n h x with | none => z | some l => k l := by
    cases sourceCells esz n h x with
    | none => rfl
    | some l => exact nfL_eq _ _
  cases x <;> first | exact slow | skip
  · unfold srcK sourceCells
    cases Nat.beq n 0 <;> rfl
  · unfold srcK sourceCells
    simp only
    rw [hGet_eq]
    cases h.get _ with
    | none => rfl
    | some bl => exact rdK_eq _ _ _ _ _
theorem natK_eq (v : V) (z : α) (k : Nat → α) : natK v z k = match natOf v with | none => z | some n => k n := by
  cases v <;> try rfl
  rename_i kd n
  cases n <;> rfl
theorem mputK_eq (fk : KK) (key v : V) : ∀ (es : List (V × V)) (z : α) (k : List (V × V) → α), mputK fk key v es z k = match mput fk key v es with | none => z | some r => k r
  | [], _, _ => rfl
  | e :: es, z, k => by
    show (Bool.casesOn (motive := fun _ => α) (fk.fits e.1) z (Bool.casesOn (motive := fun _ => α) (keyEq key e.1) (mputK fk key v es z fun r => k (e :: r)) (k ((e.1, v) :: es)))) = _
    simp only [mput]
    cases fk.fits e.1 with
    | false => rfl
    | true =>
      simp only [if_true]
      cases keyEq key e.1 with
      | true => rfl
      | false =>
        simp only [Bool.false_eq_true, if_false]
        rw [mputK_eq fk key v es]
        cases mput fk key v es <;> rfl
def CallEq (cK : Call α) (call : V → List V → H → RO) : Prop := ∀ f args h z k, cK f args h z k = RO.el (call f args h) z k
theorem eOther_eq {op : A} {call : V → List V → H → RO} (hop : ∀ t h, evA (fun _ _ _ => .fail) op t h = evA call op t h) (t : List V) (h : H) (z : α) (k : V → H → α) : eOther op t h z k = RO.el (evA call op t h) z k := by
  unfold eOther
  rw [hop]
  cases evA call op t h with
  | fail => rfl
  | ok v h => exact forceV_eq _ _
theorem eSt_eq (n : Nat) (x v : X) {call : V → List V → H → RO} (cK : Call α) (t : List V) (h : H) (z : α) (k : V → H → α) : eSt n x v cK t h z k = RO.el (evA call (.st n x v) t h) z k := by
  unfold eSt
  simp only [evX_eq, evA]
  cases x.ev t <;> try rfl
  simp only [cellsK_eq, lenK_eq, stK_eq]
  cases Nat.beq (v.ev t).cells.length n with
  | false => rfl
  | true =>
    simp only [if_true]
    cases storeAt h _ _ (v.ev t).cells <;> rfl
theorem eApp_eq (esz bytes : Nat) (s x : X) {call : V → List V → H → RO} (cK : Call α) (t : List V) (h : H) (z : α) (k : V → H → α) : eApp esz bytes s x cK t h z k = RO.el (evA call (.app esz bytes s x) t h) z k := by
  unfold eApp
  simp only [evX_eq, evA]
  unfold appendV
  cases sourceLen (x.ev t) with
  | none => rfl
  | some n =>
    simp only [forceN_eq, srcK_eq]
    cases sourceCells esz n h (x.ev t) with
    | none => rfl
    | some new =>
      simp only
      rw [show Nat.ble (Nat.mul (Nat.add (Nat.mul 2 n) 200) bytes) 281474976710656 = Nat.ble ((2 * n + 200) * bytes) 281474976710656 from rfl]
      cases (Nat.ble ((2 * n + 200) * bytes) 281474976710656 && Nat.blt 0 bytes && Nat.blt 0 esz) with
      | false => rfl
      | true =>
        simp only [if_true]
        cases s.ev t <;> try rfl
        · simp only [hNew_eq]
          cases Nat.beq n 0 <;> rfl
        rotate_left
        · simp only [hNew_eq]
          cases Nat.beq n 0 <;> rfl
        · rename_i blk off len cap g
          simp only
          rw [show Nat.add len n = len + n from rfl]
          cases Nat.ble (len + n) cap with
          | true =>
            simp only [if_true, stK_eq]
            rw [show Nat.add off (Nat.mul len esz) = off + len * esz from rfl]
            cases storeAt h blk (off + len * esz) new <;> rfl
          | false =>
            simp only [Bool.false_eq_true, if_false]
            rw [show Nat.ble (Nat.mul (Nat.add (Nat.mul 2 (len + n)) 200) bytes) 281474976710656 = Nat.ble ((2 * (len + n) + 200) * bytes) 281474976710656 from rfl]
            cases Nat.ble ((2 * (len + n) + 200) * bytes) 281474976710656 with
            | false => rfl
            | true =>
              simp only [if_true]
              cases g with
              | none =>
                simp only [hGet_eq]
                cases h.get blk with
                | none => rfl
                | some bl =>
                  simp only [rdK_eq]
                  rw [show Nat.mul len esz = len * esz from rfl]
                  cases bl.rd off (len * esz) with
                  | none => rfl
                  | some old =>
                    simp only [appK_eq]
                    exact hNew_eq _ _ _
              | some e =>
                simp only [hGet_eq]
                cases h.get blk with
                | none => rfl
                | some bl =>
                  cases bl with
                  | ro _ => rfl
                  | map _ => rfl
                  | loop _ => rfl
                  | cells cs =>
                    simp only [asCells_eq, cutK_eq]
                    rw [show Nat.mul len esz = len * esz from rfl]
                    cases cut cs off (len * esz) with
                    | none => rfl
                    | some old =>
                      simp only [appK_eq, onesK_eq]
                      rw [show Nat.mul cap esz = cap * esz from rfl]
                      cases (Nat.beq e esz && Nat.beq off 0 && Nat.beq cs.length (cap * esz) && new.all V.oneCell) with
                      | false => rfl
                      | true =>
                        simp only [if_true, hKill_eq, hNew_eq]
                        rfl
theorem eCpy_eq (esz : Nat) (d s : X) {call : V → List V → H → RO} (cK : Call α) (t : List V) (h : H) (z : α) (k : V → H → α) : eCpy esz d s cK t h z k = RO.el (evA call (.cpy esz d s) t h) z k := by
  unfold eCpy
  simp only [evX_eq, evA]
  unfold copyV
  cases sourceLen (s.ev t) with
  | none => rfl
  | some m =>
    simp only
    cases d.ev t <;> try rfl
    simp only [forceN_eq, srcK_eq]
    cases sourceCells esz (Nat.min m _) h (s.ev t) with
    | none => rfl
    | some l =>
      simp only [stK_eq]
      cases storeAt h _ _ l <;> rfl
theorem eClr_eq (c : List V) (x : X) {call : V → List V → H → RO} (cK : Call α) (t : List V) (h : H) (z : α) (k : V → H → α) : eClr c x cK t h z k = RO.el (evA call (.clr c x) t h) z k := by
  unfold eClr
  simp only [evX_eq, evA]
  cases x.ev t <;> try rfl
  rename_i b o n _ _
  simp only [repK_eq, nfL_eq, stK_eq]
  cases Nat.beq n 0 with
  | true => rfl
  | false =>
    simp only [Bool.false_eq_true, if_false]
    cases storeAt h b o (rep c n) <;> rfl
theorem eMapSet_eq (fk : KK) (x kk v : X) {call : V → List V → H → RO} (cK : Call α) (t : List V) (h : H) (z : α) (k : V → H → α) : eMapSet fk x kk v cK t h z k = RO.el (evA call (.mapSet fk x kk v) t h) z k := by
  unfold eMapSet
  simp only [evX_eq, evA]
  cases x.ev t <;> try rfl
  simp only [hGet_eq]
  cases h.get _ with
  | none => rfl
  | some bl =>
    cases bl with
    | cells _ => rfl
    | ro _ => rfl
    | loop _ => rfl
    | map es =>
      simp only [asMap_eq]
      cases fk.fits (kk.ev t) with
      | false => rfl
      | true =>
        simp only [if_true, mputK_eq]
        cases mput fk (kk.ev t) (v.ev t) es with
        | none => rfl
        | some es' => exact hPut_eq _ _ _ _
theorem evAK_eq {cK : Call α} {call : V → List V → H → RO} (hc : CallEq cK call) (op : A) (t : List V) (h : H) (z : α) (k : V → H → α) : evAK op cK t h z k = RO.el (evA call op t h) z k := by
  cases op
  case mov x => exact evX_eq _ _ _
  case pick c a b =>
    show ePick c a b cK t h z k = _
    unfold ePick
    simp only [evX_eq, evA]
    cases c.ev t <;> try rfl
    rename_i b; cases b <;> rfl
  case alloc c =>
    show eAlloc c cK t h z k = _
    unfold eAlloc; rw [nfL_eq, hNew_eq]; rfl
  case box x =>
    show eBox x cK t h z k = _
    unfold eBox; rw [evX_eq, cellsK_eq, hNew_eq]; rfl
  case build c ps =>
    show eBuild c ps cK t h z k = _
    unfold eBuild; rw [nfL_eq, fillK_eq]; simp only [evA]; cases fill t c ps <;> rfl
  case buildSl c n ps =>
    show eBuildSl c n ps cK t h z k = _
    unfold eBuildSl; rw [nfL_eq, fillK_eq]; simp only [evA]
    cases fill t c ps with
    | none => rfl
    | some c => exact hNew_eq _ _ _
  case ld x =>
    show eLd x cK t h z k = _
    unfold eLd; simp only [evX_eq, evA]
    cases x.ev t <;> try rfl
    simp only [hGet_eq]
    cases h.get _ with
    | none => rfl
    | some bl =>
      simp only [rd1K_eq]
      cases bl.rd1 _ <;> rfl
  case ldn n x =>
    show eLdn n x cK t h z k = _
    unfold eLdn; simp only [evX_eq, evA]
    cases x.ev t <;> try rfl
    simp only [hGet_eq]
    cases h.get _ with
    | none => rfl
    | some bl =>
      simp only [rdK_eq]
      cases bl.rd _ n <;> rfl
  case st n x v => exact eSt_eq n x v cK _ _ _ _
  case nilck x =>
    show eNil x cK t h z k = _
    unfold eNil; simp only [evX_eq, evA]; cases x.ev t <;> rfl
  case bin op x y =>
    show eBin op x y cK t h z k = _
    unfold eBin; simp only [evX_eq, evA]; exact binK_eq _ _ _ _ _ _
  case eqv neg kd x y =>
    show eEqv neg kd x y cK t h z k = _
    unfold eEqv; simp only [evX_eq, evA]
    cases eqV kd (x.ev t) (y.ev t) with
    | none => rfl
    | some r => exact forceB_eq _ _
  case un op x =>
    show eUn op x cK t h z k = _
    unfold eUn; rw [evX_eq]; exact forceO_el _ _ _ _
  case conv kd x =>
    show eConv kd x cK t h z k = _
    unfold eConv; simp only [evX_eq, evA]
    cases x.ev t <;> try rfl
    exact forceZ_eq _ _
  case mkI ty x => exact evX_eq _ _ _
  case mkFn f a c =>
    show eMkFn f a c cK t h z k = _
    unfold eMkFn; rw [evL_eq, evL_eq]; rfl
  case mkMap =>
    show eMkMap cK t h z k = _
    unfold eMkMap; rw [hNew_eq]; rfl
  case mkSl c bytes l m =>
    show eMkSl c bytes l m cK t h z k = _
    unfold eMkSl; simp only [evX_eq, evA, natK_eq]
    cases natOf (l.ev t) with
    | none => rfl
    | some l =>
      cases natOf (m.ev t) with
      | none => rfl
      | some m =>
        simp only
        rw [show Nat.mul bytes m = bytes * m from rfl]
        cases (Nat.ble l m && Nat.ble m 281474976710656 && Nat.ble (bytes * m) 281474976710656) with
        | false => rfl
        | true => simp only [if_true, repK_eq, nfL_eq, hNew_eq]; rfl
  case slc esz x lo hi mx =>
    show eSlc esz x lo hi mx cK t h z k = _
    unfold eSlc
    rw [evX_eq]
    cases mx with
    | none => exact forceO_el _ _ _ _
    | some m => exact forceO_el _ _ _ _
  case slcA a b c d e => exact eOther_eq (fun _ _ => rfl) _ _ _ _
  case slcS a b c => exact eOther_eq (fun _ _ => rfl) _ _ _ _
  case fld off x =>
    show eFld off x cK t h z k = _
    unfold eFld; simp only [evX_eq, evA]
    cases x.ev t <;> try rfl
    exact forceN_eq _ _
  case fldv a b c => exact eOther_eq (fun _ _ => rfl) _ _ _ _
  case ixS esz x ix =>
    show eIxS esz x ix cK t h z k = _
    unfold eIxS; simp only [evX_eq, evA, natK_eq]
    cases natOf (ix.ev t) with
    | none => cases x.ev t <;> rfl
    | some n =>
      cases x.ev t <;> try rfl
      rename_i len _ _
      simp only
      cases Nat.blt n len with
      | false => rfl
      | true => exact forceN_eq _ _
  case ixA len esz x ix =>
    show eIxA len esz x ix cK t h z k = _
    unfold eIxA; simp only [evX_eq, evA, natK_eq]
    cases natOf (ix.ev t) with
    | none => cases x.ev t <;> rfl
    | some n =>
      cases x.ev t <;> try rfl
      simp only
      cases Nat.blt n len with
      | false => rfl
      | true => exact forceN_eq _ _
  case ixStr a b => exact eOther_eq (fun _ _ => rfl) _ _ _ _
  case ixV a b c d e => exact eOther_eq (fun _ _ => rfl) _ _ _ _
  case look a b c d e => exact eOther_eq (fun _ _ => rfl) _ _ _ _
  case mapSet fk x kk v => exact eMapSet_eq fk x kk v cK _ _ _ _
  case ext x n =>
    show eExt x n cK t h z k = _
    unfold eExt; simp only [evX_eq, evA]
    cases x.ev t <;> try rfl
    simp only [nthOK_eq]
    cases nth? _ n <;> rfl
  case call f args =>
    show eCall f args cK t h z k = _
    unfold eCall; rw [evX_eq, evL_eq]; exact hc _ _ _ _ _
  case lenS a => exact eOther_eq (fun _ _ => rfl) _ _ _ _
  case lenL x =>
    show eLenL x cK t h z k = _
    unfold eLenL; simp only [evX_eq, evA]; cases x.ev t <;> rfl
  case lenC n => rfl
  case lenM a => exact eOther_eq (fun _ _ => rfl) _ _ _ _
  case app e b s x => exact eApp_eq e b s x cK _ _ _ _
  case cpy e d s => exact eCpy_eq e d s cK _ _ _ _
  case clr c x => exact eClr_eq c x cK _ _ _ _
  case min a => exact eOther_eq (fun _ _ => rfl) _ _ _ _
  case max a => exact eOther_eq (fun _ _ => rfl) _ _ _ _
  case no => rfl
end Go.Air.Fast
namespace Go.Air.Fast
universe u
variable {α : Type}
theorem wantK_eq (g : Option (Nat × Bool)) (t : List V) (y n : α) : wantK g t y n = if wants g t then y else n := by
  cases g with
  | none => rfl
  | some p =>
    obtain ⟨i, w⟩ := p
    have key : ∀ v : V, (match v with
        | .b x => Bool.casesOn (motive := fun _ => α) w (Bool.casesOn (motive := fun _ => α) x y n) (Bool.casesOn (motive := fun _ => α) x n y)
        | _ => n) = if (match v with | .b x => x == w | _ => false) = true then y else n := by
      intro v
      cases v <;> first | rfl | (rename_i x; cases x <;> cases w <;> rfl)
    show nthK t i (fun v => match v with
        | .b x => Bool.casesOn (motive := fun _ => α) w (Bool.casesOn (motive := fun _ => α) x y n) (Bool.casesOn (motive := fun _ => α) x n y)
        | _ => n) = _
    rw [nthK_eq]
    exact key (nth t i)
theorem putK_eq (t : List V) (d : Option Nat) (v : V) (k : List V → α) : putK t d v k = k (putD t d v) := by
  cases d
  · rfl
  · exact updK_eq _ _ _ _
def RL.el (r : RL) (z : α) (k : List V → H → α) : α := match r with
  | .fail => z
  | .ok t h => k t h
def RD.el (r : RD) (z : α) (k : List V → H → List Foot → α) : α := match r with
  | .fail => z
  | .ok t h f => k t h f
def RC.el (r : RC) (z : α) (k : Out → List V → H → α) : α := match r with
  | .fail => z
  | .ok o t h => k o t h
theorem opsK_eq {cK : Call α} {call : V → List V → H → RO} (hc : CallEq cK call) : ∀ (l : List O) (t : List V) (h : H) (z : α) (k : List V → H → α), opsK cK l t h z k = RL.el (runOps call l t h) z k
  | [], _, _, _, _ => rfl
  | o :: l, t, h, z, k => by
    obtain ⟨d, g, op⟩ := o
    show wantK g t (evAK op cK t h z fun v h' => putK t d v fun t' => opsK cK l t' h' z k) (putK t d .undef fun t' => opsK cK l t' h z k) = _
    rw [wantK_eq]
    simp only [runOps]
    cases wants g t with
    | true =>
      simp only [if_true]
      rw [evAK_eq hc]
      cases evA call op t h with
      | fail => rfl
      | ok v h' => simp only [RO.el, putK_eq]; exact opsK_eq hc l _ _ _ _
    | false =>
      simp only [Bool.false_eq_true, if_false, putK_eq]
      exact opsK_eq hc l _ _ _ _
theorem oldK_eq (n : Nat) : ∀ (l : List Nat) (k : List Nat → α), oldK n l k = k (oldOnes n l)
  | [], _ => rfl
  | x :: l, k => by
    show (Bool.casesOn (motive := fun _ => α) (Nat.blt x n) (oldK n l k) (oldK n l fun r => k (x :: r))) = _
    simp only [oldOnes]
    cases Nat.blt x n with
    | true => exact oldK_eq n l _
    | false => exact oldK_eq n l _
theorem natsApp_eq (r : List Nat) : ∀ (l : List Nat) (k : List Nat → α), natsApp l r k = k (l ++ r)
  | [], _ => rfl
  | x :: l, k => natsApp_eq r l _
theorem drawK_eq {cK : Call α} {call : V → List V → H → RO} (hc : CallEq cK call) : ∀ (l : List O) (t : List V) (h : H) (f : List Foot) (z : α) (k : List V → H → List Foot → α), drawK cK l t h f z k = RD.el (runDraw call l t h f) z k
  | [], _, _, _, _, _ => rfl
  | o :: l, t, h, f, z, k => by
    obtain ⟨d, g, op⟩ := o
    obtain ⟨n0, m0, l0⟩ := h
    show wantK g t (evAK op cK t ⟨n0, m0, []⟩ z fun v h' => H.casesOn h' fun n1 m1 l1 => oldK n0 l1 fun old => natsApp old l0 fun l2 => putK t d v fun t' => drawK cK l t' ⟨n1, m1, l2⟩ (f ++ [⟨reads op t, old⟩]) z k)
      (putK t d .undef fun t' => drawK cK l t' ⟨n0, m0, l0⟩ (f ++ [⟨some [], []⟩]) z k) = _
    rw [wantK_eq]
    simp only [runDraw]
    cases wants g t with
    | true =>
      simp only [if_true]
      rw [evAK_eq hc]
      cases evA call op t ⟨n0, m0, []⟩ with
      | fail => rfl
      | ok v h' =>
        obtain ⟨n1, m1, l1⟩ := h'
        simp only [RO.el, oldK_eq, natsApp_eq, putK_eq]
        exact drawK_eq hc l _ _ _ _ _
    | false =>
      simp only [Bool.false_eq_true, if_false, putK_eq]
      exact drawK_eq hc l _ _ _ _ _
theorem resK_eq (t : List V) (h : H) : ∀ (l : List ResV) (z : α) (k : List V → α), resK t h l z k = match resultsOf t h l with | none => z | some r => k r
  | [], _, _ => rfl
  | .tmp n :: l, z, k => by
    show nthK t n (fun v => resK t h l z fun s => k (v :: s)) = _
    rw [nthK_eq, resK_eq t h l]
    simp only [resultsOf, resultOf]
    cases resultsOf t h l <;> rfl
  | .only v :: l, z, k => by
    show (List.casesOn (motive := fun _ => α) t (resK t h l z fun s => k (v :: s)) (fun _ _ => z)) = _
    rw [resK_eq t h l]
    simp only [resultsOf, resultOf]
    cases t with
    | nil =>
      simp only
      cases resultsOf [] h l <;> rfl
    | cons _ _ => rfl
  | .cell n sz :: l, z, k => by
    show nthK t n (fun a => match a with
        | .p b o => hGet h b z fun bl => asCells bl z fun cs => Option.casesOn (motive := fun _ => α) sz (nthOK cs o z fun v => resK t h l z fun s => k (v :: s)) (fun m => cutK cs o m z fun l' => resK t h l z fun s => k (.agg l' :: s))
        | _ => z) = _
    rw [nthK_eq]
    simp only [resultsOf, resultOf]
    cases nth t n <;> try rfl
    rename_i b o
    simp only [hGet_eq]
    cases h.get b with
    | none => rfl
    | some bl =>
      cases bl with
      | ro _ => rfl
      | map _ => rfl
      | loop _ => rfl
      | cells cs =>
        simp only [asCells_eq]
        cases sz with
        | none =>
          simp only [nthOK_eq]
          cases nth? cs o with
          | none => rfl
          | some v =>
            simp only [resK_eq t h l]
            cases resultsOf t h l <;> rfl
        | some m =>
          simp only [cutK_eq]
          cases cut cs o m with
          | none => rfl
          | some v =>
            simp only [resK_eq t h l, Option.map_some]
            cases resultsOf t h l <;> rfl
theorem packK_eq (l : List V) (k : V → α) : packK l k = k (packR l) := by
  match l with
  | [] => rfl
  | [_] => rfl
  | _ :: _ :: _ => rfl
theorem rep_undef : ∀ n, rep [V.undef] n = List.replicate n V.undef
  | 0 => rfl
  | n + 1 => by rw [rep, rep_undef n]; rfl
theorem padK_eq : ∀ (l : List V) (n : Nat) (k : List V → α), padK l n k = k (pad l n)
  | [], n, k => by
    show repK [V.undef] n k = _
    rw [repK_eq, rep_undef]
    simp [pad]
  | x :: l, 0, k => by
    show padK l 0 (fun r => k (x :: r)) = _
    rw [padK_eq l 0]
    simp [pad]
  | x :: l, n + 1, k => by
    show padK l n (fun r => k (x :: r)) = _
    rw [padK_eq l n]
    simp [pad]
theorem updsK_eq : ∀ (ps : List Nat) (t vs : List V) (k : List V → α), updsK ps t vs k = k (updAll t ps vs)
  | [], t, vs, k => by simp [updAll]; rfl
  | p :: ps, t, [], k => by simp [updAll]; rfl
  | p :: ps, t, v :: vs, k => by
    show updK t p v (fun t' => updsK ps t' vs k) = _
    rw [updK_eq, updsK_eq ps]; rfl
def REq (rK : R0 α) (r : C → List V → H → RC) : Prop := ∀ c t h z k, rK c t h z k = RC.el (r c t h) z k
section
variable {tK tbl : Nat → Option FI} (ht : ∀ n, tK n = tbl n) {rK : R0 α} {r : C → List V → H → RC} (hr : REq rK r)
include ht hr
theorem callFn_eq (g : Nat) (a c args : List V) (h : H) (z : α) (k : V → H → α) : callFn tK rK g a c args h z k = RO.el (callV tbl r (.fn g a c) args h) z k := by
  unfold callFn
  rw [ht]
  simp only [callV]
  cases tbl g with
  | none => rfl
  | some fi =>
    obtain ⟨n, res, body⟩ := fi
    simp only [appK_eq, padK_eq, hr body]
    cases r body (pad (a ++ args ++ c) n) h with
    | fail => rfl
    | ok o t' h' =>
      cases o with
      | exit i => rfl
      | norm =>
        simp only [RC.el, resK_eq, packK_eq]
        cases resultsOf t' h' res <;> rfl
      | ret =>
        simp only [RC.el, resK_eq, packK_eq]
        cases resultsOf t' h' res <;> rfl
theorem callYld_eq (l : Nat) (args : List V) (h : H) (z : α) (k : V → H → α) : callYld rK l args h z k = RO.el (callV tbl r (.yld l) args h) z k := by
  unfold callYld
  simp only [callV]
  rw [hGet_eq]
  cases h.get l with
  | none => rfl
  | some bl =>
    cases bl with
    | cells _ => rfl
    | ro _ => rfl
    | map _ => rfl
    | loop lp =>
      obtain ⟨st, pe, tm, ps, ag, bo⟩ := lp
      simp only [asLoop_eq]
      cases Nat.beq args.length ps.length with
      | false => rfl
      | true =>
        simp only [if_true, updsK_eq, hr ag]
        cases r ag (updAll tm ps args) h with
        | fail => rfl
        | ok o t h1 =>
          cases o with
          | exit _ => rfl
          | ret => rfl
          | norm =>
            simp only [RC.el, hGet_eq]
            cases h1.get l with
            | none => rfl
            | some bl =>
              cases bl with
              | cells _ => rfl
              | ro _ => rfl
              | map _ => rfl
              | loop lp1 =>
                obtain ⟨st1, pe1, tm1, ps1, ag1, bo1⟩ := lp1
                simp only [asLoop_eq]
                cases st1 with
                | busy => rfl
                | done => rfl
                | over => rfl
                | ready =>
                  simp only [hPut_eq, hr bo, if_true]
                  cases r bo t (h1.put l (.loop ⟨.busy, pe1, tm1, ps1, ag1, bo1⟩)) with
                  | fail => rfl
                  | ok o2 t2 h2 =>
                    simp only [RC.el, hGet_eq]
                    cases h2.get l with
                    | none => rfl
                    | some bl =>
                      cases bl with
                      | cells _ => rfl
                      | ro _ => rfl
                      | map _ => rfl
                      | loop lp2 =>
                        obtain ⟨st2, pe2, tm2, ps2, ag2, bo2⟩ := lp2
                        simp only [asLoop_eq]
                        cases st2 with
                        | ready => rfl
                        | done => rfl
                        | over => rfl
                        | busy =>
                          simp only [if_true]
                          cases o2 <;> rfl
theorem callK_eq : CallEq (callK tK rK) (callV tbl r) := by
  intro f args h z k
  cases f <;> try rfl
  · exact callFn_eq ht hr _ _ _ _ _ _ _
  · exact callYld_eq ht hr _ _ _ _ _
theorem stepK_eq (c : C) (t : List V) (h : H) (z : α) (k : Out → List V → H → α) : stepK c tK rK t h z k = RC.el (stepC tbl r c t h) z k := by
  have hc := callK_eq ht hr
  cases c
  case skip => rfl
  case ops l =>
    show opsK (callK tK rK) l t h z (fun t h => k .norm t h) = _
    rw [opsK_eq hc]
    simp only [stepC]
    cases runOps (callV tbl r) l t h <;> rfl
  case draw l crit =>
    show drawK (callK tK rK) l t h [] z (fun t h f => Bool.casesOn (motive := fun _ => α) (critOk f crit) z (k .norm t h)) = _
    rw [drawK_eq hc]
    simp only [stepC]
    cases runDraw (callV tbl r) l t h [] with
    | fail => rfl
    | ok t' h' f =>
      simp only [RD.el]
      cases critOk f crit <;> rfl
  case seq a b =>
    show rK a t h z (fun o t' h' => Out.casesOn (motive := fun _ => α) o (rK b t' h' z k) (fun i => k (.exit i) t' h') (k .ret t' h')) = _
    rw [hr a]
    simp only [stepC]
    cases r a t h with
    | fail => rfl
    | ok o t' h' =>
      cases o with
      | norm => exact hr b _ _ _ _
      | exit i => rfl
      | ret => rfl
  case cond x a b =>
    show cCond x a b tK rK t h z k = _
    unfold cCond
    simp only [evX_eq, stepC]
    cases x.ev t <;> try rfl
    rename_i c
    cases c with
    | true => exact hr a _ _ _ _
    | false => exact hr b _ _ _ _
  case block id a =>
    show rK a t h z (fun o t' h' => Out.casesOn (motive := fun _ => α) o (k .norm t' h') (fun i => Bool.casesOn (motive := fun _ => α) (Nat.beq i id) (k (.exit i) t' h') (k .norm t' h')) (k .ret t' h')) = _
    rw [hr a]
    simp only [stepC]
    cases r a t h with
    | fail => rfl
    | ok o t' h' =>
      cases o with
      | norm => rfl
      | ret => rfl
      | exit i =>
        simp only [RC.el]
        cases Nat.beq i id <;> rfl
  case loop a =>
    show rK a t h z (fun o t' h' => Out.casesOn (motive := fun _ => α) o (rK (.loop a) t' h' z k) (fun i => k (.exit i) t' h') (k .ret t' h')) = _
    rw [hr a]
    simp only [stepC]
    cases r a t h with
    | fail => rfl
    | ok o t' h' =>
      cases o with
      | norm => exact hr (.loop a) _ _ _ _
      | exit i => rfl
      | ret => rfl
  case exit => rfl
  case ret => rfl
  case rangeF f ps ag bo =>
    show cRange f ps ag bo tK rK t h z k = _
    unfold cRange
    simp only [evX_eq, stepC]
    cases f.ev t <;> try rfl
    rename_i g a c
    simp only [hNew_eq, callFn_eq ht hr]
    cases callV tbl r (.fn g a c) [.yld h.next] (h.new (.loop ⟨.ready, none, t, ps, ag, bo⟩)) with
    | fail => rfl
    | ok v h' =>
      simp only [RO.el, hGet_eq]
      cases h'.get h.next with
      | none => rfl
      | some bl =>
        cases bl with
        | cells _ => rfl
        | ro _ => rfl
        | map _ => rfl
        | loop lp =>
          obtain ⟨st, pe, tm, ps', ag', bo'⟩ := lp
          simp only [asLoop_eq]
          cases st <;> first | rfl | (simp only [hPut_eq]; cases pe <;> rfl)
end
theorem EK_eq {tK tbl : Nat → Option FI} (ht : ∀ n, tK n = tbl n) : ∀ (k : Nat), REq (α := α) (EK tK k) (E tbl k)
  | 0 => fun _ _ _ _ _ => rfl
  | k + 1 => fun c t h z g => stepK_eq ht (EK_eq ht k) c t h z g
theorem runK_eq {tK tbl : Nat → Option FI} (ht : ∀ n, tK n = tbl n) (k f : Nat) (args : List V) (h : H) (z : α) (g : V → H → α) : runK tK k f args h z g = RO.el (run tbl k f args h) z g :=
  callK_eq ht (EK_eq ht k) (.fn f [] []) args h z g
noncomputable def tblK (tree : T FI) (k : Nat) : Option FI :=
  T.rec (motive := fun _ => Nat → Option FI) (fun _ => none) (fun _ x _ ihl ihr n => Nat.casesOn n x (fun m => Nat.casesOn (Nat.mod m 2) (ihl (Nat.div m 2)) (fun _ => ihr (Nat.div m 2)))) tree k
theorem tblK_eq : ∀ (t : T FI) (k : Nat), tblK t k = t.get k
  | .e, _ => rfl
  | .n _ _ _, 0 => rfl
  | .n l x r, m + 1 => by
    show (Nat.casesOn (motive := fun _ => Option FI) (Nat.mod m 2) (tblK l (Nat.div m 2)) (fun _ => tblK r (Nat.div m 2))) = _
    simp only [T.get]
    rw [show Nat.mod m 2 = m % 2 from rfl, show Nat.div m 2 = m / 2 from rfl]
    cases m % 2 with
    | zero => exact tblK_eq l (m / 2)
    | succ j => exact tblK_eq r (m / 2)
def isTrue : V → Bool
  | .b true => true
  | _ => false
theorem run_true {tree : T FI} {k f : Nat} {args : List V} {h : H} (hk : runK (tblK tree) k f args h false (fun v _ => isTrue v) = true) : ∃ h', run tree.get k f args h = .ok (.b true) h' := by
  rw [runK_eq (tblK_eq tree)] at hk
  cases hq : run tree.get k f args h with
  | fail => rw [hq] at hk; simp [RO.el] at hk
  | ok v h' =>
    rw [hq] at hk
    cases v <;> simp only [RO.el, isTrue, Bool.false_eq_true] at hk
    rename_i b
    cases b
    · simp at hk
    · exact ⟨h', rfl⟩
end Go.Air.Fast
set_option maxRecDepth 1000000
namespace Go.Air.Try
open Go.Air.Fast
theorem alive_air : runK (tblK tree) 1000000 22 [] H.empty false (fun v _ => isTrue v) = true := by kernel_rfl
noncomputable def okAt (k : Nat) : Bool := match tree.get k with
  | some fi => okFI Go.Proofs.Try.prog k fi
  | none => true
theorem all_ok : (List.range 256).all okAt = true := by kernel_rfl
def bound : T FI → Nat
  | .e => 0
  | .n l _ r => max 1 (max (2 * bound l) (2 * bound r + 1))
theorem get_high : ∀ (t : T FI) (k : Nat), bound t ≤ k → t.get k = none
  | .e, _, _ => rfl
  | .n l x r, 0, h => by simp only [bound] at h; omega
  | .n l x r, k + 1, h => by
    simp only [bound] at h
    simp only [T.get]
    split
    · exact get_high l (k / 2) (by omega)
    · rename_i hk
      exact get_high r (k / 2) (by omega)
theorem bound_tree : Nat.ble (bound tree) 256 = true := by kernel_rfl
theorem mixed : Go.Proofs.Try.prog.follows .mixedOrders = true := by kernel_rfl
end Go.Air.Try
