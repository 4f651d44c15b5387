/-
  A part of the proof of: The row of BulletinTexts and its tied card, out of the lifted form.
-/
import GoSem.Core.Code
import GoSem.Core.Halt
import GoSem.Core.Lib
import Derived.ControlIn
import Derived.Laws.World
import Derived.Laws.Cells
import Derived.RangeFuncLeaves
set_option linter.unusedSectionVars false
set_option linter.unusedVariables false
set_option linter.unusedSimpArgs false
namespace Go.Air
inductive V where
  | b (x : Bool)
  | i (k : IntKind) (n : Int)
  | s (x : List Nat)
  | pn
  | p (blk off : Nat)
  | sn
  | sl (blk off len cap : Nat) (grown : Option Nat)
  | se (a : Addr)
  | mn
  | m (blk : Nat)
  | fnil
  | fn (f : Nat) (first caps : List V)
  | yld (l : Nat)
  | in0
  | ifc (t : Nat) (v : V)
  | agg (c : List V)
  | tup (c : List V)
  deriving Inhabited
def V.undef : V := .tup []
def V.cells : V → List V
  | .agg c => c
  | v => [v]
def V.oneCell : V → Bool
  | .agg _ | .tup _ => false
  | _ => true
inductive X where
  | t (n : Nat)
  | c (v : V)
  | f (n : Nat)
  deriving Inhabited
inductive KT where
  | b | i (k : IntKind) | s
  deriving DecidableEq, Inhabited
inductive EqK where
  | bool | ptr | slice | map | func | iface | agg (ks : List KT)
  deriving Inhabited
inductive KK where
  | sc (k : KT)
  | ag (ks : List KT)
  deriving Inhabited
inductive A where
  | mov (x : X)
  | pick (c a b : X)
  | alloc (z : List V)
  | box (x : X)
  | build (z : List V) (parts : List (Nat × Nat × X))
  | buildSl (z : List V) (len : Nat) (parts : List (Nat × Nat × X))
  | ld (x : X)
  | ldn (n : Nat) (x : X)
  | st (n : Nat) (x v : X)
  | nilck (x : X)
  | bin (op : BinOp) (x y : X)
  | eqv (neg : Bool) (k : EqK) (x y : X)
  | un (op : UnOp) (x : X)
  | conv (k : IntKind) (x : X)
  | mkI (t : Nat) (x : X)
  | mkFn (f : Nat) (first caps : List X)
  | mkMap
  | mkSl (z : List V) (bytes : Nat) (len cap : X)
  | slc (esz : Nat) (x : X) (lo hi mx : Option X)
  | slcA (len esz : Nat) (x : X) (lo hi : Option X)
  | slcS (x : X) (lo hi : Option X)
  | fld (off : Nat) (x : X)
  | fldv (off : Nat) (sz : Option Nat) (x : X)
  | ixS (esz : Nat) (x ix : X)
  | ixA (len esz : Nat) (x ix : X)
  | ixStr (x ix : X)
  | ixV (len esz : Nat) (isAgg : Bool) (x ix : X)
  | look (kk : KK) (zero : V) (ok : Bool) (x k : X)
  | mapSet (kk : KK) (x k v : X)
  | ext (x : X) (n : Nat)
  | call (f : X) (args : List X)
  | lenS (x : X)
  | lenL (x : X)
  | lenC (n : Nat)
  | lenM (x : X)
  | app (esz bytes : Nat) (s x : X)
  | cpy (esz : Nat) (d s : X)
  | clr (z : List V) (x : X)
  | min (xs : List X)
  | max (xs : List X)
  | panic (x : X)
  | tassert (t : Nat) (zero : V) (ok : Bool) (x : X)
  | s2b (x : X)
  | b2s (x : X)
  | mark (x : X)
  | no
  deriving Inhabited
structure O where
  dst : Option Nat
  g : Option (Nat × Bool)
  op : A
  deriving Inhabited
inductive C where
  | skip
  | ops (l : List O)
  | draw (l : List O) (crit : List (Nat × Nat))
  | seq (a b : C)
  | cond (c : X) (a b : C)
  | block (id : Nat) (c : C)
  | loop (c : C)
  | exit (id : Nat)
  | ret
  | rangeF (f : X) (params : List Nat) (asg body : C)
  | prim (n : Nat)
  deriving Inhabited
inductive LState where
  | ready | busy | done | over
  deriving DecidableEq, Inhabited
inductive Out where
  | norm
  | exit (id : Nat)
  | ret
  | pan (v : V)
  deriving Inhabited
def isPan : Option Out → Bool
  | some (.pan _) => true
  | _ => false
structure Loop where
  state : LState
  pending : Option Out
  tmps : List V
  params : List Nat
  asg : C
  body : C
  deriving Inhabited
inductive Blk where
  | cells (c : List V)
  | ro (c : List (Option V))
  | map (es : List (V × V))
  | loop (l : Loop)
  deriving Inhabited
inductive T (α : Type) where
  | e
  | n (l : T α) (x : Option α) (r : T α)
namespace T
variable {α : Type}
def get : T α → Nat → Option α
  | .e, _ => none
  | .n l x r, k => match k with
    | 0 => x
    | k + 1 => match k % 2 with
      | 0 => l.get (k / 2)
      | _ => r.get (k / 2)
def setF : Nat → T α → Nat → Option α → T α
  | 0, t, _, _ => t
  | _ + 1, .e, 0, v => .n .e v .e
  | _ + 1, .n l _ r, 0, v => .n l v r
  | f + 1, .e, k + 1, v => match k % 2 with
    | 0 => .n (setF f .e (k / 2) v) none .e
    | _ => .n .e none (setF f .e (k / 2) v)
  | f + 1, .n l x r, k + 1, v => match k % 2 with
    | 0 => .n (setF f l (k / 2) v) x r
    | _ => .n l x (setF f r (k / 2) v)
def set (t : T α) (k : Nat) (v : Option α) : T α := setF (k + 1) t k v
end T
structure H where
  next : Nat
  mem : T Blk
  log : List Nat
def H.get (h : H) (b : Nat) : Option Blk := h.mem.get b
def H.new (h : H) (x : Blk) : H := ⟨h.next + 1, h.mem.set h.next (some x), h.log⟩
def H.put (h : H) (b : Nat) (x : Blk) : H := ⟨h.next, h.mem.set b (some x), b :: h.log⟩
def H.kill (h : H) (b : Nat) : H := ⟨h.next, h.mem.set b none, b :: h.log⟩
def H.empty : H := ⟨0, .e, []⟩
def nth : List V → Nat → V
  | [], _ => .undef
  | x :: _, 0 => x
  | _ :: l, n + 1 => nth l n
def nth? : List V → Nat → Option V
  | [], _ => none
  | x :: _, 0 => some x
  | _ :: l, n + 1 => nth? l n
def upd : List V → Nat → V → List V
  | [], _, _ => []
  | _ :: l, 0, v => v :: l
  | x :: l, n + 1, v => x :: upd l n v
def cut : List V → (o n : Nat) → Option (List V)
  | _, 0, 0 => some []
  | [], _, _ => none
  | x :: l, 0, n + 1 => (cut l 0 n).map (x :: ·)
  | _ :: l, o + 1, n => cut l o n
def lay : List V → (o : Nat) → List V → Option (List V)
  | l, 0, [] => some l
  | [], _, _ => none
  | _ :: l, 0, v :: vs => (lay l 0 vs).map (v :: ·)
  | x :: l, o + 1, vs => (lay l o vs).map (x :: ·)
def nthO : List (Option V) → Nat → Option V
  | [], _ => none
  | x :: _, 0 => x
  | _ :: l, n + 1 => nthO l n
def cutO : List (Option V) → (o n : Nat) → Option (List V)
  | _, 0, 0 => some []
  | [], _, _ => none
  | x :: l, 0, n + 1 => match x with
    | some v => (cutO l 0 n).map (v :: ·)
    | none => none
  | _ :: l, o + 1, n => cutO l o n
def Blk.rd1 : Blk → Nat → Option V
  | .cells c, o => nth? c o
  | .ro c, o => nthO c o
  | _, _ => none
def Blk.rd : Blk → (o n : Nat) → Option (List V)
  | .cells c, o, n => cut c o n
  | .ro c, o, n => cutO c o n
  | _, _, _ => none
def rep (z : List V) : Nat → List V
  | 0 => []
  | n + 1 => z ++ rep z n
def X.ev (t : List V) : X → V
  | .t n => nth t n
  | .c v => v
  | .f n => .fn n [] []
def bytesLess : List Nat → List Nat → Bool
  | _, [] => false
  | [], _ :: _ => true
  | a :: x, b :: y => Nat.blt a b || (Nat.beq a b && bytesLess x y)
def bytesEq : List Nat → List Nat → Bool
  | [], [] => true
  | a :: x, b :: y => Nat.beq a b && bytesEq x y
  | _, _ => false
def bitsV (k : IntKind) (f : BitVec k.bits → BitVec k.bits → BitVec k.bits) (x y : Int) : V :=
  .i k (k.wrap (f (BitVec.ofInt k.bits x) (BitVec.ofInt k.bits y)).toNat)
def binI (op : BinOp) (k : IntKind) (a b : Int) : Option V :=
  match op with
  | .add => some (.i k (k.wrap (a + b)))
  | .sub => some (.i k (k.wrap (a - b)))
  | .mul => some (.i k (k.wrap (a * b)))
  | .quo => if b = 0 then none else some (.i k (k.wrap (a.tdiv b)))
  | .rem => if b = 0 then none else some (.i k (a.tmod b))
  | .and => some (bitsV k (fun x y => x &&& y) a b)
  | .or => some (bitsV k (fun x y => x ||| y) a b)
  | .xor => some (bitsV k (fun x y => x ^^^ y) a b)
  | .andNot => some (bitsV k (fun x y => x &&& ~~~y) a b)
  | .eql => some (.b (decide (a = b)))
  | .neq => some (.b (!decide (a = b)))
  | .lss => some (.b (decide (a < b)))
  | .leq => some (.b (decide (a ≤ b)))
  | .gtr => some (.b (decide (b < a)))
  | .geq => some (.b (decide (b ≤ a)))
  | _ => none
def shI (op : BinOp) (k : IntKind) (a b : Int) : Option V :=
  if b < 0 then none else
  match op with
  | .shl => some (.i k (k.wrap (a * 2 ^ (min b.toNat k.bits))))
  | .shr => some (.i k (a.fdiv (2 ^ (min b.toNat k.bits))))
  | _ => none
def binS (op : BinOp) (x y : List Nat) : Option V :=
  match op with
  | .add => if Nat.ble (x.length + y.length) 9223372036854775807 then some (.s (x ++ y)) else none
  | .eql => some (.b (bytesEq x y))
  | .neq => some (.b (!bytesEq x y))
  | .lss => some (.b (bytesLess x y))
  | .leq => some (.b (bytesLess x y || bytesEq x y))
  | .gtr => some (.b (!(bytesLess x y || bytesEq x y)))
  | .geq => some (.b (!bytesLess x y))
  | _ => none
def binV (op : BinOp) : V → V → Option V
  | .i k a, .i k' b =>
    match op with
    | .shl | .shr => shI op k a b
    | _ => if k = k' then binI op k a b else none
  | .s x, .s y => binS op x y
  | _, _ => none
def KT.fits : KT → V → Bool
  | .b, .b _ => true
  | .i k, .i k' _ => decide (k = k')
  | .s, .s _ => true
  | _, _ => false
def fitL : List KT → List V → Bool
  | [], [] => true
  | k :: ks, x :: xs => k.fits x && fitL ks xs
  | _, _ => false
def KK.fits : KK → V → Bool
  | .sc k, v => k.fits v
  | .ag ks, .agg c => fitL ks c
  | _, _ => false
def scalarEq : V → V → Bool
  | .b x, .b y => x == y
  | .i _ a, .i _ b => decide (a = b)
  | .s x, .s y => bytesEq x y
  | _, _ => false
def cellsEq : List V → List V → Bool
  | [], [] => true
  | x :: xs, y :: ys => scalarEq x y && cellsEq xs ys
  | _, _ => false
def eqV : EqK → V → V → Option Bool
  | .bool, .b x, .b y => some (x == y)
  | .ptr, .pn, .pn => some true
  | .ptr, .pn, .p _ _ | .ptr, .p _ _, .pn => some false
  | .slice, .sn, .sn => some true
  | .slice, .sn, .sl .. | .slice, .sl .., .sn => some false
  | .slice, .sn, .se _ | .slice, .se _, .sn => some false
  | .map, .mn, .mn => some true
  | .map, .mn, .m _ | .map, .m _, .mn => some false
  | .func, .fnil, .fnil => some true
  | .func, .fnil, .fn .. | .func, .fn .., .fnil => some false
  | .func, .fnil, .yld _ | .func, .yld _, .fnil => some false
  | .iface, .in0, .in0 => some true
  | .iface, .in0, .ifc .. | .iface, .ifc .., .in0 => some false
  | .agg ks, .agg x, .agg y => if fitL ks x && fitL ks y then some (cellsEq x y) else none
  | _, _, _ => none
def unV (op : UnOp) : V → Option V
  | .i k n => match op with
    | .neg => some (.i k (k.wrap (0 - n)))
    | .xor => some (bitsV k (fun x y => x ^^^ y) (if k.signed then -1 else k.max) n)
    | _ => none
  | .b x => match op with
    | .not => some (.b !x)
    | _ => none
  | _ => none
def fill (t : List V) (z : List V) : List (Nat × Nat × X) → Option (List V)
  | [] => some z
  | (off, sz, x) :: rest =>
    let v := (x.ev t).cells
    if Nat.beq v.length sz then
      match lay z off v with
      | some z' => fill t z' rest
      | none => none
    else none
def natOf : V → Option Nat
  | .i _ (.ofNat n) => some n
  | _ => none
def keyEq : V → V → Bool
  | .agg x, .agg y => cellsEq x y
  | x, y => scalarEq x y
def find (kk : KK) (k : V) : List (V × V) → Option (Option V)
  | [] => some none
  | e :: es => if kk.fits e.1 then (if keyEq k e.1 then some (some e.2) else find kk k es) else none
def mput (kk : KK) (k v : V) : List (V × V) → Option (List (V × V))
  | [] => some [(k, v)]
  | e :: es => if kk.fits e.1 then (if keyEq k e.1 then some ((e.1, v) :: es) else (mput kk k v es).map (e :: ·)) else none
inductive RO where
  | fail
  | ok (v : V) (h : H)
  | pan (v : V) (h : H)
  deriving Inhabited
inductive RL where
  | fail
  | ok (t : List V) (h : H)
  | pan (v : V) (t : List V) (h : H)
  deriving Inhabited
inductive RC where
  | fail
  | ok (o : Out) (t : List V) (h : H)
  deriving Inhabited
def RO.ofV (h : H) : Option V → RO
  | some v => .ok v h
  | none => .fail
def bounds (t : List V) (len cap : Nat) (lo hi : Option X) : Option (Nat × Nat) :=
  match (match hi with
    | none => some len
    | some x => natOf (x.ev t)) with
  | none => none
  | some b =>
    if Nat.ble b cap then
      match (match lo with
        | none => some 0
        | some x => natOf (x.ev t)) with
      | none => none
      | some a => if Nat.ble a b then some (a, b) else none
    else none
def sliceV (esz : Nat) (t : List V) (lo hi : Option X) : V → Option V
  | .sn => match bounds t 0 0 lo hi with
    | some _ => some .sn
    | none => none
  | .se a => match bounds t 0 0 lo hi with
    | some _ => some (.se a)
    | none => none
  | .sl blk off len cap g =>
    match bounds t len cap lo hi with
    | none => none
    | some (a, b) =>
      match g with
      | none => some (.sl blk (if Nat.beq a cap then off else off + a * esz) (b - a) (cap - a) none)
      | some e => if Nat.blt a cap && Nat.beq e esz then some (.sl blk (off + a * esz) (b - a) (cap - a) (some e)) else none
  | _ => none
def sliceV3 (esz : Nat) (t : List V) (lo hi : Option X) (mx : X) : V → Option V
  | .sl blk off _ cap _ =>
    match natOf (mx.ev t), hi with
    | some m, some _ =>
      if Nat.ble m cap then
        match bounds t m m lo hi with
        | none => none
        | some (a, b) => some (.sl blk (if Nat.beq a m then off else off + a * esz) (b - a) (m - a) none)
      else none
    | _, _ => none
  | .se a =>
    match natOf (mx.ev t), hi with
    | some m, some _ =>
      if Nat.beq m 0 then
        match bounds t 0 0 lo hi with
        | none => none
        | some _ => some (.se a)
      else none
    | _, _ => none
  | _ => none
def sourceCells (esz n : Nat) (h : H) : V → Option (List V)
  | .sn => if Nat.beq n 0 then some [] else none
  | .se _ => if Nat.beq n 0 then some [] else none
  | .sl blk off _ _ _ => match h.get blk with
    | some bl => bl.rd off (n * esz)
    | none => none
  | .s x => if Nat.beq esz 1 then (cut (x.map fun c => .i .u8 (.ofNat c)) 0 (x.length)).bind fun l => cut l 0 n else none
  | _ => none
def sourceLen : V → Option Nat
  | .sn => some 0
  | .se _ => some 0
  | .sl _ _ len _ _ => some len
  | .s x => some x.length
  | _ => none
def storeAt (h : H) (blk off : Nat) (vs : List V) : Option H :=
  match h.get blk with
  | some (.cells cs) => match lay cs off vs with
    | some cs' => if vs.all V.oneCell then some (h.put blk (.cells cs')) else none
    | none => none
  | _ => none
def appendV (esz bytes : Nat) (h : H) (s x : V) : RO :=
  match sourceLen x with
  | none => .fail
  | some n =>
    match sourceCells esz n h x with
    | none => .fail
    | some new =>
      if Nat.ble ((2 * n + 200) * bytes) 281474976710656 && Nat.blt 0 bytes && Nat.blt 0 esz then
      match s with
      | .sn => if Nat.beq n 0 then .ok .sn h else .ok (.sl h.next 0 n n (some esz)) (h.new (.cells new))
      | .se a => if Nat.beq n 0 then .ok (.se a) h else .ok (.sl h.next 0 n n (some esz)) (h.new (.cells new))
      | .sl blk off len cap g =>
        if Nat.ble (len + n) cap then
          match storeAt h blk (off + len * esz) new with
          | some h' => .ok (.sl blk off (len + n) cap g) h'
          | none => .fail
        else if Nat.ble ((2 * (len + n) + 200) * bytes) 281474976710656 then
          match g with
          | none =>
            match h.get blk with
            | some bl =>
              match bl.rd off (len * esz) with
              | none => .fail
              | some old => .ok (.sl h.next 0 (len + n) (len + n) (some esz)) (h.new (.cells (old ++ new)))
            | none => .fail
          | some e =>
            match h.get blk with
            | some (.cells cs) =>
              match cut cs off (len * esz) with
              | none => .fail
              | some old =>
                if Nat.beq e esz && Nat.beq off 0 && Nat.beq cs.length (cap * esz) && new.all V.oneCell then
                  .ok (.sl h.next 0 (len + n) (len + n) (some esz)) ((h.kill blk).new (.cells (old ++ new)))
                else .fail
            | _ => .fail
        else .fail
      | _ => .fail
      else .fail
def copyV (esz : Nat) (h : H) (d s : V) : RO :=
  match sourceLen s with
  | none => .fail
  | some m =>
    match d with
    | .sn => .ok (.i .i64 0) h
    | .sl blk off len _ _ =>
      match sourceCells esz (Nat.min m len) h s with
      | none => .fail
      | some l => match storeAt h blk off l with
        | some h' => .ok (.i .i64 (.ofNat (Nat.min m len))) h'
        | none => .fail
    | _ => .fail
def byteOf : V → Option Nat
  | .i .u8 n => if Nat.blt n.toNat 256 then some n.toNat else none
  | _ => none
def bytesOf : List V → Option (List Nat)
  | [] => some []
  | x :: l => match byteOf x, bytesOf l with
    | some c, some r => some (c :: r)
    | _, _ => none
def strOf (h : H) (v : V) : Option V :=
  match v with
  | .s _ => none
  | _ => match sourceLen v with
    | none => none
    | some n => match sourceCells 1 n h v with
      | none => none
      | some cs => (bytesOf cs).map .s
def mmI (g : Bool) (x y : V) : Option V :=
  match x, y with
  | .i k a, .i _ b => some (.i k (if g then (if a < b then b else a) else (if b < a then b else a)))
  | _, _ => none
def minI (g : Bool) (x : V) : List V → Option V
  | [] => some x
  | y :: l => match mmI g x y with
    | some z => minI g z l
    | none => none
def minL (g : Bool) : List V → Option V
  | [] => none
  | x :: l => minI g x l
def evA (call : V → List V → H → RO) (op : A) (t : List V) (h : H) : RO :=
  match op with
  | .mov x => .ok (x.ev t) h
  | .pick c a b => match c.ev t with
    | .b true => .ok (a.ev t) h
    | .b false => .ok (b.ev t) h
    | _ => .fail
  | .alloc z => .ok (.p h.next 0) (h.new (.cells z))
  | .box x => .ok (.p h.next 0) (h.new (.cells (x.ev t).cells))
  | .build z parts => match fill t z parts with
    | some c => .ok (.agg c) h
    | none => .fail
  | .buildSl z len parts => match fill t z parts with
    | some c => .ok (.sl h.next 0 len len none) (h.new (.cells c))
    | none => .fail
  | .ld x => match x.ev t with
    | .p b o => match h.get b with
      | some bl => RO.ofV h (bl.rd1 o)
      | none => .fail
    | _ => .fail
  | .ldn n x => match x.ev t with
    | .p b o => match h.get b with
      | some bl => match bl.rd o n with
        | some l => .ok (.agg l) h
        | none => .fail
      | none => .fail
    | _ => .fail
  | .st n x v => match x.ev t with
    | .p b o =>
      if Nat.beq (v.ev t).cells.length n then
        match storeAt h b o (v.ev t).cells with
        | some h' => .ok .undef h'
        | none => .fail
      else .fail
    | _ => .fail
  | .nilck x => match x.ev t with
    | .p b o => .ok (.p b o) h
    | .fn f a c => .ok (.fn f a c) h
    | .yld l => .ok (.yld l) h
    | _ => .fail
  | .bin op x y => RO.ofV h (binV op (x.ev t) (y.ev t))
  | .eqv neg k x y => match eqV k (x.ev t) (y.ev t) with
    | some r => .ok (.b (if neg then !r else r)) h
    | none => .fail
  | .un op x => RO.ofV h (unV op (x.ev t))
  | .conv k x => match x.ev t with
    | .i _ n => .ok (.i k (k.wrap n)) h
    | _ => .fail
  | .mkI ty x => .ok (.ifc ty (x.ev t)) h
  | .mkFn f a c => .ok (.fn f (a.map (X.ev t)) (c.map (X.ev t))) h
  | .mkMap => .ok (.m h.next) (h.new (.map []))
  | .mkSl z bytes l c => match natOf (l.ev t), natOf (c.ev t) with
    | some l, some c =>
      if Nat.ble l c && Nat.ble c 281474976710656 && Nat.ble (bytes * c) 281474976710656 then
        .ok (.sl h.next 0 l c none) (h.new (.cells (rep z c)))
      else .fail
    | _, _ => .fail
  | .slc esz x lo hi mx => match mx with
    | none => RO.ofV h (sliceV esz t lo hi (x.ev t))
    | some m => RO.ofV h (sliceV3 esz t lo hi m (x.ev t))
  | .slcA len esz x lo hi => match x.ev t with
    | .p b o => match bounds t len len lo hi with
      | some (l, r) => .ok (.sl b (if Nat.beq l len then o else o + l * esz) (r - l) (len - l) none) h
      | none => .fail
    | _ => .fail
  | .slcS x lo hi => match x.ev t with
    | .s x => match bounds t x.length x.length lo hi with
      | some (l, r) => .ok (.s ((x.drop l).take (r - l))) h
      | none => .fail
    | _ => .fail
  | .fld off x => match x.ev t with
    | .p b o => .ok (.p b (o + off)) h
    | _ => .fail
  | .fldv off sz x => match x.ev t with
    | .agg c => match sz with
      | none => RO.ofV h (nth? c off)
      | some n => match cut c off n with
        | some l => .ok (.agg l) h
        | none => .fail
    | _ => .fail
  | .ixS esz x ix => match x.ev t, natOf (ix.ev t) with
    | .sl b o len _ _, some n => if Nat.blt n len then .ok (.p b (o + n * esz)) h else .fail
    | _, _ => .fail
  | .ixA len esz x ix => match x.ev t, natOf (ix.ev t) with
    | .p b o, some n => if Nat.blt n len then .ok (.p b (o + n * esz)) h else .fail
    | _, _ => .fail
  | .ixStr x ix => match x.ev t, natOf (ix.ev t) with
    | .s x, some n => match x[n]? with
      | some c => .ok (.i .u8 (.ofNat c)) h
      | none => .fail
    | _, _ => .fail
  | .ixV len esz isAgg x ix => match x.ev t, natOf (ix.ev t) with
    | .agg c, some n =>
      if Nat.blt n len then
        (if isAgg then match cut c (n * esz) esz with
          | some l => .ok (.agg l) h
          | none => .fail
        else RO.ofV h (nth? c (n * esz)))
      else .fail
    | _, _ => .fail
  | .look kk zero ok x k =>
    let key := k.ev t
    if kk.fits key then
      match (match x.ev t with
        | .mn => some none
        | .m b => match h.get b with
          | some (.map es) => find kk key es
          | _ => none
        | _ => none) with
      | none => .fail
      | some r =>
        let v := r.getD zero
        .ok (if ok then .tup [v, .b r.isSome] else v) h
    else .fail
  | .mapSet kk x k v => match x.ev t with
    | .m b => match h.get b with
      | some (.map es) =>
        if kk.fits (k.ev t) then
          match mput kk (k.ev t) (v.ev t) es with
          | some es' => .ok .undef (h.put b (.map es'))
          | none => .fail
        else .fail
      | _ => .fail
    | _ => .fail
  | .ext x n => match x.ev t with
    | .tup c => RO.ofV h (nth? c n)
    | _ => .fail
  | .call f args => call (f.ev t) (args.map (X.ev t)) h
  | .lenS x => match x.ev t with
    | .s x => .ok (.i .i64 (.ofNat x.length)) h
    | _ => .fail
  | .lenL x => match x.ev t with
    | .sn => .ok (.i .i64 0) h
    | .se _ => .ok (.i .i64 0) h
    | .sl _ _ n _ _ => .ok (.i .i64 (.ofNat n)) h
    | _ => .fail
  | .lenC n => .ok (.i .i64 (.ofNat n)) h
  | .lenM x => match x.ev t with
    | .mn => .ok (.i .i64 0) h
    | .m b => match h.get b with
      | some (.map es) => .ok (.i .i64 (.ofNat es.length)) h
      | _ => .fail
    | _ => .fail
  | .app esz bytes s x => appendV esz bytes h (s.ev t) (x.ev t)
  | .cpy esz d s => copyV esz h (d.ev t) (s.ev t)
  | .clr z x => match x.ev t with
    | .sn => .ok .undef h
    | .sl b o n _ _ => if Nat.beq n 0 then .ok .undef h else match storeAt h b o (rep z n) with
      | some h' => .ok .undef h'
      | none => .fail
    | _ => .fail
  | .min xs => RO.ofV h (minL false (xs.map (X.ev t)))
  | .max xs => RO.ofV h (minL true (xs.map (X.ev t)))
  | .panic x => match x.ev t with
    | .ifc ty v => .pan (.ifc ty v) h
    | _ => .fail
  | .tassert ty zero ok x => match x.ev t with
    | .in0 => if ok then .ok (.tup [zero, .b false]) h else .fail
    | .ifc ty' v => if Nat.beq ty' ty then .ok (if ok then .tup [v, .b true] else v) h else (if ok then .ok (.tup [zero, .b false]) h else .fail)
    | _ => .fail
  | .s2b x => match x.ev t with
    | .s l => .ok (.sl h.next 0 l.length l.length (some 1)) (h.new (.cells (l.map fun c => .i .u8 (.ofNat c))))
    | _ => .fail
  | .b2s x => RO.ofV h (strOf h (x.ev t))
  | .mark x => match x.ev t with
    | .sl b o l c g => match h.get b with
      | some (.cells cs) => .ok (.sl b o l c g) (h.put b (.cells cs))
      | _ => .fail
    | _ => .fail
  | .no => .fail
def wants (g : Option (Nat × Bool)) (t : List V) : Bool :=
  match g with
  | none => true
  | some (n, w) => match nth t n with
    | .b x => x == w
    | _ => false
def putD (t : List V) (d : Option Nat) (v : V) : List V :=
  match d with
  | none => t
  | some n => upd t n v
def runOps (call : V → List V → H → RO) : List O → List V → H → RL
  | [], t, h => .ok t h
  | o :: l, t, h =>
    match wants o.g t with
    | true => match evA call o.op t h with
      | .ok v h' => runOps call l (putD t o.dst v) h'
      | .pan v h' => .pan v t h'
      | .fail => .fail
    | false => runOps call l (putD t o.dst .undef) h
structure Foot where
  rd : Option (List Nat)
  wr : List Nat
def blockOf : V → List Nat
  | .p b _ => [b]
  | .m b => [b]
  | .sl b _ _ _ _ => [b]
  | _ => []
def reads (op : A) (t : List V) : Option (List Nat) :=
  match op with
  | .ld x | .ldn _ x | .st _ x _ | .look _ _ _ x _ | .mapSet _ x _ _ | .lenM x | .b2s x | .mark x => some (blockOf (x.ev t))
  | .call .. | .app .. | .cpy .. | .clr .. => none
  | _ => some []
def oldOnes (n : Nat) : List Nat → List Nat
  | [] => []
  | x :: l => if Nat.blt x n then x :: oldOnes n l else oldOnes n l
def apart (a b : Foot) : Bool :=
  (match b.rd with
    | none => a.wr.isEmpty
    | some r => a.wr.all fun x => !r.contains x) &&
  (match a.rd with
    | none => b.wr.isEmpty
    | some r => b.wr.all fun x => !r.contains x) &&
  a.wr.all fun x => !b.wr.contains x
inductive RD where
  | fail
  | ok (t : List V) (h : H) (f : List Foot)
def runDraw (call : V → List V → H → RO) : List O → List V → H → List Foot → RD
  | [], t, h, f => .ok t h f
  | o :: l, t, h, f =>
    match wants o.g t with
    | true => match evA call o.op t ⟨h.next, h.mem, []⟩ with
      | .ok v h' => runDraw call l (putD t o.dst v) ⟨h'.next, h'.mem, oldOnes h.next h'.log ++ h.log⟩ (f ++ [⟨reads o.op t, oldOnes h.next h'.log⟩])
      | _ => .fail
    | false => runDraw call l (putD t o.dst .undef) h (f ++ [⟨some [], []⟩])
def critOk (f : List Foot) (crit : List (Nat × Nat)) : Bool :=
  crit.all fun (i, j) => match f[i]?, f[j]? with
    | some a, some b => apart a b
    | _, _ => false
inductive ResV where
  | tmp (t : Nat)
  | cell (t : Nat) (n : Option Nat)
  | only (v : V)
  deriving Inhabited
structure FI where
  ntmps : Nat
  res : List ResV
  body : C
  dfr : Option (C × X) := none
  rcv : Option Nat := none
  deriving Inhabited
abbrev Prims := Nat → List V → H → Option (V × Option Blk)
structure Tb where
  fi : Nat → Option FI
  pr : Prims
  ext : Nat → Bool
instance : CoeFun Tb fun _ => Nat → Option FI := ⟨Tb.fi⟩
def H.newO (h : H) : Option Blk → H
  | none => h
  | some x => h.new x
def resultOf (t : List V) (h : H) : ResV → Option V
  | .tmp n => some (nth t n)
  | .only v => match t with
    | [] => some v
    | _ => none
  | .cell n sz => match nth t n with
    | .p b o => match h.get b with
      | some (.cells cs) => match sz with
        | none => nth? cs o
        | some k => (cut cs o k).map .agg
      | _ => none
    | _ => none
def resultsOf (t : List V) (h : H) : List ResV → Option (List V)
  | [] => some []
  | r :: l => match resultOf t h r with
    | some v => (resultsOf t h l).map (v :: ·)
    | none => none
def packR : List V → V
  | [v] => v
  | l => .tup l
def updAll : List V → List Nat → List V → List V
  | t, p :: ps, v :: vs => updAll (upd t p v) ps vs
  | t, _, _ => t
def pad (l : List V) (n : Nat) : List V := l ++ List.replicate (n - l.length) .undef
def finish (fi : FI) (t : List V) (h : H) : RO := match resultsOf t h fi.res with
  | some l => .ok (packR l) h
  | none => .fail
def callD (tbl : Tb) (r : C → List V → H → RC) (f : V) (v : V) (h : H) : Option H :=
  match f with
  | .fn g [] caps =>
    match tbl g with
    | none => none
    | some fi =>
      match fi.rcv with
      | none => none
      | some n =>
        match r fi.body (upd (pad caps fi.ntmps) n v) h with
        | .fail => none
        | .ok o _ h' =>
          match o with
          | .norm => some h'
          | .ret => some h'
          | _ => none
  | _ => none
def callV (tbl : Tb) (r : C → List V → H → RC) (f : V) (args : List V) (h : H) : RO :=
  match f with
  | .fn g first caps =>
    match tbl g with
    | none => .fail
    | some fi =>
      match fi.rcv with
      | some _ => .fail
      | none =>
      match fi.dfr with
      | none =>
        match r fi.body (pad (first ++ args ++ caps) fi.ntmps) h with
        | .fail => .fail
        | .ok o t h' =>
          match o with
          | .exit _ => .fail
          | .pan v => .pan v h'
          | .norm => finish fi t h'
          | .ret => finish fi t h'
      | some (pre, x) =>
        match r pre (pad (first ++ args ++ caps) fi.ntmps) h with
        | .fail => .fail
        | .ok o0 t0 h0 =>
          match o0 with
          | .norm =>
            match r fi.body t0 h0 with
            | .fail => .fail
            | .ok o t h' =>
              match (match o with
                | .exit _ => none
                | .pan v => callD tbl r (x.ev t0) v h'
                | .norm => callD tbl r (x.ev t0) .in0 h'
                | .ret => callD tbl r (x.ev t0) .in0 h') with
              | none => .fail
              | some h2 => finish fi t h2
          | _ => .fail
  | .yld l =>
    match h.get l with
    | some (.loop lp) =>
      if Nat.beq args.length lp.params.length then
        match r lp.asg (updAll lp.tmps lp.params args) h with
        | .ok .norm t h1 =>
          match h1.get l with
          | some (.loop lp1) =>
            if lp1.state = .ready then
              match r lp.body t (h1.put l (.loop { lp1 with state := .busy })) with
              | .ok o _ h2 =>
                match h2.get l with
                | some (.loop lp2) =>
                  if lp2.state = .busy then
                    match o with
                    | .norm => .ok (.b true) (h2.put l (.loop { lp2 with state := .ready, pending := none }))
                    | .exit i => .ok (.b false) (h2.put l (.loop { lp2 with state := .done, pending := some (.exit i) }))
                    | .ret => .ok (.b false) (h2.put l (.loop { lp2 with state := .done, pending := some .ret }))
                    | .pan _ => .fail
                  else .fail
                | _ => .fail
              | .fail => .fail
            else .fail
          | _ => .fail
        | _ => .fail
      else .fail
    | _ => .fail
  | _ => .fail
def stepC (tbl : Tb) (r : C → List V → H → RC) (c : C) (t : List V) (h : H) : RC :=
  match c with
  | .skip => .ok .norm t h
  | .ops l => match runOps (callV tbl r) l t h with
    | .ok t' h' => .ok .norm t' h'
    | .pan v t' h' => .ok (.pan v) t' h'
    | .fail => .fail
  | .draw l crit => match runDraw (callV tbl r) l t h [] with
    | .ok t' h' f => if critOk f crit then .ok .norm t' h' else .fail
    | .fail => .fail
  | .seq a b => match r a t h with
    | .ok .norm t' h' => r b t' h'
    | x => x
  | .cond x a b => match x.ev t with
    | .b true => r a t h
    | .b false => r b t h
    | _ => .fail
  | .block id a => match r a t h with
    | .ok (.exit i) t' h' => if Nat.beq i id then .ok .norm t' h' else .ok (.exit i) t' h'
    | x => x
  | .loop a => match r a t h with
    | .ok .norm t' h' => r (.loop a) t' h'
    | x => x
  | .exit id => .ok (.exit id) t h
  | .ret => .ok .ret t h
  | .rangeF f ps asg body =>
    match f.ev t with
    | .fn g a c =>
      if tbl.ext g then .fail else
      match callV tbl r (.fn g a c) [.yld h.next] (h.new (.loop ⟨.ready, none, t, ps, asg, body⟩)) with
      | .fail => .fail
      | .pan _ _ => .fail
      | .ok _ h' =>
        match h'.get h.next with
        | some (.loop lp) =>
          if lp.state = .busy then .fail
          else if isPan lp.pending then .fail
          else .ok (lp.pending.getD .norm) t (h'.put h.next (.loop { lp with state := .over }))
        | _ => .fail
    | _ => .fail
  | .prim n => match tbl.pr n t h with
    | some (v, b) => .ok .ret [v] (h.newO b)
    | none => .fail
def E (tbl : Tb) : Nat → C → List V → H → RC
  | 0 => fun _ _ _ => .fail
  | k + 1 => stepC tbl (E tbl k)
def tabBlk : Nat := 4
def synBlk : Nat := 0
def rngBlk : Nat := 1
def caseBlk : Nat := 2
def firstBlk : Nat := 5
def accBlk : Nat := 6
def fixB : List Nat := [tabBlk, synBlk, rngBlk, caseBlk, firstBlk, accBlk]
def topBlk : Nat := max tabBlk (max synBlk (max rngBlk (max caseBlk (max firstBlk accBlk)))) + 1
def numErrT : Nat := 200
def errT : Nat := 91
def esPtrT : Nat := 371
def esT : Nat := 373
def strT : Nat := 9
def sigT : Nat := 68
def primFI (m n : Nat) : FI := ⟨m, [.tmp 0], .prim n, none, none⟩
def run (tbl : Tb) (k : Nat) (f : Nat) (args : List V) (h : H) : RO := callV tbl (E tbl k) (.fn f [] []) args h
end Go.Air
set_option maxRecDepth 100000
namespace Go.Air.Try
def r3_0 : List O := [⟨some 2, none, .box (.t 0)⟩,
  ⟨some 4, none, .mov (.c (.b false))⟩]
def r3_1 : List O := [⟨some 17, none, .fld 5 (.t 2)⟩,
  ⟨some 18, none, .ld (.t 17)⟩,
  ⟨some 19, none, .lenS (.t 18)⟩,
  ⟨some 20, none, .bin .gtr (.t 19) (.c (.i .i64 8000))⟩,
  ⟨some 21, none, .mov (.t 20)⟩,
  ⟨some 22, some (21, false), .mov (.t 1)⟩,
  ⟨some 23, some (21, false), .lenS (.t 22)⟩,
  ⟨some 24, some (21, false), .bin .gtr (.t 23) (.c (.i .i64 9000))⟩,
  ⟨some 25, none, .pick (.t 21) (.c (.b true)) (.t 24)⟩]
def r3_2 : List O := [⟨some 26, none, .call (.f 4) []⟩,
  ⟨some 4, none, .mov (.t 26)⟩]
def r3_3 : List O := [⟨some 28, none, .ldn 71 (.t 2)⟩,
  ⟨some 29, none, .call (.f 5) [(.t 28)]⟩,
  ⟨some 27, none, .mov (.t 29)⟩,
  ⟨some 30, none, .ext (.t 27) 0⟩,
  ⟨some 31, none, .ext (.t 27) 1⟩,
  ⟨some 5, none, .mov (.t 30)⟩,
  ⟨some 6, none, .mov (.t 31)⟩]
def r3_4 : List O := [⟨some 33, none, .ldn 71 (.t 2)⟩,
  ⟨some 34, none, .call (.f 6) [(.t 33)]⟩,
  ⟨some 32, none, .mov (.t 34)⟩,
  ⟨some 35, none, .ext (.t 32) 0⟩,
  ⟨some 36, none, .ext (.t 32) 1⟩,
  ⟨some 7, none, .mov (.t 35)⟩,
  ⟨some 8, none, .mov (.t 36)⟩]
def r3_5 : List O := [⟨some 38, none, .mov (.t 1)⟩,
  ⟨some 39, none, .call (.f 7) [(.t 38)]⟩,
  ⟨some 37, none, .mov (.t 39)⟩,
  ⟨some 40, none, .ext (.t 37) 0⟩,
  ⟨some 41, none, .ext (.t 37) 1⟩,
  ⟨some 9, none, .alloc ([.i .i64 0, .i .i64 0, .i .i64 0] ++ [.i .u8 0] ++ [.b false] ++ [.s []] ++ [.i .i64 0] ++ List.replicate 64 (.i .u8 0))⟩,
  ⟨none, none, .st 71 (.t 9) (.t 40)⟩,
  ⟨some 10, none, .mov (.t 41)⟩]
def r3_6 : List O := [⟨some 43, none, .mov (.t 1)⟩,
  ⟨some 44, none, .call (.f 8) [(.t 43)]⟩,
  ⟨some 42, none, .mov (.t 44)⟩,
  ⟨some 45, none, .ext (.t 42) 0⟩,
  ⟨some 46, none, .ext (.t 42) 1⟩,
  ⟨some 11, none, .alloc ([.i .i64 0, .i .i64 0, .i .i64 0] ++ [.i .u8 0] ++ [.b false] ++ [.s []] ++ [.i .i64 0] ++ List.replicate 64 (.i .u8 0))⟩,
  ⟨none, none, .st 71 (.t 11) (.t 45)⟩,
  ⟨some 12, none, .mov (.t 46)⟩]
def r3_7 : List O := [⟨some 47, none, .mov (.t 5)⟩,
  ⟨some 48, none, .mov (.t 7)⟩,
  ⟨some 49, none, .bin .neq (.t 47) (.t 48)⟩,
  ⟨some 50, none, .mov (.t 49)⟩,
  ⟨some 51, some (50, false), .mov (.t 6)⟩,
  ⟨some 52, some (50, false), .mov (.t 8)⟩,
  ⟨some 53, some (50, false), .bin .neq (.t 51) (.t 52)⟩,
  ⟨some 54, none, .pick (.t 50) (.c (.b true)) (.t 53)⟩,
  ⟨some 55, none, .mov (.t 54)⟩,
  ⟨some 56, some (55, false), .ldn 71 (.t 9)⟩,
  ⟨some 57, some (55, false), .ldn 71 (.t 11)⟩,
  ⟨some 58, some (55, false), .eqv true (.agg [.i .i64, .i .i64, .i .i64, .i .u8, .b, .s, .i .i64, .i .u8, .i .u8, .i .u8, .i .u8, .i .u8, .i .u8, .i .u8, .i .u8, .i .u8, .i .u8, .i .u8, .i .u8, .i .u8, .i .u8, .i .u8, .i .u8, .i .u8, .i .u8, .i .u8, .i .u8, .i .u8, .i .u8, .i .u8, .i .u8, .i .u8, .i .u8, .i .u8, .i .u8, .i .u8, .i .u8, .i .u8, .i .u8, .i .u8, .i .u8, .i .u8, .i .u8, .i .u8, .i .u8, .i .u8, .i .u8, .i .u8, .i .u8, .i .u8, .i .u8, .i .u8, .i .u8, .i .u8, .i .u8, .i .u8, .i .u8, .i .u8, .i .u8, .i .u8, .i .u8, .i .u8, .i .u8, .i .u8, .i .u8, .i .u8, .i .u8, .i .u8, .i .u8, .i .u8, .i .u8]) (.t 56) (.t 57)⟩,
  ⟨some 59, none, .pick (.t 55) (.c (.b true)) (.t 58)⟩,
  ⟨some 60, none, .mov (.t 59)⟩,
  ⟨some 61, some (60, false), .mov (.t 10)⟩,
  ⟨some 62, some (60, false), .mov (.t 12)⟩,
  ⟨some 63, some (60, false), .bin .neq (.t 61) (.t 62)⟩,
  ⟨some 64, none, .pick (.t 60) (.c (.b true)) (.t 63)⟩]
def r3_8 : List O := [⟨some 4, none, .mov (.c (.b false))⟩]
def r3_9 : List O := [⟨some 65, none, .mov (.t 6)⟩,
  ⟨some 66, none, .bin .eql (.t 65) (.c (.i .i64 0))⟩]
def r3_10 : List O := [⟨some 68, none, .mov (.t 5)⟩,
  ⟨some 69, none, .call (.f 7) [(.t 68)]⟩,
  ⟨some 67, none, .mov (.t 69)⟩,
  ⟨some 70, none, .ext (.t 67) 0⟩,
  ⟨some 71, none, .ext (.t 67) 1⟩,
  ⟨some 13, none, .alloc ([.i .i64 0, .i .i64 0, .i .i64 0] ++ [.i .u8 0] ++ [.b false] ++ [.s []] ++ [.i .i64 0] ++ List.replicate 64 (.i .u8 0))⟩,
  ⟨none, none, .st 71 (.t 13) (.t 70)⟩,
  ⟨some 14, none, .mov (.t 71)⟩]
def r3_11 : List O := [⟨some 72, none, .mov (.t 14)⟩,
  ⟨some 73, none, .bin .neq (.t 72) (.c (.i .i64 0))⟩,
  ⟨some 74, none, .mov (.t 73)⟩,
  ⟨some 75, some (74, false), .ldn 71 (.t 13)⟩,
  ⟨some 76, some (74, false), .ldn 71 (.t 2)⟩,
  ⟨some 77, some (74, false), .eqv true (.agg [.i .i64, .i .i64, .i .i64, .i .u8, .b, .s, .i .i64, .i .u8, .i .u8, .i .u8, .i .u8, .i .u8, .i .u8, .i .u8, .i .u8, .i .u8, .i .u8, .i .u8, .i .u8, .i .u8, .i .u8, .i .u8, .i .u8, .i .u8, .i .u8, .i .u8, .i .u8, .i .u8, .i .u8, .i .u8, .i .u8, .i .u8, .i .u8, .i .u8, .i .u8, .i .u8, .i .u8, .i .u8, .i .u8, .i .u8, .i .u8, .i .u8, .i .u8, .i .u8, .i .u8, .i .u8, .i .u8, .i .u8, .i .u8, .i .u8, .i .u8, .i .u8, .i .u8, .i .u8, .i .u8, .i .u8, .i .u8, .i .u8, .i .u8, .i .u8, .i .u8, .i .u8, .i .u8, .i .u8, .i .u8, .i .u8, .i .u8, .i .u8, .i .u8, .i .u8, .i .u8]) (.t 75) (.t 76)⟩,
  ⟨some 78, none, .pick (.t 74) (.c (.b true)) (.t 77)⟩]
def r3_12 : List O := [⟨some 4, none, .mov (.c (.b false))⟩]
def r3_13 : List O := [⟨some 79, none, .mov (.t 10)⟩,
  ⟨some 80, none, .bin .eql (.t 79) (.c (.i .i64 0))⟩]
def r3_14 : List O := [⟨some 82, none, .ldn 71 (.t 9)⟩,
  ⟨some 83, none, .call (.f 5) [(.t 82)]⟩,
  ⟨some 81, none, .mov (.t 83)⟩,
  ⟨some 84, none, .ext (.t 81) 0⟩,
  ⟨some 85, none, .ext (.t 81) 1⟩,
  ⟨some 15, none, .mov (.t 84)⟩,
  ⟨some 16, none, .mov (.t 85)⟩]
def r3_15 : List O := [⟨some 86, none, .mov (.t 16)⟩,
  ⟨some 87, none, .bin .neq (.t 86) (.c (.i .i64 0))⟩,
  ⟨some 88, none, .mov (.t 87)⟩,
  ⟨some 89, some (88, false), .mov (.t 15)⟩,
  ⟨some 90, some (88, false), .mov (.t 1)⟩,
  ⟨some 91, some (88, false), .bin .neq (.t 89) (.t 90)⟩,
  ⟨some 92, none, .pick (.t 88) (.c (.b true)) (.t 91)⟩]
def r3_16 : List O := [⟨some 4, none, .mov (.c (.b false))⟩]
def r3_17 : List O := [⟨some 93, none, .call (.f 4) []⟩,
  ⟨some 4, none, .mov (.t 93)⟩]
def a3 : FI := ⟨94, [.tmp 4], .seq (.ops r3_0) (.seq (.seq (.ops r3_1) (.cond (.t 25) (.seq (.ops r3_2) (.ret)) (.skip))) (.seq (.ops r3_3) (.seq (.ops r3_4) (.seq (.ops r3_5) (.seq (.ops r3_6) (.seq (.seq (.ops r3_7) (.cond (.t 64) (.seq (.ops r3_8) (.ret)) (.skip))) (.seq (.seq (.ops r3_9) (.cond (.t 66) (.seq (.ops r3_10) (.seq (.ops r3_11) (.cond (.t 78) (.seq (.ops r3_12) (.ret)) (.skip)))) (.skip))) (.seq (.seq (.ops r3_13) (.cond (.t 80) (.seq (.ops r3_14) (.seq (.ops r3_15) (.cond (.t 92) (.seq (.ops r3_16) (.ret)) (.skip)))) (.skip))) (.seq (.ops r3_17) (.ret)))))))))), none, none⟩
def r4_0 : List O := [⟨some 0, none, .mov (.c (.b false))⟩]
def r4_1 : List O := [⟨some 13, none, .buildSl [.i .u8 0, .i .u8 0, .i .u8 0] 3 [(0, 1, (.c (.i .u8 97))), (1, 1, (.c (.i .u8 98))), (2, 1, (.c (.i .u8 99)))]⟩,
  ⟨some 14, none, .mark (.t 13)⟩,
  ⟨some 15, none, .call (.f 9) [(.t 14)]⟩,
  ⟨some 16, none, .call (.f 9) [(.c (.sn))]⟩,
  ⟨some 1, none, .alloc (List.replicate 32 (.i .u8 0))⟩,
  ⟨some 2, none, .alloc (List.replicate 32 (.i .u8 0))⟩,
  ⟨none, none, .st 32 (.t 1) (.t 15)⟩,
  ⟨none, none, .st 32 (.t 2) (.t 16)⟩]
def r4_2 : List O := [⟨some 17, none, .ixA 32 1 (.t 1) (.c (.i .i64 0))⟩,
  ⟨some 18, none, .ld (.t 17)⟩,
  ⟨some 19, none, .bin .neq (.t 18) (.c (.i .u8 186))⟩,
  ⟨some 20, none, .mov (.t 19)⟩,
  ⟨some 21, some (20, false), .ixA 32 1 (.t 1) (.c (.i .i64 1))⟩,
  ⟨some 22, some (20, false), .ld (.t 21)⟩,
  ⟨some 23, some (20, false), .bin .neq (.t 22) (.c (.i .u8 120))⟩,
  ⟨some 24, none, .pick (.t 20) (.c (.b true)) (.t 23)⟩,
  ⟨some 25, none, .mov (.t 24)⟩,
  ⟨some 26, some (25, false), .ixA 32 1 (.t 1) (.c (.i .i64 2))⟩,
  ⟨some 27, some (25, false), .ld (.t 26)⟩,
  ⟨some 28, some (25, false), .bin .neq (.t 27) (.c (.i .u8 22))⟩,
  ⟨some 29, none, .pick (.t 25) (.c (.b true)) (.t 28)⟩,
  ⟨some 30, none, .mov (.t 29)⟩,
  ⟨some 31, some (30, false), .ixA 32 1 (.t 1) (.c (.i .i64 3))⟩,
  ⟨some 32, some (30, false), .ld (.t 31)⟩,
  ⟨some 33, some (30, false), .bin .neq (.t 32) (.c (.i .u8 191))⟩,
  ⟨some 34, none, .pick (.t 30) (.c (.b true)) (.t 33)⟩,
  ⟨some 35, none, .mov (.t 34)⟩,
  ⟨some 36, some (35, false), .ixA 32 1 (.t 2) (.c (.i .i64 0))⟩,
  ⟨some 37, some (35, false), .ld (.t 36)⟩,
  ⟨some 38, some (35, false), .bin .neq (.t 37) (.c (.i .u8 227))⟩,
  ⟨some 39, none, .pick (.t 35) (.c (.b true)) (.t 38)⟩,
  ⟨some 40, none, .mov (.t 39)⟩,
  ⟨some 41, some (40, false), .ixA 32 1 (.t 2) (.c (.i .i64 3))⟩,
  ⟨some 42, some (40, false), .ld (.t 41)⟩,
  ⟨some 43, some (40, false), .bin .neq (.t 42) (.c (.i .u8 66))⟩,
  ⟨some 44, none, .pick (.t 40) (.c (.b true)) (.t 43)⟩]
def r4_3 : List O := [⟨some 0, none, .mov (.c (.b false))⟩]
def r4_4 : List O := [⟨some 46, none, .call (.f 10) [(.c (.sn)), (.c (.i .i64 3)), (.c (.i .i64 0)), (.c (.i .u8 7)), (.c (.s [97])), (.c (.i .i64 7))]⟩,
  ⟨some 45, none, .mov (.t 46)⟩,
  ⟨some 47, none, .ext (.t 45) 0⟩,
  ⟨some 48, none, .ext (.t 45) 1⟩,
  ⟨some 3, none, .alloc ([.i .i64 0, .i .i64 0, .i .i64 0] ++ [.i .u8 0] ++ [.b false] ++ [.s []] ++ [.i .i64 0] ++ List.replicate 64 (.i .u8 0))⟩,
  ⟨none, none, .st 71 (.t 3) (.t 47)⟩,
  ⟨some 4, none, .mov (.t 48)⟩]
def r4_5 : List O := [⟨some 50, none, .ldn 71 (.t 3)⟩,
  ⟨some 51, none, .buildSl ([.i .i64 0, .i .i64 0, .i .i64 0] ++ [.i .u8 0] ++ [.b false] ++ [.s []] ++ [.i .i64 0] ++ List.replicate 64 (.i .u8 0)) 1 [(0, 71, (.t 50))]⟩,
  ⟨some 52, none, .call (.f 10) [(.t 51), (.c (.i .i64 3)), (.c (.i .i64 1)), (.c (.i .u8 7)), (.c (.s [98])), (.c (.i .i64 8))]⟩,
  ⟨some 49, none, .mov (.t 52)⟩,
  ⟨some 53, none, .ext (.t 49) 0⟩,
  ⟨some 54, none, .ext (.t 49) 1⟩,
  ⟨some 5, none, .alloc ([.i .i64 0, .i .i64 0, .i .i64 0] ++ [.i .u8 0] ++ [.b false] ++ [.s []] ++ [.i .i64 0] ++ List.replicate 64 (.i .u8 0))⟩,
  ⟨none, none, .st 71 (.t 5) (.t 53)⟩,
  ⟨some 6, none, .mov (.t 54)⟩]
def r4_6 : List O := [⟨some 55, none, .mov (.t 4)⟩,
  ⟨some 56, none, .bin .neq (.t 55) (.c (.i .i64 0))⟩,
  ⟨some 57, none, .mov (.t 56)⟩,
  ⟨some 58, some (57, false), .mov (.t 6)⟩,
  ⟨some 59, some (57, false), .bin .neq (.t 58) (.c (.i .i64 0))⟩,
  ⟨some 60, none, .pick (.t 57) (.c (.b true)) (.t 59)⟩,
  ⟨some 61, none, .mov (.t 60)⟩,
  ⟨some 62, some (61, false), .fld 7 (.t 3)⟩,
  ⟨some 63, some (61, false), .ldn 32 (.t 62)⟩,
  ⟨some 64, some (61, false), .buildSl [.i .u8 0, .i .u8 0, .i .u8 0, .i .u8 0] 4 [(0, 1, (.c (.i .u8 115))), (1, 1, (.c (.i .u8 55))), (2, 1, (.c (.i .u8 47))), (3, 1, (.c (.i .u8 97)))]⟩,
  ⟨some 65, some (61, false), .mark (.t 64)⟩,
  ⟨some 66, some (61, false), .call (.f 9) [(.t 65)]⟩,
  ⟨some 67, some (61, false), .eqv true (.agg (List.replicate 32 (.i .u8 : KT))) (.t 63) (.t 66)⟩,
  ⟨some 68, none, .pick (.t 61) (.c (.b true)) (.t 67)⟩,
  ⟨some 69, none, .mov (.t 68)⟩,
  ⟨some 70, some (69, false), .fld 39 (.t 5)⟩,
  ⟨some 71, some (69, false), .ldn 32 (.t 70)⟩,
  ⟨some 72, some (69, false), .ldn 71 (.t 3)⟩,
  ⟨some 73, some (69, false), .call (.f 11) [(.t 72)]⟩,
  ⟨some 74, some (69, false), .eqv true (.agg (List.replicate 32 (.i .u8 : KT))) (.t 71) (.t 73)⟩,
  ⟨some 75, none, .pick (.t 69) (.c (.b true)) (.t 74)⟩,
  ⟨some 76, none, .mov (.t 75)⟩,
  ⟨some 77, some (76, false), .fld 0 (.t 5)⟩,
  ⟨some 78, some (76, false), .ld (.t 77)⟩,
  ⟨some 79, some (76, false), .bin .neq (.t 78) (.c (.i .i64 1))⟩,
  ⟨some 80, none, .pick (.t 76) (.c (.b true)) (.t 79)⟩]
def r4_7 : List O := [⟨some 0, none, .mov (.c (.b false))⟩]
def r4_8 : List O := [⟨some 81, none, .ldn 71 (.t 3)⟩,
  ⟨some 7, none, .alloc ([.i .i64 0, .i .i64 0, .i .i64 0] ++ [.i .u8 0] ++ [.b false] ++ [.s []] ++ [.i .i64 0] ++ List.replicate 64 (.i .u8 0))⟩,
  ⟨none, none, .st 71 (.t 7) (.t 81)⟩]
def r4_9 : List O := [⟨some 82, none, .fld 5 (.t 7)⟩,
  ⟨none, none, .st 1 (.t 82) (.c (.s [98]))⟩]
def r4_10 : List O := [⟨some 83, none, .ldn 71 (.t 3)⟩,
  ⟨some 84, none, .buildSl ([.i .i64 0, .i .i64 0, .i .i64 0] ++ [.i .u8 0] ++ [.b false] ++ [.s []] ++ [.i .i64 0] ++ List.replicate 64 (.i .u8 0)) 1 [(0, 71, (.t 83))]⟩,
  ⟨some 85, none, .call (.f 12) [(.t 84)]⟩,
  ⟨some 8, none, .alloc [.b false, .i .i64 0, .i .u8 0]⟩,
  ⟨none, none, .st 3 (.t 8) (.t 85)⟩]
def r4_11 : List O := [⟨some 86, none, .ldn 71 (.t 3)⟩,
  ⟨some 87, none, .ldn 71 (.t 5)⟩,
  ⟨some 88, none, .buildSl ([.i .i64 0, .i .i64 0, .i .i64 0] ++ [.i .u8 0] ++ [.b false] ++ [.s []] ++ [.i .i64 0] ++ List.replicate 64 (.i .u8 0) ++ [.i .i64 0, .i .i64 0, .i .i64 0] ++ [.i .u8 0] ++ [.b false] ++ [.s []] ++ [.i .i64 0] ++ List.replicate 64 (.i .u8 0)) 2 [(0, 71, (.t 86)), (71, 71, (.t 87))]⟩,
  ⟨some 89, none, .call (.f 12) [(.t 88)]⟩,
  ⟨some 9, none, .alloc [.b false, .i .i64 0, .i .u8 0]⟩,
  ⟨none, none, .st 3 (.t 9) (.t 89)⟩]
def r4_12 : List O := [⟨some 90, none, .ldn 71 (.t 7)⟩,
  ⟨some 91, none, .buildSl ([.i .i64 0, .i .i64 0, .i .i64 0] ++ [.i .u8 0] ++ [.b false] ++ [.s []] ++ [.i .i64 0] ++ List.replicate 64 (.i .u8 0)) 1 [(0, 71, (.t 90))]⟩,
  ⟨some 92, none, .call (.f 12) [(.t 91)]⟩,
  ⟨some 10, none, .alloc [.b false, .i .i64 0, .i .u8 0]⟩,
  ⟨none, none, .st 3 (.t 10) (.t 92)⟩]
def r4_13 : List O := [⟨some 94, none, .build [.i .i64 0, .i .i64 0, .i .i64 0, .i .i64 0, .i .i64 0] [(0, 1, (.c (.i .i64 9))), (1, 1, (.c (.i .i64 1))), (3, 1, (.c (.i .i64 5))), (4, 1, (.c (.i .i64 8)))]⟩,
  ⟨some 95, none, .build [.i .i64 0, .i .i64 0] [(0, 1, (.c (.i .i64 11))), (1, 1, (.c (.i .i64 2)))]⟩,
  ⟨some 96, none, .buildSl [.i .i64 0, .i .i64 0] 1 [(0, 2, (.t 95))]⟩,
  ⟨some 97, none, .buildSl [.i .i64 0] 1 [(0, 1, (.c (.i .i64 0)))]⟩,
  ⟨some 98, none, .build [.i .i64 0, .i .i64 0, .i .i64 0, .i .i64 0, .i .i64 0, .i .i64 0, .sn, .i .i64 0, .i .i64 0, .sn, .i .i64 0, .i .i64 0] [(0, 1, (.c (.i .i64 1))), (1, 5, (.t 94)), (6, 1, (.t 96)), (9, 1, (.t 97))]⟩,
  ⟨some 99, none, .call (.f 13) [(.t 98)]⟩,
  ⟨some 93, none, .mov (.t 99)⟩,
  ⟨some 100, none, .ext (.t 93) 0⟩,
  ⟨some 101, none, .ext (.t 93) 1⟩,
  ⟨some 11, none, .mov (.t 100)⟩,
  ⟨some 12, none, .mov (.t 101)⟩]
def r4_14 : List O := [⟨some 102, none, .ldn 3 (.t 8)⟩,
  ⟨some 103, none, .build [.b false, .i .i64 0, .i .u8 0] [(0, 1, (.c (.b true)))]⟩,
  ⟨some 104, none, .eqv false (.agg [.b, .i .i64, .i .u8]) (.t 102) (.t 103)⟩,
  ⟨some 105, none, .mov (.t 104)⟩,
  ⟨some 106, some (105, true), .ldn 3 (.t 9)⟩,
  ⟨some 107, some (105, true), .build [.b false, .i .i64 0, .i .u8 0] [(1, 1, (.c (.i .i64 1))), (2, 1, (.c (.i .u8 2)))]⟩,
  ⟨some 108, some (105, true), .eqv false (.agg [.b, .i .i64, .i .u8]) (.t 106) (.t 107)⟩,
  ⟨some 109, none, .pick (.t 105) (.t 108) (.c (.b false))⟩,
  ⟨some 110, none, .mov (.t 109)⟩,
  ⟨some 111, some (110, true), .ldn 3 (.t 10)⟩,
  ⟨some 112, some (110, true), .build [.b false, .i .i64 0, .i .u8 0] [(2, 1, (.c (.i .u8 1)))]⟩,
  ⟨some 113, some (110, true), .eqv false (.agg [.b, .i .i64, .i .u8]) (.t 111) (.t 112)⟩,
  ⟨some 114, none, .pick (.t 110) (.t 113) (.c (.b false))⟩,
  ⟨some 115, none, .mov (.t 114)⟩,
  ⟨some 116, some (115, true), .mov (.t 12)⟩,
  ⟨some 117, some (115, true), .bin .eql (.t 116) (.c (.i .i64 0))⟩,
  ⟨some 118, none, .pick (.t 115) (.t 117) (.c (.b false))⟩,
  ⟨some 119, none, .mov (.t 118)⟩,
  ⟨some 120, some (119, true), .mov (.t 11)⟩,
  ⟨some 121, some (119, true), .bin .eql (.t 120) (.c (.s [97, 110, 110, 111, 117, 110, 99, 101, 32, 49, 32, 48, 32, 48, 32, 48, 32, 48, 10, 115, 99, 101, 110, 101, 32, 57, 32, 49, 32, 48, 32, 53, 32, 56, 10, 103, 117, 101, 115, 116, 32, 49, 49, 32, 50, 10, 111, 114, 100, 101, 114, 32, 48, 10]))⟩,
  ⟨some 122, none, .pick (.t 119) (.t 121) (.c (.b false))⟩,
  ⟨some 0, none, .mov (.t 122)⟩]
def a4 : FI := ⟨123, [.tmp 0], .seq (.ops r4_0) (.seq (.ops r4_1) (.seq (.seq (.ops r4_2) (.cond (.t 44) (.seq (.ops r4_3) (.ret)) (.skip))) (.seq (.ops r4_4) (.seq (.ops r4_5) (.seq (.seq (.draw r4_6 [(8, 10), (8, 11), (16, 18)]) (.cond (.t 80) (.seq (.ops r4_7) (.ret)) (.skip))) (.seq (.ops r4_8) (.seq (.ops r4_9) (.seq (.ops r4_10) (.seq (.ops r4_11) (.seq (.ops r4_12) (.seq (.ops r4_13) (.seq (.ops r4_14) (.ret))))))))))))), none, none⟩
def r5_0 : List O := [⟨some 1, none, .box (.t 0)⟩,
  ⟨some 2, none, .mov (.c (.s []))⟩,
  ⟨some 3, none, .mov (.c (.i .i64 0))⟩]
def r5_1 : List O := [⟨some 5, none, .ldn 71 (.t 1)⟩,
  ⟨some 6, none, .call (.f 14) [(.t 5)]⟩,
  ⟨some 7, none, .un .not (.t 6)⟩]
def r5_2 : List O := [⟨some 2, none, .mov (.c (.s []))⟩,
  ⟨some 3, none, .mov (.c (.i .i64 1))⟩]
def r5_3 : List O := [⟨some 4, none, .mov (.c (.i .i64 0))⟩]
def r5_4 : List O := [⟨some 8, none, .fld 4 (.t 1)⟩,
  ⟨some 9, none, .ld (.t 8)⟩]
def r5_5 : List O := [⟨some 4, none, .mov (.c (.i .i64 1))⟩]
def r5_6 : List O := [⟨some 10, none, .fld 0 (.t 1)⟩,
  ⟨some 11, none, .ld (.t 10)⟩,
  ⟨some 12, none, .fld 1 (.t 1)⟩,
  ⟨some 13, none, .ld (.t 12)⟩,
  ⟨some 14, none, .fld 2 (.t 1)⟩,
  ⟨some 15, none, .ld (.t 14)⟩,
  ⟨some 16, none, .fld 3 (.t 1)⟩,
  ⟨some 17, none, .ld (.t 16)⟩,
  ⟨some 18, none, .conv .i64 (.t 17)⟩,
  ⟨some 19, none, .mov (.t 4)⟩,
  ⟨some 20, none, .fld 6 (.t 1)⟩,
  ⟨some 21, none, .ld (.t 20)⟩,
  ⟨some 22, none, .fld 5 (.t 1)⟩,
  ⟨some 23, none, .ld (.t 22)⟩,
  ⟨some 24, none, .lenS (.t 23)⟩,
  ⟨some 25, none, .buildSl [.i .i64 0, .i .i64 0, .i .i64 0, .i .i64 0, .i .i64 0, .i .i64 0, .i .i64 0] 7 [(0, 1, (.t 11)), (1, 1, (.t 13)), (2, 1, (.t 15)), (3, 1, (.t 18)), (4, 1, (.t 19)), (5, 1, (.t 21)), (6, 1, (.t 24))]⟩,
  ⟨some 26, none, .call (.f 15) [(.t 25)]⟩,
  ⟨some 27, none, .bin .add (.c (.s [98, 117, 108, 108, 101, 116, 105, 110, 32])) (.t 26)⟩,
  ⟨some 28, none, .bin .add (.t 27) (.c (.s [10, 115, 101, 97, 108, 32]))⟩,
  ⟨some 29, none, .fld 7 (.t 1)⟩,
  ⟨some 30, none, .ldn 32 (.t 29)⟩,
  ⟨some 31, none, .call (.f 16) [(.t 30)]⟩,
  ⟨some 32, none, .bin .add (.t 28) (.t 31)⟩,
  ⟨some 33, none, .bin .add (.t 32) (.c (.s [10, 112, 114, 101, 118, 32]))⟩,
  ⟨some 34, none, .fld 39 (.t 1)⟩,
  ⟨some 35, none, .ldn 32 (.t 34)⟩,
  ⟨some 36, none, .call (.f 16) [(.t 35)]⟩,
  ⟨some 37, none, .bin .add (.t 33) (.t 36)⟩,
  ⟨some 38, none, .bin .add (.t 37) (.c (.s [10]))⟩,
  ⟨some 39, none, .fld 5 (.t 1)⟩,
  ⟨some 40, none, .ld (.t 39)⟩,
  ⟨some 41, none, .bin .add (.t 38) (.t 40)⟩,
  ⟨some 2, none, .mov (.t 41)⟩,
  ⟨some 3, none, .mov (.c (.i .i64 0))⟩]
def a5 : FI := ⟨42, [.tmp 2, .tmp 3], .seq (.ops r5_0) (.seq (.seq (.ops r5_1) (.cond (.t 7) (.seq (.ops r5_2) (.ret)) (.skip))) (.seq (.ops r5_3) (.seq (.seq (.ops r5_4) (.cond (.t 9) (.ops r5_5) (.skip))) (.seq (.draw r5_6 [(16, 20), (16, 25), (21, 25), (16, 30), (21, 30), (26, 30)]) (.ret))))), none, none⟩
def r6_0 : List O := [⟨some 1, none, .box (.t 0)⟩,
  ⟨some 2, none, .mov (.c (.s []))⟩,
  ⟨some 3, none, .mov (.c (.i .i64 0))⟩]
def r6_1 : List O := [⟨some 7, none, .ldn 71 (.t 1)⟩,
  ⟨some 8, none, .call (.f 17) [(.t 7)]⟩,
  ⟨some 4, none, .mov (.t 8)⟩]
def r6_2 : List O := [⟨some 9, none, .mov (.t 4)⟩,
  ⟨some 10, none, .un .not (.t 9)⟩]
def r6_3 : List O := [⟨some 2, none, .mov (.c (.s []))⟩,
  ⟨some 3, none, .mov (.c (.i .i64 1))⟩]
def r6_4 : List O := [⟨some 5, none, .mov (.c (.i .i64 0))⟩]
def r6_5 : List O := [⟨some 11, none, .fld 4 (.t 1)⟩,
  ⟨some 12, none, .ld (.t 11)⟩]
def r6_6 : List O := [⟨some 5, none, .mov (.c (.i .i64 1))⟩]
def r6_7 : List O := [⟨some 13, none, .fld 0 (.t 1)⟩,
  ⟨some 14, none, .ld (.t 13)⟩,
  ⟨some 15, none, .call (.f 18) [(.t 14)]⟩,
  ⟨some 16, none, .bin .add (.c (.s [98, 117, 108, 108, 101, 116, 105, 110])) (.t 15)⟩,
  ⟨some 17, none, .fld 1 (.t 1)⟩,
  ⟨some 18, none, .ld (.t 17)⟩,
  ⟨some 19, none, .call (.f 18) [(.t 18)]⟩,
  ⟨some 20, none, .bin .add (.t 16) (.t 19)⟩,
  ⟨some 21, none, .fld 2 (.t 1)⟩,
  ⟨some 22, none, .ld (.t 21)⟩,
  ⟨some 23, none, .call (.f 18) [(.t 22)]⟩,
  ⟨some 24, none, .bin .add (.t 20) (.t 23)⟩,
  ⟨some 25, none, .fld 3 (.t 1)⟩,
  ⟨some 26, none, .ld (.t 25)⟩,
  ⟨some 27, none, .conv .i64 (.t 26)⟩,
  ⟨some 28, none, .call (.f 18) [(.t 27)]⟩,
  ⟨some 29, none, .bin .add (.t 24) (.t 28)⟩,
  ⟨some 30, none, .mov (.t 5)⟩,
  ⟨some 31, none, .call (.f 18) [(.t 30)]⟩,
  ⟨some 32, none, .bin .add (.t 29) (.t 31)⟩,
  ⟨some 33, none, .fld 6 (.t 1)⟩,
  ⟨some 34, none, .ld (.t 33)⟩,
  ⟨some 35, none, .call (.f 18) [(.t 34)]⟩,
  ⟨some 36, none, .bin .add (.t 32) (.t 35)⟩,
  ⟨some 37, none, .fld 5 (.t 1)⟩,
  ⟨some 38, none, .ld (.t 37)⟩,
  ⟨some 39, none, .lenS (.t 38)⟩,
  ⟨some 40, none, .call (.f 18) [(.t 39)]⟩,
  ⟨some 41, none, .bin .add (.t 36) (.t 40)⟩,
  ⟨some 42, none, .bin .add (.t 41) (.c (.s [10]))⟩,
  ⟨some 6, none, .mov (.t 42)⟩]
def r6_8 : List O := [⟨some 43, none, .mov (.t 6)⟩,
  ⟨some 44, none, .bin .add (.t 43) (.c (.s [115, 101, 97, 108, 32]))⟩,
  ⟨some 45, none, .fld 7 (.t 1)⟩,
  ⟨some 46, none, .ldn 32 (.t 45)⟩,
  ⟨some 47, none, .call (.f 19) [(.t 46)]⟩,
  ⟨some 48, none, .bin .add (.t 44) (.t 47)⟩,
  ⟨some 49, none, .bin .add (.t 48) (.c (.s [10, 112, 114, 101, 118, 32]))⟩,
  ⟨some 50, none, .fld 39 (.t 1)⟩,
  ⟨some 51, none, .ldn 32 (.t 50)⟩,
  ⟨some 52, none, .call (.f 19) [(.t 51)]⟩,
  ⟨some 53, none, .bin .add (.t 49) (.t 52)⟩,
  ⟨some 54, none, .bin .add (.t 53) (.c (.s [10]))⟩,
  ⟨some 55, none, .fld 5 (.t 1)⟩,
  ⟨some 56, none, .ld (.t 55)⟩,
  ⟨some 57, none, .bin .add (.t 54) (.t 56)⟩,
  ⟨some 2, none, .mov (.t 57)⟩,
  ⟨some 3, none, .mov (.c (.i .i64 0))⟩]
def a6 : FI := ⟨58, [.tmp 2, .tmp 3], .seq (.ops r6_0) (.seq (.ops r6_1) (.seq (.seq (.ops r6_2) (.cond (.t 10) (.seq (.ops r6_3) (.ret)) (.skip))) (.seq (.ops r6_4) (.seq (.seq (.ops r6_5) (.cond (.t 12) (.ops r6_6) (.skip))) (.seq (.draw r6_7 [(2, 5), (2, 9), (6, 9), (2, 13), (6, 13), (10, 13), (2, 21), (6, 21), (10, 21), (15, 21), (18, 21), (2, 25), (6, 25), (10, 25), (15, 25), (18, 25), (22, 25)]) (.seq (.draw r6_8 [(4, 8), (4, 13), (9, 13)]) (.ret))))))), none, none⟩
def r7_0 : List O := [⟨some 2, none, .alloc ([.i .i64 0, .i .i64 0, .i .i64 0] ++ [.i .u8 0] ++ [.b false] ++ [.s []] ++ [.i .i64 0] ++ List.replicate 64 (.i .u8 0))⟩,
  ⟨some 3, none, .mov (.c (.i .i64 0))⟩]
def r7_1 : List O := [⟨some 4, none, .alloc ([.i .i64 0, .i .i64 0, .i .i64 0] ++ [.i .u8 0] ++ [.b false] ++ [.s []] ++ [.i .i64 0] ++ List.replicate 64 (.i .u8 0))⟩]
def r7_2 : List O := [⟨some 6, none, .mov (.t 0)⟩,
  ⟨some 7, none, .mkFn 21 [] [(.t 4)]⟩,
  ⟨some 8, none, .call (.f 20) [(.t 6), (.t 7)]⟩,
  ⟨some 5, none, .mov (.t 8)⟩]
def r7_3 : List O := [⟨some 9, none, .mov (.t 5)⟩,
  ⟨some 10, none, .un .not (.t 9)⟩,
  ⟨some 11, none, .mov (.t 10)⟩,
  ⟨some 12, some (11, false), .ldn 71 (.t 4)⟩,
  ⟨some 13, some (11, false), .call (.f 14) [(.t 12)]⟩,
  ⟨some 14, some (11, false), .un .not (.t 13)⟩,
  ⟨some 15, none, .pick (.t 11) (.c (.b true)) (.t 14)⟩]
def r7_4 : List O := [⟨some 16, none, .build ([.i .i64 0, .i .i64 0, .i .i64 0] ++ [.i .u8 0] ++ [.b false] ++ [.s []] ++ [.i .i64 0] ++ List.replicate 64 (.i .u8 0)) []⟩,
  ⟨none, none, .st 71 (.t 2) (.t 16)⟩,
  ⟨some 3, none, .mov (.c (.i .i64 4))⟩]
def r7_5 : List O := [⟨some 17, none, .ldn 71 (.t 4)⟩,
  ⟨none, none, .st 71 (.t 2) (.t 17)⟩,
  ⟨some 3, none, .mov (.c (.i .i64 0))⟩]
def a7 : FI := ⟨18, [.cell 2 (some 71), .tmp 3], .seq (.ops r7_0) (.seq (.ops r7_1) (.seq (.ops r7_2) (.seq (.seq (.ops r7_3) (.cond (.t 15) (.seq (.ops r7_4) (.ret)) (.skip))) (.seq (.ops r7_5) (.ret))))), none, none⟩
def r8_0 : List O := [⟨some 2, none, .alloc ([.i .i64 0, .i .i64 0, .i .i64 0] ++ [.i .u8 0] ++ [.b false] ++ [.s []] ++ [.i .i64 0] ++ List.replicate 64 (.i .u8 0))⟩,
  ⟨some 3, none, .mov (.c (.i .i64 0))⟩]
def r8_1 : List O := [⟨some 10, none, .mov (.t 0)⟩,
  ⟨some 11, none, .build [.s []] [(0, 1, (.t 10))]⟩,
  ⟨some 12, none, .box (.t 11)⟩,
  ⟨some 4, none, .mov (.t 12)⟩]
def r8_2 : List O := [⟨some 5, none, .alloc ([.i .i64 0, .i .i64 0, .i .i64 0] ++ [.i .u8 0] ++ [.b false] ++ [.s []] ++ [.i .i64 0] ++ List.replicate 64 (.i .u8 0))⟩]
def r8_3 : List O := [⟨some 13, none, .mov (.t 4)⟩,
  ⟨some 14, none, .call (.f 25) [(.t 13)]⟩,
  ⟨some 15, none, .call (.f 24) [(.t 14)]⟩,
  ⟨some 6, none, .mov (.t 15)⟩]
def r8_4 : List O := [⟨some 16, none, .mov (.t 6)⟩,
  ⟨some 17, none, .call (.f 26) [(.t 16), (.c (.i .i64 1))]⟩,
  ⟨some 18, none, .fld 0 (.t 5)⟩,
  ⟨none, none, .st 1 (.t 18) (.t 17)⟩]
def r8_5 : List O := [⟨some 19, none, .mov (.t 6)⟩,
  ⟨some 20, none, .call (.f 26) [(.t 19), (.c (.i .i64 2))]⟩,
  ⟨some 21, none, .fld 1 (.t 5)⟩,
  ⟨none, none, .st 1 (.t 21) (.t 20)⟩]
def r8_6 : List O := [⟨some 22, none, .mov (.t 6)⟩,
  ⟨some 23, none, .call (.f 26) [(.t 22), (.c (.i .i64 3))]⟩,
  ⟨some 24, none, .fld 2 (.t 5)⟩,
  ⟨none, none, .st 1 (.t 24) (.t 23)⟩]
def r8_7 : List O := [⟨some 25, none, .mov (.t 6)⟩,
  ⟨some 26, none, .call (.f 26) [(.t 25), (.c (.i .i64 4))]⟩,
  ⟨some 7, none, .mov (.t 26)⟩]
def r8_8 : List O := [⟨some 27, none, .mov (.t 6)⟩,
  ⟨some 28, none, .call (.f 26) [(.t 27), (.c (.i .i64 5))]⟩,
  ⟨some 29, none, .bin .eql (.t 28) (.c (.i .i64 1))⟩,
  ⟨some 30, none, .fld 4 (.t 5)⟩,
  ⟨none, none, .st 1 (.t 30) (.t 29)⟩]
def r8_9 : List O := [⟨some 31, none, .mov (.t 6)⟩,
  ⟨some 32, none, .call (.f 26) [(.t 31), (.c (.i .i64 6))]⟩,
  ⟨some 33, none, .fld 6 (.t 5)⟩,
  ⟨none, none, .st 1 (.t 33) (.t 32)⟩]
def r8_10 : List O := [⟨some 34, none, .mov (.t 7)⟩,
  ⟨some 35, none, .bin .gtr (.t 34) (.c (.i .i64 7))⟩]
def r8_11 : List O := [⟨some 36, none, .build ([.i .i64 0, .i .i64 0, .i .i64 0] ++ [.i .u8 0] ++ [.b false] ++ [.s []] ++ [.i .i64 0] ++ List.replicate 64 (.i .u8 0)) []⟩,
  ⟨none, none, .st 71 (.t 2) (.t 36)⟩,
  ⟨some 3, none, .mov (.c (.i .i64 4))⟩]
def r8_12 : List O := [⟨some 37, none, .mov (.t 7)⟩,
  ⟨some 38, none, .conv .u8 (.t 37)⟩,
  ⟨some 39, none, .fld 3 (.t 5)⟩,
  ⟨none, none, .st 1 (.t 39) (.t 38)⟩]
def r8_13 : List O := [⟨some 40, none, .mov (.t 4)⟩,
  ⟨some 41, none, .call (.f 25) [(.t 40)]⟩,
  ⟨some 42, none, .call (.f 24) [(.t 41)]⟩,
  ⟨some 43, none, .call (.f 27) [(.t 42)]⟩,
  ⟨some 44, none, .fld 7 (.t 5)⟩,
  ⟨none, none, .st 32 (.t 44) (.t 43)⟩]
def r8_14 : List O := [⟨some 45, none, .mov (.t 4)⟩,
  ⟨some 46, none, .call (.f 25) [(.t 45)]⟩,
  ⟨some 47, none, .call (.f 24) [(.t 46)]⟩,
  ⟨some 48, none, .call (.f 27) [(.t 47)]⟩,
  ⟨some 49, none, .fld 39 (.t 5)⟩,
  ⟨none, none, .st 32 (.t 49) (.t 48)⟩]
def r8_15 : List O := [⟨some 50, none, .mov (.t 4)⟩,
  ⟨some 51, none, .nilck (.t 50)⟩,
  ⟨some 52, none, .fld 0 (.t 51)⟩,
  ⟨some 53, none, .ld (.t 52)⟩,
  ⟨some 54, none, .fld 5 (.t 5)⟩,
  ⟨none, none, .st 1 (.t 54) (.t 53)⟩]
def r8_16 : List O := [⟨some 56, none, .ldn 71 (.t 5)⟩,
  ⟨some 57, none, .call (.f 6) [(.t 56)]⟩,
  ⟨some 55, none, .mov (.t 57)⟩,
  ⟨some 58, none, .ext (.t 55) 0⟩,
  ⟨some 59, none, .ext (.t 55) 1⟩,
  ⟨some 8, none, .mov (.t 58)⟩,
  ⟨some 9, none, .mov (.t 59)⟩]
def r8_17 : List O := [⟨some 60, none, .mov (.t 9)⟩,
  ⟨some 61, none, .bin .neq (.t 60) (.c (.i .i64 0))⟩,
  ⟨some 62, none, .mov (.t 61)⟩,
  ⟨some 63, some (62, false), .mov (.t 8)⟩,
  ⟨some 64, some (62, false), .mov (.t 0)⟩,
  ⟨some 65, some (62, false), .bin .neq (.t 63) (.t 64)⟩,
  ⟨some 66, none, .pick (.t 62) (.c (.b true)) (.t 65)⟩]
def r8_18 : List O := [⟨some 67, none, .build ([.i .i64 0, .i .i64 0, .i .i64 0] ++ [.i .u8 0] ++ [.b false] ++ [.s []] ++ [.i .i64 0] ++ List.replicate 64 (.i .u8 0)) []⟩,
  ⟨none, none, .st 71 (.t 2) (.t 67)⟩,
  ⟨some 3, none, .mov (.c (.i .i64 4))⟩]
def r8_19 : List O := [⟨some 68, none, .ldn 71 (.t 5)⟩,
  ⟨none, none, .st 71 (.t 2) (.t 68)⟩,
  ⟨some 3, none, .mov (.c (.i .i64 0))⟩]
def a8 : FI := ⟨69, [.cell 2 (some 71), .tmp 3], .seq (.ops r8_0) (.seq (.ops r8_1) (.seq (.ops r8_2) (.seq (.ops r8_3) (.seq (.ops r8_4) (.seq (.ops r8_5) (.seq (.ops r8_6) (.seq (.ops r8_7) (.seq (.ops r8_8) (.seq (.ops r8_9) (.seq (.seq (.ops r8_10) (.cond (.t 35) (.seq (.ops r8_11) (.ret)) (.skip))) (.seq (.ops r8_12) (.seq (.ops r8_13) (.seq (.ops r8_14) (.seq (.ops r8_15) (.seq (.ops r8_16) (.seq (.seq (.ops r8_17) (.cond (.t 66) (.seq (.ops r8_18) (.ret)) (.skip))) (.seq (.ops r8_19) (.ret)))))))))))))))))), none, none⟩
def r9_0 : List O := [⟨some 2, none, .alloc (List.replicate 32 (.i .u8 0))⟩]
def r9_1 : List O := [⟨some 11, none, .mov (.t 0)⟩,
  ⟨some 12, none, .call (.f 28) [(.t 11)]⟩,
  ⟨some 13, none, .buildSl [.i .u8 0] 1 [(0, 1, (.c (.i .u8 128)))]⟩,
  ⟨some 14, none, .app 1 1 (.t 12) (.t 13)⟩,
  ⟨some 3, none, .mov (.t 14)⟩]
def r9_2 : List O := [⟨some 15, none, .mov (.t 3)⟩,
  ⟨some 16, none, .lenL (.t 15)⟩,
  ⟨some 17, none, .bin .rem (.t 16) (.c (.i .i64 64))⟩,
  ⟨some 18, none, .bin .neq (.t 17) (.c (.i .i64 56))⟩]
def r9_3 : List O := [⟨some 19, none, .mov (.t 3)⟩,
  ⟨some 20, none, .buildSl [.i .u8 0] 1 [(0, 1, (.c (.i .u8 0)))]⟩,
  ⟨some 21, none, .app 1 1 (.t 19) (.t 20)⟩,
  ⟨some 3, none, .mov (.t 21)⟩]
def b9_0 : C := .seq (.seq (.ops r9_2) (.cond (.t 18) (.skip) (.exit 0))) (.block 1 (.ops r9_3))
def r9_4 : List O := [⟨some 4, none, .mov (.c (.i .i64 56))⟩]
def r9_5 : List O := [⟨some 22, none, .mov (.t 4)⟩,
  ⟨some 23, none, .bin .geq (.t 22) (.c (.i .i64 0))⟩]
def r9_7 : List O := [⟨some 26, none, .mov (.t 3)⟩,
  ⟨some 27, none, .mov (.t 0)⟩,
  ⟨some 28, none, .lenL (.t 27)⟩,
  ⟨some 29, none, .conv .u64 (.t 28)⟩,
  ⟨some 30, none, .bin .mul (.t 29) (.c (.i .u64 8))⟩,
  ⟨some 31, none, .mov (.t 4)⟩,
  ⟨some 32, none, .bin .shr (.t 30) (.t 31)⟩,
  ⟨some 33, none, .conv .u8 (.t 32)⟩,
  ⟨some 34, none, .buildSl [.i .u8 0] 1 [(0, 1, (.t 33))]⟩,
  ⟨some 35, none, .app 1 1 (.t 26) (.t 34)⟩,
  ⟨some 3, none, .mov (.t 35)⟩]
def r9_6 : List O := [⟨some 24, none, .mov (.t 4)⟩,
  ⟨some 25, none, .bin .sub (.t 24) (.c (.i .i64 8))⟩,
  ⟨some 4, none, .mov (.t 25)⟩]
def b9_1 : C := .seq (.seq (.ops r9_5) (.cond (.t 23) (.skip) (.exit 2))) (.seq (.block 3 (.ops r9_7)) (.ops r9_6))
def r9_8 : List O := [⟨some 36, none, .build [.i .u32 0, .i .u32 0, .i .u32 0, .i .u32 0, .i .u32 0, .i .u32 0, .i .u32 0, .i .u32 0] [(0, 1, (.c (.i .u32 1779033703))), (1, 1, (.c (.i .u32 3144134277))), (2, 1, (.c (.i .u32 1013904242))), (3, 1, (.c (.i .u32 2773480762))), (4, 1, (.c (.i .u32 1359893119))), (5, 1, (.c (.i .u32 2600822924))), (6, 1, (.c (.i .u32 528734635))), (7, 1, (.c (.i .u32 1541459225)))]⟩,
  ⟨some 5, none, .alloc [.i .u32 0, .i .u32 0, .i .u32 0, .i .u32 0, .i .u32 0, .i .u32 0, .i .u32 0, .i .u32 0]⟩,
  ⟨none, none, .st 8 (.t 5) (.t 36)⟩]
def r9_9 : List O := [⟨some 6, none, .mov (.c (.i .i64 0))⟩]
def r9_10 : List O := [⟨some 37, none, .mov (.t 6)⟩,
  ⟨some 38, none, .mov (.t 3)⟩,
  ⟨some 39, none, .lenL (.t 38)⟩,
  ⟨some 40, none, .bin .lss (.t 37) (.t 39)⟩]
def r9_12 : List O := [⟨some 43, none, .ldn 8 (.t 5)⟩,
  ⟨some 44, none, .mov (.t 3)⟩,
  ⟨some 45, none, .mov (.t 6)⟩,
  ⟨some 46, none, .mov (.t 6)⟩,
  ⟨some 47, none, .bin .add (.t 46) (.c (.i .i64 64))⟩,
  ⟨some 48, none, .slc 1 (.t 44) (some (.t 45)) (some (.t 47)) none⟩,
  ⟨some 49, none, .call (.f 29) [(.t 43), (.t 48)]⟩,
  ⟨none, none, .st 8 (.t 5) (.t 49)⟩]
def r9_11 : List O := [⟨some 41, none, .mov (.t 6)⟩,
  ⟨some 42, none, .bin .add (.t 41) (.c (.i .i64 64))⟩,
  ⟨some 6, none, .mov (.t 42)⟩]
def b9_2 : C := .seq (.seq (.ops r9_10) (.cond (.t 40) (.skip) (.exit 4))) (.seq (.block 5 (.draw r9_12 [])) (.ops r9_11))
def r9_13 : List O := [⟨some 7, none, .alloc (List.replicate 32 (.i .u8 0))⟩]
def r9_14 : List O := [⟨some 50, none, .ldn 8 (.t 5)⟩,
  ⟨some 51, none, .mov (.c (.i .i64 0))⟩]
def r9_15 : List O := [⟨some 52, none, .bin .lss (.t 51) (.c (.i .i64 8))⟩]
def r9_16 : List O := [⟨some 53, none, .mov (.t 51)⟩,
  ⟨some 54, none, .ixV 8 1 false (.t 50) (.t 51)⟩,
  ⟨some 8, none, .mov (.t 53)⟩,
  ⟨some 9, none, .mov (.t 54)⟩]
def r9_17 : List O := [⟨some 55, none, .mov (.c (.i .i64 0))⟩]
def r9_18 : List O := [⟨some 56, none, .bin .lss (.t 55) (.c (.i .i64 4))⟩]
def r9_19 : List O := [⟨some 57, none, .mov (.t 55)⟩,
  ⟨some 10, none, .mov (.t 57)⟩]
def r9_20 : List O := [⟨some 58, none, .mov (.t 8)⟩,
  ⟨some 59, none, .bin .mul (.c (.i .i64 4)) (.t 58)⟩,
  ⟨some 60, none, .mov (.t 10)⟩,
  ⟨some 61, none, .bin .add (.t 59) (.t 60)⟩,
  ⟨some 62, none, .mov (.t 9)⟩,
  ⟨some 63, none, .mov (.t 10)⟩,
  ⟨some 64, none, .bin .mul (.c (.i .i64 8)) (.t 63)⟩,
  ⟨some 65, none, .bin .sub (.c (.i .i64 24)) (.t 64)⟩,
  ⟨some 66, none, .bin .shr (.t 62) (.t 65)⟩,
  ⟨some 67, none, .conv .u8 (.t 66)⟩,
  ⟨some 68, none, .ixA 32 1 (.t 7) (.t 61)⟩,
  ⟨none, none, .st 1 (.t 68) (.t 67)⟩]
def r9_21 : List O := [⟨some 69, none, .bin .add (.t 55) (.c (.i .i64 1))⟩,
  ⟨some 55, none, .mov (.t 69)⟩]
def b9_3 : C := .seq (.ops r9_18) (.seq (.cond (.t 56) (.skip) (.exit 8)) (.seq (.block 9 (.seq (.ops r9_19) (.ops r9_20))) (.ops r9_21)))
def r9_22 : List O := [⟨some 70, none, .bin .add (.t 51) (.c (.i .i64 1))⟩,
  ⟨some 51, none, .mov (.t 70)⟩]
def b9_4 : C := .seq (.ops r9_15) (.seq (.cond (.t 52) (.skip) (.exit 6)) (.seq (.block 7 (.seq (.ops r9_16) (.seq (.ops r9_17) (.block 8 (.loop b9_3))))) (.ops r9_22)))
def r9_23 : List O := [⟨some 71, none, .ldn 32 (.t 7)⟩,
  ⟨none, none, .st 32 (.t 2) (.t 71)⟩]
def a9 : FI := ⟨72, [.cell 2 (some 32)], .seq (.ops r9_0) (.seq (.ops r9_1) (.seq (.block 0 (.loop b9_0)) (.seq (.seq (.ops r9_4) (.block 2 (.loop b9_1))) (.seq (.ops r9_8) (.seq (.seq (.ops r9_9) (.block 4 (.loop b9_2))) (.seq (.ops r9_13) (.seq (.seq (.ops r9_14) (.block 6 (.loop b9_4))) (.seq (.ops r9_23) (.ret))))))))), none, none⟩
def r10_0 : List O := [⟨some 12, none, .alloc ([.i .i64 0, .i .i64 0, .i .i64 0] ++ [.i .u8 0] ++ [.b false] ++ [.s []] ++ [.i .i64 0] ++ List.replicate 64 (.i .u8 0))⟩,
  ⟨some 13, none, .mov (.c (.i .i64 0))⟩]
def r10_1 : List O := [⟨some 18, none, .mov (.t 0)⟩,
  ⟨some 19, none, .call (.f 30) [(.t 18)]⟩,
  ⟨some 17, none, .mov (.t 19)⟩,
  ⟨some 20, none, .ext (.t 17) 0⟩,
  ⟨some 21, none, .ext (.t 17) 1⟩,
  ⟨some 14, none, .mov (.t 20)⟩,
  ⟨some 15, none, .mov (.t 21)⟩]
def r10_2 : List O := [⟨some 22, none, .mov (.t 15)⟩,
  ⟨some 23, none, .bin .neq (.t 22) (.c (.i .i64 0))⟩]
def r10_3 : List O := [⟨some 24, none, .build ([.i .i64 0, .i .i64 0, .i .i64 0] ++ [.i .u8 0] ++ [.b false] ++ [.s []] ++ [.i .i64 0] ++ List.replicate 64 (.i .u8 0)) []⟩,
  ⟨some 25, none, .mov (.t 15)⟩,
  ⟨none, none, .st 71 (.t 12) (.t 24)⟩,
  ⟨some 13, none, .mov (.t 25)⟩]
def r10_4 : List O := [⟨some 27, none, .mov (.t 0)⟩,
  ⟨some 28, none, .lenL (.t 27)⟩,
  ⟨some 29, none, .bin .geq (.t 28) (.c (.i .i64 2000))⟩,
  ⟨some 26, none, .mov (.t 29)⟩]
def r10_5 : List O := [⟨some 30, none, .build ([.i .i64 0, .i .i64 0, .i .i64 0] ++ [.i .u8 0] ++ [.b false] ++ [.s []] ++ [.i .i64 0] ++ List.replicate 64 (.i .u8 0)) []⟩,
  ⟨none, none, .st 71 (.t 12) (.t 30)⟩,
  ⟨some 13, none, .mov (.c (.i .i64 2))⟩]
def r10_6 : List O := [⟨some 32, none, .mov (.t 1)⟩,
  ⟨some 33, none, .call (.f 31) [(.t 32), (.c (.i .i64 0)), (.c (.i .i64 100000))]⟩,
  ⟨some 34, none, .un .not (.t 33)⟩,
  ⟨some 35, none, .mov (.t 34)⟩,
  ⟨some 36, some (35, false), .mov (.t 2)⟩,
  ⟨some 37, some (35, false), .call (.f 31) [(.t 36), (.c (.i .i64 0)), (.c (.i .i64 7))]⟩,
  ⟨some 38, some (35, false), .un .not (.t 37)⟩,
  ⟨some 39, none, .pick (.t 35) (.c (.b true)) (.t 38)⟩,
  ⟨some 40, none, .mov (.t 39)⟩,
  ⟨some 41, some (40, false), .mov (.t 3)⟩,
  ⟨some 42, some (40, false), .conv .i64 (.t 41)⟩,
  ⟨some 43, some (40, false), .call (.f 31) [(.t 42), (.c (.i .i64 1)), (.c (.i .i64 7))]⟩,
  ⟨some 44, some (40, false), .un .not (.t 43)⟩,
  ⟨some 45, none, .pick (.t 40) (.c (.b true)) (.t 44)⟩,
  ⟨some 46, none, .mov (.t 45)⟩,
  ⟨some 47, some (46, false), .mov (.t 5)⟩,
  ⟨some 48, some (46, false), .call (.f 31) [(.t 47), (.c (.i .i64 0)), (.c (.i .i64 9007199254740992))]⟩,
  ⟨some 49, some (46, false), .un .not (.t 48)⟩,
  ⟨some 50, none, .pick (.t 46) (.c (.b true)) (.t 49)⟩,
  ⟨some 31, none, .mov (.t 50)⟩]
def r10_7 : List O := [⟨some 51, none, .build ([.i .i64 0, .i .i64 0, .i .i64 0] ++ [.i .u8 0] ++ [.b false] ++ [.s []] ++ [.i .i64 0] ++ List.replicate 64 (.i .u8 0)) []⟩,
  ⟨none, none, .st 71 (.t 12) (.t 51)⟩,
  ⟨some 13, none, .mov (.c (.i .i64 1))⟩]
def r10_8 : List O := [⟨some 53, none, .mov (.t 4)⟩,
  ⟨some 54, none, .lenS (.t 53)⟩,
  ⟨some 55, none, .bin .gtr (.t 54) (.c (.i .i64 7000))⟩,
  ⟨some 52, none, .mov (.t 55)⟩]
def r10_9 : List O := [⟨some 56, none, .build ([.i .i64 0, .i .i64 0, .i .i64 0] ++ [.i .u8 0] ++ [.b false] ++ [.s []] ++ [.i .i64 0] ++ List.replicate 64 (.i .u8 0)) []⟩,
  ⟨none, none, .st 71 (.t 12) (.t 56)⟩,
  ⟨some 13, none, .mov (.c (.i .i64 2))⟩]
def r10_10 : List O := [⟨some 58, none, .mov (.t 0)⟩,
  ⟨some 59, none, .lenL (.t 58)⟩,
  ⟨some 60, none, .bin .gtr (.t 59) (.c (.i .i64 0))⟩,
  ⟨some 61, none, .mov (.t 60)⟩,
  ⟨some 62, some (61, true), .mov (.t 1)⟩,
  ⟨some 63, some (61, true), .mov (.t 0)⟩,
  ⟨some 64, some (61, true), .mov (.t 0)⟩,
  ⟨some 65, some (61, true), .lenL (.t 64)⟩,
  ⟨some 66, some (61, true), .bin .sub (.t 65) (.c (.i .i64 1))⟩,
  ⟨some 67, some (61, true), .ixS 71 (.t 63) (.t 66)⟩,
  ⟨some 68, some (61, true), .fld 1 (.t 67)⟩,
  ⟨some 69, some (61, true), .ld (.t 68)⟩,
  ⟨some 70, some (61, true), .bin .lss (.t 62) (.t 69)⟩,
  ⟨some 71, none, .pick (.t 61) (.t 70) (.c (.b false))⟩,
  ⟨some 57, none, .mov (.t 71)⟩]
def r10_11 : List O := [⟨some 72, none, .build ([.i .i64 0, .i .i64 0, .i .i64 0] ++ [.i .u8 0] ++ [.b false] ++ [.s []] ++ [.i .i64 0] ++ List.replicate 64 (.i .u8 0)) []⟩,
  ⟨none, none, .st 71 (.t 12) (.t 72)⟩,
  ⟨some 13, none, .mov (.c (.i .i64 7))⟩]
def r10_12 : List O := [⟨some 73, none, .mov (.t 0)⟩,
  ⟨some 74, none, .lenL (.t 73)⟩,
  ⟨some 75, none, .mov (.t 1)⟩,
  ⟨some 76, none, .mov (.t 2)⟩,
  ⟨some 77, none, .mov (.t 3)⟩,
  ⟨some 78, none, .mov (.t 4)⟩,
  ⟨some 79, none, .mov (.t 5)⟩,
  ⟨some 80, none, .mov (.t 5)⟩,
  ⟨some 81, none, .mov (.t 4)⟩,
  ⟨some 82, none, .call (.f 32) [(.t 80), (.t 81)]⟩,
  ⟨some 83, none, .build ([.i .i64 0, .i .i64 0, .i .i64 0] ++ [.i .u8 0] ++ [.b false] ++ [.s []] ++ [.i .i64 0] ++ List.replicate 64 (.i .u8 0)) [(0, 1, (.t 74)), (1, 1, (.t 75)), (2, 1, (.t 76)), (3, 1, (.t 77)), (5, 1, (.t 78)), (6, 1, (.t 79)), (7, 32, (.t 82))]⟩,
  ⟨some 16, none, .alloc ([.i .i64 0, .i .i64 0, .i .i64 0] ++ [.i .u8 0] ++ [.b false] ++ [.s []] ++ [.i .i64 0] ++ List.replicate 64 (.i .u8 0))⟩,
  ⟨none, none, .st 71 (.t 16) (.t 83)⟩]
def r10_13 : List O := [⟨some 84, none, .mov (.t 0)⟩,
  ⟨some 85, none, .lenL (.t 84)⟩,
  ⟨some 86, none, .bin .gtr (.t 85) (.c (.i .i64 0))⟩]
def r10_14 : List O := [⟨some 87, none, .mov (.t 0)⟩,
  ⟨some 88, none, .mov (.t 0)⟩,
  ⟨some 89, none, .lenL (.t 88)⟩,
  ⟨some 90, none, .bin .sub (.t 89) (.c (.i .i64 1))⟩,
  ⟨some 91, none, .ixS 71 (.t 87) (.t 90)⟩,
  ⟨some 92, none, .ldn 71 (.t 91)⟩,
  ⟨some 93, none, .call (.f 33) [(.t 92)]⟩,
  ⟨some 94, none, .fld 39 (.t 16)⟩,
  ⟨none, none, .st 32 (.t 94) (.t 93)⟩]
def r10_15 : List O := [⟨some 95, none, .ldn 71 (.t 16)⟩,
  ⟨none, none, .st 71 (.t 12) (.t 95)⟩,
  ⟨some 13, none, .mov (.c (.i .i64 0))⟩]
def a10 : FI := ⟨96, [.cell 12 (some 71), .tmp 13], .seq (.ops r10_0) (.seq (.seq (.ops r10_1) (.seq (.ops r10_2) (.cond (.t 23) (.seq (.ops r10_3) (.ret)) (.skip)))) (.seq (.block 0 (.seq (.ops r10_4) (.cond (.t 26) (.seq (.ops r10_5) (.ret)) (.seq (.ops r10_6) (.cond (.t 31) (.seq (.ops r10_7) (.ret)) (.seq (.ops r10_8) (.cond (.t 52) (.seq (.ops r10_9) (.ret)) (.seq (.ops r10_10) (.cond (.t 57) (.seq (.ops r10_11) (.ret)) (.skip)))))))))) (.seq (.ops r10_12) (.seq (.seq (.ops r10_13) (.cond (.t 86) (.ops r10_14) (.skip))) (.seq (.ops r10_15) (.ret)))))), none, none⟩
def r11_0 : List O := [⟨some 1, none, .box (.t 0)⟩,
  ⟨some 2, none, .alloc (List.replicate 32 (.i .u8 0))⟩]
def r11_1 : List O := [⟨some 3, none, .ldn 71 (.t 1)⟩,
  ⟨some 4, none, .call (.f 14) [(.t 3)]⟩,
  ⟨some 5, none, .un .not (.t 4)⟩]
def r11_2 : List O := [⟨some 6, none, .build (List.replicate 32 (.i .u8 0)) []⟩,
  ⟨none, none, .st 32 (.t 2) (.t 6)⟩]
def r11_3 : List O := [⟨some 7, none, .ldn 71 (.t 1)⟩,
  ⟨some 8, none, .call (.f 33) [(.t 7)]⟩,
  ⟨none, none, .st 32 (.t 2) (.t 8)⟩]
def a11 : FI := ⟨9, [.cell 2 (some 32)], .seq (.ops r11_0) (.seq (.seq (.ops r11_1) (.cond (.t 5) (.seq (.ops r11_2) (.ret)) (.skip))) (.seq (.ops r11_3) (.ret))), none, none⟩
def r12_0 : List O := [⟨some 2, none, .alloc [.b false, .i .i64 0, .i .u8 0]⟩]
def r12_1 : List O := [⟨some 8, none, .mov (.t 0)⟩,
  ⟨some 9, none, .call (.f 30) [(.t 8)]⟩,
  ⟨some 7, none, .mov (.t 9)⟩,
  ⟨some 10, none, .ext (.t 7) 0⟩,
  ⟨some 11, none, .ext (.t 7) 1⟩,
  ⟨some 3, none, .mov (.t 10)⟩,
  ⟨some 4, none, .mov (.t 11)⟩]
def r12_2 : List O := [⟨some 12, none, .mov (.t 4)⟩,
  ⟨some 13, none, .bin .eql (.t 12) (.c (.i .i64 0))⟩]
def r12_3 : List O := [⟨some 14, none, .mov (.t 0)⟩,
  ⟨some 15, none, .lenL (.t 14)⟩,
  ⟨some 3, none, .mov (.t 15)⟩]
def r12_4 : List O := [⟨some 16, none, .mov (.t 0)⟩,
  ⟨some 17, none, .call (.f 34) []⟩,
  ⟨some 18, none, .call (.f 34) []⟩,
  ⟨some 19, none, .build ([.sn] ++ [.i .i64 0, .i .i64 0, .i .i64 0, .i .i64 0] ++ [.i .u8 0] ++ [.b false] ++ [.s []] ++ [.i .i64 0] ++ List.replicate 64 (.i .u8 0) ++ [.b false] ++ [.pn, .pn]) [(0, 1, (.t 16)), (74, 1, (.t 17)), (75, 1, (.t 18))]⟩,
  ⟨some 20, none, .box (.t 19)⟩,
  ⟨some 5, none, .mov (.t 20)⟩]
def r12_5 : List O := [⟨some 21, none, .mov (.t 3)⟩,
  ⟨some 22, none, .mov (.c (.i .i64 0))⟩]
def r12_6 : List O := [⟨some 23, none, .bin .lss (.t 22) (.t 21)⟩]
def r12_7 : List O := [⟨some 24, none, .mov (.t 5)⟩,
  ⟨some 25, none, .mov (.t 22)⟩,
  ⟨some 26, none, .nilck (.t 24)⟩,
  ⟨some 27, none, .fld 1 (.t 26)⟩,
  ⟨none, none, .st 1 (.t 27) (.t 25)⟩]
def r12_8 : List O := [⟨some 28, none, .mov (.t 5)⟩,
  ⟨some 29, none, .mov (.t 0)⟩,
  ⟨some 30, none, .mov (.t 5)⟩,
  ⟨some 31, none, .nilck (.t 30)⟩,
  ⟨some 32, none, .fld 1 (.t 31)⟩,
  ⟨some 33, none, .ld (.t 32)⟩,
  ⟨some 34, none, .ixS 71 (.t 29) (.t 33)⟩,
  ⟨some 35, none, .ldn 71 (.t 34)⟩,
  ⟨some 36, none, .nilck (.t 28)⟩,
  ⟨some 37, none, .fld 2 (.t 36)⟩,
  ⟨none, none, .st 71 (.t 37) (.t 35)⟩]
def r12_9 : List O := [⟨some 38, none, .mov (.t 5)⟩,
  ⟨some 39, none, .call (.f 35) [(.t 38)]⟩,
  ⟨some 6, none, .mov (.t 39)⟩]
def r12_10 : List O := [⟨some 40, none, .mov (.t 6)⟩,
  ⟨some 41, none, .bin .neq (.t 40) (.c (.i .u8 0))⟩]
def r12_11 : List O := [⟨some 42, none, .mov (.t 5)⟩,
  ⟨some 43, none, .nilck (.t 42)⟩,
  ⟨some 44, none, .fld 1 (.t 43)⟩,
  ⟨some 45, none, .ld (.t 44)⟩,
  ⟨some 46, none, .mov (.t 6)⟩,
  ⟨some 47, none, .build [.b false, .i .i64 0, .i .u8 0] [(1, 1, (.t 45)), (2, 1, (.t 46))]⟩,
  ⟨none, none, .st 3 (.t 2) (.t 47)⟩]
def r12_12 : List O := [⟨some 48, none, .bin .add (.t 22) (.c (.i .i64 1))⟩,
  ⟨some 22, none, .mov (.t 48)⟩]
def b12_0 : C := .seq (.ops r12_6) (.seq (.cond (.t 23) (.skip) (.exit 0)) (.seq (.block 1 (.seq (.ops r12_7) (.seq (.ops r12_8) (.seq (.ops r12_9) (.seq (.ops r12_10) (.cond (.t 41) (.seq (.ops r12_11) (.ret)) (.skip))))))) (.ops r12_12)))
def r12_13 : List O := [⟨some 49, none, .mov (.t 4)⟩,
  ⟨some 50, none, .bin .neq (.t 49) (.c (.i .i64 0))⟩]
def r12_14 : List O := [⟨some 51, none, .mov (.t 3)⟩,
  ⟨some 52, none, .build [.b false, .i .i64 0, .i .u8 0] [(1, 1, (.t 51)), (2, 1, (.c (.i .u8 1)))]⟩,
  ⟨none, none, .st 3 (.t 2) (.t 52)⟩]
def r12_15 : List O := [⟨some 53, none, .build [.b false, .i .i64 0, .i .u8 0] [(0, 1, (.c (.b true)))]⟩,
  ⟨none, none, .st 3 (.t 2) (.t 53)⟩]
def a12 : FI := ⟨54, [.cell 2 (some 3)], .seq (.ops r12_0) (.seq (.ops r12_1) (.seq (.seq (.ops r12_2) (.cond (.t 13) (.ops r12_3) (.skip))) (.seq (.ops r12_4) (.seq (.seq (.ops r12_5) (.block 0 (.loop b12_0))) (.seq (.seq (.ops r12_13) (.cond (.t 50) (.seq (.ops r12_14) (.ret)) (.skip))) (.seq (.ops r12_15) (.ret))))))), none, none⟩
def r13_0 : List O := [⟨some 1, none, .box (.t 0)⟩,
  ⟨some 2, none, .mov (.c (.s []))⟩,
  ⟨some 3, none, .mov (.c (.i .i64 0))⟩]
def r13_1 : List O := [⟨some 10, none, .ldn 12 (.t 1)⟩,
  ⟨some 11, none, .call (.f 36) [(.t 10)]⟩,
  ⟨some 12, none, .un .not (.t 11)⟩]
def r13_2 : List O := [⟨some 2, none, .mov (.c (.s []))⟩,
  ⟨some 3, none, .mov (.c (.i .i64 1))⟩]
def r13_3 : List O := [⟨some 13, none, .fld 1 (.t 1)⟩,
  ⟨some 14, none, .ldn 5 (.t 13)⟩,
  ⟨some 4, none, .alloc [.i .i64 0, .i .i64 0, .i .i64 0, .i .i64 0, .i .i64 0]⟩,
  ⟨none, none, .st 5 (.t 4) (.t 14)⟩]
def r13_4 : List O := [⟨some 15, none, .fld 0 (.t 1)⟩,
  ⟨some 16, none, .ld (.t 15)⟩,
  ⟨some 17, none, .fld 7 (.t 1)⟩,
  ⟨some 18, none, .ld (.t 17)⟩,
  ⟨some 19, none, .fld 8 (.t 1)⟩,
  ⟨some 20, none, .ld (.t 19)⟩,
  ⟨some 21, none, .fld 10 (.t 1)⟩,
  ⟨some 22, none, .ld (.t 21)⟩,
  ⟨some 23, none, .fld 11 (.t 1)⟩,
  ⟨some 24, none, .ld (.t 23)⟩,
  ⟨some 25, none, .buildSl [.i .i64 0, .i .i64 0, .i .i64 0, .i .i64 0, .i .i64 0] 5 [(0, 1, (.t 16)), (1, 1, (.t 18)), (2, 1, (.t 20)), (3, 1, (.t 22)), (4, 1, (.t 24))]⟩,
  ⟨some 26, none, .call (.f 15) [(.t 25)]⟩,
  ⟨some 27, none, .bin .add (.c (.s [97, 110, 110, 111, 117, 110, 99, 101, 32])) (.t 26)⟩,
  ⟨some 28, none, .bin .add (.t 27) (.c (.s [10, 115, 99, 101, 110, 101, 32]))⟩,
  ⟨some 29, none, .fld 0 (.t 4)⟩,
  ⟨some 30, none, .ld (.t 29)⟩,
  ⟨some 31, none, .fld 1 (.t 4)⟩,
  ⟨some 32, none, .ld (.t 31)⟩,
  ⟨some 33, none, .fld 2 (.t 4)⟩,
  ⟨some 34, none, .ld (.t 33)⟩,
  ⟨some 35, none, .fld 3 (.t 4)⟩,
  ⟨some 36, none, .ld (.t 35)⟩,
  ⟨some 37, none, .fld 4 (.t 4)⟩,
  ⟨some 38, none, .ld (.t 37)⟩,
  ⟨some 39, none, .buildSl [.i .i64 0, .i .i64 0, .i .i64 0, .i .i64 0, .i .i64 0] 5 [(0, 1, (.t 30)), (1, 1, (.t 32)), (2, 1, (.t 34)), (3, 1, (.t 36)), (4, 1, (.t 38))]⟩,
  ⟨some 40, none, .call (.f 15) [(.t 39)]⟩,
  ⟨some 41, none, .bin .add (.t 28) (.t 40)⟩,
  ⟨some 42, none, .bin .add (.t 41) (.c (.s [10]))⟩,
  ⟨some 5, none, .mov (.t 42)⟩]
def r13_5 : List O := [⟨some 43, none, .fld 6 (.t 1)⟩,
  ⟨some 44, none, .ld (.t 43)⟩,
  ⟨some 45, none, .lenL (.t 44)⟩,
  ⟨some 46, none, .mov (.c (.i .i64 0))⟩]
def r13_6 : List O := [⟨some 47, none, .bin .lss (.t 46) (.t 45)⟩]
def r13_7 : List O := [⟨some 48, none, .ixS 2 (.t 44) (.t 46)⟩,
  ⟨some 49, none, .ldn 2 (.t 48)⟩,
  ⟨some 7, none, .alloc [.i .i64 0, .i .i64 0]⟩,
  ⟨none, none, .st 2 (.t 7) (.t 49)⟩]
def r13_8 : List O := [⟨some 50, none, .mov (.t 5)⟩,
  ⟨some 51, none, .fld 0 (.t 7)⟩,
  ⟨some 52, none, .ld (.t 51)⟩,
  ⟨some 53, none, .fld 1 (.t 7)⟩,
  ⟨some 54, none, .ld (.t 53)⟩,
  ⟨some 55, none, .buildSl [.i .i64 0, .i .i64 0] 2 [(0, 1, (.t 52)), (1, 1, (.t 54))]⟩,
  ⟨some 56, none, .call (.f 15) [(.t 55)]⟩,
  ⟨some 57, none, .bin .add (.c (.s [103, 117, 101, 115, 116, 32])) (.t 56)⟩,
  ⟨some 58, none, .bin .add (.t 57) (.c (.s [10]))⟩,
  ⟨some 59, none, .bin .add (.t 50) (.t 58)⟩,
  ⟨some 5, none, .mov (.t 59)⟩]
def r13_9 : List O := [⟨some 60, none, .bin .add (.t 46) (.c (.i .i64 1))⟩,
  ⟨some 46, none, .mov (.t 60)⟩]
def b13_0 : C := .seq (.ops r13_6) (.seq (.cond (.t 47) (.skip) (.exit 0)) (.seq (.block 1 (.seq (.ops r13_7) (.ops r13_8))) (.ops r13_9)))
def r13_10 : List O := [⟨some 61, none, .mov (.t 5)⟩,
  ⟨some 62, none, .bin .add (.t 61) (.c (.s [111, 114, 100, 101, 114]))⟩,
  ⟨some 5, none, .mov (.t 62)⟩]
def r13_11 : List O := [⟨some 63, none, .fld 9 (.t 1)⟩,
  ⟨some 64, none, .ld (.t 63)⟩,
  ⟨some 65, none, .lenL (.t 64)⟩,
  ⟨some 66, none, .mov (.c (.i .i64 0))⟩]
def r13_12 : List O := [⟨some 67, none, .bin .lss (.t 66) (.t 65)⟩]
def r13_13 : List O := [⟨some 68, none, .ixS 1 (.t 64) (.t 66)⟩,
  ⟨some 69, none, .ld (.t 68)⟩,
  ⟨some 9, none, .mov (.t 69)⟩]
def r13_14 : List O := [⟨some 70, none, .mov (.t 5)⟩,
  ⟨some 71, none, .mov (.t 9)⟩,
  ⟨some 72, none, .buildSl [.i .i64 0] 1 [(0, 1, (.t 71))]⟩,
  ⟨some 73, none, .call (.f 15) [(.t 72)]⟩,
  ⟨some 74, none, .bin .add (.c (.s [32])) (.t 73)⟩,
  ⟨some 75, none, .bin .add (.t 70) (.t 74)⟩,
  ⟨some 5, none, .mov (.t 75)⟩]
def r13_15 : List O := [⟨some 76, none, .bin .add (.t 66) (.c (.i .i64 1))⟩,
  ⟨some 66, none, .mov (.t 76)⟩]
def b13_1 : C := .seq (.ops r13_12) (.seq (.cond (.t 67) (.skip) (.exit 2)) (.seq (.block 3 (.seq (.ops r13_13) (.ops r13_14))) (.ops r13_15)))
def r13_16 : List O := [⟨some 77, none, .mov (.t 5)⟩,
  ⟨some 78, none, .bin .add (.t 77) (.c (.s [10]))⟩,
  ⟨some 2, none, .mov (.t 78)⟩,
  ⟨some 3, none, .mov (.c (.i .i64 0))⟩]
def a13 : FI := ⟨79, [.tmp 2, .tmp 3], .seq (.ops r13_0) (.seq (.seq (.ops r13_1) (.cond (.t 12) (.seq (.ops r13_2) (.ret)) (.skip))) (.seq (.ops r13_3) (.seq (.draw r13_4 [(11, 15), (11, 17), (11, 19), (11, 21), (11, 23)]) (.seq (.seq (.ops r13_5) (.block 0 (.loop b13_0))) (.seq (.ops r13_10) (.seq (.seq (.ops r13_11) (.block 2 (.loop b13_1))) (.seq (.ops r13_16) (.ret)))))))), none, none⟩
def r14_0 : List O := [⟨some 1, none, .box (.t 0)⟩,
  ⟨some 2, none, .mov (.c (.b false))⟩]
def r14_1 : List O := [⟨some 3, none, .fld 0 (.t 1)⟩,
  ⟨some 4, none, .ld (.t 3)⟩,
  ⟨some 5, none, .call (.f 31) [(.t 4), (.c (.i .i64 0)), (.c (.i .i64 1999))]⟩,
  ⟨some 6, none, .un .not (.t 5)⟩,
  ⟨some 7, none, .mov (.t 6)⟩,
  ⟨some 8, some (7, false), .fld 1 (.t 1)⟩,
  ⟨some 9, some (7, false), .ld (.t 8)⟩,
  ⟨some 10, some (7, false), .call (.f 31) [(.t 9), (.c (.i .i64 0)), (.c (.i .i64 100000))]⟩,
  ⟨some 11, some (7, false), .un .not (.t 10)⟩,
  ⟨some 12, none, .pick (.t 7) (.c (.b true)) (.t 11)⟩,
  ⟨some 13, none, .mov (.t 12)⟩,
  ⟨some 14, some (13, false), .fld 2 (.t 1)⟩,
  ⟨some 15, some (13, false), .ld (.t 14)⟩,
  ⟨some 16, some (13, false), .call (.f 31) [(.t 15), (.c (.i .i64 0)), (.c (.i .i64 7))]⟩,
  ⟨some 17, some (13, false), .un .not (.t 16)⟩,
  ⟨some 18, none, .pick (.t 13) (.c (.b true)) (.t 17)⟩,
  ⟨some 19, none, .mov (.t 18)⟩,
  ⟨some 20, some (19, false), .fld 3 (.t 1)⟩,
  ⟨some 21, some (19, false), .ld (.t 20)⟩,
  ⟨some 22, some (19, false), .conv .i64 (.t 21)⟩,
  ⟨some 23, some (19, false), .call (.f 31) [(.t 22), (.c (.i .i64 1)), (.c (.i .i64 7))]⟩,
  ⟨some 24, some (19, false), .un .not (.t 23)⟩,
  ⟨some 25, none, .pick (.t 19) (.c (.b true)) (.t 24)⟩]
def r14_2 : List O := [⟨some 2, none, .mov (.c (.b false))⟩]
def r14_3 : List O := [⟨some 26, none, .fld 4 (.t 1)⟩,
  ⟨some 27, none, .ld (.t 26)⟩]
def r14_4 : List O := [⟨some 28, none, .fld 5 (.t 1)⟩,
  ⟨some 29, none, .ld (.t 28)⟩,
  ⟨some 30, none, .bin .eql (.t 29) (.c (.s []))⟩,
  ⟨some 31, none, .mov (.t 30)⟩,
  ⟨some 32, some (31, true), .fld 6 (.t 1)⟩,
  ⟨some 33, some (31, true), .ld (.t 32)⟩,
  ⟨some 34, some (31, true), .bin .eql (.t 33) (.c (.i .i64 0))⟩,
  ⟨some 35, none, .pick (.t 31) (.t 34) (.c (.b false))⟩,
  ⟨some 2, none, .mov (.t 35)⟩]
def r14_5 : List O := [⟨some 36, none, .fld 5 (.t 1)⟩,
  ⟨some 37, none, .ld (.t 36)⟩,
  ⟨some 38, none, .lenS (.t 37)⟩,
  ⟨some 39, none, .bin .leq (.t 38) (.c (.i .i64 7000))⟩,
  ⟨some 40, none, .mov (.t 39)⟩,
  ⟨some 41, some (40, true), .fld 6 (.t 1)⟩,
  ⟨some 42, some (40, true), .ld (.t 41)⟩,
  ⟨some 43, some (40, true), .call (.f 31) [(.t 42), (.c (.i .i64 0)), (.c (.i .i64 9007199254740992))]⟩,
  ⟨some 44, none, .pick (.t 40) (.t 43) (.c (.b false))⟩,
  ⟨some 45, none, .mov (.t 44)⟩,
  ⟨some 46, some (45, true), .fld 7 (.t 1)⟩,
  ⟨some 47, some (45, true), .ldn 32 (.t 46)⟩,
  ⟨some 48, some (45, true), .fld 6 (.t 1)⟩,
  ⟨some 49, some (45, true), .ld (.t 48)⟩,
  ⟨some 50, some (45, true), .fld 5 (.t 1)⟩,
  ⟨some 51, some (45, true), .ld (.t 50)⟩,
  ⟨some 52, some (45, true), .call (.f 32) [(.t 49), (.t 51)]⟩,
  ⟨some 53, some (45, true), .eqv false (.agg (List.replicate 32 (.i .u8 : KT))) (.t 47) (.t 52)⟩,
  ⟨some 54, none, .pick (.t 45) (.t 53) (.c (.b false))⟩,
  ⟨some 2, none, .mov (.t 54)⟩]
def a14 : FI := ⟨55, [.tmp 2], .seq (.ops r14_0) (.seq (.seq (.ops r14_1) (.cond (.t 25) (.seq (.ops r14_2) (.ret)) (.skip))) (.seq (.seq (.ops r14_3) (.cond (.t 27) (.seq (.ops r14_4) (.ret)) (.skip))) (.seq (.draw r14_5 [(11, 16)]) (.ret)))), none, none⟩
def r15_0 : List O := [⟨some 2, none, .mov (.c (.s []))⟩]
def r15_1 : List O := [⟨some 3, none, .mov (.c (.sn))⟩]
def r15_2 : List O := [⟨some 6, none, .mov (.t 0)⟩,
  ⟨some 7, none, .lenL (.t 6)⟩,
  ⟨some 8, none, .mov (.c (.i .i64 0))⟩]
def r15_3 : List O := [⟨some 9, none, .bin .lss (.t 8) (.t 7)⟩]
def r15_4 : List O := [⟨some 10, none, .ixS 1 (.t 6) (.t 8)⟩,
  ⟨some 11, none, .ld (.t 10)⟩,
  ⟨some 5, none, .mov (.t 11)⟩]
def r15_5 : List O := [⟨some 12, none, .mov (.t 3)⟩,
  ⟨some 13, none, .mov (.t 5)⟩,
  ⟨some 14, none, .call (.f 37) [(.t 13)]⟩,
  ⟨some 15, none, .buildSl [.s []] 1 [(0, 1, (.t 14))]⟩,
  ⟨some 16, none, .app 1 16 (.t 12) (.t 15)⟩,
  ⟨some 3, none, .mov (.t 16)⟩]
def r15_6 : List O := [⟨some 17, none, .bin .add (.t 8) (.c (.i .i64 1))⟩,
  ⟨some 8, none, .mov (.t 17)⟩]
def b15_0 : C := .seq (.ops r15_3) (.seq (.cond (.t 9) (.skip) (.exit 0)) (.seq (.block 1 (.seq (.ops r15_4) (.ops r15_5))) (.ops r15_6)))
def r15_7 : List O := [⟨some 18, none, .mov (.t 3)⟩,
  ⟨some 19, none, .call (.f 38) [(.t 18), (.c (.s [32]))]⟩,
  ⟨some 2, none, .mov (.t 19)⟩]
def a15 : FI := ⟨20, [.tmp 2], .seq (.ops r15_0) (.seq (.ops r15_1) (.seq (.seq (.ops r15_2) (.block 0 (.loop b15_0))) (.seq (.ops r15_7) (.ret)))), none, none⟩
def r16_0 : List O := [⟨some 1, none, .box (.t 0)⟩,
  ⟨some 2, none, .mov (.c (.s []))⟩]
def r16_1 : List O := [⟨some 3, none, .mov (.c (.sn))⟩]
def r16_2 : List O := [⟨some 6, none, .ldn 32 (.t 1)⟩,
  ⟨some 7, none, .mov (.c (.i .i64 0))⟩]
def r16_3 : List O := [⟨some 8, none, .bin .lss (.t 7) (.c (.i .i64 32))⟩]
def r16_4 : List O := [⟨some 9, none, .ixV 32 1 false (.t 6) (.t 7)⟩,
  ⟨some 5, none, .mov (.t 9)⟩]
def r16_5 : List O := [⟨some 10, none, .mov (.t 3)⟩,
  ⟨some 11, none, .mov (.t 5)⟩,
  ⟨some 12, none, .bin .shr (.t 11) (.c (.i .u64 4))⟩,
  ⟨some 13, none, .ixStr (.c (.s [48, 49, 50, 51, 52, 53, 54, 55, 56, 57, 97, 98, 99, 100, 101, 102])) (.t 12)⟩,
  ⟨some 14, none, .mov (.t 5)⟩,
  ⟨some 15, none, .bin .and (.t 14) (.c (.i .u8 15))⟩,
  ⟨some 16, none, .ixStr (.c (.s [48, 49, 50, 51, 52, 53, 54, 55, 56, 57, 97, 98, 99, 100, 101, 102])) (.t 15)⟩,
  ⟨some 17, none, .buildSl [.i .u8 0, .i .u8 0] 2 [(0, 1, (.t 13)), (1, 1, (.t 16))]⟩,
  ⟨some 18, none, .app 1 1 (.t 10) (.t 17)⟩,
  ⟨some 3, none, .mov (.t 18)⟩]
def r16_6 : List O := [⟨some 19, none, .bin .add (.t 7) (.c (.i .i64 1))⟩,
  ⟨some 7, none, .mov (.t 19)⟩]
def b16_0 : C := .seq (.ops r16_3) (.seq (.cond (.t 8) (.skip) (.exit 0)) (.seq (.block 1 (.seq (.ops r16_4) (.draw r16_5 []))) (.ops r16_6)))
def r16_7 : List O := [⟨some 20, none, .mov (.t 3)⟩,
  ⟨some 21, none, .b2s (.t 20)⟩,
  ⟨some 2, none, .mov (.t 21)⟩]
def a16 : FI := ⟨22, [.tmp 2], .seq (.ops r16_0) (.seq (.ops r16_1) (.seq (.seq (.ops r16_2) (.block 0 (.loop b16_0))) (.seq (.ops r16_7) (.ret)))), none, none⟩
def r17_0 : List O := [⟨some 1, none, .box (.t 0)⟩,
  ⟨some 2, none, .mov (.c (.b false))⟩]
def r17_1 : List O := [⟨some 5, none, .fld 0 (.t 1)⟩,
  ⟨some 6, none, .ld (.t 5)⟩,
  ⟨some 7, none, .call (.f 39) [(.t 6), (.c (.i .i64 0)), (.c (.i .i64 1999))]⟩,
  ⟨some 8, none, .mov (.t 7)⟩,
  ⟨some 9, some (8, true), .fld 1 (.t 1)⟩,
  ⟨some 10, some (8, true), .ld (.t 9)⟩,
  ⟨some 11, some (8, true), .call (.f 39) [(.t 10), (.c (.i .i64 0)), (.c (.i .i64 100000))]⟩,
  ⟨some 12, none, .pick (.t 8) (.t 11) (.c (.b false))⟩,
  ⟨some 13, none, .mov (.t 12)⟩,
  ⟨some 14, some (13, true), .fld 2 (.t 1)⟩,
  ⟨some 15, some (13, true), .ld (.t 14)⟩,
  ⟨some 16, some (13, true), .call (.f 39) [(.t 15), (.c (.i .i64 0)), (.c (.i .i64 7))]⟩,
  ⟨some 17, none, .pick (.t 13) (.t 16) (.c (.b false))⟩,
  ⟨some 18, none, .mov (.t 17)⟩,
  ⟨some 19, some (18, true), .fld 3 (.t 1)⟩,
  ⟨some 20, some (18, true), .ld (.t 19)⟩,
  ⟨some 21, some (18, true), .conv .i64 (.t 20)⟩,
  ⟨some 22, some (18, true), .call (.f 39) [(.t 21), (.c (.i .i64 1)), (.c (.i .i64 7))]⟩,
  ⟨some 23, none, .pick (.t 18) (.t 22) (.c (.b false))⟩,
  ⟨some 3, none, .mov (.t 23)⟩]
def r17_2 : List O := [⟨some 24, none, .mov (.t 3)⟩,
  ⟨some 25, none, .un .not (.t 24)⟩]
def r17_3 : List O := [⟨some 2, none, .mov (.c (.b false))⟩]
def r17_4 : List O := [⟨some 26, none, .fld 4 (.t 1)⟩,
  ⟨some 27, none, .ld (.t 26)⟩]
def r17_5 : List O := [⟨some 28, none, .fld 5 (.t 1)⟩,
  ⟨some 29, none, .ld (.t 28)⟩,
  ⟨some 30, none, .bin .eql (.t 29) (.c (.s []))⟩,
  ⟨some 31, none, .mov (.t 30)⟩,
  ⟨some 32, some (31, true), .fld 6 (.t 1)⟩,
  ⟨some 33, some (31, true), .ld (.t 32)⟩,
  ⟨some 34, some (31, true), .bin .eql (.t 33) (.c (.i .i64 0))⟩,
  ⟨some 35, none, .pick (.t 31) (.t 34) (.c (.b false))⟩,
  ⟨some 2, none, .mov (.t 35)⟩]
def r17_6 : List O := [⟨some 36, none, .fld 6 (.t 1)⟩,
  ⟨some 37, none, .ld (.t 36)⟩,
  ⟨some 38, none, .call (.f 39) [(.t 37), (.c (.i .i64 0)), (.c (.i .i64 9007199254740992))]⟩,
  ⟨some 4, none, .mov (.t 38)⟩]
def r17_7 : List O := [⟨some 39, none, .mov (.t 4)⟩,
  ⟨some 40, none, .mov (.t 39)⟩,
  ⟨some 41, some (40, true), .fld 5 (.t 1)⟩,
  ⟨some 42, some (40, true), .ld (.t 41)⟩,
  ⟨some 43, some (40, true), .lenS (.t 42)⟩,
  ⟨some 44, some (40, true), .bin .leq (.t 43) (.c (.i .i64 7000))⟩,
  ⟨some 45, none, .pick (.t 40) (.t 44) (.c (.b false))⟩,
  ⟨some 46, none, .mov (.t 45)⟩,
  ⟨some 47, some (46, true), .fld 7 (.t 1)⟩,
  ⟨some 48, some (46, true), .ldn 32 (.t 47)⟩,
  ⟨some 49, some (46, true), .fld 6 (.t 1)⟩,
  ⟨some 50, some (46, true), .ld (.t 49)⟩,
  ⟨some 51, some (46, true), .fld 5 (.t 1)⟩,
  ⟨some 52, some (46, true), .ld (.t 51)⟩,
  ⟨some 53, some (46, true), .call (.f 40) [(.t 50), (.t 52)]⟩,
  ⟨some 54, some (46, true), .eqv false (.agg (List.replicate 32 (.i .u8 : KT))) (.t 48) (.t 53)⟩,
  ⟨some 55, none, .pick (.t 46) (.t 54) (.c (.b false))⟩,
  ⟨some 2, none, .mov (.t 55)⟩]
def a17 : FI := ⟨56, [.tmp 2], .seq (.ops r17_0) (.seq (.ops r17_1) (.seq (.seq (.ops r17_2) (.cond (.t 25) (.seq (.ops r17_3) (.ret)) (.skip))) (.seq (.seq (.ops r17_4) (.cond (.t 27) (.seq (.ops r17_5) (.ret)) (.skip))) (.seq (.ops r17_6) (.seq (.draw r17_7 [(9, 14)]) (.ret)))))), none, none⟩
def r18_0 : List O := [⟨some 2, none, .mov (.c (.s []))⟩]
def r18_1 : List O := [⟨some 3, none, .mov (.t 0)⟩,
  ⟨some 4, none, .call (.f 37) [(.t 3)]⟩,
  ⟨some 5, none, .bin .add (.c (.s [32])) (.t 4)⟩,
  ⟨some 2, none, .mov (.t 5)⟩]
def a18 : FI := ⟨6, [.tmp 2], .seq (.ops r18_0) (.seq (.ops r18_1) (.ret)), none, none⟩
end Go.Air.Try
set_option maxRecDepth 100000
namespace Go.Air.Try
def r19_0 : List O := [⟨some 1, none, .box (.t 0)⟩,
  ⟨some 2, none, .mov (.c (.s []))⟩]
def r19_1 : List O := [⟨some 3, none, .mov (.c (.s [48, 49, 50, 51, 52, 53, 54, 55, 56, 57, 97, 98, 99, 100, 101, 102]))⟩]
def r19_2 : List O := [⟨some 4, none, .mov (.c (.s []))⟩]
def r19_3 : List O := [⟨some 5, none, .mov (.c (.i .i64 0))⟩]
def r19_4 : List O := [⟨some 8, none, .mov (.t 5)⟩,
  ⟨some 9, none, .bin .lss (.t 8) (.c (.i .i64 32))⟩]
def r19_6 : List O := [⟨some 12, none, .mov (.t 5)⟩,
  ⟨some 13, none, .ixA 32 1 (.t 1) (.t 12)⟩,
  ⟨some 14, none, .ld (.t 13)⟩,
  ⟨some 15, none, .bin .quo (.t 14) (.c (.i .u8 16))⟩,
  ⟨some 16, none, .conv .i64 (.t 15)⟩,
  ⟨some 6, none, .mov (.t 16)⟩]
def r19_7 : List O := [⟨some 17, none, .mov (.t 5)⟩,
  ⟨some 18, none, .ixA 32 1 (.t 1) (.t 17)⟩,
  ⟨some 19, none, .ld (.t 18)⟩,
  ⟨some 20, none, .bin .rem (.t 19) (.c (.i .u8 16))⟩,
  ⟨some 21, none, .conv .i64 (.t 20)⟩,
  ⟨some 7, none, .mov (.t 21)⟩]
def r19_8 : List O := [⟨some 22, none, .mov (.t 4)⟩,
  ⟨some 23, none, .mov (.t 3)⟩,
  ⟨some 24, none, .mov (.t 6)⟩,
  ⟨some 25, none, .mov (.t 6)⟩,
  ⟨some 26, none, .bin .add (.t 25) (.c (.i .i64 1))⟩,
  ⟨some 27, none, .slcS (.t 23) (some (.t 24)) (some (.t 26))⟩,
  ⟨some 28, none, .bin .add (.t 22) (.t 27)⟩,
  ⟨some 29, none, .mov (.t 3)⟩,
  ⟨some 30, none, .mov (.t 7)⟩,
  ⟨some 31, none, .mov (.t 7)⟩,
  ⟨some 32, none, .bin .add (.t 31) (.c (.i .i64 1))⟩,
  ⟨some 33, none, .slcS (.t 29) (some (.t 30)) (some (.t 32))⟩,
  ⟨some 34, none, .bin .add (.t 28) (.t 33)⟩,
  ⟨some 4, none, .mov (.t 34)⟩]
def r19_5 : List O := [⟨some 10, none, .mov (.t 5)⟩,
  ⟨some 11, none, .bin .add (.t 10) (.c (.i .i64 1))⟩,
  ⟨some 5, none, .mov (.t 11)⟩]
def b19_0 : C := .seq (.seq (.ops r19_4) (.cond (.t 9) (.skip) (.exit 0))) (.seq (.block 1 (.seq (.ops r19_6) (.seq (.ops r19_7) (.draw r19_8 [])))) (.ops r19_5))
def r19_9 : List O := [⟨some 35, none, .mov (.t 4)⟩,
  ⟨some 2, none, .mov (.t 35)⟩]
def a19 : FI := ⟨36, [.tmp 2], .seq (.ops r19_0) (.seq (.ops r19_1) (.seq (.ops r19_2) (.seq (.seq (.ops r19_3) (.block 0 (.loop b19_0))) (.seq (.ops r19_9) (.ret))))), none, none⟩
def r20_0 : List O := [⟨some 4, none, .alloc [.b false]⟩]
def r20_1 : List O := [⟨some 5, none, .mkFn 41 [] [(.t 4)]⟩,
  ⟨none, none, .mov (.c (.tup []))⟩]
def r20_2 : List O := [⟨some 6, none, .mov (.t 1)⟩,
  ⟨some 7, none, .mov (.t 0)⟩,
  ⟨some 8, none, .build [.s []] [(0, 1, (.t 7))]⟩,
  ⟨some 9, none, .box (.t 8)⟩,
  ⟨some 10, none, .call (.t 6) [(.t 9)]⟩]
def r20_3 : List O := [⟨none, none, .st 1 (.t 4) (.c (.b true))⟩]
def a20 : FI := ⟨11, [.cell 4 none], .seq (.ops r20_2) (.seq (.ops r20_3) (.ret)), some (.seq (.ops r20_0) (.ops r20_1), (.t 5)), none⟩
def r21_0 : List O := [⟨some 4, none, .mov (.t 0)⟩,
  ⟨some 5, none, .call (.f 22) [(.t 4), (.c (.s [98, 117, 108, 108, 101, 116, 105, 110])), (.c (.i .i64 7))]⟩,
  ⟨some 3, none, .mov (.t 5)⟩]
def r21_1 : List O := [⟨some 6, none, .mov (.t 3)⟩,
  ⟨some 7, none, .ixS 1 (.t 6) (.c (.i .i64 3))⟩,
  ⟨some 8, none, .ld (.t 7)⟩,
  ⟨some 9, none, .bin .gtr (.t 8) (.c (.i .i64 7))⟩,
  ⟨some 10, none, .mov (.t 9)⟩,
  ⟨some 11, some (10, false), .mov (.t 3)⟩,
  ⟨some 12, some (10, false), .ixS 1 (.t 11) (.c (.i .i64 4))⟩,
  ⟨some 13, some (10, false), .ld (.t 12)⟩,
  ⟨some 14, some (10, false), .bin .gtr (.t 13) (.c (.i .i64 1))⟩,
  ⟨some 15, none, .pick (.t 10) (.c (.b true)) (.t 14)⟩]
def r21_2 : List O := [⟨some 16, none, .build [] []⟩,
  ⟨some 17, none, .mkI 58 (.t 16)⟩,
  ⟨none, none, .panic (.t 17)⟩]
def r21_3 : List O := [⟨some 18, none, .mov (.t 3)⟩,
  ⟨some 19, none, .ixS 1 (.t 18) (.c (.i .i64 0))⟩,
  ⟨some 20, none, .ld (.t 19)⟩,
  ⟨some 21, none, .mov (.t 3)⟩,
  ⟨some 22, none, .ixS 1 (.t 21) (.c (.i .i64 1))⟩,
  ⟨some 23, none, .ld (.t 22)⟩,
  ⟨some 24, none, .mov (.t 3)⟩,
  ⟨some 25, none, .ixS 1 (.t 24) (.c (.i .i64 2))⟩,
  ⟨some 26, none, .ld (.t 25)⟩,
  ⟨some 27, none, .mov (.t 3)⟩,
  ⟨some 28, none, .ixS 1 (.t 27) (.c (.i .i64 3))⟩,
  ⟨some 29, none, .ld (.t 28)⟩,
  ⟨some 30, none, .conv .u8 (.t 29)⟩,
  ⟨some 31, none, .mov (.t 3)⟩,
  ⟨some 32, none, .ixS 1 (.t 31) (.c (.i .i64 4))⟩,
  ⟨some 33, none, .ld (.t 32)⟩,
  ⟨some 34, none, .bin .eql (.t 33) (.c (.i .i64 1))⟩,
  ⟨some 35, none, .mov (.t 3)⟩,
  ⟨some 36, none, .ixS 1 (.t 35) (.c (.i .i64 5))⟩,
  ⟨some 37, none, .ld (.t 36)⟩,
  ⟨some 38, none, .build ([.i .i64 0, .i .i64 0, .i .i64 0] ++ [.i .u8 0] ++ [.b false] ++ [.s []] ++ [.i .i64 0] ++ List.replicate 64 (.i .u8 0)) [(0, 1, (.t 20)), (1, 1, (.t 23)), (2, 1, (.t 26)), (3, 1, (.t 30)), (4, 1, (.t 34)), (6, 1, (.t 37))]⟩,
  ⟨none, none, .st 71 (.t 1) (.t 38)⟩]
def r21_4 : List O := [⟨some 39, none, .mov (.t 0)⟩,
  ⟨some 40, none, .call (.f 23) [(.t 39), (.c (.s [115, 101, 97, 108]))]⟩,
  ⟨some 41, none, .fld 7 (.t 1)⟩,
  ⟨none, none, .st 32 (.t 41) (.t 40)⟩]
def r21_5 : List O := [⟨some 42, none, .mov (.t 0)⟩,
  ⟨some 43, none, .call (.f 23) [(.t 42), (.c (.s [112, 114, 101, 118]))]⟩,
  ⟨some 44, none, .fld 39 (.t 1)⟩,
  ⟨none, none, .st 32 (.t 44) (.t 43)⟩]
def r21_6 : List O := [⟨some 45, none, .mov (.t 0)⟩,
  ⟨some 46, none, .nilck (.t 45)⟩,
  ⟨some 47, none, .fld 0 (.t 46)⟩,
  ⟨some 48, none, .ld (.t 47)⟩,
  ⟨some 49, none, .fld 5 (.t 1)⟩,
  ⟨none, none, .st 1 (.t 49) (.t 48)⟩]
def r21_7 : List O := [⟨some 50, none, .fld 5 (.t 1)⟩,
  ⟨some 51, none, .ld (.t 50)⟩,
  ⟨some 52, none, .lenS (.t 51)⟩,
  ⟨some 53, none, .mov (.t 3)⟩,
  ⟨some 54, none, .ixS 1 (.t 53) (.c (.i .i64 6))⟩,
  ⟨some 55, none, .ld (.t 54)⟩,
  ⟨some 56, none, .bin .neq (.t 52) (.t 55)⟩]
def r21_8 : List O := [⟨some 57, none, .build [] []⟩,
  ⟨some 58, none, .mkI 58 (.t 57)⟩,
  ⟨none, none, .panic (.t 58)⟩]
def a21 : FI := ⟨59, [], .seq (.ops r21_0) (.seq (.seq (.ops r21_1) (.cond (.t 15) (.ops r21_2) (.skip))) (.seq (.draw r21_3 []) (.seq (.ops r21_4) (.seq (.ops r21_5) (.seq (.ops r21_6) (.seq (.draw r21_7 []) (.cond (.t 56) (.ops r21_8) (.skip)))))))), none, none⟩
def r22_0 : List O := [⟨some 6, none, .mov (.c (.sn))⟩]
def r22_1 : List O := [⟨some 7, none, .mov (.c (.sn))⟩]
def r22_2 : List O := [⟨some 12, none, .mov (.t 0)⟩,
  ⟨some 13, none, .mov (.t 1)⟩,
  ⟨some 14, none, .call (.f 42) [(.t 12), (.t 13)]⟩,
  ⟨some 15, none, .lenL (.t 14)⟩,
  ⟨some 16, none, .mov (.c (.i .i64 0))⟩]
def r22_3 : List O := [⟨some 17, none, .bin .lss (.t 16) (.t 15)⟩]
def r22_4 : List O := [⟨some 18, none, .ixS 1 (.t 14) (.t 16)⟩,
  ⟨some 19, none, .ld (.t 18)⟩,
  ⟨some 9, none, .mov (.t 19)⟩]
def r22_5 : List O := [⟨some 21, none, .mov (.t 9)⟩,
  ⟨some 22, none, .call (.f 43) [(.t 21)]⟩,
  ⟨some 20, none, .mov (.t 22)⟩,
  ⟨some 23, none, .ext (.t 20) 0⟩,
  ⟨some 24, none, .ext (.t 20) 1⟩,
  ⟨some 10, none, .mov (.t 23)⟩,
  ⟨some 11, none, .mov (.t 24)⟩]
def r22_6 : List O := [⟨some 25, none, .mov (.t 11)⟩,
  ⟨some 26, none, .eqv true (.iface) (.t 25) (.c (.in0))⟩,
  ⟨some 27, none, .mov (.t 26)⟩,
  ⟨some 28, some (27, false), .mov (.t 10)⟩,
  ⟨some 29, some (27, false), .bin .lss (.t 28) (.c (.i .i64 0))⟩,
  ⟨some 30, none, .pick (.t 27) (.c (.b true)) (.t 29)⟩,
  ⟨some 31, none, .mov (.t 30)⟩,
  ⟨some 32, some (31, false), .mov (.t 10)⟩,
  ⟨some 33, some (31, false), .call (.f 37) [(.t 32)]⟩,
  ⟨some 34, some (31, false), .mov (.t 9)⟩,
  ⟨some 35, some (31, false), .bin .neq (.t 33) (.t 34)⟩,
  ⟨some 36, none, .pick (.t 31) (.c (.b true)) (.t 35)⟩]
def r22_7 : List O := [⟨some 37, none, .build [] []⟩,
  ⟨some 38, none, .mkI 58 (.t 37)⟩,
  ⟨none, none, .panic (.t 38)⟩]
def r22_8 : List O := [⟨some 39, none, .mov (.t 7)⟩,
  ⟨some 40, none, .mov (.t 10)⟩,
  ⟨some 41, none, .buildSl [.i .i64 0] 1 [(0, 1, (.t 40))]⟩,
  ⟨some 42, none, .app 1 8 (.t 39) (.t 41)⟩,
  ⟨some 7, none, .mov (.t 42)⟩]
def r22_9 : List O := [⟨some 43, none, .bin .add (.t 16) (.c (.i .i64 1))⟩,
  ⟨some 16, none, .mov (.t 43)⟩]
def b22_0 : C := .seq (.ops r22_3) (.seq (.cond (.t 17) (.skip) (.exit 0)) (.seq (.block 1 (.seq (.ops r22_4) (.seq (.ops r22_5) (.seq (.seq (.ops r22_6) (.cond (.t 36) (.ops r22_7) (.skip))) (.ops r22_8))))) (.ops r22_9)))
def r22_10 : List O := [⟨some 44, none, .mov (.t 2)⟩,
  ⟨some 45, none, .bin .geq (.t 44) (.c (.i .i64 0))⟩,
  ⟨some 46, none, .mov (.t 45)⟩,
  ⟨some 47, some (46, true), .mov (.t 7)⟩,
  ⟨some 48, some (46, true), .lenL (.t 47)⟩,
  ⟨some 49, some (46, true), .mov (.t 2)⟩,
  ⟨some 50, some (46, true), .bin .neq (.t 48) (.t 49)⟩,
  ⟨some 51, none, .pick (.t 46) (.t 50) (.c (.b false))⟩]
def r22_11 : List O := [⟨some 52, none, .build [] []⟩,
  ⟨some 53, none, .mkI 58 (.t 52)⟩,
  ⟨none, none, .panic (.t 53)⟩]
def r22_12 : List O := [⟨some 54, none, .mov (.t 7)⟩,
  ⟨some 6, none, .mov (.t 54)⟩]
def a22 : FI := ⟨55, [.tmp 6], .seq (.ops r22_0) (.seq (.ops r22_1) (.seq (.seq (.ops r22_2) (.block 0 (.loop b22_0))) (.seq (.seq (.ops r22_10) (.cond (.t 51) (.ops r22_11) (.skip))) (.seq (.ops r22_12) (.ret))))), none, none⟩
def r23_0 : List O := [⟨some 4, none, .alloc (List.replicate 32 (.i .u8 0))⟩]
def r23_1 : List O := [⟨some 9, none, .mov (.t 0)⟩,
  ⟨some 10, none, .mov (.t 1)⟩,
  ⟨some 11, none, .call (.f 42) [(.t 9), (.t 10)]⟩,
  ⟨some 5, none, .mov (.t 11)⟩]
def r23_2 : List O := [⟨some 6, none, .alloc (List.replicate 32 (.i .u8 0))⟩]
def r23_3 : List O := [⟨some 12, none, .mov (.t 5)⟩,
  ⟨some 13, none, .lenL (.t 12)⟩,
  ⟨some 14, none, .bin .neq (.t 13) (.c (.i .i64 1))⟩,
  ⟨some 15, none, .mov (.t 14)⟩,
  ⟨some 16, some (15, false), .mov (.t 5)⟩,
  ⟨some 17, some (15, false), .ixS 1 (.t 16) (.c (.i .i64 0))⟩,
  ⟨some 18, some (15, false), .ld (.t 17)⟩,
  ⟨some 19, some (15, false), .lenS (.t 18)⟩,
  ⟨some 20, some (15, false), .bin .neq (.t 19) (.c (.i .i64 64))⟩,
  ⟨some 21, none, .pick (.t 15) (.c (.b true)) (.t 20)⟩,
  ⟨some 22, none, .mov (.t 21)⟩,
  ⟨some 23, some (22, false), .mov (.t 5)⟩,
  ⟨some 24, some (22, false), .ixS 1 (.t 23) (.c (.i .i64 0))⟩,
  ⟨some 25, some (22, false), .ld (.t 24)⟩,
  ⟨some 26, some (22, false), .call (.f 44) [(.t 25)]⟩,
  ⟨some 27, some (22, false), .mov (.t 5)⟩,
  ⟨some 28, some (22, false), .ixS 1 (.t 27) (.c (.i .i64 0))⟩,
  ⟨some 29, some (22, false), .ld (.t 28)⟩,
  ⟨some 30, some (22, false), .bin .neq (.t 26) (.t 29)⟩,
  ⟨some 31, none, .pick (.t 22) (.c (.b true)) (.t 30)⟩]
def r23_4 : List O := [⟨some 32, none, .build [] []⟩,
  ⟨some 33, none, .mkI 58 (.t 32)⟩,
  ⟨none, none, .panic (.t 33)⟩]
def r23_5 : List O := [⟨some 34, none, .mov (.c (.i .i64 0))⟩]
def r23_6 : List O := [⟨some 35, none, .bin .lss (.t 34) (.c (.i .i64 64))⟩]
def r23_7 : List O := [⟨some 36, none, .mov (.t 34)⟩,
  ⟨some 7, none, .mov (.t 36)⟩]
def r23_8 : List O := [⟨some 37, none, .mov (.t 5)⟩,
  ⟨some 38, none, .ixS 1 (.t 37) (.c (.i .i64 0))⟩,
  ⟨some 39, none, .ld (.t 38)⟩,
  ⟨some 40, none, .mov (.t 7)⟩,
  ⟨some 41, none, .ixStr (.t 39) (.t 40)⟩,
  ⟨some 42, none, .call (.f 45) [(.c (.s [48, 49, 50, 51, 52, 53, 54, 55, 56, 57, 97, 98, 99, 100, 101, 102])), (.t 41)]⟩,
  ⟨some 8, none, .mov (.t 42)⟩]
def r23_9 : List O := [⟨some 43, none, .mov (.t 8)⟩,
  ⟨some 44, none, .bin .lss (.t 43) (.c (.i .i64 0))⟩]
def r23_10 : List O := [⟨some 45, none, .build [] []⟩,
  ⟨some 46, none, .mkI 58 (.t 45)⟩,
  ⟨none, none, .panic (.t 46)⟩]
def r23_11 : List O := [⟨some 47, none, .mov (.t 7)⟩,
  ⟨some 48, none, .bin .quo (.t 47) (.c (.i .i64 2))⟩,
  ⟨some 49, none, .mov (.t 7)⟩,
  ⟨some 50, none, .bin .quo (.t 49) (.c (.i .i64 2))⟩,
  ⟨some 51, none, .ixA 32 1 (.t 6) (.t 50)⟩,
  ⟨some 52, none, .ld (.t 51)⟩,
  ⟨some 53, none, .bin .shl (.t 52) (.c (.i .u64 4))⟩,
  ⟨some 54, none, .mov (.t 8)⟩,
  ⟨some 55, none, .conv .u8 (.t 54)⟩,
  ⟨some 56, none, .bin .or (.t 53) (.t 55)⟩,
  ⟨some 57, none, .ixA 32 1 (.t 6) (.t 48)⟩,
  ⟨none, none, .st 1 (.t 57) (.t 56)⟩]
def r23_12 : List O := [⟨some 58, none, .bin .add (.t 34) (.c (.i .i64 1))⟩,
  ⟨some 34, none, .mov (.t 58)⟩]
def b23_0 : C := .seq (.ops r23_6) (.seq (.cond (.t 35) (.skip) (.exit 0)) (.seq (.block 1 (.seq (.ops r23_7) (.seq (.ops r23_8) (.seq (.seq (.ops r23_9) (.cond (.t 44) (.ops r23_10) (.skip))) (.ops r23_11))))) (.ops r23_12)))
def r23_13 : List O := [⟨some 59, none, .ldn 32 (.t 6)⟩,
  ⟨none, none, .st 32 (.t 4) (.t 59)⟩]
def a23 : FI := ⟨60, [.cell 4 (some 32)], .seq (.ops r23_0) (.seq (.ops r23_1) (.seq (.ops r23_2) (.seq (.seq (.draw r23_3 [(14, 17)]) (.cond (.t 31) (.ops r23_4) (.skip))) (.seq (.seq (.ops r23_5) (.block 0 (.loop b23_0))) (.seq (.ops r23_13) (.ret)))))), none, none⟩
def r24_0 : List O := [⟨some 2, none, .mov (.c (.sn))⟩]
def r24_1 : List O := [⟨some 3, none, .mov (.c (.sn))⟩]
def r24_2 : List O := [⟨some 4, none, .mov (.c (.i .i64 0))⟩]
def r24_3 : List O := [⟨some 5, none, .mov (.c (.i .i64 0))⟩]
def r24_4 : List O := [⟨some 6, none, .mov (.t 5)⟩,
  ⟨some 7, none, .mov (.t 0)⟩,
  ⟨some 8, none, .lenS (.t 7)⟩,
  ⟨some 9, none, .bin .leq (.t 6) (.t 8)⟩]
def r24_6 : List O := [⟨some 12, none, .mov (.t 5)⟩,
  ⟨some 13, none, .mov (.t 0)⟩,
  ⟨some 14, none, .lenS (.t 13)⟩,
  ⟨some 15, none, .bin .eql (.t 12) (.t 14)⟩,
  ⟨some 16, none, .mov (.t 15)⟩,
  ⟨some 17, some (16, false), .mov (.t 0)⟩,
  ⟨some 18, some (16, false), .mov (.t 5)⟩,
  ⟨some 19, some (16, false), .ixStr (.t 17) (.t 18)⟩,
  ⟨some 20, some (16, false), .bin .eql (.t 19) (.c (.i .u8 32))⟩,
  ⟨some 21, none, .pick (.t 16) (.c (.b true)) (.t 20)⟩]
def r24_7 : List O := [⟨some 22, none, .mov (.t 3)⟩,
  ⟨some 23, none, .mov (.t 0)⟩,
  ⟨some 24, none, .mov (.t 4)⟩,
  ⟨some 25, none, .mov (.t 5)⟩,
  ⟨some 26, none, .slcS (.t 23) (some (.t 24)) (some (.t 25))⟩,
  ⟨some 27, none, .buildSl [.s []] 1 [(0, 1, (.t 26))]⟩,
  ⟨some 28, none, .app 1 16 (.t 22) (.t 27)⟩,
  ⟨some 3, none, .mov (.t 28)⟩]
def r24_8 : List O := [⟨some 29, none, .mov (.t 5)⟩,
  ⟨some 30, none, .bin .add (.t 29) (.c (.i .i64 1))⟩,
  ⟨some 4, none, .mov (.t 30)⟩]
def r24_5 : List O := [⟨some 10, none, .mov (.t 5)⟩,
  ⟨some 11, none, .bin .add (.t 10) (.c (.i .i64 1))⟩,
  ⟨some 5, none, .mov (.t 11)⟩]
def b24_0 : C := .seq (.seq (.ops r24_4) (.cond (.t 9) (.skip) (.exit 0))) (.seq (.block 1 (.seq (.ops r24_6) (.cond (.t 21) (.seq (.ops r24_7) (.ops r24_8)) (.skip)))) (.ops r24_5))
def r24_9 : List O := [⟨some 31, none, .mov (.t 3)⟩,
  ⟨some 2, none, .mov (.t 31)⟩]
def a24 : FI := ⟨32, [.tmp 2], .seq (.ops r24_0) (.seq (.ops r24_1) (.seq (.ops r24_2) (.seq (.seq (.ops r24_3) (.block 0 (.loop b24_0))) (.seq (.ops r24_9) (.ret))))), none, none⟩
def r25_0 : List O := [⟨some 2, none, .mov (.c (.s []))⟩]
def r25_1 : List O := [⟨some 3, none, .mov (.c (.i .i64 0))⟩]
def r25_2 : List O := [⟨some 6, none, .mov (.t 3)⟩,
  ⟨some 7, none, .mov (.t 0)⟩,
  ⟨some 8, none, .nilck (.t 7)⟩,
  ⟨some 9, none, .fld 0 (.t 8)⟩,
  ⟨some 10, none, .ld (.t 9)⟩,
  ⟨some 11, none, .lenS (.t 10)⟩,
  ⟨some 12, none, .bin .lss (.t 6) (.t 11)⟩]
def r25_4 : List O := [⟨some 15, none, .mov (.t 0)⟩,
  ⟨some 16, none, .nilck (.t 15)⟩,
  ⟨some 17, none, .fld 0 (.t 16)⟩,
  ⟨some 18, none, .ld (.t 17)⟩,
  ⟨some 19, none, .mov (.t 3)⟩,
  ⟨some 20, none, .ixStr (.t 18) (.t 19)⟩,
  ⟨some 21, none, .bin .eql (.t 20) (.c (.i .u8 10))⟩]
def r25_5 : List O := [⟨some 22, none, .mov (.t 0)⟩,
  ⟨some 23, none, .nilck (.t 22)⟩,
  ⟨some 24, none, .fld 0 (.t 23)⟩,
  ⟨some 25, none, .ld (.t 24)⟩,
  ⟨some 26, none, .mov (.t 3)⟩,
  ⟨some 27, none, .slcS (.t 25) none (some (.t 26))⟩,
  ⟨some 4, none, .mov (.t 27)⟩]
def r25_6 : List O := [⟨some 28, none, .mov (.t 0)⟩,
  ⟨some 29, none, .mov (.t 0)⟩,
  ⟨some 30, none, .nilck (.t 29)⟩,
  ⟨some 31, none, .fld 0 (.t 30)⟩,
  ⟨some 32, none, .ld (.t 31)⟩,
  ⟨some 33, none, .mov (.t 3)⟩,
  ⟨some 34, none, .bin .add (.t 33) (.c (.i .i64 1))⟩,
  ⟨some 35, none, .slcS (.t 32) (some (.t 34)) none⟩,
  ⟨some 36, none, .nilck (.t 28)⟩,
  ⟨some 37, none, .fld 0 (.t 36)⟩,
  ⟨none, none, .st 1 (.t 37) (.t 35)⟩]
def r25_7 : List O := [⟨some 38, none, .mov (.t 4)⟩,
  ⟨some 2, none, .mov (.t 38)⟩]
def r25_3 : List O := [⟨some 13, none, .mov (.t 3)⟩,
  ⟨some 14, none, .bin .add (.t 13) (.c (.i .i64 1))⟩,
  ⟨some 3, none, .mov (.t 14)⟩]
def b25_0 : C := .seq (.seq (.ops r25_2) (.cond (.t 12) (.skip) (.exit 0))) (.seq (.block 1 (.seq (.ops r25_4) (.cond (.t 21) (.seq (.ops r25_5) (.seq (.ops r25_6) (.seq (.ops r25_7) (.ret)))) (.skip)))) (.ops r25_3))
def r25_8 : List O := [⟨some 39, none, .mov (.t 0)⟩,
  ⟨some 40, none, .nilck (.t 39)⟩,
  ⟨some 41, none, .fld 0 (.t 40)⟩,
  ⟨some 42, none, .ld (.t 41)⟩,
  ⟨some 5, none, .mov (.t 42)⟩]
def r25_9 : List O := [⟨some 43, none, .mov (.t 0)⟩,
  ⟨some 44, none, .nilck (.t 43)⟩,
  ⟨some 45, none, .fld 0 (.t 44)⟩,
  ⟨none, none, .st 1 (.t 45) (.c (.s []))⟩]
def r25_10 : List O := [⟨some 46, none, .mov (.t 5)⟩,
  ⟨some 2, none, .mov (.t 46)⟩]
def a25 : FI := ⟨47, [.tmp 2], .seq (.ops r25_0) (.seq (.seq (.ops r25_1) (.block 0 (.loop b25_0))) (.seq (.ops r25_8) (.seq (.ops r25_9) (.seq (.ops r25_10) (.ret))))), none, none⟩
def r26_0 : List O := [⟨some 4, none, .mov (.c (.i .i64 0))⟩]
def r26_1 : List O := [⟨some 5, none, .mov (.t 1)⟩,
  ⟨some 6, none, .mov (.t 0)⟩,
  ⟨some 7, none, .lenL (.t 6)⟩,
  ⟨some 8, none, .bin .geq (.t 5) (.t 7)⟩]
def r26_2 : List O := [⟨some 4, none, .mov (.c (.i .i64 0))⟩]
def r26_3 : List O := [⟨some 9, none, .mov (.t 0)⟩,
  ⟨some 10, none, .mov (.t 1)⟩,
  ⟨some 11, none, .ixS 1 (.t 9) (.t 10)⟩,
  ⟨some 12, none, .ld (.t 11)⟩,
  ⟨some 13, none, .call (.f 46) [(.t 12)]⟩,
  ⟨some 4, none, .mov (.t 13)⟩]
def a26 : FI := ⟨14, [.tmp 4], .seq (.ops r26_0) (.seq (.seq (.ops r26_1) (.cond (.t 8) (.seq (.ops r26_2) (.ret)) (.skip))) (.seq (.ops r26_3) (.ret))), none, none⟩
def r27_0 : List O := [⟨some 2, none, .alloc (List.replicate 32 (.i .u8 0))⟩]
def r27_1 : List O := [⟨some 3, none, .alloc (List.replicate 32 (.i .u8 0))⟩]
def r27_2 : List O := [⟨some 5, none, .mov (.t 0)⟩,
  ⟨some 6, none, .lenL (.t 5)⟩,
  ⟨some 7, none, .bin .lss (.t 6) (.c (.i .i64 2))⟩,
  ⟨some 8, none, .mov (.t 7)⟩,
  ⟨some 9, some (8, false), .mov (.t 0)⟩,
  ⟨some 10, some (8, false), .ixS 1 (.t 9) (.c (.i .i64 1))⟩,
  ⟨some 11, some (8, false), .ld (.t 10)⟩,
  ⟨some 12, some (8, false), .lenS (.t 11)⟩,
  ⟨some 13, some (8, false), .bin .neq (.t 12) (.c (.i .i64 64))⟩,
  ⟨some 14, none, .pick (.t 8) (.c (.b true)) (.t 13)⟩]
def r27_3 : List O := [⟨some 15, none, .ldn 32 (.t 3)⟩,
  ⟨none, none, .st 32 (.t 2) (.t 15)⟩]
def r27_4 : List O := [⟨some 4, none, .mov (.c (.i .i64 0))⟩]
def r27_5 : List O := [⟨some 16, none, .mov (.t 4)⟩,
  ⟨some 17, none, .bin .lss (.t 16) (.c (.i .i64 32))⟩]
def r27_7 : List O := [⟨some 20, none, .mov (.t 4)⟩,
  ⟨some 21, none, .mov (.t 0)⟩,
  ⟨some 22, none, .ixS 1 (.t 21) (.c (.i .i64 1))⟩,
  ⟨some 23, none, .ld (.t 22)⟩,
  ⟨some 24, none, .mov (.t 4)⟩,
  ⟨some 25, none, .bin .mul (.c (.i .i64 2)) (.t 24)⟩,
  ⟨some 26, none, .ixStr (.t 23) (.t 25)⟩,
  ⟨some 27, none, .call (.f 47) [(.t 26)]⟩,
  ⟨some 28, none, .bin .mul (.t 27) (.c (.i .u8 16))⟩,
  ⟨some 29, none, .mov (.t 0)⟩,
  ⟨some 30, none, .ixS 1 (.t 29) (.c (.i .i64 1))⟩,
  ⟨some 31, none, .ld (.t 30)⟩,
  ⟨some 32, none, .mov (.t 4)⟩,
  ⟨some 33, none, .bin .mul (.c (.i .i64 2)) (.t 32)⟩,
  ⟨some 34, none, .bin .add (.t 33) (.c (.i .i64 1))⟩,
  ⟨some 35, none, .ixStr (.t 31) (.t 34)⟩,
  ⟨some 36, none, .call (.f 47) [(.t 35)]⟩,
  ⟨some 37, none, .bin .add (.t 28) (.t 36)⟩,
  ⟨some 38, none, .ixA 32 1 (.t 3) (.t 20)⟩,
  ⟨none, none, .st 1 (.t 38) (.t 37)⟩]
def r27_6 : List O := [⟨some 18, none, .mov (.t 4)⟩,
  ⟨some 19, none, .bin .add (.t 18) (.c (.i .i64 1))⟩,
  ⟨some 4, none, .mov (.t 19)⟩]
def b27_0 : C := .seq (.seq (.ops r27_5) (.cond (.t 17) (.skip) (.exit 0))) (.seq (.block 1 (.draw r27_7 [(7, 11)])) (.ops r27_6))
def r27_8 : List O := [⟨some 39, none, .ldn 32 (.t 3)⟩,
  ⟨none, none, .st 32 (.t 2) (.t 39)⟩]
def a27 : FI := ⟨40, [.cell 2 (some 32)], .seq (.ops r27_0) (.seq (.ops r27_1) (.seq (.seq (.ops r27_2) (.cond (.t 14) (.seq (.ops r27_3) (.ret)) (.skip))) (.seq (.seq (.ops r27_4) (.block 0 (.loop b27_0))) (.seq (.ops r27_8) (.ret))))), none, none⟩
def r28_0 : List O := [⟨some 2, none, .mov (.c (.sn))⟩]
def r28_1 : List O := [⟨some 3, none, .mov (.t 0)⟩,
  ⟨some 4, none, .eqv false (.slice) (.t 3) (.c (.sn))⟩]
def r28_2 : List O := [⟨some 2, none, .mov (.c (.sn))⟩]
def r28_3 : List O := [⟨some 5, none, .buildSl [] 0 []⟩,
  ⟨some 6, none, .mov (.t 0)⟩,
  ⟨some 7, none, .app 1 1 (.t 5) (.t 6)⟩,
  ⟨some 2, none, .mov (.t 7)⟩]
def a28 : FI := ⟨8, [.tmp 2], .seq (.ops r28_0) (.seq (.seq (.ops r28_1) (.cond (.t 4) (.seq (.ops r28_2) (.ret)) (.skip))) (.seq (.ops r28_3) (.ret))), none, none⟩
def r29_0 : List O := [⟨some 2, none, .box (.t 0)⟩,
  ⟨some 4, none, .alloc [.i .u32 0, .i .u32 0, .i .u32 0, .i .u32 0, .i .u32 0, .i .u32 0, .i .u32 0, .i .u32 0]⟩]
def r29_1 : List O := [⟨some 20, none, .call (.f 48) []⟩,
  ⟨some 5, none, .alloc (List.replicate 64 (.i .u32 0))⟩,
  ⟨none, none, .st 64 (.t 5) (.t 20)⟩]
def r29_2 : List O := [⟨some 6, none, .alloc (List.replicate 64 (.i .u32 0))⟩]
def r29_3 : List O := [⟨some 21, none, .mov (.c (.i .i64 0))⟩]
def r29_4 : List O := [⟨some 22, none, .bin .lss (.t 21) (.c (.i .i64 16))⟩]
def r29_5 : List O := [⟨some 23, none, .mov (.t 21)⟩,
  ⟨some 7, none, .mov (.t 23)⟩]
def r29_6 : List O := [⟨some 24, none, .mov (.t 1)⟩,
  ⟨some 25, none, .mov (.t 7)⟩,
  ⟨some 26, none, .bin .mul (.c (.i .i64 4)) (.t 25)⟩,
  ⟨some 27, none, .mov (.t 7)⟩,
  ⟨some 28, none, .bin .mul (.c (.i .i64 4)) (.t 27)⟩,
  ⟨some 29, none, .bin .add (.t 28) (.c (.i .i64 4))⟩,
  ⟨some 30, none, .slc 1 (.t 24) (some (.t 26)) (some (.t 29)) none⟩,
  ⟨some 31, none, .lenL (.t 30)⟩,
  ⟨some 32, none, .mov (.c (.i .i64 0))⟩]
def r29_7 : List O := [⟨some 33, none, .bin .lss (.t 32) (.t 31)⟩]
def r29_8 : List O := [⟨some 34, none, .ixS 1 (.t 30) (.t 32)⟩,
  ⟨some 35, none, .ld (.t 34)⟩,
  ⟨some 9, none, .mov (.t 35)⟩]
def r29_9 : List O := [⟨some 36, none, .mov (.t 7)⟩,
  ⟨some 37, none, .mov (.t 7)⟩,
  ⟨some 38, none, .ixA 64 1 (.t 6) (.t 37)⟩,
  ⟨some 39, none, .ld (.t 38)⟩,
  ⟨some 40, none, .bin .shl (.t 39) (.c (.i .u64 8))⟩,
  ⟨some 41, none, .mov (.t 9)⟩,
  ⟨some 42, none, .conv .u32 (.t 41)⟩,
  ⟨some 43, none, .bin .or (.t 40) (.t 42)⟩,
  ⟨some 44, none, .ixA 64 1 (.t 6) (.t 36)⟩,
  ⟨none, none, .st 1 (.t 44) (.t 43)⟩]
def r29_10 : List O := [⟨some 45, none, .bin .add (.t 32) (.c (.i .i64 1))⟩,
  ⟨some 32, none, .mov (.t 45)⟩]
def b29_0 : C := .seq (.ops r29_7) (.seq (.cond (.t 33) (.skip) (.exit 2)) (.seq (.block 3 (.seq (.ops r29_8) (.ops r29_9))) (.ops r29_10)))
def r29_11 : List O := [⟨some 46, none, .bin .add (.t 21) (.c (.i .i64 1))⟩,
  ⟨some 21, none, .mov (.t 46)⟩]
def b29_1 : C := .seq (.ops r29_4) (.seq (.cond (.t 22) (.skip) (.exit 0)) (.seq (.block 1 (.seq (.ops r29_5) (.seq (.ops r29_6) (.block 2 (.loop b29_0))))) (.ops r29_11)))
def r29_12 : List O := [⟨some 10, none, .mov (.c (.i .i64 16))⟩]
def r29_13 : List O := [⟨some 47, none, .mov (.t 10)⟩,
  ⟨some 48, none, .bin .lss (.t 47) (.c (.i .i64 64))⟩]
def r29_15 : List O := [⟨some 51, none, .mov (.t 10)⟩,
  ⟨some 52, none, .bin .sub (.t 51) (.c (.i .i64 15))⟩,
  ⟨some 53, none, .ixA 64 1 (.t 6) (.t 52)⟩,
  ⟨some 54, none, .ld (.t 53)⟩,
  ⟨some 55, none, .mov (.t 10)⟩,
  ⟨some 56, none, .bin .sub (.t 55) (.c (.i .i64 2))⟩,
  ⟨some 57, none, .ixA 64 1 (.t 6) (.t 56)⟩,
  ⟨some 58, none, .ld (.t 57)⟩,
  ⟨some 11, none, .mov (.t 54)⟩,
  ⟨some 12, none, .mov (.t 58)⟩]
def r29_16 : List O := [⟨some 59, none, .mov (.t 10)⟩,
  ⟨some 60, none, .mov (.t 12)⟩,
  ⟨some 61, none, .mov (.t 12)⟩,
  ⟨some 62, none, .bin .shr (.t 61) (.c (.i .u64 10))⟩,
  ⟨some 63, none, .call (.f 49) [(.t 60), (.c (.i .i64 17)), (.c (.i .i64 19)), (.t 62)]⟩,
  ⟨some 64, none, .mov (.t 10)⟩,
  ⟨some 65, none, .bin .sub (.t 64) (.c (.i .i64 7))⟩,
  ⟨some 66, none, .ixA 64 1 (.t 6) (.t 65)⟩,
  ⟨some 67, none, .ld (.t 66)⟩,
  ⟨some 68, none, .bin .add (.t 63) (.t 67)⟩,
  ⟨some 69, none, .mov (.t 11)⟩,
  ⟨some 70, none, .mov (.t 11)⟩,
  ⟨some 71, none, .bin .shr (.t 70) (.c (.i .u64 3))⟩,
  ⟨some 72, none, .call (.f 49) [(.t 69), (.c (.i .i64 7)), (.c (.i .i64 18)), (.t 71)]⟩,
  ⟨some 73, none, .bin .add (.t 68) (.t 72)⟩,
  ⟨some 74, none, .mov (.t 10)⟩,
  ⟨some 75, none, .bin .sub (.t 74) (.c (.i .i64 16))⟩,
  ⟨some 76, none, .ixA 64 1 (.t 6) (.t 75)⟩,
  ⟨some 77, none, .ld (.t 76)⟩,
  ⟨some 78, none, .bin .add (.t 73) (.t 77)⟩,
  ⟨some 79, none, .ixA 64 1 (.t 6) (.t 59)⟩,
  ⟨none, none, .st 1 (.t 79) (.t 78)⟩]
def r29_14 : List O := [⟨some 49, none, .mov (.t 10)⟩,
  ⟨some 50, none, .bin .add (.t 49) (.c (.i .i64 1))⟩,
  ⟨some 10, none, .mov (.t 50)⟩]
def b29_2 : C := .seq (.seq (.ops r29_13) (.cond (.t 48) (.skip) (.exit 4))) (.seq (.block 5 (.seq (.draw r29_15 []) (.draw r29_16 [(4, 8), (8, 13), (4, 18), (13, 18)]))) (.ops r29_14))
def r29_17 : List O := [⟨some 80, none, .ldn 8 (.t 2)⟩,
  ⟨some 13, none, .alloc [.i .u32 0, .i .u32 0, .i .u32 0, .i .u32 0, .i .u32 0, .i .u32 0, .i .u32 0, .i .u32 0]⟩,
  ⟨none, none, .st 8 (.t 13) (.t 80)⟩]
def r29_18 : List O := [⟨some 81, none, .mov (.c (.i .i64 0))⟩]
def r29_19 : List O := [⟨some 82, none, .bin .lss (.t 81) (.c (.i .i64 64))⟩]
def r29_20 : List O := [⟨some 83, none, .mov (.t 81)⟩,
  ⟨some 14, none, .mov (.t 83)⟩]
def r29_21 : List O := [⟨some 84, none, .ixA 8 1 (.t 13) (.c (.i .i64 0))⟩,
  ⟨some 85, none, .ld (.t 84)⟩,
  ⟨some 86, none, .ixA 8 1 (.t 13) (.c (.i .i64 4))⟩,
  ⟨some 87, none, .ld (.t 86)⟩,
  ⟨some 15, none, .mov (.t 85)⟩,
  ⟨some 16, none, .mov (.t 87)⟩]
def r29_22 : List O := [⟨some 88, none, .ixA 8 1 (.t 13) (.c (.i .i64 7))⟩,
  ⟨some 89, none, .ld (.t 88)⟩,
  ⟨some 90, none, .mov (.t 16)⟩,
  ⟨some 91, none, .mov (.t 16)⟩,
  ⟨some 92, none, .call (.f 50) [(.t 91), (.c (.i .i64 (-25)))]⟩,
  ⟨some 93, none, .call (.f 49) [(.t 90), (.c (.i .i64 6)), (.c (.i .i64 11)), (.t 92)]⟩,
  ⟨some 94, none, .bin .add (.t 89) (.t 93)⟩,
  ⟨some 95, none, .mov (.t 16)⟩,
  ⟨some 96, none, .ixA 8 1 (.t 13) (.c (.i .i64 5))⟩,
  ⟨some 97, none, .ld (.t 96)⟩,
  ⟨some 98, none, .bin .and (.t 95) (.t 97)⟩,
  ⟨some 99, none, .mov (.t 16)⟩,
  ⟨some 100, none, .un .xor (.t 99)⟩,
  ⟨some 101, none, .ixA 8 1 (.t 13) (.c (.i .i64 6))⟩,
  ⟨some 102, none, .ld (.t 101)⟩,
  ⟨some 103, none, .bin .and (.t 100) (.t 102)⟩,
  ⟨some 104, none, .bin .xor (.t 98) (.t 103)⟩,
  ⟨some 105, none, .bin .add (.t 94) (.t 104)⟩,
  ⟨some 106, none, .mov (.t 14)⟩,
  ⟨some 107, none, .ixA 64 1 (.t 5) (.t 106)⟩,
  ⟨some 108, none, .ld (.t 107)⟩,
  ⟨some 109, none, .bin .add (.t 105) (.t 108)⟩,
  ⟨some 110, none, .mov (.t 14)⟩,
  ⟨some 111, none, .ixA 64 1 (.t 6) (.t 110)⟩,
  ⟨some 112, none, .ld (.t 111)⟩,
  ⟨some 113, none, .bin .add (.t 109) (.t 112)⟩,
  ⟨some 17, none, .mov (.t 113)⟩]
def r29_23 : List O := [⟨some 114, none, .mov (.t 15)⟩,
  ⟨some 115, none, .mov (.t 15)⟩,
  ⟨some 116, none, .call (.f 50) [(.t 115), (.c (.i .i64 (-22)))]⟩,
  ⟨some 117, none, .call (.f 49) [(.t 114), (.c (.i .i64 2)), (.c (.i .i64 13)), (.t 116)]⟩,
  ⟨some 118, none, .mov (.t 15)⟩,
  ⟨some 119, none, .ixA 8 1 (.t 13) (.c (.i .i64 1))⟩,
  ⟨some 120, none, .ld (.t 119)⟩,
  ⟨some 121, none, .bin .and (.t 118) (.t 120)⟩,
  ⟨some 122, none, .mov (.t 15)⟩,
  ⟨some 123, none, .ixA 8 1 (.t 13) (.c (.i .i64 2))⟩,
  ⟨some 124, none, .ld (.t 123)⟩,
  ⟨some 125, none, .bin .and (.t 122) (.t 124)⟩,
  ⟨some 126, none, .bin .xor (.t 121) (.t 125)⟩,
  ⟨some 127, none, .ixA 8 1 (.t 13) (.c (.i .i64 1))⟩,
  ⟨some 128, none, .ld (.t 127)⟩,
  ⟨some 129, none, .ixA 8 1 (.t 13) (.c (.i .i64 2))⟩,
  ⟨some 130, none, .ld (.t 129)⟩,
  ⟨some 131, none, .bin .and (.t 128) (.t 130)⟩,
  ⟨some 132, none, .bin .xor (.t 126) (.t 131)⟩,
  ⟨some 133, none, .bin .add (.t 117) (.t 132)⟩,
  ⟨some 18, none, .mov (.t 133)⟩]
def r29_24 : List O := [⟨some 134, none, .mov (.t 17)⟩,
  ⟨some 135, none, .mov (.t 18)⟩,
  ⟨some 136, none, .bin .add (.t 134) (.t 135)⟩,
  ⟨some 137, none, .mov (.t 15)⟩,
  ⟨some 138, none, .ixA 8 1 (.t 13) (.c (.i .i64 1))⟩,
  ⟨some 139, none, .ld (.t 138)⟩,
  ⟨some 140, none, .ixA 8 1 (.t 13) (.c (.i .i64 2))⟩,
  ⟨some 141, none, .ld (.t 140)⟩,
  ⟨some 142, none, .ixA 8 1 (.t 13) (.c (.i .i64 3))⟩,
  ⟨some 143, none, .ld (.t 142)⟩,
  ⟨some 144, none, .mov (.t 17)⟩,
  ⟨some 145, none, .bin .add (.t 143) (.t 144)⟩,
  ⟨some 146, none, .mov (.t 16)⟩,
  ⟨some 147, none, .ixA 8 1 (.t 13) (.c (.i .i64 5))⟩,
  ⟨some 148, none, .ld (.t 147)⟩,
  ⟨some 149, none, .ixA 8 1 (.t 13) (.c (.i .i64 6))⟩,
  ⟨some 150, none, .ld (.t 149)⟩,
  ⟨some 151, none, .build [.i .u32 0, .i .u32 0, .i .u32 0, .i .u32 0, .i .u32 0, .i .u32 0, .i .u32 0, .i .u32 0] [(0, 1, (.t 136)), (1, 1, (.t 137)), (2, 1, (.t 139)), (3, 1, (.t 141)), (4, 1, (.t 145)), (5, 1, (.t 146)), (6, 1, (.t 148)), (7, 1, (.t 150))]⟩,
  ⟨none, none, .st 8 (.t 13) (.t 151)⟩]
def r29_25 : List O := [⟨some 152, none, .bin .add (.t 81) (.c (.i .i64 1))⟩,
  ⟨some 81, none, .mov (.t 152)⟩]
def b29_3 : C := .seq (.ops r29_19) (.seq (.cond (.t 82) (.skip) (.exit 6)) (.seq (.block 7 (.seq (.ops r29_20) (.seq (.draw r29_21 []) (.seq (.draw r29_22 [(1, 4), (1, 5), (4, 9), (5, 9), (4, 14), (5, 14), (4, 20), (5, 20), (4, 24), (5, 24)]) (.seq (.draw r29_23 [(2, 6), (3, 6), (2, 10), (3, 10), (2, 14), (3, 14), (2, 16), (3, 16)]) (.ops r29_24)))))) (.ops r29_25)))
def r29_26 : List O := [⟨some 153, none, .mov (.c (.i .i64 0))⟩]
def r29_27 : List O := [⟨some 154, none, .bin .lss (.t 153) (.c (.i .i64 8))⟩]
def r29_28 : List O := [⟨some 155, none, .mov (.t 153)⟩,
  ⟨some 19, none, .mov (.t 155)⟩]
def r29_29 : List O := [⟨some 156, none, .mov (.t 19)⟩,
  ⟨some 157, none, .ixA 8 1 (.t 13) (.t 156)⟩,
  ⟨some 158, none, .ld (.t 157)⟩,
  ⟨some 159, none, .mov (.t 19)⟩,
  ⟨some 160, none, .ixA 8 1 (.t 2) (.t 159)⟩,
  ⟨some 161, none, .ld (.t 160)⟩,
  ⟨some 162, none, .bin .add (.t 158) (.t 161)⟩,
  ⟨some 163, none, .ixA 8 1 (.t 13) (.t 156)⟩,
  ⟨none, none, .st 1 (.t 163) (.t 162)⟩]
def r29_30 : List O := [⟨some 164, none, .bin .add (.t 153) (.c (.i .i64 1))⟩,
  ⟨some 153, none, .mov (.t 164)⟩]
def b29_4 : C := .seq (.ops r29_27) (.seq (.cond (.t 154) (.skip) (.exit 8)) (.seq (.block 9 (.seq (.ops r29_28) (.draw r29_29 []))) (.ops r29_30)))
def r29_31 : List O := [⟨some 165, none, .ldn 8 (.t 13)⟩,
  ⟨none, none, .st 8 (.t 4) (.t 165)⟩]
def a29 : FI := ⟨166, [.cell 4 (some 8)], .seq (.ops r29_0) (.seq (.ops r29_1) (.seq (.ops r29_2) (.seq (.seq (.ops r29_3) (.block 0 (.loop b29_1))) (.seq (.seq (.ops r29_12) (.block 4 (.loop b29_2))) (.seq (.ops r29_17) (.seq (.seq (.ops r29_18) (.block 6 (.loop b29_3))) (.seq (.seq (.ops r29_26) (.block 8 (.loop b29_4))) (.seq (.ops r29_31) (.ret))))))))), none, none⟩
def r30_0 : List O := [⟨some 2, none, .mov (.c (.i .i64 0))⟩,
  ⟨some 3, none, .mov (.c (.i .i64 0))⟩]
def r30_1 : List O := [⟨some 7, none, .mov (.t 0)⟩,
  ⟨some 8, none, .lenL (.t 7)⟩,
  ⟨some 9, none, .mov (.c (.i .i64 0))⟩]
def r30_2 : List O := [⟨some 10, none, .bin .lss (.t 9) (.t 8)⟩]
def r30_3 : List O := [⟨some 11, none, .mov (.t 9)⟩,
  ⟨some 12, none, .ixS 71 (.t 7) (.t 9)⟩,
  ⟨some 13, none, .ldn 71 (.t 12)⟩,
  ⟨some 5, none, .alloc ([.i .i64 0, .i .i64 0, .i .i64 0] ++ [.i .u8 0] ++ [.b false] ++ [.s []] ++ [.i .i64 0] ++ List.replicate 64 (.i .u8 0))⟩,
  ⟨some 4, none, .mov (.t 11)⟩,
  ⟨none, none, .st 71 (.t 5) (.t 13)⟩]
def r30_4 : List O := [⟨some 6, none, .alloc (List.replicate 32 (.i .u8 0))⟩]
def r30_5 : List O := [⟨some 14, none, .mov (.t 4)⟩,
  ⟨some 15, none, .bin .gtr (.t 14) (.c (.i .i64 0))⟩]
def r30_6 : List O := [⟨some 16, none, .mov (.t 0)⟩,
  ⟨some 17, none, .mov (.t 4)⟩,
  ⟨some 18, none, .bin .sub (.t 17) (.c (.i .i64 1))⟩,
  ⟨some 19, none, .ixS 71 (.t 16) (.t 18)⟩,
  ⟨some 20, none, .ldn 71 (.t 19)⟩,
  ⟨some 21, none, .call (.f 33) [(.t 20)]⟩,
  ⟨none, none, .st 32 (.t 6) (.t 21)⟩]
def r30_7 : List O := [⟨some 23, none, .mov (.t 4)⟩,
  ⟨some 24, none, .bin .geq (.t 23) (.c (.i .i64 2000))⟩,
  ⟨some 22, none, .mov (.t 24)⟩]
def r30_8 : List O := [⟨some 25, none, .mov (.t 4)⟩,
  ⟨some 2, none, .mov (.t 25)⟩,
  ⟨some 3, none, .mov (.c (.i .i64 2))⟩]
def r30_9 : List O := [⟨some 27, none, .ldn 71 (.t 5)⟩,
  ⟨some 28, none, .call (.f 14) [(.t 27)]⟩,
  ⟨some 29, none, .un .not (.t 28)⟩,
  ⟨some 30, none, .mov (.t 29)⟩,
  ⟨some 31, some (30, false), .fld 0 (.t 5)⟩,
  ⟨some 32, some (30, false), .ld (.t 31)⟩,
  ⟨some 33, some (30, false), .mov (.t 4)⟩,
  ⟨some 34, some (30, false), .bin .neq (.t 32) (.t 33)⟩,
  ⟨some 35, none, .pick (.t 30) (.c (.b true)) (.t 34)⟩,
  ⟨some 26, none, .mov (.t 35)⟩]
def r30_10 : List O := [⟨some 36, none, .mov (.t 4)⟩,
  ⟨some 2, none, .mov (.t 36)⟩,
  ⟨some 3, none, .mov (.c (.i .i64 1))⟩]
def r30_11 : List O := [⟨some 38, none, .mov (.t 4)⟩,
  ⟨some 39, none, .bin .gtr (.t 38) (.c (.i .i64 0))⟩,
  ⟨some 40, none, .mov (.t 39)⟩,
  ⟨some 41, some (40, true), .fld 1 (.t 5)⟩,
  ⟨some 42, some (40, true), .ld (.t 41)⟩,
  ⟨some 43, some (40, true), .mov (.t 0)⟩,
  ⟨some 44, some (40, true), .mov (.t 4)⟩,
  ⟨some 45, some (40, true), .bin .sub (.t 44) (.c (.i .i64 1))⟩,
  ⟨some 46, some (40, true), .ixS 71 (.t 43) (.t 45)⟩,
  ⟨some 47, some (40, true), .fld 1 (.t 46)⟩,
  ⟨some 48, some (40, true), .ld (.t 47)⟩,
  ⟨some 49, some (40, true), .bin .lss (.t 42) (.t 48)⟩,
  ⟨some 50, none, .pick (.t 40) (.t 49) (.c (.b false))⟩,
  ⟨some 37, none, .mov (.t 50)⟩]
def r30_12 : List O := [⟨some 51, none, .mov (.t 4)⟩,
  ⟨some 2, none, .mov (.t 51)⟩,
  ⟨some 3, none, .mov (.c (.i .i64 7))⟩]
def r30_13 : List O := [⟨some 53, none, .fld 39 (.t 5)⟩,
  ⟨some 54, none, .ldn 32 (.t 53)⟩,
  ⟨some 55, none, .ldn 32 (.t 6)⟩,
  ⟨some 56, none, .eqv true (.agg (List.replicate 32 (.i .u8 : KT))) (.t 54) (.t 55)⟩,
  ⟨some 52, none, .mov (.t 56)⟩]
def r30_14 : List O := [⟨some 57, none, .mov (.t 4)⟩,
  ⟨some 2, none, .mov (.t 57)⟩,
  ⟨some 3, none, .mov (.c (.i .i64 90))⟩]
def r30_15 : List O := [⟨some 58, none, .bin .add (.t 9) (.c (.i .i64 1))⟩,
  ⟨some 9, none, .mov (.t 58)⟩]
def b30_0 : C := .seq (.ops r30_2) (.seq (.cond (.t 10) (.skip) (.exit 0)) (.seq (.block 1 (.seq (.ops r30_3) (.seq (.ops r30_4) (.seq (.seq (.ops r30_5) (.cond (.t 15) (.ops r30_6) (.skip))) (.block 2 (.seq (.ops r30_7) (.cond (.t 22) (.seq (.ops r30_8) (.ret)) (.seq (.ops r30_9) (.cond (.t 26) (.seq (.ops r30_10) (.ret)) (.seq (.draw r30_11 []) (.cond (.t 37) (.seq (.ops r30_12) (.ret)) (.seq (.ops r30_13) (.cond (.t 52) (.seq (.ops r30_14) (.ret)) (.skip)))))))))))))) (.ops r30_15)))
def r30_16 : List O := [⟨some 2, none, .mov (.c (.i .i64 0))⟩,
  ⟨some 3, none, .mov (.c (.i .i64 0))⟩]
def a30 : FI := ⟨59, [.tmp 2, .tmp 3], .seq (.ops r30_0) (.seq (.seq (.ops r30_1) (.block 0 (.loop b30_0))) (.seq (.ops r30_16) (.ret))), none, none⟩
def r31_0 : List O := [⟨some 6, none, .mov (.c (.b false))⟩]
def r31_1 : List O := [⟨some 7, none, .mov (.t 0)⟩,
  ⟨some 8, none, .mov (.t 1)⟩,
  ⟨some 9, none, .bin .geq (.t 7) (.t 8)⟩,
  ⟨some 10, none, .mov (.t 9)⟩,
  ⟨some 11, some (10, true), .mov (.t 0)⟩,
  ⟨some 12, some (10, true), .mov (.t 2)⟩,
  ⟨some 13, some (10, true), .bin .leq (.t 11) (.t 12)⟩,
  ⟨some 14, none, .pick (.t 10) (.t 13) (.c (.b false))⟩,
  ⟨some 6, none, .mov (.t 14)⟩]
def a31 : FI := ⟨15, [.tmp 6], .seq (.ops r31_0) (.seq (.ops r31_1) (.ret)), none, none⟩
def r32_0 : List O := [⟨some 4, none, .alloc (List.replicate 32 (.i .u8 0))⟩]
def r32_1 : List O := [⟨some 5, none, .mov (.t 0)⟩,
  ⟨some 6, none, .call (.f 37) [(.t 5)]⟩,
  ⟨some 7, none, .bin .add (.c (.s [115])) (.t 6)⟩,
  ⟨some 8, none, .bin .add (.t 7) (.c (.s [47]))⟩,
  ⟨some 9, none, .mov (.t 1)⟩,
  ⟨some 10, none, .bin .add (.t 8) (.t 9)⟩,
  ⟨some 11, none, .s2b (.t 10)⟩,
  ⟨some 12, none, .call (.f 9) [(.t 11)]⟩,
  ⟨none, none, .st 32 (.t 4) (.t 12)⟩]
def a32 : FI := ⟨13, [.cell 4 (some 32)], .seq (.ops r32_0) (.seq (.ops r32_1) (.ret)), none, none⟩
def r33_0 : List O := [⟨some 1, none, .box (.t 0)⟩,
  ⟨some 2, none, .alloc (List.replicate 32 (.i .u8 0))⟩]
def r33_1 : List O := [⟨some 4, none, .fld 0 (.t 1)⟩,
  ⟨some 5, none, .ld (.t 4)⟩,
  ⟨some 6, none, .fld 1 (.t 1)⟩,
  ⟨some 7, none, .ld (.t 6)⟩,
  ⟨some 8, none, .fld 2 (.t 1)⟩,
  ⟨some 9, none, .ld (.t 8)⟩,
  ⟨some 10, none, .fld 3 (.t 1)⟩,
  ⟨some 11, none, .ld (.t 10)⟩,
  ⟨some 12, none, .conv .i64 (.t 11)⟩,
  ⟨some 13, none, .buildSl [.i .i64 0, .i .i64 0, .i .i64 0, .i .i64 0] 4 [(0, 1, (.t 5)), (1, 1, (.t 7)), (2, 1, (.t 9)), (3, 1, (.t 12))]⟩,
  ⟨some 14, none, .call (.f 15) [(.t 13)]⟩,
  ⟨some 15, none, .bin .add (.c (.s [98, 32])) (.t 14)⟩,
  ⟨some 16, none, .bin .add (.t 15) (.c (.s [10]))⟩,
  ⟨some 17, none, .s2b (.t 16)⟩,
  ⟨some 3, none, .mov (.t 17)⟩]
def r33_2 : List O := [⟨some 18, none, .mov (.t 3)⟩,
  ⟨some 19, none, .fld 7 (.t 1)⟩,
  ⟨some 20, none, .slcA 32 1 (.t 19) none none⟩,
  ⟨some 21, none, .app 1 1 (.t 18) (.t 20)⟩,
  ⟨some 3, none, .mov (.t 21)⟩]
def r33_3 : List O := [⟨some 22, none, .mov (.t 3)⟩,
  ⟨some 23, none, .fld 39 (.t 1)⟩,
  ⟨some 24, none, .slcA 32 1 (.t 23) none none⟩,
  ⟨some 25, none, .app 1 1 (.t 22) (.t 24)⟩,
  ⟨some 26, none, .call (.f 9) [(.t 25)]⟩,
  ⟨none, none, .st 32 (.t 2) (.t 26)⟩]
def a33 : FI := ⟨27, [.cell 2 (some 32)], .seq (.ops r33_0) (.seq (.ops r33_1) (.seq (.ops r33_2) (.seq (.ops r33_3) (.ret)))), none, none⟩
def r34_0 : List O := [⟨some 0, none, .mov (.c (.pn))⟩]
def r34_1 : List O := [⟨some 1, none, .call (.f 51) []⟩,
  ⟨some 2, none, .build [.sn, .pn] [(1, 1, (.t 1))]⟩,
  ⟨some 3, none, .box (.t 2)⟩,
  ⟨some 0, none, .mov (.t 3)⟩]
def a34 : FI := ⟨4, [.tmp 0], .seq (.ops r34_0) (.seq (.ops r34_1) (.ret)), none, none⟩
def r35_0 : List O := [⟨some 2, none, .alloc [.i .u8 0]⟩]
def r35_1 : List O := [⟨some 4, none, .mkFn 52 [] [(.t 2)]⟩,
  ⟨none, none, .mov (.c (.tup []))⟩]
def r35_2 : List O := [⟨some 5, none, .mkMap⟩,
  ⟨none, none, .mapSet (.sc (.i .u8)) (.t 5) (.c (.i .u8 1)) (.f 53)⟩,
  ⟨none, none, .mapSet (.sc (.i .u8)) (.t 5) (.c (.i .u8 2)) (.f 54)⟩,
  ⟨none, none, .mapSet (.sc (.i .u8)) (.t 5) (.c (.i .u8 3)) (.f 55)⟩,
  ⟨none, none, .mapSet (.sc (.i .u8)) (.t 5) (.c (.i .u8 4)) (.f 56)⟩,
  ⟨none, none, .mapSet (.sc (.i .u8)) (.t 5) (.c (.i .u8 5)) (.f 57)⟩,
  ⟨none, none, .mapSet (.sc (.i .u8)) (.t 5) (.c (.i .u8 6)) (.f 58)⟩,
  ⟨none, none, .mapSet (.sc (.i .u8)) (.t 5) (.c (.i .u8 7)) (.f 59)⟩,
  ⟨some 6, none, .mov (.t 5)⟩,
  ⟨some 3, none, .mov (.t 6)⟩]
def r35_3 : List O := [⟨some 7, none, .mov (.t 0)⟩,
  ⟨some 8, none, .mov (.t 0)⟩,
  ⟨some 9, none, .nilck (.t 8)⟩,
  ⟨some 10, none, .fld 2 (.t 9)⟩,
  ⟨some 11, none, .fld 2 (.t 10)⟩,
  ⟨some 12, none, .ld (.t 11)⟩,
  ⟨some 13, none, .bin .eql (.t 12) (.c (.i .i64 0))⟩,
  ⟨some 14, none, .mov (.t 13)⟩,
  ⟨some 15, some (14, true), .mov (.t 0)⟩,
  ⟨some 16, some (14, true), .nilck (.t 15)⟩,
  ⟨some 17, some (14, true), .fld 2 (.t 16)⟩,
  ⟨some 18, some (14, true), .fld 4 (.t 17)⟩,
  ⟨some 19, some (14, true), .ld (.t 18)⟩,
  ⟨some 20, some (14, true), .un .not (.t 19)⟩,
  ⟨some 21, some (14, true), .mov (.t 20)⟩,
  ⟨some 22, some (21, false), .mov (.t 0)⟩,
  ⟨some 23, some (21, false), .nilck (.t 22)⟩,
  ⟨some 24, some (21, false), .fld 2 (.t 23)⟩,
  ⟨some 25, some (21, false), .fld 3 (.t 24)⟩,
  ⟨some 26, some (21, false), .ld (.t 25)⟩,
  ⟨some 27, some (21, false), .bin .eql (.t 26) (.c (.i .u8 4))⟩,
  ⟨some 28, some (14, true), .pick (.t 21) (.c (.b true)) (.t 27)⟩,
  ⟨some 29, none, .pick (.t 14) (.t 28) (.c (.b false))⟩,
  ⟨some 30, none, .call (.f 60) [(.t 7), (.t 29), (.c (.i .u8 2))]⟩]
def r35_4 : List O := [⟨some 31, none, .mov (.t 3)⟩,
  ⟨some 32, none, .mov (.t 0)⟩,
  ⟨some 33, none, .nilck (.t 32)⟩,
  ⟨some 34, none, .fld 2 (.t 33)⟩,
  ⟨some 35, none, .fld 3 (.t 34)⟩,
  ⟨some 36, none, .ld (.t 35)⟩,
  ⟨some 37, none, .look (.sc (.i .u8)) (.fnil) false (.t 31) (.t 36)⟩,
  ⟨some 38, none, .mov (.t 0)⟩,
  ⟨some 39, none, .call (.t 37) [(.t 38)]⟩]
def r35_5 : List O := [⟨none, none, .st 1 (.t 2) (.c (.i .u8 0))⟩]
def a35 : FI := ⟨40, [.cell 2 none], .seq (.ops r35_2) (.seq (.ops r35_3) (.seq (.ops r35_4) (.seq (.ops r35_5) (.ret)))), some (.seq (.ops r35_0) (.ops r35_1), (.t 4)), none⟩
def r36_0 : List O := [⟨some 1, none, .box (.t 0)⟩,
  ⟨some 2, none, .mov (.c (.b false))⟩]
def r36_1 : List O := [⟨some 3, none, .fld 0 (.t 1)⟩,
  ⟨some 4, none, .ld (.t 3)⟩,
  ⟨some 5, none, .call (.f 31) [(.t 4), (.c (.i .i64 1)), (.c (.i .i64 1000000))]⟩,
  ⟨some 6, none, .mov (.t 5)⟩,
  ⟨some 7, some (6, true), .fld 7 (.t 1)⟩,
  ⟨some 8, some (6, true), .ld (.t 7)⟩,
  ⟨some 9, some (6, true), .call (.f 31) [(.t 8), (.c (.i .i64 0)), (.c (.i .i64 1000000))]⟩,
  ⟨some 10, none, .pick (.t 6) (.t 9) (.c (.b false))⟩,
  ⟨some 11, none, .mov (.t 10)⟩,
  ⟨some 12, some (11, true), .fld 8 (.t 1)⟩,
  ⟨some 13, some (11, true), .ld (.t 12)⟩,
  ⟨some 14, some (11, true), .call (.f 31) [(.t 13), (.c (.i .i64 0)), (.c (.i .i64 24))]⟩,
  ⟨some 15, none, .pick (.t 11) (.t 14) (.c (.b false))⟩,
  ⟨some 16, none, .mov (.t 15)⟩,
  ⟨some 17, some (16, true), .fld 11 (.t 1)⟩,
  ⟨some 18, some (16, true), .ld (.t 17)⟩,
  ⟨some 19, some (16, true), .call (.f 31) [(.t 18), (.c (.i .i64 0)), (.c (.i .i64 24))]⟩,
  ⟨some 20, none, .pick (.t 16) (.t 19) (.c (.b false))⟩,
  ⟨some 21, none, .mov (.t 20)⟩,
  ⟨some 22, some (21, true), .fld 10 (.t 1)⟩,
  ⟨some 23, some (21, true), .ld (.t 22)⟩,
  ⟨some 24, some (21, true), .call (.f 31) [(.t 23), (.c (.i .i64 0)), (.c (.i .i64 1000000))]⟩,
  ⟨some 25, none, .pick (.t 21) (.t 24) (.c (.b false))⟩,
  ⟨some 26, none, .mov (.t 25)⟩,
  ⟨some 27, some (26, true), .fld 1 (.t 1)⟩,
  ⟨some 28, some (26, true), .ldn 5 (.t 27)⟩,
  ⟨some 29, some (26, true), .call (.f 61) [(.t 28)]⟩,
  ⟨some 30, some (26, true), .bin .eql (.t 29) (.c (.i .i64 0))⟩,
  ⟨some 31, none, .pick (.t 26) (.t 30) (.c (.b false))⟩,
  ⟨some 32, none, .mov (.t 31)⟩,
  ⟨some 33, some (32, true), .fld 6 (.t 1)⟩,
  ⟨some 34, some (32, true), .ld (.t 33)⟩,
  ⟨some 35, some (32, true), .call (.f 62) [(.t 34)]⟩,
  ⟨some 36, some (32, true), .bin .eql (.t 35) (.c (.i .i64 0))⟩,
  ⟨some 37, none, .pick (.t 32) (.t 36) (.c (.b false))⟩,
  ⟨some 38, none, .mov (.t 37)⟩,
  ⟨some 39, some (38, true), .fld 6 (.t 1)⟩,
  ⟨some 40, some (38, true), .ld (.t 39)⟩,
  ⟨some 41, some (38, true), .lenL (.t 40)⟩,
  ⟨some 42, some (38, true), .fld 9 (.t 1)⟩,
  ⟨some 43, some (38, true), .ld (.t 42)⟩,
  ⟨some 44, some (38, true), .call (.f 63) [(.t 41), (.t 43)]⟩,
  ⟨some 45, some (38, true), .bin .eql (.t 44) (.c (.i .i64 0))⟩,
  ⟨some 46, none, .pick (.t 38) (.t 45) (.c (.b false))⟩,
  ⟨some 2, none, .mov (.t 46)⟩]
def a36 : FI := ⟨47, [.tmp 2], .seq (.ops r36_0) (.seq (.ops r36_1) (.ret)), none, none⟩
def a37 : FI := primFI 1 8
def a38 : FI := primFI 2 2
def r39_0 : List O := [⟨some 6, none, .mov (.c (.b false))⟩]
def r39_1 : List O := [⟨some 7, none, .mov (.t 0)⟩,
  ⟨some 8, none, .mov (.t 1)⟩,
  ⟨some 9, none, .bin .geq (.t 7) (.t 8)⟩,
  ⟨some 10, none, .mov (.t 9)⟩,
  ⟨some 11, some (10, true), .mov (.t 0)⟩,
  ⟨some 12, some (10, true), .mov (.t 2)⟩,
  ⟨some 13, some (10, true), .bin .leq (.t 11) (.t 12)⟩,
  ⟨some 14, none, .pick (.t 10) (.t 13) (.c (.b false))⟩,
  ⟨some 6, none, .mov (.t 14)⟩]
def a39 : FI := ⟨15, [.tmp 6], .seq (.ops r39_0) (.seq (.ops r39_1) (.ret)), none, none⟩
def r40_0 : List O := [⟨some 4, none, .alloc (List.replicate 32 (.i .u8 0))⟩]
def r40_1 : List O := [⟨some 5, none, .mov (.t 0)⟩,
  ⟨some 6, none, .call (.f 37) [(.t 5)]⟩,
  ⟨some 7, none, .bin .add (.c (.s [115])) (.t 6)⟩,
  ⟨some 8, none, .bin .add (.t 7) (.c (.s [47]))⟩,
  ⟨some 9, none, .mov (.t 1)⟩,
  ⟨some 10, none, .bin .add (.t 8) (.t 9)⟩,
  ⟨some 11, none, .s2b (.t 10)⟩,
  ⟨some 12, none, .call (.f 68) [(.t 11)]⟩,
  ⟨none, none, .st 32 (.t 4) (.t 12)⟩]
def a40 : FI := ⟨13, [.cell 4 (some 32)], .seq (.ops r40_0) (.seq (.ops r40_1) (.ret)), none, none⟩
def r41_0 : List O := [⟨some 1, none, .mov (.t 4)⟩]
def r41_1 : List O := [⟨some 5, none, .mov (.t 1)⟩,
  ⟨some 6, none, .eqv true (.iface) (.t 5) (.c (.in0))⟩]
def r41_2 : List O := [⟨some 8, none, .mov (.t 1)⟩,
  ⟨some 9, none, .tassert 58 (.agg []) true (.t 8)⟩,
  ⟨some 7, none, .mov (.t 9)⟩,
  ⟨some 10, none, .ext (.t 7) 0⟩,
  ⟨some 11, none, .ext (.t 7) 1⟩,
  ⟨some 2, none, .alloc []⟩,
  ⟨none, none, .st 0 (.t 2) (.t 10)⟩,
  ⟨some 3, none, .mov (.t 11)⟩]
def r41_3 : List O := [⟨some 12, none, .mov (.t 3)⟩,
  ⟨some 13, none, .un .not (.t 12)⟩]
def r41_4 : List O := [⟨some 14, none, .mov (.t 1)⟩,
  ⟨none, none, .panic (.t 14)⟩]
def r41_5 : List O := [⟨none, none, .st 1 (.t 0) (.c (.b false))⟩]
def a41 : FI := ⟨15, [], .seq (.ops r41_0) (.seq (.ops r41_1) (.cond (.t 6) (.seq (.seq (.ops r41_2) (.seq (.ops r41_3) (.cond (.t 13) (.ops r41_4) (.skip)))) (.ops r41_5)) (.skip))), none, some 4⟩
def r42_0 : List O := [⟨some 4, none, .mov (.c (.sn))⟩]
def r42_1 : List O := [⟨some 10, none, .mov (.t 0)⟩,
  ⟨some 11, none, .nilck (.t 10)⟩,
  ⟨some 12, none, .fld 0 (.t 11)⟩,
  ⟨some 13, none, .ld (.t 12)⟩,
  ⟨some 14, none, .call (.f 69) [(.t 13), (.c (.s [10]))]⟩,
  ⟨some 9, none, .mov (.t 14)⟩,
  ⟨some 15, none, .ext (.t 9) 0⟩,
  ⟨some 16, none, .ext (.t 9) 1⟩,
  ⟨some 17, none, .ext (.t 9) 2⟩,
  ⟨some 5, none, .mov (.t 15)⟩,
  ⟨some 6, none, .mov (.t 16)⟩,
  ⟨some 7, none, .mov (.t 17)⟩]
def r42_2 : List O := [⟨some 18, none, .mov (.t 5)⟩,
  ⟨some 19, none, .call (.f 70) [(.t 18), (.c (.s [32]))]⟩,
  ⟨some 8, none, .mov (.t 19)⟩]
def r42_3 : List O := [⟨some 20, none, .mov (.t 7)⟩,
  ⟨some 21, none, .un .not (.t 20)⟩,
  ⟨some 22, none, .mov (.t 21)⟩,
  ⟨some 23, some (22, false), .mov (.t 8)⟩,
  ⟨some 24, some (22, false), .ixS 1 (.t 23) (.c (.i .i64 0))⟩,
  ⟨some 25, some (22, false), .ld (.t 24)⟩,
  ⟨some 26, some (22, false), .mov (.t 1)⟩,
  ⟨some 27, some (22, false), .bin .neq (.t 25) (.t 26)⟩,
  ⟨some 28, none, .pick (.t 22) (.c (.b true)) (.t 27)⟩]
def r42_4 : List O := [⟨some 29, none, .build [] []⟩,
  ⟨some 30, none, .mkI 58 (.t 29)⟩,
  ⟨none, none, .panic (.t 30)⟩]
def r42_5 : List O := [⟨some 31, none, .mov (.t 0)⟩,
  ⟨some 32, none, .mov (.t 6)⟩,
  ⟨some 33, none, .nilck (.t 31)⟩,
  ⟨some 34, none, .fld 0 (.t 33)⟩,
  ⟨none, none, .st 1 (.t 34) (.t 32)⟩]
def r42_6 : List O := [⟨some 35, none, .mov (.t 8)⟩,
  ⟨some 36, none, .slc 1 (.t 35) (some (.c (.i .i64 1))) none none⟩,
  ⟨some 4, none, .mov (.t 36)⟩]
def a42 : FI := ⟨37, [.tmp 4], .seq (.ops r42_0) (.seq (.ops r42_1) (.seq (.ops r42_2) (.seq (.seq (.ops r42_3) (.cond (.t 28) (.ops r42_4) (.skip))) (.seq (.ops r42_5) (.seq (.ops r42_6) (.ret)))))), none, none⟩
def a43 : FI := primFI 1 3
def a44 : FI := primFI 1 4
def r45_0 : List O := [⟨some 4, none, .mov (.c (.i .i64 0))⟩]
def r45_1 : List O := [⟨some 5, none, .mov (.t 0)⟩,
  ⟨some 6, none, .mov (.t 1)⟩,
  ⟨some 7, none, .call (.f 76) [(.t 5), (.t 6)]⟩,
  ⟨some 4, none, .mov (.t 7)⟩]
def a45 : FI := ⟨8, [.tmp 4], .seq (.ops r45_0) (.seq (.ops r45_1) (.ret)), none, none⟩
def r46_0 : List O := [⟨some 2, none, .mov (.c (.i .i64 0))⟩]
def r46_1 : List O := [⟨some 5, none, .mov (.t 0)⟩,
  ⟨some 6, none, .lenS (.t 5)⟩,
  ⟨some 7, none, .bin .gtr (.t 6) (.c (.i .i64 16))⟩]
def r46_2 : List O := [⟨some 2, none, .mov (.c (.i .i64 0))⟩]
def r46_3 : List O := [⟨some 3, none, .mov (.c (.i .i64 0))⟩]
def r46_4 : List O := [⟨some 4, none, .mov (.c (.i .i64 0))⟩]
def r46_5 : List O := [⟨some 8, none, .mov (.t 4)⟩,
  ⟨some 9, none, .mov (.t 0)⟩,
  ⟨some 10, none, .lenS (.t 9)⟩,
  ⟨some 11, none, .bin .lss (.t 8) (.t 10)⟩]
def r46_7 : List O := [⟨some 14, none, .mov (.t 0)⟩,
  ⟨some 15, none, .mov (.t 4)⟩,
  ⟨some 16, none, .ixStr (.t 14) (.t 15)⟩,
  ⟨some 17, none, .bin .lss (.t 16) (.c (.i .u8 48))⟩,
  ⟨some 18, none, .mov (.t 17)⟩,
  ⟨some 19, some (18, false), .mov (.t 0)⟩,
  ⟨some 20, some (18, false), .mov (.t 4)⟩,
  ⟨some 21, some (18, false), .ixStr (.t 19) (.t 20)⟩,
  ⟨some 22, some (18, false), .bin .gtr (.t 21) (.c (.i .u8 57))⟩,
  ⟨some 23, none, .pick (.t 18) (.c (.b true)) (.t 22)⟩]
def r46_8 : List O := [⟨some 2, none, .mov (.c (.i .i64 0))⟩]
def r46_9 : List O := [⟨some 24, none, .mov (.t 3)⟩,
  ⟨some 25, none, .bin .mul (.t 24) (.c (.i .i64 10))⟩,
  ⟨some 26, none, .mov (.t 0)⟩,
  ⟨some 27, none, .mov (.t 4)⟩,
  ⟨some 28, none, .ixStr (.t 26) (.t 27)⟩,
  ⟨some 29, none, .bin .sub (.t 28) (.c (.i .u8 48))⟩,
  ⟨some 30, none, .conv .i64 (.t 29)⟩,
  ⟨some 31, none, .bin .add (.t 25) (.t 30)⟩,
  ⟨some 3, none, .mov (.t 31)⟩]
def r46_6 : List O := [⟨some 12, none, .mov (.t 4)⟩,
  ⟨some 13, none, .bin .add (.t 12) (.c (.i .i64 1))⟩,
  ⟨some 4, none, .mov (.t 13)⟩]
def b46_0 : C := .seq (.seq (.ops r46_5) (.cond (.t 11) (.skip) (.exit 0))) (.seq (.block 1 (.seq (.seq (.ops r46_7) (.cond (.t 23) (.seq (.ops r46_8) (.ret)) (.skip))) (.ops r46_9))) (.ops r46_6))
def r46_10 : List O := [⟨some 32, none, .mov (.t 3)⟩,
  ⟨some 2, none, .mov (.t 32)⟩]
def a46 : FI := ⟨33, [.tmp 2], .seq (.ops r46_0) (.seq (.seq (.ops r46_1) (.cond (.t 7) (.seq (.ops r46_2) (.ret)) (.skip))) (.seq (.ops r46_3) (.seq (.seq (.ops r46_4) (.block 0 (.loop b46_0))) (.seq (.ops r46_10) (.ret))))), none, none⟩
def r47_0 : List O := [⟨some 2, none, .mov (.c (.i .u8 0))⟩]
def r47_1 : List O := [⟨some 4, none, .mov (.t 0)⟩,
  ⟨some 5, none, .bin .geq (.t 4) (.c (.i .u8 48))⟩,
  ⟨some 6, none, .mov (.t 5)⟩,
  ⟨some 7, some (6, true), .mov (.t 0)⟩,
  ⟨some 8, some (6, true), .bin .leq (.t 7) (.c (.i .u8 57))⟩,
  ⟨some 9, none, .pick (.t 6) (.t 8) (.c (.b false))⟩,
  ⟨some 3, none, .mov (.t 9)⟩]
def r47_2 : List O := [⟨some 10, none, .mov (.t 0)⟩,
  ⟨some 11, none, .bin .sub (.t 10) (.c (.i .u8 48))⟩,
  ⟨some 2, none, .mov (.t 11)⟩]
def r47_3 : List O := [⟨some 13, none, .mov (.t 0)⟩,
  ⟨some 14, none, .bin .geq (.t 13) (.c (.i .u8 97))⟩,
  ⟨some 15, none, .mov (.t 14)⟩,
  ⟨some 16, some (15, true), .mov (.t 0)⟩,
  ⟨some 17, some (15, true), .bin .leq (.t 16) (.c (.i .u8 102))⟩,
  ⟨some 18, none, .pick (.t 15) (.t 17) (.c (.b false))⟩,
  ⟨some 12, none, .mov (.t 18)⟩]
def r47_4 : List O := [⟨some 19, none, .mov (.t 0)⟩,
  ⟨some 20, none, .bin .sub (.t 19) (.c (.i .u8 97))⟩,
  ⟨some 21, none, .bin .add (.t 20) (.c (.i .u8 10))⟩,
  ⟨some 2, none, .mov (.t 21)⟩]
def r47_5 : List O := [⟨some 2, none, .mov (.c (.i .u8 0))⟩]
def a47 : FI := ⟨22, [.tmp 2], .seq (.ops r47_0) (.seq (.block 0 (.seq (.ops r47_1) (.cond (.t 3) (.seq (.ops r47_2) (.ret)) (.seq (.ops r47_3) (.cond (.t 12) (.seq (.ops r47_4) (.ret)) (.skip)))))) (.seq (.ops r47_5) (.ret))), none, none⟩
def r48_0 : List O := [⟨some 0, none, .alloc (List.replicate 64 (.i .u32 0))⟩]
def r48_1 : List O := [⟨some 1, none, .build (List.replicate 64 (.i .u32 0)) [(0, 1, (.c (.i .u32 1116352408))), (1, 1, (.c (.i .u32 1899447441))), (2, 1, (.c (.i .u32 3049323471))), (3, 1, (.c (.i .u32 3921009573))), (4, 1, (.c (.i .u32 961987163))), (5, 1, (.c (.i .u32 1508970993))), (6, 1, (.c (.i .u32 2453635748))), (7, 1, (.c (.i .u32 2870763221))), (8, 1, (.c (.i .u32 3624381080))), (9, 1, (.c (.i .u32 310598401))), (10, 1, (.c (.i .u32 607225278))), (11, 1, (.c (.i .u32 1426881987))), (12, 1, (.c (.i .u32 1925078388))), (13, 1, (.c (.i .u32 2162078206))), (14, 1, (.c (.i .u32 2614888103))), (15, 1, (.c (.i .u32 3248222580))), (16, 1, (.c (.i .u32 3835390401))), (17, 1, (.c (.i .u32 4022224774))), (18, 1, (.c (.i .u32 264347078))), (19, 1, (.c (.i .u32 604807628))), (20, 1, (.c (.i .u32 770255983))), (21, 1, (.c (.i .u32 1249150122))), (22, 1, (.c (.i .u32 1555081692))), (23, 1, (.c (.i .u32 1996064986))), (24, 1, (.c (.i .u32 2554220882))), (25, 1, (.c (.i .u32 2821834349))), (26, 1, (.c (.i .u32 2952996808))), (27, 1, (.c (.i .u32 3210313671))), (28, 1, (.c (.i .u32 3336571891))), (29, 1, (.c (.i .u32 3584528711))), (30, 1, (.c (.i .u32 113926993))), (31, 1, (.c (.i .u32 338241895))), (32, 1, (.c (.i .u32 666307205))), (33, 1, (.c (.i .u32 773529912))), (34, 1, (.c (.i .u32 1294757372))), (35, 1, (.c (.i .u32 1396182291))), (36, 1, (.c (.i .u32 1695183700))), (37, 1, (.c (.i .u32 1986661051))), (38, 1, (.c (.i .u32 2177026350))), (39, 1, (.c (.i .u32 2456956037))), (40, 1, (.c (.i .u32 2730485921))), (41, 1, (.c (.i .u32 2820302411))), (42, 1, (.c (.i .u32 3259730800))), (43, 1, (.c (.i .u32 3345764771))), (44, 1, (.c (.i .u32 3516065817))), (45, 1, (.c (.i .u32 3600352804))), (46, 1, (.c (.i .u32 4094571909))), (47, 1, (.c (.i .u32 275423344))), (48, 1, (.c (.i .u32 430227734))), (49, 1, (.c (.i .u32 506948616))), (50, 1, (.c (.i .u32 659060556))), (51, 1, (.c (.i .u32 883997877))), (52, 1, (.c (.i .u32 958139571))), (53, 1, (.c (.i .u32 1322822218))), (54, 1, (.c (.i .u32 1537002063))), (55, 1, (.c (.i .u32 1747873779))), (56, 1, (.c (.i .u32 1955562222))), (57, 1, (.c (.i .u32 2024104815))), (58, 1, (.c (.i .u32 2227730452))), (59, 1, (.c (.i .u32 2361852424))), (60, 1, (.c (.i .u32 2428436474))), (61, 1, (.c (.i .u32 2756734187))), (62, 1, (.c (.i .u32 3204031479))), (63, 1, (.c (.i .u32 3329325298)))]⟩,
  ⟨none, none, .st 64 (.t 0) (.t 1)⟩]
def a48 : FI := ⟨2, [.cell 0 (some 64)], .seq (.ops r48_0) (.seq (.ops r48_1) (.ret)), none, none⟩
def r49_0 : List O := [⟨some 8, none, .mov (.c (.i .u32 0))⟩]
def r49_1 : List O := [⟨some 9, none, .mov (.t 0)⟩,
  ⟨some 10, none, .mov (.t 1)⟩,
  ⟨some 11, none, .un .neg (.t 10)⟩,
  ⟨some 12, none, .call (.f 50) [(.t 9), (.t 11)]⟩,
  ⟨some 13, none, .mov (.t 0)⟩,
  ⟨some 14, none, .mov (.t 2)⟩,
  ⟨some 15, none, .un .neg (.t 14)⟩,
  ⟨some 16, none, .call (.f 50) [(.t 13), (.t 15)]⟩,
  ⟨some 17, none, .bin .xor (.t 12) (.t 16)⟩,
  ⟨some 18, none, .mov (.t 3)⟩,
  ⟨some 19, none, .bin .xor (.t 17) (.t 18)⟩,
  ⟨some 8, none, .mov (.t 19)⟩]
def a49 : FI := ⟨20, [.tmp 8], .seq (.ops r49_0) (.seq (.ops r49_1) (.ret)), none, none⟩
def r50_0 : List O := [⟨some 4, none, .mov (.c (.i .u32 0))⟩]
def r50_1 : List O := [⟨some 6, none, .mov (.t 1)⟩,
  ⟨some 7, none, .conv .u64 (.t 6)⟩,
  ⟨some 8, none, .bin .and (.t 7) (.c (.i .u64 31))⟩,
  ⟨some 5, none, .mov (.t 8)⟩]
def r50_2 : List O := [⟨some 9, none, .mov (.t 0)⟩,
  ⟨some 10, none, .mov (.t 5)⟩,
  ⟨some 11, none, .bin .shl (.t 9) (.t 10)⟩,
  ⟨some 12, none, .mov (.t 0)⟩,
  ⟨some 13, none, .mov (.t 5)⟩,
  ⟨some 14, none, .bin .sub (.c (.i .u64 32)) (.t 13)⟩,
  ⟨some 15, none, .bin .shr (.t 12) (.t 14)⟩,
  ⟨some 16, none, .bin .or (.t 11) (.t 15)⟩,
  ⟨some 4, none, .mov (.t 16)⟩]
def a50 : FI := ⟨17, [.tmp 4], .seq (.ops r50_0) (.seq (.ops r50_1) (.seq (.ops r50_2) (.ret))), none, none⟩
def r51_0 : List O := [⟨some 0, none, .mov (.c (.pn))⟩]
def r51_1 : List O := [⟨some 1, none, .mkMap⟩,
  ⟨some 2, none, .mkMap⟩,
  ⟨some 3, none, .mkMap⟩,
  ⟨some 4, none, .mkMap⟩,
  ⟨some 5, none, .build [.mn, .mn, .sn, .mn, .sn, .mn] [(0, 1, (.t 1)), (1, 1, (.t 2)), (3, 1, (.t 3)), (5, 1, (.t 4))]⟩,
  ⟨some 6, none, .box (.t 5)⟩,
  ⟨some 0, none, .mov (.t 6)⟩]
def a51 : FI := ⟨7, [.tmp 0], .seq (.ops r51_0) (.seq (.ops r51_1) (.ret)), none, none⟩
def r52_0 : List O := [⟨some 1, none, .mov (.t 4)⟩]
def r52_1 : List O := [⟨some 5, none, .mov (.t 1)⟩,
  ⟨some 6, none, .eqv true (.iface) (.t 5) (.c (.in0))⟩]
def r52_2 : List O := [⟨some 8, none, .mov (.t 1)⟩,
  ⟨some 9, none, .tassert 108 (.agg [.i .u8 0]) true (.t 8)⟩,
  ⟨some 7, none, .mov (.t 9)⟩,
  ⟨some 10, none, .ext (.t 7) 0⟩,
  ⟨some 11, none, .ext (.t 7) 1⟩,
  ⟨some 2, none, .alloc [.i .u8 0]⟩,
  ⟨none, none, .st 1 (.t 2) (.t 10)⟩,
  ⟨some 3, none, .mov (.t 11)⟩]
def r52_3 : List O := [⟨some 12, none, .mov (.t 3)⟩,
  ⟨some 13, none, .un .not (.t 12)⟩]
def r52_4 : List O := [⟨some 14, none, .mov (.t 1)⟩,
  ⟨none, none, .panic (.t 14)⟩]
def r52_5 : List O := [⟨some 15, none, .fld 0 (.t 2)⟩,
  ⟨some 16, none, .ld (.t 15)⟩,
  ⟨none, none, .st 1 (.t 0) (.t 16)⟩]
def a52 : FI := ⟨17, [], .seq (.ops r52_0) (.seq (.ops r52_1) (.cond (.t 6) (.seq (.ops r52_2) (.seq (.seq (.ops r52_3) (.cond (.t 13) (.ops r52_4) (.skip))) (.ops r52_5))) (.skip))), none, some 4⟩
def a59 : FI := ⟨2, [], .skip, none, none⟩
def r60_0 : List O := [⟨some 6, none, .mov (.t 1)⟩,
  ⟨some 7, none, .un .not (.t 6)⟩]
def r60_1 : List O := [⟨some 8, none, .mov (.t 2)⟩,
  ⟨some 9, none, .build [.i .u8 0] [(0, 1, (.t 8))]⟩,
  ⟨some 10, none, .mkI 108 (.t 9)⟩,
  ⟨none, none, .panic (.t 10)⟩]
def a60 : FI := ⟨11, [], .seq (.ops r60_0) (.cond (.t 7) (.ops r60_1) (.skip)), none, none⟩
def r61_0 : List O := [⟨some 1, none, .box (.t 0)⟩,
  ⟨some 2, none, .mov (.c (.i .i64 0))⟩]
def r61_1 : List O := [⟨some 3, none, .fld 0 (.t 1)⟩,
  ⟨some 4, none, .ld (.t 3)⟩,
  ⟨some 5, none, .call (.f 98) [(.t 4)]⟩,
  ⟨some 6, none, .un .not (.t 5)⟩,
  ⟨some 7, none, .mov (.t 6)⟩,
  ⟨some 8, some (7, false), .fld 1 (.t 1)⟩,
  ⟨some 9, some (7, false), .ld (.t 8)⟩,
  ⟨some 10, some (7, false), .call (.f 99) [(.t 9), (.c (.i .i64 1)), (.c (.i .i64 3))]⟩,
  ⟨some 11, some (7, false), .un .not (.t 10)⟩,
  ⟨some 12, none, .pick (.t 7) (.c (.b true)) (.t 11)⟩,
  ⟨some 13, none, .mov (.t 12)⟩,
  ⟨some 14, some (13, false), .fld 2 (.t 1)⟩,
  ⟨some 15, some (13, false), .ld (.t 14)⟩,
  ⟨some 16, some (13, false), .call (.f 99) [(.t 15), (.c (.i .i64 0)), (.c (.i .i64 199))]⟩,
  ⟨some 17, some (13, false), .un .not (.t 16)⟩,
  ⟨some 18, none, .pick (.t 13) (.c (.b true)) (.t 17)⟩,
  ⟨some 19, none, .mov (.t 18)⟩,
  ⟨some 20, some (19, false), .fld 3 (.t 1)⟩,
  ⟨some 21, some (19, false), .ld (.t 20)⟩,
  ⟨some 22, some (19, false), .call (.f 99) [(.t 21), (.c (.i .i64 0)), (.c (.i .i64 100000))]⟩,
  ⟨some 23, some (19, false), .un .not (.t 22)⟩,
  ⟨some 24, none, .pick (.t 19) (.c (.b true)) (.t 23)⟩,
  ⟨some 25, none, .mov (.t 24)⟩,
  ⟨some 26, some (25, false), .fld 4 (.t 1)⟩,
  ⟨some 27, some (25, false), .ld (.t 26)⟩,
  ⟨some 28, some (25, false), .call (.f 99) [(.t 27), (.c (.i .i64 0)), (.c (.i .i64 100000))]⟩,
  ⟨some 29, some (25, false), .un .not (.t 28)⟩,
  ⟨some 30, none, .pick (.t 25) (.c (.b true)) (.t 29)⟩]
def r61_2 : List O := [⟨some 2, none, .mov (.c (.i .i64 1))⟩]
def r61_3 : List O := [⟨some 2, none, .mov (.c (.i .i64 0))⟩]
def a61 : FI := ⟨31, [.tmp 2], .seq (.ops r61_0) (.seq (.seq (.ops r61_1) (.cond (.t 30) (.seq (.ops r61_2) (.ret)) (.skip))) (.seq (.ops r61_3) (.ret))), none, none⟩
end Go.Air.Try
set_option maxRecDepth 100000
namespace Go.Air.Try
def r62_0 : List O := [⟨some 2, none, .mov (.c (.i .i64 0))⟩]
def r62_1 : List O := [⟨some 6, none, .mov (.t 0)⟩,
  ⟨some 7, none, .lenL (.t 6)⟩,
  ⟨some 8, none, .bin .gtr (.t 7) (.c (.i .i64 24))⟩]
def r62_2 : List O := [⟨some 2, none, .mov (.c (.i .i64 2))⟩]
def r62_3 : List O := [⟨some 9, none, .mkMap⟩,
  ⟨some 3, none, .mov (.t 9)⟩]
def r62_4 : List O := [⟨some 10, none, .mov (.t 0)⟩,
  ⟨some 11, none, .lenL (.t 10)⟩,
  ⟨some 12, none, .mov (.c (.i .i64 0))⟩]
def r62_5 : List O := [⟨some 13, none, .bin .lss (.t 12) (.t 11)⟩]
def r62_6 : List O := [⟨some 14, none, .ixS 2 (.t 10) (.t 12)⟩,
  ⟨some 15, none, .ldn 2 (.t 14)⟩,
  ⟨some 5, none, .alloc [.i .i64 0, .i .i64 0]⟩,
  ⟨none, none, .st 2 (.t 5) (.t 15)⟩]
def r62_7 : List O := [⟨some 16, none, .fld 0 (.t 5)⟩,
  ⟨some 17, none, .ld (.t 16)⟩,
  ⟨some 18, none, .call (.f 98) [(.t 17)]⟩,
  ⟨some 19, none, .un .not (.t 18)⟩,
  ⟨some 20, none, .mov (.t 19)⟩,
  ⟨some 21, some (20, false), .fld 1 (.t 5)⟩,
  ⟨some 22, some (20, false), .ld (.t 21)⟩,
  ⟨some 23, some (20, false), .call (.f 98) [(.t 22)]⟩,
  ⟨some 24, some (20, false), .un .not (.t 23)⟩,
  ⟨some 25, none, .pick (.t 20) (.c (.b true)) (.t 24)⟩]
def r62_8 : List O := [⟨some 2, none, .mov (.c (.i .i64 1))⟩]
def r62_9 : List O := [⟨some 26, none, .mov (.t 3)⟩,
  ⟨some 27, none, .fld 0 (.t 5)⟩,
  ⟨some 28, none, .ld (.t 27)⟩,
  ⟨some 29, none, .look (.sc (.i .i64)) (.b false) false (.t 26) (.t 28)⟩]
def r62_10 : List O := [⟨some 2, none, .mov (.c (.i .i64 6))⟩]
def r62_11 : List O := [⟨some 30, none, .mov (.t 3)⟩,
  ⟨some 31, none, .fld 0 (.t 5)⟩,
  ⟨some 32, none, .ld (.t 31)⟩,
  ⟨none, none, .mapSet (.sc (.i .i64)) (.t 30) (.t 32) (.c (.b true))⟩]
def r62_12 : List O := [⟨some 33, none, .bin .add (.t 12) (.c (.i .i64 1))⟩,
  ⟨some 12, none, .mov (.t 33)⟩]
def b62_0 : C := .seq (.ops r62_5) (.seq (.cond (.t 13) (.skip) (.exit 0)) (.seq (.block 1 (.seq (.ops r62_6) (.seq (.seq (.ops r62_7) (.cond (.t 25) (.seq (.ops r62_8) (.ret)) (.skip))) (.seq (.seq (.ops r62_9) (.cond (.t 29) (.seq (.ops r62_10) (.ret)) (.skip))) (.ops r62_11))))) (.ops r62_12)))
def r62_13 : List O := [⟨some 2, none, .mov (.c (.i .i64 0))⟩]
def a62 : FI := ⟨34, [.tmp 2], .seq (.ops r62_0) (.seq (.seq (.ops r62_1) (.cond (.t 8) (.seq (.ops r62_2) (.ret)) (.skip))) (.seq (.ops r62_3) (.seq (.seq (.ops r62_4) (.block 0 (.loop b62_0))) (.seq (.ops r62_13) (.ret))))), none, none⟩
def r63_0 : List O := [⟨some 4, none, .mov (.c (.i .i64 0))⟩]
def r63_1 : List O := [⟨some 8, none, .mov (.t 1)⟩,
  ⟨some 9, none, .lenL (.t 8)⟩,
  ⟨some 10, none, .mov (.t 0)⟩,
  ⟨some 11, none, .bin .neq (.t 9) (.t 10)⟩]
def r63_2 : List O := [⟨some 4, none, .mov (.c (.i .i64 1))⟩]
def r63_3 : List O := [⟨some 12, none, .mov (.t 0)⟩,
  ⟨some 13, none, .mkSl [.b false] 1 (.t 12) (.t 12)⟩,
  ⟨some 5, none, .mov (.t 13)⟩]
def r63_4 : List O := [⟨some 14, none, .mov (.t 1)⟩,
  ⟨some 15, none, .lenL (.t 14)⟩,
  ⟨some 16, none, .mov (.c (.i .i64 0))⟩]
def r63_5 : List O := [⟨some 17, none, .bin .lss (.t 16) (.t 15)⟩]
def r63_6 : List O := [⟨some 18, none, .ixS 1 (.t 14) (.t 16)⟩,
  ⟨some 19, none, .ld (.t 18)⟩,
  ⟨some 7, none, .mov (.t 19)⟩]
def r63_7 : List O := [⟨some 20, none, .mov (.t 7)⟩,
  ⟨some 21, none, .bin .lss (.t 20) (.c (.i .i64 0))⟩,
  ⟨some 22, none, .mov (.t 21)⟩,
  ⟨some 23, some (22, false), .mov (.t 7)⟩,
  ⟨some 24, some (22, false), .mov (.t 0)⟩,
  ⟨some 25, some (22, false), .bin .geq (.t 23) (.t 24)⟩,
  ⟨some 26, none, .pick (.t 22) (.c (.b true)) (.t 25)⟩,
  ⟨some 27, none, .mov (.t 26)⟩,
  ⟨some 28, some (27, false), .mov (.t 5)⟩,
  ⟨some 29, some (27, false), .mov (.t 7)⟩,
  ⟨some 30, some (27, false), .ixS 1 (.t 28) (.t 29)⟩,
  ⟨some 31, some (27, false), .ld (.t 30)⟩,
  ⟨some 32, none, .pick (.t 27) (.c (.b true)) (.t 31)⟩]
def r63_8 : List O := [⟨some 4, none, .mov (.c (.i .i64 1))⟩]
def r63_9 : List O := [⟨some 33, none, .mov (.t 5)⟩,
  ⟨some 34, none, .mov (.t 7)⟩,
  ⟨some 35, none, .ixS 1 (.t 33) (.t 34)⟩,
  ⟨none, none, .st 1 (.t 35) (.c (.b true))⟩]
def r63_10 : List O := [⟨some 36, none, .bin .add (.t 16) (.c (.i .i64 1))⟩,
  ⟨some 16, none, .mov (.t 36)⟩]
def b63_0 : C := .seq (.ops r63_5) (.seq (.cond (.t 17) (.skip) (.exit 0)) (.seq (.block 1 (.seq (.ops r63_6) (.seq (.seq (.ops r63_7) (.cond (.t 32) (.seq (.ops r63_8) (.ret)) (.skip))) (.ops r63_9)))) (.ops r63_10)))
def r63_11 : List O := [⟨some 4, none, .mov (.c (.i .i64 0))⟩]
def a63 : FI := ⟨37, [.tmp 4], .seq (.ops r63_0) (.seq (.seq (.ops r63_1) (.cond (.t 11) (.seq (.ops r63_2) (.ret)) (.skip))) (.seq (.ops r63_3) (.seq (.seq (.ops r63_4) (.block 0 (.loop b63_0))) (.seq (.ops r63_11) (.ret))))), none, none⟩
def r68_0 : List O := [⟨some 2, none, .alloc (List.replicate 32 (.i .u8 0))⟩]
def r68_1 : List O := [⟨some 10, none, .buildSl [] 0 []⟩,
  ⟨some 11, none, .mov (.t 0)⟩,
  ⟨some 12, none, .app 1 1 (.t 10) (.t 11)⟩,
  ⟨some 13, none, .buildSl [.i .u8 0] 1 [(0, 1, (.c (.i .u8 128)))]⟩,
  ⟨some 14, none, .app 1 1 (.t 12) (.t 13)⟩,
  ⟨some 3, none, .mov (.t 14)⟩]
def r68_2 : List O := [⟨some 15, none, .mov (.t 3)⟩,
  ⟨some 16, none, .lenL (.t 15)⟩,
  ⟨some 17, none, .bin .rem (.t 16) (.c (.i .i64 64))⟩,
  ⟨some 18, none, .bin .neq (.t 17) (.c (.i .i64 56))⟩]
def r68_3 : List O := [⟨some 19, none, .mov (.t 3)⟩,
  ⟨some 20, none, .buildSl [.i .u8 0] 1 [(0, 1, (.c (.i .u8 0)))]⟩,
  ⟨some 21, none, .app 1 1 (.t 19) (.t 20)⟩,
  ⟨some 3, none, .mov (.t 21)⟩]
def b68_0 : C := .seq (.seq (.ops r68_2) (.cond (.t 18) (.skip) (.exit 0))) (.block 1 (.ops r68_3))
def r68_4 : List O := [⟨some 22, none, .mov (.t 0)⟩,
  ⟨some 23, none, .lenL (.t 22)⟩,
  ⟨some 24, none, .conv .u64 (.t 23)⟩,
  ⟨some 25, none, .bin .mul (.t 24) (.c (.i .u64 8))⟩,
  ⟨some 4, none, .mov (.t 25)⟩]
def r68_5 : List O := [⟨some 5, none, .mov (.c (.i .i64 7))⟩]
def r68_6 : List O := [⟨some 26, none, .mov (.t 5)⟩,
  ⟨some 27, none, .bin .geq (.t 26) (.c (.i .i64 0))⟩]
def r68_8 : List O := [⟨some 30, none, .mov (.t 3)⟩,
  ⟨some 31, none, .mov (.t 4)⟩,
  ⟨some 32, none, .mov (.t 5)⟩,
  ⟨some 33, none, .bin .mul (.c (.i .i64 8)) (.t 32)⟩,
  ⟨some 34, none, .conv .u64 (.t 33)⟩,
  ⟨some 35, none, .bin .shr (.t 31) (.t 34)⟩,
  ⟨some 36, none, .conv .u8 (.t 35)⟩,
  ⟨some 37, none, .buildSl [.i .u8 0] 1 [(0, 1, (.t 36))]⟩,
  ⟨some 38, none, .app 1 1 (.t 30) (.t 37)⟩,
  ⟨some 3, none, .mov (.t 38)⟩]
def r68_7 : List O := [⟨some 28, none, .mov (.t 5)⟩,
  ⟨some 29, none, .bin .sub (.t 28) (.c (.i .i64 1))⟩,
  ⟨some 5, none, .mov (.t 29)⟩]
def b68_1 : C := .seq (.seq (.ops r68_6) (.cond (.t 27) (.skip) (.exit 2))) (.seq (.block 3 (.ops r68_8)) (.ops r68_7))
def r68_9 : List O := [⟨some 39, none, .build [.i .u32 0, .i .u32 0, .i .u32 0, .i .u32 0, .i .u32 0, .i .u32 0, .i .u32 0, .i .u32 0] [(0, 1, (.c (.i .u32 1779033703))), (1, 1, (.c (.i .u32 3144134277))), (2, 1, (.c (.i .u32 1013904242))), (3, 1, (.c (.i .u32 2773480762))), (4, 1, (.c (.i .u32 1359893119))), (5, 1, (.c (.i .u32 2600822924))), (6, 1, (.c (.i .u32 528734635))), (7, 1, (.c (.i .u32 1541459225)))]⟩,
  ⟨some 6, none, .alloc [.i .u32 0, .i .u32 0, .i .u32 0, .i .u32 0, .i .u32 0, .i .u32 0, .i .u32 0, .i .u32 0]⟩,
  ⟨none, none, .st 8 (.t 6) (.t 39)⟩]
def r68_10 : List O := [⟨some 7, none, .mov (.c (.i .i64 0))⟩]
def r68_11 : List O := [⟨some 40, none, .mov (.t 7)⟩,
  ⟨some 41, none, .mov (.t 3)⟩,
  ⟨some 42, none, .lenL (.t 41)⟩,
  ⟨some 43, none, .bin .lss (.t 40) (.t 42)⟩]
def r68_13 : List O := [⟨some 46, none, .ldn 8 (.t 6)⟩,
  ⟨some 47, none, .mov (.t 3)⟩,
  ⟨some 48, none, .mov (.t 7)⟩,
  ⟨some 49, none, .mov (.t 7)⟩,
  ⟨some 50, none, .bin .add (.t 49) (.c (.i .i64 64))⟩,
  ⟨some 51, none, .slc 1 (.t 47) (some (.t 48)) (some (.t 50)) none⟩,
  ⟨some 52, none, .call (.f 103) [(.t 46), (.t 51)]⟩,
  ⟨none, none, .st 8 (.t 6) (.t 52)⟩]
def r68_12 : List O := [⟨some 44, none, .mov (.t 7)⟩,
  ⟨some 45, none, .bin .add (.t 44) (.c (.i .i64 64))⟩,
  ⟨some 7, none, .mov (.t 45)⟩]
def b68_2 : C := .seq (.seq (.ops r68_11) (.cond (.t 43) (.skip) (.exit 4))) (.seq (.block 5 (.draw r68_13 [])) (.ops r68_12))
def r68_14 : List O := [⟨some 8, none, .alloc (List.replicate 32 (.i .u8 0))⟩]
def r68_15 : List O := [⟨some 9, none, .mov (.c (.i .i64 0))⟩]
def r68_16 : List O := [⟨some 53, none, .mov (.t 9)⟩,
  ⟨some 54, none, .bin .lss (.t 53) (.c (.i .i64 32))⟩]
def r68_18 : List O := [⟨some 57, none, .mov (.t 9)⟩,
  ⟨some 58, none, .mov (.t 9)⟩,
  ⟨some 59, none, .bin .quo (.t 58) (.c (.i .i64 4))⟩,
  ⟨some 60, none, .ixA 8 1 (.t 6) (.t 59)⟩,
  ⟨some 61, none, .ld (.t 60)⟩,
  ⟨some 62, none, .mov (.t 9)⟩,
  ⟨some 63, none, .bin .rem (.t 62) (.c (.i .i64 4))⟩,
  ⟨some 64, none, .bin .mul (.c (.i .i64 8)) (.t 63)⟩,
  ⟨some 65, none, .bin .sub (.c (.i .i64 24)) (.t 64)⟩,
  ⟨some 66, none, .conv .u64 (.t 65)⟩,
  ⟨some 67, none, .bin .shr (.t 61) (.t 66)⟩,
  ⟨some 68, none, .conv .u8 (.t 67)⟩,
  ⟨some 69, none, .ixA 32 1 (.t 8) (.t 57)⟩,
  ⟨none, none, .st 1 (.t 69) (.t 68)⟩]
def r68_17 : List O := [⟨some 55, none, .mov (.t 9)⟩,
  ⟨some 56, none, .bin .add (.t 55) (.c (.i .i64 1))⟩,
  ⟨some 9, none, .mov (.t 56)⟩]
def b68_3 : C := .seq (.seq (.ops r68_16) (.cond (.t 54) (.skip) (.exit 6))) (.seq (.block 7 (.ops r68_18)) (.ops r68_17))
def r68_19 : List O := [⟨some 70, none, .ldn 32 (.t 8)⟩,
  ⟨none, none, .st 32 (.t 2) (.t 70)⟩]
def a68 : FI := ⟨71, [.cell 2 (some 32)], .seq (.ops r68_0) (.seq (.ops r68_1) (.seq (.block 0 (.loop b68_0)) (.seq (.ops r68_4) (.seq (.seq (.ops r68_5) (.block 2 (.loop b68_1))) (.seq (.ops r68_9) (.seq (.seq (.ops r68_10) (.block 4 (.loop b68_2))) (.seq (.ops r68_14) (.seq (.seq (.ops r68_15) (.block 6 (.loop b68_3))) (.seq (.ops r68_19) (.ret)))))))))), none, none⟩
def r69_0 : List O := [⟨some 4, none, .mov (.c (.s []))⟩,
  ⟨some 5, none, .mov (.c (.s []))⟩,
  ⟨some 6, none, .mov (.c (.b false))⟩]
def r69_1 : List O := [⟨some 7, none, .mov (.t 0)⟩,
  ⟨some 8, none, .mov (.t 1)⟩,
  ⟨some 9, none, .call (.f 104) [(.t 7), (.t 8)]⟩,
  ⟨some 10, none, .ext (.t 9) 0⟩,
  ⟨some 11, none, .ext (.t 9) 1⟩,
  ⟨some 12, none, .ext (.t 9) 2⟩,
  ⟨some 4, none, .mov (.t 10)⟩,
  ⟨some 5, none, .mov (.t 11)⟩,
  ⟨some 6, none, .mov (.t 12)⟩]
def a69 : FI := ⟨13, [.tmp 4, .tmp 5, .tmp 6], .seq (.ops r69_0) (.seq (.ops r69_1) (.ret)), none, none⟩
def r70_0 : List O := [⟨some 4, none, .mov (.c (.sn))⟩]
def r70_1 : List O := [⟨some 5, none, .mov (.t 0)⟩,
  ⟨some 6, none, .mov (.t 1)⟩,
  ⟨some 7, none, .call (.f 105) [(.t 5), (.t 6), (.c (.i .i64 0)), (.c (.i .i64 (-1)))]⟩,
  ⟨some 4, none, .mov (.t 7)⟩]
def a70 : FI := ⟨8, [.tmp 4], .seq (.ops r70_0) (.seq (.ops r70_1) (.ret)), none, none⟩
def r76_0 : List O := [⟨some 4, none, .mov (.c (.i .i64 0))⟩]
def r76_1 : List O := [⟨some 5, none, .mov (.t 0)⟩,
  ⟨some 6, none, .mov (.t 1)⟩,
  ⟨some 7, none, .call (.f 116) [(.t 5), (.t 6)]⟩,
  ⟨some 4, none, .mov (.t 7)⟩]
def a76 : FI := ⟨8, [.tmp 4], .seq (.ops r76_0) (.seq (.ops r76_1) (.ret)), none, none⟩
def r98_0 : List O := [⟨some 2, none, .mov (.c (.b false))⟩]
def r98_1 : List O := [⟨some 3, none, .mov (.t 0)⟩,
  ⟨some 4, none, .bin .geq (.t 3) (.c (.i .i64 1))⟩,
  ⟨some 5, none, .mov (.t 4)⟩,
  ⟨some 6, some (5, true), .mov (.t 0)⟩,
  ⟨some 7, some (5, true), .bin .leq (.t 6) (.c (.i .i64 1000000))⟩,
  ⟨some 8, none, .pick (.t 5) (.t 7) (.c (.b false))⟩,
  ⟨some 2, none, .mov (.t 8)⟩]
def a98 : FI := ⟨9, [.tmp 2], .seq (.ops r98_0) (.seq (.ops r98_1) (.ret)), none, none⟩
def r99_0 : List O := [⟨some 6, none, .mov (.c (.b false))⟩]
def r99_1 : List O := [⟨some 7, none, .mov (.t 0)⟩,
  ⟨some 8, none, .mov (.t 1)⟩,
  ⟨some 9, none, .bin .geq (.t 7) (.t 8)⟩,
  ⟨some 10, none, .mov (.t 9)⟩,
  ⟨some 11, some (10, true), .mov (.t 0)⟩,
  ⟨some 12, some (10, true), .mov (.t 2)⟩,
  ⟨some 13, some (10, true), .bin .leq (.t 11) (.t 12)⟩,
  ⟨some 14, none, .pick (.t 10) (.t 13) (.c (.b false))⟩,
  ⟨some 6, none, .mov (.t 14)⟩]
def a99 : FI := ⟨15, [.tmp 6], .seq (.ops r99_0) (.seq (.ops r99_1) (.ret)), none, none⟩
def r103_0 : List O := [⟨some 2, none, .box (.t 0)⟩,
  ⟨some 4, none, .alloc [.i .u32 0, .i .u32 0, .i .u32 0, .i .u32 0, .i .u32 0, .i .u32 0, .i .u32 0, .i .u32 0]⟩]
def r103_1 : List O := [⟨some 22, none, .call (.f 164) []⟩,
  ⟨some 5, none, .alloc (List.replicate 64 (.i .u32 0))⟩,
  ⟨none, none, .st 64 (.t 5) (.t 22)⟩]
def r103_2 : List O := [⟨some 6, none, .alloc (List.replicate 64 (.i .u32 0))⟩]
def r103_3 : List O := [⟨some 7, none, .mov (.c (.i .i64 0))⟩]
def r103_4 : List O := [⟨some 23, none, .mov (.t 7)⟩,
  ⟨some 24, none, .bin .lss (.t 23) (.c (.i .i64 16))⟩]
def r103_6 : List O := [⟨some 27, none, .mov (.t 7)⟩,
  ⟨some 28, none, .mov (.t 1)⟩,
  ⟨some 29, none, .mov (.t 7)⟩,
  ⟨some 30, none, .bin .mul (.c (.i .i64 4)) (.t 29)⟩,
  ⟨some 31, none, .ixS 1 (.t 28) (.t 30)⟩,
  ⟨some 32, none, .ld (.t 31)⟩,
  ⟨some 33, none, .conv .u32 (.t 32)⟩,
  ⟨some 34, none, .bin .shl (.t 33) (.c (.i .u64 24))⟩,
  ⟨some 35, none, .mov (.t 1)⟩,
  ⟨some 36, none, .mov (.t 7)⟩,
  ⟨some 37, none, .bin .mul (.c (.i .i64 4)) (.t 36)⟩,
  ⟨some 38, none, .bin .add (.t 37) (.c (.i .i64 1))⟩,
  ⟨some 39, none, .ixS 1 (.t 35) (.t 38)⟩,
  ⟨some 40, none, .ld (.t 39)⟩,
  ⟨some 41, none, .conv .u32 (.t 40)⟩,
  ⟨some 42, none, .bin .shl (.t 41) (.c (.i .u64 16))⟩,
  ⟨some 43, none, .bin .or (.t 34) (.t 42)⟩,
  ⟨some 44, none, .mov (.t 1)⟩,
  ⟨some 45, none, .mov (.t 7)⟩,
  ⟨some 46, none, .bin .mul (.c (.i .i64 4)) (.t 45)⟩,
  ⟨some 47, none, .bin .add (.t 46) (.c (.i .i64 2))⟩,
  ⟨some 48, none, .ixS 1 (.t 44) (.t 47)⟩,
  ⟨some 49, none, .ld (.t 48)⟩,
  ⟨some 50, none, .conv .u32 (.t 49)⟩,
  ⟨some 51, none, .bin .shl (.t 50) (.c (.i .u64 8))⟩,
  ⟨some 52, none, .bin .or (.t 43) (.t 51)⟩,
  ⟨some 53, none, .mov (.t 1)⟩,
  ⟨some 54, none, .mov (.t 7)⟩,
  ⟨some 55, none, .bin .mul (.c (.i .i64 4)) (.t 54)⟩,
  ⟨some 56, none, .bin .add (.t 55) (.c (.i .i64 3))⟩,
  ⟨some 57, none, .ixS 1 (.t 53) (.t 56)⟩,
  ⟨some 58, none, .ld (.t 57)⟩,
  ⟨some 59, none, .conv .u32 (.t 58)⟩,
  ⟨some 60, none, .bin .or (.t 52) (.t 59)⟩,
  ⟨some 61, none, .ixA 64 1 (.t 6) (.t 27)⟩,
  ⟨none, none, .st 1 (.t 61) (.t 60)⟩]
def r103_5 : List O := [⟨some 25, none, .mov (.t 7)⟩,
  ⟨some 26, none, .bin .add (.t 25) (.c (.i .i64 1))⟩,
  ⟨some 7, none, .mov (.t 26)⟩]
def b103_0 : C := .seq (.seq (.ops r103_4) (.cond (.t 24) (.skip) (.exit 0))) (.seq (.block 1 (.draw r103_6 [])) (.ops r103_5))
def r103_7 : List O := [⟨some 8, none, .mov (.c (.i .i64 16))⟩]
def r103_8 : List O := [⟨some 62, none, .mov (.t 8)⟩,
  ⟨some 63, none, .bin .lss (.t 62) (.c (.i .i64 64))⟩]
def r103_10 : List O := [⟨some 66, none, .mov (.t 8)⟩,
  ⟨some 67, none, .bin .sub (.t 66) (.c (.i .i64 15))⟩,
  ⟨some 68, none, .ixA 64 1 (.t 6) (.t 67)⟩,
  ⟨some 69, none, .ld (.t 68)⟩,
  ⟨some 9, none, .mov (.t 69)⟩]
def r103_11 : List O := [⟨some 70, none, .mov (.t 8)⟩,
  ⟨some 71, none, .bin .sub (.t 70) (.c (.i .i64 2))⟩,
  ⟨some 72, none, .ixA 64 1 (.t 6) (.t 71)⟩,
  ⟨some 73, none, .ld (.t 72)⟩,
  ⟨some 10, none, .mov (.t 73)⟩]
def r103_12 : List O := [⟨some 74, none, .mov (.t 9)⟩,
  ⟨some 75, none, .call (.f 165) [(.t 74), (.c (.i .u32 7))]⟩,
  ⟨some 76, none, .mov (.t 9)⟩,
  ⟨some 77, none, .call (.f 165) [(.t 76), (.c (.i .u32 18))]⟩,
  ⟨some 78, none, .bin .xor (.t 75) (.t 77)⟩,
  ⟨some 79, none, .mov (.t 9)⟩,
  ⟨some 80, none, .bin .shr (.t 79) (.c (.i .u64 3))⟩,
  ⟨some 81, none, .bin .xor (.t 78) (.t 80)⟩,
  ⟨some 11, none, .mov (.t 81)⟩]
def r103_13 : List O := [⟨some 82, none, .mov (.t 10)⟩,
  ⟨some 83, none, .call (.f 165) [(.t 82), (.c (.i .u32 17))]⟩,
  ⟨some 84, none, .mov (.t 10)⟩,
  ⟨some 85, none, .call (.f 165) [(.t 84), (.c (.i .u32 19))]⟩,
  ⟨some 86, none, .bin .xor (.t 83) (.t 85)⟩,
  ⟨some 87, none, .mov (.t 10)⟩,
  ⟨some 88, none, .bin .shr (.t 87) (.c (.i .u64 10))⟩,
  ⟨some 89, none, .bin .xor (.t 86) (.t 88)⟩,
  ⟨some 12, none, .mov (.t 89)⟩]
def r103_14 : List O := [⟨some 90, none, .mov (.t 8)⟩,
  ⟨some 91, none, .mov (.t 12)⟩,
  ⟨some 92, none, .mov (.t 8)⟩,
  ⟨some 93, none, .bin .sub (.t 92) (.c (.i .i64 7))⟩,
  ⟨some 94, none, .ixA 64 1 (.t 6) (.t 93)⟩,
  ⟨some 95, none, .ld (.t 94)⟩,
  ⟨some 96, none, .bin .add (.t 91) (.t 95)⟩,
  ⟨some 97, none, .mov (.t 11)⟩,
  ⟨some 98, none, .bin .add (.t 96) (.t 97)⟩,
  ⟨some 99, none, .mov (.t 8)⟩,
  ⟨some 100, none, .bin .sub (.t 99) (.c (.i .i64 16))⟩,
  ⟨some 101, none, .ixA 64 1 (.t 6) (.t 100)⟩,
  ⟨some 102, none, .ld (.t 101)⟩,
  ⟨some 103, none, .bin .add (.t 98) (.t 102)⟩,
  ⟨some 104, none, .ixA 64 1 (.t 6) (.t 90)⟩,
  ⟨none, none, .st 1 (.t 104) (.t 103)⟩]
def r103_9 : List O := [⟨some 64, none, .mov (.t 8)⟩,
  ⟨some 65, none, .bin .add (.t 64) (.c (.i .i64 1))⟩,
  ⟨some 8, none, .mov (.t 65)⟩]
def b103_1 : C := .seq (.seq (.ops r103_8) (.cond (.t 63) (.skip) (.exit 2))) (.seq (.block 3 (.seq (.ops r103_10) (.seq (.ops r103_11) (.seq (.ops r103_12) (.seq (.ops r103_13) (.draw r103_14 [])))))) (.ops r103_9))
def r103_15 : List O := [⟨some 105, none, .ldn 8 (.t 2)⟩,
  ⟨some 13, none, .alloc [.i .u32 0, .i .u32 0, .i .u32 0, .i .u32 0, .i .u32 0, .i .u32 0, .i .u32 0, .i .u32 0]⟩,
  ⟨none, none, .st 8 (.t 13) (.t 105)⟩]
def r103_16 : List O := [⟨some 14, none, .mov (.c (.i .i64 0))⟩]
def r103_17 : List O := [⟨some 106, none, .mov (.t 14)⟩,
  ⟨some 107, none, .bin .lss (.t 106) (.c (.i .i64 64))⟩]
def r103_19 : List O := [⟨some 110, none, .ixA 8 1 (.t 13) (.c (.i .i64 4))⟩,
  ⟨some 111, none, .ld (.t 110)⟩,
  ⟨some 112, none, .call (.f 165) [(.t 111), (.c (.i .u32 6))]⟩,
  ⟨some 113, none, .ixA 8 1 (.t 13) (.c (.i .i64 4))⟩,
  ⟨some 114, none, .ld (.t 113)⟩,
  ⟨some 115, none, .call (.f 165) [(.t 114), (.c (.i .u32 11))]⟩,
  ⟨some 116, none, .bin .xor (.t 112) (.t 115)⟩,
  ⟨some 117, none, .ixA 8 1 (.t 13) (.c (.i .i64 4))⟩,
  ⟨some 118, none, .ld (.t 117)⟩,
  ⟨some 119, none, .call (.f 165) [(.t 118), (.c (.i .u32 25))]⟩,
  ⟨some 120, none, .bin .xor (.t 116) (.t 119)⟩,
  ⟨some 15, none, .mov (.t 120)⟩]
def r103_20 : List O := [⟨some 121, none, .ixA 8 1 (.t 13) (.c (.i .i64 4))⟩,
  ⟨some 122, none, .ld (.t 121)⟩,
  ⟨some 123, none, .ixA 8 1 (.t 13) (.c (.i .i64 5))⟩,
  ⟨some 124, none, .ld (.t 123)⟩,
  ⟨some 125, none, .bin .and (.t 122) (.t 124)⟩,
  ⟨some 126, none, .ixA 8 1 (.t 13) (.c (.i .i64 4))⟩,
  ⟨some 127, none, .ld (.t 126)⟩,
  ⟨some 128, none, .un .xor (.t 127)⟩,
  ⟨some 129, none, .ixA 8 1 (.t 13) (.c (.i .i64 6))⟩,
  ⟨some 130, none, .ld (.t 129)⟩,
  ⟨some 131, none, .bin .and (.t 128) (.t 130)⟩,
  ⟨some 132, none, .bin .xor (.t 125) (.t 131)⟩,
  ⟨some 16, none, .mov (.t 132)⟩]
def r103_21 : List O := [⟨some 133, none, .ixA 8 1 (.t 13) (.c (.i .i64 7))⟩,
  ⟨some 134, none, .ld (.t 133)⟩,
  ⟨some 135, none, .mov (.t 15)⟩,
  ⟨some 136, none, .bin .add (.t 134) (.t 135)⟩,
  ⟨some 137, none, .mov (.t 16)⟩,
  ⟨some 138, none, .bin .add (.t 136) (.t 137)⟩,
  ⟨some 139, none, .mov (.t 14)⟩,
  ⟨some 140, none, .ixA 64 1 (.t 5) (.t 139)⟩,
  ⟨some 141, none, .ld (.t 140)⟩,
  ⟨some 142, none, .bin .add (.t 138) (.t 141)⟩,
  ⟨some 143, none, .mov (.t 14)⟩,
  ⟨some 144, none, .ixA 64 1 (.t 6) (.t 143)⟩,
  ⟨some 145, none, .ld (.t 144)⟩,
  ⟨some 146, none, .bin .add (.t 142) (.t 145)⟩,
  ⟨some 17, none, .mov (.t 146)⟩]
def r103_22 : List O := [⟨some 147, none, .ixA 8 1 (.t 13) (.c (.i .i64 0))⟩,
  ⟨some 148, none, .ld (.t 147)⟩,
  ⟨some 149, none, .call (.f 165) [(.t 148), (.c (.i .u32 2))]⟩,
  ⟨some 150, none, .ixA 8 1 (.t 13) (.c (.i .i64 0))⟩,
  ⟨some 151, none, .ld (.t 150)⟩,
  ⟨some 152, none, .call (.f 165) [(.t 151), (.c (.i .u32 13))]⟩,
  ⟨some 153, none, .bin .xor (.t 149) (.t 152)⟩,
  ⟨some 154, none, .ixA 8 1 (.t 13) (.c (.i .i64 0))⟩,
  ⟨some 155, none, .ld (.t 154)⟩,
  ⟨some 156, none, .call (.f 165) [(.t 155), (.c (.i .u32 22))]⟩,
  ⟨some 157, none, .bin .xor (.t 153) (.t 156)⟩,
  ⟨some 18, none, .mov (.t 157)⟩]
def r103_23 : List O := [⟨some 158, none, .ixA 8 1 (.t 13) (.c (.i .i64 0))⟩,
  ⟨some 159, none, .ld (.t 158)⟩,
  ⟨some 160, none, .ixA 8 1 (.t 13) (.c (.i .i64 1))⟩,
  ⟨some 161, none, .ld (.t 160)⟩,
  ⟨some 162, none, .bin .and (.t 159) (.t 161)⟩,
  ⟨some 163, none, .ixA 8 1 (.t 13) (.c (.i .i64 0))⟩,
  ⟨some 164, none, .ld (.t 163)⟩,
  ⟨some 165, none, .ixA 8 1 (.t 13) (.c (.i .i64 2))⟩,
  ⟨some 166, none, .ld (.t 165)⟩,
  ⟨some 167, none, .bin .and (.t 164) (.t 166)⟩,
  ⟨some 168, none, .bin .xor (.t 162) (.t 167)⟩,
  ⟨some 169, none, .ixA 8 1 (.t 13) (.c (.i .i64 1))⟩,
  ⟨some 170, none, .ld (.t 169)⟩,
  ⟨some 171, none, .ixA 8 1 (.t 13) (.c (.i .i64 2))⟩,
  ⟨some 172, none, .ld (.t 171)⟩,
  ⟨some 173, none, .bin .and (.t 170) (.t 172)⟩,
  ⟨some 174, none, .bin .xor (.t 168) (.t 173)⟩,
  ⟨some 19, none, .mov (.t 174)⟩]
def r103_24 : List O := [⟨some 175, none, .mov (.t 18)⟩,
  ⟨some 176, none, .mov (.t 19)⟩,
  ⟨some 177, none, .bin .add (.t 175) (.t 176)⟩,
  ⟨some 20, none, .mov (.t 177)⟩]
def r103_25 : List O := [⟨some 178, none, .mov (.t 17)⟩,
  ⟨some 179, none, .mov (.t 20)⟩,
  ⟨some 180, none, .bin .add (.t 178) (.t 179)⟩,
  ⟨some 181, none, .ixA 8 1 (.t 13) (.c (.i .i64 0))⟩,
  ⟨some 182, none, .ld (.t 181)⟩,
  ⟨some 183, none, .ixA 8 1 (.t 13) (.c (.i .i64 1))⟩,
  ⟨some 184, none, .ld (.t 183)⟩,
  ⟨some 185, none, .ixA 8 1 (.t 13) (.c (.i .i64 2))⟩,
  ⟨some 186, none, .ld (.t 185)⟩,
  ⟨some 187, none, .ixA 8 1 (.t 13) (.c (.i .i64 3))⟩,
  ⟨some 188, none, .ld (.t 187)⟩,
  ⟨some 189, none, .mov (.t 17)⟩,
  ⟨some 190, none, .bin .add (.t 188) (.t 189)⟩,
  ⟨some 191, none, .ixA 8 1 (.t 13) (.c (.i .i64 4))⟩,
  ⟨some 192, none, .ld (.t 191)⟩,
  ⟨some 193, none, .ixA 8 1 (.t 13) (.c (.i .i64 5))⟩,
  ⟨some 194, none, .ld (.t 193)⟩,
  ⟨some 195, none, .ixA 8 1 (.t 13) (.c (.i .i64 6))⟩,
  ⟨some 196, none, .ld (.t 195)⟩,
  ⟨some 197, none, .build [.i .u32 0, .i .u32 0, .i .u32 0, .i .u32 0, .i .u32 0, .i .u32 0, .i .u32 0, .i .u32 0] [(0, 1, (.t 180)), (1, 1, (.t 182)), (2, 1, (.t 184)), (3, 1, (.t 186)), (4, 1, (.t 190)), (5, 1, (.t 192)), (6, 1, (.t 194)), (7, 1, (.t 196))]⟩,
  ⟨none, none, .st 8 (.t 13) (.t 197)⟩]
def r103_18 : List O := [⟨some 108, none, .mov (.t 14)⟩,
  ⟨some 109, none, .bin .add (.t 108) (.c (.i .i64 1))⟩,
  ⟨some 14, none, .mov (.t 109)⟩]
def b103_2 : C := .seq (.seq (.ops r103_17) (.cond (.t 107) (.skip) (.exit 4))) (.seq (.block 5 (.seq (.draw r103_19 [(2, 4), (2, 8), (5, 8)]) (.seq (.ops r103_20) (.seq (.draw r103_21 []) (.seq (.draw r103_22 [(2, 4), (2, 8), (5, 8)]) (.seq (.ops r103_23) (.seq (.ops r103_24) (.ops r103_25)))))))) (.ops r103_18))
def r103_26 : List O := [⟨some 21, none, .mov (.c (.i .i64 0))⟩]
def r103_27 : List O := [⟨some 198, none, .mov (.t 21)⟩,
  ⟨some 199, none, .bin .lss (.t 198) (.c (.i .i64 8))⟩]
def r103_29 : List O := [⟨some 202, none, .mov (.t 21)⟩,
  ⟨some 203, none, .mov (.t 21)⟩,
  ⟨some 204, none, .ixA 8 1 (.t 2) (.t 203)⟩,
  ⟨some 205, none, .ld (.t 204)⟩,
  ⟨some 206, none, .mov (.t 21)⟩,
  ⟨some 207, none, .ixA 8 1 (.t 13) (.t 206)⟩,
  ⟨some 208, none, .ld (.t 207)⟩,
  ⟨some 209, none, .bin .add (.t 205) (.t 208)⟩,
  ⟨some 210, none, .ixA 8 1 (.t 2) (.t 202)⟩,
  ⟨none, none, .st 1 (.t 210) (.t 209)⟩]
def r103_28 : List O := [⟨some 200, none, .mov (.t 21)⟩,
  ⟨some 201, none, .bin .add (.t 200) (.c (.i .i64 1))⟩,
  ⟨some 21, none, .mov (.t 201)⟩]
def b103_3 : C := .seq (.seq (.ops r103_27) (.cond (.t 199) (.skip) (.exit 6))) (.seq (.block 7 (.draw r103_29 [])) (.ops r103_28))
def r103_30 : List O := [⟨some 211, none, .ldn 8 (.t 2)⟩,
  ⟨none, none, .st 8 (.t 4) (.t 211)⟩]
def a103 : FI := ⟨212, [.cell 4 (some 8)], .seq (.ops r103_0) (.seq (.ops r103_1) (.seq (.ops r103_2) (.seq (.seq (.ops r103_3) (.block 0 (.loop b103_0))) (.seq (.seq (.ops r103_7) (.block 2 (.loop b103_1))) (.seq (.ops r103_15) (.seq (.seq (.ops r103_16) (.block 4 (.loop b103_2))) (.seq (.seq (.ops r103_26) (.block 6 (.loop b103_3))) (.seq (.ops r103_30) (.ret))))))))), none, none⟩
def r104_0 : List O := [⟨some 4, none, .mov (.c (.s []))⟩,
  ⟨some 5, none, .mov (.c (.s []))⟩,
  ⟨some 6, none, .mov (.c (.b false))⟩]
def r104_1 : List O := [⟨some 8, none, .mov (.t 0)⟩,
  ⟨some 9, none, .mov (.t 1)⟩,
  ⟨some 10, none, .call (.f 166) [(.t 8), (.t 9)]⟩,
  ⟨some 7, none, .mov (.t 10)⟩]
def r104_2 : List O := [⟨some 11, none, .mov (.t 7)⟩,
  ⟨some 12, none, .bin .geq (.t 11) (.c (.i .i64 0))⟩]
def r104_3 : List O := [⟨some 13, none, .mov (.t 0)⟩,
  ⟨some 14, none, .mov (.t 7)⟩,
  ⟨some 15, none, .slcS (.t 13) none (some (.t 14))⟩,
  ⟨some 16, none, .mov (.t 0)⟩,
  ⟨some 17, none, .mov (.t 7)⟩,
  ⟨some 18, none, .mov (.t 1)⟩,
  ⟨some 19, none, .lenS (.t 18)⟩,
  ⟨some 20, none, .bin .add (.t 17) (.t 19)⟩,
  ⟨some 21, none, .slcS (.t 16) (some (.t 20)) none⟩,
  ⟨some 4, none, .mov (.t 15)⟩,
  ⟨some 5, none, .mov (.t 21)⟩,
  ⟨some 6, none, .mov (.c (.b true))⟩]
def r104_4 : List O := [⟨some 22, none, .mov (.t 0)⟩,
  ⟨some 4, none, .mov (.t 22)⟩,
  ⟨some 5, none, .mov (.c (.s []))⟩,
  ⟨some 6, none, .mov (.c (.b false))⟩]
def a104 : FI := ⟨23, [.tmp 4, .tmp 5, .tmp 6], .seq (.ops r104_0) (.seq (.seq (.ops r104_1) (.seq (.ops r104_2) (.cond (.t 12) (.seq (.draw r104_3 []) (.ret)) (.skip)))) (.seq (.ops r104_4) (.ret))), none, none⟩
def r105_0 : List O := [⟨some 8, none, .mov (.c (.sn))⟩]
def r105_1 : List O := [⟨some 12, none, .mov (.t 3)⟩,
  ⟨some 13, none, .bin .eql (.t 12) (.c (.i .i64 0))⟩]
def r105_2 : List O := [⟨some 8, none, .mov (.c (.sn))⟩]
def r105_3 : List O := [⟨some 14, none, .mov (.t 1)⟩,
  ⟨some 15, none, .bin .eql (.t 14) (.c (.s []))⟩]
def r105_4 : List O := [⟨some 16, none, .mov (.t 0)⟩,
  ⟨some 17, none, .mov (.t 3)⟩,
  ⟨some 18, none, .call (.f 167) [(.t 16), (.t 17)]⟩,
  ⟨some 8, none, .mov (.t 18)⟩]
def r105_5 : List O := [⟨some 19, none, .mov (.t 3)⟩,
  ⟨some 20, none, .bin .lss (.t 19) (.c (.i .i64 0))⟩]
def r105_6 : List O := [⟨some 21, none, .mov (.t 0)⟩,
  ⟨some 22, none, .mov (.t 1)⟩,
  ⟨some 23, none, .call (.f 168) [(.t 21), (.t 22)]⟩,
  ⟨some 24, none, .bin .add (.t 23) (.c (.i .i64 1))⟩,
  ⟨some 3, none, .mov (.t 24)⟩]
def r105_7 : List O := [⟨some 25, none, .mov (.t 3)⟩,
  ⟨some 26, none, .mov (.t 0)⟩,
  ⟨some 27, none, .lenS (.t 26)⟩,
  ⟨some 28, none, .bin .add (.t 27) (.c (.i .i64 1))⟩,
  ⟨some 29, none, .min [(.t 25), (.t 28)]⟩,
  ⟨some 3, none, .mov (.t 29)⟩]
def r105_8 : List O := [⟨some 30, none, .mov (.t 3)⟩,
  ⟨some 31, none, .mkSl [.s []] 16 (.t 30) (.t 30)⟩,
  ⟨some 9, none, .mov (.t 31)⟩]
def r105_9 : List O := [⟨some 32, none, .mov (.t 3)⟩,
  ⟨some 33, none, .bin .sub (.t 32) (.c (.i .i64 1))⟩,
  ⟨some 3, none, .mov (.t 33)⟩]
def r105_10 : List O := [⟨some 10, none, .mov (.c (.i .i64 0))⟩]
def r105_11 : List O := [⟨some 34, none, .mov (.t 10)⟩,
  ⟨some 35, none, .mov (.t 3)⟩,
  ⟨some 36, none, .bin .lss (.t 34) (.t 35)⟩]
def r105_12 : List O := [⟨some 37, none, .mov (.t 0)⟩,
  ⟨some 38, none, .mov (.t 1)⟩,
  ⟨some 39, none, .call (.f 169) [(.t 37), (.t 38)]⟩,
  ⟨some 11, none, .mov (.t 39)⟩]
def r105_13 : List O := [⟨some 40, none, .mov (.t 11)⟩,
  ⟨some 41, none, .bin .lss (.t 40) (.c (.i .i64 0))⟩]
def r105_14 : List O := [⟨some 42, none, .mov (.t 9)⟩,
  ⟨some 43, none, .mov (.t 10)⟩,
  ⟨some 44, none, .mov (.t 0)⟩,
  ⟨some 45, none, .mov (.t 11)⟩,
  ⟨some 46, none, .mov (.t 2)⟩,
  ⟨some 47, none, .bin .add (.t 45) (.t 46)⟩,
  ⟨some 48, none, .slcS (.t 44) none (some (.t 47))⟩,
  ⟨some 49, none, .ixS 1 (.t 42) (.t 43)⟩,
  ⟨none, none, .st 1 (.t 49) (.t 48)⟩]
def r105_15 : List O := [⟨some 50, none, .mov (.t 0)⟩,
  ⟨some 51, none, .mov (.t 11)⟩,
  ⟨some 52, none, .mov (.t 1)⟩,
  ⟨some 53, none, .lenS (.t 52)⟩,
  ⟨some 54, none, .bin .add (.t 51) (.t 53)⟩,
  ⟨some 55, none, .slcS (.t 50) (some (.t 54)) none⟩,
  ⟨some 0, none, .mov (.t 55)⟩]
def r105_16 : List O := [⟨some 56, none, .mov (.t 10)⟩,
  ⟨some 57, none, .bin .add (.t 56) (.c (.i .i64 1))⟩,
  ⟨some 10, none, .mov (.t 57)⟩]
def b105_0 : C := .seq (.seq (.ops r105_11) (.cond (.t 36) (.skip) (.exit 0))) (.block 1 (.seq (.ops r105_12) (.seq (.seq (.ops r105_13) (.cond (.t 41) (.exit 0) (.skip))) (.seq (.ops r105_14) (.seq (.ops r105_15) (.ops r105_16))))))
def r105_17 : List O := [⟨some 58, none, .mov (.t 9)⟩,
  ⟨some 59, none, .mov (.t 10)⟩,
  ⟨some 60, none, .mov (.t 0)⟩,
  ⟨some 61, none, .ixS 1 (.t 58) (.t 59)⟩,
  ⟨none, none, .st 1 (.t 61) (.t 60)⟩]
def r105_18 : List O := [⟨some 62, none, .mov (.t 9)⟩,
  ⟨some 63, none, .mov (.t 10)⟩,
  ⟨some 64, none, .bin .add (.t 63) (.c (.i .i64 1))⟩,
  ⟨some 65, none, .slc 1 (.t 62) none (some (.t 64)) none⟩,
  ⟨some 8, none, .mov (.t 65)⟩]
def a105 : FI := ⟨66, [.tmp 8], .seq (.ops r105_0) (.seq (.seq (.ops r105_1) (.cond (.t 13) (.seq (.ops r105_2) (.ret)) (.skip))) (.seq (.seq (.ops r105_3) (.cond (.t 15) (.seq (.ops r105_4) (.ret)) (.skip))) (.seq (.seq (.ops r105_5) (.cond (.t 20) (.ops r105_6) (.skip))) (.seq (.ops r105_7) (.seq (.ops r105_8) (.seq (.ops r105_9) (.seq (.ops r105_10) (.seq (.block 0 (.loop b105_0)) (.seq (.ops r105_17) (.seq (.ops r105_18) (.ret))))))))))), none, none⟩
def a116 : FI := primFI 2 5
def r164_0 : List O := [⟨some 0, none, .alloc (List.replicate 64 (.i .u32 0))⟩]
def r164_1 : List O := [⟨some 1, none, .build (List.replicate 64 (.i .u32 0)) [(0, 1, (.c (.i .u32 1116352408))), (1, 1, (.c (.i .u32 1899447441))), (2, 1, (.c (.i .u32 3049323471))), (3, 1, (.c (.i .u32 3921009573))), (4, 1, (.c (.i .u32 961987163))), (5, 1, (.c (.i .u32 1508970993))), (6, 1, (.c (.i .u32 2453635748))), (7, 1, (.c (.i .u32 2870763221))), (8, 1, (.c (.i .u32 3624381080))), (9, 1, (.c (.i .u32 310598401))), (10, 1, (.c (.i .u32 607225278))), (11, 1, (.c (.i .u32 1426881987))), (12, 1, (.c (.i .u32 1925078388))), (13, 1, (.c (.i .u32 2162078206))), (14, 1, (.c (.i .u32 2614888103))), (15, 1, (.c (.i .u32 3248222580))), (16, 1, (.c (.i .u32 3835390401))), (17, 1, (.c (.i .u32 4022224774))), (18, 1, (.c (.i .u32 264347078))), (19, 1, (.c (.i .u32 604807628))), (20, 1, (.c (.i .u32 770255983))), (21, 1, (.c (.i .u32 1249150122))), (22, 1, (.c (.i .u32 1555081692))), (23, 1, (.c (.i .u32 1996064986))), (24, 1, (.c (.i .u32 2554220882))), (25, 1, (.c (.i .u32 2821834349))), (26, 1, (.c (.i .u32 2952996808))), (27, 1, (.c (.i .u32 3210313671))), (28, 1, (.c (.i .u32 3336571891))), (29, 1, (.c (.i .u32 3584528711))), (30, 1, (.c (.i .u32 113926993))), (31, 1, (.c (.i .u32 338241895))), (32, 1, (.c (.i .u32 666307205))), (33, 1, (.c (.i .u32 773529912))), (34, 1, (.c (.i .u32 1294757372))), (35, 1, (.c (.i .u32 1396182291))), (36, 1, (.c (.i .u32 1695183700))), (37, 1, (.c (.i .u32 1986661051))), (38, 1, (.c (.i .u32 2177026350))), (39, 1, (.c (.i .u32 2456956037))), (40, 1, (.c (.i .u32 2730485921))), (41, 1, (.c (.i .u32 2820302411))), (42, 1, (.c (.i .u32 3259730800))), (43, 1, (.c (.i .u32 3345764771))), (44, 1, (.c (.i .u32 3516065817))), (45, 1, (.c (.i .u32 3600352804))), (46, 1, (.c (.i .u32 4094571909))), (47, 1, (.c (.i .u32 275423344))), (48, 1, (.c (.i .u32 430227734))), (49, 1, (.c (.i .u32 506948616))), (50, 1, (.c (.i .u32 659060556))), (51, 1, (.c (.i .u32 883997877))), (52, 1, (.c (.i .u32 958139571))), (53, 1, (.c (.i .u32 1322822218))), (54, 1, (.c (.i .u32 1537002063))), (55, 1, (.c (.i .u32 1747873779))), (56, 1, (.c (.i .u32 1955562222))), (57, 1, (.c (.i .u32 2024104815))), (58, 1, (.c (.i .u32 2227730452))), (59, 1, (.c (.i .u32 2361852424))), (60, 1, (.c (.i .u32 2428436474))), (61, 1, (.c (.i .u32 2756734187))), (62, 1, (.c (.i .u32 3204031479))), (63, 1, (.c (.i .u32 3329325298)))]⟩,
  ⟨none, none, .st 64 (.t 0) (.t 1)⟩]
def a164 : FI := ⟨2, [.cell 0 (some 64)], .seq (.ops r164_0) (.seq (.ops r164_1) (.ret)), none, none⟩
def r165_0 : List O := [⟨some 4, none, .mov (.c (.i .u32 0))⟩]
def r165_1 : List O := [⟨some 5, none, .mov (.t 0)⟩,
  ⟨some 6, none, .mov (.t 1)⟩,
  ⟨some 7, none, .bin .shr (.t 5) (.t 6)⟩,
  ⟨some 8, none, .mov (.t 0)⟩,
  ⟨some 9, none, .mov (.t 1)⟩,
  ⟨some 10, none, .bin .sub (.c (.i .u32 32)) (.t 9)⟩,
  ⟨some 11, none, .bin .shl (.t 8) (.t 10)⟩,
  ⟨some 12, none, .bin .or (.t 7) (.t 11)⟩,
  ⟨some 4, none, .mov (.t 12)⟩]
def a165 : FI := ⟨13, [.tmp 4], .seq (.ops r165_0) (.seq (.ops r165_1) (.ret)), none, none⟩
def r166_0 : List O := [⟨some 4, none, .mov (.c (.i .i64 0))⟩]
def r166_1 : List O := [⟨some 14, none, .mov (.t 1)⟩,
  ⟨some 15, none, .lenS (.t 14)⟩,
  ⟨some 5, none, .mov (.t 15)⟩]
def r166_2 : List O := [⟨some 17, none, .mov (.t 5)⟩,
  ⟨some 18, none, .bin .eql (.t 17) (.c (.i .i64 0))⟩,
  ⟨some 19, none, .mov (.t 18)⟩,
  ⟨some 20, some (19, false), .mov (.t 1)⟩,
  ⟨some 21, some (19, false), .mov (.t 0)⟩,
  ⟨some 22, some (19, false), .bin .eql (.t 20) (.t 21)⟩,
  ⟨some 23, none, .pick (.t 19) (.c (.b true)) (.t 22)⟩,
  ⟨some 16, none, .mov (.t 23)⟩]
def r166_3 : List O := [⟨some 4, none, .mov (.c (.i .i64 0))⟩]
def r166_4 : List O := [⟨some 25, none, .mov (.t 5)⟩,
  ⟨some 26, none, .bin .eql (.t 25) (.c (.i .i64 1))⟩,
  ⟨some 24, none, .mov (.t 26)⟩]
def r166_5 : List O := [⟨some 27, none, .mov (.t 0)⟩,
  ⟨some 28, none, .mov (.t 1)⟩,
  ⟨some 29, none, .ixStr (.t 28) (.c (.i .i64 0))⟩,
  ⟨some 30, none, .call (.f 76) [(.t 27), (.t 29)]⟩,
  ⟨some 4, none, .mov (.t 30)⟩]
def r166_6 : List O := [⟨some 32, none, .mov (.t 5)⟩,
  ⟨some 33, none, .mov (.t 0)⟩,
  ⟨some 34, none, .lenS (.t 33)⟩,
  ⟨some 35, none, .bin .geq (.t 32) (.t 34)⟩,
  ⟨some 31, none, .mov (.t 35)⟩]
def r166_7 : List O := [⟨some 4, none, .mov (.c (.i .i64 (-1)))⟩]
def r166_8 : List O := [⟨some 37, none, .mov (.t 5)⟩,
  ⟨some 38, none, .no⟩,
  ⟨some 39, none, .bin .leq (.t 37) (.t 38)⟩,
  ⟨some 40, none, .mov (.t 39)⟩,
  ⟨some 41, some (40, true), .mov (.t 0)⟩,
  ⟨some 42, some (40, true), .lenS (.t 41)⟩,
  ⟨some 43, some (40, true), .bin .leq (.t 42) (.c (.i .i64 64))⟩,
  ⟨some 44, none, .pick (.t 40) (.t 43) (.c (.b false))⟩,
  ⟨some 36, none, .mov (.t 44)⟩]
def r166_9 : List O := [⟨some 45, none, .mov (.t 0)⟩,
  ⟨some 46, none, .mov (.t 1)⟩,
  ⟨some 47, none, .call (.f 230) [(.t 45), (.t 46)]⟩,
  ⟨some 4, none, .mov (.t 47)⟩]
def r166_10 : List O := [⟨some 48, none, .mov (.t 1)⟩,
  ⟨some 49, none, .ixStr (.t 48) (.c (.i .i64 0))⟩,
  ⟨some 6, none, .mov (.t 49)⟩]
def r166_11 : List O := [⟨some 50, none, .mov (.t 1)⟩,
  ⟨some 51, none, .ixStr (.t 50) (.c (.i .i64 1))⟩,
  ⟨some 7, none, .mov (.t 51)⟩]
def r166_12 : List O := [⟨some 8, none, .mov (.c (.i .i64 0))⟩]
def r166_13 : List O := [⟨some 52, none, .mov (.t 0)⟩,
  ⟨some 53, none, .lenS (.t 52)⟩,
  ⟨some 54, none, .mov (.t 5)⟩,
  ⟨some 55, none, .bin .sub (.t 53) (.t 54)⟩,
  ⟨some 56, none, .bin .add (.t 55) (.c (.i .i64 1))⟩,
  ⟨some 9, none, .mov (.t 56)⟩]
def r166_14 : List O := [⟨some 10, none, .mov (.c (.i .i64 0))⟩]
def r166_15 : List O := [⟨some 57, none, .mov (.t 8)⟩,
  ⟨some 58, none, .mov (.t 9)⟩,
  ⟨some 59, none, .bin .lss (.t 57) (.t 58)⟩]
def r166_16 : List O := [⟨some 60, none, .mov (.t 0)⟩,
  ⟨some 61, none, .mov (.t 8)⟩,
  ⟨some 62, none, .ixStr (.t 60) (.t 61)⟩,
  ⟨some 63, none, .mov (.t 6)⟩,
  ⟨some 64, none, .bin .neq (.t 62) (.t 63)⟩]
def r166_17 : List O := [⟨some 65, none, .mov (.t 0)⟩,
  ⟨some 66, none, .mov (.t 8)⟩,
  ⟨some 67, none, .bin .add (.t 66) (.c (.i .i64 1))⟩,
  ⟨some 68, none, .mov (.t 9)⟩,
  ⟨some 69, none, .slcS (.t 65) (some (.t 67)) (some (.t 68))⟩,
  ⟨some 70, none, .mov (.t 6)⟩,
  ⟨some 71, none, .call (.f 76) [(.t 69), (.t 70)]⟩,
  ⟨some 11, none, .mov (.t 71)⟩]
def r166_18 : List O := [⟨some 72, none, .mov (.t 11)⟩,
  ⟨some 73, none, .bin .lss (.t 72) (.c (.i .i64 0))⟩]
def r166_19 : List O := [⟨some 4, none, .mov (.c (.i .i64 (-1)))⟩]
def r166_20 : List O := [⟨some 74, none, .mov (.t 8)⟩,
  ⟨some 75, none, .mov (.t 11)⟩,
  ⟨some 76, none, .bin .add (.t 75) (.c (.i .i64 1))⟩,
  ⟨some 77, none, .bin .add (.t 74) (.t 76)⟩,
  ⟨some 8, none, .mov (.t 77)⟩]
def r166_21 : List O := [⟨some 78, none, .mov (.t 0)⟩,
  ⟨some 79, none, .mov (.t 8)⟩,
  ⟨some 80, none, .bin .add (.t 79) (.c (.i .i64 1))⟩,
  ⟨some 81, none, .ixStr (.t 78) (.t 80)⟩,
  ⟨some 82, none, .mov (.t 7)⟩,
  ⟨some 83, none, .bin .eql (.t 81) (.t 82)⟩,
  ⟨some 84, none, .mov (.t 83)⟩,
  ⟨some 85, some (84, true), .mov (.t 0)⟩,
  ⟨some 86, some (84, true), .mov (.t 8)⟩,
  ⟨some 87, some (84, true), .mov (.t 8)⟩,
  ⟨some 88, some (84, true), .mov (.t 5)⟩,
  ⟨some 89, some (84, true), .bin .add (.t 87) (.t 88)⟩,
  ⟨some 90, some (84, true), .slcS (.t 85) (some (.t 86)) (some (.t 89))⟩,
  ⟨some 91, some (84, true), .mov (.t 1)⟩,
  ⟨some 92, some (84, true), .bin .eql (.t 90) (.t 91)⟩,
  ⟨some 93, none, .pick (.t 84) (.t 92) (.c (.b false))⟩]
def r166_22 : List O := [⟨some 94, none, .mov (.t 8)⟩,
  ⟨some 4, none, .mov (.t 94)⟩]
def r166_23 : List O := [⟨some 95, none, .mov (.t 8)⟩,
  ⟨some 96, none, .bin .add (.t 95) (.c (.i .i64 1))⟩,
  ⟨some 8, none, .mov (.t 96)⟩]
def r166_24 : List O := [⟨some 97, none, .mov (.t 10)⟩,
  ⟨some 98, none, .bin .add (.t 97) (.c (.i .i64 1))⟩,
  ⟨some 10, none, .mov (.t 98)⟩]
def r166_25 : List O := [⟨some 99, none, .mov (.t 5)⟩,
  ⟨some 100, none, .no⟩,
  ⟨some 101, none, .bin .leq (.t 99) (.t 100)⟩,
  ⟨some 102, none, .mov (.t 101)⟩,
  ⟨some 103, some (102, true), .mov (.t 10)⟩,
  ⟨some 104, some (102, true), .mov (.t 8)⟩,
  ⟨some 105, some (102, true), .call (.f 231) [(.t 104)]⟩,
  ⟨some 106, some (102, true), .bin .gtr (.t 103) (.t 105)⟩,
  ⟨some 107, none, .pick (.t 102) (.t 106) (.c (.b false))⟩]
def r166_26 : List O := [⟨some 108, none, .mov (.t 0)⟩,
  ⟨some 109, none, .mov (.t 8)⟩,
  ⟨some 110, none, .slcS (.t 108) (some (.t 109)) none⟩,
  ⟨some 111, none, .mov (.t 1)⟩,
  ⟨some 112, none, .call (.f 230) [(.t 110), (.t 111)]⟩,
  ⟨some 12, none, .mov (.t 112)⟩]
def r166_27 : List O := [⟨some 113, none, .mov (.t 12)⟩,
  ⟨some 114, none, .bin .geq (.t 113) (.c (.i .i64 0))⟩]
def r166_28 : List O := [⟨some 115, none, .mov (.t 12)⟩,
  ⟨some 116, none, .mov (.t 8)⟩,
  ⟨some 117, none, .bin .add (.t 115) (.t 116)⟩,
  ⟨some 4, none, .mov (.t 117)⟩]
def r166_29 : List O := [⟨some 4, none, .mov (.c (.i .i64 (-1)))⟩]
def r166_30 : List O := [⟨some 118, none, .mov (.t 5)⟩,
  ⟨some 119, none, .no⟩,
  ⟨some 120, none, .bin .gtr (.t 118) (.t 119)⟩,
  ⟨some 121, none, .mov (.t 120)⟩,
  ⟨some 122, some (121, true), .mov (.t 10)⟩,
  ⟨some 123, some (121, true), .mov (.t 8)⟩,
  ⟨some 124, some (121, true), .bin .shr (.t 123) (.c (.i .u64 4))⟩,
  ⟨some 125, some (121, true), .bin .add (.c (.i .i64 4)) (.t 124)⟩,
  ⟨some 126, some (121, true), .bin .geq (.t 122) (.t 125)⟩,
  ⟨some 127, none, .pick (.t 121) (.t 126) (.c (.b false))⟩,
  ⟨some 128, none, .mov (.t 127)⟩,
  ⟨some 129, some (128, true), .mov (.t 8)⟩,
  ⟨some 130, some (128, true), .mov (.t 9)⟩,
  ⟨some 131, some (128, true), .bin .lss (.t 129) (.t 130)⟩,
  ⟨some 132, none, .pick (.t 128) (.t 131) (.c (.b false))⟩]
def r166_31 : List O := [⟨some 133, none, .mov (.t 0)⟩,
  ⟨some 134, none, .mov (.t 8)⟩,
  ⟨some 135, none, .slcS (.t 133) (some (.t 134)) none⟩,
  ⟨some 136, none, .mov (.t 1)⟩,
  ⟨some 137, none, .call (.f 232) [(.t 135), (.t 136)]⟩,
  ⟨some 13, none, .mov (.t 137)⟩]
def r166_32 : List O := [⟨some 138, none, .mov (.t 13)⟩,
  ⟨some 139, none, .bin .lss (.t 138) (.c (.i .i64 0))⟩]
def r166_33 : List O := [⟨some 4, none, .mov (.c (.i .i64 (-1)))⟩]
def r166_34 : List O := [⟨some 140, none, .mov (.t 8)⟩,
  ⟨some 141, none, .mov (.t 13)⟩,
  ⟨some 142, none, .bin .add (.t 140) (.t 141)⟩,
  ⟨some 4, none, .mov (.t 142)⟩]
def b166_0 : C := .seq (.seq (.ops r166_15) (.cond (.t 59) (.skip) (.exit 1))) (.block 2 (.seq (.seq (.ops r166_16) (.cond (.t 64) (.seq (.ops r166_17) (.seq (.seq (.ops r166_18) (.cond (.t 73) (.seq (.ops r166_19) (.ret)) (.skip))) (.ops r166_20))) (.skip))) (.seq (.seq (.ops r166_21) (.cond (.t 93) (.seq (.ops r166_22) (.ret)) (.skip))) (.seq (.ops r166_23) (.seq (.ops r166_24) (.seq (.ops r166_25) (.cond (.t 107) (.seq (.ops r166_26) (.seq (.seq (.ops r166_27) (.cond (.t 114) (.seq (.ops r166_28) (.ret)) (.skip))) (.seq (.ops r166_29) (.ret)))) (.seq (.ops r166_30) (.cond (.t 132) (.seq (.ops r166_31) (.seq (.seq (.ops r166_32) (.cond (.t 139) (.seq (.ops r166_33) (.ret)) (.skip))) (.seq (.ops r166_34) (.ret)))) (.skip))))))))))
def r166_35 : List O := [⟨some 4, none, .mov (.c (.i .i64 (-1)))⟩]
def a166 : FI := ⟨143, [.tmp 4], .seq (.ops r166_0) (.seq (.ops r166_1) (.seq (.block 0 (.seq (.ops r166_2) (.cond (.t 16) (.seq (.ops r166_3) (.ret)) (.seq (.ops r166_4) (.cond (.t 24) (.seq (.ops r166_5) (.ret)) (.seq (.ops r166_6) (.cond (.t 31) (.seq (.ops r166_7) (.ret)) (.seq (.ops r166_8) (.cond (.t 36) (.seq (.ops r166_9) (.ret)) (.skip)))))))))) (.seq (.ops r166_10) (.seq (.ops r166_11) (.seq (.ops r166_12) (.seq (.ops r166_13) (.seq (.ops r166_14) (.seq (.block 1 (.loop b166_0)) (.seq (.ops r166_35) (.ret)))))))))), none, none⟩
def r168_0 : List O := [⟨some 4, none, .mov (.c (.i .i64 0))⟩]
def r168_1 : List O := [⟨some 7, none, .mov (.t 1)⟩,
  ⟨some 8, none, .lenS (.t 7)⟩,
  ⟨some 9, none, .bin .eql (.t 8) (.c (.i .i64 0))⟩]
def r168_2 : List O := [⟨some 10, none, .mov (.t 0)⟩,
  ⟨some 11, none, .call (.f 233) [(.t 10)]⟩,
  ⟨some 12, none, .bin .add (.t 11) (.c (.i .i64 1))⟩,
  ⟨some 4, none, .mov (.t 12)⟩]
def r168_3 : List O := [⟨some 13, none, .mov (.t 1)⟩,
  ⟨some 14, none, .lenS (.t 13)⟩,
  ⟨some 15, none, .bin .eql (.t 14) (.c (.i .i64 1))⟩]
def r168_4 : List O := [⟨some 16, none, .mov (.t 0)⟩,
  ⟨some 17, none, .mov (.t 1)⟩,
  ⟨some 18, none, .ixStr (.t 17) (.c (.i .i64 0))⟩,
  ⟨some 19, none, .call (.f 234) [(.t 16), (.t 18)]⟩,
  ⟨some 4, none, .mov (.t 19)⟩]
def r168_5 : List O := [⟨some 5, none, .mov (.c (.i .i64 0))⟩]
def r168_6 : List O := [⟨some 20, none, .mov (.t 0)⟩,
  ⟨some 21, none, .mov (.t 1)⟩,
  ⟨some 22, none, .call (.f 169) [(.t 20), (.t 21)]⟩,
  ⟨some 6, none, .mov (.t 22)⟩]
def r168_7 : List O := [⟨some 23, none, .mov (.t 6)⟩,
  ⟨some 24, none, .bin .eql (.t 23) (.c (.i .i64 (-1)))⟩]
def r168_8 : List O := [⟨some 25, none, .mov (.t 5)⟩,
  ⟨some 4, none, .mov (.t 25)⟩]
def r168_9 : List O := [⟨some 26, none, .mov (.t 5)⟩,
  ⟨some 27, none, .bin .add (.t 26) (.c (.i .i64 1))⟩,
  ⟨some 5, none, .mov (.t 27)⟩]
def r168_10 : List O := [⟨some 28, none, .mov (.t 0)⟩,
  ⟨some 29, none, .mov (.t 6)⟩,
  ⟨some 30, none, .mov (.t 1)⟩,
  ⟨some 31, none, .lenS (.t 30)⟩,
  ⟨some 32, none, .bin .add (.t 29) (.t 31)⟩,
  ⟨some 33, none, .slcS (.t 28) (some (.t 32)) none⟩,
  ⟨some 0, none, .mov (.t 33)⟩]
def b168_0 : C := .block 1 (.seq (.ops r168_6) (.seq (.seq (.ops r168_7) (.cond (.t 24) (.seq (.ops r168_8) (.ret)) (.skip))) (.seq (.ops r168_9) (.ops r168_10))))
def a168 : FI := ⟨34, [.tmp 4], .seq (.ops r168_0) (.seq (.seq (.ops r168_1) (.cond (.t 9) (.seq (.ops r168_2) (.ret)) (.skip))) (.seq (.seq (.ops r168_3) (.cond (.t 15) (.seq (.ops r168_4) (.ret)) (.skip))) (.seq (.ops r168_5) (.block 0 (.loop b168_0))))), none, none⟩
def r169_0 : List O := [⟨some 4, none, .mov (.c (.i .i64 0))⟩]
def r169_1 : List O := [⟨some 5, none, .mov (.t 0)⟩,
  ⟨some 6, none, .mov (.t 1)⟩,
  ⟨some 7, none, .call (.f 166) [(.t 5), (.t 6)]⟩,
  ⟨some 4, none, .mov (.t 7)⟩]
def a169 : FI := ⟨8, [.tmp 4], .seq (.ops r169_0) (.seq (.ops r169_1) (.ret)), none, none⟩
def a234 : FI := primFI 2 6
end Go.Air.Try
set_option maxRecDepth 100000
namespace Go.Air.Try
def tree : T FI := .n (.n (.n (.n (.n (.n (.n .e (some a63) .e) (some a31) .e) (some a15) (.n .e (some a47) .e)) (some a7) (.n (.n (.n (.n .e none .e) none .e) (some a39) (.n .e (some a103) .e)) (some a23) .e)) (some a3) (.n (.n (.n .e (some a35) (.n .e (some a99) .e)) (some a19) (.n .e (some a51) .e)) (some a11) (.n (.n .e (some a43) .e) (some a27) (.n .e (some a59) .e)))) none (.n (.n (.n (.n .e (some a33) .e) (some a17) (.n .e (some a49) .e)) (some a9) (.n (.n .e (some a41) (.n (.n .e (some a169) .e) (some a105) .e)) (some a25) .e)) (some a5) (.n (.n (.n (.n .e (some a69) .e) (some a37) (.n (.n .e (some a165) .e) none .e)) (some a21) (.n (.n .e none .e) none .e)) (some a13) (.n (.n .e (some a45) .e) (some a29) (.n .e (some a61) .e))))) none (.n (.n (.n (.n (.n .e (some a32) .e) (some a16) (.n .e (some a48) .e)) (some a8) (.n (.n (.n (.n .e none .e) none .e) (some a40) (.n (.n .e (some a168) .e) (some a104) .e)) (some a24) .e)) (some a4) (.n (.n (.n (.n .e (some a68) .e) (some a36) (.n (.n .e (some a164) .e) none .e)) (some a20) (.n .e (some a52) (.n .e (some a116) .e))) (some a12) (.n (.n (.n .e (some a76) .e) (some a44) .e) (some a28) (.n .e (some a60) .e)))) none (.n (.n (.n (.n .e (some a34) (.n .e (some a98) .e)) (some a18) (.n .e (some a50) .e)) (some a10) (.n (.n .e (some a42) (.n .e none (.n .e (some a234) .e))) (some a26) .e)) (some a6) (.n (.n (.n (.n .e (some a70) (.n .e none .e)) (some a38) (.n (.n .e (some a166) .e) none .e)) (some a22) .e) (some a14) (.n (.n .e (some a46) .e) (some a30) (.n .e (some a62) .e)))))
def exts : List Nat := [116, 234]
def prims : List Nat := [37, 38, 43, 44, 116, 234]
def ext (k : Nat) : Bool := exts.any (Nat.beq k)
end Go.Air.Try
namespace Go.Air
abbrev Emb := Nat → Option (Nat × Nat)
def Emb.le (R R' : Emb) : Prop := ∀ b x, R b = some x → R' b = some x
theorem Emb.le_refl (R : Emb) : R.le R := fun _ _ h => h
theorem Emb.le_trans {R R' R'' : Emb} (h : R.le R') (h' : R'.le R'') : R.le R'' := fun b x hx => h' b x (h b x hx)
def byteArr (l : List Nat) : ByteArray := ⟨(l.map UInt8.ofNat).toArray⟩
mutual
def conc (R : Emb) : V → Option Value
  | .b x => some (.bool x)
  | .i k n => some (.int k n)
  | .s x => if x.all (Nat.blt · 256) then some (.string (byteArr x)) else none
  | .pn => some (.pointer none)
  | .p b o => (R b).map fun c => .pointer (some ⟨c.1, o, none⟩)
  | .sn => some (.slice none 0 0)
  | .sl b o l c none => (R b).map fun x => .slice (some ⟨x.1, o, none⟩) l c
  | .sl b o l c (some e) => (R b).bind fun x => if o + c * e ≤ x.2 ∧ 0 < e then some (.slice (some ⟨x.1, o, none⟩) l ((x.2 - o) / e)) else none
  | .se a => some (.slice (some a) 0 0)
  | .mn => some (.map none)
  | .m b => (R b).map fun c => .map (some c.1)
  | .fnil => some .nilFunc
  | .fn f a c => match concL R a, concL R c with
    | some a, some c => some (.func (.func f) a.toArray c.toArray)
    | _, _ => none
  | .yld l => (R l).map fun c => .func (.yield c.1) #[] #[]
  | .in0 => some .nilIface
  | .ifc t v => match conc R v with
    | some v => some (.iface t v)
    | none => none
  | .agg c => match concL R c with
    | some c => some (.agg c.toArray)
    | none => none
  | .tup c => match concL R c with
    | some c => some (.tuple c.toArray)
    | none => none
def concL (R : Emb) : List V → Option (List Value)
  | [] => some []
  | x :: l => match conc R x, concL R l with
    | some v, some vs => some (v :: vs)
    | _, _ => none
end
theorem concL_nil (R : Emb) : concL R [] = some [] := by simp [concL]
theorem concL_cons {R : Emb} {x : V} {l : List V} {vs : List Value} : concL R (x :: l) = some vs ↔ ∃ v w, conc R x = some v ∧ concL R l = some w ∧ vs = v :: w := by
  simp only [concL]
  cases conc R x <;> cases concL R l <;> simp [eq_comm]
mutual
theorem conc_mono {R R' : Emb} (h : R.le R') : ∀ (v : V) (x : Value), conc R v = some x → conc R' v = some x
  | .b _, x, hx => by simpa [conc] using hx
  | .i _ _, x, hx => by simpa [conc] using hx
  | .s _, x, hx => by simpa [conc] using hx
  | .pn, x, hx => by simpa [conc] using hx
  | .p b o, x, hx => by
    simp only [conc, Option.map_eq_some_iff] at hx ⊢
    obtain ⟨a, ha, hx⟩ := hx
    exact ⟨a, h _ _ ha, hx⟩
  | .sn, x, hx => by simpa [conc] using hx
  | .sl b o l c none, x, hx => by
    simp only [conc, Option.map_eq_some_iff] at hx ⊢
    obtain ⟨a, ha, hx⟩ := hx
    exact ⟨a, h _ _ ha, hx⟩
  | .sl b o l c (some e), x, hx => by
    simp only [conc, Option.bind_eq_some_iff] at hx ⊢
    obtain ⟨a, ha, hx⟩ := hx
    exact ⟨a, h _ _ ha, hx⟩
  | .se a, x, hx => by simpa [conc] using hx
  | .mn, x, hx => by simpa [conc] using hx
  | .m b, x, hx => by
    simp only [conc, Option.map_eq_some_iff] at hx ⊢
    obtain ⟨a, ha, hx⟩ := hx
    exact ⟨a, h _ _ ha, hx⟩
  | .fnil, x, hx => by simpa [conc] using hx
  | .fn f a c, x, hx => by
    simp only [conc] at hx ⊢
    cases ha : concL R a with
    | none => simp [ha] at hx
    | some va => cases hc : concL R c with
      | none => simp [ha, hc] at hx
      | some vc => rw [concL_mono h a va ha, concL_mono h c vc hc]; simpa [ha, hc] using hx
  | .yld b, x, hx => by
    simp only [conc, Option.map_eq_some_iff] at hx ⊢
    obtain ⟨a, ha, hx⟩ := hx
    exact ⟨a, h _ _ ha, hx⟩
  | .in0, x, hx => by simpa [conc] using hx
  | .ifc t v, x, hx => by
    simp only [conc] at hx ⊢
    cases hv : conc R v with
    | none => simp [hv] at hx
    | some y => rw [conc_mono h v y hv]; simpa [hv] using hx
  | .agg c, x, hx => by
    simp only [conc] at hx ⊢
    cases hc : concL R c with
    | none => simp [hc] at hx
    | some vc => rw [concL_mono h c vc hc]; simpa [hc] using hx
  | .tup c, x, hx => by
    simp only [conc] at hx ⊢
    cases hc : concL R c with
    | none => simp [hc] at hx
    | some vc => rw [concL_mono h c vc hc]; simpa [hc] using hx
theorem concL_mono {R R' : Emb} (h : R.le R') : ∀ (l : List V) (vs : List Value), concL R l = some vs → concL R' l = some vs
  | [], vs, hx => by simpa [concL] using hx
  | x :: l, vs, hx => by
    obtain ⟨v, w, hv, hw, rfl⟩ := concL_cons.1 hx
    exact concL_cons.2 ⟨v, w, conc_mono h x v hv, concL_mono h l w hw, rfl⟩
end
theorem concL_length {R : Emb} : ∀ {l : List V} {vs : List Value}, concL R l = some vs → vs.length = l.length
  | [], vs, h => by simp [concL] at h; simp [← h]
  | x :: l, vs, h => by
    obtain ⟨v, w, _, hw, rfl⟩ := concL_cons.1 h
    simp [concL_length hw]
theorem concL_append {R : Emb} : ∀ {a b : List V} {va vb : List Value}, concL R a = some va → concL R b = some vb → concL R (a ++ b) = some (va ++ vb)
  | [], b, va, vb, ha, hb => by simp [concL] at ha; subst ha; simpa using hb
  | x :: l, b, va, vb, ha, hb => by
    obtain ⟨v, w, hv, hw, rfl⟩ := concL_cons.1 ha
    exact concL_cons.2 ⟨v, w ++ vb, hv, concL_append hw hb, rfl⟩
theorem concL_take {R : Emb} : ∀ {l : List V} {vs : List Value} (n : Nat), concL R l = some vs → concL R (l.take n) = some (vs.take n)
  | [], vs, n, h => by simp [concL] at h; subst h; simp [concL]
  | x :: l, vs, 0, h => by simp [concL]
  | x :: l, vs, n + 1, h => by
    obtain ⟨v, w, hv, hw, rfl⟩ := concL_cons.1 h
    exact concL_cons.2 ⟨v, w.take n, hv, concL_take n hw, rfl⟩
theorem concL_drop {R : Emb} : ∀ {l : List V} {vs : List Value} (n : Nat), concL R l = some vs → concL R (l.drop n) = some (vs.drop n)
  | [], vs, n, h => by simp [concL] at h; subst h; simp [concL]
  | x :: l, vs, 0, h => by simpa using h
  | x :: l, vs, n + 1, h => by
    obtain ⟨v, w, hv, hw, rfl⟩ := concL_cons.1 h
    simpa using concL_drop n hw
theorem concL_get {R : Emb} : ∀ {l : List V} {vs : List Value} {n : Nat} {x : V}, concL R l = some vs → l[n]? = some x → ∃ v, vs[n]? = some v ∧ conc R x = some v
  | [], _, _, _, _, hx => by simp at hx
  | y :: l, vs, 0, x, h, hx => by
    obtain ⟨v, w, hv, hw, rfl⟩ := concL_cons.1 h
    simp at hx; subst hx
    exact ⟨v, rfl, hv⟩
  | y :: l, vs, n + 1, x, h, hx => by
    obtain ⟨v, w, hv, hw, rfl⟩ := concL_cons.1 h
    simpa using concL_get hw (by simpa using hx)
theorem concL_replicate {R : Emb} {x : V} {v : Value} (h : conc R x = some v) : ∀ n, concL R (List.replicate n x) = some (List.replicate n v)
  | 0 => by simp [concL]
  | n + 1 => by rw [List.replicate_succ, List.replicate_succ]; exact concL_cons.2 ⟨v, _, h, concL_replicate h n, rfl⟩
theorem concL_rep {R : Emb} {z : List V} {vz : List Value} (h : concL R z = some vz) : ∀ n, concL R (rep z n) = some ((List.replicate n vz).flatten)
  | 0 => by simp [rep, concL]
  | n + 1 => by rw [rep, List.replicate_succ, List.flatten_cons]; exact concL_append h (concL_rep h n)
theorem nth?_eq : ∀ (l : List V) (n : Nat), nth? l n = l[n]?
  | [], _ => by simp [nth?]
  | _ :: _, 0 => by simp [nth?]
  | _ :: l, n + 1 => by simp [nth?, nth?_eq l n]
theorem nth_eq : ∀ (l : List V) (n : Nat), nth l n = l.getD n .undef
  | [], _ => by simp [nth]
  | _ :: _, 0 => by simp [nth]
  | _ :: l, n + 1 => by simp [nth, nth_eq l n]
theorem upd_eq : ∀ (l : List V) (n : Nat) (v : V), upd l n v = l.set n v
  | [], _, _ => by simp [upd]
  | _ :: _, 0, _ => by simp [upd]
  | _ :: l, n + 1, v => by simp [upd, upd_eq l n v]
theorem cut_eq : ∀ {l : List V} {o n : Nat} {r : List V}, cut l o n = some r ↔ o + n ≤ l.length ∧ r = (l.drop o).take n
  | [], 0, 0, r => by simp [cut, eq_comm]
  | [], 0, n + 1, r => by simp [cut]
  | [], o + 1, n, r => by simp [cut]
  | x :: l, 0, 0, r => by simp [cut, eq_comm]
  | x :: l, 0, n + 1, r => by
    simp only [cut, Option.map_eq_some_iff]
    constructor
    · rintro ⟨a, ha, rfl⟩
      obtain ⟨h, rfl⟩ := cut_eq.1 ha
      simp at h ⊢
      omega
    · rintro ⟨h, rfl⟩
      exact ⟨l.take n, cut_eq.2 ⟨by simp at h ⊢; omega, by simp⟩, by simp⟩
  | x :: l, o + 1, n, r => by
    simp only [cut]
    rw [cut_eq]
    simp
    omega
theorem lay_eq : ∀ {l : List V} {o : Nat} {vs r : List V}, lay l o vs = some r ↔ o + vs.length ≤ l.length ∧ r = l.take o ++ vs ++ l.drop (o + vs.length)
  | l, 0, [], r => by cases l <;> simp [lay, eq_comm]
  | [], 0, v :: vs, r => by simp [lay]
  | [], o + 1, vs, r => by simp [lay]
  | x :: l, 0, v :: vs, r => by
    simp only [lay, Option.map_eq_some_iff]
    constructor
    · rintro ⟨a, ha, rfl⟩
      obtain ⟨h, rfl⟩ := lay_eq.1 ha
      simp at h ⊢
      omega
    · rintro ⟨h, rfl⟩
      refine ⟨vs ++ l.drop vs.length, lay_eq.2 ⟨by simp at h ⊢; omega, by simp⟩, by simp⟩
  | x :: l, o + 1, vs, r => by
    simp only [lay, Option.map_eq_some_iff]
    constructor
    · rintro ⟨a, ha, rfl⟩
      obtain ⟨h, rfl⟩ := lay_eq.1 ha
      refine ⟨by simp at h ⊢; omega, ?_⟩
      rw [show o + 1 + vs.length = (o + vs.length) + 1 by omega]
      simp
    · rintro ⟨h, rfl⟩
      refine ⟨l.take o ++ vs ++ l.drop (o + vs.length), lay_eq.2 ⟨by simp at h ⊢; omega, rfl⟩, ?_⟩
      rw [show o + 1 + vs.length = (o + vs.length) + 1 by omega]
      simp
theorem conc_undef (R : Emb) : conc R .undef = some undef := by simp [V.undef, conc, concL, undef]
theorem conc_nth {R : Emb} {t : List V} {vs : List Value} (h : concL R t = some vs) (n : Nat) : conc R (nth t n) = some (vs.getD n undef) := by
  rw [nth_eq]
  by_cases hn : n < t.length
  · obtain ⟨v, hv, hc⟩ := concL_get h (List.getElem?_eq_getElem hn)
    rw [List.getD_eq_getElem?_getD, List.getD_eq_getElem?_getD, hv, List.getElem?_eq_getElem hn]
    exact hc
  · have hl := concL_length h
    rw [List.getD_eq_getElem?_getD, List.getD_eq_getElem?_getD, List.getElem?_eq_none (by omega), List.getElem?_eq_none (by omega)]
    exact conc_undef R
theorem conc_upd {R : Emb} : ∀ {t : List V} {vs : List Value} {v : V} {x : Value} (n : Nat), concL R t = some vs → conc R v = some x → concL R (upd t n v) = some (vs.set n x)
  | [], vs, v, x, n, h, hv => by simp [concL] at h; subst h; simp [upd, concL]
  | y :: l, vs, v, x, 0, h, hv => by
    obtain ⟨_, w, _, hw, rfl⟩ := concL_cons.1 h
    exact concL_cons.2 ⟨x, w, hv, hw, rfl⟩
  | y :: l, vs, v, x, n + 1, h, hv => by
    obtain ⟨u, w, hu, hw, rfl⟩ := concL_cons.1 h
    exact concL_cons.2 ⟨u, _, hu, conc_upd n hw hv, rfl⟩
theorem conc_cells {R : Emb} {v : V} {x : Value} (h : conc R v = some x) : ∃ l, concL R v.cells = some l ∧ x.cells = l.toArray := by
  cases v with
  | agg c =>
    simp only [conc] at h
    cases hc : concL R c with
    | none => simp [hc] at h
    | some l => simp [hc] at h; exact ⟨l, hc, by simp [← h, Value.cells]⟩
  | sl b o l c g =>
    refine ⟨[x], concL_cons.2 ⟨x, [], h, concL_nil R, rfl⟩, ?_⟩
    cases g with
    | none => simp only [conc, Option.map_eq_some_iff] at h; obtain ⟨_, _, rfl⟩ := h; simp [Value.cells]
    | some e =>
      simp only [conc, Option.bind_eq_some_iff] at h
      obtain ⟨_, _, h⟩ := h
      split at h <;> simp at h
      simp [← h, Value.cells]
  | fn f a c =>
    refine ⟨[x], concL_cons.2 ⟨x, [], h, concL_nil R, rfl⟩, ?_⟩
    simp only [conc] at h
    cases ha : concL R a <;> cases hc : concL R c <;> simp [ha, hc] at h
    simp [← h, Value.cells]
  | ifc t w =>
    refine ⟨[x], concL_cons.2 ⟨x, [], h, concL_nil R, rfl⟩, ?_⟩
    simp only [conc] at h
    cases hw : conc R w <;> simp [hw] at h
    simp [← h, Value.cells]
  | tup c =>
    refine ⟨[x], concL_cons.2 ⟨x, [], h, concL_nil R, rfl⟩, ?_⟩
    simp only [conc] at h
    cases hw : concL R c <;> simp [hw] at h
    simp [← h, Value.cells]
  | s l =>
    refine ⟨[x], concL_cons.2 ⟨x, [], h, concL_nil R, rfl⟩, ?_⟩
    simp only [conc] at h
    split at h <;> simp at h
    simp [← h, Value.cells]
  | _ =>
    refine ⟨[x], concL_cons.2 ⟨x, [], h, concL_nil R, rfl⟩, ?_⟩
    first
      | (simp only [conc, Option.map_eq_some_iff] at h; obtain ⟨_, _, rfl⟩ := h; simp [Value.cells])
      | (simp only [conc, Option.some.injEq] at h; subst h; simp [Value.cells])
theorem conc_oneCell {R : Emb} {v : V} {x : Value} (h : conc R v = some x) (hv : v.oneCell = true) : x.oneCell' = true := by
  cases v with
  | agg c => simp [V.oneCell] at hv
  | tup c => simp [V.oneCell] at hv
  | sl b o l c g =>
    cases g with
    | none => simp only [conc, Option.map_eq_some_iff] at h; obtain ⟨_, _, rfl⟩ := h; simp [Value.oneCell']
    | some e =>
      simp only [conc, Option.bind_eq_some_iff] at h
      obtain ⟨_, _, h⟩ := h
      split at h <;> simp at h
      simp [← h, Value.oneCell']
  | fn f a c =>
    simp only [conc] at h
    cases ha : concL R a <;> cases hc : concL R c <;> simp [ha, hc] at h
    simp [← h, Value.oneCell']
  | ifc t w =>
    simp only [conc] at h
    cases hw : conc R w <;> simp [hw] at h
    simp [← h, Value.oneCell']
  | s l =>
    simp only [conc] at h
    split at h <;> simp at h
    simp [← h, Value.oneCell']
  | _ =>
    first
      | (simp only [conc, Option.map_eq_some_iff] at h; obtain ⟨_, _, rfl⟩ := h; simp [Value.oneCell'])
      | (simp only [conc, Option.some.injEq] at h; subst h; simp [Value.oneCell'])
end Go.Air
namespace Go.Air
mutual
def sameV : V → Value → Bool
  | .b x, .bool y => x == y
  | .i k n, .int k' m => decide (k = k') && decide (n = m)
  | .s x, .string y => x.all (Nat.blt · 256) && decide (y.data.toList = x.map UInt8.ofNat)
  | .pn, .pointer none => true
  | .sn, .slice none 0 0 => true
  | .mn, .map none => true
  | .fnil, .nilFunc => true
  | .in0, .nilIface => true
  | .agg c, .agg d => sameL c d.toList
  | .tup c, .tuple d => sameL c d.toList
  | _, _ => false
def sameL : List V → List Value → Bool
  | [], [] => true
  | x :: l, v :: vs => sameV x v && sameL l vs
  | _, _ => false
end
mutual
theorem conc_of_same (R : Emb) : ∀ (v : V) (x : Value), sameV v x = true → conc R v = some x
  | .b _, x, h => by cases x <;> simp_all [sameV, conc]
  | .i _ _, x, h => by cases x <;> simp_all [sameV, conc]
  | .s l, x, h => by
    cases x <;> simp only [sameV, Bool.false_eq_true] at h
    rename_i y
    simp only [Bool.and_eq_true, decide_eq_true_eq] at h
    obtain ⟨h1, h2⟩ := h
    simp only [conc, h1, if_true]
    congr 2
    obtain ⟨⟨y⟩⟩ := y
    simp only [byteArr] at *
    rw [← h2]
  | .pn, x, h => by
    unfold sameV at h
    split at h <;> simp_all [conc]
  | .sn, x, h => by
    unfold sameV at h
    split at h <;> simp_all [conc]
  | .mn, x, h => by
    unfold sameV at h
    split at h <;> simp_all [conc]
  | .fnil, x, h => by cases x <;> simp_all [sameV, conc]
  | .in0, x, h => by cases x <;> simp_all [sameV, conc]
  | .agg c, x, h => by
    cases x <;> simp only [sameV, Bool.false_eq_true] at h
    simp [conc, concL_of_same R c _ h]
  | .tup c, x, h => by
    cases x <;> simp only [sameV, Bool.false_eq_true] at h
    simp [conc, concL_of_same R c _ h]
  | .p _ _, x, h => by cases x <;> simp [sameV] at h
  | .sl _ _ _ _ _, x, h => by cases x <;> simp [sameV] at h
  | .m _, x, h => by cases x <;> simp [sameV] at h
  | .fn _ _ _, x, h => by cases x <;> simp [sameV] at h
  | .yld _, x, h => by cases x <;> simp [sameV] at h
  | .ifc _ _, x, h => by cases x <;> simp [sameV] at h
theorem concL_of_same (R : Emb) : ∀ (l : List V) (vs : List Value), sameL l vs = true → concL R l = some vs
  | [], vs, h => by cases vs <;> simp_all [sameL, concL]
  | x :: l, vs, h => by
    cases vs with
    | nil => simp [sameL] at h
    | cons v vs =>
      simp only [sameL, Bool.and_eq_true] at h
      exact concL_cons.2 ⟨v, vs, conc_of_same R x v h.1, concL_of_same R l vs h.2, rfl⟩
end
def okX : Operand → X → Bool
  | .tmp t, .t n => Nat.beq t n
  | .const v, .c w => sameV w v
  | .func f, .f n => Nat.beq f n
  | _, _ => false
def okXs : List Operand → List X → Bool
  | [], [] => true
  | x :: l, y :: m => okX x y && okXs l m
  | _, _ => false
def okXo : Option Operand → Option X → Bool
  | none, none => true
  | some x, some y => okX x y
  | _, _ => false
section
variable (P : Program)
def szT (t : TypeId) : Option Nat := (P.info? t).map (·.size)
def zeroT (t : TypeId) : Option Value := (P.info? t).bind (·.zero)
def isAggD : TypeDesc → Bool
  | .struct _ | .array _ _ => true
  | _ => false
def plainT (t : TypeId) : Bool := match P.underlying t with
  | some d => !isAggD d
  | none => false
def aggT (t : TypeId) : Bool := match P.underlying t with
  | some d => isAggD d
  | none => false
def isSz (t : TypeId) (n : Nat) : Bool := match szT P t with
  | some m => Nat.beq m n
  | none => false
def okZ (t : TypeId) (z : List V) : Bool := match zeroT P t with
  | some v => sameL z v.cells.toList
  | none => false
def ktD : KT → TypeDesc → Bool
  | .b, .bool => true
  | .i k, .int k' => decide (k = k')
  | .s, .string => true
  | _, _ => false
mutual
def flatT : Nat → TypeId → Option (List KT)
  | 0, _ => none
  | d + 1, t => match P.underlying t with
    | some .bool => if isSz P t 1 then some [.b] else none
    | some (.int k) => if isSz P t 1 then some [.i k] else none
    | some .string => if isSz P t 1 then some [.s] else none
    | some (.struct fs) => if P.stoodInHeld t then none else flatF d 0 fs.toList
    | some (.array n e) => match flatT d e with
      | some l => if isSz P e l.length then some (List.replicate n l).flatten else none
      | none => none
    | _ => none
def flatF : Nat → Nat → List Field → Option (List KT)
  | 0, _, _ => none
  | _ + 1, _, [] => some []
  | d + 1, off, f :: fs =>
    if f.name = "_" then none else
    match flatT d f.type with
    | some l => if Nat.beq f.offset off && isSz P f.type l.length then (flatF d (off + l.length) fs).map (l ++ ·) else none
    | none => none
end
def sameKs : List KT → List KT → Bool
  | [], [] => true
  | x :: l, y :: m => decide (x = y) && sameKs l m
  | _, _ => false
def okEqK (t : TypeId) : EqK → Bool
  | .bool => match P.underlying t with | some .bool => true | _ => false
  | .ptr => match P.underlying t with | some (.pointer _) => true | _ => false
  | .slice => match P.underlying t with | some (.slice _) => true | _ => false
  | .map => match P.underlying t with | some (.map _ _) => true | _ => false
  | .func => match P.underlying t with | some (.func _ _ _) => true | _ => false
  | .iface => match P.underlying t with | some (.interface _) => true | _ => false
  | .agg ks => aggT P t && !P.eqGuardType P.depth t && (match flatT P 40 t with | some l => sameKs l ks | none => false)
def scalarT (t : TypeId) : Bool := match P.underlying t with
  | some .bool | some (.int _) | some .string => true
  | _ => false
def okKK (t : TypeId) : KK → Bool
  | .sc k => match P.underlying t with | some d => ktD k d | none => false
  | .ag ks => (match P.underlying t with
      | some (.struct fs) => fs.toList.all fun f => scalarT P f.type
      | _ => false) && (match flatT P 40 t with | some l => sameKs l ks | none => false)
def isConstO : Operand → Bool
  | .const _ => true
  | _ => false
def okPartsS (fs : Array Field) : List (Nat × Operand) → List (Nat × Nat × X) → Bool
  | [], [] => true
  | (i, x) :: l, (off, sz, y) :: m => (match fs[i]? with
      | some f => Nat.beq f.offset off && isSz P f.type sz
      | none => false) && okX x y && okPartsS fs l m
  | _, _ => false
def okPartsA (size : Nat) : List (Nat × Operand) → List (Nat × Nat × X) → Bool
  | [], [] => true
  | (i, x) :: l, (off, sz, y) :: m => Nat.beq (i * size) off && Nat.beq size sz && okX x y && okPartsA size l m
  | _, _ => false
def zrow (z : List Value) (n : Nat) : List Value := (List.range n).map fun i => z.getD (i % z.length) default
def okCallB (b : Builtin) (args : List Operand) (ats : List TypeId) : A → Bool
  | .lenS x => match b, args, ats with
    | .len, [y], [t] => okX y x && (match P.underlying t with | some .string => true | _ => false)
    | _, _, _ => false
  | .lenL x => match b, args, ats with
    | .len, [y], [t] => okX y x && (match P.underlying t with | some (.slice _) => true | _ => false)
    | _, _, _ => false
  | .lenM x => match b, args, ats with
    | .len, [y], [t] => okX y x && (match P.underlying t with | some (.map _ _) => true | _ => false)
    | _, _, _ => false
  | .lenC n => match b, args, ats with
    | .len, [_], [t] => (match P.underlying t with
      | some (.array m _) => Nat.beq m n
      | some (.pointer a) => (match P.underlying a with
        | some (.array m _) => Nat.beq m n
        | _ => false)
      | _ => false)
    | _, _, _ => false
  | .app esz bytes s x => match b, args, ats with
    | .append, [s', x'], [st, xt] => okX s' s && okX x' x && (match P.underlying st, P.underlying xt with
      | some (.slice e), some d => (match d with | .int _ => false | _ => true) && (match P.info? e with
        | some i => Nat.beq i.size esz && Nat.beq i.bytes bytes && (match i.zero with | some v => Nat.beq v.cells.toList.length esz | none => false)
        | none => false)
      | _, _ => false)
    | _, _, _ => false
  | .cpy esz d s => match b, args, ats with
    | .copy, [d', s'], dt :: _ => okX d' d && okX s' s && (match P.underlying dt with
      | some (.slice e) => isSz P e esz
      | _ => false)
    | _, _, _ => false
  | .clr z x => match b, args, ats with
    | .clear, [x'], [t] => okX x' x && (match P.underlying t with
      | some (.slice e) => okZ P e z
      | _ => false)
    | _, _, _ => false
  | .min xs => match b with
    | .min => okXs args xs
    | _ => false
  | .max xs => match b with
    | .max => okXs args xs
    | _ => false
  | _ => false
def okB (c : Call) (a : A) : Bool := match c.callee with
  | .builtin b => okCallB P b c.args.toList c.argTypes.toList a
  | _ => false
def okA : Op → A → Bool
  | _, .no => true
  | .move x, .mov y => okX x y
  | .assign x, .mov y => okX x y
  | .pick c a b, .pick c' a' b' => okX c c' && okX a a' && okX b b'
  | .alloc e, .alloc z => okZ P e z
  | .box _ x, .box y => okX x y
  | .build t parts, .build z ps => okZ P t z && (match P.underlying t with
    | some (.struct fs) => fs.toList.all (fun f => (szT P f.type).isSome) && okPartsS P fs parts.toList ps
    | some (.array _ e) => (match szT P e with
      | some n => okPartsA n parts.toList ps
      | none => false)
    | _ => false)
  | .buildSlice t len parts, .buildSl z len' ps => Nat.beq len len' && (match P.underlying t with
    | some (.slice e) => (match P.info? e with
      | some i => Nat.ble (len * i.size) 16777216 && okPartsA i.size parts.toList ps && (match i.zero with
        | some v => sameL z (zrow v.cells.toList (len * i.size))
        | none => false)
      | none => false)
    | _ => false)
  | .load t a, .ld x => plainT P t && okX a x
  | .load t a, .ldn n x => aggT P t && isSz P t n && okX a x
  | .store t a v, .st n x y => isSz P t n && okX a x && okX v y
  | .nilCheck x, .nilck y => okX x y
  | .binOp op _ x y _, .bin op' x' y' => decide (op = op') && okX x x' && okX y y'
  | .binOp op t x y _, .eqv neg k x' y' => decide (op = if neg then .neq else .eql) && okX x x' && okX y y' && okEqK P t k && (match k with
    | .iface => isConstO x || isConstO y
    | _ => true)
  | .unOp op _ x, .un op' y => decide (op = op') && okX x y
  | .convert s d x, .conv k y => okX x y && (match P.underlying s, P.underlying d with
    | some _, some (.int k') => decide (k = k')
    | _, _ => false)
  | .makeInterface t x, .mkI t' y => Nat.beq t t' && okX x y && (match P.underlying t with
    | some (.interface _) => false
    | some _ => true
    | none => false)
  | .makeFunc (.func f) a c, .mkFn f' a' c' => Nat.beq f f' && okXs a.toList a' && okXs c.toList c'
  | .makeMap _ none, .mkMap => true
  | .makeSlice t l c, .mkSl z bytes l' c' => okX l l' && okX c c' && (match P.underlying t with
    | some (.slice e) => (match P.info? e with
      | some i => Nat.beq i.bytes bytes && Nat.beq i.size z.length && (match i.zero with
        | some v => sameL z v.cells.toList
        | none => false)
      | none => false)
    | _ => false)
  | .slice t x lo hi mx, .slc esz x' lo' hi' mx' => okX x x' && okXo lo lo' && okXo hi hi' && okXo mx mx' && (match P.underlying t with
    | some (.slice e) => isSz P e esz
    | _ => false)
  | .slice t x lo hi mx, .slcA len esz x' lo' hi' => okX x x' && okXo lo lo' && okXo hi hi' && mx.isNone && (match P.underlying t with
    | some (.array n e) => Nat.beq n len && isSz P e esz
    | _ => false)
  | .slice t x lo hi mx, .slcS x' lo' hi' => okX x x' && okXo lo lo' && okXo hi hi' && mx.isNone && (match P.underlying t with
    | some .string => true
    | _ => false)
  | .fieldAddr s x f, .fld off y => okX x y && (match P.underlying s with
    | some (.struct fs) => (match fs[f]? with
      | some fd => Nat.beq fd.offset off && (match szT P fd.type with
        | some n => Nat.blt 0 n
        | none => false)
      | none => false)
    | _ => false)
  | .field s x f, .fldv off sz y => okX x y && (match P.underlying s with
    | some (.struct fs) => (match fs[f]? with
      | some fd => Nat.beq fd.offset off && (match sz with
        | none => plainT P fd.type
        | some n => aggT P fd.type && isSz P fd.type n)
      | none => false)
    | _ => false)
  | .indexAddr t x ix, .ixS esz x' ix' => okX x x' && okX ix ix' && (match P.underlying t with
    | some (.slice e) => isSz P e esz
    | _ => false)
  | .indexAddr t x ix, .ixA len esz x' ix' => okX x x' && okX ix ix' && (match P.underlying t with
    | some (.array n e) => Nat.beq n len && isSz P e esz
    | _ => false)
  | .index t x ix, .ixStr x' ix' => okX x x' && okX ix ix' && (match P.underlying t with
    | some .string => true
    | _ => false)
  | .index t x ix, .ixV len esz ag x' ix' => okX x x' && okX ix ix' && (match P.underlying t with
    | some (.array n e) => Nat.beq n len && isSz P e esz && (if ag then aggT P e else plainT P e)
    | _ => false)
  | .lookup t x k ok, .look kk z ok' x' k' => okX x x' && okX k k' && (ok == ok') && (match P.underlying t with
    | some (.map kt et) => okKK P kt kk && (match zeroT P et with
      | some v => sameV z v
      | none => false)
    | _ => false)
  | .mapUpdate t x k v, .mapSet kk x' k' v' => okX x x' && okX k k' && okX v v' && (match P.underlying t with
    | some (.map kt _) => okKK P kt kk
    | _ => false)
  | .insert t x k v, .mapSet kk x' k' v' => okX x x' && okX k k' && okX v v' && (match P.underlying t with
    | some (.map kt _) => okKK P kt kk
    | _ => false)
  | .extract x n, .ext y m => Nat.beq n m && okX x y
  | .call c, .call f args => (match c.callee with
    | .value g => okX g f && okXs c.args.toList args
    | _ => false)
  | .call c, .lenS x => okB P c (.lenS x)
  | .call c, .lenL x => okB P c (.lenL x)
  | .call c, .lenM x => okB P c (.lenM x)
  | .call c, .lenC n => okB P c (.lenC n)
  | .call c, .app a b x y => okB P c (.app a b x y)
  | .call c, .cpy n x y => okB P c (.cpy n x y)
  | .call c, .clr z x => okB P c (.clr z x)
  | .call c, .min xs => okB P c (.min xs)
  | .call c, .max xs => okB P c (.max xs)
  | .panic x, .panic y => okX x y
  | .typeAssert x _ s ok, .tassert t z ok' y => Nat.beq s t && (ok == ok') && okX x y && (match P.underlying s with
    | some (.interface _) => false
    | some _ => true
    | none => false) && (match zeroT P s with
      | some v => sameV z v
      | none => false)
  | .convert s d x, .s2b y => okX x y && (P.underlying s).isSome && (match P.underlying d with
    | some (.slice e) => (match P.underlying e with | some (.int .u8) => true | _ => false) && isSz P e 1
    | _ => false)
  | .convert s d x, .mark y => okX x y && Nat.beq s d && (match P.underlying s with
    | some (.slice e) => (match P.underlying e with | some (.int .u8) => true | _ => false)
    | _ => false)
  | .convert s d x, .b2s y => okX x y && (match P.underlying s, P.underlying d with
    | some (.slice e), some .string => (match P.underlying e with | some (.int .u8) => true | _ => false)
    | _, _ => false)
  | _, _ => false
def okDst : Option Tmp → Option Nat → Bool
  | none, none => true
  | some a, some b => Nat.beq a b
  | _, _ => false
def okG (ops : Array Oper) : Option (Nat × Bool) → Option (Nat × Bool) → Bool
  | none, none => true
  | some (j, w), some (d, w') => (w == w') && (match ops[j]? with
    | some o => okDst o.dst (some d)
    | none => false)
  | _, _ => false
def okO (ops : Array Oper) (o : Oper) (a : O) : Bool := okDst o.dst a.dst && okG ops o.guard a.g && okA P o.op a.op
def okOps (ops : Array Oper) : List Oper → List O → Bool
  | [], [] => true
  | o :: l, a :: m => okO P ops o a && okOps ops l m
  | _, _ => false
inductive Cls where
  | idle | reads | writes
  deriving DecidableEq
def cls : A → Cls
  | .st .. | .mapSet .. | .call .. | .app .. | .cpy .. | .clr .. | .mark .. => .writes
  | .ld _ | .ldn .. | .look .. | .lenM _ | .b2s _ => .reads
  | _ => .idle
def xT : X → List Nat
  | .t n => [n]
  | _ => []
def xoT : Option X → List Nat
  | some x => xT x
  | none => []
def uses : A → List Nat
  | .mov x | .box x | .ld x | .ldn _ x | .nilck x | .un _ x | .conv _ x | .mkI _ x | .fld _ x | .fldv _ _ x | .ext x _ | .lenS x | .lenL x | .lenM x | .clr _ x | .panic x | .tassert _ _ _ x | .s2b x | .b2s x | .mark x => xT x
  | .pick a b c => xT a ++ xT b ++ xT c
  | .build _ ps | .buildSl _ _ ps => ps.flatMap fun p => xT p.2.2
  | .st _ a b | .bin _ a b | .eqv _ _ a b | .mkSl _ _ a b | .ixS _ a b | .ixA _ _ a b | .ixStr a b | .ixV _ _ _ a b | .look _ _ _ a b | .app _ _ a b | .cpy _ a b => xT a ++ xT b
  | .mapSet _ a b c => xT a ++ xT b ++ xT c
  | .mkFn _ a c => a.flatMap xT ++ c.flatMap xT
  | .slc _ x a b c => xT x ++ xoT a ++ xoT b ++ xoT c
  | .slcA _ _ x a b | .slcS x a b => xT x ++ xoT a ++ xoT b
  | .call f xs => xT f ++ xs.flatMap xT
  | .min xs | .max xs => xs.flatMap xT
  | .alloc _ | .mkMap | .lenC _ | .no => []
def usesO (o : O) : List Nat := uses o.op ++ (match o.g with | some (n, _) => [n] | none => [])
def touches (d : Option Nat) (l : List Nat) : Bool := match d with
  | some n => l.contains n
  | none => false
def free (a b : O) (seen : Bool) : Bool :=
  !touches a.dst (usesO b ++ b.dst.toList) && !touches b.dst (usesO a) &&
  (seen || match cls a.op, cls b.op with
    | .idle, _ | _, .idle | .reads, .reads => true
    | _, _ => false)
def bitsBefore (ops : Array Oper) : List Nat :=
  ops.toList.foldl (init := []) fun acc o =>
    acc ++ [o.after.toList.foldl (fun s e => if Region.binds .any e then s ||| 2 ^ e.on ||| acc.getD e.on 0 else s) 0]
def okEdges : Nat → List Oper → Bool
  | _, [] => true
  | i, o :: l => o.after.toList.all (fun e => !Region.binds .any e || Nat.blt e.on i) && okEdges (i + 1) l
def okPairs (bs : List Nat) (l : List O) (crit : List (Nat × Nat)) : Bool :=
  (List.range l.length).all fun j => (List.range j).all fun i =>
    (bs.getD j 0).testBit i || (match l[i]?, l[j]? with
      | some a, some b => free a b (crit.any fun p => Nat.beq p.1 i && Nat.beq p.2 j)
      | _, _ => false)
def okDraw (ops : Array Oper) (l : List O) (crit : List (Nat × Nat)) : Bool := okEdges 0 ops.toList && okPairs (bitsBefore ops) l crit
def okC : Code → C → Bool
  | .skip, .skip => true
  | .label _, .skip => true
  | .region _ ops false, .ops l => okOps P ops ops.toList l
  | .region _ ops true, .draw l crit => okOps P ops ops.toList l && okDraw ops l crit
  | .seq a b, .seq c d => okC a c && okC b d
  | .cond x a b, .cond y c d => okX x y && okC a c && okC b d
  | .block i a, .block j c => Nat.beq i j && okC a c
  | .loop a, .loop c => okC a c
  | .scope a, c => okC a c
  | .exit i, .exit j => Nat.beq i j
  | .ret, .ret => true
  | .rangeFunc f ps a b, .rangeF g qs c d => okX f g && decide (ps.toList = qs) && okC a c && okC b d
  | _, _ => false
def okRes : List ResultVar → List ResV → Bool
  | [], [] => true
  | .tmp t :: l, .tmp n :: m => Nat.beq t n && okRes l m
  | .cell a t :: l, .cell n sz :: m => Nat.beq a n && (match sz with
    | none => plainT P t
    | some k => aggT P t && isSz P t k) && okRes l m
  | _, _ => false
def flat : C → Bool
  | .draw _ _ | .rangeF _ _ _ _ | .prim _ => false
  | .seq a b => flat a && flat b
  | .cond _ a b => flat a && flat b
  | .block _ a => flat a
  | .loop a => flat a
  | _ => true
def isCall : A → Bool
  | .call _ _ => true
  | _ => false
def okDf (ops : Array Oper) : List Oper → List O → X → Bool
  | [o], [a], x => (match o.op with
      | .defer c => (match c.callee with
        | .value y => okX y x && Nat.beq c.args.size 0
        | _ => false)
      | _ => false) && o.dst.isNone && o.guard.isNone && a.dst.isNone && a.g.isNone && (match a.op with
      | .mov _ => true
      | _ => false)
  | o :: l, a :: m, x => okO P ops o a && okDf ops l m x
  | _, _, _ => false
def okPre : Code → C → C → X → Bool
  | .seq (.region _ ops false) b, .ops l, rest, x => okDf P ops ops.toList l x && okC P b rest
  | .seq a b, .seq a' b', rest, x => okC P a a' && flat a' && okPre b b' rest x
  | _, _, _, _ => false
def okRcv (c : Code) (body : C) (n : Nat) : Bool := match c, body with
  | .seq (.region _ ops false) b, .seq (.ops l) rest => (match ops.toList with
    | o :: L => (match o.op with
        | .call k => (match k.callee with
          | .builtin .recover => true
          | _ => false)
        | _ => false) && okDst o.dst (some n) && o.guard.isNone && okOps P ops L l && l.all (fun a => !isCall a.op) && okC P b rest && flat rest
    | [] => false)
  | _, _ => false
def okBody (c : Code) (fi : FI) : Bool := match fi.rcv, fi.dfr with
  | none, none => okC P c fi.body
  | none, some (pre, x) => okPre P c pre fi.body x
  | some n, none => fi.res.isEmpty && okRcv P c fi.body n
  | _, _ => false
def okFI (k : Nat) (fi : FI) : Bool := match P.funcs[k]? with
  | some fn => Nat.beq fn.ntmps fi.ntmps && !(fn.name == "runtime.NumGoroutine") && okRes P fn.results.toList fi.res && (match fn.body with
    | some c => okBody P c fi
    | none => false)
  | none => false
end
end Go.Air
namespace Go.Air
theorem T.get_setF {α : Type} (v : Option α) : ∀ (f : Nat) (t : T α) (k j : Nat), k < f → (T.setF f t k v).get j = if j = k then v else t.get j
  | 0, _, _, _, h => by omega
  | f + 1, .e, 0, j, _ => by cases j <;> simp [T.setF, T.get]; split <;> rfl
  | f + 1, .n l x r, 0, j, _ => by cases j <;> simp [T.setF, T.get]
  | f + 1, .e, k + 1, 0, h => by
    simp only [T.setF]
    cases hk : k % 2 <;> simp [T.get]
  | f + 1, .n l x r, k + 1, 0, h => by
    simp only [T.setF]
    cases hk : k % 2 <;> simp [T.get]
  | f + 1, .e, k + 1, j + 1, h => by
    simp only [T.setF]
    cases hk : k % 2 with
    | zero =>
      simp only [T.get]
      cases hj : j % 2 with
      | zero => simp only [T.get_setF v f .e (k / 2) (j / 2) (by omega), T.get]; simp only [show (j / 2 = k / 2) = (j + 1 = k + 1) from propext ⟨fun _ => by omega, fun _ => by omega⟩]
      | succ n => simp only []; rw [if_neg (by omega)]
    | succ m =>
      simp only [T.get]
      cases hj : j % 2 with
      | zero => simp only []; rw [if_neg (by omega)]
      | succ n => simp only [T.get_setF v f .e (k / 2) (j / 2) (by omega), T.get]; simp only [show (j / 2 = k / 2) = (j + 1 = k + 1) from propext ⟨fun _ => by omega, fun _ => by omega⟩]
  | f + 1, .n l x r, k + 1, j + 1, h => by
    simp only [T.setF]
    cases hk : k % 2 with
    | zero =>
      simp only [T.get]
      cases hj : j % 2 with
      | zero => simp only [T.get_setF v f l (k / 2) (j / 2) (by omega)]; simp only [show (j / 2 = k / 2) = (j + 1 = k + 1) from propext ⟨fun _ => by omega, fun _ => by omega⟩]
      | succ n => simp only []; rw [if_neg (by omega)]
    | succ m =>
      simp only [T.get]
      cases hj : j % 2 with
      | zero => simp only []; rw [if_neg (by omega)]
      | succ n => simp only [T.get_setF v f r (k / 2) (j / 2) (by omega)]; simp only [show (j / 2 = k / 2) = (j + 1 = k + 1) from propext ⟨fun _ => by omega, fun _ => by omega⟩]
theorem T.get_set {α : Type} (t : T α) (k j : Nat) (v : Option α) : (t.set k v).get j = if j = k then v else t.get j := T.get_setF v (k + 1) t k j (by omega)
theorem H.get_new (h : H) (x : Blk) (b : Nat) : (h.new x).get b = if b = h.next then some x else h.get b := T.get_set ..
theorem H.get_put (h : H) (c : Nat) (x : Blk) (b : Nat) : (h.put c x).get b = if b = c then some x else h.get b := T.get_set ..
theorem H.get_kill (h : H) (c : Nat) (b : Nat) : (h.kill c).get b = if b = c then none else h.get b := T.get_set ..
@[simp] theorem H.next_new (h : H) (x : Blk) : (h.new x).next = h.next + 1 := rfl
@[simp] theorem H.next_put (h : H) (c : Nat) (x : Blk) : (h.put c x).next = h.next := rfl
@[simp] theorem H.next_kill (h : H) (c : Nat) : (h.kill c).next = h.next := rfl
@[simp] theorem H.log_new (h : H) (x : Blk) : (h.new x).log = h.log := rfl
@[simp] theorem H.log_put (h : H) (c : Nat) (x : Blk) : (h.put c x).log = c :: h.log := rfl
@[simp] theorem H.log_kill (h : H) (c : Nat) : (h.kill c).log = c :: h.log := rfl
def stateOf : LState → LoopState
  | .ready => .ready
  | .busy => .busy
  | .done => .done
  | .over => .exhausted
def pendOf : Option Out → Option Code
  | none => none
  | some .norm => none
  | some (.exit i) => some (.exit i)
  | some .ret => some .ret
  | some (.pan _) => none
def concM (R : Emb) : List (V × V) → Option (List (Value × Value))
  | [] => some []
  | (k, v) :: l => match conc R k, conc R v, concM R l with
    | some k, some v, some l => some ((k, v) :: l)
    | _, _, _ => none
theorem concM_cons {R : Emb} {k v : V} {l : List (V × V)} {vs : List (Value × Value)} :
    concM R ((k, v) :: l) = some vs ↔ ∃ x y w, conc R k = some x ∧ conc R v = some y ∧ concM R l = some w ∧ vs = (x, y) :: w := by
  simp only [concM]
  cases conc R k <;> cases conc R v <;> cases concM R l <;> simp [eq_comm]
theorem concM_mono {R R' : Emb} (h : R.le R') : ∀ (l : List (V × V)) (vs : List (Value × Value)), concM R l = some vs → concM R' l = some vs
  | [], vs, hx => by simpa [concM] using hx
  | (k, v) :: l, vs, hx => by
    obtain ⟨x, y, w, h1, h2, h3, rfl⟩ := concM_cons.1 hx
    exact concM_cons.2 ⟨x, y, w, conc_mono h _ _ h1, conc_mono h _ _ h2, concM_mono h l w h3, rfl⟩
section
variable (P : Program)
structure Fr (n : Nat) where
  ty : TypeId
  fz : Nat × Nat
  is : fz = (0, 0) ∨ fz = (n, n + 1)
def Fr.none (n : Nat) (t : TypeId) : Fr n := ⟨t, (0, 0), .inl rfl⟩
def Fr.mark (n : Nat) (t : TypeId) : Fr n := ⟨t, (n, n + 1), .inr rfl⟩
theorem Fr.ok {n : Nat} (e : Fr n) : ∀ o, o < n → (decide (e.fz.1 ≤ o) && decide (o < e.fz.2)) = false := by
  intro o ho
  rcases e.is with h | h <;> rw [h] <;> simp
  omega
def BlkRel (R : Emb) (w : World) (c sz : Nat) : Blk → Prop
  | .cells cs => ∃ (arr : Array Value) (e : Fr sz) (vs rest : List Value), w.heap[c]? = some (.cells arr e.ty e.fz) ∧ concL R cs = some vs ∧ arr.toList = vs ++ rest ∧ arr.size = sz
  | .ro cs => ∃ arr e f, w.heap[c]? = some (.cells arr e f) ∧ arr.size = cs.length ∧ ∀ (i : Nat) (v : V), cs[i]? = some (some v) → ∃ x, arr.toList[i]? = some x ∧ conc R v = some x
  | .map es => ∃ arr ck, w.heap[c]? = some (.map arr ck) ∧ concM R es = some (arr.toList.map fun e => (e.key, e.val))
  | .loop lp => ∃ L : Go.Loop, w.heap[c]? = some (.loop L) ∧ L.state = stateOf lp.state ∧ L.pending = pendOf lp.pending ∧ concL R lp.tmps = some L.tmps.toList ∧
      L.params.toList = lp.params ∧ okC P L.assign lp.asg = true ∧ okC P L.body lp.body = true
theorem BlkRel.mono {R R' : Emb} (hR : R.le R') {w w' : World} {c sz : Nat} {x : Blk} (h : BlkRel P R w c sz x) (hw : w'.heap[c]? = w.heap[c]?) : BlkRel P R' w' c sz x := by
  cases x with
  | cells cs => obtain ⟨arr, e, vs, rest, h1, h2, h3, h4⟩ := h; exact ⟨arr, e, vs, rest, hw.trans h1, concL_mono hR _ _ h2, h3, h4⟩
  | ro cs =>
    obtain ⟨arr, e, f, h1, h2, h3⟩ := h
    refine ⟨arr, e, f, hw.trans h1, h2, fun i v hi => ?_⟩
    obtain ⟨x, q1, q2⟩ := h3 i v hi
    exact ⟨x, q1, conc_mono hR _ _ q2⟩
  | map es => obtain ⟨arr, ck, h1, h2⟩ := h; exact ⟨arr, ck, hw.trans h1, concM_mono hR _ _ h2⟩
  | loop lp => obtain ⟨L, h1, h2, h3, h4, h5⟩ := h; exact ⟨L, hw.trans h1, h2, h3, concL_mono hR _ _ h4, h5⟩
def Fix (R : Emb) : Prop := ∀ b ∈ fixB, R b = some (b, 0)
theorem Fix.le {R R' : Emb} (h : Fix R) (hl : R.le R') : Fix R' := fun b hb => hl _ _ (h b hb)
theorem tab_mem : tabBlk ∈ fixB := by simp [fixB]
theorem syn_mem : synBlk ∈ fixB := by simp [fixB]
theorem rng_mem : rngBlk ∈ fixB := by simp [fixB]
theorem case_mem : caseBlk ∈ fixB := by simp [fixB]
theorem first_mem : firstBlk ∈ fixB := by simp [fixB]
theorem acc_mem : accBlk ∈ fixB := by simp [fixB]
theorem fix_lt {b : Nat} (h : b ∈ fixB) : b < topBlk := by
  simp only [fixB, List.mem_cons, List.not_mem_nil, or_false] at h
  unfold topBlk
  rcases h with rfl | rfl | rfl | rfl | rfl | rfl <;> omega
structure Sim (F : Nat → Prop) (R : Emb) (mem : Nat → Option Blk) (w : World) : Prop where
  blk : ∀ b c sz x, F b → R b = some (c, sz) → mem b = some x → BlkRel P R w c sz x
  inj : ∀ b b' c sz sz' x x', F b → F b' → R b = some (c, sz) → R b' = some (c, sz') → mem b = some x → mem b' = some x' → b = b'
  lt : ∀ b c sz, R b = some (c, sz) → c < w.heap.size
  fix : Fix R
def SameIO (w w' : World) : Prop := w'.os = w.os ∧ w'.tape = w.tape ∧ w'.output = w.output
theorem SameIO.refl (w : World) : SameIO w w := ⟨rfl, rfl, rfl⟩
theorem SameIO.trans {w w1 w2 : World} (a : SameIO w w1) (b : SameIO w1 w2) : SameIO w w2 := ⟨b.1.trans a.1, b.2.1.trans a.2.1, b.2.2.trans a.2.2⟩
structure Fwd (R R' : Emb) (h h' : H) (w w' : World) (l : List Nat) : Prop where
  le : R.le R'
  log : h'.log = l ++ h.log
  nx : h.next ≤ h'.next
  size : w.heap.size ≤ w'.heap.size
  new : ∀ b c sz, R' b = some (c, sz) → R b = some (c, sz) ∨ (h.next ≤ b ∧ b < h'.next ∧ (w.heap.size ≤ c ∨ ∃ b0 sz0, R b0 = some (c, sz0) ∧ b0 ∈ l))
  same : ∀ b, b < h.next → b ∉ l → h'.get b = h.get b
  frame : ∀ c, c < w.heap.size → (∀ b sz, R b = some (c, sz) → b ∉ l) → w'.heap[c]? = w.heap[c]?
  own : ∀ b ∈ l, (h.next ≤ b ∧ b < h'.next) ∨ ((∃ x, R b = some x) ∧ (b < h.next → ∃ y, h.get b = some y))
  io : SameIO w w'
theorem Fwd.refl (R : Emb) (h : H) (w : World) : Fwd R R h h w w [] :=
  ⟨R.le_refl, rfl, Nat.le_refl _, Nat.le_refl _, fun _ _ _ h => .inl h, fun _ _ _ => rfl, fun _ _ _ => rfl, fun _ hb => by simp at hb, .refl w⟩
theorem Fwd.trans {R R1 R2 : Emb} {h h1 h2 : H} {w w1 w2 : World} {l1 l2 : List Nat} (a : Fwd R R1 h h1 w w1 l1) (b : Fwd R1 R2 h1 h2 w1 w2 l2) : Fwd R R2 h h2 w w2 (l2 ++ l1) where
  io := a.io.trans b.io
  le := Emb.le_trans a.le b.le
  log := by rw [b.log, a.log, List.append_assoc]
  nx := Nat.le_trans a.nx b.nx
  size := Nat.le_trans a.size b.size
  new := by
    intro x c sz hx
    rcases b.new x c sz hx with h' | ⟨h1', h2', h3'⟩
    · rcases a.new x c sz h' with h' | ⟨q1, q2, q3⟩
      · exact .inl h'
      · refine .inr ⟨q1, Nat.lt_of_lt_of_le q2 b.nx, ?_⟩
        rcases q3 with q3 | ⟨b0, s0, q3, q4⟩
        · exact .inl q3
        · exact .inr ⟨b0, s0, q3, List.mem_append.2 (.inr q4)⟩
    · refine .inr ⟨Nat.le_trans a.nx h1', h2', ?_⟩
      rcases h3' with h3' | ⟨b0, s0, h3', h4'⟩
      · exact .inl (Nat.le_trans a.size h3')
      · rcases a.new b0 c s0 h3' with h' | ⟨q1, q2, q3⟩
        · exact .inr ⟨b0, s0, h', List.mem_append.2 (.inl h4')⟩
        · rcases q3 with q3 | ⟨b1, s1, q3, q4⟩
          · exact .inl q3
          · exact .inr ⟨b1, s1, q3, List.mem_append.2 (.inr q4)⟩
  same := by
    intro x hx hl
    rw [List.mem_append, not_or] at hl
    rw [b.same x (Nat.lt_of_lt_of_le hx a.nx) hl.1, a.same x hx hl.2]
  frame := by
    intro c hc hl
    rw [b.frame c (Nat.lt_of_lt_of_le hc a.size) ?_, a.frame c hc (fun x sz hx hm => hl x sz hx (List.mem_append.2 (.inr hm)))]
    intro x sz hx hm
    rcases a.new x c sz hx with h' | ⟨q1, q2, q3⟩
    · exact hl x sz h' (List.mem_append.2 (.inl hm))
    · rcases q3 with q3 | ⟨b0, s0, q3, q4⟩
      · omega
      · exact hl b0 s0 q3 (List.mem_append.2 (.inr q4))
  own := by
    intro x hx
    have hn := a.nx
    have hn' := b.nx
    have left : ∀ y ∈ l1, (h.next ≤ y ∧ y < h2.next) ∨ ((∃ z, R y = some z) ∧ (y < h.next → ∃ z, h.get y = some z)) := by
      intro y hy
      rcases a.own y hy with q | q
      · exact .inl ⟨q.1, by omega⟩
      · exact .inr q
    rcases List.mem_append.1 hx with hx | hx
    · rcases b.own x hx with q | ⟨⟨z, q1⟩, q2⟩
      · exact .inl ⟨by omega, q.2⟩
      · by_cases hl : x ∈ l1
        · exact left x hl
        · obtain ⟨c, sz⟩ := z
          rcases a.new x c sz q1 with q | ⟨q3, q4, _⟩
          · refine .inr ⟨⟨_, q⟩, fun hlt => ?_⟩
            obtain ⟨y, hy⟩ := q2 (by omega)
            exact ⟨y, by rw [← a.same x hlt hl]; exact hy⟩
          · exact .inl ⟨q3, by omega⟩
    · exact left x hx
def Fresh (R : Emb) (h h' : H) : Prop := ∀ b, h.next ≤ b → b < h'.next → R b = none
theorem Fresh.left {R : Emb} {h h1 h2 : H} (hf : Fresh R h h2) (hn : h1.next ≤ h2.next) : Fresh R h h1 := fun b h1' h2' => hf b h1' (by omega)
theorem Fresh.right {R R1 : Emb} {h h1 h2 : H} {w w1 : World} {l : List Nat} (hf : Fresh R h h2) (a : Fwd R R1 h h1 w w1 l) : Fresh R1 h1 h2 := by
  intro b hb1 hb2
  have hn := a.nx
  cases hr : R1 b with
  | none => rfl
  | some x =>
    obtain ⟨c, sz⟩ := x
    rcases a.new b c sz hr with h' | ⟨q1, q2, _⟩
    · rw [hf b (by omega) hb2] at h'; cases h'
    · omega
def PostV (F : Nat → Prop) (R : Emb) (h : H) (w : World) (v : V) (h' : H) (x : Value) (w' : World) : Prop :=
  ∃ R' l, Fwd R R' h h' w w' l ∧ Sim P F R' h'.get w' ∧ conc R' v = some x
variable {P}
theorem PostV.same {F : Nat → Prop} {R : Emb} {h : H} {w : World} {v : V} {x : Value} (hs : Sim P F R h.get w) (hv : conc R v = some x) : PostV P F R h w v h x w :=
  ⟨R, [], .refl R h w, hs, hv⟩
def Emb.add (R : Emb) (b : Nat) (x : Nat × Nat) : Emb := fun c => if c = b then some x else R c
theorem Emb.le_add {R : Emb} {b : Nat} {x : Nat × Nat} (h : R b = none) : R.le (R.add b x) := by
  intro c y hc
  simp only [Emb.add]
  split
  · rename_i e; subst e; rw [h] at hc; cases hc
  · exact hc
theorem Emb.add_self {R : Emb} {b : Nat} {x : Nat × Nat} : R.add b x b = some x := by simp [Emb.add]
theorem heap_push_lt {w : World} {o : Obj} {c : Nat} (h : c < w.heap.size) : (w.alloc o).heap[c]? = w.heap[c]? := by
  simp only [World.alloc, Array.getElem?_push]
  rw [if_neg (by omega)]
theorem heap_push_eq {w : World} {o : Obj} : (w.alloc o).heap[w.heap.size]? = some o := by
  show (w.heap.push o)[w.heap.size]? = some o
  simp
theorem new_step {F : Nat → Prop} {R : Emb} {h : H} {w : World} {o : Obj} {x : Blk} {sz : Nat} (hs : Sim P F R h.get w) (hf : R h.next = none)
    (hx : ∀ w' : World, w'.heap[w.heap.size]? = some o → BlkRel P (R.add h.next (w.heap.size, sz)) w' w.heap.size sz x) :
    Fwd R (R.add h.next (w.heap.size, sz)) h (h.new x) w (w.alloc o) [] ∧ Sim P F (R.add h.next (w.heap.size, sz)) (h.new x).get (w.alloc o) := by
  have hle : R.le (R.add h.next (w.heap.size, sz)) := Emb.le_add hf
  refine ⟨⟨hle, rfl, by simp, by simp, ?_, ?_, ?_, fun _ hb => by simp at hb, ⟨rfl, rfl, rfl⟩⟩, ⟨?_, ?_, ?_, hs.fix.le hle⟩⟩
  · intro b c s hb
    simp only [Emb.add] at hb
    split at hb
    · rename_i e; subst e
      simp only [Option.some.injEq, Prod.mk.injEq] at hb
      exact .inr ⟨Nat.le_refl _, by simp, .inl (by omega)⟩
    · exact .inl hb
  · intro b hb _
    rw [H.get_new, if_neg (by omega)]
  · intro c hc _
    exact heap_push_lt hc
  · intro b c s y hFb hb hy
    simp only [Emb.add] at hb
    rw [H.get_new] at hy
    split at hb
    · rename_i e; subst e
      rw [if_pos rfl] at hy
      simp only [Option.some.injEq, Prod.mk.injEq] at hb hy
      obtain ⟨rfl, rfl⟩ := hb
      subst hy
      exact hx _ heap_push_eq
    · rename_i e
      rw [if_neg e] at hy
      exact (hs.blk b c s y hFb hb hy).mono P hle (heap_push_lt (hs.lt b c s hb))
  · intro b b' c s s' y y' hF hF' hb hb' hy hy'
    simp only [Emb.add] at hb hb'
    rw [H.get_new] at hy hy'
    split at hb <;> split at hb'
    · rename_i e e'; rw [e, e']
    · simp only [Option.some.injEq, Prod.mk.injEq] at hb
      have := hs.lt b' c s' hb'
      omega
    · simp only [Option.some.injEq, Prod.mk.injEq] at hb'
      have := hs.lt b c s hb
      omega
    · rename_i e e'
      rw [if_neg e] at hy; rw [if_neg e'] at hy'
      exact hs.inj b b' c s s' y y' hF hF' hb hb' hy hy'
  · intro b c s hb
    simp only [Emb.add] at hb
    split at hb
    · simp only [Option.some.injEq, Prod.mk.injEq] at hb
      simp; omega
    · have := hs.lt b c s hb
      simp; omega
theorem put_step {F : Nat → Prop} {R : Emb} {h : H} {w w' : World} {x y : Blk} {b c sz : Nat} (hs : Sim P F R h.get w) (hF : F b) (hb : R b = some (c, sz)) (hy : h.get b = some y)
    (hio : SameIO w w') (hsize : w'.heap.size = w.heap.size) (hother : ∀ d, d ≠ c → w'.heap[d]? = w.heap[d]?) (hx : BlkRel P R w' c sz x) :
    Fwd R R h (h.put b x) w w' [b] ∧ Sim P F R (h.put b x).get w' := by
  refine ⟨⟨R.le_refl, rfl, by simp, by omega, fun _ _ _ h => .inl h, ?_, ?_, fun d hd => .inr (by simp at hd; subst hd; exact ⟨⟨_, hb⟩, fun _ => ⟨_, hy⟩⟩), hio⟩, ⟨?_, ?_, ?_, hs.fix⟩⟩
  · intro d _ hd
    rw [H.get_put, if_neg (by simpa using hd)]
  · intro d _ hl
    exact hother d (fun e => hl b sz (e ▸ hb) (by simp))
  · intro d e s z hFd hd hz
    rw [H.get_put] at hz
    split at hz
    · rename_i e'; subst e'
      rw [hb] at hd
      simp only [Option.some.injEq, Prod.mk.injEq] at hd hz
      obtain ⟨rfl, rfl⟩ := hd
      subst hz
      exact hx
    · rename_i ne
      refine (hs.blk d e s z hFd hd hz).mono P R.le_refl (hother e ?_)
      intro ee; subst ee
      exact ne (hs.inj d b e s sz z y hFd hF hd hb hz hy)
  · intro d d' e s s' z z' hF1 hF2 hd hd' hz hz'
    rw [H.get_put] at hz hz'
    split at hz <;> split at hz'
    · rename_i e1 e2; rw [e1, e2]
    · rename_i e1 e2; subst e1; exact hs.inj d d' e s s' y z' hF1 hF2 hd hd' hy hz'
    · rename_i e1 e2; subst e2; exact hs.inj d d' e s s' z y hF1 hF2 hd hd' hz hy
    · exact hs.inj d d' e s s' z z' hF1 hF2 hd hd' hz hz'
  · intro d e s hd
    rw [hsize]; exact hs.lt d e s hd
theorem cell_at {w : World} {c o : Nat} {arr : Array Value} {e : TypeId} {f : Nat × Nat} {v : Value} (h : w.heap[c]? = some (.cells arr e f)) (hv : arr.toList[o]? = some v) : w.cell? ⟨c, o, none⟩ = some v := by
  simp only [World.cell?, h]
  simpa using hv
theorem add_spot (c o i : Nat) : (⟨c, o, none⟩ : Addr).add i = ⟨c, o + i, none⟩ := by
  unfold Addr.add
  split
  · rename_i h; subst h; rfl
  · rfl
theorem run_loadCells_at {w : World} {c o n : Nat} {arr : Array Value} {e : TypeId} {f : Nat × Nat} {vs rest : List Value} (h : w.heap[c]? = some (.cells arr e f)) (harr : arr.toList = vs ++ rest)
    (hn : o + n ≤ vs.length) : (loadCells ⟨c, o, none⟩ n).run P w = .ok ((vs.drop o).take n).toArray w := by
  have hl : ((vs.drop o).take n).length = n := by simp; omega
  have := run_loadCells_list (P := P) w ⟨c, o, none⟩ ((vs.drop o).take n) (fun j v hj => by
    rw [add_spot]
    refine cell_at h ?_
    have hj' : j < n := by
      have := (List.getElem?_eq_some_iff.1 hj).1
      omega
    rw [harr, List.getElem?_append_left (by omega)]
    rw [List.getElem?_take_of_lt hj', List.getElem?_drop] at hj
    exact hj)
  rw [hl] at this
  exact this
theorem nthO_eq : ∀ {cs : List (Option V)} {o : Nat} {v : V}, nthO cs o = some v → cs[o]? = some (some v)
  | [], _, _, h => by simp [nthO] at h
  | x :: _, 0, _, h => by simp only [nthO] at h; simp [h]
  | _ :: l, o + 1, v, h => by simpa using nthO_eq (cs := l) (o := o) h
theorem cutO_eq : ∀ {cs : List (Option V)} {o n : Nat} {l : List V}, cutO cs o n = some l → l.length = n ∧ ∀ (i : Nat) (v : V), l[i]? = some v → cs[o + i]? = some (some v)
  | [], 0, 0, _, h => by simp [cutO] at h; subst h; simp
  | _ :: _, 0, 0, _, h => by simp [cutO] at h; subst h; simp
  | [], 0, _ + 1, _, h => by simp [cutO] at h
  | [], _ + 1, _, _, h => by simp [cutO] at h
  | x :: cs, 0, n + 1, l, h => by
    simp only [cutO] at h
    split at h <;> try simp at h
    rename_i v
    obtain ⟨l', h1, rfl⟩ := h
    obtain ⟨q1, q2⟩ := cutO_eq h1
    refine ⟨by simp [q1], fun i u hu => ?_⟩
    cases i with
    | zero => simpa using hu
    | succ i =>
      have := q2 i u (by simpa using hu)
      simpa using this
  | _ :: cs, o + 1, n, l, h => by
    simp only [cutO] at h
    obtain ⟨q1, q2⟩ := cutO_eq h
    refine ⟨q1, fun i u hu => ?_⟩
    have := q2 i u hu
    rw [show o + 1 + i = (o + i) + 1 by omega]
    simpa using this
theorem rd1_at {F : Nat → Prop} {R : Emb} {h : H} {w : World} {b c sz o : Nat} {bl : Blk} {v : V} (hs : Sim P F R h.get w) (hF : F b) (hb : R b = some (c, sz)) (hg : h.get b = some bl) (hv : bl.rd1 o = some v) :
    ∃ u, w.cell? ⟨c, o, none⟩ = some u ∧ conc R v = some u := by
  have hB := hs.blk b c sz bl hF hb hg
  cases bl with
  | cells cs =>
    obtain ⟨arr, e, vs, rest, h1, h2, h3, _⟩ := hB
    simp only [Blk.rd1] at hv
    rw [nth?_eq] at hv
    obtain ⟨u, hu, hc⟩ := concL_get h2 hv
    exact ⟨u, cell_at h1 (by rw [h3, List.getElem?_append_left (List.getElem?_eq_some_iff.1 hu).1]; exact hu), hc⟩
  | ro cs =>
    obtain ⟨arr, e, f, h1, _, h3⟩ := hB
    obtain ⟨x, q1, q2⟩ := h3 o v (nthO_eq hv)
    exact ⟨x, cell_at h1 q1, q2⟩
  | map _ => simp [Blk.rd1] at hv
  | loop _ => simp [Blk.rd1] at hv
theorem concL_of : ∀ {R : Emb} {l : List V}, (∀ (i : Nat) (v : V), l[i]? = some v → ∃ x, conc R v = some x) → ∃ us, concL R l = some us
  | _, [], _ => ⟨[], by simp [concL]⟩
  | R, v :: l, h => by
    obtain ⟨x, hx⟩ := h 0 v (by simp)
    obtain ⟨us, hu⟩ := concL_of (R := R) (l := l) fun i v hi => h (i + 1) v (by simpa using hi)
    exact ⟨x :: us, concL_cons.2 ⟨x, us, hx, hu, rfl⟩⟩
theorem rd_at {F : Nat → Prop} {R : Emb} {h : H} {w : World} {b c sz o n : Nat} {bl : Blk} {l : List V} (hs : Sim P F R h.get w) (hF : F b) (hb : R b = some (c, sz)) (hg : h.get b = some bl) (hv : bl.rd o n = some l) :
    ∃ us, concL R l = some us ∧ us.length = n ∧ (∀ j v, us[j]? = some v → w.cell? ⟨c, o + j, none⟩ = some v) ∧ (loadCells ⟨c, o, none⟩ n).run P w = .ok us.toArray w := by
  have key : ∃ us, concL R l = some us ∧ us.length = n ∧ ∀ j v, us[j]? = some v → w.cell? ⟨c, o + j, none⟩ = some v := by
    have hB := hs.blk b c sz bl hF hb hg
    cases bl with
    | cells cs =>
      obtain ⟨arr, e, vs, rest, h1, h2, h3, _⟩ := hB
      simp only [Blk.rd] at hv
      obtain ⟨hle, rfl⟩ := cut_eq.1 hv
      have hlen := concL_length h2
      refine ⟨_, concL_take n (concL_drop o h2), by simp; omega, fun j v hj => cell_at h1 ?_⟩
      have hj' : j < n := by
        have := (List.getElem?_eq_some_iff.1 hj).1
        simp at this; omega
      rw [h3, List.getElem?_append_left (by omega)]
      rw [List.getElem?_take_of_lt hj', List.getElem?_drop] at hj
      exact hj
    | ro cs =>
      obtain ⟨arr, e, f, h1, _, h3⟩ := hB
      obtain ⟨q1, q2⟩ := cutO_eq hv
      obtain ⟨us, hus⟩ := concL_of (R := R) (l := l) fun i v hi => let ⟨x, _, hx⟩ := h3 (o + i) v (q2 i v hi); ⟨x, hx⟩
      refine ⟨us, hus, by rw [concL_length hus, q1], fun j v hj => ?_⟩
      have hlt : j < l.length := by
        have := (List.getElem?_eq_some_iff.1 hj).1
        rw [concL_length hus] at this; exact this
      obtain ⟨u, hu, hc⟩ := concL_get hus (List.getElem?_eq_getElem hlt)
      obtain ⟨x, x1, x2⟩ := h3 (o + j) _ (q2 j _ (List.getElem?_eq_getElem hlt))
      rw [hc] at x2
      rw [hj] at hu
      cases x2; cases hu
      exact cell_at h1 x1
    | map _ => simp [Blk.rd] at hv
    | loop _ => simp [Blk.rd] at hv
  obtain ⟨us, h1, h2, h3⟩ := key
  refine ⟨us, h1, h2, h3, ?_⟩
  have := run_loadCells_list (P := P) w ⟨c, o, none⟩ us (fun j v hj => by rw [add_spot]; exact h3 j v hj)
  rw [h2] at this
  exact this
theorem setCell_heap {w : World} {c o : Nat} {arr : Array Value} {e : TypeId} {f : Nat × Nat} (v : Value) (h : w.heap[c]? = some (.cells arr e f)) :
    (w.setCell ⟨c, o, none⟩ v).heap[c]? = some (.cells (arr.setIfInBounds o v) e f) ∧ (∀ d, d ≠ c → (w.setCell ⟨c, o, none⟩ v).heap[d]? = w.heap[d]?) := by
  constructor
  · simp [World.setCell, Array.getElem?_modify, h]
  · intro d hd
    simp [World.setCell, Array.getElem?_modify, Ne.symm hd]
theorem list_store {α : Type} (L : List α) (k : Nat) (v : α) (vs : List α) (h : k + 1 + vs.length ≤ L.length) :
    (L.set k v).take (k + 1) ++ vs ++ (L.set k v).drop (k + 1 + vs.length) = L.take k ++ (v :: vs) ++ L.drop (k + (v :: vs).length) := by
  have e : L.set k v = L.take k ++ v :: L.drop (k + 1) := by rw [List.set_eq_take_append_cons_drop, if_pos (by omega)]
  have l1 : (L.take k).length = k := by simp; omega
  rw [e, List.take_append, List.drop_append, l1]
  rw [show k + 1 - k = 1 by omega, show k + 1 + vs.length - k = vs.length + 1 by omega]
  simp only [List.take_take, List.take_succ_cons, List.take_zero, List.drop_succ_cons, List.drop_drop, List.length_cons]
  rw [show min (k + 1) k = k by omega, List.drop_eq_nil_of_le (by omega), List.nil_append, show k + 1 + vs.length = k + (vs.length + 1) by omega]
  simp
theorem run_storeCells_list {c o sz : Nat} {e : Fr sz} : ∀ (vs : List Value) (i : Nat) (w : World) (arr : Array Value), arr.size = sz → w.heap[c]? = some (.cells arr e.ty e.fz) → o + i + vs.length ≤ arr.size →
    (∀ v ∈ vs, v.oneCell' = true) → ∃ w' arr', (storeCells ⟨c, o, none⟩ vs i).run P w = .ok () w' ∧ w'.heap.size = w.heap.size ∧ (∀ d, d ≠ c → w'.heap[d]? = w.heap[d]?) ∧
      w'.heap[c]? = some (.cells arr' e.ty e.fz) ∧ arr'.toList = arr.toList.take (o + i) ++ vs ++ arr.toList.drop (o + i + vs.length) ∧ SameIO w w'
  | [], i, w, arr, _, h, _, _ => ⟨w, arr, by simp [storeCells], rfl, fun _ _ => rfl, h, by simp, .refl w⟩
  | v :: vs, i, w, arr, ha, h, hn, hone => by
    simp only [List.length_cons] at hn
    obtain ⟨h1, h2⟩ := setCell_heap (o := o + i) v h
    obtain ⟨w', arr', r1, r2, r3, r4, r5, r6⟩ := run_storeCells_list (o := o) vs (i + 1) (w.setCell ⟨c, o + i, none⟩ v) (arr.setIfInBounds (o + i) v) (by simpa using ha) h1 (by simp; omega) (fun x hx => hone x (by simp [hx]))
    have hlt : o + i < arr.toList.length := by simp; omega
    have hcell : w.cell? ⟨c, o + i, none⟩ = some arr.toList[o + i] := cell_at h (List.getElem?_eq_getElem hlt)
    have hfz : w.frozen? ⟨c, o + i, none⟩ = false := by
      have := e.ok (o + i) (by omega)
      simpa [World.frozen?, h] using this
    refine ⟨w', arr', ?_, by simpa using r2, fun d hd => (r3 d hd).trans (h2 d hd), r4, ?_, SameIO.trans ⟨rfl, rfl, rfl⟩ r6⟩
    · simp only [storeCells, Sem.run_bind, add_spot, run_store P w _ v .plain (hone v (by simp)), hcell, hfz, Bool.false_eq_true, if_false, Result.andThen_ok]
      exact r1
    · rw [r5]
      have hlen : o + i + 1 + vs.length ≤ arr.toList.length := by have e1 : arr.toList.length = arr.size := Array.length_toList; omega
      simp only [Array.toList_setIfInBounds]
      rw [show o + (i + 1) = (o + i) + 1 by omega]
      exact list_store arr.toList (o + i) v vs hlen
end
end Go.Air
