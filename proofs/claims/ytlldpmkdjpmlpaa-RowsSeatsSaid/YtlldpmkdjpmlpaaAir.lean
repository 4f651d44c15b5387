/-
  A small machine without memory addresses of its own ('Air') over the translated code: its values, its heap of numbered blocks, its code and its evaluator.
  Nothing is proved here; it imports the model's values only for the kinds of integers and the operators' names.
-/
import GoSem.Core.Code
import GoSem.Core.Halt
import GoSem.Core.Lib
set_option linter.unusedSectionVars false
set_option linter.unusedVariables false
set_option linter.unusedSimpArgs false
namespace Go.Air

/-- Values. Blocks are numbers of the machine's own heap. The last part of a slice: none: its capacity is what it says; some e: it was grown by append, elements of e cells, its true capacity reaches to the end of its block. -/
inductive V where
  | b (x : Bool)
  | i (k : IntKind) (n : Int)
  | s (x : List Nat)
  | pn
  | p (blk off : Nat)
  | sn
  | sl (blk off len cap : Nat) (grown : Option Nat)
  /-- a slice without room, at whatever address -/
  | se (a : Addr)
  | mn
  | m (blk : Nat)
  | fnil
  | fn (f : Nat) (first caps : List V)
  | yld (l : Nat)
  | in0
  | ifc (t : Nat) (v : V)
  | agg (c : List V)
  | tup (c : List V)
  deriving Inhabited

def V.undef : V := .tup []

def V.cells : V → List V
  | .agg c => c
  | v => [v]

def V.oneCell : V → Bool
  | .agg _ | .tup _ => false
  | _ => true

/-- Operands. -/
inductive X where
  | t (n : Nat)
  | c (v : V)
  | f (n : Nat)
  deriving Inhabited

/-- A cell that is compared by its value. -/
inductive KT where
  | b | i (k : IntKind) | s
  deriving DecidableEq, Inhabited
/-- What two values of a type are compared by. -/
inductive EqK where
  | bool | ptr | slice | map | func | iface | agg (ks : List KT)
  deriving Inhabited
/-- A map's key. -/
inductive KK where
  | sc (k : KT)
  | ag (ks : List KT)
  deriving Inhabited

inductive A where
  | mov (x : X)
  | pick (c a b : X)
  | alloc (z : List V)
  | box (x : X)
  | build (z : List V) (parts : List (Nat × Nat × X))
  | buildSl (z : List V) (len : Nat) (parts : List (Nat × Nat × X))
  | ld (x : X)
  | ldn (n : Nat) (x : X)
  | st (n : Nat) (x v : X)
  | nilck (x : X)
  | bin (op : BinOp) (x y : X)
  | eqv (neg : Bool) (k : EqK) (x y : X)
  | un (op : UnOp) (x : X)
  | conv (k : IntKind) (x : X)
  | mkI (t : Nat) (x : X)
  | mkFn (f : Nat) (first caps : List X)
  | mkMap
  | mkSl (z : List V) (bytes : Nat) (len cap : X)
  | slc (esz : Nat) (x : X) (lo hi mx : Option X)
  | slcA (len esz : Nat) (x : X) (lo hi : Option X)
  | slcS (x : X) (lo hi : Option X)
  | fld (off : Nat) (x : X)
  | fldv (off : Nat) (sz : Option Nat) (x : X)
  | ixS (esz : Nat) (x ix : X)
  | ixA (len esz : Nat) (x ix : X)
  | ixStr (x ix : X)
  | ixV (len esz : Nat) (isAgg : Bool) (x ix : X)
  | look (kk : KK) (zero : V) (ok : Bool) (x k : X)
  | mapSet (kk : KK) (x k v : X)
  | ext (x : X) (n : Nat)
  | call (f : X) (args : List X)
  | lenS (x : X)
  | lenL (x : X)
  | lenC (n : Nat)
  | lenM (x : X)
  | app (esz bytes : Nat) (s x : X)
  | cpy (esz : Nat) (d s : X)
  | clr (z : List V) (x : X)
  | min (xs : List X)
  | max (xs : List X)
  /-- what the machine does not do -/
  | no
  deriving Inhabited

/-- One operation: where its value goes, the guard (a temporary and what it must hold), what is done. -/
structure O where
  dst : Option Nat
  g : Option (Nat × Bool)
  op : A
  deriving Inhabited

inductive C where
  | skip
  | ops (l : List O)
  /-- an open order: the operations in the text's order, and the pairs that are looked at while they run -/
  | draw (l : List O) (crit : List (Nat × Nat))
  | seq (a b : C)
  | cond (c : X) (a b : C)
  | block (id : Nat) (c : C)
  | loop (c : C)
  | exit (id : Nat)
  | ret
  | rangeF (f : X) (params : List Nat) (asg body : C)
  deriving Inhabited

inductive LState where
  | ready | busy | done | over
  deriving DecidableEq, Inhabited

/-- How a piece of code is left. -/
inductive Out where
  | norm
  | exit (id : Nat)
  | ret
  deriving DecidableEq, Inhabited

structure Loop where
  state : LState
  pending : Option Out
  tmps : List V
  params : List Nat
  asg : C
  body : C
  deriving Inhabited

inductive Blk where
  | cells (c : List V)
  /-- what is only read; a hole: not known -/
  | ro (c : List (Option V))
  | map (es : List (V × V))
  | loop (l : Loop)
  deriving Inhabited

/-! ### Numbered storage -/

inductive T (α : Type) where
  | e
  | n (l : T α) (x : Option α) (r : T α)

namespace T
variable {α : Type}
def get : T α → Nat → Option α
  | .e, _ => none
  | .n l x r, k => match k with
    | 0 => x
    | k + 1 => match k % 2 with
      | 0 => l.get (k / 2)
      | _ => r.get (k / 2)
def setF : Nat → T α → Nat → Option α → T α
  | 0, t, _, _ => t
  | _ + 1, .e, 0, v => .n .e v .e
  | _ + 1, .n l _ r, 0, v => .n l v r
  | f + 1, .e, k + 1, v => match k % 2 with
    | 0 => .n (setF f .e (k / 2) v) none .e
    | _ => .n .e none (setF f .e (k / 2) v)
  | f + 1, .n l x r, k + 1, v => match k % 2 with
    | 0 => .n (setF f l (k / 2) v) x r
    | _ => .n l x (setF f r (k / 2) v)
def set (t : T α) (k : Nat) (v : Option α) : T α := setF (k + 1) t k v
end T

/-- The heap: the next block's number, the blocks, the numbers of the blocks that were written (the last first). -/
structure H where
  next : Nat
  mem : T Blk
  log : List Nat

def H.get (h : H) (b : Nat) : Option Blk := h.mem.get b
def H.new (h : H) (x : Blk) : H := ⟨h.next + 1, h.mem.set h.next (some x), h.log⟩
def H.put (h : H) (b : Nat) (x : Blk) : H := ⟨h.next, h.mem.set b (some x), b :: h.log⟩
def H.kill (h : H) (b : Nat) : H := ⟨h.next, h.mem.set b none, b :: h.log⟩
def H.empty : H := ⟨0, .e, []⟩

/-! ### Lists -/

def nth : List V → Nat → V
  | [], _ => .undef
  | x :: _, 0 => x
  | _ :: l, n + 1 => nth l n
def nth? : List V → Nat → Option V
  | [], _ => none
  | x :: _, 0 => some x
  | _ :: l, n + 1 => nth? l n
def upd : List V → Nat → V → List V
  | [], _, _ => []
  | _ :: l, 0, v => v :: l
  | x :: l, n + 1, v => x :: upd l n v
/-- n elements from the place o on, if there are as many. -/
def cut : List V → (o n : Nat) → Option (List V)
  | _, 0, 0 => some []
  | [], _, _ => none
  | x :: l, 0, n + 1 => (cut l 0 n).map (x :: ·)
  | _ :: l, o + 1, n => cut l o n
/-- elements put over others from the place o on, if there is room. -/
def lay : List V → (o : Nat) → List V → Option (List V)
  | l, 0, [] => some l
  | [], _, _ => none
  | _ :: l, 0, v :: vs => (lay l 0 vs).map (v :: ·)
  | x :: l, o + 1, vs => (lay l o vs).map (x :: ·)

/-- the same of cells with holes. -/
def nthO : List (Option V) → Nat → Option V
  | [], _ => none
  | x :: _, 0 => x
  | _ :: l, n + 1 => nthO l n
def cutO : List (Option V) → (o n : Nat) → Option (List V)
  | _, 0, 0 => some []
  | [], _, _ => none
  | x :: l, 0, n + 1 => match x with
    | some v => (cutO l 0 n).map (v :: ·)
    | none => none
  | _ :: l, o + 1, n => cutO l o n
def Blk.rd1 : Blk → Nat → Option V
  | .cells c, o => nth? c o
  | .ro c, o => nthO c o
  | _, _ => none
def Blk.rd : Blk → (o n : Nat) → Option (List V)
  | .cells c, o, n => cut c o n
  | .ro c, o, n => cutO c o n
  | _, _, _ => none

def rep (z : List V) : Nat → List V
  | 0 => []
  | n + 1 => z ++ rep z n

/-! ### Operations on values alone -/

def X.ev (t : List V) : X → V
  | .t n => nth t n
  | .c v => v
  | .f n => .fn n [] []

def bytesLess : List Nat → List Nat → Bool
  | _, [] => false
  | [], _ :: _ => true
  | a :: x, b :: y => Nat.blt a b || (Nat.beq a b && bytesLess x y)
def bytesEq : List Nat → List Nat → Bool
  | [], [] => true
  | a :: x, b :: y => Nat.beq a b && bytesEq x y
  | _, _ => false

def bitsV (k : IntKind) (f : BitVec k.bits → BitVec k.bits → BitVec k.bits) (x y : Int) : V :=
  .i k (k.wrap (f (BitVec.ofInt k.bits x) (BitVec.ofInt k.bits y)).toNat)

def binI (op : BinOp) (k : IntKind) (a b : Int) : Option V :=
  match op with
  | .add => some (.i k (k.wrap (a + b)))
  | .sub => some (.i k (k.wrap (a - b)))
  | .mul => some (.i k (k.wrap (a * b)))
  | .quo => if b = 0 then none else some (.i k (k.wrap (a.tdiv b)))
  | .rem => if b = 0 then none else some (.i k (a.tmod b))
  | .and => some (bitsV k (fun x y => x &&& y) a b)
  | .or => some (bitsV k (fun x y => x ||| y) a b)
  | .xor => some (bitsV k (fun x y => x ^^^ y) a b)
  | .andNot => some (bitsV k (fun x y => x &&& ~~~y) a b)
  | .eql => some (.b (decide (a = b)))
  | .neq => some (.b (!decide (a = b)))
  | .lss => some (.b (decide (a < b)))
  | .leq => some (.b (decide (a ≤ b)))
  | .gtr => some (.b (decide (b < a)))
  | .geq => some (.b (decide (b ≤ a)))
  | _ => none

def shI (op : BinOp) (k : IntKind) (a b : Int) : Option V :=
  if b < 0 then none else
  match op with
  | .shl => some (.i k (k.wrap (a * 2 ^ (min b.toNat k.bits))))
  | .shr => some (.i k (a.fdiv (2 ^ (min b.toNat k.bits))))
  | _ => none

def binS (op : BinOp) (x y : List Nat) : Option V :=
  match op with
  | .add => if Nat.ble (x.length + y.length) 9223372036854775807 then some (.s (x ++ y)) else none
  | .eql => some (.b (bytesEq x y))
  | .neq => some (.b (!bytesEq x y))
  | .lss => some (.b (bytesLess x y))
  | .leq => some (.b (bytesLess x y || bytesEq x y))
  | .gtr => some (.b (!(bytesLess x y || bytesEq x y)))
  | .geq => some (.b (!bytesLess x y))
  | _ => none

def binV (op : BinOp) : V → V → Option V
  | .i k a, .i k' b =>
    match op with
    | .shl | .shr => shI op k a b
    | _ => if k = k' then binI op k a b else none
  | .s x, .s y => binS op x y
  | _, _ => none

def KT.fits : KT → V → Bool
  | .b, .b _ => true
  | .i k, .i k' _ => decide (k = k')
  | .s, .s _ => true
  | _, _ => false
def fitL : List KT → List V → Bool
  | [], [] => true
  | k :: ks, x :: xs => k.fits x && fitL ks xs
  | _, _ => false
def KK.fits : KK → V → Bool
  | .sc k, v => k.fits v
  | .ag ks, .agg c => fitL ks c
  | _, _ => false

def scalarEq : V → V → Bool
  | .b x, .b y => x == y
  | .i _ a, .i _ b => decide (a = b)
  | .s x, .s y => bytesEq x y
  | _, _ => false
def cellsEq : List V → List V → Bool
  | [], [] => true
  | x :: xs, y :: ys => scalarEq x y && cellsEq xs ys
  | _, _ => false

def eqV : EqK → V → V → Option Bool
  | .bool, .b x, .b y => some (x == y)
  | .ptr, .pn, .pn => some true
  | .ptr, .pn, .p _ _ | .ptr, .p _ _, .pn => some false
  | .slice, .sn, .sn => some true
  | .slice, .sn, .sl .. | .slice, .sl .., .sn => some false
  | .slice, .sn, .se _ | .slice, .se _, .sn => some false
  | .map, .mn, .mn => some true
  | .map, .mn, .m _ | .map, .m _, .mn => some false
  | .func, .fnil, .fnil => some true
  | .func, .fnil, .fn .. | .func, .fn .., .fnil => some false
  | .func, .fnil, .yld _ | .func, .yld _, .fnil => some false
  | .iface, .in0, .in0 => some true
  | .iface, .in0, .ifc .. | .iface, .ifc .., .in0 => some false
  | .agg ks, .agg x, .agg y => if fitL ks x && fitL ks y then some (cellsEq x y) else none
  | _, _, _ => none

def unV (op : UnOp) : V → Option V
  | .i k n => match op with
    | .neg => some (.i k (k.wrap (0 - n)))
    | .xor => some (bitsV k (fun x y => x ^^^ y) (if k.signed then -1 else k.max) n)
    | _ => none
  | .b x => match op with
    | .not => some (.b !x)
    | _ => none
  | _ => none

/-- parts put into zero cells. -/
def fill (t : List V) (z : List V) : List (Nat × Nat × X) → Option (List V)
  | [] => some z
  | (off, sz, x) :: rest =>
    let v := (x.ev t).cells
    if Nat.beq v.length sz then
      match lay z off v with
      | some z' => fill t z' rest
      | none => none
    else none

def natOf : V → Option Nat
  | .i _ (.ofNat n) => some n
  | _ => none

def keyEq : V → V → Bool
  | .agg x, .agg y => cellsEq x y
  | x, y => scalarEq x y

/-- the value at a key (which fits, as do all keys). -/
def find (kk : KK) (k : V) : List (V × V) → Option (Option V)
  | [] => some none
  | e :: es => if kk.fits e.1 then (if keyEq k e.1 then some (some e.2) else find kk k es) else none
/-- an entry's value turned, or a new entry at the end. -/
def mput (kk : KK) (k v : V) : List (V × V) → Option (List (V × V))
  | [] => some [(k, v)]
  | e :: es => if kk.fits e.1 then (if keyEq k e.1 then some ((e.1, v) :: es) else (mput kk k v es).map (e :: ·)) else none

/-! ### Operations -/

/-- An operation's outcome. -/
inductive RO where
  | fail
  | ok (v : V) (h : H)
  deriving Inhabited

/-- A list of operations' outcome. -/
inductive RL where
  | fail
  | ok (t : List V) (h : H)
  deriving Inhabited

/-- A piece of code's outcome. -/
inductive RC where
  | fail
  | ok (o : Out) (t : List V) (h : H)
  deriving Inhabited

def RO.ofV (h : H) : Option V → RO
  | some v => .ok v h
  | none => .fail

/-- bounds of a slice expression: from, to. -/
def bounds (t : List V) (len cap : Nat) (lo hi : Option X) : Option (Nat × Nat) :=
  match (match hi with
    | none => some len
    | some x => natOf (x.ev t)) with
  | none => none
  | some b =>
    if Nat.ble b cap then
      match (match lo with
        | none => some 0
        | some x => natOf (x.ev t)) with
      | none => none
      | some a => if Nat.ble a b then some (a, b) else none
    else none

def sliceV (esz : Nat) (t : List V) (lo hi : Option X) : V → Option V
  | .sn => match bounds t 0 0 lo hi with
    | some _ => some .sn
    | none => none
  | .se a => match bounds t 0 0 lo hi with
    | some _ => some (.se a)
    | none => none
  | .sl blk off len cap g =>
    match bounds t len cap lo hi with
    | none => none
    | some (a, b) =>
      match g with
      | none => some (.sl blk (if Nat.beq a cap then off else off + a * esz) (b - a) (cap - a) none)
      | some e => if Nat.blt a cap && Nat.beq e esz then some (.sl blk (off + a * esz) (b - a) (cap - a) (some e)) else none
  | _ => none

def sliceV3 (esz : Nat) (t : List V) (lo hi : Option X) (mx : X) : V → Option V
  | .sl blk off _ cap _ =>
    match natOf (mx.ev t), hi with
    | some m, some _ =>
      if Nat.ble m cap then
        match bounds t m m lo hi with
        | none => none
        | some (a, b) => some (.sl blk (if Nat.beq a m then off else off + a * esz) (b - a) (m - a) none)
      else none
    | _, _ => none
  | .se a =>
    match natOf (mx.ev t), hi with
    | some m, some _ =>
      if Nat.beq m 0 then
        match bounds t 0 0 lo hi with
        | none => none
        | some _ => some (.se a)
      else none
    | _, _ => none
  | _ => none

/-- the cells of n elements of a source. -/
def sourceCells (esz n : Nat) (h : H) : V → Option (List V)
  | .sn => if Nat.beq n 0 then some [] else none
  | .se _ => if Nat.beq n 0 then some [] else none
  | .sl blk off _ _ _ => match h.get blk with
    | some bl => bl.rd off (n * esz)
    | none => none
  | .s x => if Nat.beq esz 1 then (cut (x.map fun c => .i .u8 (.ofNat c)) 0 (x.length)).bind fun l => cut l 0 n else none
  | _ => none

def sourceLen : V → Option Nat
  | .sn => some 0
  | .se _ => some 0
  | .sl _ _ len _ _ => some len
  | .s x => some x.length
  | _ => none

def storeAt (h : H) (blk off : Nat) (vs : List V) : Option H :=
  match h.get blk with
  | some (.cells cs) => match lay cs off vs with
    | some cs' => if vs.all V.oneCell then some (h.put blk (.cells cs')) else none
    | none => none
  | _ => none

def appendV (esz bytes : Nat) (h : H) (s x : V) : RO :=
  match sourceLen x with
  | none => .fail
  | some n =>
    match sourceCells esz n h x with
    | none => .fail
    | some new =>
      if Nat.ble ((2 * n + 200) * bytes) 281474976710656 && Nat.blt 0 bytes && Nat.blt 0 esz then
      match s with
      | .sn => if Nat.beq n 0 then .ok .sn h else .ok (.sl h.next 0 n n (some esz)) (h.new (.cells new))
      | .se a => if Nat.beq n 0 then .ok (.se a) h else .ok (.sl h.next 0 n n (some esz)) (h.new (.cells new))
      | .sl blk off len cap g =>
        if Nat.ble (len + n) cap then
          match storeAt h blk (off + len * esz) new with
          | some h' => .ok (.sl blk off (len + n) cap g) h'
          | none => .fail
        else if Nat.ble ((2 * (len + n) + 200) * bytes) 281474976710656 then
          match g with
          | none =>
            match h.get blk with
            | some bl =>
              match bl.rd off (len * esz) with
              | none => .fail
              | some old => .ok (.sl h.next 0 (len + n) (len + n) (some esz)) (h.new (.cells (old ++ new)))
            | none => .fail
          | some e =>
            match h.get blk with
            | some (.cells cs) =>
              match cut cs off (len * esz) with
              | none => .fail
              | some old =>
                if Nat.beq e esz && Nat.beq off 0 && Nat.beq cs.length (cap * esz) && new.all V.oneCell then
                  .ok (.sl h.next 0 (len + n) (len + n) (some esz)) ((h.kill blk).new (.cells (old ++ new)))
                else .fail
            | _ => .fail
        else .fail
      | _ => .fail
      else .fail

def copyV (esz : Nat) (h : H) (d s : V) : RO :=
  match sourceLen s with
  | none => .fail
  | some m =>
    match d with
    | .sn => .ok (.i .i64 0) h
    | .sl blk off len _ _ =>
      match sourceCells esz (Nat.min m len) h s with
      | none => .fail
      | some l => match storeAt h blk off l with
        | some h' => .ok (.i .i64 (.ofNat (Nat.min m len))) h'
        | none => .fail
    | _ => .fail

def mmI (g : Bool) (x y : V) : Option V :=
  match x, y with
  | .i k a, .i _ b => some (.i k (if g then (if a < b then b else a) else (if b < a then b else a)))
  | _, _ => none
def minI (g : Bool) (x : V) : List V → Option V
  | [] => some x
  | y :: l => match mmI g x y with
    | some z => minI g z l
    | none => none
def minL (g : Bool) : List V → Option V
  | [] => none
  | x :: l => minI g x l

def evA (call : V → List V → H → RO) (op : A) (t : List V) (h : H) : RO :=
  match op with
  | .mov x => .ok (x.ev t) h
  | .pick c a b => match c.ev t with
    | .b true => .ok (a.ev t) h
    | .b false => .ok (b.ev t) h
    | _ => .fail
  | .alloc z => .ok (.p h.next 0) (h.new (.cells z))
  | .box x => .ok (.p h.next 0) (h.new (.cells (x.ev t).cells))
  | .build z parts => match fill t z parts with
    | some c => .ok (.agg c) h
    | none => .fail
  | .buildSl z len parts => match fill t z parts with
    | some c => .ok (.sl h.next 0 len len none) (h.new (.cells c))
    | none => .fail
  | .ld x => match x.ev t with
    | .p b o => match h.get b with
      | some bl => RO.ofV h (bl.rd1 o)
      | none => .fail
    | _ => .fail
  | .ldn n x => match x.ev t with
    | .p b o => match h.get b with
      | some bl => match bl.rd o n with
        | some l => .ok (.agg l) h
        | none => .fail
      | none => .fail
    | _ => .fail
  | .st n x v => match x.ev t with
    | .p b o =>
      if Nat.beq (v.ev t).cells.length n then
        match storeAt h b o (v.ev t).cells with
        | some h' => .ok .undef h'
        | none => .fail
      else .fail
    | _ => .fail
  | .nilck x => match x.ev t with
    | .p b o => .ok (.p b o) h
    | .fn f a c => .ok (.fn f a c) h
    | .yld l => .ok (.yld l) h
    | _ => .fail
  | .bin op x y => RO.ofV h (binV op (x.ev t) (y.ev t))
  | .eqv neg k x y => match eqV k (x.ev t) (y.ev t) with
    | some r => .ok (.b (if neg then !r else r)) h
    | none => .fail
  | .un op x => RO.ofV h (unV op (x.ev t))
  | .conv k x => match x.ev t with
    | .i _ n => .ok (.i k (k.wrap n)) h
    | _ => .fail
  | .mkI ty x => .ok (.ifc ty (x.ev t)) h
  | .mkFn f a c => .ok (.fn f (a.map (X.ev t)) (c.map (X.ev t))) h
  | .mkMap => .ok (.m h.next) (h.new (.map []))
  | .mkSl z bytes l c => match natOf (l.ev t), natOf (c.ev t) with
    | some l, some c =>
      if Nat.ble l c && Nat.ble c 281474976710656 && Nat.ble (bytes * c) 281474976710656 then
        .ok (.sl h.next 0 l c none) (h.new (.cells (rep z c)))
      else .fail
    | _, _ => .fail
  | .slc esz x lo hi mx => match mx with
    | none => RO.ofV h (sliceV esz t lo hi (x.ev t))
    | some m => RO.ofV h (sliceV3 esz t lo hi m (x.ev t))
  | .slcA len esz x lo hi => match x.ev t with
    | .p b o => match bounds t len len lo hi with
      | some (l, r) => .ok (.sl b (if Nat.beq l len then o else o + l * esz) (r - l) (len - l) none) h
      | none => .fail
    | _ => .fail
  | .slcS x lo hi => match x.ev t with
    | .s x => match bounds t x.length x.length lo hi with
      | some (l, r) => .ok (.s ((x.drop l).take (r - l))) h
      | none => .fail
    | _ => .fail
  | .fld off x => match x.ev t with
    | .p b o => .ok (.p b (o + off)) h
    | _ => .fail
  | .fldv off sz x => match x.ev t with
    | .agg c => match sz with
      | none => RO.ofV h (nth? c off)
      | some n => match cut c off n with
        | some l => .ok (.agg l) h
        | none => .fail
    | _ => .fail
  | .ixS esz x ix => match x.ev t, natOf (ix.ev t) with
    | .sl b o len _ _, some n => if Nat.blt n len then .ok (.p b (o + n * esz)) h else .fail
    | _, _ => .fail
  | .ixA len esz x ix => match x.ev t, natOf (ix.ev t) with
    | .p b o, some n => if Nat.blt n len then .ok (.p b (o + n * esz)) h else .fail
    | _, _ => .fail
  | .ixStr x ix => match x.ev t, natOf (ix.ev t) with
    | .s x, some n => match x[n]? with
      | some c => .ok (.i .u8 (.ofNat c)) h
      | none => .fail
    | _, _ => .fail
  | .ixV len esz isAgg x ix => match x.ev t, natOf (ix.ev t) with
    | .agg c, some n =>
      if Nat.blt n len then
        (if isAgg then match cut c (n * esz) esz with
          | some l => .ok (.agg l) h
          | none => .fail
        else RO.ofV h (nth? c (n * esz)))
      else .fail
    | _, _ => .fail
  | .look kk zero ok x k =>
    let key := k.ev t
    if kk.fits key then
      match (match x.ev t with
        | .mn => some none
        | .m b => match h.get b with
          | some (.map es) => find kk key es
          | _ => none
        | _ => none) with
      | none => .fail
      | some r =>
        let v := r.getD zero
        .ok (if ok then .tup [v, .b r.isSome] else v) h
    else .fail
  | .mapSet kk x k v => match x.ev t with
    | .m b => match h.get b with
      | some (.map es) =>
        if kk.fits (k.ev t) then
          match mput kk (k.ev t) (v.ev t) es with
          | some es' => .ok .undef (h.put b (.map es'))
          | none => .fail
        else .fail
      | _ => .fail
    | _ => .fail
  | .ext x n => match x.ev t with
    | .tup c => RO.ofV h (nth? c n)
    | _ => .fail
  | .call f args => call (f.ev t) (args.map (X.ev t)) h
  | .lenS x => match x.ev t with
    | .s x => .ok (.i .i64 (.ofNat x.length)) h
    | _ => .fail
  | .lenL x => match x.ev t with
    | .sn => .ok (.i .i64 0) h
    | .se _ => .ok (.i .i64 0) h
    | .sl _ _ n _ _ => .ok (.i .i64 (.ofNat n)) h
    | _ => .fail
  | .lenC n => .ok (.i .i64 (.ofNat n)) h
  | .lenM x => match x.ev t with
    | .mn => .ok (.i .i64 0) h
    | .m b => match h.get b with
      | some (.map es) => .ok (.i .i64 (.ofNat es.length)) h
      | _ => .fail
    | _ => .fail
  | .app esz bytes s x => appendV esz bytes h (s.ev t) (x.ev t)
  | .cpy esz d s => copyV esz h (d.ev t) (s.ev t)
  | .clr z x => match x.ev t with
    | .sn => .ok .undef h
    | .sl b o n _ _ => if Nat.beq n 0 then .ok .undef h else match storeAt h b o (rep z n) with
      | some h' => .ok .undef h'
      | none => .fail
    | _ => .fail
  | .min xs => RO.ofV h (minL false (xs.map (X.ev t)))
  | .max xs => RO.ofV h (minL true (xs.map (X.ev t)))
  | .no => .fail

def wants (g : Option (Nat × Bool)) (t : List V) : Bool :=
  match g with
  | none => true
  | some (n, w) => match nth t n with
    | .b x => x == w
    | _ => false

def putD (t : List V) (d : Option Nat) (v : V) : List V :=
  match d with
  | none => t
  | some n => upd t n v

def runOps (call : V → List V → H → RO) : List O → List V → H → RL
  | [], t, h => .ok t h
  | o :: l, t, h =>
    match wants o.g t with
    | true => match evA call o.op t h with
      | .ok v h' => runOps call l (putD t o.dst v) h'
      | .fail => .fail
    | false => runOps call l (putD t o.dst .undef) h

/-! ### An open order -/

/-- What an operation looked at (none: whatever there is) and which blocks of before it wrote. -/
structure Foot where
  rd : Option (List Nat)
  wr : List Nat

def blockOf : V → List Nat
  | .p b _ => [b]
  | .m b => [b]
  | .sl b _ _ _ _ => [b]
  | _ => []

def reads (op : A) (t : List V) : Option (List Nat) :=
  match op with
  | .ld x | .ldn _ x | .st _ x _ | .look _ _ _ x _ | .mapSet _ x _ _ | .lenM x => some (blockOf (x.ev t))
  | .call .. | .app .. | .cpy .. | .clr .. => none
  | _ => some []

/-- the blocks of before (below n) among those written. -/
def oldOnes (n : Nat) : List Nat → List Nat
  | [] => []
  | x :: l => if Nat.blt x n then x :: oldOnes n l else oldOnes n l

def apart (a b : Foot) : Bool :=
  (match b.rd with
    | none => a.wr.isEmpty
    | some r => a.wr.all fun x => !r.contains x) &&
  (match a.rd with
    | none => b.wr.isEmpty
    | some r => b.wr.all fun x => !r.contains x) &&
  a.wr.all fun x => !b.wr.contains x

inductive RD where
  | fail
  | ok (t : List V) (h : H) (f : List Foot)

def runDraw (call : V → List V → H → RO) : List O → List V → H → List Foot → RD
  | [], t, h, f => .ok t h f
  | o :: l, t, h, f =>
    match wants o.g t with
    | true => match evA call o.op t ⟨h.next, h.mem, []⟩ with
      | .ok v h' => runDraw call l (putD t o.dst v) ⟨h'.next, h'.mem, oldOnes h.next h'.log ++ h.log⟩ (f ++ [⟨reads o.op t, oldOnes h.next h'.log⟩])
      | .fail => .fail
    | false => runDraw call l (putD t o.dst .undef) h (f ++ [⟨some [], []⟩])

def critOk (f : List Foot) (crit : List (Nat × Nat)) : Bool :=
  crit.all fun (i, j) => match f[i]?, f[j]? with
    | some a, some b => apart a b
    | _, _ => false

/-! ### Code -/

inductive ResV where
  | tmp (t : Nat)
  | cell (t : Nat) (n : Option Nat)
  /-- a value, where there are no temporaries -/
  | only (v : V)
  deriving Inhabited

structure FI where
  ntmps : Nat
  res : List ResV
  body : C
  deriving Inhabited

def resultOf (t : List V) (h : H) : ResV → Option V
  | .tmp n => some (nth t n)
  | .only v => match t with
    | [] => some v
    | _ => none
  | .cell n sz => match nth t n with
    | .p b o => match h.get b with
      | some (.cells cs) => match sz with
        | none => nth? cs o
        | some k => (cut cs o k).map .agg
      | _ => none
    | _ => none

def resultsOf (t : List V) (h : H) : List ResV → Option (List V)
  | [] => some []
  | r :: l => match resultOf t h r with
    | some v => (resultsOf t h l).map (v :: ·)
    | none => none

def packR : List V → V
  | [v] => v
  | l => .tup l

def updAll : List V → List Nat → List V → List V
  | t, p :: ps, v :: vs => updAll (upd t p v) ps vs
  | t, _, _ => t

def pad (l : List V) (n : Nat) : List V := l ++ List.replicate (n - l.length) .undef

/-- A call of a function value, code being run by r. -/
def callV (tbl : Nat → Option FI) (r : C → List V → H → RC) (f : V) (args : List V) (h : H) : RO :=
  match f with
  | .fn g first caps =>
    match tbl g with
    | none => .fail
    | some fi =>
      match r fi.body (pad (first ++ args ++ caps) fi.ntmps) h with
      | .fail => .fail
      | .ok o t h' =>
        match o with
        | .exit _ => .fail
        | _ => match resultsOf t h' fi.res with
          | some l => .ok (packR l) h'
          | none => .fail
  | .yld l =>
    match h.get l with
    | some (.loop lp) =>
      if Nat.beq args.length lp.params.length then
        match r lp.asg (updAll lp.tmps lp.params args) h with
        | .ok .norm t h1 =>
          match h1.get l with
          | some (.loop lp1) =>
            if lp1.state = .ready then
              match r lp.body t (h1.put l (.loop { lp1 with state := .busy })) with
              | .ok o _ h2 =>
                match h2.get l with
                | some (.loop lp2) =>
                  if lp2.state = .busy then
                    match o with
                    | .norm => .ok (.b true) (h2.put l (.loop { lp2 with state := .ready, pending := none }))
                    | o => .ok (.b false) (h2.put l (.loop { lp2 with state := .done, pending := some o }))
                  else .fail
                | _ => .fail
              | .fail => .fail
            else .fail
          | _ => .fail
        | _ => .fail
      else .fail
    | _ => .fail
  | _ => .fail

def stepC (tbl : Nat → Option FI) (r : C → List V → H → RC) (c : C) (t : List V) (h : H) : RC :=
  match c with
  | .skip => .ok .norm t h
  | .ops l => match runOps (callV tbl r) l t h with
    | .ok t' h' => .ok .norm t' h'
    | .fail => .fail
  | .draw l crit => match runDraw (callV tbl r) l t h [] with
    | .ok t' h' f => if critOk f crit then .ok .norm t' h' else .fail
    | .fail => .fail
  | .seq a b => match r a t h with
    | .ok .norm t' h' => r b t' h'
    | x => x
  | .cond x a b => match x.ev t with
    | .b true => r a t h
    | .b false => r b t h
    | _ => .fail
  | .block id a => match r a t h with
    | .ok (.exit i) t' h' => if Nat.beq i id then .ok .norm t' h' else .ok (.exit i) t' h'
    | x => x
  | .loop a => match r a t h with
    | .ok .norm t' h' => r (.loop a) t' h'
    | x => x
  | .exit id => .ok (.exit id) t h
  | .ret => .ok .ret t h
  | .rangeF f ps asg body =>
    match f.ev t with
    | .fn g a c =>
      match callV tbl r (.fn g a c) [.yld h.next] (h.new (.loop ⟨.ready, none, t, ps, asg, body⟩)) with
      | .fail => .fail
      | .ok _ h' =>
        match h'.get h.next with
        | some (.loop lp) =>
          if lp.state = .busy then .fail
          else .ok (lp.pending.getD .norm) t (h'.put h.next (.loop { lp with state := .over }))
        | _ => .fail
    | _ => .fail

def E (tbl : Nat → Option FI) : Nat → C → List V → H → RC
  | 0 => fun _ _ _ => .fail
  | k + 1 => stepC tbl (E tbl k)

/-- A call of a function by its number. -/
def run (tbl : Nat → Option FI) (k : Nat) (f : Nat) (args : List V) (h : H) : RO := callV tbl (E tbl k) (.fn f [] []) args h

end Go.Air
