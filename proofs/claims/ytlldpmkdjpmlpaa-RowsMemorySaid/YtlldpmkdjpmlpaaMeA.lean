/-
  A part of the proof of: The row RowsMemory, from the law in Air.
-/
import GoSem.Core.Code
import GoSem.Core.Halt
import GoSem.Core.Lib
set_option linter.unusedSectionVars false
set_option linter.unusedVariables false
set_option linter.unusedSimpArgs false
namespace Go.Air
inductive V where
  | b (x : Bool)
  | i (k : IntKind) (n : Int)
  | s (x : List Nat)
  | pn
  | p (blk off : Nat)
  | sn
  | sl (blk off len cap : Nat) (grown : Option Nat)
  | se (a : Addr)
  | mn
  | m (blk : Nat)
  | fnil
  | fn (f : Nat) (first caps : List V)
  | yld (l : Nat)
  | in0
  | ifc (t : Nat) (v : V)
  | agg (c : List V)
  | tup (c : List V)
  deriving Inhabited
def V.undef : V := .tup []
def V.cells : V → List V
  | .agg c => c
  | v => [v]
def V.oneCell : V → Bool
  | .agg _ | .tup _ => false
  | _ => true
inductive X where
  | t (n : Nat)
  | c (v : V)
  | f (n : Nat)
  deriving Inhabited
inductive KT where
  | b | i (k : IntKind) | s
  deriving DecidableEq, Inhabited
inductive EqK where
  | bool | ptr | slice | map | func | iface | agg (ks : List KT)
  deriving Inhabited
inductive KK where
  | sc (k : KT)
  | ag (ks : List KT)
  deriving Inhabited
inductive A where
  | mov (x : X)
  | pick (c a b : X)
  | alloc (z : List V)
  | box (x : X)
  | build (z : List V) (parts : List (Nat × Nat × X))
  | buildSl (z : List V) (len : Nat) (parts : List (Nat × Nat × X))
  | ld (x : X)
  | ldn (n : Nat) (x : X)
  | st (n : Nat) (x v : X)
  | nilck (x : X)
  | bin (op : BinOp) (x y : X)
  | eqv (neg : Bool) (k : EqK) (x y : X)
  | un (op : UnOp) (x : X)
  | conv (k : IntKind) (x : X)
  | mkI (t : Nat) (x : X)
  | mkFn (f : Nat) (first caps : List X)
  | mkMap
  | mkSl (z : List V) (bytes : Nat) (len cap : X)
  | slc (esz : Nat) (x : X) (lo hi mx : Option X)
  | slcA (len esz : Nat) (x : X) (lo hi : Option X)
  | slcS (x : X) (lo hi : Option X)
  | fld (off : Nat) (x : X)
  | fldv (off : Nat) (sz : Option Nat) (x : X)
  | ixS (esz : Nat) (x ix : X)
  | ixA (len esz : Nat) (x ix : X)
  | ixStr (x ix : X)
  | ixV (len esz : Nat) (isAgg : Bool) (x ix : X)
  | look (kk : KK) (zero : V) (ok : Bool) (x k : X)
  | mapSet (kk : KK) (x k v : X)
  | ext (x : X) (n : Nat)
  | call (f : X) (args : List X)
  | lenS (x : X)
  | lenL (x : X)
  | lenC (n : Nat)
  | lenM (x : X)
  | app (esz bytes : Nat) (s x : X)
  | cpy (esz : Nat) (d s : X)
  | clr (z : List V) (x : X)
  | min (xs : List X)
  | max (xs : List X)
  | no
  deriving Inhabited
structure O where
  dst : Option Nat
  g : Option (Nat × Bool)
  op : A
  deriving Inhabited
inductive C where
  | skip
  | ops (l : List O)
  | draw (l : List O) (crit : List (Nat × Nat))
  | seq (a b : C)
  | cond (c : X) (a b : C)
  | block (id : Nat) (c : C)
  | loop (c : C)
  | exit (id : Nat)
  | ret
  | rangeF (f : X) (params : List Nat) (asg body : C)
  deriving Inhabited
inductive LState where
  | ready | busy | done | over
  deriving DecidableEq, Inhabited
inductive Out where
  | norm
  | exit (id : Nat)
  | ret
  deriving DecidableEq, Inhabited
structure Loop where
  state : LState
  pending : Option Out
  tmps : List V
  params : List Nat
  asg : C
  body : C
  deriving Inhabited
inductive Blk where
  | cells (c : List V)
  | ro (c : List (Option V))
  | map (es : List (V × V))
  | loop (l : Loop)
  deriving Inhabited
inductive T (α : Type) where
  | e
  | n (l : T α) (x : Option α) (r : T α)
namespace T
variable {α : Type}
def get : T α → Nat → Option α
  | .e, _ => none
  | .n l x r, k => match k with
    | 0 => x
    | k + 1 => match k % 2 with
      | 0 => l.get (k / 2)
      | _ => r.get (k / 2)
def setF : Nat → T α → Nat → Option α → T α
  | 0, t, _, _ => t
  | _ + 1, .e, 0, v => .n .e v .e
  | _ + 1, .n l _ r, 0, v => .n l v r
  | f + 1, .e, k + 1, v => match k % 2 with
    | 0 => .n (setF f .e (k / 2) v) none .e
    | _ => .n .e none (setF f .e (k / 2) v)
  | f + 1, .n l x r, k + 1, v => match k % 2 with
    | 0 => .n (setF f l (k / 2) v) x r
    | _ => .n l x (setF f r (k / 2) v)
def set (t : T α) (k : Nat) (v : Option α) : T α := setF (k + 1) t k v
end T
structure H where
  next : Nat
  mem : T Blk
  log : List Nat
def H.get (h : H) (b : Nat) : Option Blk := h.mem.get b
def H.new (h : H) (x : Blk) : H := ⟨h.next + 1, h.mem.set h.next (some x), h.log⟩
def H.put (h : H) (b : Nat) (x : Blk) : H := ⟨h.next, h.mem.set b (some x), b :: h.log⟩
def H.kill (h : H) (b : Nat) : H := ⟨h.next, h.mem.set b none, b :: h.log⟩
def H.empty : H := ⟨0, .e, []⟩
def nth : List V → Nat → V
  | [], _ => .undef
  | x :: _, 0 => x
  | _ :: l, n + 1 => nth l n
def nth? : List V → Nat → Option V
  | [], _ => none
  | x :: _, 0 => some x
  | _ :: l, n + 1 => nth? l n
def upd : List V → Nat → V → List V
  | [], _, _ => []
  | _ :: l, 0, v => v :: l
  | x :: l, n + 1, v => x :: upd l n v
def cut : List V → (o n : Nat) → Option (List V)
  | _, 0, 0 => some []
  | [], _, _ => none
  | x :: l, 0, n + 1 => (cut l 0 n).map (x :: ·)
  | _ :: l, o + 1, n => cut l o n
def lay : List V → (o : Nat) → List V → Option (List V)
  | l, 0, [] => some l
  | [], _, _ => none
  | _ :: l, 0, v :: vs => (lay l 0 vs).map (v :: ·)
  | x :: l, o + 1, vs => (lay l o vs).map (x :: ·)
def nthO : List (Option V) → Nat → Option V
  | [], _ => none
  | x :: _, 0 => x
  | _ :: l, n + 1 => nthO l n
def cutO : List (Option V) → (o n : Nat) → Option (List V)
  | _, 0, 0 => some []
  | [], _, _ => none
  | x :: l, 0, n + 1 => match x with
    | some v => (cutO l 0 n).map (v :: ·)
    | none => none
  | _ :: l, o + 1, n => cutO l o n
def Blk.rd1 : Blk → Nat → Option V
  | .cells c, o => nth? c o
  | .ro c, o => nthO c o
  | _, _ => none
def Blk.rd : Blk → (o n : Nat) → Option (List V)
  | .cells c, o, n => cut c o n
  | .ro c, o, n => cutO c o n
  | _, _, _ => none
def rep (z : List V) : Nat → List V
  | 0 => []
  | n + 1 => z ++ rep z n
def X.ev (t : List V) : X → V
  | .t n => nth t n
  | .c v => v
  | .f n => .fn n [] []
def bytesLess : List Nat → List Nat → Bool
  | _, [] => false
  | [], _ :: _ => true
  | a :: x, b :: y => Nat.blt a b || (Nat.beq a b && bytesLess x y)
def bytesEq : List Nat → List Nat → Bool
  | [], [] => true
  | a :: x, b :: y => Nat.beq a b && bytesEq x y
  | _, _ => false
def bitsV (k : IntKind) (f : BitVec k.bits → BitVec k.bits → BitVec k.bits) (x y : Int) : V :=
  .i k (k.wrap (f (BitVec.ofInt k.bits x) (BitVec.ofInt k.bits y)).toNat)
def binI (op : BinOp) (k : IntKind) (a b : Int) : Option V :=
  match op with
  | .add => some (.i k (k.wrap (a + b)))
  | .sub => some (.i k (k.wrap (a - b)))
  | .mul => some (.i k (k.wrap (a * b)))
  | .quo => if b = 0 then none else some (.i k (k.wrap (a.tdiv b)))
  | .rem => if b = 0 then none else some (.i k (a.tmod b))
  | .and => some (bitsV k (fun x y => x &&& y) a b)
  | .or => some (bitsV k (fun x y => x ||| y) a b)
  | .xor => some (bitsV k (fun x y => x ^^^ y) a b)
  | .andNot => some (bitsV k (fun x y => x &&& ~~~y) a b)
  | .eql => some (.b (decide (a = b)))
  | .neq => some (.b (!decide (a = b)))
  | .lss => some (.b (decide (a < b)))
  | .leq => some (.b (decide (a ≤ b)))
  | .gtr => some (.b (decide (b < a)))
  | .geq => some (.b (decide (b ≤ a)))
  | _ => none
def shI (op : BinOp) (k : IntKind) (a b : Int) : Option V :=
  if b < 0 then none else
  match op with
  | .shl => some (.i k (k.wrap (a * 2 ^ (min b.toNat k.bits))))
  | .shr => some (.i k (a.fdiv (2 ^ (min b.toNat k.bits))))
  | _ => none
def binS (op : BinOp) (x y : List Nat) : Option V :=
  match op with
  | .add => if Nat.ble (x.length + y.length) 9223372036854775807 then some (.s (x ++ y)) else none
  | .eql => some (.b (bytesEq x y))
  | .neq => some (.b (!bytesEq x y))
  | .lss => some (.b (bytesLess x y))
  | .leq => some (.b (bytesLess x y || bytesEq x y))
  | .gtr => some (.b (!(bytesLess x y || bytesEq x y)))
  | .geq => some (.b (!bytesLess x y))
  | _ => none
def binV (op : BinOp) : V → V → Option V
  | .i k a, .i k' b =>
    match op with
    | .shl | .shr => shI op k a b
    | _ => if k = k' then binI op k a b else none
  | .s x, .s y => binS op x y
  | _, _ => none
def KT.fits : KT → V → Bool
  | .b, .b _ => true
  | .i k, .i k' _ => decide (k = k')
  | .s, .s _ => true
  | _, _ => false
def fitL : List KT → List V → Bool
  | [], [] => true
  | k :: ks, x :: xs => k.fits x && fitL ks xs
  | _, _ => false
def KK.fits : KK → V → Bool
  | .sc k, v => k.fits v
  | .ag ks, .agg c => fitL ks c
  | _, _ => false
def scalarEq : V → V → Bool
  | .b x, .b y => x == y
  | .i _ a, .i _ b => decide (a = b)
  | .s x, .s y => bytesEq x y
  | _, _ => false
def cellsEq : List V → List V → Bool
  | [], [] => true
  | x :: xs, y :: ys => scalarEq x y && cellsEq xs ys
  | _, _ => false
def eqV : EqK → V → V → Option Bool
  | .bool, .b x, .b y => some (x == y)
  | .ptr, .pn, .pn => some true
  | .ptr, .pn, .p _ _ | .ptr, .p _ _, .pn => some false
  | .slice, .sn, .sn => some true
  | .slice, .sn, .sl .. | .slice, .sl .., .sn => some false
  | .slice, .sn, .se _ | .slice, .se _, .sn => some false
  | .map, .mn, .mn => some true
  | .map, .mn, .m _ | .map, .m _, .mn => some false
  | .func, .fnil, .fnil => some true
  | .func, .fnil, .fn .. | .func, .fn .., .fnil => some false
  | .func, .fnil, .yld _ | .func, .yld _, .fnil => some false
  | .iface, .in0, .in0 => some true
  | .iface, .in0, .ifc .. | .iface, .ifc .., .in0 => some false
  | .agg ks, .agg x, .agg y => if fitL ks x && fitL ks y then some (cellsEq x y) else none
  | _, _, _ => none
def unV (op : UnOp) : V → Option V
  | .i k n => match op with
    | .neg => some (.i k (k.wrap (0 - n)))
    | .xor => some (bitsV k (fun x y => x ^^^ y) (if k.signed then -1 else k.max) n)
    | _ => none
  | .b x => match op with
    | .not => some (.b !x)
    | _ => none
  | _ => none
def fill (t : List V) (z : List V) : List (Nat × Nat × X) → Option (List V)
  | [] => some z
  | (off, sz, x) :: rest =>
    let v := (x.ev t).cells
    if Nat.beq v.length sz then
      match lay z off v with
      | some z' => fill t z' rest
      | none => none
    else none
def natOf : V → Option Nat
  | .i _ (.ofNat n) => some n
  | _ => none
def keyEq : V → V → Bool
  | .agg x, .agg y => cellsEq x y
  | x, y => scalarEq x y
def find (kk : KK) (k : V) : List (V × V) → Option (Option V)
  | [] => some none
  | e :: es => if kk.fits e.1 then (if keyEq k e.1 then some (some e.2) else find kk k es) else none
def mput (kk : KK) (k v : V) : List (V × V) → Option (List (V × V))
  | [] => some [(k, v)]
  | e :: es => if kk.fits e.1 then (if keyEq k e.1 then some ((e.1, v) :: es) else (mput kk k v es).map (e :: ·)) else none
inductive RO where
  | fail
  | ok (v : V) (h : H)
  deriving Inhabited
inductive RL where
  | fail
  | ok (t : List V) (h : H)
  deriving Inhabited
inductive RC where
  | fail
  | ok (o : Out) (t : List V) (h : H)
  deriving Inhabited
def RO.ofV (h : H) : Option V → RO
  | some v => .ok v h
  | none => .fail
def bounds (t : List V) (len cap : Nat) (lo hi : Option X) : Option (Nat × Nat) :=
  match (match hi with
    | none => some len
    | some x => natOf (x.ev t)) with
  | none => none
  | some b =>
    if Nat.ble b cap then
      match (match lo with
        | none => some 0
        | some x => natOf (x.ev t)) with
      | none => none
      | some a => if Nat.ble a b then some (a, b) else none
    else none
def sliceV (esz : Nat) (t : List V) (lo hi : Option X) : V → Option V
  | .sn => match bounds t 0 0 lo hi with
    | some _ => some .sn
    | none => none
  | .se a => match bounds t 0 0 lo hi with
    | some _ => some (.se a)
    | none => none
  | .sl blk off len cap g =>
    match bounds t len cap lo hi with
    | none => none
    | some (a, b) =>
      match g with
      | none => some (.sl blk (if Nat.beq a cap then off else off + a * esz) (b - a) (cap - a) none)
      | some e => if Nat.blt a cap && Nat.beq e esz then some (.sl blk (off + a * esz) (b - a) (cap - a) (some e)) else none
  | _ => none
def sliceV3 (esz : Nat) (t : List V) (lo hi : Option X) (mx : X) : V → Option V
  | .sl blk off _ cap _ =>
    match natOf (mx.ev t), hi with
    | some m, some _ =>
      if Nat.ble m cap then
        match bounds t m m lo hi with
        | none => none
        | some (a, b) => some (.sl blk (if Nat.beq a m then off else off + a * esz) (b - a) (m - a) none)
      else none
    | _, _ => none
  | .se a =>
    match natOf (mx.ev t), hi with
    | some m, some _ =>
      if Nat.beq m 0 then
        match bounds t 0 0 lo hi with
        | none => none
        | some _ => some (.se a)
      else none
    | _, _ => none
  | _ => none
def sourceCells (esz n : Nat) (h : H) : V → Option (List V)
  | .sn => if Nat.beq n 0 then some [] else none
  | .se _ => if Nat.beq n 0 then some [] else none
  | .sl blk off _ _ _ => match h.get blk with
    | some bl => bl.rd off (n * esz)
    | none => none
  | .s x => if Nat.beq esz 1 then (cut (x.map fun c => .i .u8 (.ofNat c)) 0 (x.length)).bind fun l => cut l 0 n else none
  | _ => none
def sourceLen : V → Option Nat
  | .sn => some 0
  | .se _ => some 0
  | .sl _ _ len _ _ => some len
  | .s x => some x.length
  | _ => none
def storeAt (h : H) (blk off : Nat) (vs : List V) : Option H :=
  match h.get blk with
  | some (.cells cs) => match lay cs off vs with
    | some cs' => if vs.all V.oneCell then some (h.put blk (.cells cs')) else none
    | none => none
  | _ => none
def appendV (esz bytes : Nat) (h : H) (s x : V) : RO :=
  match sourceLen x with
  | none => .fail
  | some n =>
    match sourceCells esz n h x with
    | none => .fail
    | some new =>
      if Nat.ble ((2 * n + 200) * bytes) 281474976710656 && Nat.blt 0 bytes && Nat.blt 0 esz then
      match s with
      | .sn => if Nat.beq n 0 then .ok .sn h else .ok (.sl h.next 0 n n (some esz)) (h.new (.cells new))
      | .se a => if Nat.beq n 0 then .ok (.se a) h else .ok (.sl h.next 0 n n (some esz)) (h.new (.cells new))
      | .sl blk off len cap g =>
        if Nat.ble (len + n) cap then
          match storeAt h blk (off + len * esz) new with
          | some h' => .ok (.sl blk off (len + n) cap g) h'
          | none => .fail
        else if Nat.ble ((2 * (len + n) + 200) * bytes) 281474976710656 then
          match g with
          | none =>
            match h.get blk with
            | some bl =>
              match bl.rd off (len * esz) with
              | none => .fail
              | some old => .ok (.sl h.next 0 (len + n) (len + n) (some esz)) (h.new (.cells (old ++ new)))
            | none => .fail
          | some e =>
            match h.get blk with
            | some (.cells cs) =>
              match cut cs off (len * esz) with
              | none => .fail
              | some old =>
                if Nat.beq e esz && Nat.beq off 0 && Nat.beq cs.length (cap * esz) && new.all V.oneCell then
                  .ok (.sl h.next 0 (len + n) (len + n) (some esz)) ((h.kill blk).new (.cells (old ++ new)))
                else .fail
            | _ => .fail
        else .fail
      | _ => .fail
      else .fail
def copyV (esz : Nat) (h : H) (d s : V) : RO :=
  match sourceLen s with
  | none => .fail
  | some m =>
    match d with
    | .sn => .ok (.i .i64 0) h
    | .sl blk off len _ _ =>
      match sourceCells esz (Nat.min m len) h s with
      | none => .fail
      | some l => match storeAt h blk off l with
        | some h' => .ok (.i .i64 (.ofNat (Nat.min m len))) h'
        | none => .fail
    | _ => .fail
def mmI (g : Bool) (x y : V) : Option V :=
  match x, y with
  | .i k a, .i _ b => some (.i k (if g then (if a < b then b else a) else (if b < a then b else a)))
  | _, _ => none
def minI (g : Bool) (x : V) : List V → Option V
  | [] => some x
  | y :: l => match mmI g x y with
    | some z => minI g z l
    | none => none
def minL (g : Bool) : List V → Option V
  | [] => none
  | x :: l => minI g x l
def evA (call : V → List V → H → RO) (op : A) (t : List V) (h : H) : RO :=
  match op with
  | .mov x => .ok (x.ev t) h
  | .pick c a b => match c.ev t with
    | .b true => .ok (a.ev t) h
    | .b false => .ok (b.ev t) h
    | _ => .fail
  | .alloc z => .ok (.p h.next 0) (h.new (.cells z))
  | .box x => .ok (.p h.next 0) (h.new (.cells (x.ev t).cells))
  | .build z parts => match fill t z parts with
    | some c => .ok (.agg c) h
    | none => .fail
  | .buildSl z len parts => match fill t z parts with
    | some c => .ok (.sl h.next 0 len len none) (h.new (.cells c))
    | none => .fail
  | .ld x => match x.ev t with
    | .p b o => match h.get b with
      | some bl => RO.ofV h (bl.rd1 o)
      | none => .fail
    | _ => .fail
  | .ldn n x => match x.ev t with
    | .p b o => match h.get b with
      | some bl => match bl.rd o n with
        | some l => .ok (.agg l) h
        | none => .fail
      | none => .fail
    | _ => .fail
  | .st n x v => match x.ev t with
    | .p b o =>
      if Nat.beq (v.ev t).cells.length n then
        match storeAt h b o (v.ev t).cells with
        | some h' => .ok .undef h'
        | none => .fail
      else .fail
    | _ => .fail
  | .nilck x => match x.ev t with
    | .p b o => .ok (.p b o) h
    | .fn f a c => .ok (.fn f a c) h
    | .yld l => .ok (.yld l) h
    | _ => .fail
  | .bin op x y => RO.ofV h (binV op (x.ev t) (y.ev t))
  | .eqv neg k x y => match eqV k (x.ev t) (y.ev t) with
    | some r => .ok (.b (if neg then !r else r)) h
    | none => .fail
  | .un op x => RO.ofV h (unV op (x.ev t))
  | .conv k x => match x.ev t with
    | .i _ n => .ok (.i k (k.wrap n)) h
    | _ => .fail
  | .mkI ty x => .ok (.ifc ty (x.ev t)) h
  | .mkFn f a c => .ok (.fn f (a.map (X.ev t)) (c.map (X.ev t))) h
  | .mkMap => .ok (.m h.next) (h.new (.map []))
  | .mkSl z bytes l c => match natOf (l.ev t), natOf (c.ev t) with
    | some l, some c =>
      if Nat.ble l c && Nat.ble c 281474976710656 && Nat.ble (bytes * c) 281474976710656 then
        .ok (.sl h.next 0 l c none) (h.new (.cells (rep z c)))
      else .fail
    | _, _ => .fail
  | .slc esz x lo hi mx => match mx with
    | none => RO.ofV h (sliceV esz t lo hi (x.ev t))
    | some m => RO.ofV h (sliceV3 esz t lo hi m (x.ev t))
  | .slcA len esz x lo hi => match x.ev t with
    | .p b o => match bounds t len len lo hi with
      | some (l, r) => .ok (.sl b (if Nat.beq l len then o else o + l * esz) (r - l) (len - l) none) h
      | none => .fail
    | _ => .fail
  | .slcS x lo hi => match x.ev t with
    | .s x => match bounds t x.length x.length lo hi with
      | some (l, r) => .ok (.s ((x.drop l).take (r - l))) h
      | none => .fail
    | _ => .fail
  | .fld off x => match x.ev t with
    | .p b o => .ok (.p b (o + off)) h
    | _ => .fail
  | .fldv off sz x => match x.ev t with
    | .agg c => match sz with
      | none => RO.ofV h (nth? c off)
      | some n => match cut c off n with
        | some l => .ok (.agg l) h
        | none => .fail
    | _ => .fail
  | .ixS esz x ix => match x.ev t, natOf (ix.ev t) with
    | .sl b o len _ _, some n => if Nat.blt n len then .ok (.p b (o + n * esz)) h else .fail
    | _, _ => .fail
  | .ixA len esz x ix => match x.ev t, natOf (ix.ev t) with
    | .p b o, some n => if Nat.blt n len then .ok (.p b (o + n * esz)) h else .fail
    | _, _ => .fail
  | .ixStr x ix => match x.ev t, natOf (ix.ev t) with
    | .s x, some n => match x[n]? with
      | some c => .ok (.i .u8 (.ofNat c)) h
      | none => .fail
    | _, _ => .fail
  | .ixV len esz isAgg x ix => match x.ev t, natOf (ix.ev t) with
    | .agg c, some n =>
      if Nat.blt n len then
        (if isAgg then match cut c (n * esz) esz with
          | some l => .ok (.agg l) h
          | none => .fail
        else RO.ofV h (nth? c (n * esz)))
      else .fail
    | _, _ => .fail
  | .look kk zero ok x k =>
    let key := k.ev t
    if kk.fits key then
      match (match x.ev t with
        | .mn => some none
        | .m b => match h.get b with
          | some (.map es) => find kk key es
          | _ => none
        | _ => none) with
      | none => .fail
      | some r =>
        let v := r.getD zero
        .ok (if ok then .tup [v, .b r.isSome] else v) h
    else .fail
  | .mapSet kk x k v => match x.ev t with
    | .m b => match h.get b with
      | some (.map es) =>
        if kk.fits (k.ev t) then
          match mput kk (k.ev t) (v.ev t) es with
          | some es' => .ok .undef (h.put b (.map es'))
          | none => .fail
        else .fail
      | _ => .fail
    | _ => .fail
  | .ext x n => match x.ev t with
    | .tup c => RO.ofV h (nth? c n)
    | _ => .fail
  | .call f args => call (f.ev t) (args.map (X.ev t)) h
  | .lenS x => match x.ev t with
    | .s x => .ok (.i .i64 (.ofNat x.length)) h
    | _ => .fail
  | .lenL x => match x.ev t with
    | .sn => .ok (.i .i64 0) h
    | .se _ => .ok (.i .i64 0) h
    | .sl _ _ n _ _ => .ok (.i .i64 (.ofNat n)) h
    | _ => .fail
  | .lenC n => .ok (.i .i64 (.ofNat n)) h
  | .lenM x => match x.ev t with
    | .mn => .ok (.i .i64 0) h
    | .m b => match h.get b with
      | some (.map es) => .ok (.i .i64 (.ofNat es.length)) h
      | _ => .fail
    | _ => .fail
  | .app esz bytes s x => appendV esz bytes h (s.ev t) (x.ev t)
  | .cpy esz d s => copyV esz h (d.ev t) (s.ev t)
  | .clr z x => match x.ev t with
    | .sn => .ok .undef h
    | .sl b o n _ _ => if Nat.beq n 0 then .ok .undef h else match storeAt h b o (rep z n) with
      | some h' => .ok .undef h'
      | none => .fail
    | _ => .fail
  | .min xs => RO.ofV h (minL false (xs.map (X.ev t)))
  | .max xs => RO.ofV h (minL true (xs.map (X.ev t)))
  | .no => .fail
def wants (g : Option (Nat × Bool)) (t : List V) : Bool :=
  match g with
  | none => true
  | some (n, w) => match nth t n with
    | .b x => x == w
    | _ => false
def putD (t : List V) (d : Option Nat) (v : V) : List V :=
  match d with
  | none => t
  | some n => upd t n v
def runOps (call : V → List V → H → RO) : List O → List V → H → RL
  | [], t, h => .ok t h
  | o :: l, t, h =>
    match wants o.g t with
    | true => match evA call o.op t h with
      | .ok v h' => runOps call l (putD t o.dst v) h'
      | .fail => .fail
    | false => runOps call l (putD t o.dst .undef) h
structure Foot where
  rd : Option (List Nat)
  wr : List Nat
def blockOf : V → List Nat
  | .p b _ => [b]
  | .m b => [b]
  | .sl b _ _ _ _ => [b]
  | _ => []
def reads (op : A) (t : List V) : Option (List Nat) :=
  match op with
  | .ld x | .ldn _ x | .st _ x _ | .look _ _ _ x _ | .mapSet _ x _ _ | .lenM x => some (blockOf (x.ev t))
  | .call .. | .app .. | .cpy .. | .clr .. => none
  | _ => some []
def oldOnes (n : Nat) : List Nat → List Nat
  | [] => []
  | x :: l => if Nat.blt x n then x :: oldOnes n l else oldOnes n l
def apart (a b : Foot) : Bool :=
  (match b.rd with
    | none => a.wr.isEmpty
    | some r => a.wr.all fun x => !r.contains x) &&
  (match a.rd with
    | none => b.wr.isEmpty
    | some r => b.wr.all fun x => !r.contains x) &&
  a.wr.all fun x => !b.wr.contains x
inductive RD where
  | fail
  | ok (t : List V) (h : H) (f : List Foot)
def runDraw (call : V → List V → H → RO) : List O → List V → H → List Foot → RD
  | [], t, h, f => .ok t h f
  | o :: l, t, h, f =>
    match wants o.g t with
    | true => match evA call o.op t ⟨h.next, h.mem, []⟩ with
      | .ok v h' => runDraw call l (putD t o.dst v) ⟨h'.next, h'.mem, oldOnes h.next h'.log ++ h.log⟩ (f ++ [⟨reads o.op t, oldOnes h.next h'.log⟩])
      | .fail => .fail
    | false => runDraw call l (putD t o.dst .undef) h (f ++ [⟨some [], []⟩])
def critOk (f : List Foot) (crit : List (Nat × Nat)) : Bool :=
  crit.all fun (i, j) => match f[i]?, f[j]? with
    | some a, some b => apart a b
    | _, _ => false
inductive ResV where
  | tmp (t : Nat)
  | cell (t : Nat) (n : Option Nat)
  | only (v : V)
  deriving Inhabited
structure FI where
  ntmps : Nat
  res : List ResV
  body : C
  deriving Inhabited
def resultOf (t : List V) (h : H) : ResV → Option V
  | .tmp n => some (nth t n)
  | .only v => match t with
    | [] => some v
    | _ => none
  | .cell n sz => match nth t n with
    | .p b o => match h.get b with
      | some (.cells cs) => match sz with
        | none => nth? cs o
        | some k => (cut cs o k).map .agg
      | _ => none
    | _ => none
def resultsOf (t : List V) (h : H) : List ResV → Option (List V)
  | [] => some []
  | r :: l => match resultOf t h r with
    | some v => (resultsOf t h l).map (v :: ·)
    | none => none
def packR : List V → V
  | [v] => v
  | l => .tup l
def updAll : List V → List Nat → List V → List V
  | t, p :: ps, v :: vs => updAll (upd t p v) ps vs
  | t, _, _ => t
def pad (l : List V) (n : Nat) : List V := l ++ List.replicate (n - l.length) .undef
def callV (tbl : Nat → Option FI) (r : C → List V → H → RC) (f : V) (args : List V) (h : H) : RO :=
  match f with
  | .fn g first caps =>
    match tbl g with
    | none => .fail
    | some fi =>
      match r fi.body (pad (first ++ args ++ caps) fi.ntmps) h with
      | .fail => .fail
      | .ok o t h' =>
        match o with
        | .exit _ => .fail
        | _ => match resultsOf t h' fi.res with
          | some l => .ok (packR l) h'
          | none => .fail
  | .yld l =>
    match h.get l with
    | some (.loop lp) =>
      if Nat.beq args.length lp.params.length then
        match r lp.asg (updAll lp.tmps lp.params args) h with
        | .ok .norm t h1 =>
          match h1.get l with
          | some (.loop lp1) =>
            if lp1.state = .ready then
              match r lp.body t (h1.put l (.loop { lp1 with state := .busy })) with
              | .ok o _ h2 =>
                match h2.get l with
                | some (.loop lp2) =>
                  if lp2.state = .busy then
                    match o with
                    | .norm => .ok (.b true) (h2.put l (.loop { lp2 with state := .ready, pending := none }))
                    | o => .ok (.b false) (h2.put l (.loop { lp2 with state := .done, pending := some o }))
                  else .fail
                | _ => .fail
              | .fail => .fail
            else .fail
          | _ => .fail
        | _ => .fail
      else .fail
    | _ => .fail
  | _ => .fail
def stepC (tbl : Nat → Option FI) (r : C → List V → H → RC) (c : C) (t : List V) (h : H) : RC :=
  match c with
  | .skip => .ok .norm t h
  | .ops l => match runOps (callV tbl r) l t h with
    | .ok t' h' => .ok .norm t' h'
    | .fail => .fail
  | .draw l crit => match runDraw (callV tbl r) l t h [] with
    | .ok t' h' f => if critOk f crit then .ok .norm t' h' else .fail
    | .fail => .fail
  | .seq a b => match r a t h with
    | .ok .norm t' h' => r b t' h'
    | x => x
  | .cond x a b => match x.ev t with
    | .b true => r a t h
    | .b false => r b t h
    | _ => .fail
  | .block id a => match r a t h with
    | .ok (.exit i) t' h' => if Nat.beq i id then .ok .norm t' h' else .ok (.exit i) t' h'
    | x => x
  | .loop a => match r a t h with
    | .ok .norm t' h' => r (.loop a) t' h'
    | x => x
  | .exit id => .ok (.exit id) t h
  | .ret => .ok .ret t h
  | .rangeF f ps asg body =>
    match f.ev t with
    | .fn g a c =>
      match callV tbl r (.fn g a c) [.yld h.next] (h.new (.loop ⟨.ready, none, t, ps, asg, body⟩)) with
      | .fail => .fail
      | .ok _ h' =>
        match h'.get h.next with
        | some (.loop lp) =>
          if lp.state = .busy then .fail
          else .ok (lp.pending.getD .norm) t (h'.put h.next (.loop { lp with state := .over }))
        | _ => .fail
    | _ => .fail
def E (tbl : Nat → Option FI) : Nat → C → List V → H → RC
  | 0 => fun _ _ _ => .fail
  | k + 1 => stepC tbl (E tbl k)
def run (tbl : Nat → Option FI) (k : Nat) (f : Nat) (args : List V) (h : H) : RO := callV tbl (E tbl k) (.fn f [] []) args h
end Go.Air
set_option maxRecDepth 100000
namespace Go.Air.Try
def r19_0 : List O := [⟨some 2, none, .box (.t 0)⟩,
  ⟨some 4, none, .mov (.c (.b false))⟩]
def r19_1 : List O := [⟨some 32, none, .ldn 2 (.t 2)⟩,
  ⟨some 33, none, .call (.f 21) [(.t 32), (.c (.i .i64 10))]⟩,
  ⟨some 34, none, .un .not (.t 33)⟩,
  ⟨some 35, none, .mov (.t 34)⟩,
  ⟨some 36, some (35, false), .mov (.t 1)⟩,
  ⟨some 37, some (35, false), .lenL (.t 36)⟩,
  ⟨some 38, some (35, false), .bin .gtr (.t 37) (.c (.i .i64 30))⟩,
  ⟨some 39, none, .pick (.t 35) (.c (.b true)) (.t 38)⟩]
def r19_2 : List O := [⟨some 40, none, .call (.f 22) []⟩,
  ⟨some 4, none, .mov (.t 40)⟩]
def r19_3 : List O := [⟨some 41, none, .buildSl [] 0 []⟩,
  ⟨some 42, none, .fld 1 (.t 2)⟩,
  ⟨some 43, none, .ld (.t 42)⟩,
  ⟨some 44, none, .app 4 32 (.t 41) (.t 43)⟩,
  ⟨some 5, none, .mov (.t 44)⟩]
def r19_4 : List O := [⟨some 45, none, .buildSl [] 0 []⟩,
  ⟨some 46, none, .mov (.t 1)⟩,
  ⟨some 47, none, .app 1 8 (.t 45) (.t 46)⟩,
  ⟨some 6, none, .mov (.t 47)⟩]
def r19_5 : List O := [⟨some 49, none, .ldn 2 (.t 2)⟩,
  ⟨some 50, none, .call (.f 23) [(.t 49)]⟩,
  ⟨some 48, none, .mov (.t 50)⟩,
  ⟨some 51, none, .ext (.t 48) 0⟩,
  ⟨some 52, none, .ext (.t 48) 1⟩,
  ⟨some 7, none, .alloc [.sn, .i .i64 0, .sn]⟩,
  ⟨none, none, .st 3 (.t 7) (.t 51)⟩,
  ⟨some 8, none, .mov (.t 52)⟩]
def r19_6 : List O := [⟨some 54, none, .ldn 2 (.t 2)⟩,
  ⟨some 55, none, .call (.f 23) [(.t 54)]⟩,
  ⟨some 53, none, .mov (.t 55)⟩,
  ⟨some 56, none, .ext (.t 53) 0⟩,
  ⟨some 57, none, .ext (.t 53) 1⟩,
  ⟨some 9, none, .alloc [.sn, .i .i64 0, .sn]⟩,
  ⟨none, none, .st 3 (.t 9) (.t 56)⟩,
  ⟨some 10, none, .mov (.t 57)⟩]
def r19_7 : List O := [⟨some 58, none, .fld 0 (.t 9)⟩,
  ⟨some 59, none, .ld (.t 58)⟩,
  ⟨some 60, none, .lenL (.t 59)⟩,
  ⟨some 61, none, .mov (.c (.i .i64 0))⟩]
def r19_8 : List O := [⟨some 62, none, .bin .lss (.t 61) (.t 60)⟩]
def r19_9 : List O := [⟨some 63, none, .mov (.t 61)⟩,
  ⟨some 11, none, .mov (.t 63)⟩]
def r19_10 : List O := [⟨some 64, none, .fld 0 (.t 9)⟩,
  ⟨some 65, none, .ld (.t 64)⟩,
  ⟨some 66, none, .mov (.t 11)⟩,
  ⟨some 67, none, .ixS 1 (.t 65) (.t 66)⟩,
  ⟨none, none, .st 1 (.t 67) (.c (.i .i64 (-1)))⟩]
def r19_11 : List O := [⟨some 68, none, .bin .add (.t 61) (.c (.i .i64 1))⟩,
  ⟨some 61, none, .mov (.t 68)⟩]
def b19_0 : C := .seq (.ops r19_8) (.seq (.cond (.t 62) (.skip) (.exit 0)) (.seq (.block 1 (.seq (.ops r19_9) (.ops r19_10))) (.ops r19_11)))
def r19_12 : List O := [⟨some 69, none, .fld 2 (.t 9)⟩,
  ⟨some 70, none, .ld (.t 69)⟩,
  ⟨some 71, none, .lenL (.t 70)⟩,
  ⟨some 72, none, .mov (.c (.i .i64 0))⟩]
def r19_13 : List O := [⟨some 73, none, .bin .lss (.t 72) (.t 71)⟩]
def r19_14 : List O := [⟨some 74, none, .ixS 2 (.t 70) (.t 72)⟩,
  ⟨some 75, none, .ldn 2 (.t 74)⟩,
  ⟨some 13, none, .alloc [.sn, .sn]⟩,
  ⟨none, none, .st 2 (.t 13) (.t 75)⟩]
def r19_15 : List O := [⟨some 76, none, .fld 1 (.t 13)⟩,
  ⟨some 77, none, .ld (.t 76)⟩,
  ⟨some 78, none, .lenL (.t 77)⟩,
  ⟨some 79, none, .mov (.c (.i .i64 0))⟩]
def r19_16 : List O := [⟨some 80, none, .bin .lss (.t 79) (.t 78)⟩]
def r19_17 : List O := [⟨some 81, none, .mov (.t 79)⟩,
  ⟨some 14, none, .mov (.t 81)⟩]
def r19_18 : List O := [⟨some 82, none, .fld 1 (.t 13)⟩,
  ⟨some 83, none, .ld (.t 82)⟩,
  ⟨some 84, none, .mov (.t 14)⟩,
  ⟨some 85, none, .ixS 1 (.t 83) (.t 84)⟩,
  ⟨none, none, .st 1 (.t 85) (.c (.i .i64 (-1)))⟩]
def r19_19 : List O := [⟨some 86, none, .bin .add (.t 79) (.c (.i .i64 1))⟩,
  ⟨some 79, none, .mov (.t 86)⟩]
def b19_1 : C := .seq (.ops r19_16) (.seq (.cond (.t 80) (.skip) (.exit 4)) (.seq (.block 5 (.seq (.ops r19_17) (.ops r19_18))) (.ops r19_19)))
def r19_20 : List O := [⟨some 87, none, .fld 0 (.t 13)⟩,
  ⟨some 88, none, .ld (.t 87)⟩,
  ⟨some 89, none, .lenL (.t 88)⟩,
  ⟨some 90, none, .mov (.c (.i .i64 0))⟩]
def r19_21 : List O := [⟨some 91, none, .bin .lss (.t 90) (.t 89)⟩]
def r19_22 : List O := [⟨some 92, none, .mov (.t 90)⟩,
  ⟨some 15, none, .mov (.t 92)⟩]
def r19_23 : List O := [⟨some 93, none, .fld 0 (.t 13)⟩,
  ⟨some 94, none, .ld (.t 93)⟩,
  ⟨some 95, none, .mov (.t 15)⟩,
  ⟨some 96, none, .ixS 1 (.t 94) (.t 95)⟩,
  ⟨none, none, .st 1 (.t 96) (.c (.i .i64 (-1)))⟩]
def r19_24 : List O := [⟨some 97, none, .bin .add (.t 90) (.c (.i .i64 1))⟩,
  ⟨some 90, none, .mov (.t 97)⟩]
def b19_2 : C := .seq (.ops r19_21) (.seq (.cond (.t 91) (.skip) (.exit 6)) (.seq (.block 7 (.seq (.ops r19_22) (.ops r19_23))) (.ops r19_24)))
def r19_25 : List O := [⟨some 98, none, .bin .add (.t 72) (.c (.i .i64 1))⟩,
  ⟨some 72, none, .mov (.t 98)⟩]
def b19_3 : C := .seq (.ops r19_13) (.seq (.cond (.t 73) (.skip) (.exit 2)) (.seq (.block 3 (.seq (.ops r19_14) (.seq (.seq (.ops r19_15) (.block 4 (.loop b19_1))) (.seq (.ops r19_20) (.block 6 (.loop b19_2)))))) (.ops r19_25)))
def r19_26 : List O := [⟨some 100, none, .ldn 2 (.t 2)⟩,
  ⟨some 101, none, .mov (.t 1)⟩,
  ⟨some 102, none, .call (.f 49) [(.t 100), (.t 101)]⟩,
  ⟨some 99, none, .mov (.t 102)⟩,
  ⟨some 103, none, .ext (.t 99) 0⟩,
  ⟨some 104, none, .ext (.t 99) 1⟩,
  ⟨some 16, none, .mov (.t 103)⟩,
  ⟨some 17, none, .mov (.t 104)⟩]
def r19_27 : List O := [⟨some 105, none, .mov (.t 16)⟩,
  ⟨some 106, none, .lenL (.t 105)⟩,
  ⟨some 107, none, .mov (.c (.i .i64 0))⟩]
def r19_28 : List O := [⟨some 108, none, .bin .lss (.t 107) (.t 106)⟩]
def r19_29 : List O := [⟨some 109, none, .mov (.t 107)⟩,
  ⟨some 18, none, .mov (.t 109)⟩]
def r19_30 : List O := [⟨some 110, none, .mov (.t 16)⟩,
  ⟨some 111, none, .mov (.t 18)⟩,
  ⟨some 112, none, .ixS 1 (.t 110) (.t 111)⟩,
  ⟨none, none, .st 1 (.t 112) (.c (.i .i64 (-1)))⟩]
def r19_31 : List O := [⟨some 113, none, .bin .add (.t 107) (.c (.i .i64 1))⟩,
  ⟨some 107, none, .mov (.t 113)⟩]
def b19_4 : C := .seq (.ops r19_28) (.seq (.cond (.t 108) (.skip) (.exit 8)) (.seq (.block 9 (.seq (.ops r19_29) (.ops r19_30))) (.ops r19_31)))
def r19_32 : List O := [⟨some 115, none, .mov (.t 1)⟩,
  ⟨some 116, none, .call (.f 31) [(.t 115)]⟩,
  ⟨some 114, none, .mov (.t 116)⟩,
  ⟨some 117, none, .ext (.t 114) 0⟩,
  ⟨some 118, none, .ext (.t 114) 1⟩,
  ⟨some 19, none, .mov (.t 117)⟩,
  ⟨some 20, none, .mov (.t 118)⟩]
def r19_33 : List O := [⟨some 119, none, .mov (.t 19)⟩,
  ⟨some 120, none, .lenL (.t 119)⟩,
  ⟨some 121, none, .mov (.c (.i .i64 0))⟩]
def r19_34 : List O := [⟨some 122, none, .bin .lss (.t 121) (.t 120)⟩]
def r19_35 : List O := [⟨some 123, none, .ixS 1 (.t 119) (.t 121)⟩,
  ⟨some 124, none, .ld (.t 123)⟩,
  ⟨some 22, none, .mov (.t 124)⟩]
def r19_36 : List O := [⟨some 125, none, .mov (.t 22)⟩,
  ⟨some 126, none, .lenL (.t 125)⟩,
  ⟨some 127, none, .mov (.c (.i .i64 0))⟩]
def r19_37 : List O := [⟨some 128, none, .bin .lss (.t 127) (.t 126)⟩]
def r19_38 : List O := [⟨some 129, none, .mov (.t 127)⟩,
  ⟨some 23, none, .mov (.t 129)⟩]
def r19_39 : List O := [⟨some 130, none, .mov (.t 22)⟩,
  ⟨some 131, none, .mov (.t 23)⟩,
  ⟨some 132, none, .ixS 1 (.t 130) (.t 131)⟩,
  ⟨none, none, .st 1 (.t 132) (.c (.i .i64 (-1)))⟩]
def r19_40 : List O := [⟨some 133, none, .bin .add (.t 127) (.c (.i .i64 1))⟩,
  ⟨some 127, none, .mov (.t 133)⟩]
def b19_5 : C := .seq (.ops r19_37) (.seq (.cond (.t 128) (.skip) (.exit 12)) (.seq (.block 13 (.seq (.ops r19_38) (.ops r19_39))) (.ops r19_40)))
def r19_41 : List O := [⟨some 134, none, .bin .add (.t 121) (.c (.i .i64 1))⟩,
  ⟨some 121, none, .mov (.t 134)⟩]
def b19_6 : C := .seq (.ops r19_34) (.seq (.cond (.t 122) (.skip) (.exit 10)) (.seq (.block 11 (.seq (.ops r19_35) (.seq (.ops r19_36) (.block 12 (.loop b19_5))))) (.ops r19_41)))
def r19_42 : List O := [⟨some 136, none, .mov (.t 1)⟩,
  ⟨some 137, none, .call (.f 53) [(.t 136), (.c (.i .i64 3))]⟩,
  ⟨some 135, none, .mov (.t 137)⟩,
  ⟨some 138, none, .ext (.t 135) 0⟩,
  ⟨some 139, none, .ext (.t 135) 1⟩,
  ⟨some 24, none, .mov (.t 138)⟩,
  ⟨some 25, none, .mov (.t 139)⟩]
def r19_43 : List O := [⟨some 140, none, .mov (.t 24)⟩,
  ⟨some 141, none, .lenL (.t 140)⟩,
  ⟨some 142, none, .mov (.c (.i .i64 0))⟩]
def r19_44 : List O := [⟨some 143, none, .bin .lss (.t 142) (.t 141)⟩]
def r19_45 : List O := [⟨some 144, none, .ixS 1 (.t 140) (.t 142)⟩,
  ⟨some 145, none, .ld (.t 144)⟩,
  ⟨some 27, none, .mov (.t 145)⟩]
def r19_46 : List O := [⟨some 146, none, .mov (.t 27)⟩,
  ⟨some 147, none, .lenL (.t 146)⟩,
  ⟨some 148, none, .mov (.c (.i .i64 0))⟩]
def r19_47 : List O := [⟨some 149, none, .bin .lss (.t 148) (.t 147)⟩]
def r19_48 : List O := [⟨some 150, none, .mov (.t 148)⟩,
  ⟨some 28, none, .mov (.t 150)⟩]
def r19_49 : List O := [⟨some 151, none, .mov (.t 27)⟩,
  ⟨some 152, none, .mov (.t 28)⟩,
  ⟨some 153, none, .ixS 1 (.t 151) (.t 152)⟩,
  ⟨none, none, .st 1 (.t 153) (.c (.i .i64 (-1)))⟩]
def r19_50 : List O := [⟨some 154, none, .bin .add (.t 148) (.c (.i .i64 1))⟩,
  ⟨some 148, none, .mov (.t 154)⟩]
def b19_7 : C := .seq (.ops r19_47) (.seq (.cond (.t 149) (.skip) (.exit 16)) (.seq (.block 17 (.seq (.ops r19_48) (.ops r19_49))) (.ops r19_50)))
def r19_51 : List O := [⟨some 155, none, .bin .add (.t 142) (.c (.i .i64 1))⟩,
  ⟨some 142, none, .mov (.t 155)⟩]
def b19_8 : C := .seq (.ops r19_44) (.seq (.cond (.t 143) (.skip) (.exit 14)) (.seq (.block 15 (.seq (.ops r19_45) (.seq (.ops r19_46) (.block 16 (.loop b19_7))))) (.ops r19_51)))
def r19_52 : List O := [⟨some 157, none, .ldn 2 (.t 2)⟩,
  ⟨some 158, none, .call (.f 23) [(.t 157)]⟩,
  ⟨some 156, none, .mov (.t 158)⟩,
  ⟨some 159, none, .ext (.t 156) 0⟩,
  ⟨some 160, none, .ext (.t 156) 1⟩,
  ⟨some 29, none, .alloc [.sn, .i .i64 0, .sn]⟩,
  ⟨none, none, .st 3 (.t 29) (.t 159)⟩,
  ⟨some 30, none, .mov (.t 160)⟩]
def r19_53 : List O := [⟨some 161, none, .mov (.t 5)⟩,
  ⟨some 162, none, .lenL (.t 161)⟩,
  ⟨some 163, none, .mov (.c (.i .i64 0))⟩]
def r19_54 : List O := [⟨some 164, none, .bin .lss (.t 163) (.t 162)⟩]
def r19_55 : List O := [⟨some 165, none, .mov (.t 163)⟩,
  ⟨some 31, none, .mov (.t 165)⟩]
def r19_56 : List O := [⟨some 166, none, .mov (.t 5)⟩,
  ⟨some 167, none, .mov (.t 31)⟩,
  ⟨some 168, none, .ixS 4 (.t 166) (.t 167)⟩,
  ⟨some 169, none, .ldn 4 (.t 168)⟩,
  ⟨some 170, none, .fld 1 (.t 2)⟩,
  ⟨some 171, none, .ld (.t 170)⟩,
  ⟨some 172, none, .mov (.t 31)⟩,
  ⟨some 173, none, .ixS 4 (.t 171) (.t 172)⟩,
  ⟨some 174, none, .ldn 4 (.t 173)⟩,
  ⟨some 175, none, .eqv true (.agg [.i .i64, .i .i64, .i .i64, .i .i64]) (.t 169) (.t 174)⟩]
def r19_57 : List O := [⟨some 4, none, .mov (.c (.b false))⟩]
def r19_58 : List O := [⟨some 176, none, .bin .add (.t 163) (.c (.i .i64 1))⟩,
  ⟨some 163, none, .mov (.t 176)⟩]
def b19_9 : C := .seq (.ops r19_54) (.seq (.cond (.t 164) (.skip) (.exit 18)) (.seq (.block 19 (.seq (.ops r19_55) (.seq (.draw r19_56 []) (.cond (.t 175) (.seq (.ops r19_57) (.ret)) (.skip))))) (.ops r19_58)))
def r19_59 : List O := [⟨some 177, none, .call (.f 22) []⟩,
  ⟨some 178, none, .mov (.t 177)⟩,
  ⟨some 179, some (178, true), .mov (.t 8)⟩,
  ⟨some 180, some (178, true), .mov (.t 30)⟩,
  ⟨some 181, some (178, true), .bin .eql (.t 179) (.t 180)⟩,
  ⟨some 182, none, .pick (.t 178) (.t 181) (.c (.b false))⟩,
  ⟨some 183, none, .mov (.t 182)⟩,
  ⟨some 184, some (183, true), .ldn 3 (.t 7)⟩,
  ⟨some 185, some (183, true), .ldn 3 (.t 29)⟩,
  ⟨some 186, some (183, true), .call (.f 25) [(.t 184), (.t 185)]⟩,
  ⟨some 187, none, .pick (.t 183) (.t 186) (.c (.b false))⟩,
  ⟨some 188, none, .mov (.t 187)⟩,
  ⟨some 189, some (188, true), .mov (.t 6)⟩,
  ⟨some 190, some (188, true), .mov (.t 1)⟩,
  ⟨some 191, some (188, true), .call (.f 30) [(.t 189), (.t 190)]⟩,
  ⟨some 192, none, .pick (.t 188) (.t 191) (.c (.b false))⟩,
  ⟨some 4, none, .mov (.t 192)⟩]
def a19 : FI := ⟨193, [.tmp 4], .seq (.ops r19_0) (.seq (.seq (.ops r19_1) (.cond (.t 39) (.seq (.ops r19_2) (.ret)) (.skip))) (.seq (.ops r19_3) (.seq (.ops r19_4) (.seq (.ops r19_5) (.seq (.ops r19_6) (.seq (.seq (.ops r19_7) (.block 0 (.loop b19_0))) (.seq (.seq (.ops r19_12) (.block 2 (.loop b19_3))) (.seq (.ops r19_26) (.seq (.seq (.ops r19_27) (.block 8 (.loop b19_4))) (.seq (.ops r19_32) (.seq (.seq (.ops r19_33) (.block 10 (.loop b19_6))) (.seq (.ops r19_42) (.seq (.seq (.ops r19_43) (.block 14 (.loop b19_8))) (.seq (.ops r19_52) (.seq (.seq (.ops r19_53) (.block 18 (.loop b19_9))) (.seq (.ops r19_59) (.ret)))))))))))))))))⟩
def r21_0 : List O := [⟨some 2, none, .box (.t 0)⟩,
  ⟨some 4, none, .mov (.c (.b false))⟩]
def r21_1 : List O := [⟨some 5, none, .fld 0 (.t 2)⟩,
  ⟨some 6, none, .ld (.t 5)⟩,
  ⟨some 7, none, .mov (.t 1)⟩,
  ⟨some 8, none, .bin .leq (.t 6) (.t 7)⟩,
  ⟨some 9, none, .mov (.t 8)⟩,
  ⟨some 10, some (9, true), .fld 1 (.t 2)⟩,
  ⟨some 11, some (9, true), .ld (.t 10)⟩,
  ⟨some 12, some (9, true), .lenL (.t 11)⟩,
  ⟨some 13, some (9, true), .mov (.t 1)⟩,
  ⟨some 14, some (9, true), .bin .mul (.c (.i .i64 2)) (.t 13)⟩,
  ⟨some 15, some (9, true), .mov (.t 1)⟩,
  ⟨some 16, some (9, true), .bin .mul (.t 14) (.t 15)⟩,
  ⟨some 17, some (9, true), .bin .leq (.t 12) (.t 16)⟩,
  ⟨some 18, none, .pick (.t 9) (.t 17) (.c (.b false))⟩,
  ⟨some 4, none, .mov (.t 18)⟩]
def a21 : FI := ⟨19, [.tmp 4], .seq (.ops r21_0) (.seq (.ops r21_1) (.ret))⟩
def r22_0 : List O := [⟨some 0, none, .mov (.c (.b false))⟩]
def r22_1 : List O := [⟨some 12, none, .call (.f 65) []⟩,
  ⟨some 1, none, .alloc [.i .i64 0, .sn]⟩,
  ⟨none, none, .st 2 (.t 1) (.t 12)⟩]
def r22_2 : List O := [⟨some 14, none, .ldn 2 (.t 1)⟩,
  ⟨some 15, none, .buildSl [.i .i64 0, .i .i64 0, .i .i64 0, .i .i64 0] 4 [(0, 1, (.c (.i .i64 0))), (1, 1, (.c (.i .i64 1))), (2, 1, (.c (.i .i64 2))), (3, 1, (.c (.i .i64 3)))]⟩,
  ⟨some 16, none, .call (.f 32) [(.t 14), (.t 15)]⟩,
  ⟨some 13, none, .mov (.t 16)⟩,
  ⟨some 17, none, .ext (.t 13) 0⟩,
  ⟨some 18, none, .ext (.t 13) 1⟩,
  ⟨some 2, none, .mov (.t 17)⟩,
  ⟨some 3, none, .mov (.t 18)⟩]
def r22_3 : List O := [⟨some 20, none, .ldn 2 (.t 1)⟩,
  ⟨some 21, none, .call (.f 23) [(.t 20)]⟩,
  ⟨some 19, none, .mov (.t 21)⟩,
  ⟨some 22, none, .ext (.t 19) 0⟩,
  ⟨some 23, none, .ext (.t 19) 1⟩,
  ⟨some 4, none, .alloc [.sn, .i .i64 0, .sn]⟩,
  ⟨none, none, .st 3 (.t 4) (.t 22)⟩,
  ⟨some 5, none, .mov (.t 23)⟩]
def r22_4 : List O := [⟨some 25, none, .ldn 2 (.t 1)⟩,
  ⟨some 26, none, .call (.f 28) [(.t 25)]⟩,
  ⟨some 24, none, .mov (.t 26)⟩,
  ⟨some 27, none, .ext (.t 24) 0⟩,
  ⟨some 28, none, .ext (.t 24) 1⟩,
  ⟨some 6, none, .mov (.t 27)⟩,
  ⟨some 7, none, .mov (.t 28)⟩]
def r22_5 : List O := [⟨some 30, none, .call (.f 42) [(.c (.i .u8 2)), (.c (.i .i64 5)), (.c (.i .i64 3))]⟩,
  ⟨some 29, none, .mov (.t 30)⟩,
  ⟨some 31, none, .ext (.t 29) 0⟩,
  ⟨some 32, none, .ext (.t 29) 1⟩,
  ⟨some 8, none, .mov (.t 31)⟩,
  ⟨some 9, none, .mov (.t 32)⟩]
def r22_6 : List O := [⟨some 34, none, .buildSl [.i .i64 0, .i .i64 0, .i .i64 0] 3 [(0, 1, (.c (.i .i64 2))), (1, 1, (.c (.i .i64 0))), (2, 1, (.c (.i .i64 1)))]⟩,
  ⟨some 35, none, .call (.f 31) [(.t 34)]⟩,
  ⟨some 33, none, .mov (.t 35)⟩,
  ⟨some 36, none, .ext (.t 33) 0⟩,
  ⟨some 37, none, .ext (.t 33) 1⟩,
  ⟨some 10, none, .mov (.t 36)⟩,
  ⟨some 11, none, .mov (.t 37)⟩]
def r22_7 : List O := [⟨some 38, none, .mov (.t 3)⟩,
  ⟨some 39, none, .bin .neq (.t 38) (.c (.i .i64 0))⟩,
  ⟨some 40, none, .mov (.t 39)⟩,
  ⟨some 41, some (40, false), .mov (.t 2)⟩,
  ⟨some 42, some (40, false), .bin .neq (.t 41) (.c (.i .i64 3))⟩,
  ⟨some 43, none, .pick (.t 40) (.c (.b true)) (.t 42)⟩,
  ⟨some 44, none, .mov (.t 43)⟩,
  ⟨some 45, some (44, false), .mov (.t 5)⟩,
  ⟨some 46, some (44, false), .bin .neq (.t 45) (.c (.i .i64 0))⟩,
  ⟨some 47, none, .pick (.t 44) (.c (.b true)) (.t 46)⟩,
  ⟨some 48, none, .mov (.t 47)⟩,
  ⟨some 49, some (48, false), .fld 1 (.t 4)⟩,
  ⟨some 50, some (48, false), .ld (.t 49)⟩,
  ⟨some 51, some (48, false), .bin .neq (.t 50) (.c (.i .i64 2))⟩,
  ⟨some 52, none, .pick (.t 48) (.c (.b true)) (.t 51)⟩,
  ⟨some 53, none, .mov (.t 52)⟩,
  ⟨some 54, some (53, false), .fld 2 (.t 4)⟩,
  ⟨some 55, some (53, false), .ld (.t 54)⟩,
  ⟨some 56, some (53, false), .lenL (.t 55)⟩,
  ⟨some 57, some (53, false), .bin .neq (.t 56) (.c (.i .i64 1))⟩,
  ⟨some 58, none, .pick (.t 53) (.c (.b true)) (.t 57)⟩,
  ⟨some 59, none, .mov (.t 58)⟩,
  ⟨some 60, some (59, false), .fld 2 (.t 4)⟩,
  ⟨some 61, some (59, false), .ld (.t 60)⟩,
  ⟨some 62, some (59, false), .ixS 2 (.t 61) (.c (.i .i64 0))⟩,
  ⟨some 63, some (59, false), .fld 1 (.t 62)⟩,
  ⟨some 64, some (59, false), .ld (.t 63)⟩,
  ⟨some 65, some (59, false), .lenL (.t 64)⟩,
  ⟨some 66, some (59, false), .bin .neq (.t 65) (.c (.i .i64 8))⟩,
  ⟨some 67, none, .pick (.t 59) (.c (.b true)) (.t 66)⟩,
  ⟨some 68, none, .mov (.t 67)⟩,
  ⟨some 69, some (68, false), .mov (.t 7)⟩,
  ⟨some 70, some (68, false), .bin .neq (.t 69) (.c (.i .i64 0))⟩,
  ⟨some 71, none, .pick (.t 68) (.c (.b true)) (.t 70)⟩,
  ⟨some 72, none, .mov (.t 71)⟩,
  ⟨some 73, some (72, false), .mov (.t 6)⟩,
  ⟨some 74, some (72, false), .lenL (.t 73)⟩,
  ⟨some 75, some (72, false), .bin .neq (.t 74) (.c (.i .i64 1))⟩,
  ⟨some 76, none, .pick (.t 72) (.c (.b true)) (.t 75)⟩,
  ⟨some 77, none, .mov (.t 76)⟩,
  ⟨some 78, some (77, false), .mov (.t 6)⟩,
  ⟨some 79, some (77, false), .ixS 1 (.t 78) (.c (.i .i64 0))⟩,
  ⟨some 80, some (77, false), .ld (.t 79)⟩,
  ⟨some 81, some (77, false), .bin .neq (.t 80) (.c (.i .i64 2))⟩,
  ⟨some 82, none, .pick (.t 77) (.c (.b true)) (.t 81)⟩]
def r22_8 : List O := [⟨some 0, none, .mov (.c (.b false))⟩]
def r22_9 : List O := [⟨some 83, none, .mov (.t 9)⟩,
  ⟨some 84, none, .bin .eql (.t 83) (.c (.i .i64 0))⟩,
  ⟨some 85, none, .mov (.t 84)⟩,
  ⟨some 86, some (85, true), .mov (.t 8)⟩,
  ⟨some 87, some (85, true), .lenL (.t 86)⟩,
  ⟨some 88, some (85, true), .bin .eql (.t 87) (.c (.i .i64 5))⟩,
  ⟨some 89, none, .pick (.t 85) (.t 88) (.c (.b false))⟩,
  ⟨some 90, none, .mov (.t 89)⟩,
  ⟨some 91, some (90, true), .mov (.t 8)⟩,
  ⟨some 92, some (90, true), .ixS 2 (.t 91) (.c (.i .i64 4))⟩,
  ⟨some 93, some (90, true), .ldn 2 (.t 92)⟩,
  ⟨some 94, some (90, true), .build [.i .i64 0, .i .i64 0] [(0, 1, (.c (.i .i64 1))), (1, 1, (.c (.i .i64 1)))]⟩,
  ⟨some 95, some (90, true), .eqv false (.agg [.i .i64, .i .i64]) (.t 93) (.t 94)⟩,
  ⟨some 96, none, .pick (.t 90) (.t 95) (.c (.b false))⟩,
  ⟨some 97, none, .mov (.t 96)⟩,
  ⟨some 98, some (97, true), .mov (.t 8)⟩,
  ⟨some 99, some (97, true), .ixS 2 (.t 98) (.c (.i .i64 1))⟩,
  ⟨some 100, some (97, true), .ldn 2 (.t 99)⟩,
  ⟨some 101, some (97, true), .build [.i .i64 0, .i .i64 0] []⟩,
  ⟨some 102, some (97, true), .eqv false (.agg [.i .i64, .i .i64]) (.t 100) (.t 101)⟩,
  ⟨some 103, none, .pick (.t 97) (.t 102) (.c (.b false))⟩,
  ⟨some 104, none, .mov (.t 103)⟩,
  ⟨some 105, some (104, true), .mov (.t 11)⟩,
  ⟨some 106, some (104, true), .bin .eql (.t 105) (.c (.i .i64 0))⟩,
  ⟨some 107, none, .pick (.t 104) (.t 106) (.c (.b false))⟩,
  ⟨some 108, none, .mov (.t 107)⟩,
  ⟨some 109, some (108, true), .mov (.t 10)⟩,
  ⟨some 110, some (108, true), .lenL (.t 109)⟩,
  ⟨some 111, some (108, true), .bin .eql (.t 110) (.c (.i .i64 3))⟩,
  ⟨some 112, none, .pick (.t 108) (.t 111) (.c (.b false))⟩,
  ⟨some 113, none, .mov (.t 112)⟩,
  ⟨some 114, some (113, true), .mov (.t 10)⟩,
  ⟨some 115, some (113, true), .ixS 1 (.t 114) (.c (.i .i64 2))⟩,
  ⟨some 116, some (113, true), .ld (.t 115)⟩,
  ⟨some 117, some (113, true), .buildSl [.i .i64 0, .i .i64 0, .i .i64 0] 3 [(0, 1, (.c (.i .i64 1))), (1, 1, (.c (.i .i64 2))), (2, 1, (.c (.i .i64 0)))]⟩,
  ⟨some 118, some (113, true), .call (.f 30) [(.t 116), (.t 117)]⟩,
  ⟨some 119, none, .pick (.t 113) (.t 118) (.c (.b false))⟩,
  ⟨some 120, none, .mov (.t 119)⟩,
  ⟨some 121, some (120, true), .fld 0 (.t 4)⟩,
  ⟨some 122, some (120, true), .ld (.t 121)⟩,
  ⟨some 123, some (120, true), .buildSl [.i .i64 0, .i .i64 0, .i .i64 0, .i .i64 0] 4 [(0, 1, (.c (.i .i64 3))), (1, 1, (.c (.i .i64 0))), (2, 1, (.c (.i .i64 1))), (3, 1, (.c (.i .i64 2)))]⟩,
  ⟨some 124, some (120, true), .call (.f 30) [(.t 122), (.t 123)]⟩,
  ⟨some 125, none, .pick (.t 120) (.t 124) (.c (.b false))⟩,
  ⟨some 0, none, .mov (.t 125)⟩]
def a22 : FI := ⟨126, [.tmp 0], .seq (.ops r22_0) (.seq (.ops r22_1) (.seq (.ops r22_2) (.seq (.ops r22_3) (.seq (.ops r22_4) (.seq (.ops r22_5) (.seq (.ops r22_6) (.seq (.seq (.ops r22_7) (.cond (.t 82) (.seq (.ops r22_8) (.ret)) (.skip))) (.seq (.ops r22_9) (.ret)))))))))⟩
def r23_0 : List O := [⟨some 1, none, .box (.t 0)⟩,
  ⟨some 2, none, .alloc [.sn, .i .i64 0, .sn]⟩,
  ⟨some 3, none, .mov (.c (.i .i64 0))⟩]
def r23_1 : List O := [⟨some 11, none, .ldn 2 (.t 1)⟩,
  ⟨some 12, none, .call (.f 66) [(.t 11)]⟩,
  ⟨some 4, none, .mov (.t 12)⟩]
def r23_2 : List O := [⟨some 13, none, .mov (.t 4)⟩,
  ⟨some 14, none, .bin .neq (.t 13) (.c (.i .i64 0))⟩]
def r23_3 : List O := [⟨some 15, none, .build [.sn, .i .i64 0, .sn] []⟩,
  ⟨some 16, none, .mov (.t 4)⟩,
  ⟨none, none, .st 3 (.t 2) (.t 15)⟩,
  ⟨some 3, none, .mov (.t 16)⟩]
def r23_4 : List O := [⟨some 18, none, .ldn 2 (.t 1)⟩,
  ⟨some 19, none, .call (.f 67) [(.t 18)]⟩,
  ⟨some 17, none, .mov (.t 19)⟩,
  ⟨some 20, none, .ext (.t 17) 0⟩,
  ⟨some 21, none, .ext (.t 17) 1⟩,
  ⟨some 5, none, .mov (.t 20)⟩,
  ⟨some 6, none, .mov (.t 21)⟩]
def r23_5 : List O := [⟨some 22, none, .mov (.t 6)⟩,
  ⟨some 23, none, .bin .neq (.t 22) (.c (.i .i64 0))⟩]
def r23_6 : List O := [⟨some 24, none, .build [.sn, .i .i64 0, .sn] []⟩,
  ⟨some 25, none, .mov (.t 6)⟩,
  ⟨none, none, .st 3 (.t 2) (.t 24)⟩,
  ⟨some 3, none, .mov (.t 25)⟩]
def r23_7 : List O := [⟨some 26, none, .ldn 2 (.t 1)⟩,
  ⟨some 27, none, .mov (.t 5)⟩,
  ⟨some 28, none, .call (.f 68) [(.t 26), (.t 27), (.c (.i .i64 (-1)))]⟩,
  ⟨some 7, none, .mov (.t 28)⟩]
def r23_8 : List O := [⟨some 8, none, .alloc [.sn, .i .i64 0, .sn]⟩]
def r23_9 : List O := [⟨some 30, none, .mov (.t 7)⟩,
  ⟨some 31, none, .call (.f 69) [(.t 30)]⟩,
  ⟨some 29, none, .mov (.t 31)⟩,
  ⟨some 32, none, .ext (.t 29) 0⟩,
  ⟨some 33, none, .ext (.t 29) 1⟩,
  ⟨some 34, none, .fld 0 (.t 8)⟩,
  ⟨none, none, .st 1 (.t 34) (.t 32)⟩,
  ⟨some 35, none, .fld 1 (.t 8)⟩,
  ⟨none, none, .st 1 (.t 35) (.t 33)⟩]
def r23_10 : List O := [⟨some 36, none, .mov (.t 5)⟩,
  ⟨some 37, none, .lenL (.t 36)⟩,
  ⟨some 38, none, .mov (.c (.i .i64 0))⟩]
def r23_11 : List O := [⟨some 39, none, .bin .lss (.t 38) (.t 37)⟩]
def r23_12 : List O := [⟨some 40, none, .mov (.t 38)⟩,
  ⟨some 41, none, .ixS 1 (.t 36) (.t 38)⟩,
  ⟨some 42, none, .ld (.t 41)⟩,
  ⟨some 9, none, .mov (.t 40)⟩,
  ⟨some 10, none, .mov (.t 42)⟩]
def r23_13 : List O := [⟨some 43, none, .fld 2 (.t 8)⟩,
  ⟨some 44, none, .ld (.t 43)⟩,
  ⟨some 45, none, .mov (.t 10)⟩,
  ⟨some 46, none, .call (.f 70) [(.t 45)]⟩,
  ⟨some 47, none, .mov (.t 7)⟩,
  ⟨some 48, none, .nilck (.t 47)⟩,
  ⟨some 49, none, .fld 578 (.t 48)⟩,
  ⟨some 50, none, .ld (.t 49)⟩,
  ⟨some 51, none, .mov (.t 9)⟩,
  ⟨some 52, none, .ixS 1 (.t 50) (.t 51)⟩,
  ⟨some 53, none, .ld (.t 52)⟩,
  ⟨some 54, none, .build [.sn, .sn] [(0, 1, (.t 46)), (1, 1, (.t 53))]⟩,
  ⟨some 55, none, .buildSl [.sn, .sn] 1 [(0, 2, (.t 54))]⟩,
  ⟨some 56, none, .app 2 48 (.t 44) (.t 55)⟩,
  ⟨some 57, none, .fld 2 (.t 8)⟩,
  ⟨none, none, .st 1 (.t 57) (.t 56)⟩]
def r23_14 : List O := [⟨some 58, none, .bin .add (.t 38) (.c (.i .i64 1))⟩,
  ⟨some 38, none, .mov (.t 58)⟩]
def b23_0 : C := .seq (.ops r23_11) (.seq (.cond (.t 39) (.skip) (.exit 0)) (.seq (.block 1 (.seq (.ops r23_12) (.draw r23_13 [(1, 3), (3, 7), (3, 10)]))) (.ops r23_14)))
def r23_15 : List O := [⟨some 59, none, .ldn 3 (.t 8)⟩,
  ⟨none, none, .st 3 (.t 2) (.t 59)⟩,
  ⟨some 3, none, .mov (.c (.i .i64 0))⟩]
def a23 : FI := ⟨60, [.cell 2 (some 3), .tmp 3], .seq (.ops r23_0) (.seq (.seq (.ops r23_1) (.seq (.ops r23_2) (.cond (.t 14) (.seq (.ops r23_3) (.ret)) (.skip)))) (.seq (.ops r23_4) (.seq (.seq (.ops r23_5) (.cond (.t 23) (.seq (.ops r23_6) (.ret)) (.skip))) (.seq (.ops r23_7) (.seq (.ops r23_8) (.seq (.ops r23_9) (.seq (.seq (.ops r23_10) (.block 0 (.loop b23_0))) (.seq (.ops r23_15) (.ret)))))))))⟩
def r25_0 : List O := [⟨some 2, none, .box (.t 0)⟩,
  ⟨some 3, none, .box (.t 1)⟩,
  ⟨some 4, none, .mov (.c (.b false))⟩]
def r25_1 : List O := [⟨some 9, none, .fld 0 (.t 2)⟩,
  ⟨some 10, none, .ld (.t 9)⟩,
  ⟨some 11, none, .fld 0 (.t 3)⟩,
  ⟨some 12, none, .ld (.t 11)⟩,
  ⟨some 13, none, .call (.f 30) [(.t 10), (.t 12)]⟩,
  ⟨some 5, none, .mov (.t 13)⟩]
def r25_2 : List O := [⟨some 14, none, .mov (.t 5)⟩,
  ⟨some 15, none, .un .not (.t 14)⟩,
  ⟨some 16, none, .mov (.t 15)⟩,
  ⟨some 17, some (16, false), .fld 1 (.t 2)⟩,
  ⟨some 18, some (16, false), .ld (.t 17)⟩,
  ⟨some 19, some (16, false), .fld 1 (.t 3)⟩,
  ⟨some 20, some (16, false), .ld (.t 19)⟩,
  ⟨some 21, some (16, false), .bin .neq (.t 18) (.t 20)⟩,
  ⟨some 22, none, .pick (.t 16) (.c (.b true)) (.t 21)⟩,
  ⟨some 23, none, .mov (.t 22)⟩,
  ⟨some 24, some (23, false), .fld 2 (.t 2)⟩,
  ⟨some 25, some (23, false), .ld (.t 24)⟩,
  ⟨some 26, some (23, false), .lenL (.t 25)⟩,
  ⟨some 27, some (23, false), .fld 2 (.t 3)⟩,
  ⟨some 28, some (23, false), .ld (.t 27)⟩,
  ⟨some 29, some (23, false), .lenL (.t 28)⟩,
  ⟨some 30, some (23, false), .bin .neq (.t 26) (.t 29)⟩,
  ⟨some 31, none, .pick (.t 23) (.c (.b true)) (.t 30)⟩]
def r25_3 : List O := [⟨some 4, none, .mov (.c (.b false))⟩]
def r25_4 : List O := [⟨some 6, none, .mov (.c (.i .i64 0))⟩]
def r25_5 : List O := [⟨some 32, none, .mov (.t 6)⟩,
  ⟨some 33, none, .fld 2 (.t 2)⟩,
  ⟨some 34, none, .ld (.t 33)⟩,
  ⟨some 35, none, .lenL (.t 34)⟩,
  ⟨some 36, none, .bin .lss (.t 32) (.t 35)⟩]
def r25_7 : List O := [⟨some 39, none, .fld 2 (.t 2)⟩,
  ⟨some 40, none, .ld (.t 39)⟩,
  ⟨some 41, none, .mov (.t 6)⟩,
  ⟨some 42, none, .ixS 2 (.t 40) (.t 41)⟩,
  ⟨some 43, none, .fld 0 (.t 42)⟩,
  ⟨some 44, none, .ld (.t 43)⟩,
  ⟨some 45, none, .fld 2 (.t 3)⟩,
  ⟨some 46, none, .ld (.t 45)⟩,
  ⟨some 47, none, .mov (.t 6)⟩,
  ⟨some 48, none, .ixS 2 (.t 46) (.t 47)⟩,
  ⟨some 49, none, .fld 0 (.t 48)⟩,
  ⟨some 50, none, .ld (.t 49)⟩,
  ⟨some 51, none, .call (.f 30) [(.t 44), (.t 50)]⟩,
  ⟨some 7, none, .mov (.t 51)⟩]
def r25_8 : List O := [⟨some 52, none, .fld 2 (.t 2)⟩,
  ⟨some 53, none, .ld (.t 52)⟩,
  ⟨some 54, none, .mov (.t 6)⟩,
  ⟨some 55, none, .ixS 2 (.t 53) (.t 54)⟩,
  ⟨some 56, none, .fld 1 (.t 55)⟩,
  ⟨some 57, none, .ld (.t 56)⟩,
  ⟨some 58, none, .fld 2 (.t 3)⟩,
  ⟨some 59, none, .ld (.t 58)⟩,
  ⟨some 60, none, .mov (.t 6)⟩,
  ⟨some 61, none, .ixS 2 (.t 59) (.t 60)⟩,
  ⟨some 62, none, .fld 1 (.t 61)⟩,
  ⟨some 63, none, .ld (.t 62)⟩,
  ⟨some 64, none, .call (.f 30) [(.t 57), (.t 63)]⟩,
  ⟨some 8, none, .mov (.t 64)⟩]
def r25_9 : List O := [⟨some 65, none, .mov (.t 7)⟩,
  ⟨some 66, none, .un .not (.t 65)⟩,
  ⟨some 67, none, .mov (.t 66)⟩,
  ⟨some 68, some (67, false), .mov (.t 8)⟩,
  ⟨some 69, some (67, false), .un .not (.t 68)⟩,
  ⟨some 70, none, .pick (.t 67) (.c (.b true)) (.t 69)⟩]
def r25_10 : List O := [⟨some 4, none, .mov (.c (.b false))⟩]
def r25_6 : List O := [⟨some 37, none, .mov (.t 6)⟩,
  ⟨some 38, none, .bin .add (.t 37) (.c (.i .i64 1))⟩,
  ⟨some 6, none, .mov (.t 38)⟩]
def b25_0 : C := .seq (.seq (.ops r25_5) (.cond (.t 36) (.skip) (.exit 0))) (.seq (.block 1 (.seq (.draw r25_7 []) (.seq (.draw r25_8 []) (.seq (.ops r25_9) (.cond (.t 70) (.seq (.ops r25_10) (.ret)) (.skip)))))) (.ops r25_6))
def r25_11 : List O := [⟨some 4, none, .mov (.c (.b true))⟩]
def a25 : FI := ⟨71, [.tmp 4], .seq (.ops r25_0) (.seq (.ops r25_1) (.seq (.seq (.ops r25_2) (.cond (.t 31) (.seq (.ops r25_3) (.ret)) (.skip))) (.seq (.seq (.ops r25_4) (.block 0 (.loop b25_0))) (.seq (.ops r25_11) (.ret)))))⟩
def r26_0 : List O := [⟨some 2, none, .box (.t 0)⟩,
  ⟨some 4, none, .alloc [.sn, .i .i64 0, .sn]⟩,
  ⟨some 5, none, .mov (.c (.i .i64 0))⟩]
def r26_1 : List O := [⟨some 11, none, .ldn 2 (.t 2)⟩,
  ⟨some 12, none, .call (.f 66) [(.t 11)]⟩,
  ⟨some 6, none, .mov (.t 12)⟩]
def r26_2 : List O := [⟨some 13, none, .mov (.t 6)⟩,
  ⟨some 14, none, .bin .neq (.t 13) (.c (.i .i64 0))⟩]
def r26_3 : List O := [⟨some 15, none, .build [.sn, .i .i64 0, .sn] []⟩,
  ⟨some 16, none, .mov (.t 6)⟩,
  ⟨none, none, .st 3 (.t 4) (.t 15)⟩,
  ⟨some 5, none, .mov (.t 16)⟩]
def r26_4 : List O := [⟨some 17, none, .mov (.t 1)⟩,
  ⟨some 18, none, .bin .lss (.t 17) (.c (.i .i64 0))⟩,
  ⟨some 19, none, .mov (.t 18)⟩,
  ⟨some 20, some (19, false), .mov (.t 1)⟩,
  ⟨some 21, some (19, false), .fld 0 (.t 2)⟩,
  ⟨some 22, some (19, false), .ld (.t 21)⟩,
  ⟨some 23, some (19, false), .bin .geq (.t 20) (.t 22)⟩,
  ⟨some 24, none, .pick (.t 19) (.c (.b true)) (.t 23)⟩]
def r26_5 : List O := [⟨some 25, none, .build [.sn, .i .i64 0, .sn] []⟩,
  ⟨none, none, .st 3 (.t 4) (.t 25)⟩,
  ⟨some 5, none, .mov (.c (.i .i64 1))⟩]
def r26_6 : List O := [⟨some 27, none, .ldn 2 (.t 2)⟩,
  ⟨some 28, none, .call (.f 67) [(.t 27)]⟩,
  ⟨some 26, none, .mov (.t 28)⟩,
  ⟨some 29, none, .ext (.t 26) 0⟩,
  ⟨some 30, none, .ext (.t 26) 1⟩,
  ⟨some 7, none, .mov (.t 29)⟩,
  ⟨some 8, none, .mov (.t 30)⟩]
def r26_7 : List O := [⟨some 31, none, .mov (.t 8)⟩,
  ⟨some 32, none, .bin .neq (.t 31) (.c (.i .i64 0))⟩]
def r26_8 : List O := [⟨some 33, none, .build [.sn, .i .i64 0, .sn] []⟩,
  ⟨some 34, none, .mov (.t 8)⟩,
  ⟨none, none, .st 3 (.t 4) (.t 33)⟩,
  ⟨some 5, none, .mov (.t 34)⟩]
def r26_9 : List O := [⟨some 36, none, .ldn 2 (.t 2)⟩,
  ⟨some 37, none, .mov (.t 7)⟩,
  ⟨some 38, none, .mov (.t 1)⟩,
  ⟨some 39, none, .call (.f 68) [(.t 36), (.t 37), (.t 38)]⟩,
  ⟨some 40, none, .call (.f 69) [(.t 39)]⟩,
  ⟨some 35, none, .mov (.t 40)⟩,
  ⟨some 41, none, .ext (.t 35) 0⟩,
  ⟨some 42, none, .ext (.t 35) 1⟩,
  ⟨some 9, none, .mov (.t 41)⟩,
  ⟨some 10, none, .mov (.t 42)⟩]
def r26_10 : List O := [⟨some 43, none, .mov (.t 9)⟩,
  ⟨some 44, none, .mov (.t 10)⟩,
  ⟨some 45, none, .build [.sn, .i .i64 0, .sn] [(0, 1, (.t 43)), (1, 1, (.t 44))]⟩,
  ⟨none, none, .st 3 (.t 4) (.t 45)⟩,
  ⟨some 5, none, .mov (.c (.i .i64 0))⟩]
def a26 : FI := ⟨46, [.cell 4 (some 3), .tmp 5], .seq (.ops r26_0) (.seq (.seq (.ops r26_1) (.seq (.ops r26_2) (.cond (.t 14) (.seq (.ops r26_3) (.ret)) (.skip)))) (.seq (.seq (.ops r26_4) (.cond (.t 24) (.seq (.ops r26_5) (.ret)) (.skip))) (.seq (.ops r26_6) (.seq (.seq (.ops r26_7) (.cond (.t 32) (.seq (.ops r26_8) (.ret)) (.skip))) (.seq (.ops r26_9) (.seq (.ops r26_10) (.ret)))))))⟩
def r28_0 : List O := [⟨some 1, none, .box (.t 0)⟩,
  ⟨some 2, none, .mov (.c (.sn))⟩,
  ⟨some 3, none, .mov (.c (.i .i64 0))⟩]
def r28_1 : List O := [⟨some 11, none, .ldn 2 (.t 1)⟩,
  ⟨some 12, none, .call (.f 23) [(.t 11)]⟩,
  ⟨some 10, none, .mov (.t 12)⟩,
  ⟨some 13, none, .ext (.t 10) 0⟩,
  ⟨some 14, none, .ext (.t 10) 1⟩,
  ⟨some 4, none, .alloc [.sn, .i .i64 0, .sn]⟩,
  ⟨none, none, .st 3 (.t 4) (.t 13)⟩,
  ⟨some 5, none, .mov (.t 14)⟩]
def r28_2 : List O := [⟨some 15, none, .mov (.t 5)⟩,
  ⟨some 16, none, .bin .neq (.t 15) (.c (.i .i64 0))⟩]
def r28_3 : List O := [⟨some 17, none, .mov (.t 5)⟩,
  ⟨some 2, none, .mov (.c (.sn))⟩,
  ⟨some 3, none, .mov (.t 17)⟩]
def r28_4 : List O := [⟨some 6, none, .mov (.c (.sn))⟩]
def r28_5 : List O := [⟨some 18, none, .fld 0 (.t 1)⟩,
  ⟨some 19, none, .ld (.t 18)⟩,
  ⟨some 20, none, .mov (.c (.i .i64 0))⟩]
def r28_6 : List O := [⟨some 21, none, .bin .lss (.t 20) (.t 19)⟩]
def r28_7 : List O := [⟨some 22, none, .mov (.t 20)⟩,
  ⟨some 7, none, .mov (.t 22)⟩]
def r28_8 : List O := [⟨some 24, none, .ldn 2 (.t 1)⟩,
  ⟨some 25, none, .mov (.t 7)⟩,
  ⟨some 26, none, .call (.f 26) [(.t 24), (.t 25)]⟩,
  ⟨some 23, none, .mov (.t 26)⟩,
  ⟨some 27, none, .ext (.t 23) 0⟩,
  ⟨some 28, none, .ext (.t 23) 1⟩,
  ⟨some 8, none, .alloc [.sn, .i .i64 0, .sn]⟩,
  ⟨none, none, .st 3 (.t 8) (.t 27)⟩,
  ⟨some 9, none, .mov (.t 28)⟩]
def r28_9 : List O := [⟨some 29, none, .fld 1 (.t 8)⟩,
  ⟨some 30, none, .ld (.t 29)⟩,
  ⟨some 31, none, .fld 1 (.t 4)⟩,
  ⟨some 32, none, .ld (.t 31)⟩,
  ⟨some 33, none, .bin .gtr (.t 30) (.t 32)⟩]
def r28_10 : List O := [⟨some 34, none, .mov (.t 6)⟩,
  ⟨some 35, none, .mov (.t 7)⟩,
  ⟨some 36, none, .buildSl [.i .i64 0] 1 [(0, 1, (.t 35))]⟩,
  ⟨some 37, none, .app 1 8 (.t 34) (.t 36)⟩,
  ⟨some 6, none, .mov (.t 37)⟩]
def r28_11 : List O := [⟨some 38, none, .bin .add (.t 20) (.c (.i .i64 1))⟩,
  ⟨some 20, none, .mov (.t 38)⟩]
def b28_0 : C := .seq (.ops r28_6) (.seq (.cond (.t 21) (.skip) (.exit 0)) (.seq (.block 1 (.seq (.ops r28_7) (.seq (.ops r28_8) (.seq (.ops r28_9) (.cond (.t 33) (.ops r28_10) (.skip)))))) (.ops r28_11)))
def r28_12 : List O := [⟨some 39, none, .mov (.t 6)⟩,
  ⟨some 2, none, .mov (.t 39)⟩,
  ⟨some 3, none, .mov (.c (.i .i64 0))⟩]
def a28 : FI := ⟨40, [.tmp 2, .tmp 3], .seq (.ops r28_0) (.seq (.ops r28_1) (.seq (.seq (.ops r28_2) (.cond (.t 16) (.seq (.ops r28_3) (.ret)) (.skip))) (.seq (.ops r28_4) (.seq (.seq (.ops r28_5) (.block 0 (.loop b28_0))) (.seq (.ops r28_12) (.ret))))))⟩
def r30_0 : List O := [⟨some 4, none, .mov (.c (.b false))⟩]
def r30_1 : List O := [⟨some 6, none, .mov (.t 0)⟩,
  ⟨some 7, none, .lenL (.t 6)⟩,
  ⟨some 8, none, .mov (.t 1)⟩,
  ⟨some 9, none, .lenL (.t 8)⟩,
  ⟨some 10, none, .bin .neq (.t 7) (.t 9)⟩]
def r30_2 : List O := [⟨some 4, none, .mov (.c (.b false))⟩]
def r30_3 : List O := [⟨some 5, none, .mov (.c (.i .i64 0))⟩]
def r30_4 : List O := [⟨some 11, none, .mov (.t 5)⟩,
  ⟨some 12, none, .mov (.t 0)⟩,
  ⟨some 13, none, .lenL (.t 12)⟩,
  ⟨some 14, none, .bin .lss (.t 11) (.t 13)⟩]
def r30_6 : List O := [⟨some 17, none, .mov (.t 0)⟩,
  ⟨some 18, none, .mov (.t 5)⟩,
  ⟨some 19, none, .ixS 1 (.t 17) (.t 18)⟩,
  ⟨some 20, none, .ld (.t 19)⟩,
  ⟨some 21, none, .mov (.t 1)⟩,
  ⟨some 22, none, .mov (.t 5)⟩,
  ⟨some 23, none, .ixS 1 (.t 21) (.t 22)⟩,
  ⟨some 24, none, .ld (.t 23)⟩,
  ⟨some 25, none, .bin .neq (.t 20) (.t 24)⟩]
def r30_7 : List O := [⟨some 4, none, .mov (.c (.b false))⟩]
def r30_5 : List O := [⟨some 15, none, .mov (.t 5)⟩,
  ⟨some 16, none, .bin .add (.t 15) (.c (.i .i64 1))⟩,
  ⟨some 5, none, .mov (.t 16)⟩]
def b30_0 : C := .seq (.seq (.ops r30_4) (.cond (.t 14) (.skip) (.exit 0))) (.seq (.block 1 (.seq (.draw r30_6 []) (.cond (.t 25) (.seq (.ops r30_7) (.ret)) (.skip)))) (.ops r30_5))
def r30_8 : List O := [⟨some 4, none, .mov (.c (.b true))⟩]
def a30 : FI := ⟨26, [.tmp 4], .seq (.ops r30_0) (.seq (.seq (.ops r30_1) (.cond (.t 10) (.seq (.ops r30_2) (.ret)) (.skip))) (.seq (.seq (.ops r30_3) (.block 0 (.loop b30_0))) (.seq (.ops r30_8) (.ret))))⟩
end Go.Air.Try
set_option maxRecDepth 100000
namespace Go.Air.Try
def r31_0 : List O := [⟨some 2, none, .mov (.c (.sn))⟩,
  ⟨some 3, none, .mov (.c (.i .i64 0))⟩]
def r31_1 : List O := [⟨some 7, none, .mov (.t 0)⟩,
  ⟨some 8, none, .call (.f 78) [(.t 7)]⟩,
  ⟨some 9, none, .bin .neq (.t 8) (.c (.i .i64 0))⟩,
  ⟨some 6, none, .mov (.t 9)⟩]
def r31_2 : List O := [⟨some 2, none, .mov (.c (.sn))⟩,
  ⟨some 3, none, .mov (.c (.i .i64 1))⟩]
def r31_3 : List O := [⟨some 11, none, .mov (.t 0)⟩,
  ⟨some 12, none, .lenL (.t 11)⟩,
  ⟨some 13, none, .bin .gtr (.t 12) (.c (.i .i64 200))⟩,
  ⟨some 10, none, .mov (.t 13)⟩]
def r31_4 : List O := [⟨some 2, none, .mov (.c (.sn))⟩,
  ⟨some 3, none, .mov (.c (.i .i64 2))⟩]
def r31_5 : List O := [⟨some 4, none, .mov (.c (.sn))⟩]
def r31_6 : List O := [⟨some 14, none, .mov (.t 0)⟩,
  ⟨some 15, none, .lenL (.t 14)⟩,
  ⟨some 16, none, .mov (.c (.i .i64 0))⟩]
def r31_7 : List O := [⟨some 17, none, .bin .lss (.t 16) (.t 15)⟩]
def r31_8 : List O := [⟨some 18, none, .mov (.t 16)⟩,
  ⟨some 5, none, .mov (.t 18)⟩]
def r31_9 : List O := [⟨some 19, none, .mov (.t 4)⟩,
  ⟨some 20, none, .mov (.t 0)⟩,
  ⟨some 21, none, .mov (.t 5)⟩,
  ⟨some 22, none, .call (.f 79) [(.t 20), (.t 21)]⟩,
  ⟨some 23, none, .buildSl [.sn] 1 [(0, 1, (.t 22))]⟩,
  ⟨some 24, none, .app 1 24 (.t 19) (.t 23)⟩,
  ⟨some 4, none, .mov (.t 24)⟩]
def r31_10 : List O := [⟨some 25, none, .bin .add (.t 16) (.c (.i .i64 1))⟩,
  ⟨some 16, none, .mov (.t 25)⟩]
def b31_0 : C := .seq (.ops r31_7) (.seq (.cond (.t 17) (.skip) (.exit 1)) (.seq (.block 2 (.seq (.ops r31_8) (.ops r31_9))) (.ops r31_10)))
def r31_11 : List O := [⟨some 26, none, .mov (.t 4)⟩,
  ⟨some 2, none, .mov (.t 26)⟩,
  ⟨some 3, none, .mov (.c (.i .i64 0))⟩]
def a31 : FI := ⟨27, [.tmp 2, .tmp 3], .seq (.ops r31_0) (.seq (.block 0 (.seq (.ops r31_1) (.cond (.t 6) (.seq (.ops r31_2) (.ret)) (.seq (.ops r31_3) (.cond (.t 10) (.seq (.ops r31_4) (.ret)) (.skip)))))) (.seq (.ops r31_5) (.seq (.seq (.ops r31_6) (.block 1 (.loop b31_0))) (.seq (.ops r31_11) (.ret)))))⟩
def r32_0 : List O := [⟨some 2, none, .box (.t 0)⟩,
  ⟨some 4, none, .mov (.c (.i .i64 0))⟩,
  ⟨some 5, none, .mov (.c (.i .i64 0))⟩]
def r32_1 : List O := [⟨some 7, none, .ldn 2 (.t 2)⟩,
  ⟨some 8, none, .mov (.t 1)⟩,
  ⟨some 9, none, .call (.f 80) [(.t 7), (.t 8)]⟩,
  ⟨some 6, none, .mov (.t 9)⟩]
def r32_2 : List O := [⟨some 10, none, .mov (.t 6)⟩,
  ⟨some 11, none, .bin .neq (.t 10) (.c (.i .i64 0))⟩]
def r32_3 : List O := [⟨some 12, none, .mov (.t 6)⟩,
  ⟨some 4, none, .mov (.c (.i .i64 0))⟩,
  ⟨some 5, none, .mov (.t 12)⟩]
def r32_4 : List O := [⟨some 13, none, .ldn 2 (.t 2)⟩,
  ⟨some 14, none, .mov (.t 1)⟩,
  ⟨some 15, none, .call (.f 81) [(.t 13), (.t 14)]⟩,
  ⟨some 4, none, .mov (.t 15)⟩,
  ⟨some 5, none, .mov (.c (.i .i64 0))⟩]
def a32 : FI := ⟨16, [.tmp 4, .tmp 5], .seq (.ops r32_0) (.seq (.seq (.ops r32_1) (.seq (.ops r32_2) (.cond (.t 11) (.seq (.ops r32_3) (.ret)) (.skip)))) (.seq (.ops r32_4) (.ret)))⟩
def r37_0 : List O := [⟨some 4, none, .mov (.c (.i .i64 0))⟩]
def r37_1 : List O := [⟨some 8, none, .mov (.t 1)⟩,
  ⟨some 9, none, .lenL (.t 8)⟩,
  ⟨some 10, none, .mov (.t 0)⟩,
  ⟨some 11, none, .bin .neq (.t 9) (.t 10)⟩]
def r37_2 : List O := [⟨some 4, none, .mov (.c (.i .i64 1))⟩]
def r37_3 : List O := [⟨some 12, none, .mov (.t 0)⟩,
  ⟨some 13, none, .mkSl [.b false] 1 (.t 12) (.t 12)⟩,
  ⟨some 5, none, .mov (.t 13)⟩]
def r37_4 : List O := [⟨some 14, none, .mov (.t 1)⟩,
  ⟨some 15, none, .lenL (.t 14)⟩,
  ⟨some 16, none, .mov (.c (.i .i64 0))⟩]
def r37_5 : List O := [⟨some 17, none, .bin .lss (.t 16) (.t 15)⟩]
def r37_6 : List O := [⟨some 18, none, .ixS 1 (.t 14) (.t 16)⟩,
  ⟨some 19, none, .ld (.t 18)⟩,
  ⟨some 7, none, .mov (.t 19)⟩]
def r37_7 : List O := [⟨some 20, none, .mov (.t 7)⟩,
  ⟨some 21, none, .bin .lss (.t 20) (.c (.i .i64 0))⟩,
  ⟨some 22, none, .mov (.t 21)⟩,
  ⟨some 23, some (22, false), .mov (.t 7)⟩,
  ⟨some 24, some (22, false), .mov (.t 0)⟩,
  ⟨some 25, some (22, false), .bin .geq (.t 23) (.t 24)⟩,
  ⟨some 26, none, .pick (.t 22) (.c (.b true)) (.t 25)⟩,
  ⟨some 27, none, .mov (.t 26)⟩,
  ⟨some 28, some (27, false), .mov (.t 5)⟩,
  ⟨some 29, some (27, false), .mov (.t 7)⟩,
  ⟨some 30, some (27, false), .ixS 1 (.t 28) (.t 29)⟩,
  ⟨some 31, some (27, false), .ld (.t 30)⟩,
  ⟨some 32, none, .pick (.t 27) (.c (.b true)) (.t 31)⟩]
def r37_8 : List O := [⟨some 4, none, .mov (.c (.i .i64 1))⟩]
def r37_9 : List O := [⟨some 33, none, .mov (.t 5)⟩,
  ⟨some 34, none, .mov (.t 7)⟩,
  ⟨some 35, none, .ixS 1 (.t 33) (.t 34)⟩,
  ⟨none, none, .st 1 (.t 35) (.c (.b true))⟩]
def r37_10 : List O := [⟨some 36, none, .bin .add (.t 16) (.c (.i .i64 1))⟩,
  ⟨some 16, none, .mov (.t 36)⟩]
def b37_0 : C := .seq (.ops r37_5) (.seq (.cond (.t 17) (.skip) (.exit 0)) (.seq (.block 1 (.seq (.ops r37_6) (.seq (.seq (.ops r37_7) (.cond (.t 32) (.seq (.ops r37_8) (.ret)) (.skip))) (.ops r37_9)))) (.ops r37_10)))
def r37_11 : List O := [⟨some 4, none, .mov (.c (.i .i64 0))⟩]
def a37 : FI := ⟨37, [.tmp 4], .seq (.ops r37_0) (.seq (.seq (.ops r37_1) (.cond (.t 11) (.seq (.ops r37_2) (.ret)) (.skip))) (.seq (.ops r37_3) (.seq (.seq (.ops r37_4) (.block 0 (.loop b37_0))) (.seq (.ops r37_11) (.ret)))))⟩
def r39_0 : List O := [⟨some 1, none, .box (.t 0)⟩,
  ⟨some 2, none, .mov (.c (.sn))⟩]
def r39_1 : List O := [⟨some 3, none, .ldn 2 (.t 1)⟩,
  ⟨some 4, none, .call (.f 87) [(.t 3)]⟩,
  ⟨some 5, none, .call (.f 86) [(.t 4), (.f 88)]⟩,
  ⟨some 2, none, .mov (.t 5)⟩]
def a39 : FI := ⟨6, [.tmp 2], .seq (.ops r39_0) (.seq (.ops r39_1) (.ret))⟩
def r42_0 : List O := [⟨some 6, none, .mov (.c (.sn))⟩,
  ⟨some 7, none, .mov (.c (.i .i64 0))⟩]
def r42_1 : List O := [⟨some 14, none, .mov (.t 1)⟩,
  ⟨some 15, none, .bin .lss (.t 14) (.c (.i .i64 0))⟩,
  ⟨some 16, none, .mov (.t 15)⟩,
  ⟨some 17, some (16, false), .mov (.t 1)⟩,
  ⟨some 18, some (16, false), .bin .gtr (.t 17) (.c (.i .i64 200))⟩,
  ⟨some 19, none, .pick (.t 16) (.c (.b true)) (.t 18)⟩]
def r42_2 : List O := [⟨some 6, none, .mov (.c (.sn))⟩,
  ⟨some 7, none, .mov (.c (.i .i64 1))⟩]
def r42_3 : List O := [⟨some 21, none, .mov (.t 0)⟩,
  ⟨some 22, none, .bin .eql (.t 21) (.c (.i .u8 1))⟩,
  ⟨some 23, none, .mov (.t 22)⟩,
  ⟨some 24, some (23, true), .mov (.t 2)⟩,
  ⟨some 25, some (23, true), .bin .eql (.t 24) (.c (.i .i64 0))⟩,
  ⟨some 26, none, .pick (.t 23) (.t 25) (.c (.b false))⟩,
  ⟨some 20, none, .mov (.t 26)⟩]
def r42_4 : List O := [⟨some 27, none, .mov (.t 1)⟩,
  ⟨some 28, none, .call (.f 90) [(.t 27)]⟩,
  ⟨some 29, none, .call (.f 89) [(.c (.i .i64 0)), (.t 28)]⟩,
  ⟨some 6, none, .mov (.t 29)⟩,
  ⟨some 7, none, .mov (.c (.i .i64 0))⟩]
def r42_5 : List O := [⟨some 31, none, .mov (.t 0)⟩,
  ⟨some 32, none, .bin .eql (.t 31) (.c (.i .u8 2))⟩,
  ⟨some 33, none, .mov (.t 32)⟩,
  ⟨some 34, some (33, true), .mov (.t 2)⟩,
  ⟨some 35, some (33, true), .bin .geq (.t 34) (.c (.i .i64 1))⟩,
  ⟨some 36, none, .pick (.t 33) (.t 35) (.c (.b false))⟩,
  ⟨some 37, none, .mov (.t 36)⟩,
  ⟨some 38, some (37, true), .mov (.t 2)⟩,
  ⟨some 39, some (37, true), .bin .leq (.t 38) (.c (.i .i64 200))⟩,
  ⟨some 40, none, .pick (.t 37) (.t 39) (.c (.b false))⟩,
  ⟨some 30, none, .mov (.t 40)⟩]
def r42_6 : List O := [⟨some 8, none, .mov (.c (.sn))⟩]
def r42_7 : List O := [⟨some 9, none, .mov (.c (.i .i64 0))⟩]
def r42_8 : List O := [⟨some 41, none, .mov (.t 9)⟩,
  ⟨some 42, none, .mov (.t 2)⟩,
  ⟨some 43, none, .bin .mul (.t 41) (.t 42)⟩,
  ⟨some 44, none, .mov (.t 1)⟩,
  ⟨some 45, none, .bin .lss (.t 43) (.t 44)⟩]
def r42_10 : List O := [⟨some 48, none, .mov (.t 8)⟩,
  ⟨some 49, none, .mov (.t 9)⟩,
  ⟨some 50, none, .mov (.t 2)⟩,
  ⟨some 51, none, .mov (.t 1)⟩,
  ⟨some 52, none, .mov (.t 9)⟩,
  ⟨some 53, none, .mov (.t 2)⟩,
  ⟨some 54, none, .bin .mul (.t 52) (.t 53)⟩,
  ⟨some 55, none, .bin .sub (.t 51) (.t 54)⟩,
  ⟨some 56, none, .min [(.t 50), (.t 55)]⟩,
  ⟨some 57, none, .call (.f 91) [(.t 56)]⟩,
  ⟨some 58, none, .call (.f 89) [(.t 49), (.t 57)]⟩,
  ⟨some 59, none, .buildSl [.sn] 1 [(0, 1, (.t 58))]⟩,
  ⟨some 60, none, .app 1 24 (.t 48) (.t 59)⟩,
  ⟨some 8, none, .mov (.t 60)⟩]
def r42_9 : List O := [⟨some 46, none, .mov (.t 9)⟩,
  ⟨some 47, none, .bin .add (.t 46) (.c (.i .i64 1))⟩,
  ⟨some 9, none, .mov (.t 47)⟩]
def b42_0 : C := .seq (.seq (.ops r42_8) (.cond (.t 45) (.skip) (.exit 1))) (.seq (.block 2 (.ops r42_10)) (.ops r42_9))
def r42_11 : List O := [⟨some 61, none, .mov (.t 8)⟩,
  ⟨some 62, none, .call (.f 92) [(.t 61)]⟩,
  ⟨some 6, none, .mov (.t 62)⟩,
  ⟨some 7, none, .mov (.c (.i .i64 0))⟩]
def r42_12 : List O := [⟨some 64, none, .mov (.t 0)⟩,
  ⟨some 65, none, .bin .eql (.t 64) (.c (.i .u8 3))⟩,
  ⟨some 66, none, .mov (.t 65)⟩,
  ⟨some 67, some (66, true), .mov (.t 2)⟩,
  ⟨some 68, some (66, true), .bin .eql (.t 67) (.c (.i .i64 0))⟩,
  ⟨some 69, none, .pick (.t 66) (.t 68) (.c (.b false))⟩,
  ⟨some 63, none, .mov (.t 69)⟩]
def r42_13 : List O := [⟨some 70, none, .mov (.t 1)⟩,
  ⟨some 71, none, .call (.f 91) [(.t 70)]⟩,
  ⟨some 72, none, .call (.f 89) [(.c (.i .i64 0)), (.t 71)]⟩,
  ⟨some 6, none, .mov (.t 72)⟩,
  ⟨some 7, none, .mov (.c (.i .i64 0))⟩]
def r42_14 : List O := [⟨some 74, none, .mov (.t 0)⟩,
  ⟨some 75, none, .bin .eql (.t 74) (.c (.i .u8 3))⟩,
  ⟨some 76, none, .mov (.t 75)⟩,
  ⟨some 77, some (76, true), .mov (.t 2)⟩,
  ⟨some 78, some (76, true), .bin .eql (.t 77) (.c (.i .i64 1))⟩,
  ⟨some 79, none, .pick (.t 76) (.t 78) (.c (.b false))⟩,
  ⟨some 73, none, .mov (.t 79)⟩]
def r42_15 : List O := [⟨some 80, none, .mov (.t 1)⟩,
  ⟨some 81, none, .call (.f 90) [(.t 80)]⟩,
  ⟨some 82, none, .call (.f 89) [(.c (.i .i64 0)), (.t 81)]⟩,
  ⟨some 6, none, .mov (.t 82)⟩,
  ⟨some 7, none, .mov (.c (.i .i64 0))⟩]
def r42_16 : List O := [⟨some 84, none, .mov (.t 0)⟩,
  ⟨some 85, none, .bin .eql (.t 84) (.c (.i .u8 3))⟩,
  ⟨some 86, none, .mov (.t 85)⟩,
  ⟨some 87, some (86, true), .mov (.t 2)⟩,
  ⟨some 88, some (86, true), .bin .eql (.t 87) (.c (.i .i64 2))⟩,
  ⟨some 89, none, .pick (.t 86) (.t 88) (.c (.b false))⟩,
  ⟨some 83, none, .mov (.t 89)⟩]
def r42_17 : List O := [⟨some 90, none, .mov (.t 1)⟩,
  ⟨some 91, none, .call (.f 90) [(.t 90)]⟩,
  ⟨some 10, none, .mov (.t 91)⟩]
def r42_18 : List O := [⟨some 92, none, .mov (.t 10)⟩,
  ⟨some 93, none, .call (.f 93) [(.t 92)]⟩]
def r42_19 : List O := [⟨some 94, none, .mov (.t 10)⟩,
  ⟨some 95, none, .call (.f 89) [(.c (.i .i64 0)), (.t 94)]⟩,
  ⟨some 6, none, .mov (.t 95)⟩,
  ⟨some 7, none, .mov (.c (.i .i64 0))⟩]
def r42_20 : List O := [⟨some 97, none, .mov (.t 0)⟩,
  ⟨some 98, none, .bin .eql (.t 97) (.c (.i .u8 4))⟩,
  ⟨some 99, none, .mov (.t 98)⟩,
  ⟨some 100, some (99, true), .mov (.t 2)⟩,
  ⟨some 101, some (99, true), .bin .eql (.t 100) (.c (.i .i64 0))⟩,
  ⟨some 102, none, .pick (.t 99) (.t 101) (.c (.b false))⟩,
  ⟨some 96, none, .mov (.t 102)⟩]
def r42_21 : List O := [⟨some 103, none, .mov (.t 1)⟩,
  ⟨some 104, none, .mov (.t 1)⟩,
  ⟨some 105, none, .bin .quo (.t 104) (.c (.i .i64 2))⟩,
  ⟨some 106, none, .bin .sub (.t 103) (.t 105)⟩,
  ⟨some 107, none, .call (.f 91) [(.t 106)]⟩,
  ⟨some 108, none, .mov (.t 1)⟩,
  ⟨some 109, none, .bin .quo (.t 108) (.c (.i .i64 2))⟩,
  ⟨some 110, none, .call (.f 91) [(.t 109)]⟩,
  ⟨some 111, none, .build [.sn, .sn] [(0, 1, (.t 107)), (1, 1, (.t 110))]⟩,
  ⟨some 11, none, .alloc [.sn, .sn]⟩,
  ⟨none, none, .st 2 (.t 11) (.t 111)⟩]
def r42_22 : List O := [⟨some 12, none, .mov (.c (.sn))⟩]
def r42_23 : List O := [⟨some 112, none, .mov (.t 1)⟩,
  ⟨some 113, none, .mov (.c (.i .i64 0))⟩]
def r42_24 : List O := [⟨some 114, none, .bin .lss (.t 113) (.t 112)⟩]
def r42_25 : List O := [⟨some 115, none, .mov (.t 113)⟩,
  ⟨some 13, none, .mov (.t 115)⟩]
def r42_26 : List O := [⟨some 116, none, .mov (.t 12)⟩,
  ⟨some 117, none, .mov (.t 13)⟩,
  ⟨some 118, none, .bin .rem (.t 117) (.c (.i .i64 2))⟩,
  ⟨some 119, none, .mov (.t 13)⟩,
  ⟨some 120, none, .bin .rem (.t 119) (.c (.i .i64 2))⟩,
  ⟨some 121, none, .ixA 2 1 (.t 11) (.t 120)⟩,
  ⟨some 122, none, .ld (.t 121)⟩,
  ⟨some 123, none, .mov (.t 13)⟩,
  ⟨some 124, none, .bin .quo (.t 123) (.c (.i .i64 2))⟩,
  ⟨some 125, none, .ixS 1 (.t 122) (.t 124)⟩,
  ⟨some 126, none, .ld (.t 125)⟩,
  ⟨some 127, none, .build [.i .i64 0, .i .i64 0] [(0, 1, (.t 118)), (1, 1, (.t 126))]⟩,
  ⟨some 128, none, .buildSl [.i .i64 0, .i .i64 0] 1 [(0, 2, (.t 127))]⟩,
  ⟨some 129, none, .app 2 16 (.t 116) (.t 128)⟩,
  ⟨some 12, none, .mov (.t 129)⟩]
def r42_27 : List O := [⟨some 130, none, .bin .add (.t 113) (.c (.i .i64 1))⟩,
  ⟨some 113, none, .mov (.t 130)⟩]
def b42_1 : C := .seq (.ops r42_24) (.seq (.cond (.t 114) (.skip) (.exit 3)) (.seq (.block 4 (.seq (.ops r42_25) (.ops r42_26))) (.ops r42_27)))
def r42_28 : List O := [⟨some 131, none, .mov (.t 12)⟩,
  ⟨some 6, none, .mov (.t 131)⟩,
  ⟨some 7, none, .mov (.c (.i .i64 0))⟩]
def r42_29 : List O := [⟨some 6, none, .mov (.c (.sn))⟩,
  ⟨some 7, none, .mov (.c (.i .i64 1))⟩]
def a42 : FI := ⟨132, [.tmp 6, .tmp 7], .seq (.ops r42_0) (.seq (.seq (.ops r42_1) (.cond (.t 19) (.seq (.ops r42_2) (.ret)) (.skip))) (.seq (.block 0 (.seq (.ops r42_3) (.cond (.t 20) (.seq (.ops r42_4) (.ret)) (.seq (.ops r42_5) (.cond (.t 30) (.seq (.ops r42_6) (.seq (.seq (.ops r42_7) (.block 1 (.loop b42_0))) (.seq (.ops r42_11) (.ret)))) (.seq (.ops r42_12) (.cond (.t 63) (.seq (.ops r42_13) (.ret)) (.seq (.ops r42_14) (.cond (.t 73) (.seq (.ops r42_15) (.ret)) (.seq (.ops r42_16) (.cond (.t 83) (.seq (.ops r42_17) (.seq (.ops r42_18) (.seq (.ops r42_19) (.ret)))) (.seq (.ops r42_20) (.cond (.t 96) (.seq (.ops r42_21) (.seq (.ops r42_22) (.seq (.seq (.ops r42_23) (.block 3 (.loop b42_1))) (.seq (.ops r42_28) (.ret))))) (.skip)))))))))))))) (.seq (.ops r42_29) (.ret))))⟩
def r49_0 : List O := [⟨some 2, none, .box (.t 0)⟩,
  ⟨some 4, none, .mov (.c (.sn))⟩,
  ⟨some 5, none, .mov (.c (.i .i64 0))⟩]
def r49_1 : List O := [⟨some 12, none, .ldn 2 (.t 2)⟩,
  ⟨some 13, none, .mov (.t 1)⟩,
  ⟨some 14, none, .call (.f 80) [(.t 12), (.t 13)]⟩,
  ⟨some 6, none, .mov (.t 14)⟩]
def r49_2 : List O := [⟨some 15, none, .mov (.t 6)⟩,
  ⟨some 16, none, .bin .neq (.t 15) (.c (.i .i64 0))⟩]
def r49_3 : List O := [⟨some 17, none, .mov (.t 6)⟩,
  ⟨some 4, none, .mov (.c (.sn))⟩,
  ⟨some 5, none, .mov (.t 17)⟩]
def r49_4 : List O := [⟨some 18, none, .ldn 2 (.t 2)⟩,
  ⟨some 19, none, .call (.f 97) [(.t 18)]⟩,
  ⟨some 7, none, .alloc (List.replicate 576 (.i .i64 0))⟩,
  ⟨none, none, .st 576 (.t 7) (.t 19)⟩]
def r49_5 : List O := [⟨some 20, none, .mov (.t 1)⟩,
  ⟨some 21, none, .call (.f 70) [(.t 20)]⟩,
  ⟨some 8, none, .mov (.t 21)⟩]
def r49_6 : List O := [⟨some 9, none, .mov (.c (.i .i64 1))⟩]
def r49_7 : List O := [⟨some 22, none, .mov (.t 9)⟩,
  ⟨some 23, none, .mov (.t 8)⟩,
  ⟨some 24, none, .lenL (.t 23)⟩,
  ⟨some 25, none, .bin .lss (.t 22) (.t 24)⟩]
def r49_9 : List O := [⟨some 28, none, .mov (.t 8)⟩,
  ⟨some 29, none, .mov (.t 9)⟩,
  ⟨some 30, none, .bin .sub (.t 29) (.c (.i .i64 1))⟩,
  ⟨some 31, none, .ixS 1 (.t 28) (.t 30)⟩,
  ⟨some 32, none, .ld (.t 31)⟩,
  ⟨some 33, none, .mov (.t 8)⟩,
  ⟨some 34, none, .mov (.t 9)⟩,
  ⟨some 35, none, .ixS 1 (.t 33) (.t 34)⟩,
  ⟨some 36, none, .ld (.t 35)⟩,
  ⟨some 10, none, .mov (.t 32)⟩,
  ⟨some 11, none, .mov (.t 36)⟩]
def r49_10 : List O := [⟨some 37, none, .mov (.t 11)⟩,
  ⟨some 38, none, .mov (.t 10)⟩,
  ⟨some 39, none, .ixA 24 24 (.t 7) (.t 37)⟩,
  ⟨some 40, none, .ixA 24 1 (.t 39) (.t 38)⟩,
  ⟨some 41, none, .ld (.t 40)⟩,
  ⟨some 42, none, .mov (.t 10)⟩,
  ⟨some 43, none, .mov (.t 11)⟩,
  ⟨some 44, none, .ixA 24 24 (.t 7) (.t 42)⟩,
  ⟨some 45, none, .ixA 24 1 (.t 44) (.t 43)⟩,
  ⟨some 46, none, .ld (.t 45)⟩,
  ⟨some 47, none, .bin .gtr (.t 41) (.t 46)⟩]
def r49_11 : List O := [⟨some 48, none, .mov (.t 8)⟩,
  ⟨some 49, none, .mov (.t 9)⟩,
  ⟨some 50, none, .bin .sub (.t 49) (.c (.i .i64 1))⟩,
  ⟨some 51, none, .mov (.t 8)⟩,
  ⟨some 52, none, .mov (.t 9)⟩,
  ⟨some 53, none, .mov (.t 11)⟩,
  ⟨some 54, none, .mov (.t 10)⟩,
  ⟨some 55, none, .ixS 1 (.t 48) (.t 50)⟩,
  ⟨none, none, .st 1 (.t 55) (.t 53)⟩,
  ⟨some 56, none, .ixS 1 (.t 51) (.t 52)⟩,
  ⟨none, none, .st 1 (.t 56) (.t 54)⟩]
def r49_8 : List O := [⟨some 26, none, .mov (.t 9)⟩,
  ⟨some 27, none, .bin .add (.t 26) (.c (.i .i64 1))⟩,
  ⟨some 9, none, .mov (.t 27)⟩]
def b49_0 : C := .seq (.seq (.ops r49_7) (.cond (.t 25) (.skip) (.exit 2))) (.seq (.block 3 (.seq (.draw r49_9 []) (.seq (.draw r49_10 []) (.cond (.t 47) (.seq (.ops r49_11) (.exit 1)) (.skip))))) (.ops r49_8))
def r49_12 : List O := [⟨some 57, none, .mov (.t 8)⟩,
  ⟨some 4, none, .mov (.t 57)⟩,
  ⟨some 5, none, .mov (.c (.i .i64 0))⟩]
def b49_1 : C := .block 1 (.seq (.seq (.ops r49_6) (.block 2 (.loop b49_0))) (.seq (.ops r49_12) (.ret)))
def a49 : FI := ⟨58, [.tmp 4, .tmp 5], .seq (.ops r49_0) (.seq (.seq (.ops r49_1) (.seq (.ops r49_2) (.cond (.t 16) (.seq (.ops r49_3) (.ret)) (.skip)))) (.seq (.ops r49_4) (.seq (.ops r49_5) (.seq (.skip) (.block 0 (.loop b49_1))))))⟩
end Go.Air.Try
set_option maxRecDepth 100000
namespace Go.Air.Try
def r53_0 : List O := [⟨some 4, none, .mov (.c (.sn))⟩,
  ⟨some 5, none, .mov (.c (.i .i64 0))⟩]
def r53_1 : List O := [⟨some 9, none, .mov (.t 0)⟩,
  ⟨some 10, none, .call (.f 78) [(.t 9)]⟩,
  ⟨some 11, none, .bin .neq (.t 10) (.c (.i .i64 0))⟩,
  ⟨some 12, none, .mov (.t 11)⟩,
  ⟨some 13, some (12, false), .mov (.t 1)⟩,
  ⟨some 14, some (12, false), .bin .lss (.t 13) (.c (.i .i64 1))⟩,
  ⟨some 15, none, .pick (.t 12) (.c (.b true)) (.t 14)⟩,
  ⟨some 16, none, .mov (.t 15)⟩,
  ⟨some 17, some (16, false), .mov (.t 1)⟩,
  ⟨some 18, some (16, false), .bin .gtr (.t 17) (.c (.i .i64 200))⟩,
  ⟨some 19, none, .pick (.t 16) (.c (.b true)) (.t 18)⟩,
  ⟨some 8, none, .mov (.t 19)⟩]
def r53_2 : List O := [⟨some 4, none, .mov (.c (.sn))⟩,
  ⟨some 5, none, .mov (.c (.i .i64 1))⟩]
def r53_3 : List O := [⟨some 21, none, .mov (.t 0)⟩,
  ⟨some 22, none, .lenL (.t 21)⟩,
  ⟨some 23, none, .bin .gtr (.t 22) (.c (.i .i64 200))⟩,
  ⟨some 20, none, .mov (.t 23)⟩]
def r53_4 : List O := [⟨some 4, none, .mov (.c (.sn))⟩,
  ⟨some 5, none, .mov (.c (.i .i64 2))⟩]
def r53_5 : List O := [⟨some 6, none, .alloc [.sn]⟩]
def r53_6 : List O := [⟨some 24, none, .mov (.t 0)⟩,
  ⟨some 25, none, .mov (.t 1)⟩,
  ⟨some 26, none, .call (.f 100) [(.t 24), (.t 25)]⟩]
def r53_7 : List O := [⟨some 7, none, .mov (.t 27)⟩]
def r53_8 : List O := [⟨some 28, none, .ld (.t 6)⟩,
  ⟨some 29, none, .mov (.t 7)⟩,
  ⟨some 30, none, .call (.f 70) [(.t 29)]⟩,
  ⟨some 31, none, .buildSl [.sn] 1 [(0, 1, (.t 30))]⟩,
  ⟨some 32, none, .app 1 24 (.t 28) (.t 31)⟩,
  ⟨none, none, .st 1 (.t 6) (.t 32)⟩]
def b53_0 : C := .block 2 (.draw r53_8 [(0, 2)])
def r53_9 : List O := [⟨some 33, none, .ld (.t 6)⟩,
  ⟨some 4, none, .mov (.t 33)⟩,
  ⟨some 5, none, .mov (.c (.i .i64 0))⟩]
def a53 : FI := ⟨34, [.tmp 4, .tmp 5], .seq (.ops r53_0) (.seq (.block 0 (.seq (.ops r53_1) (.cond (.t 8) (.seq (.ops r53_2) (.ret)) (.seq (.ops r53_3) (.cond (.t 20) (.seq (.ops r53_4) (.ret)) (.skip)))))) (.seq (.ops r53_5) (.seq (.seq (.ops r53_6) (.block 1 (.rangeF (.t 26) [27] (.ops r53_7) b53_0))) (.seq (.ops r53_9) (.ret)))))⟩
def r65_0 : List O := [⟨some 0, none, .alloc [.i .i64 0, .sn]⟩]
def r65_1 : List O := [⟨some 1, none, .build [.i .i64 0, .i .i64 0, .i .i64 0, .i .i64 0] [(0, 1, (.c (.i .i64 0))), (1, 1, (.c (.i .i64 1))), (3, 1, (.c (.i .i64 5)))]⟩,
  ⟨some 2, none, .build [.i .i64 0, .i .i64 0, .i .i64 0, .i .i64 0] [(0, 1, (.c (.i .i64 1))), (1, 1, (.c (.i .i64 2))), (3, 1, (.c (.i .i64 3)))]⟩,
  ⟨some 3, none, .build [.i .i64 0, .i .i64 0, .i .i64 0, .i .i64 0] [(0, 1, (.c (.i .i64 2))), (1, 1, (.c (.i .i64 0))), (3, 1, (.c (.i .i64 2)))]⟩,
  ⟨some 4, none, .build [.i .i64 0, .i .i64 0, .i .i64 0, .i .i64 0] [(0, 1, (.c (.i .i64 3))), (1, 1, (.c (.i .i64 0))), (3, 1, (.c (.i .i64 1)))]⟩,
  ⟨some 5, none, .buildSl (List.replicate 16 (.i .i64 0)) 4 [(0, 4, (.t 1)), (4, 4, (.t 2)), (8, 4, (.t 3)), (12, 4, (.t 4))]⟩,
  ⟨some 6, none, .build [.i .i64 0, .sn] [(0, 1, (.c (.i .i64 4))), (1, 1, (.t 5))]⟩,
  ⟨none, none, .st 2 (.t 0) (.t 6)⟩]
def a65 : FI := ⟨7, [.cell 0 (some 2)], .seq (.ops r65_0) (.seq (.ops r65_1) (.ret))⟩
def r66_0 : List O := [⟨some 1, none, .box (.t 0)⟩,
  ⟨some 2, none, .mov (.c (.i .i64 0))⟩]
def r66_1 : List O := [⟨some 5, none, .fld 0 (.t 1)⟩,
  ⟨some 6, none, .ld (.t 5)⟩,
  ⟨some 7, none, .bin .gtr (.t 6) (.c (.i .i64 24))⟩]
def r66_2 : List O := [⟨some 2, none, .mov (.c (.i .i64 2))⟩]
def r66_3 : List O := [⟨some 8, none, .fld 0 (.t 1)⟩,
  ⟨some 9, none, .ld (.t 8)⟩,
  ⟨some 10, none, .bin .lss (.t 9) (.c (.i .i64 0))⟩]
def r66_4 : List O := [⟨some 2, none, .mov (.c (.i .i64 1))⟩]
def r66_5 : List O := [⟨some 11, none, .fld 1 (.t 1)⟩,
  ⟨some 12, none, .ld (.t 11)⟩,
  ⟨some 13, none, .lenL (.t 12)⟩,
  ⟨some 14, none, .mov (.c (.i .i64 0))⟩]
def r66_6 : List O := [⟨some 15, none, .bin .lss (.t 14) (.t 13)⟩]
def r66_7 : List O := [⟨some 16, none, .mov (.t 14)⟩,
  ⟨some 17, none, .ixS 4 (.t 12) (.t 14)⟩,
  ⟨some 18, none, .ldn 4 (.t 17)⟩,
  ⟨some 4, none, .alloc [.i .i64 0, .i .i64 0, .i .i64 0, .i .i64 0]⟩,
  ⟨some 3, none, .mov (.t 16)⟩,
  ⟨none, none, .st 4 (.t 4) (.t 18)⟩]
def r66_8 : List O := [⟨some 19, none, .fld 0 (.t 4)⟩,
  ⟨some 20, none, .ld (.t 19)⟩,
  ⟨some 21, none, .fld 0 (.t 1)⟩,
  ⟨some 22, none, .ld (.t 21)⟩,
  ⟨some 23, none, .bin .sub (.t 22) (.c (.i .i64 1))⟩,
  ⟨some 24, none, .call (.f 108) [(.t 20), (.c (.i .i64 0)), (.t 23)]⟩,
  ⟨some 25, none, .un .not (.t 24)⟩,
  ⟨some 26, none, .mov (.t 25)⟩,
  ⟨some 27, some (26, false), .fld 1 (.t 4)⟩,
  ⟨some 28, some (26, false), .ld (.t 27)⟩,
  ⟨some 29, some (26, false), .fld 0 (.t 1)⟩,
  ⟨some 30, some (26, false), .ld (.t 29)⟩,
  ⟨some 31, some (26, false), .bin .sub (.t 30) (.c (.i .i64 1))⟩,
  ⟨some 32, some (26, false), .call (.f 108) [(.t 28), (.c (.i .i64 0)), (.t 31)]⟩,
  ⟨some 33, some (26, false), .un .not (.t 32)⟩,
  ⟨some 34, none, .pick (.t 26) (.c (.b true)) (.t 33)⟩,
  ⟨some 35, none, .mov (.t 34)⟩,
  ⟨some 36, some (35, false), .fld 0 (.t 4)⟩,
  ⟨some 37, some (35, false), .ld (.t 36)⟩,
  ⟨some 38, some (35, false), .fld 1 (.t 4)⟩,
  ⟨some 39, some (35, false), .ld (.t 38)⟩,
  ⟨some 40, some (35, false), .bin .eql (.t 37) (.t 39)⟩,
  ⟨some 41, none, .pick (.t 35) (.c (.b true)) (.t 40)⟩,
  ⟨some 42, none, .mov (.t 41)⟩,
  ⟨some 43, some (42, false), .fld 2 (.t 4)⟩,
  ⟨some 44, some (42, false), .ld (.t 43)⟩,
  ⟨some 45, some (42, false), .call (.f 108) [(.t 44), (.c (.i .i64 0)), (.c (.i .i64 23))]⟩,
  ⟨some 46, some (42, false), .un .not (.t 45)⟩,
  ⟨some 47, none, .pick (.t 42) (.c (.b true)) (.t 46)⟩,
  ⟨some 48, none, .mov (.t 47)⟩,
  ⟨some 49, some (48, false), .fld 3 (.t 4)⟩,
  ⟨some 50, some (48, false), .ld (.t 49)⟩,
  ⟨some 51, some (48, false), .call (.f 108) [(.t 50), (.c (.i .i64 1)), (.c (.i .i64 1000))]⟩,
  ⟨some 52, some (48, false), .un .not (.t 51)⟩,
  ⟨some 53, none, .pick (.t 48) (.c (.b true)) (.t 52)⟩]
def r66_9 : List O := [⟨some 2, none, .mov (.c (.i .i64 1))⟩]
def r66_10 : List O := [⟨some 54, none, .mov (.t 3)⟩,
  ⟨some 55, none, .bin .gtr (.t 54) (.c (.i .i64 0))⟩,
  ⟨some 56, none, .mov (.t 55)⟩,
  ⟨some 57, some (56, true), .fld 1 (.t 1)⟩,
  ⟨some 58, some (56, true), .ld (.t 57)⟩,
  ⟨some 59, some (56, true), .mov (.t 3)⟩,
  ⟨some 60, some (56, true), .bin .sub (.t 59) (.c (.i .i64 1))⟩,
  ⟨some 61, some (56, true), .ixS 4 (.t 58) (.t 60)⟩,
  ⟨some 62, some (56, true), .ldn 4 (.t 61)⟩,
  ⟨some 63, some (56, true), .ldn 4 (.t 4)⟩,
  ⟨some 64, some (56, true), .call (.f 109) [(.t 62), (.t 63)]⟩,
  ⟨some 65, some (56, true), .bin .geq (.t 64) (.c (.i .i64 0))⟩,
  ⟨some 66, none, .pick (.t 56) (.t 65) (.c (.b false))⟩]
def r66_11 : List O := [⟨some 2, none, .mov (.c (.i .i64 1))⟩]
def r66_12 : List O := [⟨some 67, none, .bin .add (.t 14) (.c (.i .i64 1))⟩,
  ⟨some 14, none, .mov (.t 67)⟩]
def b66_0 : C := .seq (.ops r66_6) (.seq (.cond (.t 15) (.skip) (.exit 0)) (.seq (.block 1 (.seq (.ops r66_7) (.seq (.seq (.ops r66_8) (.cond (.t 53) (.seq (.ops r66_9) (.ret)) (.skip))) (.seq (.draw r66_10 []) (.cond (.t 66) (.seq (.ops r66_11) (.ret)) (.skip)))))) (.ops r66_12)))
def r66_13 : List O := [⟨some 2, none, .mov (.c (.i .i64 0))⟩]
def a66 : FI := ⟨68, [.tmp 2], .seq (.ops r66_0) (.seq (.seq (.ops r66_1) (.cond (.t 7) (.seq (.ops r66_2) (.ret)) (.skip))) (.seq (.seq (.ops r66_3) (.cond (.t 10) (.seq (.ops r66_4) (.ret)) (.skip))) (.seq (.seq (.ops r66_5) (.block 0 (.loop b66_0))) (.seq (.ops r66_13) (.ret)))))⟩
def r67_0 : List O := [⟨some 1, none, .box (.t 0)⟩,
  ⟨some 2, none, .mov (.c (.sn))⟩,
  ⟨some 3, none, .mov (.c (.i .i64 0))⟩]
def r67_1 : List O := [⟨some 7, none, .ldn 2 (.t 1)⟩,
  ⟨some 8, none, .call (.f 39) [(.t 7)]⟩,
  ⟨some 4, none, .mov (.t 8)⟩]
def r67_2 : List O := [⟨some 9, none, .mov (.t 4)⟩,
  ⟨some 10, none, .lenL (.t 9)⟩,
  ⟨some 11, none, .mov (.c (.i .i64 0))⟩]
def r67_3 : List O := [⟨some 12, none, .bin .lss (.t 11) (.t 10)⟩]
def r67_4 : List O := [⟨some 13, none, .ixS 1 (.t 9) (.t 11)⟩,
  ⟨some 14, none, .ld (.t 13)⟩,
  ⟨some 6, none, .mov (.t 14)⟩]
def r67_5 : List O := [⟨some 15, none, .mov (.t 6)⟩,
  ⟨some 16, none, .lenL (.t 15)⟩,
  ⟨some 17, none, .bin .gtr (.t 16) (.c (.i .i64 10))⟩]
def r67_6 : List O := [⟨some 2, none, .mov (.c (.sn))⟩,
  ⟨some 3, none, .mov (.c (.i .i64 40))⟩]
def r67_7 : List O := [⟨some 18, none, .bin .add (.t 11) (.c (.i .i64 1))⟩,
  ⟨some 11, none, .mov (.t 18)⟩]
def b67_0 : C := .seq (.ops r67_3) (.seq (.cond (.t 12) (.skip) (.exit 0)) (.seq (.block 1 (.seq (.ops r67_4) (.seq (.ops r67_5) (.cond (.t 17) (.seq (.ops r67_6) (.ret)) (.skip))))) (.ops r67_7)))
def r67_8 : List O := [⟨some 19, none, .mov (.t 4)⟩,
  ⟨some 2, none, .mov (.t 19)⟩,
  ⟨some 3, none, .mov (.c (.i .i64 0))⟩]
def a67 : FI := ⟨20, [.tmp 2, .tmp 3], .seq (.ops r67_0) (.seq (.ops r67_1) (.seq (.seq (.ops r67_2) (.block 0 (.loop b67_0))) (.seq (.ops r67_8) (.ret))))⟩
def r68_0 : List O := [⟨some 3, none, .box (.t 0)⟩,
  ⟨some 6, none, .mov (.c (.pn))⟩]
def r68_1 : List O := [⟨some 10, none, .ldn 2 (.t 3)⟩,
  ⟨some 11, none, .call (.f 97) [(.t 10)]⟩,
  ⟨some 12, none, .fld 0 (.t 3)⟩,
  ⟨some 13, none, .ld (.t 12)⟩,
  ⟨some 14, none, .mov (.t 1)⟩,
  ⟨some 15, none, .mov (.t 2)⟩,
  ⟨some 16, none, .build (List.replicate 577 (.i .i64 0) ++ [.sn, .sn] ++ [.i .i64 0]) [(0, 576, (.t 11)), (576, 1, (.t 13)), (577, 1, (.t 14)), (579, 1, (.t 15))]⟩,
  ⟨some 17, none, .box (.t 16)⟩,
  ⟨some 7, none, .mov (.t 17)⟩]
def r68_2 : List O := [⟨some 18, none, .mov (.t 1)⟩,
  ⟨some 19, none, .lenL (.t 18)⟩,
  ⟨some 20, none, .mov (.c (.i .i64 0))⟩]
def r68_3 : List O := [⟨some 21, none, .bin .lss (.t 20) (.t 19)⟩]
def r68_4 : List O := [⟨some 22, none, .ixS 1 (.t 18) (.t 20)⟩,
  ⟨some 23, none, .ld (.t 22)⟩,
  ⟨some 9, none, .mov (.t 23)⟩]
def r68_5 : List O := [⟨some 24, none, .mov (.t 7)⟩,
  ⟨some 25, none, .mov (.t 7)⟩,
  ⟨some 26, none, .nilck (.t 25)⟩,
  ⟨some 27, none, .fld 578 (.t 26)⟩,
  ⟨some 28, none, .ld (.t 27)⟩,
  ⟨some 29, none, .mov (.t 7)⟩,
  ⟨some 30, none, .nilck (.t 29)⟩,
  ⟨some 31, none, .fld 0 (.t 30)⟩,
  ⟨some 32, none, .mov (.t 9)⟩,
  ⟨some 33, none, .mov (.t 2)⟩,
  ⟨some 34, none, .call (.f 110) [(.t 31), (.t 32), (.t 33)]⟩,
  ⟨some 35, none, .buildSl [.sn] 1 [(0, 1, (.t 34))]⟩,
  ⟨some 36, none, .app 1 24 (.t 28) (.t 35)⟩,
  ⟨some 37, none, .nilck (.t 24)⟩,
  ⟨some 38, none, .fld 578 (.t 37)⟩,
  ⟨none, none, .st 1 (.t 38) (.t 36)⟩]
def r68_6 : List O := [⟨some 39, none, .bin .add (.t 20) (.c (.i .i64 1))⟩,
  ⟨some 20, none, .mov (.t 39)⟩]
def b68_0 : C := .seq (.ops r68_3) (.seq (.cond (.t 21) (.skip) (.exit 0)) (.seq (.block 1 (.seq (.ops r68_4) (.draw r68_5 [(4, 10)]))) (.ops r68_6)))
def r68_7 : List O := [⟨some 40, none, .mov (.t 7)⟩,
  ⟨some 6, none, .mov (.t 40)⟩]
def a68 : FI := ⟨41, [.tmp 6], .seq (.ops r68_0) (.seq (.draw r68_1 [(1, 3)]) (.seq (.seq (.ops r68_2) (.block 0 (.loop b68_0))) (.seq (.ops r68_7) (.ret))))⟩
def r69_0 : List O := [⟨some 2, none, .mov (.c (.sn))⟩,
  ⟨some 3, none, .mov (.c (.i .i64 0))⟩]
def r69_1 : List O := [⟨some 12, none, .mov (.t 0)⟩,
  ⟨some 13, none, .nilck (.t 12)⟩,
  ⟨some 14, none, .fld 576 (.t 13)⟩,
  ⟨some 15, none, .ld (.t 14)⟩,
  ⟨some 16, none, .mkSl [.b false] 1 (.t 15) (.t 15)⟩,
  ⟨some 4, none, .mov (.t 16)⟩]
def r69_2 : List O := [⟨some 17, none, .mov (.t 4)⟩,
  ⟨some 18, none, .lenL (.t 17)⟩,
  ⟨some 19, none, .mov (.c (.i .i64 0))⟩]
def r69_3 : List O := [⟨some 20, none, .bin .lss (.t 19) (.t 18)⟩]
def r69_4 : List O := [⟨some 21, none, .mov (.t 19)⟩,
  ⟨some 5, none, .mov (.t 21)⟩]
def r69_5 : List O := [⟨some 22, none, .mov (.t 4)⟩,
  ⟨some 23, none, .mov (.t 5)⟩,
  ⟨some 24, none, .ixS 1 (.t 22) (.t 23)⟩,
  ⟨none, none, .st 1 (.t 24) (.c (.b true))⟩]
def r69_6 : List O := [⟨some 25, none, .bin .add (.t 19) (.c (.i .i64 1))⟩,
  ⟨some 19, none, .mov (.t 25)⟩]
def b69_0 : C := .seq (.ops r69_3) (.seq (.cond (.t 20) (.skip) (.exit 0)) (.seq (.block 1 (.seq (.ops r69_4) (.ops r69_5))) (.ops r69_6)))
def r69_7 : List O := [⟨some 26, none, .mov (.t 0)⟩,
  ⟨some 27, none, .mov (.t 4)⟩,
  ⟨some 28, none, .call (.f 111) [(.t 26), (.t 27)]⟩,
  ⟨some 6, none, .mov (.t 28)⟩]
def r69_8 : List O := [⟨some 7, none, .mov (.c (.sn))⟩]
def r69_9 : List O := [⟨some 29, none, .mov (.t 6)⟩,
  ⟨some 8, none, .mov (.t 29)⟩]
def r69_10 : List O := [⟨some 30, none, .mov (.t 0)⟩,
  ⟨some 31, none, .nilck (.t 30)⟩,
  ⟨some 32, none, .fld 576 (.t 31)⟩,
  ⟨some 33, none, .ld (.t 32)⟩,
  ⟨some 34, none, .mov (.c (.i .i64 0))⟩]
def r69_11 : List O := [⟨some 35, none, .bin .lss (.t 34) (.t 33)⟩]
def r69_12 : List O := [⟨some 36, none, .mov (.t 0)⟩,
  ⟨some 37, none, .nilck (.t 36)⟩,
  ⟨some 38, none, .fld 576 (.t 37)⟩,
  ⟨some 39, none, .ld (.t 38)⟩,
  ⟨some 40, none, .mov (.c (.i .i64 0))⟩]
def r69_13 : List O := [⟨some 41, none, .bin .lss (.t 40) (.t 39)⟩]
def r69_14 : List O := [⟨some 42, none, .mov (.t 40)⟩,
  ⟨some 9, none, .mov (.t 42)⟩]
def r69_15 : List O := [⟨some 43, none, .mov (.t 4)⟩,
  ⟨some 44, none, .mov (.t 9)⟩,
  ⟨some 45, none, .ixS 1 (.t 43) (.t 44)⟩,
  ⟨some 46, none, .ld (.t 45)⟩,
  ⟨some 47, none, .un .not (.t 46)⟩]
def r69_16 : List O := [⟨some 48, none, .mov (.t 0)⟩,
  ⟨some 49, none, .mov (.t 4)⟩,
  ⟨some 50, none, .mov (.t 9)⟩,
  ⟨some 51, none, .call (.f 112) [(.t 48), (.t 49), (.t 50)]⟩,
  ⟨some 10, none, .mov (.t 51)⟩]
def r69_17 : List O := [⟨some 52, none, .mov (.t 10)⟩,
  ⟨some 53, none, .bin .geq (.t 52) (.c (.i .i64 1099511627776))⟩]
def r69_18 : List O := [⟨some 54, none, .mov (.t 4)⟩,
  ⟨some 55, none, .mov (.t 9)⟩,
  ⟨some 56, none, .ixS 1 (.t 54) (.t 55)⟩,
  ⟨none, none, .st 1 (.t 56) (.c (.b false))⟩]
def r69_19 : List O := [⟨some 57, none, .mov (.t 0)⟩,
  ⟨some 58, none, .mov (.t 4)⟩,
  ⟨some 59, none, .call (.f 111) [(.t 57), (.t 58)]⟩,
  ⟨some 11, none, .mov (.t 59)⟩]
def r69_20 : List O := [⟨some 60, none, .mov (.t 10)⟩,
  ⟨some 61, none, .mov (.t 11)⟩,
  ⟨some 62, none, .bin .add (.t 60) (.t 61)⟩,
  ⟨some 63, none, .mov (.t 8)⟩,
  ⟨some 64, none, .bin .eql (.t 62) (.t 63)⟩]
def r69_21 : List O := [⟨some 65, none, .mov (.t 11)⟩,
  ⟨some 8, none, .mov (.t 65)⟩]
def r69_22 : List O := [⟨some 66, none, .mov (.t 7)⟩,
  ⟨some 67, none, .mov (.t 9)⟩,
  ⟨some 68, none, .buildSl [.i .i64 0] 1 [(0, 1, (.t 67))]⟩,
  ⟨some 69, none, .app 1 8 (.t 66) (.t 68)⟩,
  ⟨some 7, none, .mov (.t 69)⟩]
def r69_23 : List O := [⟨some 70, none, .mov (.t 4)⟩,
  ⟨some 71, none, .mov (.t 9)⟩,
  ⟨some 72, none, .ixS 1 (.t 70) (.t 71)⟩,
  ⟨none, none, .st 1 (.t 72) (.c (.b true))⟩]
def r69_24 : List O := [⟨some 73, none, .bin .add (.t 40) (.c (.i .i64 1))⟩,
  ⟨some 40, none, .mov (.t 73)⟩]
def b69_1 : C := .seq (.ops r69_13) (.seq (.cond (.t 41) (.skip) (.exit 4)) (.seq (.block 5 (.seq (.ops r69_14) (.seq (.seq (.ops r69_15) (.cond (.t 47) (.exit 5) (.skip))) (.seq (.ops r69_16) (.seq (.seq (.ops r69_17) (.cond (.t 53) (.exit 5) (.skip))) (.seq (.ops r69_18) (.seq (.seq (.ops r69_19) (.seq (.ops r69_20) (.cond (.t 64) (.seq (.ops r69_21) (.seq (.ops r69_22) (.exit 4))) (.skip)))) (.ops r69_23)))))))) (.ops r69_24)))
def r69_25 : List O := [⟨some 74, none, .bin .add (.t 34) (.c (.i .i64 1))⟩,
  ⟨some 34, none, .mov (.t 74)⟩]
def b69_2 : C := .seq (.ops r69_11) (.seq (.cond (.t 35) (.skip) (.exit 2)) (.seq (.block 3 (.seq (.skip) (.seq (.ops r69_12) (.block 4 (.loop b69_1))))) (.ops r69_25)))
def r69_26 : List O := [⟨some 75, none, .mov (.t 7)⟩,
  ⟨some 76, none, .mov (.t 6)⟩,
  ⟨some 2, none, .mov (.t 75)⟩,
  ⟨some 3, none, .mov (.t 76)⟩]
def a69 : FI := ⟨77, [.tmp 2, .tmp 3], .seq (.ops r69_0) (.seq (.ops r69_1) (.seq (.seq (.ops r69_2) (.block 0 (.loop b69_0))) (.seq (.ops r69_7) (.seq (.ops r69_8) (.seq (.ops r69_9) (.seq (.seq (.ops r69_10) (.block 2 (.loop b69_2))) (.seq (.ops r69_26) (.ret))))))))⟩
def r70_0 : List O := [⟨some 2, none, .mov (.c (.sn))⟩]
def r70_1 : List O := [⟨some 3, none, .mov (.t 0)⟩,
  ⟨some 4, none, .eqv false (.slice) (.t 3) (.c (.sn))⟩]
def r70_2 : List O := [⟨some 2, none, .mov (.c (.sn))⟩]
def r70_3 : List O := [⟨some 5, none, .buildSl [] 0 []⟩,
  ⟨some 6, none, .mov (.t 0)⟩,
  ⟨some 7, none, .app 1 8 (.t 5) (.t 6)⟩,
  ⟨some 2, none, .mov (.t 7)⟩]
def a70 : FI := ⟨8, [.tmp 2], .seq (.ops r70_0) (.seq (.seq (.ops r70_1) (.cond (.t 4) (.seq (.ops r70_2) (.ret)) (.skip))) (.seq (.ops r70_3) (.ret)))⟩
end Go.Air.Try
set_option maxRecDepth 100000
namespace Go.Air.Try
def r78_0 : List O := [⟨some 2, none, .mov (.c (.i .i64 0))⟩]
def r78_1 : List O := [⟨some 6, none, .mkMap⟩,
  ⟨some 3, none, .mov (.t 6)⟩]
def r78_2 : List O := [⟨some 7, none, .mov (.t 0)⟩,
  ⟨some 8, none, .lenL (.t 7)⟩,
  ⟨some 9, none, .mov (.c (.i .i64 0))⟩]
def r78_3 : List O := [⟨some 10, none, .bin .lss (.t 9) (.t 8)⟩]
def r78_4 : List O := [⟨some 11, none, .ixS 1 (.t 7) (.t 9)⟩,
  ⟨some 12, none, .ld (.t 11)⟩,
  ⟨some 5, none, .mov (.t 12)⟩]
def r78_5 : List O := [⟨some 13, none, .mov (.t 5)⟩,
  ⟨some 14, none, .bin .lss (.t 13) (.c (.i .i64 0))⟩,
  ⟨some 15, none, .mov (.t 14)⟩,
  ⟨some 16, some (15, false), .mov (.t 3)⟩,
  ⟨some 17, some (15, false), .mov (.t 5)⟩,
  ⟨some 18, some (15, false), .look (.sc (.i .i64)) (.b false) false (.t 16) (.t 17)⟩,
  ⟨some 19, none, .pick (.t 15) (.c (.b true)) (.t 18)⟩]
def r78_6 : List O := [⟨some 2, none, .mov (.c (.i .i64 1))⟩]
def r78_7 : List O := [⟨some 20, none, .mov (.t 3)⟩,
  ⟨some 21, none, .mov (.t 5)⟩,
  ⟨none, none, .mapSet (.sc (.i .i64)) (.t 20) (.t 21) (.c (.b true))⟩]
def r78_8 : List O := [⟨some 22, none, .bin .add (.t 9) (.c (.i .i64 1))⟩,
  ⟨some 9, none, .mov (.t 22)⟩]
def b78_0 : C := .seq (.ops r78_3) (.seq (.cond (.t 10) (.skip) (.exit 0)) (.seq (.block 1 (.seq (.ops r78_4) (.seq (.seq (.ops r78_5) (.cond (.t 19) (.seq (.ops r78_6) (.ret)) (.skip))) (.ops r78_7)))) (.ops r78_8)))
def r78_9 : List O := [⟨some 2, none, .mov (.c (.i .i64 0))⟩]
def a78 : FI := ⟨23, [.tmp 2], .seq (.ops r78_0) (.seq (.ops r78_1) (.seq (.seq (.ops r78_2) (.block 0 (.loop b78_0))) (.seq (.ops r78_9) (.ret))))⟩
def r79_0 : List O := [⟨some 4, none, .mov (.c (.sn))⟩]
def r79_1 : List O := [⟨some 6, none, .mov (.t 0)⟩,
  ⟨some 7, none, .mov (.t 1)⟩,
  ⟨some 8, none, .ixS 1 (.t 6) (.t 7)⟩,
  ⟨some 9, none, .ld (.t 8)⟩,
  ⟨some 10, none, .buildSl [.i .i64 0] 1 [(0, 1, (.t 9))]⟩,
  ⟨some 5, none, .mov (.t 10)⟩]
def r79_2 : List O := [⟨some 11, none, .mov (.t 5)⟩,
  ⟨some 12, none, .mov (.t 0)⟩,
  ⟨some 13, none, .mov (.t 1)⟩,
  ⟨some 14, none, .slc 1 (.t 12) none (some (.t 13)) none⟩,
  ⟨some 15, none, .app 1 8 (.t 11) (.t 14)⟩,
  ⟨some 5, none, .mov (.t 15)⟩]
def r79_3 : List O := [⟨some 16, none, .mov (.t 5)⟩,
  ⟨some 17, none, .mov (.t 0)⟩,
  ⟨some 18, none, .mov (.t 1)⟩,
  ⟨some 19, none, .bin .add (.t 18) (.c (.i .i64 1))⟩,
  ⟨some 20, none, .slc 1 (.t 17) (some (.t 19)) none none⟩,
  ⟨some 21, none, .app 1 8 (.t 16) (.t 20)⟩,
  ⟨some 4, none, .mov (.t 21)⟩]
def a79 : FI := ⟨22, [.tmp 4], .seq (.ops r79_0) (.seq (.ops r79_1) (.seq (.ops r79_2) (.seq (.ops r79_3) (.ret))))⟩
def r80_0 : List O := [⟨some 2, none, .box (.t 0)⟩,
  ⟨some 4, none, .mov (.c (.i .i64 0))⟩]
def r80_1 : List O := [⟨some 6, none, .ldn 2 (.t 2)⟩,
  ⟨some 7, none, .call (.f 66) [(.t 6)]⟩,
  ⟨some 5, none, .mov (.t 7)⟩]
def r80_2 : List O := [⟨some 8, none, .mov (.t 5)⟩,
  ⟨some 9, none, .bin .neq (.t 8) (.c (.i .i64 0))⟩]
def r80_3 : List O := [⟨some 10, none, .mov (.t 5)⟩,
  ⟨some 4, none, .mov (.t 10)⟩]
def r80_4 : List O := [⟨some 11, none, .fld 0 (.t 2)⟩,
  ⟨some 12, none, .ld (.t 11)⟩,
  ⟨some 13, none, .mov (.t 1)⟩,
  ⟨some 14, none, .call (.f 37) [(.t 12), (.t 13)]⟩,
  ⟨some 4, none, .mov (.t 14)⟩]
def a80 : FI := ⟨15, [.tmp 4], .seq (.ops r80_0) (.seq (.seq (.ops r80_1) (.seq (.ops r80_2) (.cond (.t 9) (.seq (.ops r80_3) (.ret)) (.skip)))) (.seq (.ops r80_4) (.ret)))⟩
def r81_0 : List O := [⟨some 2, none, .box (.t 0)⟩,
  ⟨some 4, none, .mov (.c (.i .i64 0))⟩]
def r81_1 : List O := [⟨some 5, none, .mov (.c (.i .i64 0))⟩]
def r81_2 : List O := [⟨some 8, none, .ldn 2 (.t 2)⟩,
  ⟨some 9, none, .mov (.t 1)⟩,
  ⟨some 10, none, .call (.f 84) [(.t 8), (.t 9)]⟩,
  ⟨some 11, none, .lenL (.t 10)⟩,
  ⟨some 12, none, .mov (.c (.i .i64 0))⟩]
def r81_3 : List O := [⟨some 13, none, .bin .lss (.t 12) (.t 11)⟩]
def r81_4 : List O := [⟨some 14, none, .ixS 3 (.t 10) (.t 12)⟩,
  ⟨some 15, none, .ldn 3 (.t 14)⟩,
  ⟨some 7, none, .alloc [.i .i64 0, .i .i64 0, .i .i64 0]⟩,
  ⟨none, none, .st 3 (.t 7) (.t 15)⟩]
def r81_5 : List O := [⟨some 16, none, .mov (.t 5)⟩,
  ⟨some 17, none, .fld 2 (.t 7)⟩,
  ⟨some 18, none, .ld (.t 17)⟩,
  ⟨some 19, none, .bin .add (.t 16) (.t 18)⟩,
  ⟨some 5, none, .mov (.t 19)⟩]
def r81_6 : List O := [⟨some 20, none, .bin .add (.t 12) (.c (.i .i64 1))⟩,
  ⟨some 12, none, .mov (.t 20)⟩]
def b81_0 : C := .seq (.ops r81_3) (.seq (.cond (.t 13) (.skip) (.exit 0)) (.seq (.block 1 (.seq (.ops r81_4) (.ops r81_5))) (.ops r81_6)))
def r81_7 : List O := [⟨some 21, none, .mov (.t 5)⟩,
  ⟨some 4, none, .mov (.t 21)⟩]
def a81 : FI := ⟨22, [.tmp 4], .seq (.ops r81_0) (.seq (.ops r81_1) (.seq (.seq (.ops r81_2) (.block 0 (.loop b81_0))) (.seq (.ops r81_7) (.ret))))⟩
def r84_0 : List O := [⟨some 2, none, .box (.t 0)⟩,
  ⟨some 4, none, .mov (.c (.sn))⟩]
def r84_1 : List O := [⟨some 9, none, .mov (.t 1)⟩,
  ⟨some 10, none, .call (.f 117) [(.t 9)]⟩,
  ⟨some 5, none, .mov (.t 10)⟩]
def r84_2 : List O := [⟨some 6, none, .mov (.c (.sn))⟩]
def r84_3 : List O := [⟨some 11, none, .fld 1 (.t 2)⟩,
  ⟨some 12, none, .ld (.t 11)⟩,
  ⟨some 13, none, .lenL (.t 12)⟩,
  ⟨some 14, none, .mov (.c (.i .i64 0))⟩]
def r84_4 : List O := [⟨some 15, none, .bin .lss (.t 14) (.t 13)⟩]
def r84_5 : List O := [⟨some 16, none, .ixS 4 (.t 12) (.t 14)⟩,
  ⟨some 17, none, .ldn 4 (.t 16)⟩,
  ⟨some 8, none, .alloc [.i .i64 0, .i .i64 0, .i .i64 0, .i .i64 0]⟩,
  ⟨none, none, .st 4 (.t 8) (.t 17)⟩]
def r84_6 : List O := [⟨some 18, none, .mov (.t 5)⟩,
  ⟨some 19, none, .fld 0 (.t 8)⟩,
  ⟨some 20, none, .ld (.t 19)⟩,
  ⟨some 21, none, .ixS 1 (.t 18) (.t 20)⟩,
  ⟨some 22, none, .ld (.t 21)⟩,
  ⟨some 23, none, .mov (.t 5)⟩,
  ⟨some 24, none, .fld 1 (.t 8)⟩,
  ⟨some 25, none, .ld (.t 24)⟩,
  ⟨some 26, none, .ixS 1 (.t 23) (.t 25)⟩,
  ⟨some 27, none, .ld (.t 26)⟩,
  ⟨some 28, none, .bin .gtr (.t 22) (.t 27)⟩]
def r84_7 : List O := [⟨some 29, none, .mov (.t 6)⟩,
  ⟨some 30, none, .fld 0 (.t 8)⟩,
  ⟨some 31, none, .ld (.t 30)⟩,
  ⟨some 32, none, .fld 1 (.t 8)⟩,
  ⟨some 33, none, .ld (.t 32)⟩,
  ⟨some 34, none, .fld 3 (.t 8)⟩,
  ⟨some 35, none, .ld (.t 34)⟩,
  ⟨some 36, none, .build [.i .i64 0, .i .i64 0, .i .i64 0] [(0, 1, (.t 31)), (1, 1, (.t 33)), (2, 1, (.t 35))]⟩,
  ⟨some 37, none, .buildSl [.i .i64 0, .i .i64 0, .i .i64 0] 1 [(0, 3, (.t 36))]⟩,
  ⟨some 38, none, .app 3 24 (.t 29) (.t 37)⟩,
  ⟨some 6, none, .mov (.t 38)⟩]
def r84_8 : List O := [⟨some 39, none, .bin .add (.t 14) (.c (.i .i64 1))⟩,
  ⟨some 14, none, .mov (.t 39)⟩]
def b84_0 : C := .seq (.ops r84_4) (.seq (.cond (.t 15) (.skip) (.exit 0)) (.seq (.block 1 (.seq (.ops r84_5) (.seq (.draw r84_6 []) (.cond (.t 28) (.ops r84_7) (.skip))))) (.ops r84_8)))
def r84_9 : List O := [⟨some 40, none, .mov (.t 6)⟩,
  ⟨some 4, none, .mov (.t 40)⟩]
def a84 : FI := ⟨41, [.tmp 4], .seq (.ops r84_0) (.seq (.ops r84_1) (.seq (.ops r84_2) (.seq (.seq (.ops r84_3) (.block 0 (.loop b84_0))) (.seq (.ops r84_9) (.ret)))))⟩
def r86_0 : List O := [⟨some 4, none, .mov (.c (.sn))⟩]
def r86_1 : List O := [⟨some 8, none, .mov (.t 0)⟩,
  ⟨some 9, none, .mov (.t 1)⟩,
  ⟨some 10, none, .call (.f 118) [(.t 8), (.t 9)]⟩,
  ⟨some 5, none, .mov (.t 10)⟩]
def r86_2 : List O := [⟨some 11, none, .mov (.t 5)⟩,
  ⟨some 12, none, .bin .eql (.t 11) (.c (.i .i64 (-1)))⟩]
def r86_3 : List O := [⟨some 13, none, .mov (.t 0)⟩,
  ⟨some 4, none, .mov (.t 13)⟩]
def r86_4 : List O := [⟨some 14, none, .mov (.t 5)⟩,
  ⟨some 15, none, .bin .add (.t 14) (.c (.i .i64 1))⟩,
  ⟨some 6, none, .mov (.t 15)⟩]
def r86_5 : List O := [⟨some 16, none, .mov (.t 6)⟩,
  ⟨some 17, none, .mov (.t 0)⟩,
  ⟨some 18, none, .lenL (.t 17)⟩,
  ⟨some 19, none, .bin .lss (.t 16) (.t 18)⟩]
def r86_7 : List O := [⟨some 22, none, .mov (.t 0)⟩,
  ⟨some 23, none, .mov (.t 6)⟩,
  ⟨some 24, none, .ixS 1 (.t 22) (.t 23)⟩,
  ⟨some 25, none, .ld (.t 24)⟩,
  ⟨some 7, none, .mov (.t 25)⟩]
def r86_8 : List O := [⟨some 26, none, .mov (.t 1)⟩,
  ⟨some 27, none, .mov (.t 7)⟩,
  ⟨some 28, none, .call (.t 26) [(.t 27)]⟩,
  ⟨some 29, none, .un .not (.t 28)⟩]
def r86_9 : List O := [⟨some 30, none, .mov (.t 0)⟩,
  ⟨some 31, none, .mov (.t 5)⟩,
  ⟨some 32, none, .mov (.t 7)⟩,
  ⟨some 33, none, .ixS 1 (.t 30) (.t 31)⟩,
  ⟨none, none, .st 1 (.t 33) (.t 32)⟩]
def r86_10 : List O := [⟨some 34, none, .mov (.t 5)⟩,
  ⟨some 35, none, .bin .add (.t 34) (.c (.i .i64 1))⟩,
  ⟨some 5, none, .mov (.t 35)⟩]
def r86_6 : List O := [⟨some 20, none, .mov (.t 6)⟩,
  ⟨some 21, none, .bin .add (.t 20) (.c (.i .i64 1))⟩,
  ⟨some 6, none, .mov (.t 21)⟩]
def b86_0 : C := .seq (.seq (.ops r86_5) (.cond (.t 19) (.skip) (.exit 0))) (.seq (.block 1 (.seq (.ops r86_7) (.seq (.ops r86_8) (.cond (.t 29) (.seq (.ops r86_9) (.ops r86_10)) (.skip))))) (.ops r86_6))
def r86_11 : List O := [⟨some 36, none, .mov (.t 0)⟩,
  ⟨some 37, none, .mov (.t 5)⟩,
  ⟨some 38, none, .slc 1 (.t 36) (some (.t 37)) none none⟩,
  ⟨none, none, .clr [.sn] (.t 38)⟩]
def r86_12 : List O := [⟨some 39, none, .mov (.t 0)⟩,
  ⟨some 40, none, .mov (.t 5)⟩,
  ⟨some 41, none, .slc 1 (.t 39) none (some (.t 40)) none⟩,
  ⟨some 4, none, .mov (.t 41)⟩]
def a86 : FI := ⟨42, [.tmp 4], .seq (.ops r86_0) (.seq (.ops r86_1) (.seq (.seq (.ops r86_2) (.cond (.t 12) (.seq (.ops r86_3) (.ret)) (.skip))) (.seq (.seq (.ops r86_4) (.block 0 (.loop b86_0))) (.seq (.ops r86_11) (.seq (.ops r86_12) (.ret))))))⟩
def r87_0 : List O := [⟨some 1, none, .box (.t 0)⟩,
  ⟨some 2, none, .mov (.c (.sn))⟩]
def r87_1 : List O := [⟨some 6, none, .ldn 2 (.t 1)⟩,
  ⟨some 7, none, .call (.f 119) [(.t 6)]⟩,
  ⟨some 5, none, .mov (.t 7)⟩,
  ⟨some 8, none, .ext (.t 5) 0⟩,
  ⟨some 9, none, .ext (.t 5) 1⟩,
  ⟨some 3, none, .mov (.t 8)⟩,
  ⟨some 4, none, .mov (.t 9)⟩]
def r87_2 : List O := [⟨some 10, none, .mov (.t 4)⟩,
  ⟨some 11, none, .un .not (.t 10)⟩]
def r87_3 : List O := [⟨some 2, none, .mov (.c (.sn))⟩]
def r87_4 : List O := [⟨some 12, none, .mov (.t 3)⟩,
  ⟨some 13, none, .call (.f 120) [(.t 12)]⟩,
  ⟨some 2, none, .mov (.t 13)⟩]
def a87 : FI := ⟨14, [.tmp 2], .seq (.ops r87_0) (.seq (.ops r87_1) (.seq (.seq (.ops r87_2) (.cond (.t 11) (.seq (.ops r87_3) (.ret)) (.skip))) (.seq (.ops r87_4) (.ret))))⟩
def r88_0 : List O := [⟨some 2, none, .mov (.c (.b false))⟩]
def r88_1 : List O := [⟨some 3, none, .mov (.t 0)⟩,
  ⟨some 4, none, .lenL (.t 3)⟩,
  ⟨some 5, none, .bin .lss (.t 4) (.c (.i .i64 2))⟩,
  ⟨some 2, none, .mov (.t 5)⟩]
def a88 : FI := ⟨6, [.tmp 2], .seq (.ops r88_0) (.seq (.ops r88_1) (.ret))⟩
def r89_0 : List O := [⟨some 4, none, .mov (.c (.sn))⟩]
def r89_1 : List O := [⟨some 5, none, .mov (.c (.sn))⟩]
def r89_2 : List O := [⟨some 8, none, .mov (.t 1)⟩,
  ⟨some 9, none, .lenL (.t 8)⟩,
  ⟨some 10, none, .mov (.c (.i .i64 0))⟩]
def r89_3 : List O := [⟨some 11, none, .bin .lss (.t 10) (.t 9)⟩]
def r89_4 : List O := [⟨some 12, none, .ixS 1 (.t 8) (.t 10)⟩,
  ⟨some 13, none, .ld (.t 12)⟩,
  ⟨some 7, none, .mov (.t 13)⟩]
def r89_5 : List O := [⟨some 14, none, .mov (.t 5)⟩,
  ⟨some 15, none, .mov (.t 0)⟩,
  ⟨some 16, none, .mov (.t 7)⟩,
  ⟨some 17, none, .build [.i .i64 0, .i .i64 0] [(0, 1, (.t 15)), (1, 1, (.t 16))]⟩,
  ⟨some 18, none, .buildSl [.i .i64 0, .i .i64 0] 1 [(0, 2, (.t 17))]⟩,
  ⟨some 19, none, .app 2 16 (.t 14) (.t 18)⟩,
  ⟨some 5, none, .mov (.t 19)⟩]
def r89_6 : List O := [⟨some 20, none, .bin .add (.t 10) (.c (.i .i64 1))⟩,
  ⟨some 10, none, .mov (.t 20)⟩]
def b89_0 : C := .seq (.ops r89_3) (.seq (.cond (.t 11) (.skip) (.exit 0)) (.seq (.block 1 (.seq (.ops r89_4) (.ops r89_5))) (.ops r89_6)))
def r89_7 : List O := [⟨some 21, none, .mov (.t 5)⟩,
  ⟨some 4, none, .mov (.t 21)⟩]
def a89 : FI := ⟨22, [.tmp 4], .seq (.ops r89_0) (.seq (.ops r89_1) (.seq (.seq (.ops r89_2) (.block 0 (.loop b89_0))) (.seq (.ops r89_7) (.ret))))⟩
def r90_0 : List O := [⟨some 2, none, .mov (.c (.sn))⟩]
def r90_1 : List O := [⟨some 5, none, .mov (.t 0)⟩,
  ⟨some 6, none, .mkSl [.i .i64 0] 8 (.t 5) (.t 5)⟩,
  ⟨some 3, none, .mov (.t 6)⟩]
def r90_2 : List O := [⟨some 7, none, .mov (.t 3)⟩,
  ⟨some 8, none, .lenL (.t 7)⟩,
  ⟨some 9, none, .mov (.c (.i .i64 0))⟩]
def r90_3 : List O := [⟨some 10, none, .bin .lss (.t 9) (.t 8)⟩]
def r90_4 : List O := [⟨some 11, none, .mov (.t 9)⟩,
  ⟨some 4, none, .mov (.t 11)⟩]
def r90_5 : List O := [⟨some 12, none, .mov (.t 3)⟩,
  ⟨some 13, none, .mov (.t 4)⟩,
  ⟨some 14, none, .mov (.t 4)⟩,
  ⟨some 15, none, .ixS 1 (.t 12) (.t 13)⟩,
  ⟨none, none, .st 1 (.t 15) (.t 14)⟩]
def r90_6 : List O := [⟨some 16, none, .bin .add (.t 9) (.c (.i .i64 1))⟩,
  ⟨some 9, none, .mov (.t 16)⟩]
def b90_0 : C := .seq (.ops r90_3) (.seq (.cond (.t 10) (.skip) (.exit 0)) (.seq (.block 1 (.seq (.ops r90_4) (.ops r90_5))) (.ops r90_6)))
def r90_7 : List O := [⟨some 17, none, .mov (.t 3)⟩,
  ⟨some 2, none, .mov (.t 17)⟩]
def a90 : FI := ⟨18, [.tmp 2], .seq (.ops r90_0) (.seq (.ops r90_1) (.seq (.seq (.ops r90_2) (.block 0 (.loop b90_0))) (.seq (.ops r90_7) (.ret))))⟩
def r91_0 : List O := [⟨some 2, none, .mov (.c (.sn))⟩]
def r91_1 : List O := [⟨some 3, none, .mov (.c (.sn))⟩]
def r91_2 : List O := [⟨some 9, none, .mov (.t 0)⟩,
  ⟨some 10, none, .bin .eql (.t 9) (.c (.i .i64 0))⟩]
def r91_3 : List O := [⟨some 11, none, .mov (.t 3)⟩,
  ⟨some 2, none, .mov (.t 11)⟩]
def r91_4 : List O := [⟨some 12, none, .mov (.t 0)⟩,
  ⟨some 13, none, .bin .sub (.t 12) (.c (.i .i64 1))⟩,
  ⟨some 14, none, .bin .quo (.t 13) (.c (.i .i64 2))⟩,
  ⟨some 4, none, .mov (.t 14)⟩]
def r91_5 : List O := [⟨some 15, none, .mov (.t 3)⟩,
  ⟨some 16, none, .mov (.t 4)⟩,
  ⟨some 17, none, .buildSl [.i .i64 0] 1 [(0, 1, (.t 16))]⟩,
  ⟨some 18, none, .app 1 8 (.t 15) (.t 17)⟩,
  ⟨some 3, none, .mov (.t 18)⟩]
def r91_6 : List O := [⟨some 5, none, .mov (.c (.i .i64 1))⟩]
def r91_7 : List O := [⟨some 19, none, .mov (.t 0)⟩,
  ⟨some 20, none, .bin .rem (.t 19) (.c (.i .i64 2))⟩,
  ⟨some 21, none, .bin .eql (.t 20) (.c (.i .i64 1))⟩]
def r91_8 : List O := [⟨some 5, none, .mov (.c (.i .i64 (-1)))⟩]
def r91_9 : List O := [⟨some 6, none, .mov (.c (.i .i64 1))⟩]
def r91_10 : List O := [⟨some 22, none, .mov (.t 3)⟩,
  ⟨some 23, none, .lenL (.t 22)⟩,
  ⟨some 24, none, .mov (.t 0)⟩,
  ⟨some 25, none, .bin .lss (.t 23) (.t 24)⟩]
def r91_12 : List O := [⟨some 28, none, .mov (.t 4)⟩,
  ⟨some 29, none, .mov (.t 5)⟩,
  ⟨some 30, none, .mov (.t 6)⟩,
  ⟨some 31, none, .bin .mul (.t 29) (.t 30)⟩,
  ⟨some 32, none, .bin .add (.t 28) (.t 31)⟩,
  ⟨some 33, none, .mov (.t 4)⟩,
  ⟨some 34, none, .mov (.t 5)⟩,
  ⟨some 35, none, .mov (.t 6)⟩,
  ⟨some 36, none, .bin .mul (.t 34) (.t 35)⟩,
  ⟨some 37, none, .bin .sub (.t 33) (.t 36)⟩,
  ⟨some 38, none, .buildSl [.i .i64 0, .i .i64 0] 2 [(0, 1, (.t 32)), (1, 1, (.t 37))]⟩,
  ⟨some 39, none, .lenL (.t 38)⟩,
  ⟨some 40, none, .mov (.c (.i .i64 0))⟩]
def r91_13 : List O := [⟨some 41, none, .bin .lss (.t 40) (.t 39)⟩]
def r91_14 : List O := [⟨some 42, none, .ixS 1 (.t 38) (.t 40)⟩,
  ⟨some 43, none, .ld (.t 42)⟩,
  ⟨some 8, none, .mov (.t 43)⟩]
def r91_15 : List O := [⟨some 44, none, .mov (.t 8)⟩,
  ⟨some 45, none, .bin .geq (.t 44) (.c (.i .i64 0))⟩,
  ⟨some 46, none, .mov (.t 45)⟩,
  ⟨some 47, some (46, true), .mov (.t 8)⟩,
  ⟨some 48, some (46, true), .mov (.t 0)⟩,
  ⟨some 49, some (46, true), .bin .lss (.t 47) (.t 48)⟩,
  ⟨some 50, none, .pick (.t 46) (.t 49) (.c (.b false))⟩]
def r91_16 : List O := [⟨some 51, none, .mov (.t 3)⟩,
  ⟨some 52, none, .mov (.t 8)⟩,
  ⟨some 53, none, .buildSl [.i .i64 0] 1 [(0, 1, (.t 52))]⟩,
  ⟨some 54, none, .app 1 8 (.t 51) (.t 53)⟩,
  ⟨some 3, none, .mov (.t 54)⟩]
def r91_17 : List O := [⟨some 55, none, .bin .add (.t 40) (.c (.i .i64 1))⟩,
  ⟨some 40, none, .mov (.t 55)⟩]
def b91_0 : C := .seq (.ops r91_13) (.seq (.cond (.t 41) (.skip) (.exit 2)) (.seq (.block 3 (.seq (.ops r91_14) (.seq (.ops r91_15) (.cond (.t 50) (.ops r91_16) (.skip))))) (.ops r91_17)))
def r91_11 : List O := [⟨some 26, none, .mov (.t 6)⟩,
  ⟨some 27, none, .bin .add (.t 26) (.c (.i .i64 1))⟩,
  ⟨some 6, none, .mov (.t 27)⟩]
def b91_1 : C := .seq (.seq (.ops r91_10) (.cond (.t 25) (.skip) (.exit 0))) (.seq (.block 1 (.seq (.ops r91_12) (.block 2 (.loop b91_0)))) (.ops r91_11))
def r91_18 : List O := [⟨some 56, none, .mov (.t 3)⟩,
  ⟨some 2, none, .mov (.t 56)⟩]
def a91 : FI := ⟨57, [.tmp 2], .seq (.ops r91_0) (.seq (.ops r91_1) (.seq (.seq (.ops r91_2) (.cond (.t 10) (.seq (.ops r91_3) (.ret)) (.skip))) (.seq (.ops r91_4) (.seq (.ops r91_5) (.seq (.ops r91_6) (.seq (.seq (.ops r91_7) (.cond (.t 21) (.ops r91_8) (.skip))) (.seq (.seq (.ops r91_9) (.block 0 (.loop b91_1))) (.seq (.ops r91_18) (.ret)))))))))⟩
def r92_0 : List O := [⟨some 2, none, .mov (.c (.sn))⟩]
def r92_1 : List O := [⟨some 3, none, .mov (.c (.i .i64 0))⟩]
def r92_2 : List O := [⟨some 10, none, .mov (.t 0)⟩,
  ⟨some 11, none, .lenL (.t 10)⟩,
  ⟨some 12, none, .mov (.c (.i .i64 0))⟩]
def r92_3 : List O := [⟨some 13, none, .bin .lss (.t 12) (.t 11)⟩]
def r92_4 : List O := [⟨some 14, none, .ixS 1 (.t 10) (.t 12)⟩,
  ⟨some 15, none, .ld (.t 14)⟩,
  ⟨some 5, none, .mov (.t 15)⟩]
def r92_5 : List O := [⟨some 16, none, .mov (.t 3)⟩,
  ⟨some 17, none, .mov (.t 5)⟩,
  ⟨some 18, none, .lenL (.t 17)⟩,
  ⟨some 19, none, .bin .add (.t 16) (.t 18)⟩,
  ⟨some 3, none, .mov (.t 19)⟩]
def r92_6 : List O := [⟨some 20, none, .bin .add (.t 12) (.c (.i .i64 1))⟩,
  ⟨some 12, none, .mov (.t 20)⟩]
def b92_0 : C := .seq (.ops r92_3) (.seq (.cond (.t 13) (.skip) (.exit 0)) (.seq (.block 1 (.seq (.ops r92_4) (.ops r92_5))) (.ops r92_6)))
def r92_7 : List O := [⟨some 21, none, .mov (.t 3)⟩,
  ⟨some 22, none, .mkSl [.i .i64 0, .i .i64 0] 16 (.t 21) (.t 21)⟩,
  ⟨some 6, none, .mov (.t 22)⟩]
def r92_8 : List O := [⟨some 7, none, .mov (.c (.i .i64 0))⟩]
def r92_9 : List O := [⟨some 23, none, .mov (.t 0)⟩,
  ⟨some 24, none, .lenL (.t 23)⟩,
  ⟨some 25, none, .mov (.c (.i .i64 0))⟩]
def r92_10 : List O := [⟨some 26, none, .bin .lss (.t 25) (.t 24)⟩]
def r92_11 : List O := [⟨some 27, none, .ixS 1 (.t 23) (.t 25)⟩,
  ⟨some 28, none, .ld (.t 27)⟩,
  ⟨some 9, none, .mov (.t 28)⟩]
def r92_12 : List O := [⟨some 29, none, .mov (.t 7)⟩,
  ⟨some 30, none, .mov (.t 6)⟩,
  ⟨some 31, none, .mov (.t 7)⟩,
  ⟨some 32, none, .slc 2 (.t 30) (some (.t 31)) none none⟩,
  ⟨some 33, none, .mov (.t 9)⟩,
  ⟨some 34, none, .cpy 2 (.t 32) (.t 33)⟩,
  ⟨some 35, none, .bin .add (.t 29) (.t 34)⟩,
  ⟨some 7, none, .mov (.t 35)⟩]
def r92_13 : List O := [⟨some 36, none, .bin .add (.t 25) (.c (.i .i64 1))⟩,
  ⟨some 25, none, .mov (.t 36)⟩]
def b92_1 : C := .seq (.ops r92_10) (.seq (.cond (.t 26) (.skip) (.exit 2)) (.seq (.block 3 (.seq (.ops r92_11) (.ops r92_12))) (.ops r92_13)))
def r92_14 : List O := [⟨some 37, none, .mov (.t 6)⟩,
  ⟨some 2, none, .mov (.t 37)⟩]
def a92 : FI := ⟨38, [.tmp 2], .seq (.ops r92_0) (.seq (.ops r92_1) (.seq (.seq (.ops r92_2) (.block 0 (.loop b92_0))) (.seq (.ops r92_7) (.seq (.ops r92_8) (.seq (.seq (.ops r92_9) (.block 2 (.loop b92_1))) (.seq (.ops r92_14) (.ret)))))))⟩
def r93_0 : List O := [⟨some 4, none, .mov (.t 0)⟩,
  ⟨some 5, none, .lenL (.t 4)⟩,
  ⟨some 6, none, .bin .sub (.t 5) (.c (.i .i64 1))⟩,
  ⟨some 2, none, .mov (.c (.i .i64 0))⟩,
  ⟨some 3, none, .mov (.t 6)⟩]
def r93_1 : List O := [⟨some 7, none, .mov (.t 2)⟩,
  ⟨some 8, none, .mov (.t 3)⟩,
  ⟨some 9, none, .bin .lss (.t 7) (.t 8)⟩]
def r93_3 : List O := [⟨some 14, none, .mov (.t 0)⟩,
  ⟨some 15, none, .mov (.t 2)⟩,
  ⟨some 16, none, .mov (.t 0)⟩,
  ⟨some 17, none, .mov (.t 3)⟩,
  ⟨some 18, none, .mov (.t 0)⟩,
  ⟨some 19, none, .mov (.t 3)⟩,
  ⟨some 20, none, .ixS 1 (.t 18) (.t 19)⟩,
  ⟨some 21, none, .ld (.t 20)⟩,
  ⟨some 22, none, .mov (.t 0)⟩,
  ⟨some 23, none, .mov (.t 2)⟩,
  ⟨some 24, none, .ixS 1 (.t 22) (.t 23)⟩,
  ⟨some 25, none, .ld (.t 24)⟩,
  ⟨some 26, none, .ixS 1 (.t 14) (.t 15)⟩,
  ⟨none, none, .st 1 (.t 26) (.t 21)⟩,
  ⟨some 27, none, .ixS 1 (.t 16) (.t 17)⟩,
  ⟨none, none, .st 1 (.t 27) (.t 25)⟩]
def r93_2 : List O := [⟨some 10, none, .mov (.t 2)⟩,
  ⟨some 11, none, .bin .add (.t 10) (.c (.i .i64 1))⟩,
  ⟨some 12, none, .mov (.t 3)⟩,
  ⟨some 13, none, .bin .sub (.t 12) (.c (.i .i64 1))⟩,
  ⟨some 2, none, .mov (.t 11)⟩,
  ⟨some 3, none, .mov (.t 13)⟩]
def b93_0 : C := .seq (.seq (.ops r93_1) (.cond (.t 9) (.skip) (.exit 0))) (.seq (.block 1 (.draw r93_3 [])) (.ops r93_2))
def a93 : FI := ⟨28, [], .seq (.ops r93_0) (.block 0 (.loop b93_0))⟩
def r97_0 : List O := [⟨some 1, none, .box (.t 0)⟩,
  ⟨some 2, none, .alloc (List.replicate 576 (.i .i64 0))⟩]
def r97_1 : List O := [⟨some 3, none, .alloc (List.replicate 576 (.i .i64 0))⟩]
def r97_2 : List O := [⟨some 6, none, .fld 1 (.t 1)⟩,
  ⟨some 7, none, .ld (.t 6)⟩,
  ⟨some 8, none, .lenL (.t 7)⟩,
  ⟨some 9, none, .mov (.c (.i .i64 0))⟩]
def r97_3 : List O := [⟨some 10, none, .bin .lss (.t 9) (.t 8)⟩]
def r97_4 : List O := [⟨some 11, none, .ixS 4 (.t 7) (.t 9)⟩,
  ⟨some 12, none, .ldn 4 (.t 11)⟩,
  ⟨some 5, none, .alloc [.i .i64 0, .i .i64 0, .i .i64 0, .i .i64 0]⟩,
  ⟨none, none, .st 4 (.t 5) (.t 12)⟩]
def r97_5 : List O := [⟨some 13, none, .fld 0 (.t 5)⟩,
  ⟨some 14, none, .ld (.t 13)⟩,
  ⟨some 15, none, .fld 1 (.t 5)⟩,
  ⟨some 16, none, .ld (.t 15)⟩,
  ⟨some 17, none, .fld 3 (.t 5)⟩,
  ⟨some 18, none, .ld (.t 17)⟩,
  ⟨some 19, none, .ixA 24 24 (.t 3) (.t 14)⟩,
  ⟨some 20, none, .ixA 24 1 (.t 19) (.t 16)⟩,
  ⟨none, none, .st 1 (.t 20) (.t 18)⟩]
def r97_6 : List O := [⟨some 21, none, .bin .add (.t 9) (.c (.i .i64 1))⟩,
  ⟨some 9, none, .mov (.t 21)⟩]
def b97_0 : C := .seq (.ops r97_3) (.seq (.cond (.t 10) (.skip) (.exit 0)) (.seq (.block 1 (.seq (.ops r97_4) (.draw r97_5 []))) (.ops r97_6)))
def r97_7 : List O := [⟨some 22, none, .ldn 576 (.t 3)⟩,
  ⟨none, none, .st 576 (.t 2) (.t 22)⟩]
def a97 : FI := ⟨23, [.cell 2 (some 576)], .seq (.ops r97_0) (.seq (.ops r97_1) (.seq (.seq (.ops r97_2) (.block 0 (.loop b97_0))) (.seq (.ops r97_7) (.ret))))⟩
def r100_0 : List O := [⟨some 2, none, .box (.t 0)⟩,
  ⟨some 3, none, .box (.t 1)⟩,
  ⟨some 4, none, .mov (.c (.fnil))⟩]
def r100_1 : List O := [⟨some 5, none, .ld (.t 3)⟩,
  ⟨some 6, none, .bin .lss (.t 5) (.c (.i .i64 1))⟩]
def r100_2 : List O := [⟨some 7, none, .mkI 9 (.c (.s [99, 97, 110, 110, 111, 116, 32, 98, 101, 32, 108, 101, 115, 115, 32, 116, 104, 97, 110, 32, 49]))⟩,
  ⟨none, none, .no⟩]
def r100_3 : List O := [⟨some 8, none, .mkFn 121 [] [(.t 2), (.t 3)]⟩,
  ⟨some 4, none, .mov (.t 8)⟩]
def a100 : FI := ⟨9, [.tmp 4], .seq (.ops r100_0) (.seq (.seq (.ops r100_1) (.cond (.t 6) (.ops r100_2) (.skip))) (.seq (.ops r100_3) (.ret)))⟩
def r108_0 : List O := [⟨some 6, none, .mov (.c (.b false))⟩]
def r108_1 : List O := [⟨some 7, none, .mov (.t 0)⟩,
  ⟨some 8, none, .mov (.t 1)⟩,
  ⟨some 9, none, .bin .geq (.t 7) (.t 8)⟩,
  ⟨some 10, none, .mov (.t 9)⟩,
  ⟨some 11, some (10, true), .mov (.t 0)⟩,
  ⟨some 12, some (10, true), .mov (.t 2)⟩,
  ⟨some 13, some (10, true), .bin .leq (.t 11) (.t 12)⟩,
  ⟨some 14, none, .pick (.t 10) (.t 13) (.c (.b false))⟩,
  ⟨some 6, none, .mov (.t 14)⟩]
def a108 : FI := ⟨15, [.tmp 6], .seq (.ops r108_0) (.seq (.ops r108_1) (.ret))⟩
def r109_0 : List O := [⟨some 2, none, .box (.t 0)⟩,
  ⟨some 3, none, .box (.t 1)⟩,
  ⟨some 4, none, .mov (.c (.i .i64 0))⟩]
def r109_1 : List O := [⟨some 5, none, .fld 0 (.t 2)⟩,
  ⟨some 6, none, .ld (.t 5)⟩,
  ⟨some 7, none, .fld 0 (.t 3)⟩,
  ⟨some 8, none, .ld (.t 7)⟩,
  ⟨some 9, none, .call (.f 125) [(.t 6), (.t 8)]⟩,
  ⟨some 10, none, .fld 1 (.t 2)⟩,
  ⟨some 11, none, .ld (.t 10)⟩,
  ⟨some 12, none, .fld 1 (.t 3)⟩,
  ⟨some 13, none, .ld (.t 12)⟩,
  ⟨some 14, none, .call (.f 125) [(.t 11), (.t 13)]⟩,
  ⟨some 15, none, .buildSl [.i .i64 0, .i .i64 0] 2 [(0, 1, (.t 9)), (1, 1, (.t 14))]⟩,
  ⟨some 16, none, .call (.f 124) [(.t 15)]⟩,
  ⟨some 4, none, .mov (.t 16)⟩]
def a109 : FI := ⟨17, [.tmp 4], .seq (.ops r109_0) (.seq (.draw r109_1 [(4, 6), (4, 8)]) (.ret))⟩
end Go.Air.Try
set_option maxRecDepth 100000
namespace Go.Air.Try
def r110_0 : List O := [⟨some 3, none, .box (.t 0)⟩,
  ⟨some 4, none, .box (.t 1)⟩,
  ⟨some 5, none, .box (.t 2)⟩,
  ⟨some 6, none, .mov (.c (.sn))⟩]
def r110_1 : List O := [⟨some 12, none, .ld (.t 4)⟩,
  ⟨some 13, none, .lenL (.t 12)⟩,
  ⟨some 14, none, .bin .shl (.c (.i .i64 1)) (.t 13)⟩,
  ⟨some 15, none, .mkSl [.i .i64 0] 8 (.t 14) (.t 14)⟩,
  ⟨some 7, none, .alloc [.sn]⟩,
  ⟨none, none, .st 1 (.t 7) (.t 15)⟩]
def r110_2 : List O := [⟨some 8, none, .alloc [.i .i64 0]⟩,
  ⟨none, none, .st 1 (.t 8) (.c (.i .i64 1))⟩]
def r110_3 : List O := [⟨some 16, none, .ld (.t 8)⟩,
  ⟨some 17, none, .ld (.t 7)⟩,
  ⟨some 18, none, .lenL (.t 17)⟩,
  ⟨some 19, none, .bin .lss (.t 16) (.t 18)⟩]
def r110_5 : List O := [⟨some 22, none, .ld (.t 7)⟩,
  ⟨some 23, none, .ld (.t 8)⟩,
  ⟨some 24, none, .ixS 1 (.t 22) (.t 23)⟩,
  ⟨none, none, .st 1 (.t 24) (.c (.i .i64 1099511627776))⟩]
def r110_6 : List O := [⟨some 25, none, .ld (.t 8)⟩,
  ⟨some 26, none, .ld (.t 4)⟩,
  ⟨some 27, none, .lenL (.t 26)⟩,
  ⟨some 28, none, .call (.f 122) [(.t 25), (.t 27)]⟩]
def r110_7 : List O := [⟨some 9, none, .mov (.t 29)⟩]
def r110_8 : List O := [⟨some 10, none, .mov (.t 30)⟩]
def r110_9 : List O := [⟨some 31, none, .ld (.t 3)⟩,
  ⟨some 32, none, .ld (.t 4)⟩,
  ⟨some 33, none, .mov (.t 9)⟩,
  ⟨some 34, none, .ld (.t 8)⟩,
  ⟨some 35, none, .mov (.t 10)⟩,
  ⟨some 36, none, .bin .andNot (.t 34) (.t 35)⟩,
  ⟨some 37, none, .call (.f 123) [(.t 31), (.t 32), (.t 33), (.t 36)]⟩,
  ⟨some 11, none, .mov (.t 37)⟩]
def r110_10 : List O := [⟨some 38, none, .ld (.t 4)⟩,
  ⟨some 39, none, .mov (.t 9)⟩,
  ⟨some 40, none, .ixS 1 (.t 38) (.t 39)⟩,
  ⟨some 41, none, .ld (.t 40)⟩,
  ⟨some 42, none, .ld (.t 5)⟩,
  ⟨some 43, none, .bin .eql (.t 41) (.t 42)⟩,
  ⟨some 44, none, .mov (.t 43)⟩,
  ⟨some 45, some (44, true), .mov (.t 11)⟩,
  ⟨some 46, some (44, true), .bin .gtr (.t 45) (.c (.i .i64 0))⟩,
  ⟨some 47, none, .pick (.t 44) (.t 46) (.c (.b false))⟩]
def r110_11 : List O := [⟨some 11, none, .mov (.c (.i .i64 1099511627776))⟩]
def r110_12 : List O := [⟨some 48, none, .ld (.t 7)⟩,
  ⟨some 49, none, .ld (.t 8)⟩,
  ⟨some 50, none, .ld (.t 7)⟩,
  ⟨some 51, none, .ld (.t 8)⟩,
  ⟨some 52, none, .ixS 1 (.t 50) (.t 51)⟩,
  ⟨some 53, none, .ld (.t 52)⟩,
  ⟨some 54, none, .ld (.t 7)⟩,
  ⟨some 55, none, .ld (.t 8)⟩,
  ⟨some 56, none, .mov (.t 10)⟩,
  ⟨some 57, none, .bin .andNot (.t 55) (.t 56)⟩,
  ⟨some 58, none, .ixS 1 (.t 54) (.t 57)⟩,
  ⟨some 59, none, .ld (.t 58)⟩,
  ⟨some 60, none, .mov (.t 11)⟩,
  ⟨some 61, none, .bin .add (.t 59) (.t 60)⟩,
  ⟨some 62, none, .min [(.t 53), (.t 61)]⟩,
  ⟨some 63, none, .ixS 1 (.t 48) (.t 49)⟩,
  ⟨none, none, .st 1 (.t 63) (.t 62)⟩]
def b110_0 : C := .block 3 (.seq (.ops r110_9) (.seq (.seq (.draw r110_10 []) (.cond (.t 47) (.ops r110_11) (.skip))) (.draw r110_12 [])))
def r110_13 : List O := [⟨some 64, none, .ld (.t 8)⟩]
def r110_14 : List O := [⟨some 8, none, .alloc [.i .i64 0]⟩,
  ⟨none, none, .st 1 (.t 8) (.t 64)⟩]
def r110_4 : List O := [⟨some 20, none, .ld (.t 8)⟩,
  ⟨some 21, none, .bin .add (.t 20) (.c (.i .i64 1))⟩,
  ⟨none, none, .st 1 (.t 8) (.t 21)⟩]
def b110_1 : C := .seq (.seq (.ops r110_3) (.cond (.t 19) (.skip) (.exit 0))) (.seq (.block 1 (.seq (.ops r110_5) (.seq (.ops r110_6) (.block 2 (.rangeF (.t 28) [29, 30] (.seq (.ops r110_7) (.ops r110_8)) b110_0))))) (.seq (.seq (.ops r110_13) (.ops r110_14)) (.ops r110_4)))
def r110_15 : List O := [⟨some 65, none, .ld (.t 7)⟩,
  ⟨some 6, none, .mov (.t 65)⟩]
def a110 : FI := ⟨66, [.tmp 6], .seq (.ops r110_0) (.seq (.ops r110_1) (.seq (.seq (.ops r110_2) (.block 0 (.loop b110_1))) (.seq (.ops r110_15) (.ret))))⟩
def r111_0 : List O := [⟨some 4, none, .mov (.c (.i .i64 0))⟩]
def r111_1 : List O := [⟨some 5, none, .mov (.c (.i .i64 0))⟩]
def r111_2 : List O := [⟨some 11, none, .mov (.t 0)⟩,
  ⟨some 12, none, .nilck (.t 11)⟩,
  ⟨some 13, none, .fld 577 (.t 12)⟩,
  ⟨some 14, none, .ld (.t 13)⟩,
  ⟨some 15, none, .lenL (.t 14)⟩,
  ⟨some 16, none, .mov (.c (.i .i64 0))⟩]
def r111_3 : List O := [⟨some 17, none, .bin .lss (.t 16) (.t 15)⟩]
def r111_4 : List O := [⟨some 18, none, .mov (.t 16)⟩,
  ⟨some 19, none, .ixS 1 (.t 14) (.t 16)⟩,
  ⟨some 20, none, .ld (.t 19)⟩,
  ⟨some 6, none, .mov (.t 18)⟩,
  ⟨some 7, none, .mov (.t 20)⟩]
def r111_5 : List O := [⟨some 8, none, .mov (.c (.i .i64 0))⟩]
def r111_6 : List O := [⟨some 21, none, .mov (.t 7)⟩,
  ⟨some 22, none, .lenL (.t 21)⟩,
  ⟨some 23, none, .mov (.c (.i .i64 0))⟩]
def r111_7 : List O := [⟨some 24, none, .bin .lss (.t 23) (.t 22)⟩]
def r111_8 : List O := [⟨some 25, none, .mov (.t 23)⟩,
  ⟨some 26, none, .ixS 1 (.t 21) (.t 23)⟩,
  ⟨some 27, none, .ld (.t 26)⟩,
  ⟨some 9, none, .mov (.t 25)⟩,
  ⟨some 10, none, .mov (.t 27)⟩]
def r111_9 : List O := [⟨some 28, none, .mov (.t 1)⟩,
  ⟨some 29, none, .mov (.t 10)⟩,
  ⟨some 30, none, .ixS 1 (.t 28) (.t 29)⟩,
  ⟨some 31, none, .ld (.t 30)⟩]
def r111_10 : List O := [⟨some 32, none, .mov (.t 8)⟩,
  ⟨some 33, none, .mov (.t 9)⟩,
  ⟨some 34, none, .bin .shl (.c (.i .i64 1)) (.t 33)⟩,
  ⟨some 35, none, .bin .or (.t 32) (.t 34)⟩,
  ⟨some 8, none, .mov (.t 35)⟩]
def r111_11 : List O := [⟨some 36, none, .bin .add (.t 23) (.c (.i .i64 1))⟩,
  ⟨some 23, none, .mov (.t 36)⟩]
def b111_0 : C := .seq (.ops r111_7) (.seq (.cond (.t 24) (.skip) (.exit 2)) (.seq (.block 3 (.seq (.ops r111_8) (.seq (.ops r111_9) (.cond (.t 31) (.ops r111_10) (.skip))))) (.ops r111_11)))
def r111_12 : List O := [⟨some 37, none, .mov (.t 5)⟩,
  ⟨some 38, none, .mov (.t 0)⟩,
  ⟨some 39, none, .nilck (.t 38)⟩,
  ⟨some 40, none, .fld 578 (.t 39)⟩,
  ⟨some 41, none, .ld (.t 40)⟩,
  ⟨some 42, none, .mov (.t 6)⟩,
  ⟨some 43, none, .ixS 1 (.t 41) (.t 42)⟩,
  ⟨some 44, none, .ld (.t 43)⟩,
  ⟨some 45, none, .mov (.t 8)⟩,
  ⟨some 46, none, .ixS 1 (.t 44) (.t 45)⟩,
  ⟨some 47, none, .ld (.t 46)⟩,
  ⟨some 48, none, .bin .add (.t 37) (.t 47)⟩,
  ⟨some 5, none, .mov (.t 48)⟩]
def r111_13 : List O := [⟨some 49, none, .bin .add (.t 16) (.c (.i .i64 1))⟩,
  ⟨some 16, none, .mov (.t 49)⟩]
def b111_1 : C := .seq (.ops r111_3) (.seq (.cond (.t 17) (.skip) (.exit 0)) (.seq (.block 1 (.seq (.ops r111_4) (.seq (.ops r111_5) (.seq (.seq (.ops r111_6) (.block 2 (.loop b111_0))) (.ops r111_12))))) (.ops r111_13)))
def r111_14 : List O := [⟨some 50, none, .mov (.t 5)⟩,
  ⟨some 4, none, .mov (.t 50)⟩]
def a111 : FI := ⟨51, [.tmp 4], .seq (.ops r111_0) (.seq (.ops r111_1) (.seq (.seq (.ops r111_2) (.block 0 (.loop b111_1))) (.seq (.ops r111_14) (.ret))))⟩
def r112_0 : List O := [⟨some 6, none, .mov (.c (.i .i64 0))⟩]
def r112_1 : List O := [⟨some 7, none, .mov (.c (.i .i64 0))⟩]
def r112_2 : List O := [⟨some 10, none, .mov (.t 1)⟩,
  ⟨some 11, none, .lenL (.t 10)⟩,
  ⟨some 12, none, .mov (.c (.i .i64 0))⟩]
def r112_3 : List O := [⟨some 13, none, .bin .lss (.t 12) (.t 11)⟩]
def r112_4 : List O := [⟨some 14, none, .mov (.t 12)⟩,
  ⟨some 15, none, .ixS 1 (.t 10) (.t 12)⟩,
  ⟨some 16, none, .ld (.t 15)⟩,
  ⟨some 8, none, .mov (.t 14)⟩,
  ⟨some 9, none, .mov (.t 16)⟩]
def r112_5 : List O := [⟨some 17, none, .mov (.t 9)⟩,
  ⟨some 18, none, .mov (.t 17)⟩,
  ⟨some 19, some (18, true), .mov (.t 8)⟩,
  ⟨some 20, some (18, true), .mov (.t 2)⟩,
  ⟨some 21, some (18, true), .bin .neq (.t 19) (.t 20)⟩,
  ⟨some 22, none, .pick (.t 18) (.t 21) (.c (.b false))⟩]
def r112_6 : List O := [⟨some 23, none, .mov (.t 7)⟩,
  ⟨some 24, none, .mov (.t 0)⟩,
  ⟨some 25, none, .mov (.t 8)⟩,
  ⟨some 26, none, .mov (.t 2)⟩,
  ⟨some 27, none, .nilck (.t 24)⟩,
  ⟨some 28, none, .fld 0 (.t 27)⟩,
  ⟨some 29, none, .ixA 24 24 (.t 28) (.t 25)⟩,
  ⟨some 30, none, .ixA 24 1 (.t 29) (.t 26)⟩,
  ⟨some 31, none, .ld (.t 30)⟩,
  ⟨some 32, none, .bin .add (.t 23) (.t 31)⟩,
  ⟨some 7, none, .mov (.t 32)⟩]
def r112_7 : List O := [⟨some 33, none, .mov (.t 8)⟩,
  ⟨some 34, none, .mov (.t 0)⟩,
  ⟨some 35, none, .nilck (.t 34)⟩,
  ⟨some 36, none, .fld 579 (.t 35)⟩,
  ⟨some 37, none, .ld (.t 36)⟩,
  ⟨some 38, none, .bin .eql (.t 33) (.t 37)⟩,
  ⟨some 39, none, .mov (.t 38)⟩,
  ⟨some 40, some (39, true), .mov (.t 0)⟩,
  ⟨some 41, some (39, true), .mov (.t 8)⟩,
  ⟨some 42, some (39, true), .mov (.t 2)⟩,
  ⟨some 43, some (39, true), .nilck (.t 40)⟩,
  ⟨some 44, some (39, true), .fld 0 (.t 43)⟩,
  ⟨some 45, some (39, true), .ixA 24 24 (.t 44) (.t 41)⟩,
  ⟨some 46, some (39, true), .ixA 24 1 (.t 45) (.t 42)⟩,
  ⟨some 47, some (39, true), .ld (.t 46)⟩,
  ⟨some 48, some (39, true), .bin .gtr (.t 47) (.c (.i .i64 0))⟩,
  ⟨some 49, none, .pick (.t 39) (.t 48) (.c (.b false))⟩]
def r112_8 : List O := [⟨some 6, none, .mov (.c (.i .i64 1099511627776))⟩]
def r112_9 : List O := [⟨some 50, none, .bin .add (.t 12) (.c (.i .i64 1))⟩,
  ⟨some 12, none, .mov (.t 50)⟩]
def b112_0 : C := .seq (.ops r112_3) (.seq (.cond (.t 13) (.skip) (.exit 0)) (.seq (.block 1 (.seq (.ops r112_4) (.seq (.ops r112_5) (.cond (.t 22) (.seq (.ops r112_6) (.seq (.ops r112_7) (.cond (.t 49) (.seq (.ops r112_8) (.ret)) (.skip)))) (.skip))))) (.ops r112_9)))
def r112_10 : List O := [⟨some 51, none, .mov (.t 7)⟩,
  ⟨some 6, none, .mov (.t 51)⟩]
def a112 : FI := ⟨52, [.tmp 6], .seq (.ops r112_0) (.seq (.ops r112_1) (.seq (.seq (.ops r112_2) (.block 0 (.loop b112_0))) (.seq (.ops r112_10) (.ret))))⟩
def r117_0 : List O := [⟨some 2, none, .mov (.c (.sn))⟩]
def r117_1 : List O := [⟨some 6, none, .mov (.t 0)⟩,
  ⟨some 7, none, .lenL (.t 6)⟩,
  ⟨some 8, none, .mkSl [.i .i64 0] 8 (.t 7) (.t 7)⟩,
  ⟨some 3, none, .mov (.t 8)⟩]
def r117_2 : List O := [⟨some 9, none, .mov (.t 0)⟩,
  ⟨some 10, none, .lenL (.t 9)⟩,
  ⟨some 11, none, .mov (.c (.i .i64 0))⟩]
def r117_3 : List O := [⟨some 12, none, .bin .lss (.t 11) (.t 10)⟩]
def r117_4 : List O := [⟨some 13, none, .mov (.t 11)⟩,
  ⟨some 14, none, .ixS 1 (.t 9) (.t 11)⟩,
  ⟨some 15, none, .ld (.t 14)⟩,
  ⟨some 4, none, .mov (.t 13)⟩,
  ⟨some 5, none, .mov (.t 15)⟩]
def r117_5 : List O := [⟨some 16, none, .mov (.t 3)⟩,
  ⟨some 17, none, .mov (.t 5)⟩,
  ⟨some 18, none, .mov (.t 4)⟩,
  ⟨some 19, none, .ixS 1 (.t 16) (.t 17)⟩,
  ⟨none, none, .st 1 (.t 19) (.t 18)⟩]
def r117_6 : List O := [⟨some 20, none, .bin .add (.t 11) (.c (.i .i64 1))⟩,
  ⟨some 11, none, .mov (.t 20)⟩]
def b117_0 : C := .seq (.ops r117_3) (.seq (.cond (.t 12) (.skip) (.exit 0)) (.seq (.block 1 (.seq (.ops r117_4) (.ops r117_5))) (.ops r117_6)))
def r117_7 : List O := [⟨some 21, none, .mov (.t 3)⟩,
  ⟨some 2, none, .mov (.t 21)⟩]
def a117 : FI := ⟨22, [.tmp 2], .seq (.ops r117_0) (.seq (.ops r117_1) (.seq (.seq (.ops r117_2) (.block 0 (.loop b117_0))) (.seq (.ops r117_7) (.ret))))⟩
def r118_0 : List O := [⟨some 4, none, .mov (.c (.i .i64 0))⟩]
def r118_1 : List O := [⟨some 6, none, .mov (.t 0)⟩,
  ⟨some 7, none, .lenL (.t 6)⟩,
  ⟨some 8, none, .mov (.c (.i .i64 0))⟩]
def r118_2 : List O := [⟨some 9, none, .bin .lss (.t 8) (.t 7)⟩]
def r118_3 : List O := [⟨some 10, none, .mov (.t 8)⟩,
  ⟨some 5, none, .mov (.t 10)⟩]
def r118_4 : List O := [⟨some 11, none, .mov (.t 1)⟩,
  ⟨some 12, none, .mov (.t 0)⟩,
  ⟨some 13, none, .mov (.t 5)⟩,
  ⟨some 14, none, .ixS 1 (.t 12) (.t 13)⟩,
  ⟨some 15, none, .ld (.t 14)⟩,
  ⟨some 16, none, .call (.t 11) [(.t 15)]⟩]
def r118_5 : List O := [⟨some 17, none, .mov (.t 5)⟩,
  ⟨some 4, none, .mov (.t 17)⟩]
def r118_6 : List O := [⟨some 18, none, .bin .add (.t 8) (.c (.i .i64 1))⟩,
  ⟨some 8, none, .mov (.t 18)⟩]
def b118_0 : C := .seq (.ops r118_2) (.seq (.cond (.t 9) (.skip) (.exit 0)) (.seq (.block 1 (.seq (.ops r118_3) (.seq (.ops r118_4) (.cond (.t 16) (.seq (.ops r118_5) (.ret)) (.skip))))) (.ops r118_6)))
def r118_7 : List O := [⟨some 4, none, .mov (.c (.i .i64 (-1)))⟩]
def a118 : FI := ⟨19, [.tmp 4], .seq (.ops r118_0) (.seq (.seq (.ops r118_1) (.block 0 (.loop b118_0))) (.seq (.ops r118_7) (.ret)))⟩
def r119_0 : List O := [⟨some 1, none, .box (.t 0)⟩,
  ⟨some 2, none, .mov (.c (.pn))⟩,
  ⟨some 3, none, .mov (.c (.b false))⟩]
def r119_1 : List O := [⟨some 8, none, .ldn 2 (.t 1)⟩,
  ⟨some 9, none, .call (.f 66) [(.t 8)]⟩,
  ⟨some 10, none, .bin .neq (.t 9) (.c (.i .i64 0))⟩]
def r119_2 : List O := [⟨some 2, none, .mov (.c (.pn))⟩,
  ⟨some 3, none, .mov (.c (.b false))⟩]
def r119_3 : List O := [⟨some 11, none, .fld 0 (.t 1)⟩,
  ⟨some 12, none, .ld (.t 11)⟩,
  ⟨some 13, none, .build ([.i .i64 0] ++ List.replicate 1152 (.b false)) [(0, 1, (.t 12))]⟩,
  ⟨some 14, none, .box (.t 13)⟩,
  ⟨some 4, none, .mov (.t 14)⟩]
def r119_4 : List O := [⟨some 15, none, .fld 1 (.t 1)⟩,
  ⟨some 16, none, .ld (.t 15)⟩,
  ⟨some 17, none, .lenL (.t 16)⟩,
  ⟨some 18, none, .mov (.c (.i .i64 0))⟩]
def r119_5 : List O := [⟨some 19, none, .bin .lss (.t 18) (.t 17)⟩]
def r119_6 : List O := [⟨some 20, none, .ixS 4 (.t 16) (.t 18)⟩,
  ⟨some 21, none, .ldn 4 (.t 20)⟩,
  ⟨some 6, none, .alloc [.i .i64 0, .i .i64 0, .i .i64 0, .i .i64 0]⟩,
  ⟨none, none, .st 4 (.t 6) (.t 21)⟩]
def r119_7 : List O := [⟨some 22, none, .mov (.t 4)⟩,
  ⟨some 23, none, .fld 0 (.t 6)⟩,
  ⟨some 24, none, .ld (.t 23)⟩,
  ⟨some 25, none, .fld 1 (.t 6)⟩,
  ⟨some 26, none, .ld (.t 25)⟩,
  ⟨some 27, none, .nilck (.t 22)⟩,
  ⟨some 28, none, .fld 1 (.t 27)⟩,
  ⟨some 29, none, .ixA 24 24 (.t 28) (.t 24)⟩,
  ⟨some 30, none, .ixA 24 1 (.t 29) (.t 26)⟩,
  ⟨none, none, .st 1 (.t 30) (.c (.b true))⟩]
def r119_8 : List O := [⟨some 31, none, .bin .add (.t 18) (.c (.i .i64 1))⟩,
  ⟨some 18, none, .mov (.t 31)⟩]
def b119_0 : C := .seq (.ops r119_5) (.seq (.cond (.t 19) (.skip) (.exit 0)) (.seq (.block 1 (.seq (.ops r119_6) (.draw r119_7 []))) (.ops r119_8)))
def r119_9 : List O := [⟨some 32, none, .mov (.t 4)⟩,
  ⟨some 33, none, .nilck (.t 32)⟩,
  ⟨some 34, none, .fld 0 (.t 33)⟩,
  ⟨some 35, none, .ld (.t 34)⟩,
  ⟨some 36, none, .mov (.c (.i .i64 0))⟩]
def r119_10 : List O := [⟨some 37, none, .bin .lss (.t 36) (.t 35)⟩]
def r119_11 : List O := [⟨some 38, none, .mov (.t 36)⟩,
  ⟨some 7, none, .mov (.t 38)⟩]
def r119_12 : List O := [⟨some 39, none, .mov (.t 4)⟩,
  ⟨some 40, none, .mov (.t 7)⟩,
  ⟨some 41, none, .mov (.t 4)⟩,
  ⟨some 42, none, .mov (.t 7)⟩,
  ⟨some 43, none, .call (.f 128) [(.t 41), (.t 42)]⟩,
  ⟨some 44, none, .nilck (.t 39)⟩,
  ⟨some 45, none, .fld 577 (.t 44)⟩,
  ⟨some 46, none, .ixA 24 24 (.t 45) (.t 40)⟩,
  ⟨none, none, .st 24 (.t 46) (.t 43)⟩]
def r119_13 : List O := [⟨some 47, none, .bin .add (.t 36) (.c (.i .i64 1))⟩,
  ⟨some 36, none, .mov (.t 47)⟩]
def b119_1 : C := .seq (.ops r119_10) (.seq (.cond (.t 37) (.skip) (.exit 2)) (.seq (.block 3 (.seq (.ops r119_11) (.draw r119_12 []))) (.ops r119_13)))
def r119_14 : List O := [⟨some 48, none, .mov (.t 4)⟩,
  ⟨some 2, none, .mov (.t 48)⟩,
  ⟨some 3, none, .mov (.c (.b true))⟩]
def a119 : FI := ⟨49, [.tmp 2, .tmp 3], .seq (.ops r119_0) (.seq (.seq (.ops r119_1) (.cond (.t 10) (.seq (.ops r119_2) (.ret)) (.skip))) (.seq (.ops r119_3) (.seq (.seq (.ops r119_4) (.block 0 (.loop b119_0))) (.seq (.seq (.ops r119_9) (.block 2 (.loop b119_1))) (.seq (.ops r119_14) (.ret))))))⟩
def r120_0 : List O := [⟨some 1, none, .box (.t 0)⟩,
  ⟨some 2, none, .mov (.c (.sn))⟩]
def r120_1 : List O := [⟨some 3, none, .alloc [.sn]⟩]
def r120_2 : List O := [⟨some 4, none, .alloc (List.replicate 24 (.b false))⟩]
def r120_3 : List O := [⟨some 5, none, .alloc [.fnil]⟩]
def r120_4 : List O := [⟨some 6, none, .mkFn 129 [] [(.t 1), (.t 4), (.t 3), (.t 5)]⟩,
  ⟨none, none, .st 1 (.t 5) (.t 6)⟩]
def r120_5 : List O := [⟨some 7, none, .ld (.t 5)⟩,
  ⟨some 8, none, .call (.t 7) []⟩]
def r120_6 : List O := [⟨some 9, none, .ld (.t 3)⟩,
  ⟨some 2, none, .mov (.t 9)⟩]
def a120 : FI := ⟨10, [.tmp 2], .seq (.ops r120_0) (.seq (.ops r120_1) (.seq (.ops r120_2) (.seq (.ops r120_3) (.seq (.ops r120_4) (.seq (.ops r120_5) (.seq (.ops r120_6) (.ret)))))))⟩
def r121_0 : List O := [⟨some 4, none, .mov (.c (.i .i64 0))⟩]
def r121_1 : List O := [⟨some 6, none, .mov (.t 4)⟩,
  ⟨some 7, none, .ld (.t 1)⟩,
  ⟨some 8, none, .lenL (.t 7)⟩,
  ⟨some 9, none, .bin .lss (.t 6) (.t 8)⟩]
def r121_3 : List O := [⟨some 13, none, .ld (.t 2)⟩,
  ⟨some 14, none, .ld (.t 1)⟩,
  ⟨some 15, none, .mov (.t 4)⟩,
  ⟨some 16, none, .slc 1 (.t 14) (some (.t 15)) none none⟩,
  ⟨some 17, none, .lenL (.t 16)⟩,
  ⟨some 18, none, .min [(.t 13), (.t 17)]⟩,
  ⟨some 5, none, .mov (.t 18)⟩]
def r121_4 : List O := [⟨some 19, none, .mov (.t 0)⟩,
  ⟨some 20, none, .ld (.t 1)⟩,
  ⟨some 21, none, .mov (.t 4)⟩,
  ⟨some 22, none, .mov (.t 4)⟩,
  ⟨some 23, none, .mov (.t 5)⟩,
  ⟨some 24, none, .bin .add (.t 22) (.t 23)⟩,
  ⟨some 25, none, .mov (.t 4)⟩,
  ⟨some 26, none, .mov (.t 5)⟩,
  ⟨some 27, none, .bin .add (.t 25) (.t 26)⟩,
  ⟨some 28, none, .slc 1 (.t 20) (some (.t 21)) (some (.t 24)) (some (.t 27))⟩,
  ⟨some 29, none, .call (.t 19) [(.t 28)]⟩,
  ⟨some 30, none, .un .not (.t 29)⟩]
def r121_2 : List O := [⟨some 10, none, .mov (.t 4)⟩,
  ⟨some 11, none, .ld (.t 2)⟩,
  ⟨some 12, none, .bin .add (.t 10) (.t 11)⟩,
  ⟨some 4, none, .mov (.t 12)⟩]
def b121_0 : C := .seq (.seq (.ops r121_1) (.cond (.t 9) (.skip) (.exit 0))) (.seq (.block 1 (.seq (.draw r121_3 []) (.seq (.ops r121_4) (.cond (.t 30) (.ret) (.skip))))) (.ops r121_2))
def a121 : FI := ⟨31, [], .seq (.ops r121_0) (.block 0 (.loop b121_0))⟩
def r122_0 : List O := [⟨some 2, none, .box (.t 0)⟩,
  ⟨some 3, none, .box (.t 1)⟩,
  ⟨some 4, none, .mov (.c (.fnil))⟩]
def r122_1 : List O := [⟨some 5, none, .mkFn 133 [] [(.t 3), (.t 2)]⟩,
  ⟨some 4, none, .mov (.t 5)⟩]
def a122 : FI := ⟨6, [.tmp 4], .seq (.ops r122_0) (.seq (.ops r122_1) (.ret))⟩
def r123_0 : List O := [⟨some 4, none, .box (.t 0)⟩,
  ⟨some 5, none, .box (.t 1)⟩,
  ⟨some 6, none, .box (.t 2)⟩,
  ⟨some 8, none, .mov (.c (.i .i64 0))⟩]
def r123_1 : List O := [⟨some 9, none, .alloc [.i .i64 0]⟩,
  ⟨none, none, .st 1 (.t 9) (.c (.i .i64 0))⟩]
def r123_2 : List O := [⟨some 11, none, .mov (.t 3)⟩,
  ⟨some 12, none, .ld (.t 5)⟩,
  ⟨some 13, none, .lenL (.t 12)⟩,
  ⟨some 14, none, .call (.f 122) [(.t 11), (.t 13)]⟩]
def r123_3 : List O := [⟨some 10, none, .mov (.t 15)⟩]
def r123_4 : List O := [⟨some 17, none, .ld (.t 9)⟩,
  ⟨some 18, none, .ld (.t 4)⟩,
  ⟨some 19, none, .ld (.t 5)⟩,
  ⟨some 20, none, .ld (.t 6)⟩,
  ⟨some 21, none, .ixS 1 (.t 19) (.t 20)⟩,
  ⟨some 22, none, .ld (.t 21)⟩,
  ⟨some 23, none, .ld (.t 5)⟩,
  ⟨some 24, none, .mov (.t 10)⟩,
  ⟨some 25, none, .ixS 1 (.t 23) (.t 24)⟩,
  ⟨some 26, none, .ld (.t 25)⟩,
  ⟨some 27, none, .nilck (.t 18)⟩,
  ⟨some 28, none, .ixA 24 24 (.t 27) (.t 22)⟩,
  ⟨some 29, none, .ixA 24 1 (.t 28) (.t 26)⟩,
  ⟨some 30, none, .ld (.t 29)⟩,
  ⟨some 31, none, .bin .add (.t 17) (.t 30)⟩,
  ⟨none, none, .st 1 (.t 9) (.t 31)⟩]
def b123_0 : C := .block 1 (.draw r123_4 [])
def r123_5 : List O := [⟨some 32, none, .ld (.t 9)⟩,
  ⟨some 8, none, .mov (.t 32)⟩]
def a123 : FI := ⟨33, [.tmp 8], .seq (.ops r123_0) (.seq (.ops r123_1) (.seq (.seq (.ops r123_2) (.block 0 (.rangeF (.t 14) [15, 16] (.ops r123_3) b123_0))) (.seq (.ops r123_5) (.ret))))⟩
def r124_0 : List O := [⟨some 2, none, .mov (.c (.i .i64 0))⟩]
def r124_1 : List O := [⟨some 3, none, .mov (.c (.i .i64 0))⟩]
def r124_2 : List O := [⟨some 6, none, .mov (.t 0)⟩,
  ⟨some 7, none, .lenL (.t 6)⟩,
  ⟨some 8, none, .mov (.c (.i .i64 0))⟩]
def r124_3 : List O := [⟨some 9, none, .bin .lss (.t 8) (.t 7)⟩]
def r124_4 : List O := [⟨some 10, none, .ixS 1 (.t 6) (.t 8)⟩,
  ⟨some 11, none, .ld (.t 10)⟩,
  ⟨some 5, none, .mov (.t 11)⟩]
def r124_5 : List O := [⟨some 12, none, .mov (.t 5)⟩,
  ⟨some 13, none, .mov (.t 3)⟩,
  ⟨some 14, none, .bin .neq (.t 12) (.t 13)⟩]
def r124_6 : List O := [⟨some 15, none, .mov (.t 5)⟩,
  ⟨some 2, none, .mov (.t 15)⟩]
def r124_7 : List O := [⟨some 16, none, .bin .add (.t 8) (.c (.i .i64 1))⟩,
  ⟨some 8, none, .mov (.t 16)⟩]
def b124_0 : C := .seq (.ops r124_3) (.seq (.cond (.t 9) (.skip) (.exit 0)) (.seq (.block 1 (.seq (.ops r124_4) (.seq (.ops r124_5) (.cond (.t 14) (.seq (.ops r124_6) (.ret)) (.skip))))) (.ops r124_7)))
def r124_8 : List O := [⟨some 17, none, .mov (.t 3)⟩,
  ⟨some 2, none, .mov (.t 17)⟩]
def a124 : FI := ⟨18, [.tmp 2], .seq (.ops r124_0) (.seq (.ops r124_1) (.seq (.seq (.ops r124_2) (.block 0 (.loop b124_0))) (.seq (.ops r124_8) (.ret))))⟩
def r125_0 : List O := [⟨some 4, none, .mov (.c (.i .i64 0))⟩]
def r125_1 : List O := [⟨some 7, none, .mov (.t 0)⟩,
  ⟨some 8, none, .call (.f 134) [(.t 7)]⟩,
  ⟨some 5, none, .mov (.t 8)⟩]
def r125_2 : List O := [⟨some 9, none, .mov (.t 1)⟩,
  ⟨some 10, none, .call (.f 134) [(.t 9)]⟩,
  ⟨some 6, none, .mov (.t 10)⟩]
def r125_3 : List O := [⟨some 11, none, .mov (.t 5)⟩]
def r125_4 : List O := [⟨some 12, none, .mov (.t 6)⟩]
def r125_5 : List O := [⟨some 4, none, .mov (.c (.i .i64 0))⟩]
def r125_6 : List O := [⟨some 4, none, .mov (.c (.i .i64 (-1)))⟩]
def r125_7 : List O := [⟨some 13, none, .mov (.t 6)⟩]
def r125_8 : List O := [⟨some 4, none, .mov (.c (.i .i64 1))⟩]
def r125_9 : List O := [⟨some 14, none, .mov (.t 0)⟩,
  ⟨some 15, none, .mov (.t 1)⟩,
  ⟨some 16, none, .bin .lss (.t 14) (.t 15)⟩]
def r125_10 : List O := [⟨some 4, none, .mov (.c (.i .i64 (-1)))⟩]
def r125_11 : List O := [⟨some 17, none, .mov (.t 0)⟩,
  ⟨some 18, none, .mov (.t 1)⟩,
  ⟨some 19, none, .bin .gtr (.t 17) (.t 18)⟩]
def r125_12 : List O := [⟨some 4, none, .mov (.c (.i .i64 1))⟩]
def r125_13 : List O := [⟨some 4, none, .mov (.c (.i .i64 0))⟩]
def a125 : FI := ⟨20, [.tmp 4], .seq (.ops r125_0) (.seq (.ops r125_1) (.seq (.ops r125_2) (.seq (.seq (.ops r125_3) (.cond (.t 11) (.seq (.seq (.ops r125_4) (.cond (.t 12) (.seq (.ops r125_5) (.ret)) (.skip))) (.seq (.ops r125_6) (.ret))) (.skip))) (.seq (.seq (.ops r125_7) (.cond (.t 13) (.seq (.ops r125_8) (.ret)) (.skip))) (.seq (.seq (.ops r125_9) (.cond (.t 16) (.seq (.ops r125_10) (.ret)) (.skip))) (.seq (.seq (.ops r125_11) (.cond (.t 19) (.seq (.ops r125_12) (.ret)) (.skip))) (.seq (.ops r125_13) (.ret))))))))⟩
def r128_0 : List O := [⟨some 2, none, .box (.t 0)⟩,
  ⟨some 4, none, .alloc (List.replicate 24 (.b false))⟩]
def r128_1 : List O := [⟨some 5, none, .alloc (List.replicate 24 (.b false))⟩]
def r128_2 : List O := [⟨some 6, none, .alloc [.fnil]⟩]
def r128_3 : List O := [⟨some 7, none, .mkFn 136 [] [(.t 2), (.t 5), (.t 6)]⟩,
  ⟨none, none, .st 1 (.t 6) (.t 7)⟩]
def r128_4 : List O := [⟨some 8, none, .ld (.t 6)⟩,
  ⟨some 9, none, .mov (.t 1)⟩,
  ⟨some 10, none, .call (.t 8) [(.t 9)]⟩]
def r128_5 : List O := [⟨some 11, none, .ldn 24 (.t 5)⟩,
  ⟨none, none, .st 24 (.t 4) (.t 11)⟩]
def a128 : FI := ⟨12, [.cell 4 (some 24)], .seq (.ops r128_0) (.seq (.ops r128_1) (.seq (.ops r128_2) (.seq (.ops r128_3) (.seq (.ops r128_4) (.seq (.ops r128_5) (.ret))))))⟩
def r129_0 : List O := [⟨some 8, none, .ld (.t 0)⟩,
  ⟨some 9, none, .nilck (.t 8)⟩,
  ⟨some 10, none, .fld 0 (.t 9)⟩,
  ⟨some 11, none, .ld (.t 10)⟩,
  ⟨some 12, none, .mov (.c (.i .i64 0))⟩]
def r129_1 : List O := [⟨some 13, none, .bin .lss (.t 12) (.t 11)⟩]
def r129_2 : List O := [⟨some 14, none, .mov (.t 12)⟩,
  ⟨some 4, none, .mov (.t 14)⟩]
def r129_3 : List O := [⟨some 15, none, .ld (.t 0)⟩,
  ⟨some 16, none, .mov (.t 4)⟩,
  ⟨some 17, none, .call (.f 130) [(.t 15), (.t 16)]⟩,
  ⟨some 5, none, .alloc (List.replicate 24 (.b false))⟩,
  ⟨none, none, .st 24 (.t 5) (.t 17)⟩]
def r129_4 : List O := [⟨some 18, none, .mov (.t 4)⟩,
  ⟨some 19, none, .ixA 24 1 (.t 1) (.t 18)⟩,
  ⟨some 20, none, .ld (.t 19)⟩,
  ⟨some 21, none, .mov (.t 20)⟩,
  ⟨some 22, some (21, false), .ld (.t 0)⟩,
  ⟨some 23, some (21, false), .mov (.t 4)⟩,
  ⟨some 24, some (21, false), .ldn 24 (.t 5)⟩,
  ⟨some 25, some (21, false), .ldn 24 (.t 1)⟩,
  ⟨some 26, some (21, false), .call (.f 131) [(.t 22), (.t 23), (.t 24), (.t 25)]⟩,
  ⟨some 27, none, .pick (.t 21) (.c (.b true)) (.t 26)⟩]
def r129_5 : List O := [⟨some 28, none, .ld (.t 2)⟩,
  ⟨some 29, none, .ldn 24 (.t 5)⟩,
  ⟨some 30, none, .call (.f 132) [(.t 29)]⟩,
  ⟨some 31, none, .buildSl [.sn] 1 [(0, 1, (.t 30))]⟩,
  ⟨some 32, none, .app 1 24 (.t 28) (.t 31)⟩,
  ⟨none, none, .st 1 (.t 2) (.t 32)⟩]
def r129_6 : List O := [⟨some 33, none, .ldn 24 (.t 5)⟩,
  ⟨some 34, none, .call (.f 132) [(.t 33)]⟩,
  ⟨some 35, none, .lenL (.t 34)⟩,
  ⟨some 36, none, .mov (.c (.i .i64 0))⟩]
def r129_7 : List O := [⟨some 37, none, .bin .lss (.t 36) (.t 35)⟩]
def r129_8 : List O := [⟨some 38, none, .ixS 1 (.t 34) (.t 36)⟩,
  ⟨some 39, none, .ld (.t 38)⟩,
  ⟨some 7, none, .mov (.t 39)⟩]
def r129_9 : List O := [⟨some 40, none, .mov (.t 7)⟩,
  ⟨some 41, none, .ixA 24 1 (.t 1) (.t 40)⟩,
  ⟨none, none, .st 1 (.t 41) (.c (.b true))⟩]
def r129_10 : List O := [⟨some 42, none, .bin .add (.t 36) (.c (.i .i64 1))⟩,
  ⟨some 36, none, .mov (.t 42)⟩]
def b129_0 : C := .seq (.ops r129_7) (.seq (.cond (.t 37) (.skip) (.exit 2)) (.seq (.block 3 (.seq (.ops r129_8) (.ops r129_9))) (.ops r129_10)))
def r129_11 : List O := [⟨some 43, none, .ld (.t 3)⟩,
  ⟨some 44, none, .call (.t 43) []⟩]
def r129_12 : List O := [⟨some 45, none, .bin .add (.t 12) (.c (.i .i64 1))⟩,
  ⟨some 12, none, .mov (.t 45)⟩]
def b129_1 : C := .seq (.ops r129_1) (.seq (.cond (.t 13) (.skip) (.exit 0)) (.seq (.block 1 (.seq (.ops r129_2) (.seq (.ops r129_3) (.seq (.seq (.ops r129_4) (.cond (.t 27) (.exit 1) (.skip))) (.seq (.draw r129_5 [(0, 2)]) (.seq (.seq (.ops r129_6) (.block 2 (.loop b129_0))) (.seq (.ops r129_11) (.ret)))))))) (.ops r129_12)))
def a129 : FI := ⟨46, [], .seq (.ops r129_0) (.block 0 (.loop b129_1))⟩
def r130_0 : List O := [⟨some 4, none, .alloc (List.replicate 24 (.b false))⟩]
def r130_1 : List O := [⟨some 5, none, .alloc (List.replicate 24 (.b false))⟩]
def r130_2 : List O := [⟨some 7, none, .mov (.t 0)⟩,
  ⟨some 8, none, .nilck (.t 7)⟩,
  ⟨some 9, none, .fld 0 (.t 8)⟩,
  ⟨some 10, none, .ld (.t 9)⟩,
  ⟨some 11, none, .mov (.c (.i .i64 0))⟩]
def r130_3 : List O := [⟨some 12, none, .bin .lss (.t 11) (.t 10)⟩]
def r130_4 : List O := [⟨some 13, none, .mov (.t 11)⟩,
  ⟨some 6, none, .mov (.t 13)⟩]
def r130_5 : List O := [⟨some 14, none, .mov (.t 6)⟩,
  ⟨some 15, none, .mov (.t 1)⟩,
  ⟨some 16, none, .mov (.t 6)⟩,
  ⟨some 17, none, .bin .eql (.t 15) (.t 16)⟩,
  ⟨some 18, none, .mov (.t 17)⟩,
  ⟨some 19, some (18, false), .mov (.t 0)⟩,
  ⟨some 20, some (18, false), .mov (.t 1)⟩,
  ⟨some 21, some (18, false), .mov (.t 6)⟩,
  ⟨some 22, some (18, false), .call (.f 137) [(.t 19), (.t 20), (.t 21)]⟩,
  ⟨some 23, some (18, false), .bin .eql (.t 22) (.c (.i .u8 3))⟩,
  ⟨some 24, none, .pick (.t 18) (.c (.b true)) (.t 23)⟩,
  ⟨some 25, none, .ixA 24 1 (.t 5) (.t 14)⟩,
  ⟨none, none, .st 1 (.t 25) (.t 24)⟩]
def r130_6 : List O := [⟨some 26, none, .bin .add (.t 11) (.c (.i .i64 1))⟩,
  ⟨some 11, none, .mov (.t 26)⟩]
def b130_0 : C := .seq (.ops r130_3) (.seq (.cond (.t 12) (.skip) (.exit 0)) (.seq (.block 1 (.seq (.ops r130_4) (.ops r130_5))) (.ops r130_6)))
def r130_7 : List O := [⟨some 27, none, .ldn 24 (.t 5)⟩,
  ⟨none, none, .st 24 (.t 4) (.t 27)⟩]
def a130 : FI := ⟨28, [.cell 4 (some 24)], .seq (.ops r130_0) (.seq (.ops r130_1) (.seq (.seq (.ops r130_2) (.block 0 (.loop b130_0))) (.seq (.ops r130_7) (.ret))))⟩
def r131_0 : List O := [⟨some 6, none, .box (.t 2)⟩,
  ⟨some 7, none, .box (.t 3)⟩,
  ⟨some 8, none, .mov (.c (.b false))⟩]
def r131_1 : List O := [⟨some 10, none, .mov (.t 0)⟩,
  ⟨some 11, none, .nilck (.t 10)⟩,
  ⟨some 12, none, .fld 0 (.t 11)⟩,
  ⟨some 13, none, .ld (.t 12)⟩,
  ⟨some 14, none, .mov (.c (.i .i64 0))⟩]
def r131_2 : List O := [⟨some 15, none, .bin .lss (.t 14) (.t 13)⟩]
def r131_3 : List O := [⟨some 16, none, .mov (.t 14)⟩,
  ⟨some 9, none, .mov (.t 16)⟩]
def r131_4 : List O := [⟨some 17, none, .mov (.t 9)⟩,
  ⟨some 18, none, .ixA 24 1 (.t 6) (.t 17)⟩,
  ⟨some 19, none, .ld (.t 18)⟩,
  ⟨some 20, none, .un .not (.t 19)⟩,
  ⟨some 21, none, .mov (.t 20)⟩,
  ⟨some 22, some (21, true), .mov (.t 9)⟩,
  ⟨some 23, some (21, true), .ixA 24 1 (.t 7) (.t 22)⟩,
  ⟨some 24, some (21, true), .ld (.t 23)⟩,
  ⟨some 25, some (21, true), .un .not (.t 24)⟩,
  ⟨some 26, none, .pick (.t 21) (.t 25) (.c (.b false))⟩,
  ⟨some 27, none, .mov (.t 26)⟩,
  ⟨some 28, some (27, true), .mov (.t 0)⟩,
  ⟨some 29, some (27, true), .mov (.t 9)⟩,
  ⟨some 30, some (27, true), .mov (.t 1)⟩,
  ⟨some 31, some (27, true), .nilck (.t 28)⟩,
  ⟨some 32, some (27, true), .fld 577 (.t 31)⟩,
  ⟨some 33, some (27, true), .ixA 24 24 (.t 32) (.t 29)⟩,
  ⟨some 34, some (27, true), .ixA 24 1 (.t 33) (.t 30)⟩,
  ⟨some 35, some (27, true), .ld (.t 34)⟩,
  ⟨some 36, none, .pick (.t 27) (.t 35) (.c (.b false))⟩]
def r131_5 : List O := [⟨some 8, none, .mov (.c (.b true))⟩]
def r131_6 : List O := [⟨some 37, none, .bin .add (.t 14) (.c (.i .i64 1))⟩,
  ⟨some 14, none, .mov (.t 37)⟩]
def b131_0 : C := .seq (.ops r131_2) (.seq (.cond (.t 15) (.skip) (.exit 0)) (.seq (.block 1 (.seq (.ops r131_3) (.seq (.ops r131_4) (.cond (.t 36) (.seq (.ops r131_5) (.ret)) (.skip))))) (.ops r131_6)))
def r131_7 : List O := [⟨some 8, none, .mov (.c (.b false))⟩]
def a131 : FI := ⟨38, [.tmp 8], .seq (.ops r131_0) (.seq (.seq (.ops r131_1) (.block 0 (.loop b131_0))) (.seq (.ops r131_7) (.ret)))⟩
def r132_0 : List O := [⟨some 1, none, .box (.t 0)⟩,
  ⟨some 2, none, .mov (.c (.sn))⟩]
def r132_1 : List O := [⟨some 3, none, .mov (.c (.sn))⟩]
def r132_2 : List O := [⟨some 6, none, .ldn 24 (.t 1)⟩,
  ⟨some 7, none, .mov (.c (.i .i64 0))⟩]
def r132_3 : List O := [⟨some 8, none, .bin .lss (.t 7) (.c (.i .i64 24))⟩]
def r132_4 : List O := [⟨some 9, none, .mov (.t 7)⟩,
  ⟨some 10, none, .ixV 24 1 false (.t 6) (.t 7)⟩,
  ⟨some 4, none, .mov (.t 9)⟩,
  ⟨some 5, none, .mov (.t 10)⟩]
def r132_5 : List O := [⟨some 11, none, .mov (.t 5)⟩]
def r132_6 : List O := [⟨some 12, none, .mov (.t 3)⟩,
  ⟨some 13, none, .mov (.t 4)⟩,
  ⟨some 14, none, .buildSl [.i .i64 0] 1 [(0, 1, (.t 13))]⟩,
  ⟨some 15, none, .app 1 8 (.t 12) (.t 14)⟩,
  ⟨some 3, none, .mov (.t 15)⟩]
def r132_7 : List O := [⟨some 16, none, .bin .add (.t 7) (.c (.i .i64 1))⟩,
  ⟨some 7, none, .mov (.t 16)⟩]
def b132_0 : C := .seq (.ops r132_3) (.seq (.cond (.t 8) (.skip) (.exit 0)) (.seq (.block 1 (.seq (.ops r132_4) (.seq (.ops r132_5) (.cond (.t 11) (.ops r132_6) (.skip))))) (.ops r132_7)))
def r132_8 : List O := [⟨some 17, none, .mov (.t 3)⟩,
  ⟨some 2, none, .mov (.t 17)⟩]
def a132 : FI := ⟨18, [.tmp 2], .seq (.ops r132_0) (.seq (.ops r132_1) (.seq (.seq (.ops r132_2) (.block 0 (.loop b132_0))) (.seq (.ops r132_8) (.ret))))⟩
def r133_0 : List O := [⟨some 6, none, .ld (.t 1)⟩,
  ⟨some 7, none, .mov (.c (.i .i64 0))⟩]
def r133_1 : List O := [⟨some 8, none, .bin .lss (.t 7) (.t 6)⟩]
def r133_2 : List O := [⟨some 9, none, .mov (.t 7)⟩,
  ⟨some 4, none, .mov (.t 9)⟩]
def r133_3 : List O := [⟨some 10, none, .mov (.t 4)⟩,
  ⟨some 11, none, .bin .shl (.c (.i .i64 1)) (.t 10)⟩,
  ⟨some 5, none, .mov (.t 11)⟩]
def r133_4 : List O := [⟨some 12, none, .ld (.t 2)⟩,
  ⟨some 13, none, .mov (.t 5)⟩,
  ⟨some 14, none, .bin .and (.t 12) (.t 13)⟩,
  ⟨some 15, none, .bin .neq (.t 14) (.c (.i .i64 0))⟩,
  ⟨some 16, none, .mov (.t 15)⟩,
  ⟨some 17, some (16, true), .mov (.t 0)⟩,
  ⟨some 18, some (16, true), .mov (.t 4)⟩,
  ⟨some 19, some (16, true), .mov (.t 5)⟩,
  ⟨some 20, some (16, true), .call (.t 17) [(.t 18), (.t 19)]⟩,
  ⟨some 21, some (16, true), .un .not (.t 20)⟩,
  ⟨some 22, none, .pick (.t 16) (.t 21) (.c (.b false))⟩]
def r133_5 : List O := [⟨some 23, none, .bin .add (.t 7) (.c (.i .i64 1))⟩,
  ⟨some 7, none, .mov (.t 23)⟩]
def b133_0 : C := .seq (.ops r133_1) (.seq (.cond (.t 8) (.skip) (.exit 0)) (.seq (.block 1 (.seq (.ops r133_2) (.seq (.ops r133_3) (.seq (.ops r133_4) (.cond (.t 22) (.ret) (.skip)))))) (.ops r133_5)))
def a133 : FI := ⟨24, [], .seq (.ops r133_0) (.block 0 (.loop b133_0))⟩
def r134_0 : List O := [⟨some 2, none, .mov (.c (.b false))⟩]
def r134_1 : List O := [⟨some 3, none, .mov (.t 0)⟩,
  ⟨some 4, none, .mov (.t 0)⟩,
  ⟨some 5, none, .bin .neq (.t 3) (.t 4)⟩,
  ⟨some 2, none, .mov (.t 5)⟩]
def a134 : FI := ⟨6, [.tmp 2], .seq (.ops r134_0) (.seq (.ops r134_1) (.ret))⟩
def r136_0 : List O := [⟨some 7, none, .ld (.t 1)⟩,
  ⟨some 8, none, .mov (.t 0)⟩,
  ⟨some 9, none, .nilck (.t 7)⟩,
  ⟨some 10, none, .fld 1 (.t 9)⟩,
  ⟨some 11, none, .ixA 24 24 (.t 10) (.t 8)⟩,
  ⟨some 12, none, .ldn 24 (.t 11)⟩,
  ⟨some 13, none, .call (.f 132) [(.t 12)]⟩,
  ⟨some 14, none, .lenL (.t 13)⟩,
  ⟨some 15, none, .mov (.c (.i .i64 0))⟩]
def r136_1 : List O := [⟨some 16, none, .bin .lss (.t 15) (.t 14)⟩]
def r136_2 : List O := [⟨some 17, none, .ixS 1 (.t 13) (.t 15)⟩,
  ⟨some 18, none, .ld (.t 17)⟩,
  ⟨some 6, none, .mov (.t 18)⟩]
def r136_3 : List O := [⟨some 19, none, .mov (.t 6)⟩,
  ⟨some 20, none, .ixA 24 1 (.t 2) (.t 19)⟩,
  ⟨some 21, none, .ld (.t 20)⟩,
  ⟨some 22, none, .un .not (.t 21)⟩]
def r136_4 : List O := [⟨some 23, none, .mov (.t 6)⟩,
  ⟨some 24, none, .ixA 24 1 (.t 2) (.t 23)⟩,
  ⟨none, none, .st 1 (.t 24) (.c (.b true))⟩]
def r136_5 : List O := [⟨some 25, none, .ld (.t 3)⟩,
  ⟨some 26, none, .mov (.t 6)⟩,
  ⟨some 27, none, .call (.t 25) [(.t 26)]⟩]
def r136_6 : List O := [⟨some 28, none, .bin .add (.t 15) (.c (.i .i64 1))⟩,
  ⟨some 15, none, .mov (.t 28)⟩]
def b136_0 : C := .seq (.ops r136_1) (.seq (.cond (.t 16) (.skip) (.exit 0)) (.seq (.block 1 (.seq (.ops r136_2) (.seq (.ops r136_3) (.cond (.t 22) (.seq (.ops r136_4) (.ops r136_5)) (.skip))))) (.ops r136_6)))
def a136 : FI := ⟨29, [], .seq (.ops r136_0) (.block 0 (.loop b136_0))⟩
def r137_0 : List O := [⟨some 6, none, .mov (.c (.i .u8 0))⟩]
def r137_1 : List O := [⟨some 9, none, .mov (.t 0)⟩,
  ⟨some 10, none, .mov (.t 1)⟩,
  ⟨some 11, none, .mov (.t 2)⟩,
  ⟨some 12, none, .nilck (.t 9)⟩,
  ⟨some 13, none, .fld 577 (.t 12)⟩,
  ⟨some 14, none, .ixA 24 24 (.t 13) (.t 10)⟩,
  ⟨some 15, none, .ixA 24 1 (.t 14) (.t 11)⟩,
  ⟨some 16, none, .ld (.t 15)⟩,
  ⟨some 17, none, .mov (.t 0)⟩,
  ⟨some 18, none, .mov (.t 2)⟩,
  ⟨some 19, none, .mov (.t 1)⟩,
  ⟨some 20, none, .nilck (.t 17)⟩,
  ⟨some 21, none, .fld 577 (.t 20)⟩,
  ⟨some 22, none, .ixA 24 24 (.t 21) (.t 18)⟩,
  ⟨some 23, none, .ixA 24 1 (.t 22) (.t 19)⟩,
  ⟨some 24, none, .ld (.t 23)⟩,
  ⟨some 7, none, .mov (.t 16)⟩,
  ⟨some 8, none, .mov (.t 24)⟩]
def r137_2 : List O := [⟨some 26, none, .mov (.t 1)⟩,
  ⟨some 27, none, .mov (.t 2)⟩,
  ⟨some 28, none, .bin .eql (.t 26) (.t 27)⟩,
  ⟨some 29, none, .mov (.t 28)⟩,
  ⟨some 30, some (29, false), .mov (.t 7)⟩,
  ⟨some 31, some (29, false), .un .not (.t 30)⟩,
  ⟨some 32, some (29, false), .mov (.t 31)⟩,
  ⟨some 33, some (32, true), .mov (.t 8)⟩,
  ⟨some 34, some (32, true), .un .not (.t 33)⟩,
  ⟨some 35, some (29, false), .pick (.t 32) (.t 34) (.c (.b false))⟩,
  ⟨some 36, none, .pick (.t 29) (.c (.b true)) (.t 35)⟩,
  ⟨some 25, none, .mov (.t 36)⟩]
def r137_3 : List O := [⟨some 6, none, .mov (.c (.i .u8 0))⟩]
def r137_4 : List O := [⟨some 38, none, .mov (.t 7)⟩,
  ⟨some 39, none, .mov (.t 38)⟩,
  ⟨some 40, some (39, true), .mov (.t 8)⟩,
  ⟨some 41, none, .pick (.t 39) (.t 40) (.c (.b false))⟩,
  ⟨some 37, none, .mov (.t 41)⟩]
def r137_5 : List O := [⟨some 6, none, .mov (.c (.i .u8 3))⟩]
def r137_6 : List O := [⟨some 43, none, .mov (.t 7)⟩,
  ⟨some 42, none, .mov (.t 43)⟩]
def r137_7 : List O := [⟨some 6, none, .mov (.c (.i .u8 1))⟩]
def r137_8 : List O := [⟨some 6, none, .mov (.c (.i .u8 2))⟩]
def a137 : FI := ⟨44, [.tmp 6], .seq (.ops r137_0) (.seq (.draw r137_1 []) (.seq (.block 0 (.seq (.ops r137_2) (.cond (.t 25) (.seq (.ops r137_3) (.ret)) (.seq (.ops r137_4) (.cond (.t 37) (.seq (.ops r137_5) (.ret)) (.seq (.ops r137_6) (.cond (.t 42) (.seq (.ops r137_7) (.ret)) (.skip)))))))) (.seq (.ops r137_8) (.ret))))⟩
end Go.Air.Try
set_option maxRecDepth 100000
namespace Go.Air.Try
def tree : T FI := .n (.n (.n (.n (.n (.n (.n (.n .e none .e) none .e) (some a31) (.n .e none .e)) none (.n (.n .e (some a79) .e) none (.n .e (some a111) .e))) none (.n (.n (.n (.n .e none .e) none .e) (some a39) (.n .e none .e)) (some a23) (.n (.n .e (some a87) .e) none (.n .e (some a119) .e)))) none (.n (.n (.n (.n (.n .e (some a131) .e) (some a67) .e) none (.n .e none .e)) (some a19) (.n (.n .e none .e) none (.n .e none .e))) none (.n (.n (.n .e none .e) none (.n .e none .e)) none (.n (.n .e (some a91) .e) none (.n .e (some a123) .e))))) none (.n (.n (.n (.n (.n (.n .e (some a129) .e) (some a65) .e) none (.n .e (some a97) .e)) none (.n (.n .e (some a81) .e) (some a49) (.n .e none .e))) none (.n (.n (.n (.n .e (some a137) .e) none .e) none (.n .e none .e)) (some a25) (.n (.n .e (some a89) .e) none (.n .e (some a121) .e)))) none (.n (.n (.n (.n (.n .e (some a133) .e) (some a69) .e) (some a37) (.n .e none .e)) (some a21) (.n (.n .e none .e) (some a53) (.n .e (some a117) .e))) none (.n (.n (.n .e none .e) none (.n .e (some a109) .e)) none (.n (.n .e (some a93) .e) none (.n .e (some a125) .e)))))) none (.n (.n (.n (.n (.n (.n (.n .e (some a128) .e) none .e) (some a32) (.n .e none .e)) none (.n (.n .e (some a80) .e) none (.n .e (some a112) .e))) none (.n (.n (.n (.n .e (some a136) .e) none .e) none (.n .e none .e)) none (.n (.n .e (some a88) .e) none (.n .e (some a120) .e)))) none (.n (.n (.n (.n (.n .e (some a132) .e) (some a68) .e) none (.n .e (some a100) .e)) none (.n (.n .e (some a84) .e) none (.n .e none .e))) none (.n (.n (.n .e none .e) none (.n .e (some a108) .e)) (some a28) (.n (.n .e (some a92) .e) none (.n .e (some a124) .e))))) none (.n (.n (.n (.n (.n (.n .e (some a130) .e) (some a66) .e) none (.n .e none .e)) none (.n (.n .e none .e) none (.n .e none .e))) none (.n (.n (.n .e none .e) (some a42) (.n .e none .e)) (some a26) (.n (.n .e (some a90) .e) none (.n .e (some a122) .e)))) none (.n (.n (.n (.n (.n .e (some a134) .e) (some a70) .e) none (.n .e none .e)) (some a22) (.n (.n .e (some a86) .e) none (.n .e (some a118) .e))) none (.n (.n (.n .e (some a78) .e) none (.n .e (some a110) .e)) (some a30) (.n (.n .e none .e) none (.n .e none .e))))))
def tbl (k : Nat) : Option FI := tree.get k
end Go.Air.Try
