/-
 A part of the proof of: The row of BulletinViews and its tied card,out of the lifted form.
-/
import GoSem.Core.Code
import GoSem.Core.Halt
import GoSem.Core.Lib
set_option linter.unusedSectionVars false
set_option linter.unusedVariables false
set_option linter.unusedSimpArgs false
namespace Go.Air
inductive V where
 |b (x:Bool)
 |i (k:IntKind) (n:Int)
 |s (x:List Nat)
 |pn
 |p (blk off:Nat)
 |sn
 |sl (blk off len cap:Nat) (grown:Option Nat)
 |se (a:Addr)
 |mn
 |m (blk:Nat)
 |fnil
 |fn (f:Nat) (first caps:List V)
 |yld (l:Nat)
 |in0
 |ifc (t:Nat) (v:V)
 |agg (c:List V)
 |tup (c:List V)
 deriving Inhabited
def V.undef:V:=.tup []
def V.cells:V→List V
 |.agg c=>c
 |v=>[v]
def V.oneCell:V→Bool
 |.agg _|.tup _=>false
 |_=>true
inductive X where
 |t (n:Nat)
 |c (v:V)
 |f (n:Nat)
 deriving Inhabited
inductive KT where
 |b|i (k:IntKind)|s
 deriving DecidableEq,Inhabited
inductive EqK where
 |bool|ptr|slice|map|func|iface|agg (ks:List KT)
 deriving Inhabited
inductive KK where
 |sc (k:KT)
 |ag (ks:List KT)
 deriving Inhabited
inductive A where
 |mov (x:X)
 |pick (c a b:X)
 |alloc (z:List V)
 |box (x:X)
 |build (z:List V) (parts:List (Nat × Nat × X))
 |buildSl (z:List V) (len:Nat) (parts:List (Nat × Nat × X))
 |ld (x:X)
 |ldn (n:Nat) (x:X)
 |st (n:Nat) (x v:X)
 |nilck (x:X)
 |bin (op:BinOp) (x y:X)
 |eqv (neg:Bool) (k:EqK) (x y:X)
 |un (op:UnOp) (x:X)
 |conv (k:IntKind) (x:X)
 |mkI (t:Nat) (x:X)
 |mkFn (f:Nat) (first caps:List X)
 |mkMap
 |mkSl (z:List V) (bytes:Nat) (len cap:X)
 |slc (esz:Nat) (x:X) (lo hi mx:Option X)
 |slcA (len esz:Nat) (x:X) (lo hi:Option X)
 |slcS (x:X) (lo hi:Option X)
 |fld (off:Nat) (x:X)
 |fldv (off:Nat) (sz:Option Nat) (x:X)
 |ixS (esz:Nat) (x ix:X)
 |ixA (len esz:Nat) (x ix:X)
 |ixStr (x ix:X)
 |ixV (len esz:Nat) (isAgg:Bool) (x ix:X)
 |look (kk:KK) (zero:V) (ok:Bool) (x k:X)
 |mapSet (kk:KK) (x k v:X)
 |ext (x:X) (n:Nat)
 |call (f:X) (args:List X)
 |lenS (x:X)
 |lenL (x:X)
 |lenC (n:Nat)
 |lenM (x:X)
 |app (esz bytes:Nat) (s x:X)
 |cpy (esz:Nat) (d s:X)
 |clr (z:List V) (x:X)
 |min (xs:List X)
 |max (xs:List X)
 |panic (x:X)
 |tassert (t:Nat) (zero:V) (ok:Bool) (x:X)
 |s2b (x:X)
 |b2s (x:X)
 |mark (x:X)
 |no
 deriving Inhabited
structure O where
 dst:Option Nat
 g:Option (Nat × Bool)
 op:A
 deriving Inhabited
inductive C where
 |skip
 |ops (l:List O)
 |draw (l:List O) (crit:List (Nat × Nat))
 |seq (a b:C)
 |cond (c:X) (a b:C)
 |block (id:Nat) (c:C)
 |loop (c:C)
 |exit (id:Nat)
 |ret
 |rangeF (f:X) (params:List Nat) (asg body:C)
 |prim (n:Nat)
 deriving Inhabited
inductive LState where
 |ready|busy|done|over
 deriving DecidableEq,Inhabited
inductive Out where
 |norm
 |exit (id:Nat)
 |ret
 |pan (v:V)
 deriving Inhabited
def zqg:Option Out→Bool
 |some (.pan _)=>true
 |_=>false
structure Loop where
 state:LState
 pending:Option Out
 tmps:List V
 params:List Nat
 asg:C
 body:C
 deriving Inhabited
inductive Blk where
 |cells (c:List V)
 |ro (c:List (Option V))
 |map (es:List (V × V))
 |loop (l:Loop)
 deriving Inhabited
inductive T (α:Type) where
 |e
 |n (l:T α) (x:Option α) (r:T α)
namespace T
variable {α:Type}
def get:T α→Nat→Option α
 |.e,_=>none
 |.n l x r,k=>match k with
  |0=>x
  |k+1=>match k%2 with
   |0=>l.get (k/2)
   |_=>r.get (k/2)
def setF:Nat→T α→Nat→Option α→T α
 |0,t,_,_=>t
 |_+1,.e,0,v=>.n .e v .e
 |_+1,.n l _ r,0,v=>.n l v r
 |f+1,.e,k+1,v=>match k%2 with
  |0=>.n (setF f .e (k/2) v) none .e
  |_=>.n .e none (setF f .e (k/2) v)
 |f+1,.n l x r,k+1,v=>match k%2 with
  |0=>.n (setF f l (k/2) v) x r
  |_=>.n l x (setF f r (k/2) v)
def set (t:T α) (k:Nat) (v:Option α):T α:=setF (k+1) t k v
end T
structure H where
 next:Nat
 mem:T Blk
 log:List Nat
def H.get (h:H) (b:Nat):Option Blk:=h.mem.get b
def H.new (h:H) (x:Blk):H:=⟨h.next+1,h.mem.set h.next (some x),h.log⟩
def H.put (h:H) (b:Nat) (x:Blk):H:=⟨h.next,h.mem.set b (some x),b::h.log⟩
def H.kill (h:H) (b:Nat):H:=⟨h.next,h.mem.set b none,b::h.log⟩
def H.empty:H:=⟨0,.e,[]⟩
def nth:List V→Nat→V
 |[],_=>.undef
 |x::_,0=>x
 |_::l,n+1=>nth l n
def nth? : List V→Nat→Option V
 |[],_=>none
 |x::_,0=>some x
 |_::l,n+1=>nth? l n
def upd:List V→Nat→V→List V
 |[],_,_=>[]
 |_::l,0,v=>v::l
 |x::l,n+1,v=>x::upd l n v
def cut:List V→(o n:Nat)→Option (List V)
 |_,0,0=>some []
 |[],_,_=>none
 |x::l,0,n+1=>(cut l 0 n).map (x :: ·)
 |_::l,o+1,n=>cut l o n
def lay:List V→(o:Nat)→List V→Option (List V)
 |l,0,[]=>some l
 |[],_,_=>none
 |_::l,0,v::vs=>(lay l 0 vs).map (v :: ·)
 |x::l,o+1,vs=>(lay l o vs).map (x :: ·)
def nthO:List (Option V)→Nat→Option V
 |[],_=>none
 |x::_,0=>x
 |_::l,n+1=>nthO l n
def cutO:List (Option V)→(o n:Nat)→Option (List V)
 |_,0,0=>some []
 |[],_,_=>none
 |x::l,0,n+1=>match x with
  |some v=>(cutO l 0 n).map (v :: ·)
  |none=>none
 |_::l,o+1,n=>cutO l o n
def Blk.rd1:Blk→Nat→Option V
 |.cells c,o=>nth? c o
 |.ro c,o=>nthO c o
 |_,_=>none
def Blk.rd:Blk→(o n:Nat)→Option (List V)
 |.cells c,o,n=>cut c o n
 |.ro c,o,n=>cutO c o n
 |_,_,_=>none
def rep (z:List V):Nat→List V
 |0=>[]
 |n+1=>z++rep z n
def X.ev (t:List V):X→V
 |.t n=>nth t n
 |.c v=>v
 |.f n=>.fn n [] []
def bytesLess:List Nat→List Nat→Bool
 |_,[]=>false
 |[],_::_=>true
 |a::x,b::y=>Nat.blt a b||(Nat.beq a b&&bytesLess x y)
def zbD:List Nat→List Nat→Bool
 |[],[]=>true
 |a::x,b::y=>Nat.beq a b&&zbD x y
 |_,_=>false
def ziW (k:IntKind) (f:BitVec k.bits→BitVec k.bits→BitVec k.bits) (x y:Int):V:=
 .i k (k.wrap (f (BitVec.ofInt k.bits x) (BitVec.ofInt k.bits y)).toNat)
def binI (op:BinOp) (k:IntKind) (a b:Int):Option V:=
 match op with
 |.add=>some (.i k (k.wrap (a+b)))
 |.sub=>some (.i k (k.wrap (a-b)))
 |.mul=>some (.i k (k.wrap (a*b)))
 |.quo=>if b=0 then none else some (.i k (k.wrap (a.tdiv b)))
 |.rem=>if b=0 then none else some (.i k (a.tmod b))
 |.and=>some (ziW k (fun x y=>x &&& y) a b)
 |.or=>some (ziW k (fun x y=>x ||| y) a b)
 |.xor=>some (ziW k (fun x y=>x ^^^ y) a b)
 |.andNot=>some (ziW k (fun x y=>x &&& ~~~y) a b)
 |.eql=>some (.b (decide (a=b)))
 |.neq=>some (.b (!decide (a=b)))
 |.lss=>some (.b (decide (a<b)))
 |.leq=>some (.b (decide (a≤b)))
 |.gtr=>some (.b (decide (b<a)))
 |.geq=>some (.b (decide (b≤a)))
 |_=>none
def shI (op:BinOp) (k:IntKind) (a b:Int):Option V:=
 if b<0 then none else
 match op with
 |.shl=>some (.i k (k.wrap (a*2^(min b.toNat k.bits))))
 |.shr=>some (.i k (a.fdiv (2^(min b.toNat k.bits))))
 |_=>none
def binS (op:BinOp) (x y:List Nat):Option V:=
 match op with
 |.add=>if Nat.ble (x.length+y.length) 9223372036854775807 then some (.s (x++y)) else none
 |.eql=>some (.b (zbD x y))
 |.neq=>some (.b (!zbD x y))
 |.lss=>some (.b (bytesLess x y))
 |.leq=>some (.b (bytesLess x y||zbD x y))
 |.gtr=>some (.b (!(bytesLess x y||zbD x y)))
 |.geq=>some (.b (!bytesLess x y))
 |_=>none
def binV (op:BinOp):V→V→Option V
 |.i k a,.i k' b=>
  match op with
  |.shl|.shr=>shI op k a b
  |_=>if k=k' then binI op k a b else none
 |.s x,.s y=>binS op x y
 |_,_=>none
def KT.fits:KT→V→Bool
 |.b,.b _=>true
 |.i k,.i k' _=>decide (k=k')
 |.s,.s _=>true
 |_,_=>false
def fitL:List KT→List V→Bool
 |[],[]=>true
 |k::ks,x::xs=>k.fits x&&fitL ks xs
 |_,_=>false
def KK.fits:KK→V→Bool
 |.sc k,v=>k.fits v
 |.ag ks,.agg c=>fitL ks c
 |_,_=>false
def zbm:V→V→Bool
 |.b x,.b y=>x==y
 |.i _ a,.i _ b=>decide (a=b)
 |.s x,.s y=>zbD x y
 |_,_=>false
def zaF:List V→List V→Bool
 |[],[]=>true
 |x::xs,y::ys=>zbm x y&&zaF xs ys
 |_,_=>false
def eqV:EqK→V→V→Option Bool
 |.bool,.b x,.b y=>some (x==y)
 |.ptr,.pn,.pn=>some true
 |.ptr,.pn,.p _ _|.ptr,.p _ _,.pn=>some false
 |.slice,.sn,.sn=>some true
 |.slice,.sn,.sl ..|.slice,.sl ..,.sn=>some false
 |.slice,.sn,.se _|.slice,.se _,.sn=>some false
 |.map,.mn,.mn=>some true
 |.map,.mn,.m _|.map,.m _,.mn=>some false
 |.func,.fnil,.fnil=>some true
 |.func,.fnil,.fn ..|.func,.fn ..,.fnil=>some false
 |.func,.fnil,.yld _|.func,.yld _,.fnil=>some false
 |.iface,.in0,.in0=>some true
 |.iface,.in0,.ifc ..|.iface,.ifc ..,.in0=>some false
 |.agg ks,.agg x,.agg y=>if fitL ks x&&fitL ks y then some (zaF x y) else none
 |_,_,_=>none
def unV (op:UnOp):V→Option V
 |.i k n=>match op with
  |.neg=>some (.i k (k.wrap (0-n)))
  |.xor=>some (ziW k (fun x y=>x ^^^ y) (if k.signed then -1 else k.max) n)
  |_=>none
 |.b x=>match op with
  |.not=>some (.b !x)
  |_=>none
 |_=>none
def fill (t:List V) (z:List V):List (Nat × Nat × X)→Option (List V)
 |[]=>some z
 |(off,sz,x)::rest=>
  let v:=(x.ev t).cells
  if Nat.beq v.length sz then
   match lay z off v with
   |some z'=>fill t z' rest
   |none=>none
  else none
def zbg:V→Option Nat
 |.i _ (.ofNat n)=>some n
 |_=>none
def zhk:V→V→Bool
 |.agg x,.agg y=>zaF x y
 |x,y=>zbm x y
def find (kk:KK) (k:V):List (V × V)→Option (Option V)
 |[]=>some none
 |e::es=>if kk.fits e.1 then (if zhk k e.1 then some (some e.2) else find kk k es) else none
def mput (kk:KK) (k v:V):List (V × V)→Option (List (V × V))
 |[]=>some [(k,v)]
 |e::es=>if kk.fits e.1 then (if zhk k e.1 then some ((e.1,v)::es) else (mput kk k v es).map (e :: ·)) else none
inductive RO where
 |fail
 |ok (v:V) (h:H)
 |pan (v:V) (h:H)
 deriving Inhabited
inductive RL where
 |fail
 |ok (t:List V) (h:H)
 |pan (v:V) (t:List V) (h:H)
 deriving Inhabited
inductive RC where
 |fail
 |ok (o:Out) (t:List V) (h:H)
 deriving Inhabited
def RO.ofV (h:H):Option V→RO
 |some v=>.ok v h
 |none=>.fail
def zbr (t:List V) (len cap:Nat) (lo hi:Option X):Option (Nat × Nat):=
 match (match hi with
  |none=>some len
  |some x=>zbg (x.ev t)) with
 |none=>none
 |some b=>
  if Nat.ble b cap then
   match (match lo with
    |none=>some 0
    |some x=>zbg (x.ev t)) with
   |none=>none
   |some a=>if Nat.ble a b then some (a,b) else none
  else none
def zck (esz:Nat) (t:List V) (lo hi:Option X):V→Option V
 |.sn=>match zbr t 0 0 lo hi with
  |some _=>some .sn
  |none=>none
 |.se a=>match zbr t 0 0 lo hi with
  |some _=>some (.se a)
  |none=>none
 |.sl blk off len cap g=>
  match zbr t len cap lo hi with
  |none=>none
  |some (a,b)=>
   match g with
   |none=>some (.sl blk (if Nat.beq a cap then off else off+a*esz) (b-a) (cap-a) none)
   |some e=>if Nat.blt a cap&&Nat.beq e esz then some (.sl blk (off+a*esz) (b-a) (cap-a) (some e)) else none
 |_=>none
def zfV (esz:Nat) (t:List V) (lo hi:Option X) (mx:X):V→Option V
 |.sl blk off _ cap _=>
  match zbg (mx.ev t),hi with
  |some m,some _=>
   if Nat.ble m cap then
    match zbr t m m lo hi with
    |none=>none
    |some (a,b)=>some (.sl blk (if Nat.beq a m then off else off+a*esz) (b-a) (m-a) none)
   else none
  |_,_=>none
 |.se a=>
  match zbg (mx.ev t),hi with
  |some m,some _=>
   if Nat.beq m 0 then
    match zbr t 0 0 lo hi with
    |none=>none
    |some _=>some (.se a)
   else none
  |_,_=>none
 |_=>none
def zat (esz n:Nat) (h:H):V→Option (List V)
 |.sn=>if Nat.beq n 0 then some [] else none
 |.se _=>if Nat.beq n 0 then some [] else none
 |.sl blk off _ _ _=>match h.get blk with
  |some bl=>bl.rd off (n*esz)
  |none=>none
 |.s x=>if Nat.beq esz 1 then (cut (x.map fun c=>.i .u8 (.ofNat c)) 0 (x.length)).bind fun l=>cut l 0 n else none
 |_=>none
def zaT:V→Option Nat
 |.sn=>some 0
 |.se _=>some 0
 |.sl _ _ len _ _=>some len
 |.s x=>some x.length
 |_=>none
def storeAt (h:H) (blk off:Nat) (vs:List V):Option H:=
 match h.get blk with
 |some (.cells cs)=>match lay cs off vs with
  |some cs'=>if vs.all V.oneCell then some (h.put blk (.cells cs')) else none
  |none=>none
 |_=>none
def zaX (esz bytes:Nat) (h:H) (s x:V):RO:=
 match zaT x with
 |none=>.fail
 |some n=>
  match zat esz n h x with
  |none=>.fail
  |some new=>
   if Nat.ble ((2*n+200)*bytes) 281474976710656&&Nat.blt 0 bytes&&Nat.blt 0 esz then
   match s with
   |.sn=>if Nat.beq n 0 then .ok .sn h else .ok (.sl h.next 0 n n (some esz)) (h.new (.cells new))
   |.se a=>if Nat.beq n 0 then .ok (.se a) h else .ok (.sl h.next 0 n n (some esz)) (h.new (.cells new))
   |.sl blk off len cap g=>
    if Nat.ble (len+n) cap then
     match storeAt h blk (off+len*esz) new with
     |some h'=>.ok (.sl blk off (len+n) cap g) h'
     |none=>.fail
    else if Nat.ble ((2*(len+n)+200)*bytes) 281474976710656 then
     match g with
     |none=>
      match h.get blk with
      |some bl=>
       match bl.rd off (len*esz) with
       |none=>.fail
       |some old=>.ok (.sl h.next 0 (len+n) (len+n) (some esz)) (h.new (.cells (old++new)))
      |none=>.fail
     |some e=>
      match h.get blk with
      |some (.cells cs)=>
       match cut cs off (len*esz) with
       |none=>.fail
       |some old=>
        if Nat.beq e esz&&Nat.beq off 0&&Nat.beq cs.length (cap*esz)&&new.all V.oneCell then
         .ok (.sl h.next 0 (len+n) (len+n) (some esz)) ((h.kill blk).new (.cells (old++new)))
        else .fail
      |_=>.fail
    else .fail
   |_=>.fail
   else .fail
def zlT (esz:Nat) (h:H) (d s:V):RO:=
 match zaT s with
 |none=>.fail
 |some m=>
  match d with
  |.sn=>.ok (.i .i64 0) h
  |.sl blk off len _ _=>
   match zat esz (Nat.min m len) h s with
   |none=>.fail
   |some l=>match storeAt h blk off l with
    |some h'=>.ok (.i .i64 (.ofNat (Nat.min m len))) h'
    |none=>.fail
  |_=>.fail
def zmc:V→Option Nat
 |.i .u8 n=>if Nat.blt n.toNat 256 then some n.toNat else none
 |_=>none
def zeV:List V→Option (List Nat)
 |[]=>some []
 |x::l=>match zmc x,zeV l with
  |some c,some r=>some (c::r)
  |_,_=>none
def zmj (h:H) (v:V):Option V:=
 match v with
 |.s _=>none
 |_=>match zaT v with
  |none=>none
  |some n=>match zat 1 n h v with
   |none=>none
   |some cs=>(zeV cs).map .s
def mmI (g:Bool) (x y:V):Option V:=
 match x,y with
 |.i k a,.i _ b=>some (.i k (if g then (if a<b then b else a) else (if b<a then b else a)))
 |_,_=>none
def minI (g:Bool) (x:V):List V→Option V
 |[]=>some x
 |y::l=>match mmI g x y with
  |some z=>minI g z l
  |none=>none
def minL (g:Bool):List V→Option V
 |[]=>none
 |x::l=>minI g x l
def evA (call:V→List V→H→RO) (op:A) (t:List V) (h:H):RO:=
 match op with
 |.mov x=>.ok (x.ev t) h
 |.pick c a b=>match c.ev t with
  |.b true=>.ok (a.ev t) h
  |.b false=>.ok (b.ev t) h
  |_=>.fail
 |.alloc z=>.ok (.p h.next 0) (h.new (.cells z))
 |.box x=>.ok (.p h.next 0) (h.new (.cells (x.ev t).cells))
 |.build z parts=>match fill t z parts with
  |some c=>.ok (.agg c) h
  |none=>.fail
 |.buildSl z len parts=>match fill t z parts with
  |some c=>.ok (.sl h.next 0 len len none) (h.new (.cells c))
  |none=>.fail
 |.ld x=>match x.ev t with
  |.p b o=>match h.get b with
   |some bl=>RO.ofV h (bl.rd1 o)
   |none=>.fail
  |_=>.fail
 |.ldn n x=>match x.ev t with
  |.p b o=>match h.get b with
   |some bl=>match bl.rd o n with
    |some l=>.ok (.agg l) h
    |none=>.fail
   |none=>.fail
  |_=>.fail
 |.st n x v=>match x.ev t with
  |.p b o=>
   if Nat.beq (v.ev t).cells.length n then
    match storeAt h b o (v.ev t).cells with
    |some h'=>.ok .undef h'
    |none=>.fail
   else .fail
  |_=>.fail
 |.nilck x=>match x.ev t with
  |.p b o=>.ok (.p b o) h
  |.fn f a c=>.ok (.fn f a c) h
  |.yld l=>.ok (.yld l) h
  |_=>.fail
 |.bin op x y=>RO.ofV h (binV op (x.ev t) (y.ev t))
 |.eqv neg k x y=>match eqV k (x.ev t) (y.ev t) with
  |some r=>.ok (.b (if neg then !r else r)) h
  |none=>.fail
 |.un op x=>RO.ofV h (unV op (x.ev t))
 |.conv k x=>match x.ev t with
  |.i _ n=>.ok (.i k (k.wrap n)) h
  |_=>.fail
 |.mkI ty x=>.ok (.ifc ty (x.ev t)) h
 |.mkFn f a c=>.ok (.fn f (a.map (X.ev t)) (c.map (X.ev t))) h
 |.mkMap=>.ok (.m h.next) (h.new (.map []))
 |.mkSl z bytes l c=>match zbg (l.ev t),zbg (c.ev t) with
  |some l,some c=>
   if Nat.ble l c&&Nat.ble c 281474976710656&&Nat.ble (bytes*c) 281474976710656 then
    .ok (.sl h.next 0 l c none) (h.new (.cells (rep z c)))
   else .fail
  |_,_=>.fail
 |.slc esz x lo hi mx=>match mx with
  |none=>RO.ofV h (zck esz t lo hi (x.ev t))
  |some m=>RO.ofV h (zfV esz t lo hi m (x.ev t))
 |.slcA len esz x lo hi=>match x.ev t with
  |.p b o=>match zbr t len len lo hi with
   |some (l,r)=>.ok (.sl b (if Nat.beq l len then o else o+l*esz) (r-l) (len-l) none) h
   |none=>.fail
  |_=>.fail
 |.slcS x lo hi=>match x.ev t with
  |.s x=>match zbr t x.length x.length lo hi with
   |some (l,r)=>.ok (.s ((x.drop l).take (r-l))) h
   |none=>.fail
  |_=>.fail
 |.fld off x=>match x.ev t with
  |.p b o=>.ok (.p b (o+off)) h
  |_=>.fail
 |.fldv off sz x=>match x.ev t with
  |.agg c=>match sz with
   |none=>RO.ofV h (nth? c off)
   |some n=>match cut c off n with
    |some l=>.ok (.agg l) h
    |none=>.fail
  |_=>.fail
 |.ixS esz x ix=>match x.ev t,zbg (ix.ev t) with
  |.sl b o len _ _,some n=>if Nat.blt n len then .ok (.p b (o+n*esz)) h else .fail
  |_,_=>.fail
 |.ixA len esz x ix=>match x.ev t,zbg (ix.ev t) with
  |.p b o,some n=>if Nat.blt n len then .ok (.p b (o+n*esz)) h else .fail
  |_,_=>.fail
 |.ixStr x ix=>match x.ev t,zbg (ix.ev t) with
  |.s x,some n=>match x[n]? with
   |some c=>.ok (.i .u8 (.ofNat c)) h
   |none=>.fail
  |_,_=>.fail
 |.ixV len esz isAgg x ix=>match x.ev t,zbg (ix.ev t) with
  |.agg c,some n=>
   if Nat.blt n len then
    (if isAgg then match cut c (n*esz) esz with
      |some l=>.ok (.agg l) h
      |none=>.fail
    else RO.ofV h (nth? c (n*esz)))
   else .fail
  |_,_=>.fail
 |.look kk zero ok x k=>
  let key:=k.ev t
  if kk.fits key then
   match (match x.ev t with
    |.mn=>some none
    |.m b=>match h.get b with
     |some (.map es)=>find kk key es
     |_=>none
    |_=>none) with
   |none=>.fail
   |some r=>
    let v:=r.getD zero
    .ok (if ok then .tup [v,.b r.isSome] else v) h
  else .fail
 |.mapSet kk x k v=>match x.ev t with
  |.m b=>match h.get b with
   |some (.map es)=>
    if kk.fits (k.ev t) then
     match mput kk (k.ev t) (v.ev t) es with
     |some es'=>.ok .undef (h.put b (.map es'))
     |none=>.fail
    else .fail
   |_=>.fail
  |_=>.fail
 |.ext x n=>match x.ev t with
  |.tup c=>RO.ofV h (nth? c n)
  |_=>.fail
 |.call f args=>call (f.ev t) (args.map (X.ev t)) h
 |.lenS x=>match x.ev t with
  |.s x=>.ok (.i .i64 (.ofNat x.length)) h
  |_=>.fail
 |.lenL x=>match x.ev t with
  |.sn=>.ok (.i .i64 0) h
  |.se _=>.ok (.i .i64 0) h
  |.sl _ _ n _ _=>.ok (.i .i64 (.ofNat n)) h
  |_=>.fail
 |.lenC n=>.ok (.i .i64 (.ofNat n)) h
 |.lenM x=>match x.ev t with
  |.mn=>.ok (.i .i64 0) h
  |.m b=>match h.get b with
   |some (.map es)=>.ok (.i .i64 (.ofNat es.length)) h
   |_=>.fail
  |_=>.fail
 |.app esz bytes s x=>zaX esz bytes h (s.ev t) (x.ev t)
 |.cpy esz d s=>zlT esz h (d.ev t) (s.ev t)
 |.clr z x=>match x.ev t with
  |.sn=>.ok .undef h
  |.sl b o n _ _=>if Nat.beq n 0 then .ok .undef h else match storeAt h b o (rep z n) with
   |some h'=>.ok .undef h'
   |none=>.fail
  |_=>.fail
 |.min xs=>RO.ofV h (minL false (xs.map (X.ev t)))
 |.max xs=>RO.ofV h (minL true (xs.map (X.ev t)))
 |.panic x=>match x.ev t with
  |.ifc ty v=>.pan (.ifc ty v) h
  |_=>.fail
 |.tassert ty zero ok x=>match x.ev t with
  |.in0=>if ok then .ok (.tup [zero,.b false]) h else .fail
  |.ifc ty' v=>if Nat.beq ty' ty then .ok (if ok then .tup [v,.b true] else v) h else (if ok then .ok (.tup [zero,.b false]) h else .fail)
  |_=>.fail
 |.s2b x=>match x.ev t with
  |.s l=>.ok (.sl h.next 0 l.length l.length (some 1)) (h.new (.cells (l.map fun c=>.i .u8 (.ofNat c))))
  |_=>.fail
 |.b2s x=>RO.ofV h (zmj h (x.ev t))
 |.mark x=>match x.ev t with
  |.sl b o l c g=>match h.get b with
   |some (.cells cs)=>.ok (.sl b o l c g) (h.put b (.cells cs))
   |_=>.fail
  |_=>.fail
 |.no=>.fail
def zcp (g:Option (Nat × Bool)) (t:List V):Bool:=
 match g with
 |none=>true
 |some (n,w)=>match nth t n with
  |.b x=>x==w
  |_=>false
def putD (t:List V) (d:Option Nat) (v:V):List V:=
 match d with
 |none=>t
 |some n=>upd t n v
def zaQ (call:V→List V→H→RO):List O→List V→H→RL
 |[],t,h=>.ok t h
 |o::l,t,h=>
  match zcp o.g t with
  |true=>match evA call o.op t h with
   |.ok v h'=>zaQ call l (putD t o.dst v) h'
   |.pan v h'=>.pan v t h'
   |.fail=>.fail
  |false=>zaQ call l (putD t o.dst .undef) h
structure Foot where
 rd:Option (List Nat)
 wr:List Nat
def zaU:V→List Nat
 |.p b _=>[b]
 |.m b=>[b]
 |.sl b _ _ _ _=>[b]
 |_=>[]
def reads (op:A) (t:List V):Option (List Nat):=
 match op with
 |.ld x|.ldn _ x|.st _ x _|.look _ _ _ x _|.mapSet _ x _ _|.lenM x|.b2s x|.mark x=>some (zaU (x.ev t))
 |.call ..|.app ..|.cpy ..|.clr ..=>none
 |_=>some []
def zaD (n:Nat):List Nat→List Nat
 |[]=>[]
 |x::l=>if Nat.blt x n then x::zaD n l else zaD n l
def zfM (a b:Foot):Bool:=
 (match b.rd with
   |none=>a.wr.isEmpty
   |some r=>a.wr.all fun x => !r.contains x) &&
 (match a.rd with
   |none=>b.wr.isEmpty
   |some r=>b.wr.all fun x => !r.contains x) &&
 a.wr.all fun x => !b.wr.contains x
inductive RD where
 |fail
 |ok (t:List V) (h:H) (f:List Foot)
def zbu (call:V→List V→H→RO):List O→List V→H→List Foot→RD
 |[],t,h,f=>.ok t h f
 |o::l,t,h,f=>
  match zcp o.g t with
  |true=>match evA call o.op t ⟨h.next,h.mem,[]⟩ with
   |.ok v h'=>zbu call l (putD t o.dst v) ⟨h'.next,h'.mem,zaD h.next h'.log++h.log⟩ (f++[⟨reads o.op t,zaD h.next h'.log⟩])
   |_=>.fail
  |false=>zbu call l (putD t o.dst .undef) h (f++[⟨some [],[]⟩])
def zbX (f:List Foot) (crit:List (Nat × Nat)):Bool:=
 crit.all fun (i,j)=>match f[i]?,f[j]? with
  |some a,some b=>zfM a b
  |_,_=>false
inductive ResV where
 |tmp (t:Nat)
 |cell (t:Nat) (n:Option Nat)
 |only (v:V)
 deriving Inhabited
structure FI where
 ntmps:Nat
 res:List ResV
 body:C
 dfr:Option (C × X):=none
 rcv:Option Nat:=none
 deriving Inhabited
abbrev zrn:=Nat→List V→H→Option (V × Option Blk)
structure Tb where
 fi:Nat→Option FI
 pr:zrn
 ext:Nat→Bool
instance:CoeFun Tb fun _=>Nat→Option FI:=⟨Tb.fi⟩
def H.newO (h:H):Option Blk→H
 |none=>h
 |some x=>h.new x
def zdY (t:List V) (h:H):ResV→Option V
 |.tmp n=>some (nth t n)
 |.only v=>match t with
  |[]=>some v
  |_=>none
 |.cell n sz=>match nth t n with
  |.p b o=>match h.get b with
   |some (.cells cs)=>match sz with
    |none=>nth? cs o
    |some k=>(cut cs o k).map .agg
   |_=>none
  |_=>none
def zao (t:List V) (h:H):List ResV→Option (List V)
 |[]=>some []
 |r::l=>match zdY t h r with
  |some v=>(zao t h l).map (v :: ·)
  |none=>none
def zgM:List V→V
 |[v]=>v
 |l=>.tup l
def zdH:List V→List Nat→List V→List V
 |t,p::ps,v::vs=>zdH (upd t p v) ps vs
 |t,_,_=>t
def pad (l:List V) (n:Nat):List V:=l++List.replicate (n-l.length) .undef
def zdO (fi:FI) (t:List V) (h:H):RO:=match zao t h fi.res with
 |some l=>.ok (zgM l) h
 |none=>.fail
def zdR (tbl:Tb) (r:C→List V→H→RC) (f:V) (v:V) (h:H):Option H:=
 match f with
 |.fn g [] caps=>
  match tbl g with
  |none=>none
  |some fi=>
   match fi.rcv with
   |none=>none
   |some n=>
    match r fi.body (upd (pad caps fi.ntmps) n v) h with
    |.fail=>none
    |.ok o _ h'=>
     match o with
     |.norm=>some h'
     |.ret=>some h'
     |_=>none
 |_=>none
def zaS (tbl:Tb) (r:C→List V→H→RC) (f:V) (args:List V) (h:H):RO:=
 match f with
 |.fn g first caps=>
  match tbl g with
  |none=>.fail
  |some fi=>
   match fi.rcv with
   |some _=>.fail
   |none=>
   match fi.dfr with
   |none=>
    match r fi.body (pad (first++args++caps) fi.ntmps) h with
    |.fail=>.fail
    |.ok o t h'=>
     match o with
     |.exit _=>.fail
     |.pan v=>.pan v h'
     |.norm=>zdO fi t h'
     |.ret=>zdO fi t h'
   |some (pre,x)=>
    match r pre (pad (first++args++caps) fi.ntmps) h with
    |.fail=>.fail
    |.ok o0 t0 h0=>
     match o0 with
     |.norm=>
      match r fi.body t0 h0 with
      |.fail=>.fail
      |.ok o t h'=>
       match (match o with
        |.exit _=>none
        |.pan v=>zdR tbl r (x.ev t0) v h'
        |.norm=>zdR tbl r (x.ev t0) .in0 h'
        |.ret=>zdR tbl r (x.ev t0) .in0 h') with
       |none=>.fail
       |some h2=>zdO fi t h2
     |_=>.fail
 |.yld l=>
  match h.get l with
  |some (.loop lp)=>
   if Nat.beq args.length lp.params.length then
    match r lp.asg (zdH lp.tmps lp.params args) h with
    |.ok .norm t h1=>
     match h1.get l with
     |some (.loop lp1)=>
      if lp1.state=.ready then
       match r lp.body t (h1.put l (.loop { lp1 with state:=.busy })) with
       |.ok o _ h2=>
        match h2.get l with
        |some (.loop lp2)=>
         if lp2.state=.busy then
          match o with
          |.norm=>.ok (.b true) (h2.put l (.loop { lp2 with state:=.ready,pending:=none }))
          |.exit i=>.ok (.b false) (h2.put l (.loop { lp2 with state:=.done,pending:=some (.exit i) }))
          |.ret=>.ok (.b false) (h2.put l (.loop { lp2 with state:=.done,pending:=some .ret }))
          |.pan _=>.fail
         else .fail
        |_=>.fail
       |.fail=>.fail
      else .fail
     |_=>.fail
    |_=>.fail
   else .fail
  |_=>.fail
 |_=>.fail
def zaP (tbl:Tb) (r:C→List V→H→RC) (c:C) (t:List V) (h:H):RC:=
 match c with
 |.skip=>.ok .norm t h
 |.ops l=>match zaQ (zaS tbl r) l t h with
  |.ok t' h'=>.ok .norm t' h'
  |.pan v t' h'=>.ok (.pan v) t' h'
  |.fail=>.fail
 |.draw l crit=>match zbu (zaS tbl r) l t h [] with
  |.ok t' h' f=>if zbX f crit then .ok .norm t' h' else .fail
  |.fail=>.fail
 |.seq a b=>match r a t h with
  |.ok .norm t' h'=>r b t' h'
  |x=>x
 |.cond x a b=>match x.ev t with
  |.b true=>r a t h
  |.b false=>r b t h
  |_=>.fail
 |.block id a=>match r a t h with
  |.ok (.exit i) t' h'=>if Nat.beq i id then .ok .norm t' h' else .ok (.exit i) t' h'
  |x=>x
 |.loop a=>match r a t h with
  |.ok .norm t' h'=>r (.loop a) t' h'
  |x=>x
 |.exit id=>.ok (.exit id) t h
 |.ret=>.ok .ret t h
 |.rangeF f ps asg body=>
  match f.ev t with
  |.fn g a c=>
   if tbl.ext g then .fail else
   match zaS tbl r (.fn g a c) [.yld h.next] (h.new (.loop ⟨.ready,none,t,ps,asg,body⟩)) with
   |.fail=>.fail
   |.pan _ _=>.fail
   |.ok _ h'=>
    match h'.get h.next with
    |some (.loop lp)=>
     if lp.state=.busy then .fail
     else if zqg lp.pending then .fail
     else .ok (lp.pending.getD .norm) t (h'.put h.next (.loop { lp with state:=.over }))
    |_=>.fail
  |_=>.fail
 |.prim n=>match tbl.pr n t h with
  |some (v,b)=>.ok .ret [v] (h.newO b)
  |none=>.fail
def E (tbl:Tb):Nat→C→List V→H→RC
 |0=>fun _ _ _=>.fail
 |k+1=>zaP tbl (E tbl k)
def zbO:Nat:=3
def zgE:Nat:=1
def zgJ:Nat:=2
def fixB:List Nat:=[zbO,zgE,zgJ]
def zcV:Nat:=max zbO (max zgE zgJ)+1
def zfY:Nat:=239
def errT:Nat:=115
def zlK:Nat:=401
def esT:Nat:=403
def strT:Nat:=9
def sigT:Nat:=113
def zaY (m n:Nat):FI:=⟨m,[.tmp 0],.prim n,none,none⟩
def run (tbl:Tb) (k:Nat) (f:Nat) (args:List V) (h:H):RO:=zaS tbl (E tbl k) (.fn f [] []) args h
end Go.Air
set_option maxRecDepth 100000
namespace Go.Air.Try
abbrev QF (d g:Nat) (a:A):O:=⟨some d,some (g,false),a⟩
abbrev QFa (d g:Nat) (s i:Nat):O:=⟨some d,some (g,false),.pick (.t s) (.t i) (.c (.b false))⟩
abbrev QFb (d g:Nat) (p:BinOp) (s i:Nat):O:=⟨some d,some (g,false),.bin p (.t s) (.t i)⟩
abbrev QFc (d g:Nat) (p:BinOp) (s:Nat) (x:V):O:=⟨some d,some (g,false),.bin p (.t s) (.c x)⟩
abbrev QFd (d g:Nat) (k s:Nat):O:=⟨some d,some (g,false),.ldn k (.t s)⟩
abbrev QFf (d g:Nat) (k s:Nat):O:=⟨some d,some (g,false),.fld k (.t s)⟩
abbrev QFg (d g:Nat) (k:Nat) (l:List X):O:=⟨some d,some (g,false),.call (.f k) l⟩
abbrev QFi (d g:Nat) (s:Nat):O:=⟨some d,some (g,false),.nilck (.t s)⟩
abbrev QFl (d g:Nat) (s:Nat):O:=⟨some d,some (g,false),.ld (.t s)⟩
abbrev QFn (d g:Nat) (s:Nat):O:=⟨some d,some (g,false),.lenL (.t s)⟩
abbrev QFv (d g:Nat) (s:Nat):O:=⟨some d,some (g,false),.mov (.t s)⟩
abbrev QFx (d g:Nat) (k s i:Nat):O:=⟨some d,some (g,false),.ixS k (.t s) (.t i)⟩
abbrev QT (d g:Nat) (a:A):O:=⟨some d,some (g,true),a⟩
abbrev QTb (d g:Nat) (p:BinOp) (s i:Nat):O:=⟨some d,some (g,true),.bin p (.t s) (.t i)⟩
abbrev QTc (d g:Nat) (p:BinOp) (s:Nat) (x:V):O:=⟨some d,some (g,true),.bin p (.t s) (.c x)⟩
abbrev QTd (d g:Nat) (k s:Nat):O:=⟨some d,some (g,true),.ldn k (.t s)⟩
abbrev QTf (d g:Nat) (k s:Nat):O:=⟨some d,some (g,true),.fld k (.t s)⟩
abbrev QTg (d g:Nat) (k:Nat) (l:List X):O:=⟨some d,some (g,true),.call (.f k) l⟩
abbrev QTi (d g:Nat) (s:Nat):O:=⟨some d,some (g,true),.nilck (.t s)⟩
abbrev QTl (d g:Nat) (s:Nat):O:=⟨some d,some (g,true),.ld (.t s)⟩
abbrev QTn (d g:Nat) (s:Nat):O:=⟨some d,some (g,true),.lenL (.t s)⟩
abbrev QTr (d g:Nat) (s i:Nat):O:=⟨some d,some (g,true),.pick (.t s) (.c (.b true)) (.t i)⟩
abbrev QTv (d g:Nat) (s:Nat):O:=⟨some d,some (g,true),.mov (.t s)⟩
abbrev QTx (d g:Nat) (k s i:Nat):O:=⟨some d,some (g,true),.ixS k (.t s) (.t i)⟩
abbrev Qa (d:Nat) (s i:Nat):O:=⟨some d,none,.pick (.t s) (.t i) (.c (.b false))⟩
abbrev Qb (d:Nat) (p:BinOp) (s i:Nat):O:=⟨some d,none,.bin p (.t s) (.t i)⟩
abbrev Qc (d:Nat) (p:BinOp) (s:Nat) (x:V):O:=⟨some d,none,.bin p (.t s) (.c x)⟩
abbrev Qd (d:Nat) (k s:Nat):O:=⟨some d,none,.ldn k (.t s)⟩
abbrev Qe (d:Nat) (s i:Nat):O:=⟨some d,none,.ext (.t s) i⟩
abbrev Qf (d:Nat) (k s:Nat):O:=⟨some d,none,.fld k (.t s)⟩
abbrev Qg (d:Nat) (k:Nat) (l:List X):O:=⟨some d,none,.call (.f k) l⟩
abbrev Qh (d:Nat) (s:Nat):O:=⟨some d,none,.box (.t s)⟩
abbrev Qi (d:Nat) (s:Nat):O:=⟨some d,none,.nilck (.t s)⟩
abbrev Qk (d:Nat) (x:V):O:=⟨some d,none,.mov (.c x)⟩
abbrev Ql (d:Nat) (s:Nat):O:=⟨some d,none,.ld (.t s)⟩
abbrev Qm (d:Nat) (z:List V):O:=⟨some d,none,.alloc z⟩
abbrev Qn (d:Nat) (s:Nat):O:=⟨some d,none,.lenL (.t s)⟩
abbrev Qo (d:Nat) (a:A):O:=⟨some d,none,a⟩
abbrev Qq (a:A):O:=⟨none,none,a⟩
abbrev Qr (d:Nat) (s i:Nat):O:=⟨some d,none,.pick (.t s) (.c (.b true)) (.t i)⟩
abbrev Qs (k s i:Nat):O:=⟨none,none,.st k (.t s) (.t i)⟩
abbrev Qv (d:Nat) (s:Nat):O:=⟨some d,none,.mov (.t s)⟩
abbrev Qx (d:Nat) (k s i:Nat):O:=⟨some d,none,.ixS k (.t s) (.t i)⟩
def r4_0:List O:=[Qk 4 (.b false)]
def r4_1:List O:=[Qv 5 0,Qg 6 5 [(.t 5),(.c (.i .i64 40))],Qo 7 (.un .not (.t 6))]
def r4_2:List O:=[Qg 8 6 [],Qv 4 8]
def r4_3:List O:=[Qg 9 6 [],Qv 10 9,QTv 11 10 0,QTv 12 10 1,QTg 13 10 14 [(.t 11),(.t 12)],QTv 14 10 0,QTv 15 10 1,QTg 16 10 15 [(.t 14),(.t 15)],QTg 17 10 13 [(.t 13),(.t 16)],Qa 18 10 17,Qv 4 18]
def a4:FI:=⟨19,[.tmp 4],.seq (.ops r4_0) (.seq (.seq (.ops r4_1) (.cond (.t 7) (.seq (.ops r4_2) (.ret)) (.skip))) (.seq (.ops r4_3) (.ret))),none,none⟩
def r5_0:List O:=[Qk 4 (.b false)]
def r5_1:List O:=[Qv 6 0,Qn 7 6,Qv 8 1,Qb 9 .gtr 7 8]
def r5_2:List O:=[Qk 4 (.b false)]
def r5_3:List O:=[Qk 5 (.i .i64 0)]
def r5_4:List O:=[Qv 10 5,Qv 11 0,Qn 12 11,Qb 13 .lss 10 12]
def r5_6:List O:=[Qv 16 0,Qv 17 5,Qx 18 71 16 17,Qf 19 5 18,Ql 20 19,Qo 21 (.lenS (.t 20)),Qc 22 .gtr 21 (.i .i64 1200)]
def r5_7:List O:=[Qk 4 (.b false)]
def r5_5:List O:=[Qv 14 5,Qc 15 .add 14 (.i .i64 1),Qv 5 15]
def b5_0:C:=.seq (.seq (.ops r5_4) (.cond (.t 13) (.skip) (.exit 0))) (.seq (.block 1 (.seq (.ops r5_6) (.cond (.t 22) (.seq (.ops r5_7) (.ret)) (.skip)))) (.ops r5_5))
def r5_8:List O:=[Qk 4 (.b true)]
def a5:FI:=⟨23,[.tmp 4],.seq (.ops r5_0) (.seq (.seq (.ops r5_1) (.cond (.t 9) (.seq (.ops r5_2) (.ret)) (.skip))) (.seq (.seq (.ops r5_3) (.block 0 (.loop b5_0))) (.seq (.ops r5_8) (.ret)))),none,none⟩
def r6_0:List O:=[Qk 0 (.b false)]
def r6_1:List O:=[Qo 13 (.buildSl [.i .u8 0,.i .u8 0,.i .u8 0] 3 [(0,1,(.c (.i .u8 97))),(1,1,(.c (.i .u8 98))),(2,1,(.c (.i .u8 99)))]),Qo 14 (.mark (.t 13)),Qg 15 16 [(.t 14)],Qg 16 16 [(.c (.sn))],Qm 1 (List.replicate 32 (.i .u8 0)),Qm 2 (List.replicate 32 (.i .u8 0)),Qs 32 1 15,Qs 32 2 16]
def r6_2:List O:=[Qo 17 (.ixA 32 1 (.t 1) (.c (.i .i64 0))),Ql 18 17,Qc 19 .neq 18 (.i .u8 186),Qv 20 19,QF 21 20 (.ixA 32 1 (.t 1) (.c (.i .i64 1))),QFl 22 20 21,QFc 23 20 .neq 22 (.i .u8 120),Qr 24 20 23,Qv 25 24,QF 26 25 (.ixA 32 1 (.t 1) (.c (.i .i64 2))),QFl 27 25 26,QFc 28 25 .neq 27 (.i .u8 22),Qr 29 25 28,Qv 30 29,QF 31 30 (.ixA 32 1 (.t 1) (.c (.i .i64 3))),QFl 32 30 31,QFc 33 30 .neq 32 (.i .u8 191),Qr 34 30 33,Qv 35 34,QF 36 35 (.ixA 32 1 (.t 2) (.c (.i .i64 0))),QFl 37 35 36,QFc 38 35 .neq 37 (.i .u8 227),Qr 39 35 38,Qv 40 39,QF 41 40 (.ixA 32 1 (.t 2) (.c (.i .i64 3))),QFl 42 40 41,QFc 43 40 .neq 42 (.i .u8 66),Qr 44 40 43]
def r6_3:List O:=[Qk 0 (.b false)]
def r6_4:List O:=[Qg 46 17 [(.c (.sn)),(.c (.i .i64 3)),(.c (.i .i64 0)),(.c (.i .u8 7)),(.c (.s [97])),(.c (.i .i64 7))],Qv 45 46,Qe 47 45 0,Qe 48 45 1,Qm 3 ([.i .i64 0,.i .i64 0,.i .i64 0]++[.i .u8 0]++[.b false]++[.s []]++[.i .i64 0]++List.replicate 64 (.i .u8 0)),Qs 71 3 47,Qv 4 48]
def r6_5:List O:=[Qd 50 71 3,Qo 51 (.buildSl ([.i .i64 0,.i .i64 0,.i .i64 0]++[.i .u8 0]++[.b false]++[.s []]++[.i .i64 0]++List.replicate 64 (.i .u8 0)) 1 [(0,71,(.t 50))]),Qg 52 17 [(.t 51),(.c (.i .i64 3)),(.c (.i .i64 1)),(.c (.i .u8 7)),(.c (.s [98])),(.c (.i .i64 8))],Qv 49 52,Qe 53 49 0,Qe 54 49 1,Qm 5 ([.i .i64 0,.i .i64 0,.i .i64 0]++[.i .u8 0]++[.b false]++[.s []]++[.i .i64 0]++List.replicate 64 (.i .u8 0)),Qs 71 5 53,Qv 6 54]
def r6_6:List O:=[Qv 55 4,Qc 56 .neq 55 (.i .i64 0),Qv 57 56,QFv 58 57 6,QFc 59 57 .neq 58 (.i .i64 0),Qr 60 57 59,Qv 61 60,QFf 62 61 7 3,QFd 63 61 32 62,QF 64 61 (.buildSl [.i .u8 0,.i .u8 0,.i .u8 0,.i .u8 0] 4 [(0,1,(.c (.i .u8 115))),(1,1,(.c (.i .u8 55))),(2,1,(.c (.i .u8 47))),(3,1,(.c (.i .u8 97)))]),QF 65 61 (.mark (.t 64)),QFg 66 61 16 [(.t 65)],QF 67 61 (.eqv true (.agg (List.replicate 32 (.i .u8:KT))) (.t 63) (.t 66)),Qr 68 61 67,Qv 69 68,QFf 70 69 39 5,QFd 71 69 32 70,QFd 72 69 71 3,QFg 73 69 18 [(.t 72)],QF 74 69 (.eqv true (.agg (List.replicate 32 (.i .u8:KT))) (.t 71) (.t 73)),Qr 75 69 74,Qv 76 75,QFf 77 76 0 5,QFl 78 76 77,QFc 79 76 .neq 78 (.i .i64 1),Qr 80 76 79]
def r6_7:List O:=[Qk 0 (.b false)]
def r6_8:List O:=[Qd 81 71 3,Qm 7 ([.i .i64 0,.i .i64 0,.i .i64 0]++[.i .u8 0]++[.b false]++[.s []]++[.i .i64 0]++List.replicate 64 (.i .u8 0)),Qs 71 7 81]
def r6_9:List O:=[Qf 82 5 7,Qq (.st 1 (.t 82) (.c (.s [98])))]
def r6_10:List O:=[Qd 83 71 3,Qo 84 (.buildSl ([.i .i64 0,.i .i64 0,.i .i64 0]++[.i .u8 0]++[.b false]++[.s []]++[.i .i64 0]++List.replicate 64 (.i .u8 0)) 1 [(0,71,(.t 83))]),Qg 85 19 [(.t 84)],Qm 8 [.b false,.i .i64 0,.i .u8 0],Qs 3 8 85]
def r6_11:List O:=[Qd 86 71 3,Qd 87 71 5,Qo 88 (.buildSl ([.i .i64 0,.i .i64 0,.i .i64 0]++[.i .u8 0]++[.b false]++[.s []]++[.i .i64 0]++List.replicate 64 (.i .u8 0)++[.i .i64 0,.i .i64 0,.i .i64 0]++[.i .u8 0]++[.b false]++[.s []]++[.i .i64 0]++List.replicate 64 (.i .u8 0)) 2 [(0,71,(.t 86)),(71,71,(.t 87))]),Qg 89 19 [(.t 88)],Qm 9 [.b false,.i .i64 0,.i .u8 0],Qs 3 9 89]
def r6_12:List O:=[Qd 90 71 7,Qo 91 (.buildSl ([.i .i64 0,.i .i64 0,.i .i64 0]++[.i .u8 0]++[.b false]++[.s []]++[.i .i64 0]++List.replicate 64 (.i .u8 0)) 1 [(0,71,(.t 90))]),Qg 92 19 [(.t 91)],Qm 10 [.b false,.i .i64 0,.i .u8 0],Qs 3 10 92]
def r6_13:List O:=[Qo 94 (.build [.i .i64 0,.i .i64 0,.i .i64 0,.i .i64 0,.i .i64 0] [(0,1,(.c (.i .i64 9))),(1,1,(.c (.i .i64 1))),(3,1,(.c (.i .i64 5))),(4,1,(.c (.i .i64 8)))]),Qo 95 (.build [.i .i64 0,.i .i64 0] [(0,1,(.c (.i .i64 11))),(1,1,(.c (.i .i64 2)))]),Qo 96 (.buildSl [.i .i64 0,.i .i64 0] 1 [(0,2,(.t 95))]),Qo 97 (.buildSl [.i .i64 0] 1 [(0,1,(.c (.i .i64 0)))]),Qo 98 (.build [.i .i64 0,.i .i64 0,.i .i64 0,.i .i64 0,.i .i64 0,.i .i64 0,.sn,.i .i64 0,.i .i64 0,.sn,.i .i64 0,.i .i64 0] [(0,1,(.c (.i .i64 1))),(1,5,(.t 94)),(6,1,(.t 96)),(9,1,(.t 97))]),Qg 99 20 [(.t 98)],Qv 93 99,Qe 100 93 0,Qe 101 93 1,Qv 11 100,Qv 12 101]
def r6_14:List O:=[Qd 102 3 8,Qo 103 (.build [.b false,.i .i64 0,.i .u8 0] [(0,1,(.c (.b true)))]),Qo 104 (.eqv false (.agg [.b,.i .i64,.i .u8]) (.t 102) (.t 103)),Qv 105 104,QTd 106 105 3 9,QT 107 105 (.build [.b false,.i .i64 0,.i .u8 0] [(1,1,(.c (.i .i64 1))),(2,1,(.c (.i .u8 2)))]),QT 108 105 (.eqv false (.agg [.b,.i .i64,.i .u8]) (.t 106) (.t 107)),Qa 109 105 108,Qv 110 109,QTd 111 110 3 10,QT 112 110 (.build [.b false,.i .i64 0,.i .u8 0] [(2,1,(.c (.i .u8 1)))]),QT 113 110 (.eqv false (.agg [.b,.i .i64,.i .u8]) (.t 111) (.t 112)),Qa 114 110 113,Qv 115 114,QTv 116 115 12,QTc 117 115 .eql 116 (.i .i64 0),Qa 118 115 117,Qv 119 118,QTv 120 119 11,QTc 121 119 .eql 120 (.s [97,110,110,111,117,110,99,101,32,49,32,48,32,48,32,48,32,48,10,115,99,101,110,101,32,57,32,49,32,48,32,53,32,56,10,103,117,101,115,116,32,49,49,32,50,10,111,114,100,101,114,32,48,10]),Qa 122 119 121,Qv 0 122]
def a6:FI:=⟨123,[.tmp 0],.seq (.ops r6_0) (.seq (.ops r6_1) (.seq (.seq (.ops r6_2) (.cond (.t 44) (.seq (.ops r6_3) (.ret)) (.skip))) (.seq (.ops r6_4) (.seq (.ops r6_5) (.seq (.seq (.draw r6_6 [(8,10),(8,11),(16,18)]) (.cond (.t 80) (.seq (.ops r6_7) (.ret)) (.skip))) (.seq (.ops r6_8) (.seq (.ops r6_9) (.seq (.ops r6_10) (.seq (.ops r6_11) (.seq (.ops r6_12) (.seq (.ops r6_13) (.seq (.ops r6_14) (.ret))))))))))))),none,none⟩
def r8_0:List O:=[Qk 2 (.pn),Qk 3 (.b false)]
def r8_1:List O:=[Qv 9 0,Qg 10 27 [(.t 9),(.f 28)]]
def r8_2:List O:=[Qk 2 (.pn),Qk 3 (.b false)]
def r8_3:List O:=[Qg 11 21 [],Qm 4 [.pn],Qs 1 4 11]
def r8_4:List O:=[Qv 12 0,Qg 13 22 [(.t 12),(.c (.i .u8 4))]]
def r8_5:List O:=[Qv 6 15]
def r8_6:List O:=[Qv 17 6,Qg 18 23 [(.t 17)],Qv 16 18,Qe 19 16 0,Qe 20 16 1,Qm 7 ([.i .u8 0]++List.replicate 14 (.i .i64 0)++[.i .u8 0]++[.i .i64 0,.i .i64 0]++[.i .u8 0]++[.i .i64 0,.i .i64 0,.i .i64 0,.i .i64 0,.i .i64 0]),Qs 24 7 19,Qv 8 20]
def r8_7:List O:=[Qv 21 8,Qc 22 .eql 21 (.i .i64 0),Qv 23 22,QTd 24 23 24 7,QTg 25 23 24 [(.t 24)],QT 26 23 (.un .not (.t 25)),Qa 27 23 26]
def r8_8:List O:=[Ql 28 4,Qd 29 24 7,Qg 30 25 [(.t 28),(.c (.sn)),(.t 29)]]
def b8_0:C:=.block 1 (.seq (.ops r8_6) (.seq (.ops r8_7) (.cond (.t 27) (.ops r8_8) (.skip))))
def r8_9:List O:=[Ql 31 4,Qv 2 31,Qk 3 (.b true)]
def a8:FI:=⟨32,[.tmp 2,.tmp 3],.seq (.ops r8_0) (.seq (.seq (.ops r8_1) (.cond (.t 10) (.seq (.ops r8_2) (.ret)) (.skip))) (.seq (.ops r8_3) (.seq (.seq (.ops r8_4) (.block 0 (.rangeF (.t 13) [14,15] (.ops r8_5) b8_0))) (.seq (.ops r8_9) (.ret))))),none,none⟩
def r9_0:List O:=[Qm 2 [.sn],Qk 3 (.b false)]
def r9_1:List O:=[Qm 4 [.sn]]
def r9_2:List O:=[Qk 5 (.i .i64 0)]
def r9_3:List O:=[Qv 11 5,Qv 12 0,Qn 13 12,Qb 14 .lss 11 13]
def r9_5:List O:=[Qv 17 0,Qv 18 5,Qx 19 71 17 18,Qf 20 3 19,Ql 21 20,Qc 22 .neq 21 (.i .u8 4)]
def r9_6:List O:=[Qv 23 0,Qv 24 5,Qx 25 71 23 24,Qf 26 4 25,Ql 27 26]
def r9_7:List O:=[Qo 28 (.build [.sn] []),Qs 1 2 28,Qk 3 (.b false)]
def r9_8:List O:=[Qv 30 0,Qv 31 5,Qx 32 71 30 31,Qf 33 5 32,Ql 34 33,Qg 35 29 [(.t 34)],Qv 29 35,Qe 36 29 0,Qe 37 29 1,Qm 6 ([.i .u8 0]++List.replicate 14 (.i .i64 0)++[.i .u8 0]++[.i .i64 0,.i .i64 0]++[.i .u8 0]++[.i .i64 0,.i .i64 0,.i .i64 0,.i .i64 0,.i .i64 0]),Qs 24 6 36,Qv 7 37]
def r9_9:List O:=[Qd 38 24 6,Qg 39 30 [(.t 38)],Qv 8 39]
def r9_10:List O:=[Qv 40 7,Qc 41 .neq 40 (.i .i64 0),Qv 42 41,QFv 43 42 8,Qr 44 42 43]
def r9_11:List O:=[Qd 46 1 4,Qd 47 24 6,Qg 48 31 [(.t 46),(.c (.sn)),(.t 47)],Qv 45 48,Qe 49 45 0,Qe 50 45 1,Qm 9 [.sn],Qs 1 9 49,Qv 10 50]
def r9_12:List O:=[Qv 51 10,Qc 52 .eql 51 (.i .i64 0)]
def r9_13:List O:=[Qd 53 1 9,Qs 1 4 53]
def r9_4:List O:=[Qv 15 5,Qc 16 .add 15 (.i .i64 1),Qv 5 16]
def b9_0:C:=.seq (.seq (.ops r9_3) (.cond (.t 14) (.skip) (.exit 0))) (.seq (.block 1 (.seq (.seq (.ops r9_5) (.cond (.t 22) (.exit 1) (.skip))) (.seq (.seq (.ops r9_6) (.cond (.t 27) (.seq (.ops r9_7) (.ret)) (.skip))) (.seq (.ops r9_8) (.seq (.ops r9_9) (.seq (.seq (.ops r9_10) (.cond (.t 44) (.exit 1) (.skip))) (.seq (.ops r9_11) (.seq (.ops r9_12) (.cond (.t 52) (.ops r9_13) (.skip)))))))))) (.ops r9_4))
def r9_14:List O:=[Qd 54 1 4,Qs 1 2 54,Qk 3 (.b true)]
def a9:FI:=⟨55,[.cell 2 (some 1),.tmp 3],.seq (.ops r9_0) (.seq (.ops r9_1) (.seq (.seq (.ops r9_2) (.block 0 (.loop b9_0))) (.seq (.ops r9_14) (.ret)))),none,none⟩
def r13_0:List O:=[Qk 4 (.b false)]
def r13_1:List O:=[Qv 6 0,Qn 7 6,Qv 8 1,Qn 9 8,Qb 10 .neq 7 9]
def r13_2:List O:=[Qk 4 (.b false)]
def r13_3:List O:=[Qk 5 (.i .i64 0)]
def r13_4:List O:=[Qv 11 5,Qv 12 0,Qn 13 12,Qb 14 .lss 11 13]
def r13_6:List O:=[Qv 17 0,Qv 18 5,Qx 19 71 17 18,Qd 20 71 19,Qv 21 1,Qv 22 5,Qx 23 71 21 22,Qd 24 71 23,Qo 25 (.eqv true (.agg [.i .i64,.i .i64,.i .i64,.i .u8,.b,.s,.i .i64,.i .u8,.i .u8,.i .u8,.i .u8,.i .u8,.i .u8,.i .u8,.i .u8,.i .u8,.i .u8,.i .u8,.i .u8,.i .u8,.i .u8,.i .u8,.i .u8,.i .u8,.i .u8,.i .u8,.i .u8,.i .u8,.i .u8,.i .u8,.i .u8,.i .u8,.i .u8,.i .u8,.i .u8,.i .u8,.i .u8,.i .u8,.i .u8,.i .u8,.i .u8,.i .u8,.i .u8,.i .u8,.i .u8,.i .u8,.i .u8,.i .u8,.i .u8,.i .u8,.i .u8,.i .u8,.i .u8,.i .u8,.i .u8,.i .u8,.i .u8,.i .u8,.i .u8,.i .u8,.i .u8,.i .u8,.i .u8,.i .u8,.i .u8,.i .u8,.i .u8,.i .u8,.i .u8,.i .u8,.i .u8]) (.t 20) (.t 24))]
def r13_7:List O:=[Qk 4 (.b false)]
def r13_5:List O:=[Qv 15 5,Qc 16 .add 15 (.i .i64 1),Qv 5 16]
def b13_0:C:=.seq (.seq (.ops r13_4) (.cond (.t 14) (.skip) (.exit 0))) (.seq (.block 1 (.seq (.draw r13_6 []) (.cond (.t 25) (.seq (.ops r13_7) (.ret)) (.skip)))) (.ops r13_5))
def r13_8:List O:=[Qk 4 (.b true)]
def a13:FI:=⟨26,[.tmp 4],.seq (.ops r13_0) (.seq (.seq (.ops r13_1) (.cond (.t 10) (.seq (.ops r13_2) (.ret)) (.skip))) (.seq (.seq (.ops r13_3) (.block 0 (.loop b13_0))) (.seq (.ops r13_8) (.ret)))),none,none⟩
def r14_0:List O:=[Qk 4 (.sn)]
def r14_1:List O:=[Qk 5 (.sn)]
def r14_2:List O:=[Qv 11 0,Qn 12 11,Qk 13 (.i .i64 0)]
def r14_3:List O:=[Qb 14 .lss 13 12]
def r14_4:List O:=[Qv 15 13,Qx 16 71 11 13,Qd 17 71 16,Qm 7 ([.i .i64 0,.i .i64 0,.i .i64 0]++[.i .u8 0]++[.b false]++[.s []]++[.i .i64 0]++List.replicate 64 (.i .u8 0)),Qv 6 15,Qs 71 7 17]
def r14_5:List O:=[Qf 18 3 7,Ql 19 18,Qc 20 .eql 19 (.i .u8 4),Qv 21 20,QTf 22 21 4 7,QTl 23 21 22,QT 24 21 (.un .not (.t 23)),Qa 25 21 24,Qv 26 25,QTd 27 26 71 7,QTg 28 26 35 [(.t 27)],Qa 29 26 28]
def r14_6:List O:=[Qf 31 5 7,Ql 32 31,Qg 33 23 [(.t 32)],Qv 30 33,Qe 34 30 0,Qe 35 30 1,Qm 8 ([.i .u8 0]++List.replicate 14 (.i .i64 0)++[.i .u8 0]++[.i .i64 0,.i .i64 0]++[.i .u8 0]++[.i .i64 0,.i .i64 0,.i .i64 0,.i .i64 0,.i .i64 0]),Qs 24 8 34,Qv 9 35]
def r14_7:List O:=[Qf 36 0 8,Ql 37 36,Qc 38 .eql 37 (.i .u8 5),Qv 39 38,QFf 40 39 0 8,QFl 41 39 40,QFc 42 39 .eql 41 (.i .u8 6),Qr 43 39 42,Qv 44 43,QFf 45 44 0 8,QFl 46 44 45,QFc 47 44 .eql 46 (.i .u8 7),Qr 48 44 47,Qv 10 48]
def r14_8:List O:=[Qv 49 9,Qc 50 .eql 49 (.i .i64 0),Qv 51 50,QTv 52 51 10,Qa 53 51 52,Qv 54 53,QTv 55 54 0,QTv 56 54 6,QT 57 54 (.slc 71 (.t 55) none (some (.t 56)) none),QTd 58 54 24 8,QTv 59 54 1,QTg 60 54 36 [(.t 57),(.t 58),(.t 59)],QT 61 54 (.un .not (.t 60)),Qa 62 54 61]
def r14_9:List O:=[Qd 64 71 7,Qg 65 37 [(.t 64)],Qv 63 65,Qe 66 63 0,Qe 67 63 1,Qs 71 7 66]
def r14_10:List O:=[Qv 68 5,Qd 69 71 7,Qo 70 (.buildSl ([.i .i64 0,.i .i64 0,.i .i64 0]++[.i .u8 0]++[.b false]++[.s []]++[.i .i64 0]++List.replicate 64 (.i .u8 0)) 1 [(0,71,(.t 69))]),Qo 71 (.app 71 120 (.t 68) (.t 70)),Qv 5 71]
def r14_11:List O:=[Qc 72 .add 13 (.i .i64 1),Qv 13 72]
def b14_0:C:=.seq (.ops r14_3) (.seq (.cond (.t 14) (.skip) (.exit 0)) (.seq (.block 1 (.seq (.ops r14_4) (.seq (.seq (.ops r14_5) (.cond (.t 29) (.seq (.ops r14_6) (.seq (.ops r14_7) (.seq (.draw r14_8 []) (.cond (.t 62) (.ops r14_9) (.skip))))) (.skip))) (.ops r14_10)))) (.ops r14_11)))
def r14_12:List O:=[Qv 73 5,Qv 4 73]
def a14:FI:=⟨74,[.tmp 4],.seq (.ops r14_0) (.seq (.ops r14_1) (.seq (.seq (.ops r14_2) (.block 0 (.loop b14_0))) (.seq (.ops r14_12) (.ret)))),none,none⟩
def r15_0:List O:=[Qk 4 (.sn)]
def r15_1:List O:=[Qk 5 (.sn)]
def r15_2:List O:=[Qk 6 (.i .i64 0)]
def r15_3:List O:=[Qv 15 6,Qv 16 0,Qn 17 16,Qb 18 .lss 15 17]
def r15_5:List O:=[Qv 21 0,Qv 22 6,Qx 23 71 21 22,Qd 24 71 23,Qm 7 ([.i .i64 0,.i .i64 0,.i .i64 0]++[.i .u8 0]++[.b false]++[.s []]++[.i .i64 0]++List.replicate 64 (.i .u8 0)),Qs 71 7 24]
def r15_6:List O:=[Qf 26 5 7,Ql 27 26,Qg 28 29 [(.t 27)],Qv 25 28,Qe 29 25 0,Qe 30 25 1,Qm 8 ([.i .u8 0]++List.replicate 14 (.i .i64 0)++[.i .u8 0]++[.i .i64 0,.i .i64 0]++[.i .u8 0]++[.i .i64 0,.i .i64 0,.i .i64 0,.i .i64 0,.i .i64 0]),Qs 24 8 29,Qv 9 30]
def r15_7:List O:=[Qf 31 3 7,Ql 32 31,Qc 33 .eql 32 (.i .u8 4),Qv 34 33,QTf 35 34 4 7,QTl 36 34 35,QT 37 34 (.un .not (.t 36)),Qa 38 34 37,Qv 39 38,QTv 40 39 9,QTc 41 39 .eql 40 (.i .i64 0),Qa 42 39 41,Qv 43 42,QTf 44 43 0 8,QTl 45 43 44,QTc 46 43 .eql 45 (.i .u8 5),QTv 47 43 46,QFf 48 47 0 8,QFl 49 47 48,QFc 50 47 .eql 49 (.i .u8 6),QTr 51 43 47 50,QTv 52 43 51,QFf 53 52 0 8,QFl 54 52 53,QFc 55 52 .eql 54 (.i .u8 7),QTr 56 43 52 55,Qa 57 43 56,Qv 10 57]
def r15_8:List O:=[Qv 58 10]
def r15_9:List O:=[Qv 60 0,Qv 61 6,Qd 62 24 8,Qg 63 38 [(.t 60),(.t 61),(.t 62)],Qv 59 63,Qe 64 59 0,Qe 65 59 1,Qv 11 64,Qv 12 65]
def r15_10:List O:=[Qd 67 71 7,Qg 68 39 [(.t 67)],Qv 66 68,Qe 69 66 0,Qe 70 66 1,Qm 13 ([.i .i64 0,.i .i64 0,.i .i64 0]++[.i .u8 0]++[.b false]++[.s []]++[.i .i64 0]++List.replicate 64 (.i .u8 0)),Qs 71 13 69,Qv 14 70]
def r15_11:List O:=[Qv 71 14,Qc 72 .eql 71 (.i .i64 0),Qv 73 72,QTv 74 73 1,QTc 75 73 .lss 74 (.i .i64 1),QTv 76 73 75,QFv 77 76 11,QFv 78 76 1,QFb 79 76 .neq 77 78,QFv 80 76 79,QTv 81 80 12,QTv 82 80 1,QTb 83 80 .neq 81 82,QFa 84 76 80 83,QTr 85 73 76 84,Qa 86 73 85]
def r15_12:List O:=[Qd 87 71 13,Qs 71 7 87]
def r15_13:List O:=[Qv 88 5,Qd 89 71 7,Qo 90 (.buildSl ([.i .i64 0,.i .i64 0,.i .i64 0]++[.i .u8 0]++[.b false]++[.s []]++[.i .i64 0]++List.replicate 64 (.i .u8 0)) 1 [(0,71,(.t 89))]),Qo 91 (.app 71 120 (.t 88) (.t 90)),Qv 5 91]
def r15_4:List O:=[Qv 19 6,Qc 20 .add 19 (.i .i64 1),Qv 6 20]
def b15_0:C:=.seq (.seq (.ops r15_3) (.cond (.t 18) (.skip) (.exit 0))) (.seq (.block 1 (.seq (.ops r15_5) (.seq (.ops r15_6) (.seq (.ops r15_7) (.seq (.seq (.ops r15_8) (.cond (.t 58) (.seq (.ops r15_9) (.seq (.ops r15_10) (.seq (.ops r15_11) (.cond (.t 86) (.ops r15_12) (.skip))))) (.skip))) (.ops r15_13)))))) (.ops r15_4))
def r15_14:List O:=[Qv 92 5,Qv 4 92]
def a15:FI:=⟨93,[.tmp 4],.seq (.ops r15_0) (.seq (.ops r15_1) (.seq (.seq (.ops r15_2) (.block 0 (.loop b15_0))) (.seq (.ops r15_14) (.ret)))),none,none⟩
def r16_0:List O:=[Qm 2 (List.replicate 32 (.i .u8 0))]
def r16_1:List O:=[Qv 11 0,Qg 12 40 [(.t 11)],Qo 13 (.buildSl [.i .u8 0] 1 [(0,1,(.c (.i .u8 128)))]),Qo 14 (.app 1 1 (.t 12) (.t 13)),Qv 3 14]
def r16_2:List O:=[Qv 15 3,Qn 16 15,Qc 17 .rem 16 (.i .i64 64),Qc 18 .neq 17 (.i .i64 56)]
def r16_3:List O:=[Qv 19 3,Qo 20 (.buildSl [.i .u8 0] 1 [(0,1,(.c (.i .u8 0)))]),Qo 21 (.app 1 1 (.t 19) (.t 20)),Qv 3 21]
def b16_0:C:=.seq (.seq (.ops r16_2) (.cond (.t 18) (.skip) (.exit 0))) (.block 1 (.ops r16_3))
def r16_4:List O:=[Qk 4 (.i .i64 56)]
def r16_5:List O:=[Qv 22 4,Qc 23 .geq 22 (.i .i64 0)]
def r16_7:List O:=[Qv 26 3,Qv 27 0,Qn 28 27,Qo 29 (.conv .u64 (.t 28)),Qc 30 .mul 29 (.i .u64 8),Qv 31 4,Qb 32 .shr 30 31,Qo 33 (.conv .u8 (.t 32)),Qo 34 (.buildSl [.i .u8 0] 1 [(0,1,(.t 33))]),Qo 35 (.app 1 1 (.t 26) (.t 34)),Qv 3 35]
def r16_6:List O:=[Qv 24 4,Qc 25 .sub 24 (.i .i64 8),Qv 4 25]
def b16_1:C:=.seq (.seq (.ops r16_5) (.cond (.t 23) (.skip) (.exit 2))) (.seq (.block 3 (.ops r16_7)) (.ops r16_6))
def r16_8:List O:=[Qo 36 (.build [.i .u32 0,.i .u32 0,.i .u32 0,.i .u32 0,.i .u32 0,.i .u32 0,.i .u32 0,.i .u32 0] [(0,1,(.c (.i .u32 1779033703))),(1,1,(.c (.i .u32 3144134277))),(2,1,(.c (.i .u32 1013904242))),(3,1,(.c (.i .u32 2773480762))),(4,1,(.c (.i .u32 1359893119))),(5,1,(.c (.i .u32 2600822924))),(6,1,(.c (.i .u32 528734635))),(7,1,(.c (.i .u32 1541459225)))]),Qm 5 [.i .u32 0,.i .u32 0,.i .u32 0,.i .u32 0,.i .u32 0,.i .u32 0,.i .u32 0,.i .u32 0],Qs 8 5 36]
def r16_9:List O:=[Qk 6 (.i .i64 0)]
def r16_10:List O:=[Qv 37 6,Qv 38 3,Qn 39 38,Qb 40 .lss 37 39]
def r16_12:List O:=[Qd 43 8 5,Qv 44 3,Qv 45 6,Qv 46 6,Qc 47 .add 46 (.i .i64 64),Qo 48 (.slc 1 (.t 44) (some (.t 45)) (some (.t 47)) none),Qg 49 41 [(.t 43),(.t 48)],Qs 8 5 49]
def r16_11:List O:=[Qv 41 6,Qc 42 .add 41 (.i .i64 64),Qv 6 42]
def b16_2:C:=.seq (.seq (.ops r16_10) (.cond (.t 40) (.skip) (.exit 4))) (.seq (.block 5 (.draw r16_12 [])) (.ops r16_11))
def r16_13:List O:=[Qm 7 (List.replicate 32 (.i .u8 0))]
def r16_14:List O:=[Qd 50 8 5,Qk 51 (.i .i64 0)]
def r16_15:List O:=[Qc 52 .lss 51 (.i .i64 8)]
def r16_16:List O:=[Qv 53 51,Qo 54 (.ixV 8 1 false (.t 50) (.t 51)),Qv 8 53,Qv 9 54]
def r16_17:List O:=[Qk 55 (.i .i64 0)]
def r16_18:List O:=[Qc 56 .lss 55 (.i .i64 4)]
def r16_19:List O:=[Qv 57 55,Qv 10 57]
def r16_20:List O:=[Qv 58 8,Qo 59 (.bin .mul (.c (.i .i64 4)) (.t 58)),Qv 60 10,Qb 61 .add 59 60,Qv 62 9,Qv 63 10,Qo 64 (.bin .mul (.c (.i .i64 8)) (.t 63)),Qo 65 (.bin .sub (.c (.i .i64 24)) (.t 64)),Qb 66 .shr 62 65,Qo 67 (.conv .u8 (.t 66)),Qo 68 (.ixA 32 1 (.t 7) (.t 61)),Qs 1 68 67]
def r16_21:List O:=[Qc 69 .add 55 (.i .i64 1),Qv 55 69]
def b16_3:C:=.seq (.ops r16_18) (.seq (.cond (.t 56) (.skip) (.exit 8)) (.seq (.block 9 (.seq (.ops r16_19) (.ops r16_20))) (.ops r16_21)))
def r16_22:List O:=[Qc 70 .add 51 (.i .i64 1),Qv 51 70]
def b16_4:C:=.seq (.ops r16_15) (.seq (.cond (.t 52) (.skip) (.exit 6)) (.seq (.block 7 (.seq (.ops r16_16) (.seq (.ops r16_17) (.block 8 (.loop b16_3))))) (.ops r16_22)))
def r16_23:List O:=[Qd 71 32 7,Qs 32 2 71]
def a16:FI:=⟨72,[.cell 2 (some 32)],.seq (.ops r16_0) (.seq (.ops r16_1) (.seq (.block 0 (.loop b16_0)) (.seq (.seq (.ops r16_4) (.block 2 (.loop b16_1))) (.seq (.ops r16_8) (.seq (.seq (.ops r16_9) (.block 4 (.loop b16_2))) (.seq (.ops r16_13) (.seq (.seq (.ops r16_14) (.block 6 (.loop b16_4))) (.seq (.ops r16_23) (.ret))))))))),none,none⟩
def r17_0:List O:=[Qm 12 ([.i .i64 0,.i .i64 0,.i .i64 0]++[.i .u8 0]++[.b false]++[.s []]++[.i .i64 0]++List.replicate 64 (.i .u8 0)),Qk 13 (.i .i64 0)]
def r17_1:List O:=[Qv 18 0,Qg 19 42 [(.t 18)],Qv 17 19,Qe 20 17 0,Qe 21 17 1,Qv 14 20,Qv 15 21]
def r17_2:List O:=[Qv 22 15,Qc 23 .neq 22 (.i .i64 0)]
def r17_3:List O:=[Qo 24 (.build ([.i .i64 0,.i .i64 0,.i .i64 0]++[.i .u8 0]++[.b false]++[.s []]++[.i .i64 0]++List.replicate 64 (.i .u8 0)) []),Qv 25 15,Qs 71 12 24,Qv 13 25]
def r17_4:List O:=[Qv 27 0,Qn 28 27,Qc 29 .geq 28 (.i .i64 2000),Qv 26 29]
def r17_5:List O:=[Qo 30 (.build ([.i .i64 0,.i .i64 0,.i .i64 0]++[.i .u8 0]++[.b false]++[.s []]++[.i .i64 0]++List.replicate 64 (.i .u8 0)) []),Qs 71 12 30,Qk 13 (.i .i64 2)]
def r17_6:List O:=[Qv 32 1,Qg 33 43 [(.t 32),(.c (.i .i64 0)),(.c (.i .i64 100000))],Qo 34 (.un .not (.t 33)),Qv 35 34,QFv 36 35 2,QFg 37 35 43 [(.t 36),(.c (.i .i64 0)),(.c (.i .i64 7))],QF 38 35 (.un .not (.t 37)),Qr 39 35 38,Qv 40 39,QFv 41 40 3,QF 42 40 (.conv .i64 (.t 41)),QFg 43 40 43 [(.t 42),(.c (.i .i64 1)),(.c (.i .i64 7))],QF 44 40 (.un .not (.t 43)),Qr 45 40 44,Qv 46 45,QFv 47 46 5,QFg 48 46 43 [(.t 47),(.c (.i .i64 0)),(.c (.i .i64 9007199254740992))],QF 49 46 (.un .not (.t 48)),Qr 50 46 49,Qv 31 50]
def r17_7:List O:=[Qo 51 (.build ([.i .i64 0,.i .i64 0,.i .i64 0]++[.i .u8 0]++[.b false]++[.s []]++[.i .i64 0]++List.replicate 64 (.i .u8 0)) []),Qs 71 12 51,Qk 13 (.i .i64 1)]
def r17_8:List O:=[Qv 53 4,Qo 54 (.lenS (.t 53)),Qc 55 .gtr 54 (.i .i64 7000),Qv 52 55]
def r17_9:List O:=[Qo 56 (.build ([.i .i64 0,.i .i64 0,.i .i64 0]++[.i .u8 0]++[.b false]++[.s []]++[.i .i64 0]++List.replicate 64 (.i .u8 0)) []),Qs 71 12 56,Qk 13 (.i .i64 2)]
def r17_10:List O:=[Qv 58 0,Qn 59 58,Qc 60 .gtr 59 (.i .i64 0),Qv 61 60,QTv 62 61 1,QTv 63 61 0,QTv 64 61 0,QTn 65 61 64,QTc 66 61 .sub 65 (.i .i64 1),QTx 67 61 71 63 66,QTf 68 61 1 67,QTl 69 61 68,QTb 70 61 .lss 62 69,Qa 71 61 70,Qv 57 71]
def r17_11:List O:=[Qo 72 (.build ([.i .i64 0,.i .i64 0,.i .i64 0]++[.i .u8 0]++[.b false]++[.s []]++[.i .i64 0]++List.replicate 64 (.i .u8 0)) []),Qs 71 12 72,Qk 13 (.i .i64 7)]
def r17_12:List O:=[Qv 73 0,Qn 74 73,Qv 75 1,Qv 76 2,Qv 77 3,Qv 78 4,Qv 79 5,Qv 80 5,Qv 81 4,Qg 82 44 [(.t 80),(.t 81)],Qo 83 (.build ([.i .i64 0,.i .i64 0,.i .i64 0]++[.i .u8 0]++[.b false]++[.s []]++[.i .i64 0]++List.replicate 64 (.i .u8 0)) [(0,1,(.t 74)),(1,1,(.t 75)),(2,1,(.t 76)),(3,1,(.t 77)),(5,1,(.t 78)),(6,1,(.t 79)),(7,32,(.t 82))]),Qm 16 ([.i .i64 0,.i .i64 0,.i .i64 0]++[.i .u8 0]++[.b false]++[.s []]++[.i .i64 0]++List.replicate 64 (.i .u8 0)),Qs 71 16 83]
def r17_13:List O:=[Qv 84 0,Qn 85 84,Qc 86 .gtr 85 (.i .i64 0)]
def r17_14:List O:=[Qv 87 0,Qv 88 0,Qn 89 88,Qc 90 .sub 89 (.i .i64 1),Qx 91 71 87 90,Qd 92 71 91,Qg 93 45 [(.t 92)],Qf 94 39 16,Qs 32 94 93]
def r17_15:List O:=[Qd 95 71 16,Qs 71 12 95,Qk 13 (.i .i64 0)]
def a17:FI:=⟨96,[.cell 12 (some 71),.tmp 13],.seq (.ops r17_0) (.seq (.seq (.ops r17_1) (.seq (.ops r17_2) (.cond (.t 23) (.seq (.ops r17_3) (.ret)) (.skip)))) (.seq (.block 0 (.seq (.ops r17_4) (.cond (.t 26) (.seq (.ops r17_5) (.ret)) (.seq (.ops r17_6) (.cond (.t 31) (.seq (.ops r17_7) (.ret)) (.seq (.ops r17_8) (.cond (.t 52) (.seq (.ops r17_9) (.ret)) (.seq (.ops r17_10) (.cond (.t 57) (.seq (.ops r17_11) (.ret)) (.skip)))))))))) (.seq (.ops r17_12) (.seq (.seq (.ops r17_13) (.cond (.t 86) (.ops r17_14) (.skip))) (.seq (.ops r17_15) (.ret)))))),none,none⟩
def r18_0:List O:=[Qh 1 0,Qm 2 (List.replicate 32 (.i .u8 0))]
def r18_1:List O:=[Qd 3 71 1,Qg 4 35 [(.t 3)],Qo 5 (.un .not (.t 4))]
def r18_2:List O:=[Qo 6 (.build (List.replicate 32 (.i .u8 0)) []),Qs 32 2 6]
def r18_3:List O:=[Qd 7 71 1,Qg 8 45 [(.t 7)],Qs 32 2 8]
def a18:FI:=⟨9,[.cell 2 (some 32)],.seq (.ops r18_0) (.seq (.seq (.ops r18_1) (.cond (.t 5) (.seq (.ops r18_2) (.ret)) (.skip))) (.seq (.ops r18_3) (.ret))),none,none⟩
def r19_0:List O:=[Qm 2 [.b false,.i .i64 0,.i .u8 0]]
def r19_1:List O:=[Qv 8 0,Qg 9 42 [(.t 8)],Qv 7 9,Qe 10 7 0,Qe 11 7 1,Qv 3 10,Qv 4 11]
def r19_2:List O:=[Qv 12 4,Qc 13 .eql 12 (.i .i64 0)]
def r19_3:List O:=[Qv 14 0,Qn 15 14,Qv 3 15]
def r19_4:List O:=[Qv 16 0,Qg 17 21 [],Qg 18 21 [],Qo 19 (.build ([.sn]++[.i .i64 0,.i .i64 0,.i .i64 0,.i .i64 0]++[.i .u8 0]++[.b false]++[.s []]++[.i .i64 0]++List.replicate 64 (.i .u8 0)++[.b false]++[.pn,.pn]) [(0,1,(.t 16)),(74,1,(.t 17)),(75,1,(.t 18))]),Qh 20 19,Qv 5 20]
def r19_5:List O:=[Qv 21 3,Qk 22 (.i .i64 0)]
def r19_6:List O:=[Qb 23 .lss 22 21]
def r19_7:List O:=[Qv 24 5,Qv 25 22,Qi 26 24,Qf 27 1 26,Qs 1 27 25]
def r19_8:List O:=[Qv 28 5,Qv 29 0,Qv 30 5,Qi 31 30,Qf 32 1 31,Ql 33 32,Qx 34 71 29 33,Qd 35 71 34,Qi 36 28,Qf 37 2 36,Qs 71 37 35]
def r19_9:List O:=[Qv 38 5,Qg 39 46 [(.t 38)],Qv 6 39]
def r19_10:List O:=[Qv 40 6,Qc 41 .neq 40 (.i .u8 0)]
def r19_11:List O:=[Qv 42 5,Qi 43 42,Qf 44 1 43,Ql 45 44,Qv 46 6,Qo 47 (.build [.b false,.i .i64 0,.i .u8 0] [(1,1,(.t 45)),(2,1,(.t 46))]),Qs 3 2 47]
def r19_12:List O:=[Qc 48 .add 22 (.i .i64 1),Qv 22 48]
def b19_0:C:=.seq (.ops r19_6) (.seq (.cond (.t 23) (.skip) (.exit 0)) (.seq (.block 1 (.seq (.ops r19_7) (.seq (.ops r19_8) (.seq (.ops r19_9) (.seq (.ops r19_10) (.cond (.t 41) (.seq (.ops r19_11) (.ret)) (.skip))))))) (.ops r19_12)))
def r19_13:List O:=[Qv 49 4,Qc 50 .neq 49 (.i .i64 0)]
def r19_14:List O:=[Qv 51 3,Qo 52 (.build [.b false,.i .i64 0,.i .u8 0] [(1,1,(.t 51)),(2,1,(.c (.i .u8 1)))]),Qs 3 2 52]
def r19_15:List O:=[Qo 53 (.build [.b false,.i .i64 0,.i .u8 0] [(0,1,(.c (.b true)))]),Qs 3 2 53]
def a19:FI:=⟨54,[.cell 2 (some 3)],.seq (.ops r19_0) (.seq (.ops r19_1) (.seq (.seq (.ops r19_2) (.cond (.t 13) (.ops r19_3) (.skip))) (.seq (.ops r19_4) (.seq (.seq (.ops r19_5) (.block 0 (.loop b19_0))) (.seq (.seq (.ops r19_13) (.cond (.t 50) (.seq (.ops r19_14) (.ret)) (.skip))) (.seq (.ops r19_15) (.ret))))))),none,none⟩
end Go.Air.Try
set_option maxRecDepth 100000
namespace Go.Air.Try
def r20_0:List O:=[Qh 1 0,Qk 2 (.s []),Qk 3 (.i .i64 0)]
def r20_1:List O:=[Qd 10 12 1,Qg 11 47 [(.t 10)],Qo 12 (.un .not (.t 11))]
def r20_2:List O:=[Qk 2 (.s []),Qk 3 (.i .i64 1)]
def r20_3:List O:=[Qf 13 1 1,Qd 14 5 13,Qm 4 [.i .i64 0,.i .i64 0,.i .i64 0,.i .i64 0,.i .i64 0],Qs 5 4 14]
def r20_4:List O:=[Qf 15 0 1,Ql 16 15,Qf 17 7 1,Ql 18 17,Qf 19 8 1,Ql 20 19,Qf 21 10 1,Ql 22 21,Qf 23 11 1,Ql 24 23,Qo 25 (.buildSl [.i .i64 0,.i .i64 0,.i .i64 0,.i .i64 0,.i .i64 0] 5 [(0,1,(.t 16)),(1,1,(.t 18)),(2,1,(.t 20)),(3,1,(.t 22)),(4,1,(.t 24))]),Qg 26 48 [(.t 25)],Qo 27 (.bin .add (.c (.s [97,110,110,111,117,110,99,101,32])) (.t 26)),Qc 28 .add 27 (.s [10,115,99,101,110,101,32]),Qf 29 0 4,Ql 30 29,Qf 31 1 4,Ql 32 31,Qf 33 2 4,Ql 34 33,Qf 35 3 4,Ql 36 35,Qf 37 4 4,Ql 38 37,Qo 39 (.buildSl [.i .i64 0,.i .i64 0,.i .i64 0,.i .i64 0,.i .i64 0] 5 [(0,1,(.t 30)),(1,1,(.t 32)),(2,1,(.t 34)),(3,1,(.t 36)),(4,1,(.t 38))]),Qg 40 48 [(.t 39)],Qb 41 .add 28 40,Qc 42 .add 41 (.s [10]),Qv 5 42]
def r20_5:List O:=[Qf 43 6 1,Ql 44 43,Qn 45 44,Qk 46 (.i .i64 0)]
def r20_6:List O:=[Qb 47 .lss 46 45]
def r20_7:List O:=[Qx 48 2 44 46,Qd 49 2 48,Qm 7 [.i .i64 0,.i .i64 0],Qs 2 7 49]
def r20_8:List O:=[Qv 50 5,Qf 51 0 7,Ql 52 51,Qf 53 1 7,Ql 54 53,Qo 55 (.buildSl [.i .i64 0,.i .i64 0] 2 [(0,1,(.t 52)),(1,1,(.t 54))]),Qg 56 48 [(.t 55)],Qo 57 (.bin .add (.c (.s [103,117,101,115,116,32])) (.t 56)),Qc 58 .add 57 (.s [10]),Qb 59 .add 50 58,Qv 5 59]
def r20_9:List O:=[Qc 60 .add 46 (.i .i64 1),Qv 46 60]
def b20_0:C:=.seq (.ops r20_6) (.seq (.cond (.t 47) (.skip) (.exit 0)) (.seq (.block 1 (.seq (.ops r20_7) (.ops r20_8))) (.ops r20_9)))
def r20_10:List O:=[Qv 61 5,Qc 62 .add 61 (.s [111,114,100,101,114]),Qv 5 62]
def r20_11:List O:=[Qf 63 9 1,Ql 64 63,Qn 65 64,Qk 66 (.i .i64 0)]
def r20_12:List O:=[Qb 67 .lss 66 65]
def r20_13:List O:=[Qx 68 1 64 66,Ql 69 68,Qv 9 69]
def r20_14:List O:=[Qv 70 5,Qv 71 9,Qo 72 (.buildSl [.i .i64 0] 1 [(0,1,(.t 71))]),Qg 73 48 [(.t 72)],Qo 74 (.bin .add (.c (.s [32])) (.t 73)),Qb 75 .add 70 74,Qv 5 75]
def r20_15:List O:=[Qc 76 .add 66 (.i .i64 1),Qv 66 76]
def b20_1:C:=.seq (.ops r20_12) (.seq (.cond (.t 67) (.skip) (.exit 2)) (.seq (.block 3 (.seq (.ops r20_13) (.ops r20_14))) (.ops r20_15)))
def r20_16:List O:=[Qv 77 5,Qc 78 .add 77 (.s [10]),Qv 2 78,Qk 3 (.i .i64 0)]
def a20:FI:=⟨79,[.tmp 2,.tmp 3],.seq (.ops r20_0) (.seq (.seq (.ops r20_1) (.cond (.t 12) (.seq (.ops r20_2) (.ret)) (.skip))) (.seq (.ops r20_3) (.seq (.draw r20_4 [(11,15),(11,17),(11,19),(11,21),(11,23)]) (.seq (.seq (.ops r20_5) (.block 0 (.loop b20_0))) (.seq (.ops r20_10) (.seq (.seq (.ops r20_11) (.block 2 (.loop b20_1))) (.seq (.ops r20_16) (.ret)))))))),none,none⟩
def r21_0:List O:=[Qk 0 (.pn)]
def r21_1:List O:=[Qg 1 49 [],Qo 2 (.build [.sn,.pn] [(1,1,(.t 1))]),Qh 3 2,Qv 0 3]
def a21:FI:=⟨4,[.tmp 0],.seq (.ops r21_0) (.seq (.ops r21_1) (.ret)),none,none⟩
def r22_0:List O:=[Qh 2 0,Qh 3 1,Qk 4 (.fnil)]
def r22_1:List O:=[Qo 5 (.mkFn 50 [] [(.t 2),(.t 3)]),Qv 4 5]
def a22:FI:=⟨6,[.tmp 4],.seq (.ops r22_0) (.seq (.ops r22_1) (.ret)),none,none⟩
def r23_0:List O:=[Qm 2 ([.i .u8 0]++List.replicate 14 (.i .i64 0)++[.i .u8 0]++[.i .i64 0,.i .i64 0]++[.i .u8 0]++[.i .i64 0,.i .i64 0,.i .i64 0,.i .i64 0,.i .i64 0]),Qm 3 [.i .i64 0]]
def r23_1:List O:=[Qo 21 (.mkFn 51 [] [(.t 2),(.t 3)]),Qq (.mov (.c (.tup [])))]
def r23_2:List O:=[Qv 22 0,Qm 4 [.s []],Qm 5 [.b false],Qs 1 4 22,Qq (.st 1 (.t 5) (.c (.b true)))]
def r23_3:List O:=[Qo 23 (.mkFn 52 [] [(.t 5),(.t 4)]),Qm 6 [.fnil],Qs 1 6 23]
def r23_4:List O:=[Qo 24 (.mkFn 54 [] [(.t 6)]),Qv 7 24]
def r23_5:List O:=[Qv 25 7,Qo 26 (.call (.t 25) []),Qo 27 (.build ([.i .u8 0]++List.replicate 14 (.i .i64 0)++[.i .u8 0]++[.i .i64 0,.i .i64 0]++[.i .u8 0]++[.i .i64 0,.i .i64 0,.i .i64 0,.i .i64 0,.i .i64 0]) [(1,1,(.t 26))]),Qm 8 ([.i .u8 0]++List.replicate 14 (.i .i64 0)++[.i .u8 0]++[.i .i64 0,.i .i64 0]++[.i .u8 0]++[.i .i64 0,.i .i64 0,.i .i64 0,.i .i64 0,.i .i64 0]),Qs 24 8 27]
def r23_6:List O:=[Ql 28 6,Qo 29 (.call (.t 28) []),Qv 9 29]
def r23_7:List O:=[Qg 30 56 [],Qn 31 30,Qk 32 (.i .i64 0)]
def r23_8:List O:=[Qb 33 .lss 32 31]
def r23_9:List O:=[Qv 34 32,Qx 35 1 30 32,Ql 36 35,Qv 10 34,Qv 11 36]
def r23_10:List O:=[Qv 37 10,Qc 38 .gtr 37 (.i .i64 0),Qv 39 38,QTv 40 39 11,QTv 41 39 9,QTb 42 39 .eql 40 41,Qa 43 39 42]
def r23_11:List O:=[Qv 44 10,Qo 45 (.conv .u8 (.t 44)),Qf 46 0 8,Qs 1 46 45]
def r23_12:List O:=[Qc 47 .add 32 (.i .i64 1),Qv 32 47]
def b23_0:C:=.seq (.ops r23_8) (.seq (.cond (.t 33) (.skip) (.exit 0)) (.seq (.block 1 (.seq (.ops r23_9) (.seq (.ops r23_10) (.cond (.t 43) (.ops r23_11) (.skip))))) (.ops r23_12)))
def r23_13:List O:=[Qf 48 0 8,Ql 49 48]
def r23_14:List O:=[Qc 51 .eql 49 (.i .u8 1),Qv 50 51]
def r23_15:List O:=[Qc 52 .eql 49 (.i .u8 2),Qv 50 52]
def r23_16:List O:=[Qv 53 7,Qo 54 (.call (.t 53) []),Qf 55 21 8,Qs 1 55 54]
def r23_17:List O:=[Qv 56 7,Qo 57 (.call (.t 56) []),Qf 58 23 8,Qs 1 58 57]
def r23_18:List O:=[Qc 60 .eql 49 (.i .u8 3),Qv 59 60]
def r23_19:List O:=[Qf 61 2 8,Qv 12 61]
def r23_20:List O:=[Qv 62 12,Qf 63 1 8,Ql 64 63,Qi 65 62,Qf 66 1 65,Qs 1 66 64]
def r23_21:List O:=[Qv 67 12,Qi 68 67,Qf 69 0 68,Qv 70 12,Qi 71 70,Qf 72 2 71,Qv 73 12,Qi 74 73,Qf 75 3 74,Qv 76 12,Qi 77 76,Qf 78 4 77,Qv 79 12,Qi 80 79,Qf 81 5 80,Qv 82 12,Qi 83 82,Qf 84 6 83,Qv 85 12,Qi 86 85,Qf 87 7 86,Qv 88 12,Qi 89 88,Qf 90 8 89,Qo 91 (.buildSl [.pn,.pn,.pn,.pn,.pn,.pn,.pn,.pn] 8 [(0,1,(.t 69)),(1,1,(.t 72)),(2,1,(.t 75)),(3,1,(.t 78)),(4,1,(.t 81)),(5,1,(.t 84)),(6,1,(.t 87)),(7,1,(.t 90))]),Qn 92 91,Qk 93 (.i .i64 0)]
def r23_22:List O:=[Qb 94 .lss 93 92]
def r23_23:List O:=[Qx 95 1 91 93,Ql 96 95,Qv 14 96]
def r23_24:List O:=[Qv 97 14,Qv 98 7,Qo 99 (.call (.t 98) []),Qi 100 97,Qs 1 100 99]
def r23_25:List O:=[Qc 101 .add 93 (.i .i64 1),Qv 93 101]
def b23_1:C:=.seq (.ops r23_22) (.seq (.cond (.t 94) (.skip) (.exit 3)) (.seq (.block 4 (.seq (.ops r23_23) (.ops r23_24))) (.ops r23_25)))
def r23_26:List O:=[Qc 103 .eql 49 (.i .u8 4),Qv 102 103]
def r23_27:List O:=[Qv 104 7,Qo 105 (.call (.t 104) []),Qf 106 2 8,Qf 107 0 106,Qs 1 107 105]
def r23_28:List O:=[Qc 109 .eql 49 (.i .u8 5),Qv 108 109]
def r23_29:List O:=[Qf 110 11 8,Qv 15 110]
def r23_30:List O:=[Qv 111 15,Qf 112 1 8,Ql 113 112,Qi 114 111,Qf 115 1 114,Qs 1 115 113]
def r23_31:List O:=[Qm 16 [.i .i64 0],Qq (.st 1 (.t 16) (.c (.i .i64 0)))]
def r23_32:List O:=[Qv 116 15,Qi 117 116,Qf 118 0 117,Qv 119 15,Qi 120 119,Qf 121 2 120,Qv 122 15,Qi 123 122,Qf 124 3 123,Qv 125 15,Qi 126 125,Qf 127 5 126,Qv 128 15,Qi 129 128,Qf 130 9 129,Qo 131 (.buildSl [.pn,.pn,.pn,.pn,.pn,.pn] 6 [(0,1,(.t 118)),(1,1,(.t 121)),(2,1,(.t 124)),(3,1,(.t 16)),(4,1,(.t 127)),(5,1,(.t 130))]),Qn 132 131,Qk 133 (.i .i64 0)]
def r23_33:List O:=[Qb 134 .lss 133 132]
def r23_34:List O:=[Qx 135 1 131 133,Ql 136 135,Qv 18 136]
def r23_35:List O:=[Qv 137 18,Qv 138 7,Qo 139 (.call (.t 138) []),Qi 140 137,Qs 1 140 139]
def r23_36:List O:=[Qc 141 .add 133 (.i .i64 1),Qv 133 141]
def b23_2:C:=.seq (.ops r23_33) (.seq (.cond (.t 134) (.skip) (.exit 5)) (.seq (.block 6 (.seq (.ops r23_34) (.ops r23_35))) (.ops r23_36)))
def r23_37:List O:=[Ql 142 16,Qg 143 57 [(.t 142),(.c (.i .i64 0)),(.c (.i .i64 255))],Qo 144 (.un .not (.t 143))]
def r23_38:List O:=[Qo 145 (.build [] []),Qo 146 (.mkI 109 (.t 145)),Qq (.panic (.t 146))]
def r23_39:List O:=[Qv 147 15,Ql 148 16,Qo 149 (.conv .u8 (.t 148)),Qi 150 147,Qf 151 4 150,Qs 1 151 149]
def r23_40:List O:=[Qc 153 .eql 49 (.i .u8 6),Qv 152 153]
def r23_41:List O:=[Qc 154 .eql 49 (.i .u8 7),Qv 152 154]
def r23_42:List O:=[Qv 155 7,Qo 156 (.call (.t 155) []),Qf 157 11 8,Qf 158 0 157,Qs 1 158 156]
def r23_43:List O:=[Qd 160 24 8,Qg 161 58 [(.t 160)],Qv 159 161,Qe 162 159 0,Qe 163 159 1,Qv 19 162,Qv 20 163]
def r23_44:List O:=[Qv 164 20,Qc 165 .neq 164 (.i .i64 0),Qv 166 165,QFv 167 166 19,QFv 168 166 0,QFb 169 166 .neq 167 168,Qr 170 166 169]
def r23_45:List O:=[Qo 171 (.build [] []),Qo 172 (.mkI 109 (.t 171)),Qq (.panic (.t 172))]
def r23_46:List O:=[Qd 173 24 8,Qs 24 2 173,Qq (.st 1 (.t 3) (.c (.i .i64 0)))]
def a23:FI:=⟨174,[.cell 2 (some 24),.cell 3 none],.seq (.ops r23_2) (.seq (.ops r23_3) (.seq (.ops r23_4) (.seq (.ops r23_5) (.seq (.ops r23_6) (.seq (.seq (.ops r23_7) (.block 0 (.loop b23_0))) (.seq (.seq (.ops r23_13) (.block 2 (.seq (.seq (.ops r23_14) (.cond (.t 50) (.skip) (.ops r23_15))) (.cond (.t 50) (.seq (.ops r23_16) (.ops r23_17)) (.seq (.ops r23_18) (.cond (.t 59) (.seq (.ops r23_19) (.seq (.ops r23_20) (.seq (.draw r23_21 []) (.block 3 (.loop b23_1))))) (.seq (.ops r23_26) (.cond (.t 102) (.ops r23_27) (.seq (.ops r23_28) (.cond (.t 108) (.seq (.ops r23_29) (.seq (.ops r23_30) (.seq (.ops r23_31) (.seq (.seq (.draw r23_32 []) (.block 5 (.loop b23_2))) (.seq (.seq (.ops r23_37) (.cond (.t 144) (.ops r23_38) (.skip))) (.ops r23_39)))))) (.seq (.seq (.ops r23_40) (.cond (.t 152) (.skip) (.ops r23_41))) (.cond (.t 152) (.ops r23_42) (.skip))))))))))))) (.seq (.seq (.ops r23_43) (.seq (.ops r23_44) (.cond (.t 170) (.ops r23_45) (.skip)))) (.seq (.ops r23_46) (.ret))))))))),some (.seq (.ops r23_0) (.ops r23_1),(.t 21)),none⟩
def r24_0:List O:=[Qh 1 0,Qk 2 (.b false)]
def r24_1:List O:=[Qf 3 0 1,Ql 4 3,Qc 5 .eql 4 (.i .u8 3),Qv 6 5,QFf 7 6 0 1,QFl 8 6 7,QFc 9 6 .eql 8 (.i .u8 4),Qr 10 6 9,Qv 2 10]
def a24:FI:=⟨11,[.tmp 2],.seq (.ops r24_0) (.seq (.ops r24_1) (.ret)),none,none⟩
def r25_0:List O:=[Qh 5 2,Qk 6 (.i .i64 0)]
def r25_1:List O:=[Qv 9 0,Qd 10 24 5,Qg 11 59 [(.t 9),(.t 10)],Qv 7 11]
def r25_2:List O:=[Qv 12 7,Qc 13 .neq 12 (.i .i64 0)]
def r25_3:List O:=[Qv 14 7,Qv 6 14]
def r25_4:List O:=[Qv 15 0,Qi 16 15,Qf 17 1 16,Ql 18 17,Qv 19 1,Qd 20 24 5,Qg 21 60 [(.t 18),(.t 19),(.t 20)],Qv 8 21]
def r25_5:List O:=[Qv 22 8,Qc 23 .neq 22 (.i .i64 0)]
def r25_6:List O:=[Qv 24 8,Qv 6 24]
def r25_7:List O:=[Qv 25 0,Qi 26 25,Qf 27 1 26,Ql 28 27,Qd 29 24 5,Qg 30 61 [(.t 28),(.t 29)]]
def r25_8:List O:=[Qv 31 0,Qv 32 0,Qi 33 32,Qf 34 0 33,Ql 35 34,Qd 36 24 5,Qo 37 (.buildSl ([.i .u8 0]++List.replicate 14 (.i .i64 0)++[.i .u8 0]++[.i .i64 0,.i .i64 0]++[.i .u8 0]++[.i .i64 0,.i .i64 0,.i .i64 0,.i .i64 0,.i .i64 0]) 1 [(0,24,(.t 36))]),Qo 38 (.app 24 192 (.t 35) (.t 37)),Qi 39 31,Qf 40 0 39,Qs 1 40 38]
def r25_9:List O:=[Qk 6 (.i .i64 0)]
def a25:FI:=⟨41,[.tmp 6],.seq (.ops r25_0) (.seq (.seq (.ops r25_1) (.seq (.ops r25_2) (.cond (.t 13) (.seq (.ops r25_3) (.ret)) (.skip)))) (.seq (.seq (.draw r25_4 []) (.seq (.ops r25_5) (.cond (.t 23) (.seq (.ops r25_6) (.ret)) (.skip)))) (.seq (.draw r25_7 []) (.seq (.draw r25_8 []) (.seq (.ops r25_9) (.ret)))))),none,none⟩
def r27_0:List O:=[Qk 4 (.b false)]
def r27_1:List O:=[Qv 5 0,Qv 6 1,Qg 7 64 [(.t 5),(.t 6)],Qc 8 .geq 7 (.i .i64 0),Qv 4 8]
def a27:FI:=⟨9,[.tmp 4],.seq (.ops r27_0) (.seq (.ops r27_1) (.ret)),none,none⟩
def r28_0:List O:=[Qh 1 0,Qk 2 (.b false)]
def r28_1:List O:=[Qf 3 3 1,Ql 4 3,Qc 5 .eql 4 (.i .u8 4),Qv 6 5,QTf 7 6 4 1,QTl 8 6 7,Qa 9 6 8,Qv 2 9]
def a28:FI:=⟨10,[.tmp 2],.seq (.ops r28_0) (.seq (.ops r28_1) (.ret)),none,none⟩
def r29_0:List O:=[Qm 2 ([.i .u8 0]++List.replicate 14 (.i .i64 0)++[.i .u8 0]++[.i .i64 0,.i .i64 0]++[.i .u8 0]++[.i .i64 0,.i .i64 0,.i .i64 0,.i .i64 0,.i .i64 0]),Qk 3 (.i .i64 0)]
def r29_1:List O:=[Qv 11 0,Qo 12 (.lenS (.t 11)),Qc 13 .gtr 12 (.i .i64 200)]
def r29_2:List O:=[Qo 14 (.build ([.i .u8 0]++List.replicate 14 (.i .i64 0)++[.i .u8 0]++[.i .i64 0,.i .i64 0]++[.i .u8 0]++[.i .i64 0,.i .i64 0,.i .i64 0,.i .i64 0,.i .i64 0]) []),Qs 24 2 14,Qk 3 (.i .i64 4)]
def r29_3:List O:=[Qv 15 0,Qg 16 65 [(.t 15)],Qv 4 16]
def r29_4:List O:=[Qv 17 4,Qn 18 17,Qc 19 .lss 18 (.i .i64 3)]
def r29_5:List O:=[Qo 20 (.build ([.i .u8 0]++List.replicate 14 (.i .i64 0)++[.i .u8 0]++[.i .i64 0,.i .i64 0]++[.i .u8 0]++[.i .i64 0,.i .i64 0,.i .i64 0,.i .i64 0,.i .i64 0]) []),Qs 24 2 20,Qk 3 (.i .i64 4)]
def r29_6:List O:=[Qo 21 (.mkSl [.i .i64 0] 8 (.c (.i .i64 10)) (.c (.i .i64 10))),Qv 5 21]
def r29_7:List O:=[Qk 6 (.i .i64 2)]
def r29_8:List O:=[Qv 22 6,Qv 23 4,Qn 24 23,Qb 25 .lss 22 24,Qv 26 25,QTv 27 26 6,QTc 28 26 .lss 27 (.i .i64 12),Qa 29 26 28]
def r29_10:List O:=[Qv 32 5,Qv 33 6,Qc 34 .sub 33 (.i .i64 2),Qv 35 4,Qv 36 6,Qx 37 1 35 36,Ql 38 37,Qg 39 66 [(.t 38)],Qx 40 1 32 34,Qs 1 40 39]
def r29_9:List O:=[Qv 30 6,Qc 31 .add 30 (.i .i64 1),Qv 6 31]
def b29_0:C:=.seq (.seq (.ops r29_8) (.cond (.t 29) (.skip) (.exit 0))) (.seq (.block 1 (.ops r29_10)) (.ops r29_9))
def r29_11:List O:=[Qv 41 4,Qo 42 (.ixS 1 (.t 41) (.c (.i .i64 0))),Ql 43 42,Qg 44 66 [(.t 43)],Qv 7 44]
def r29_12:List O:=[Qv 45 7,Qo 46 (.build ([.i .u8 0]++List.replicate 14 (.i .i64 0)++[.i .u8 0]++[.i .i64 0,.i .i64 0]++[.i .u8 0]++[.i .i64 0,.i .i64 0,.i .i64 0,.i .i64 0,.i .i64 0]) [(1,1,(.t 45))]),Qm 8 ([.i .u8 0]++List.replicate 14 (.i .i64 0)++[.i .u8 0]++[.i .i64 0,.i .i64 0]++[.i .u8 0]++[.i .i64 0,.i .i64 0,.i .i64 0,.i .i64 0,.i .i64 0]),Qs 24 8 46]
def r29_13:List O:=[Qv 47 4,Qo 48 (.ixS 1 (.t 47) (.c (.i .i64 1))),Ql 49 48]
def r29_14:List O:=[Qc 51 .eql 49 (.s [114,97,116,101]),Qv 50 51]
def r29_15:List O:=[Qf 52 0 8,Qq (.st 1 (.t 52) (.c (.i .u8 1)))]
def r29_16:List O:=[Qv 53 5,Qo 54 (.ixS 1 (.t 53) (.c (.i .i64 0))),Ql 55 54,Qf 56 21 8,Qs 1 56 55]
def r29_17:List O:=[Qv 57 5,Qo 58 (.ixS 1 (.t 57) (.c (.i .i64 1))),Ql 59 58,Qf 60 23 8,Qs 1 60 59]
def r29_18:List O:=[Qc 62 .eql 49 (.s [99,101,105,108,105,110,103]),Qv 61 62]
def r29_19:List O:=[Qf 63 0 8,Qq (.st 1 (.t 63) (.c (.i .u8 2)))]
def r29_20:List O:=[Qv 64 5,Qo 65 (.ixS 1 (.t 64) (.c (.i .i64 0))),Ql 66 65,Qf 67 21 8,Qs 1 67 66]
def r29_21:List O:=[Qv 68 5,Qo 69 (.ixS 1 (.t 68) (.c (.i .i64 1))),Ql 70 69,Qf 71 23 8,Qs 1 71 70]
def r29_22:List O:=[Qc 73 .eql 49 (.s [103,114,97,110,116]),Qv 72 73]
def r29_23:List O:=[Qf 74 0 8,Qq (.st 1 (.t 74) (.c (.i .u8 3)))]
def r29_24:List O:=[Qv 75 5,Qo 76 (.ixS 1 (.t 75) (.c (.i .i64 0))),Ql 77 76,Qv 78 7,Qv 79 5,Qo 80 (.ixS 1 (.t 79) (.c (.i .i64 1))),Ql 81 80,Qv 82 5,Qo 83 (.ixS 1 (.t 82) (.c (.i .i64 2))),Ql 84 83,Qv 85 5,Qo 86 (.ixS 1 (.t 85) (.c (.i .i64 3))),Ql 87 86,Qv 88 5,Qo 89 (.ixS 1 (.t 88) (.c (.i .i64 4))),Ql 90 89,Qv 91 5,Qo 92 (.ixS 1 (.t 91) (.c (.i .i64 5))),Ql 93 92,Qv 94 5,Qo 95 (.ixS 1 (.t 94) (.c (.i .i64 6))),Ql 96 95,Qv 97 5,Qo 98 (.ixS 1 (.t 97) (.c (.i .i64 7))),Ql 99 98,Qo 100 (.build (List.replicate 9 (.i .i64 0)) [(0,1,(.t 77)),(1,1,(.t 78)),(2,1,(.t 81)),(3,1,(.t 84)),(4,1,(.t 87)),(5,1,(.t 90)),(6,1,(.t 93)),(7,1,(.t 96)),(8,1,(.t 99))]),Qf 101 2 8,Qs 9 101 100]
def r29_25:List O:=[Qc 103 .eql 49 (.s [101,110,100]),Qv 102 103]
def r29_26:List O:=[Qf 104 0 8,Qq (.st 1 (.t 104) (.c (.i .u8 4)))]
def r29_27:List O:=[Qv 105 5,Qo 106 (.ixS 1 (.t 105) (.c (.i .i64 0))),Ql 107 106,Qf 108 2 8,Qf 109 0 108,Qs 1 109 107]
def r29_28:List O:=[Qc 111 .eql 49 (.s [111,102,102,101,114]),Qv 110 111]
def r29_29:List O:=[Qf 112 0 8,Qq (.st 1 (.t 112) (.c (.i .u8 5)))]
def r29_30:List O:=[Qv 113 5,Qo 114 (.ixS 1 (.t 113) (.c (.i .i64 3))),Ql 115 114,Qc 116 .lss 115 (.i .i64 1),Qv 117 116,QFv 118 117 5,QF 119 117 (.ixS 1 (.t 118) (.c (.i .i64 3))),QFl 120 117 119,QFc 121 117 .gtr 120 (.i .i64 2),Qr 122 117 121]
def r29_31:List O:=[Qo 123 (.build ([.i .u8 0]++List.replicate 14 (.i .i64 0)++[.i .u8 0]++[.i .i64 0,.i .i64 0]++[.i .u8 0]++[.i .i64 0,.i .i64 0,.i .i64 0,.i .i64 0,.i .i64 0]) []),Qs 24 2 123,Qk 3 (.i .i64 4)]
def r29_32:List O:=[Qv 124 5,Qo 125 (.ixS 1 (.t 124) (.c (.i .i64 0))),Ql 126 125,Qv 127 7,Qv 128 5,Qo 129 (.ixS 1 (.t 128) (.c (.i .i64 1))),Ql 130 129,Qv 131 5,Qo 132 (.ixS 1 (.t 131) (.c (.i .i64 2))),Ql 133 132,Qv 134 5,Qo 135 (.ixS 1 (.t 134) (.c (.i .i64 3))),Ql 136 135,Qo 137 (.conv .u8 (.t 136)),Qv 138 5,Qo 139 (.ixS 1 (.t 138) (.c (.i .i64 4))),Ql 140 139,Qv 141 5,Qo 142 (.ixS 1 (.t 141) (.c (.i .i64 5))),Ql 143 142,Qo 144 (.build [.i .i64 0,.i .i64 0,.i .i64 0,.i .i64 0,.i .u8 0,.i .i64 0,.i .i64 0,.i .u8 0,.i .i64 0,.i .i64 0] [(0,1,(.t 126)),(1,1,(.t 127)),(2,1,(.t 130)),(3,1,(.t 133)),(4,1,(.t 137)),(5,1,(.t 140)),(9,1,(.t 143))]),Qf 145 11 8,Qs 10 145 144]
def r29_33:List O:=[Qc 147 .eql 49 (.s [116,97,107,101]),Qv 146 147]
def r29_34:List O:=[Qf 148 0 8,Qq (.st 1 (.t 148) (.c (.i .u8 6)))]
def r29_35:List O:=[Qv 149 5,Qo 150 (.ixS 1 (.t 149) (.c (.i .i64 0))),Ql 151 150,Qf 152 11 8,Qf 153 0 152,Qs 1 153 151]
def r29_36:List O:=[Qc 155 .eql 49 (.s [114,101,102,117,115,101]),Qv 154 155]
def r29_37:List O:=[Qf 156 0 8,Qq (.st 1 (.t 156) (.c (.i .u8 7)))]
def r29_38:List O:=[Qv 157 5,Qo 158 (.ixS 1 (.t 157) (.c (.i .i64 0))),Ql 159 158,Qf 160 11 8,Qf 161 0 160,Qs 1 161 159]
def r29_39:List O:=[Qd 163 24 8,Qg 164 67 [(.t 163)],Qv 162 164,Qe 165 162 0,Qe 166 162 1,Qv 9 165,Qv 10 166]
def r29_40:List O:=[Qv 167 10,Qc 168 .neq 167 (.i .i64 0),Qv 169 168,QFv 170 169 9,QFv 171 169 0,QFb 172 169 .neq 170 171,Qr 173 169 172]
def r29_41:List O:=[Qo 174 (.build ([.i .u8 0]++List.replicate 14 (.i .i64 0)++[.i .u8 0]++[.i .i64 0,.i .i64 0]++[.i .u8 0]++[.i .i64 0,.i .i64 0,.i .i64 0,.i .i64 0,.i .i64 0]) []),Qs 24 2 174,Qk 3 (.i .i64 4)]
def r29_42:List O:=[Qd 175 24 8,Qs 24 2 175,Qk 3 (.i .i64 0)]
def a29:FI:=⟨176,[.cell 2 (some 24),.tmp 3],.seq (.ops r29_0) (.seq (.seq (.ops r29_1) (.cond (.t 13) (.seq (.ops r29_2) (.ret)) (.skip))) (.seq (.ops r29_3) (.seq (.seq (.ops r29_4) (.cond (.t 19) (.seq (.ops r29_5) (.ret)) (.skip))) (.seq (.ops r29_6) (.seq (.seq (.ops r29_7) (.block 0 (.loop b29_0))) (.seq (.ops r29_11) (.seq (.ops r29_12) (.seq (.seq (.ops r29_13) (.block 2 (.seq (.ops r29_14) (.cond (.t 50) (.seq (.ops r29_15) (.seq (.ops r29_16) (.ops r29_17))) (.seq (.ops r29_18) (.cond (.t 61) (.seq (.ops r29_19) (.seq (.ops r29_20) (.ops r29_21))) (.seq (.ops r29_22) (.cond (.t 72) (.seq (.ops r29_23) (.draw r29_24 [])) (.seq (.ops r29_25) (.cond (.t 102) (.seq (.ops r29_26) (.ops r29_27)) (.seq (.ops r29_28) (.cond (.t 110) (.seq (.ops r29_29) (.seq (.seq (.ops r29_30) (.cond (.t 122) (.seq (.ops r29_31) (.ret)) (.skip))) (.draw r29_32 []))) (.seq (.ops r29_33) (.cond (.t 146) (.seq (.ops r29_34) (.ops r29_35)) (.seq (.ops r29_36) (.cond (.t 154) (.seq (.ops r29_37) (.ops r29_38)) (.skip))))))))))))))))) (.seq (.ops r29_39) (.seq (.seq (.ops r29_40) (.cond (.t 173) (.seq (.ops r29_41) (.ret)) (.skip))) (.seq (.ops r29_42) (.ret)))))))))))),none,none⟩
def r30_0:List O:=[Qh 1 0,Qk 2 (.b false)]
def r30_1:List O:=[Qf 3 0 1,Ql 4 3,Qc 5 .eql 4 (.i .u8 3),Qv 6 5,QFf 7 6 0 1,QFl 8 6 7,QFc 9 6 .eql 8 (.i .u8 4),Qr 10 6 9,Qv 2 10]
def a30:FI:=⟨11,[.tmp 2],.seq (.ops r30_0) (.seq (.ops r30_1) (.ret)),none,none⟩
def r31_0:List O:=[Qh 3 0,Qh 5 2,Qm 6 [.sn],Qk 7 (.i .i64 0)]
def r31_1:List O:=[Qd 9 1 3,Qv 10 1,Qd 11 24 5,Qg 12 68 [(.t 9),(.t 10),(.t 11)],Qv 8 12]
def r31_2:List O:=[Qv 13 8,Qc 14 .neq 13 (.i .i64 0)]
def r31_3:List O:=[Qd 15 1 3,Qv 16 8,Qs 1 6 15,Qv 7 16]
def r31_4:List O:=[Qo 17 (.buildSl [] 0 []),Qf 18 0 3,Ql 19 18,Qo 20 (.app 24 192 (.t 17) (.t 19)),Qd 21 24 5,Qo 22 (.buildSl ([.i .u8 0]++List.replicate 14 (.i .i64 0)++[.i .u8 0]++[.i .i64 0,.i .i64 0]++[.i .u8 0]++[.i .i64 0,.i .i64 0,.i .i64 0,.i .i64 0,.i .i64 0]) 1 [(0,24,(.t 21))]),Qo 23 (.app 24 192 (.t 20) (.t 22)),Qo 24 (.build [.sn] [(0,1,(.t 23))]),Qs 1 6 24,Qk 7 (.i .i64 0)]
def a31:FI:=⟨25,[.cell 6 (some 1),.tmp 7],.seq (.ops r31_0) (.seq (.ops r31_1) (.seq (.seq (.ops r31_2) (.cond (.t 14) (.seq (.ops r31_3) (.ret)) (.skip))) (.seq (.draw r31_4 [(3,4)]) (.ret)))),none,none⟩
def r35_0:List O:=[Qh 1 0,Qk 2 (.b false)]
def r35_1:List O:=[Qf 3 0 1,Ql 4 3,Qg 5 43 [(.t 4),(.c (.i .i64 0)),(.c (.i .i64 1999))],Qo 6 (.un .not (.t 5)),Qv 7 6,QFf 8 7 1 1,QFl 9 7 8,QFg 10 7 43 [(.t 9),(.c (.i .i64 0)),(.c (.i .i64 100000))],QF 11 7 (.un .not (.t 10)),Qr 12 7 11,Qv 13 12,QFf 14 13 2 1,QFl 15 13 14,QFg 16 13 43 [(.t 15),(.c (.i .i64 0)),(.c (.i .i64 7))],QF 17 13 (.un .not (.t 16)),Qr 18 13 17,Qv 19 18,QFf 20 19 3 1,QFl 21 19 20,QF 22 19 (.conv .i64 (.t 21)),QFg 23 19 43 [(.t 22),(.c (.i .i64 1)),(.c (.i .i64 7))],QF 24 19 (.un .not (.t 23)),Qr 25 19 24]
def r35_2:List O:=[Qk 2 (.b false)]
def r35_3:List O:=[Qf 26 4 1,Ql 27 26]
def r35_4:List O:=[Qf 28 5 1,Ql 29 28,Qc 30 .eql 29 (.s []),Qv 31 30,QTf 32 31 6 1,QTl 33 31 32,QTc 34 31 .eql 33 (.i .i64 0),Qa 35 31 34,Qv 2 35]
def r35_5:List O:=[Qf 36 5 1,Ql 37 36,Qo 38 (.lenS (.t 37)),Qc 39 .leq 38 (.i .i64 7000),Qv 40 39,QTf 41 40 6 1,QTl 42 40 41,QTg 43 40 43 [(.t 42),(.c (.i .i64 0)),(.c (.i .i64 9007199254740992))],Qa 44 40 43,Qv 45 44,QTf 46 45 7 1,QTd 47 45 32 46,QTf 48 45 6 1,QTl 49 45 48,QTf 50 45 5 1,QTl 51 45 50,QTg 52 45 44 [(.t 49),(.t 51)],QT 53 45 (.eqv false (.agg (List.replicate 32 (.i .u8:KT))) (.t 47) (.t 52)),Qa 54 45 53,Qv 2 54]
def a35:FI:=⟨55,[.tmp 2],.seq (.ops r35_0) (.seq (.seq (.ops r35_1) (.cond (.t 25) (.seq (.ops r35_2) (.ret)) (.skip))) (.seq (.seq (.ops r35_3) (.cond (.t 27) (.seq (.ops r35_4) (.ret)) (.skip))) (.seq (.draw r35_5 [(11,16)]) (.ret)))),none,none⟩
def r36_0:List O:=[Qh 4 1,Qk 6 (.b false)]
def r36_1:List O:=[Qf 9 0 4,Ql 10 9,Qc 11 .eql 10 (.i .u8 5)]
def r36_2:List O:=[Qf 12 11 4,Qf 13 2 12,Ql 14 13,Qv 15 2,Qb 16 .eql 14 15,Qv 17 16,QFf 18 17 11 4,QFf 19 17 3 18,QFl 20 17 19,QFv 21 17 2,QFb 22 17 .eql 20 21,Qr 23 17 22,Qv 6 23]
def r36_3:List O:=[Qv 25 0,Qg 26 8 [(.t 25)],Qv 24 26,Qe 27 24 0,Qe 28 24 1,Qv 7 27,Qv 8 28]
def r36_4:List O:=[Qv 29 8,Qo 30 (.un .not (.t 29))]
def r36_5:List O:=[Qk 6 (.b false)]
def r36_6:List O:=[Qv 31 7,Qv 32 2,Qg 33 72 [(.t 31),(.t 32),(.c (.i .i64 100000))],Qo 34 (.mkFn 73 [] [(.t 4)]),Qg 35 71 [(.t 33),(.t 34)],Qv 6 35]
def a36:FI:=⟨36,[.tmp 6],.seq (.ops r36_0) (.seq (.seq (.ops r36_1) (.cond (.t 11) (.seq (.ops r36_2) (.ret)) (.skip))) (.seq (.ops r36_3) (.seq (.seq (.ops r36_4) (.cond (.t 30) (.seq (.ops r36_5) (.ret)) (.skip))) (.seq (.ops r36_6) (.ret))))),none,none⟩
def r37_0:List O:=[Qh 1 0,Qm 2 ([.i .i64 0,.i .i64 0,.i .i64 0]++[.i .u8 0]++[.b false]++[.s []]++[.i .i64 0]++List.replicate 64 (.i .u8 0)),Qk 3 (.i .i64 0)]
def r37_1:List O:=[Qd 4 71 1,Qg 5 35 [(.t 4)],Qo 6 (.un .not (.t 5))]
def r37_2:List O:=[Qo 7 (.build ([.i .i64 0,.i .i64 0,.i .i64 0]++[.i .u8 0]++[.b false]++[.s []]++[.i .i64 0]++List.replicate 64 (.i .u8 0)) []),Qs 71 2 7,Qk 3 (.i .i64 1)]
def r37_3:List O:=[Qf 8 4 1,Qq (.st 1 (.t 8) (.c (.b true))),Qf 9 5 1,Qq (.st 1 (.t 9) (.c (.s []))),Qf 10 6 1,Qq (.st 1 (.t 10) (.c (.i .i64 0)))]
def r37_4:List O:=[Qd 11 71 1,Qs 71 2 11,Qk 3 (.i .i64 0)]
def a37:FI:=⟨12,[.cell 2 (some 71),.tmp 3],.seq (.ops r37_0) (.seq (.seq (.ops r37_1) (.cond (.t 6) (.seq (.ops r37_2) (.ret)) (.skip))) (.seq (.ops r37_3) (.seq (.ops r37_4) (.ret)))),none,none⟩
def r38_0:List O:=[Qh 5 2,Qk 6 (.i .i64 0),Qk 7 (.i .i64 0)]
def r38_1:List O:=[Qf 11 0 5,Ql 12 11,Qc 13 .eql 12 (.i .u8 5)]
def r38_2:List O:=[Qf 14 11 5,Qf 15 2 14,Ql 16 15,Qf 17 11 5,Qf 18 3 17,Ql 19 18,Qv 6 16,Qv 7 19]
def r38_3:List O:=[Qv 21 0,Qv 22 1,Qo 23 (.slc 71 (.t 21) none (some (.t 22)) none),Qg 24 9 [(.t 23)],Qv 20 24,Qe 25 20 0,Qe 26 20 1,Qm 8 [.sn],Qs 1 8 25,Qv 9 26]
def r38_4:List O:=[Qd 27 1 8,Qg 28 74 [(.t 27)],Qv 10 28]
def r38_5:List O:=[Qv 29 9,Qo 30 (.un .not (.t 29)),Qv 31 30,QFf 32 31 11 5,QFf 33 31 0 32,QFl 34 31 33,QFc 35 31 .lss 34 (.i .i64 1),Qr 36 31 35,Qv 37 36,QFf 38 37 11 5,QFf 39 37 0 38,QFl 40 37 39,QFv 41 37 10,QFn 42 37 41,QFb 43 37 .gtr 40 42,Qr 44 37 43]
def r38_6:List O:=[Qk 6 (.i .i64 0),Qk 7 (.i .i64 0)]
def r38_7:List O:=[Qv 45 10,Qf 46 11 5,Qf 47 0 46,Ql 48 47,Qc 49 .sub 48 (.i .i64 1),Qx 50 10 45 49,Qf 51 2 50,Ql 52 51,Qv 53 10,Qf 54 11 5,Qf 55 0 54,Ql 56 55,Qc 57 .sub 56 (.i .i64 1),Qx 58 10 53 57,Qf 59 3 58,Ql 60 59,Qv 6 52,Qv 7 60]
def a38:FI:=⟨61,[.tmp 6,.tmp 7],.seq (.ops r38_0) (.seq (.seq (.ops r38_1) (.cond (.t 13) (.seq (.draw r38_2 []) (.ret)) (.skip))) (.seq (.ops r38_3) (.seq (.ops r38_4) (.seq (.seq (.ops r38_5) (.cond (.t 44) (.seq (.ops r38_6) (.ret)) (.skip))) (.seq (.draw r38_7 []) (.ret)))))),none,none⟩
def r39_0:List O:=[Qh 1 0,Qm 2 ([.i .i64 0,.i .i64 0,.i .i64 0]++[.i .u8 0]++[.b false]++[.s []]++[.i .i64 0]++List.replicate 64 (.i .u8 0)),Qk 3 (.i .i64 0)]
def r39_1:List O:=[Qd 5 71 1,Qg 6 75 [(.t 5)],Qv 4 6]
def r39_2:List O:=[Qv 7 4,Qo 8 (.un .not (.t 7))]
def r39_3:List O:=[Qo 9 (.build ([.i .i64 0,.i .i64 0,.i .i64 0]++[.i .u8 0]++[.b false]++[.s []]++[.i .i64 0]++List.replicate 64 (.i .u8 0)) []),Qs 71 2 9,Qk 3 (.i .i64 1)]
def r39_4:List O:=[Qf 10 4 1,Qq (.st 1 (.t 10) (.c (.b true)))]
def r39_5:List O:=[Qf 11 5 1,Qq (.st 1 (.t 11) (.c (.s [])))]
def r39_6:List O:=[Qf 12 6 1,Qq (.st 1 (.t 12) (.c (.i .i64 0)))]
def r39_7:List O:=[Qd 13 71 1,Qs 71 2 13,Qk 3 (.i .i64 0)]
def a39:FI:=⟨14,[.cell 2 (some 71),.tmp 3],.seq (.ops r39_0) (.seq (.ops r39_1) (.seq (.seq (.ops r39_2) (.cond (.t 8) (.seq (.ops r39_3) (.ret)) (.skip))) (.seq (.ops r39_4) (.seq (.ops r39_5) (.seq (.ops r39_6) (.seq (.ops r39_7) (.ret))))))),none,none⟩
def r40_0:List O:=[Qk 2 (.sn)]
def r40_1:List O:=[Qv 3 0,Qo 4 (.eqv false (.slice) (.t 3) (.c (.sn)))]
def r40_2:List O:=[Qk 2 (.sn)]
def r40_3:List O:=[Qo 5 (.buildSl [] 0 []),Qv 6 0,Qo 7 (.app 1 1 (.t 5) (.t 6)),Qv 2 7]
def a40:FI:=⟨8,[.tmp 2],.seq (.ops r40_0) (.seq (.seq (.ops r40_1) (.cond (.t 4) (.seq (.ops r40_2) (.ret)) (.skip))) (.seq (.ops r40_3) (.ret))),none,none⟩
def r41_0:List O:=[Qh 2 0,Qm 4 [.i .u32 0,.i .u32 0,.i .u32 0,.i .u32 0,.i .u32 0,.i .u32 0,.i .u32 0,.i .u32 0]]
def r41_1:List O:=[Qg 20 76 [],Qm 5 (List.replicate 64 (.i .u32 0)),Qs 64 5 20]
def r41_2:List O:=[Qm 6 (List.replicate 64 (.i .u32 0))]
def r41_3:List O:=[Qk 21 (.i .i64 0)]
def r41_4:List O:=[Qc 22 .lss 21 (.i .i64 16)]
def r41_5:List O:=[Qv 23 21,Qv 7 23]
def r41_6:List O:=[Qv 24 1,Qv 25 7,Qo 26 (.bin .mul (.c (.i .i64 4)) (.t 25)),Qv 27 7,Qo 28 (.bin .mul (.c (.i .i64 4)) (.t 27)),Qc 29 .add 28 (.i .i64 4),Qo 30 (.slc 1 (.t 24) (some (.t 26)) (some (.t 29)) none),Qn 31 30,Qk 32 (.i .i64 0)]
def r41_7:List O:=[Qb 33 .lss 32 31]
def r41_8:List O:=[Qx 34 1 30 32,Ql 35 34,Qv 9 35]
def r41_9:List O:=[Qv 36 7,Qv 37 7,Qo 38 (.ixA 64 1 (.t 6) (.t 37)),Ql 39 38,Qc 40 .shl 39 (.i .u64 8),Qv 41 9,Qo 42 (.conv .u32 (.t 41)),Qb 43 .or 40 42,Qo 44 (.ixA 64 1 (.t 6) (.t 36)),Qs 1 44 43]
def r41_10:List O:=[Qc 45 .add 32 (.i .i64 1),Qv 32 45]
def b41_0:C:=.seq (.ops r41_7) (.seq (.cond (.t 33) (.skip) (.exit 2)) (.seq (.block 3 (.seq (.ops r41_8) (.ops r41_9))) (.ops r41_10)))
def r41_11:List O:=[Qc 46 .add 21 (.i .i64 1),Qv 21 46]
def b41_1:C:=.seq (.ops r41_4) (.seq (.cond (.t 22) (.skip) (.exit 0)) (.seq (.block 1 (.seq (.ops r41_5) (.seq (.ops r41_6) (.block 2 (.loop b41_0))))) (.ops r41_11)))
def r41_12:List O:=[Qk 10 (.i .i64 16)]
def r41_13:List O:=[Qv 47 10,Qc 48 .lss 47 (.i .i64 64)]
def r41_15:List O:=[Qv 51 10,Qc 52 .sub 51 (.i .i64 15),Qo 53 (.ixA 64 1 (.t 6) (.t 52)),Ql 54 53,Qv 55 10,Qc 56 .sub 55 (.i .i64 2),Qo 57 (.ixA 64 1 (.t 6) (.t 56)),Ql 58 57,Qv 11 54,Qv 12 58]
def r41_16:List O:=[Qv 59 10,Qv 60 12,Qv 61 12,Qc 62 .shr 61 (.i .u64 10),Qg 63 77 [(.t 60),(.c (.i .i64 17)),(.c (.i .i64 19)),(.t 62)],Qv 64 10,Qc 65 .sub 64 (.i .i64 7),Qo 66 (.ixA 64 1 (.t 6) (.t 65)),Ql 67 66,Qb 68 .add 63 67,Qv 69 11,Qv 70 11,Qc 71 .shr 70 (.i .u64 3),Qg 72 77 [(.t 69),(.c (.i .i64 7)),(.c (.i .i64 18)),(.t 71)],Qb 73 .add 68 72,Qv 74 10,Qc 75 .sub 74 (.i .i64 16),Qo 76 (.ixA 64 1 (.t 6) (.t 75)),Ql 77 76,Qb 78 .add 73 77,Qo 79 (.ixA 64 1 (.t 6) (.t 59)),Qs 1 79 78]
def r41_14:List O:=[Qv 49 10,Qc 50 .add 49 (.i .i64 1),Qv 10 50]
def b41_2:C:=.seq (.seq (.ops r41_13) (.cond (.t 48) (.skip) (.exit 4))) (.seq (.block 5 (.seq (.draw r41_15 []) (.draw r41_16 [(4,8),(8,13),(4,18),(13,18)]))) (.ops r41_14))
def r41_17:List O:=[Qd 80 8 2,Qm 13 [.i .u32 0,.i .u32 0,.i .u32 0,.i .u32 0,.i .u32 0,.i .u32 0,.i .u32 0,.i .u32 0],Qs 8 13 80]
def r41_18:List O:=[Qk 81 (.i .i64 0)]
def r41_19:List O:=[Qc 82 .lss 81 (.i .i64 64)]
def r41_20:List O:=[Qv 83 81,Qv 14 83]
def r41_21:List O:=[Qo 84 (.ixA 8 1 (.t 13) (.c (.i .i64 0))),Ql 85 84,Qo 86 (.ixA 8 1 (.t 13) (.c (.i .i64 4))),Ql 87 86,Qv 15 85,Qv 16 87]
def r41_22:List O:=[Qo 88 (.ixA 8 1 (.t 13) (.c (.i .i64 7))),Ql 89 88,Qv 90 16,Qv 91 16,Qg 92 78 [(.t 91),(.c (.i .i64 (-25)))],Qg 93 77 [(.t 90),(.c (.i .i64 6)),(.c (.i .i64 11)),(.t 92)],Qb 94 .add 89 93,Qv 95 16,Qo 96 (.ixA 8 1 (.t 13) (.c (.i .i64 5))),Ql 97 96,Qb 98 .and 95 97,Qv 99 16,Qo 100 (.un .xor (.t 99)),Qo 101 (.ixA 8 1 (.t 13) (.c (.i .i64 6))),Ql 102 101,Qb 103 .and 100 102,Qb 104 .xor 98 103,Qb 105 .add 94 104,Qv 106 14,Qo 107 (.ixA 64 1 (.t 5) (.t 106)),Ql 108 107,Qb 109 .add 105 108,Qv 110 14,Qo 111 (.ixA 64 1 (.t 6) (.t 110)),Ql 112 111,Qb 113 .add 109 112,Qv 17 113]
def r41_23:List O:=[Qv 114 15,Qv 115 15,Qg 116 78 [(.t 115),(.c (.i .i64 (-22)))],Qg 117 77 [(.t 114),(.c (.i .i64 2)),(.c (.i .i64 13)),(.t 116)],Qv 118 15,Qo 119 (.ixA 8 1 (.t 13) (.c (.i .i64 1))),Ql 120 119,Qb 121 .and 118 120,Qv 122 15,Qo 123 (.ixA 8 1 (.t 13) (.c (.i .i64 2))),Ql 124 123,Qb 125 .and 122 124,Qb 126 .xor 121 125,Qo 127 (.ixA 8 1 (.t 13) (.c (.i .i64 1))),Ql 128 127,Qo 129 (.ixA 8 1 (.t 13) (.c (.i .i64 2))),Ql 130 129,Qb 131 .and 128 130,Qb 132 .xor 126 131,Qb 133 .add 117 132,Qv 18 133]
def r41_24:List O:=[Qv 134 17,Qv 135 18,Qb 136 .add 134 135,Qv 137 15,Qo 138 (.ixA 8 1 (.t 13) (.c (.i .i64 1))),Ql 139 138,Qo 140 (.ixA 8 1 (.t 13) (.c (.i .i64 2))),Ql 141 140,Qo 142 (.ixA 8 1 (.t 13) (.c (.i .i64 3))),Ql 143 142,Qv 144 17,Qb 145 .add 143 144,Qv 146 16,Qo 147 (.ixA 8 1 (.t 13) (.c (.i .i64 5))),Ql 148 147,Qo 149 (.ixA 8 1 (.t 13) (.c (.i .i64 6))),Ql 150 149,Qo 151 (.build [.i .u32 0,.i .u32 0,.i .u32 0,.i .u32 0,.i .u32 0,.i .u32 0,.i .u32 0,.i .u32 0] [(0,1,(.t 136)),(1,1,(.t 137)),(2,1,(.t 139)),(3,1,(.t 141)),(4,1,(.t 145)),(5,1,(.t 146)),(6,1,(.t 148)),(7,1,(.t 150))]),Qs 8 13 151]
def r41_25:List O:=[Qc 152 .add 81 (.i .i64 1),Qv 81 152]
def b41_3:C:=.seq (.ops r41_19) (.seq (.cond (.t 82) (.skip) (.exit 6)) (.seq (.block 7 (.seq (.ops r41_20) (.seq (.draw r41_21 []) (.seq (.draw r41_22 [(1,4),(1,5),(4,9),(5,9),(4,14),(5,14),(4,20),(5,20),(4,24),(5,24)]) (.seq (.draw r41_23 [(2,6),(3,6),(2,10),(3,10),(2,14),(3,14),(2,16),(3,16)]) (.ops r41_24)))))) (.ops r41_25)))
def r41_26:List O:=[Qk 153 (.i .i64 0)]
def r41_27:List O:=[Qc 154 .lss 153 (.i .i64 8)]
def r41_28:List O:=[Qv 155 153,Qv 19 155]
def r41_29:List O:=[Qv 156 19,Qo 157 (.ixA 8 1 (.t 13) (.t 156)),Ql 158 157,Qv 159 19,Qo 160 (.ixA 8 1 (.t 2) (.t 159)),Ql 161 160,Qb 162 .add 158 161,Qo 163 (.ixA 8 1 (.t 13) (.t 156)),Qs 1 163 162]
def r41_30:List O:=[Qc 164 .add 153 (.i .i64 1),Qv 153 164]
def b41_4:C:=.seq (.ops r41_27) (.seq (.cond (.t 154) (.skip) (.exit 8)) (.seq (.block 9 (.seq (.ops r41_28) (.draw r41_29 []))) (.ops r41_30)))
def r41_31:List O:=[Qd 165 8 13,Qs 8 4 165]
def a41:FI:=⟨166,[.cell 4 (some 8)],.seq (.ops r41_0) (.seq (.ops r41_1) (.seq (.ops r41_2) (.seq (.seq (.ops r41_3) (.block 0 (.loop b41_1))) (.seq (.seq (.ops r41_12) (.block 4 (.loop b41_2))) (.seq (.ops r41_17) (.seq (.seq (.ops r41_18) (.block 6 (.loop b41_3))) (.seq (.seq (.ops r41_26) (.block 8 (.loop b41_4))) (.seq (.ops r41_31) (.ret))))))))),none,none⟩
end Go.Air.Try
set_option maxRecDepth 100000
namespace Go.Air.Try
def r42_0:List O:=[Qk 2 (.i .i64 0),Qk 3 (.i .i64 0)]
def r42_1:List O:=[Qv 7 0,Qn 8 7,Qk 9 (.i .i64 0)]
def r42_2:List O:=[Qb 10 .lss 9 8]
def r42_3:List O:=[Qv 11 9,Qx 12 71 7 9,Qd 13 71 12,Qm 5 ([.i .i64 0,.i .i64 0,.i .i64 0]++[.i .u8 0]++[.b false]++[.s []]++[.i .i64 0]++List.replicate 64 (.i .u8 0)),Qv 4 11,Qs 71 5 13]
def r42_4:List O:=[Qm 6 (List.replicate 32 (.i .u8 0))]
def r42_5:List O:=[Qv 14 4,Qc 15 .gtr 14 (.i .i64 0)]
def r42_6:List O:=[Qv 16 0,Qv 17 4,Qc 18 .sub 17 (.i .i64 1),Qx 19 71 16 18,Qd 20 71 19,Qg 21 45 [(.t 20)],Qs 32 6 21]
def r42_7:List O:=[Qv 23 4,Qc 24 .geq 23 (.i .i64 2000),Qv 22 24]
def r42_8:List O:=[Qv 25 4,Qv 2 25,Qk 3 (.i .i64 2)]
def r42_9:List O:=[Qd 27 71 5,Qg 28 35 [(.t 27)],Qo 29 (.un .not (.t 28)),Qv 30 29,QFf 31 30 0 5,QFl 32 30 31,QFv 33 30 4,QFb 34 30 .neq 32 33,Qr 35 30 34,Qv 26 35]
def r42_10:List O:=[Qv 36 4,Qv 2 36,Qk 3 (.i .i64 1)]
def r42_11:List O:=[Qv 38 4,Qc 39 .gtr 38 (.i .i64 0),Qv 40 39,QTf 41 40 1 5,QTl 42 40 41,QTv 43 40 0,QTv 44 40 4,QTc 45 40 .sub 44 (.i .i64 1),QTx 46 40 71 43 45,QTf 47 40 1 46,QTl 48 40 47,QTb 49 40 .lss 42 48,Qa 50 40 49,Qv 37 50]
def r42_12:List O:=[Qv 51 4,Qv 2 51,Qk 3 (.i .i64 7)]
def r42_13:List O:=[Qf 53 39 5,Qd 54 32 53,Qd 55 32 6,Qo 56 (.eqv true (.agg (List.replicate 32 (.i .u8:KT))) (.t 54) (.t 55)),Qv 52 56]
def r42_14:List O:=[Qv 57 4,Qv 2 57,Qk 3 (.i .i64 90)]
def r42_15:List O:=[Qc 58 .add 9 (.i .i64 1),Qv 9 58]
def b42_0:C:=.seq (.ops r42_2) (.seq (.cond (.t 10) (.skip) (.exit 0)) (.seq (.block 1 (.seq (.ops r42_3) (.seq (.ops r42_4) (.seq (.seq (.ops r42_5) (.cond (.t 15) (.ops r42_6) (.skip))) (.block 2 (.seq (.ops r42_7) (.cond (.t 22) (.seq (.ops r42_8) (.ret)) (.seq (.ops r42_9) (.cond (.t 26) (.seq (.ops r42_10) (.ret)) (.seq (.draw r42_11 []) (.cond (.t 37) (.seq (.ops r42_12) (.ret)) (.seq (.ops r42_13) (.cond (.t 52) (.seq (.ops r42_14) (.ret)) (.skip)))))))))))))) (.ops r42_15)))
def r42_16:List O:=[Qk 2 (.i .i64 0),Qk 3 (.i .i64 0)]
def a42:FI:=⟨59,[.tmp 2,.tmp 3],.seq (.ops r42_0) (.seq (.seq (.ops r42_1) (.block 0 (.loop b42_0))) (.seq (.ops r42_16) (.ret))),none,none⟩
def r43_0:List O:=[Qk 6 (.b false)]
def r43_1:List O:=[Qv 7 0,Qv 8 1,Qb 9 .geq 7 8,Qv 10 9,QTv 11 10 0,QTv 12 10 2,QTb 13 10 .leq 11 12,Qa 14 10 13,Qv 6 14]
def a43:FI:=⟨15,[.tmp 6],.seq (.ops r43_0) (.seq (.ops r43_1) (.ret)),none,none⟩
def r44_0:List O:=[Qm 4 (List.replicate 32 (.i .u8 0))]
def r44_1:List O:=[Qv 5 0,Qg 6 79 [(.t 5)],Qo 7 (.bin .add (.c (.s [115])) (.t 6)),Qc 8 .add 7 (.s [47]),Qv 9 1,Qb 10 .add 8 9,Qo 11 (.s2b (.t 10)),Qg 12 16 [(.t 11)],Qs 32 4 12]
def a44:FI:=⟨13,[.cell 4 (some 32)],.seq (.ops r44_0) (.seq (.ops r44_1) (.ret)),none,none⟩
def r45_0:List O:=[Qh 1 0,Qm 2 (List.replicate 32 (.i .u8 0))]
def r45_1:List O:=[Qf 4 0 1,Ql 5 4,Qf 6 1 1,Ql 7 6,Qf 8 2 1,Ql 9 8,Qf 10 3 1,Ql 11 10,Qo 12 (.conv .i64 (.t 11)),Qo 13 (.buildSl [.i .i64 0,.i .i64 0,.i .i64 0,.i .i64 0] 4 [(0,1,(.t 5)),(1,1,(.t 7)),(2,1,(.t 9)),(3,1,(.t 12))]),Qg 14 48 [(.t 13)],Qo 15 (.bin .add (.c (.s [98,32])) (.t 14)),Qc 16 .add 15 (.s [10]),Qo 17 (.s2b (.t 16)),Qv 3 17]
def r45_2:List O:=[Qv 18 3,Qf 19 7 1,Qo 20 (.slcA 32 1 (.t 19) none none),Qo 21 (.app 1 1 (.t 18) (.t 20)),Qv 3 21]
def r45_3:List O:=[Qv 22 3,Qf 23 39 1,Qo 24 (.slcA 32 1 (.t 23) none none),Qo 25 (.app 1 1 (.t 22) (.t 24)),Qg 26 16 [(.t 25)],Qs 32 2 26]
def a45:FI:=⟨27,[.cell 2 (some 32)],.seq (.ops r45_0) (.seq (.ops r45_1) (.seq (.ops r45_2) (.seq (.ops r45_3) (.ret)))),none,none⟩
def r46_0:List O:=[Qm 2 [.i .u8 0]]
def r46_1:List O:=[Qo 4 (.mkFn 80 [] [(.t 2)]),Qq (.mov (.c (.tup [])))]
def r46_2:List O:=[Qo 5 (.mkMap),Qq (.mapSet (.sc (.i .u8)) (.t 5) (.c (.i .u8 1)) (.f 81)),Qq (.mapSet (.sc (.i .u8)) (.t 5) (.c (.i .u8 2)) (.f 82)),Qq (.mapSet (.sc (.i .u8)) (.t 5) (.c (.i .u8 3)) (.f 83)),Qq (.mapSet (.sc (.i .u8)) (.t 5) (.c (.i .u8 4)) (.f 84)),Qq (.mapSet (.sc (.i .u8)) (.t 5) (.c (.i .u8 5)) (.f 85)),Qq (.mapSet (.sc (.i .u8)) (.t 5) (.c (.i .u8 6)) (.f 86)),Qq (.mapSet (.sc (.i .u8)) (.t 5) (.c (.i .u8 7)) (.f 87)),Qv 6 5,Qv 3 6]
def r46_3:List O:=[Qv 7 0,Qv 8 0,Qi 9 8,Qf 10 2 9,Qf 11 2 10,Ql 12 11,Qc 13 .eql 12 (.i .i64 0),Qv 14 13,QTv 15 14 0,QTi 16 14 15,QTf 17 14 2 16,QTf 18 14 4 17,QTl 19 14 18,QT 20 14 (.un .not (.t 19)),QTv 21 14 20,QFv 22 21 0,QFi 23 21 22,QFf 24 21 2 23,QFf 25 21 3 24,QFl 26 21 25,QFc 27 21 .eql 26 (.i .u8 4),QTr 28 14 21 27,Qa 29 14 28,Qg 30 88 [(.t 7),(.t 29),(.c (.i .u8 2))]]
def r46_4:List O:=[Qv 31 3,Qv 32 0,Qi 33 32,Qf 34 2 33,Qf 35 3 34,Ql 36 35,Qo 37 (.look (.sc (.i .u8)) (.fnil) false (.t 31) (.t 36)),Qv 38 0,Qo 39 (.call (.t 37) [(.t 38)])]
def r46_5:List O:=[Qq (.st 1 (.t 2) (.c (.i .u8 0)))]
def a46:FI:=⟨40,[.cell 2 none],.seq (.ops r46_2) (.seq (.ops r46_3) (.seq (.ops r46_4) (.seq (.ops r46_5) (.ret)))),some (.seq (.ops r46_0) (.ops r46_1),(.t 4)),none⟩
def r47_0:List O:=[Qh 1 0,Qk 2 (.b false)]
def r47_1:List O:=[Qf 3 0 1,Ql 4 3,Qg 5 43 [(.t 4),(.c (.i .i64 1)),(.c (.i .i64 1000000))],Qv 6 5,QTf 7 6 7 1,QTl 8 6 7,QTg 9 6 43 [(.t 8),(.c (.i .i64 0)),(.c (.i .i64 1000000))],Qa 10 6 9,Qv 11 10,QTf 12 11 8 1,QTl 13 11 12,QTg 14 11 43 [(.t 13),(.c (.i .i64 0)),(.c (.i .i64 24))],Qa 15 11 14,Qv 16 15,QTf 17 16 11 1,QTl 18 16 17,QTg 19 16 43 [(.t 18),(.c (.i .i64 0)),(.c (.i .i64 24))],Qa 20 16 19,Qv 21 20,QTf 22 21 10 1,QTl 23 21 22,QTg 24 21 43 [(.t 23),(.c (.i .i64 0)),(.c (.i .i64 1000000))],Qa 25 21 24,Qv 26 25,QTf 27 26 1 1,QTd 28 26 5 27,QTg 29 26 89 [(.t 28)],QTc 30 26 .eql 29 (.i .i64 0),Qa 31 26 30,Qv 32 31,QTf 33 32 6 1,QTl 34 32 33,QTg 35 32 90 [(.t 34)],QTc 36 32 .eql 35 (.i .i64 0),Qa 37 32 36,Qv 38 37,QTf 39 38 6 1,QTl 40 38 39,QTn 41 38 40,QTf 42 38 9 1,QTl 43 38 42,QTg 44 38 91 [(.t 41),(.t 43)],QTc 45 38 .eql 44 (.i .i64 0),Qa 46 38 45,Qv 2 46]
def a47:FI:=⟨47,[.tmp 2],.seq (.ops r47_0) (.seq (.ops r47_1) (.ret)),none,none⟩
def r48_0:List O:=[Qk 2 (.s [])]
def r48_1:List O:=[Qk 3 (.sn)]
def r48_2:List O:=[Qv 6 0,Qn 7 6,Qk 8 (.i .i64 0)]
def r48_3:List O:=[Qb 9 .lss 8 7]
def r48_4:List O:=[Qx 10 1 6 8,Ql 11 10,Qv 5 11]
def r48_5:List O:=[Qv 12 3,Qv 13 5,Qg 14 79 [(.t 13)],Qo 15 (.buildSl [.s []] 1 [(0,1,(.t 14))]),Qo 16 (.app 1 16 (.t 12) (.t 15)),Qv 3 16]
def r48_6:List O:=[Qc 17 .add 8 (.i .i64 1),Qv 8 17]
def b48_0:C:=.seq (.ops r48_3) (.seq (.cond (.t 9) (.skip) (.exit 0)) (.seq (.block 1 (.seq (.ops r48_4) (.ops r48_5))) (.ops r48_6)))
def r48_7:List O:=[Qv 18 3,Qg 19 92 [(.t 18),(.c (.s [32]))],Qv 2 19]
def a48:FI:=⟨20,[.tmp 2],.seq (.ops r48_0) (.seq (.ops r48_1) (.seq (.seq (.ops r48_2) (.block 0 (.loop b48_0))) (.seq (.ops r48_7) (.ret)))),none,none⟩
def r49_0:List O:=[Qk 0 (.pn)]
def r49_1:List O:=[Qo 1 (.mkMap),Qo 2 (.mkMap),Qo 3 (.mkMap),Qo 4 (.mkMap),Qo 5 (.build [.mn,.mn,.sn,.mn,.sn,.mn] [(0,1,(.t 1)),(1,1,(.t 2)),(3,1,(.t 3)),(5,1,(.t 4))]),Qh 6 5,Qv 0 6]
def a49:FI:=⟨7,[.tmp 0],.seq (.ops r49_0) (.seq (.ops r49_1) (.ret)),none,none⟩
def r50_0:List O:=[Ql 6 1,Qn 7 6,Qk 8 (.i .i64 0)]
def r50_1:List O:=[Qb 9 .lss 8 7]
def r50_2:List O:=[Qv 10 8,Qx 11 71 6 8,Qd 12 71 11,Qm 5 ([.i .i64 0,.i .i64 0,.i .i64 0]++[.i .u8 0]++[.b false]++[.s []]++[.i .i64 0]++List.replicate 64 (.i .u8 0)),Qv 4 10,Qs 71 5 12]
def r50_3:List O:=[Qf 13 3 5,Ql 14 13,Ql 15 2,Qb 16 .eql 14 15,Qv 17 16,QTf 18 17 4 5,QTl 19 17 18,QT 20 17 (.un .not (.t 19)),Qa 21 17 20,Qv 22 21,QTv 23 22 0,QTv 24 22 4,QTf 25 22 5 5,QTl 26 22 25,QT 27 22 (.call (.t 23) [(.t 24),(.t 26)]),QT 28 22 (.un .not (.t 27)),Qa 29 22 28]
def r50_4:List O:=[Qc 30 .add 8 (.i .i64 1),Qv 8 30]
def b50_0:C:=.seq (.ops r50_1) (.seq (.cond (.t 9) (.skip) (.exit 0)) (.seq (.block 1 (.seq (.ops r50_2) (.seq (.ops r50_3) (.cond (.t 29) (.ret) (.skip))))) (.ops r50_4)))
def a50:FI:=⟨31,[],.seq (.ops r50_0) (.block 0 (.loop b50_0)),none,none⟩
def r51_0:List O:=[Qv 2 5]
def r51_1:List O:=[Qv 6 2,Qo 7 (.eqv true (.iface) (.t 6) (.c (.in0)))]
def r51_2:List O:=[Qv 9 2,Qo 10 (.tassert 109 (.agg []) true (.t 9)),Qv 8 10,Qe 11 8 0,Qe 12 8 1,Qm 3 [],Qs 0 3 11,Qv 4 12]
def r51_3:List O:=[Qv 13 4,Qo 14 (.un .not (.t 13))]
def r51_4:List O:=[Qv 15 2,Qq (.panic (.t 15))]
def r51_5:List O:=[Qo 16 (.build ([.i .u8 0]++List.replicate 14 (.i .i64 0)++[.i .u8 0]++[.i .i64 0,.i .i64 0]++[.i .u8 0]++[.i .i64 0,.i .i64 0,.i .i64 0,.i .i64 0,.i .i64 0]) []),Qs 24 0 16,Qq (.st 1 (.t 1) (.c (.i .i64 4)))]
def a51:FI:=⟨17,[],.seq (.ops r51_0) (.seq (.ops r51_1) (.cond (.t 7) (.seq (.seq (.ops r51_2) (.seq (.ops r51_3) (.cond (.t 14) (.ops r51_4) (.skip)))) (.ops r51_5)) (.skip))),none,some 5⟩
def r52_0:List O:=[Qk 2 (.s [])]
def r52_1:List O:=[Ql 4 0,Qo 5 (.un .not (.t 4))]
def r52_2:List O:=[Qo 6 (.build [] []),Qo 7 (.mkI 109 (.t 6)),Qq (.panic (.t 7))]
def r52_3:List O:=[Qk 3 (.s [])]
def r52_4:List O:=[Ql 9 1,Qg 10 53 [(.t 9),(.c (.s [32]))],Qv 8 10,Qe 11 8 0,Qe 12 8 1,Qe 13 8 2,Qv 3 11,Qs 1 1 12,Qs 1 0 13]
def r52_5:List O:=[Qv 14 3,Qv 2 14]
def a52:FI:=⟨15,[.tmp 2],.seq (.ops r52_0) (.seq (.seq (.ops r52_1) (.cond (.t 5) (.ops r52_2) (.skip))) (.seq (.ops r52_3) (.seq (.ops r52_4) (.seq (.ops r52_5) (.ret))))),none,none⟩
def r53_0:List O:=[Qk 4 (.s []),Qk 5 (.s []),Qk 6 (.b false)]
def r53_1:List O:=[Qv 7 0,Qv 8 1,Qg 9 93 [(.t 7),(.t 8)],Qe 10 9 0,Qe 11 9 1,Qe 12 9 2,Qv 4 10,Qv 5 11,Qv 6 12]
def a53:FI:=⟨13,[.tmp 4,.tmp 5,.tmp 6],.seq (.ops r53_0) (.seq (.ops r53_1) (.ret)),none,none⟩
def r54_0:List O:=[Qk 1 (.i .i64 0)]
def r54_1:List O:=[Ql 5 0,Qo 6 (.call (.t 5) []),Qg 7 55 [(.t 6)],Qv 4 7,Qe 8 4 0,Qe 9 4 1,Qv 2 8,Qv 3 9]
def r54_2:List O:=[Qv 10 3,Qo 11 (.eqv true (.iface) (.t 10) (.c (.in0)))]
def r54_3:List O:=[Qo 12 (.build [] []),Qo 13 (.mkI 109 (.t 12)),Qq (.panic (.t 13))]
def r54_4:List O:=[Qv 14 2,Qv 1 14]
def a54:FI:=⟨15,[.tmp 1],.seq (.ops r54_0) (.seq (.ops r54_1) (.seq (.seq (.ops r54_2) (.cond (.t 11) (.ops r54_3) (.skip))) (.seq (.ops r54_4) (.ret)))),none,none⟩
def a55:FI:=zaY 1 3
def r56_0:List O:=[Qk 0 (.sn)]
def r56_1:List O:=[Qo 1 (.buildSl [.s [],.s [],.s [],.s [],.s [],.s [],.s [],.s []] 8 [(0,1,(.c (.s []))),(1,1,(.c (.s [114,97,116,101]))),(2,1,(.c (.s [99,101,105,108,105,110,103]))),(3,1,(.c (.s [103,114,97,110,116]))),(4,1,(.c (.s [101,110,100]))),(5,1,(.c (.s [111,102,102,101,114]))),(6,1,(.c (.s [116,97,107,101]))),(7,1,(.c (.s [114,101,102,117,115,101])))]),Qv 0 1]
def a56:FI:=⟨2,[.tmp 0],.seq (.ops r56_0) (.seq (.ops r56_1) (.ret)),none,none⟩
def r57_0:List O:=[Qk 6 (.b false)]
def r57_1:List O:=[Qv 7 0,Qv 8 1,Qb 9 .geq 7 8,Qv 10 9,QTv 11 10 0,QTv 12 10 2,QTb 13 10 .leq 11 12,Qa 14 10 13,Qv 6 14]
def a57:FI:=⟨15,[.tmp 6],.seq (.ops r57_0) (.seq (.ops r57_1) (.ret)),none,none⟩
def r58_0:List O:=[Qh 1 0,Qk 2 (.s []),Qk 3 (.i .i64 0)]
def r58_1:List O:=[Qd 7 24 1,Qg 8 96 [(.t 7)],Qo 9 (.un .not (.t 8))]
def r58_2:List O:=[Qk 2 (.s []),Qk 3 (.i .i64 1)]
def r58_3:List O:=[Qf 10 1 1,Ql 11 10,Qg 12 79 [(.t 11)],Qc 13 .add 12 (.s [32]),Qg 14 56 [],Qf 15 0 1,Ql 16 15,Qx 17 1 14 16,Ql 18 17,Qb 19 .add 13 18,Qv 4 19]
def r58_4:List O:=[Qd 20 24 1,Qg 21 97 [(.t 20)],Qn 22 21,Qk 23 (.i .i64 0)]
def r58_5:List O:=[Qb 24 .lss 23 22]
def r58_6:List O:=[Qx 25 1 21 23,Ql 26 25,Qv 6 26]
def r58_7:List O:=[Qv 27 4,Qv 28 6,Qg 29 79 [(.t 28)],Qo 30 (.bin .add (.c (.s [32])) (.t 29)),Qb 31 .add 27 30,Qv 4 31]
def r58_8:List O:=[Qc 32 .add 23 (.i .i64 1),Qv 23 32]
def b58_0:C:=.seq (.ops r58_5) (.seq (.cond (.t 24) (.skip) (.exit 0)) (.seq (.block 1 (.seq (.ops r58_6) (.ops r58_7))) (.ops r58_8)))
def r58_9:List O:=[Qv 33 4,Qv 2 33,Qk 3 (.i .i64 0)]
def a58:FI:=⟨34,[.tmp 2,.tmp 3],.seq (.ops r58_0) (.seq (.seq (.ops r58_1) (.cond (.t 9) (.seq (.ops r58_2) (.ret)) (.skip))) (.seq (.draw r58_3 [(2,6),(4,6)]) (.seq (.seq (.ops r58_4) (.block 0 (.loop b58_0))) (.seq (.ops r58_9) (.ret))))),none,none⟩
def r59_0:List O:=[Qh 3 1,Qk 4 (.i .i64 0)]
def r59_1:List O:=[Qv 6 0,Qo 7 (.eqv false (.ptr) (.t 6) (.c (.pn))),Qv 5 7]
def r59_2:List O:=[Qk 4 (.i .i64 3)]
def r59_3:List O:=[Qd 9 24 3,Qg 10 96 [(.t 9)],Qo 11 (.un .not (.t 10)),Qv 8 11]
def r59_4:List O:=[Qk 4 (.i .i64 1)]
def r59_5:List O:=[Qf 13 1 3,Ql 14 13,Qv 15 0,Qg 16 98 [(.t 15)],Qb 17 .lss 14 16,Qv 12 17]
def r59_6:List O:=[Qk 4 (.i .i64 7)]
def r59_7:List O:=[Qk 4 (.i .i64 0)]
def a59:FI:=⟨18,[.tmp 4],.seq (.ops r59_0) (.seq (.block 0 (.seq (.ops r59_1) (.cond (.t 5) (.seq (.ops r59_2) (.ret)) (.seq (.ops r59_3) (.cond (.t 8) (.seq (.ops r59_4) (.ret)) (.seq (.draw r59_5 [(1,3)]) (.cond (.t 12) (.seq (.ops r59_6) (.ret)) (.skip)))))))) (.seq (.ops r59_7) (.ret))),none,none⟩
def r60_0:List O:=[Qh 5 2,Qk 6 (.i .i64 0)]
def r60_1:List O:=[Qf 7 0 5,Ql 8 7]
def r60_2:List O:=[Qc 10 .eql 8 (.i .u8 3),Qv 9 10]
def r60_3:List O:=[Qv 11 0,Qv 12 1,Qf 13 2 5,Qd 14 9 13,Qg 15 99 [(.t 11),(.t 12),(.t 14)],Qv 6 15]
def r60_4:List O:=[Qc 17 .eql 8 (.i .u8 4),Qv 16 17]
def r60_5:List O:=[Qf 18 2 5,Qf 19 0 18,Ql 20 19,Qv 21 0,Qi 22 21,Qf 23 2 22,Ql 24 23,Qn 25 24,Qb 26 .gtr 20 25]
def r60_6:List O:=[Qk 6 (.i .i64 5)]
def r60_7:List O:=[Qv 27 0,Qi 28 27,Qf 29 2 28,Ql 30 29,Qf 31 2 5,Qf 32 0 31,Ql 33 32,Qc 34 .sub 33 (.i .i64 1),Qx 35 9 30 34,Qf 36 8 35,Ql 37 36,Qf 38 1 5,Ql 39 38,Qb 40 .leq 37 39]
def r60_8:List O:=[Qk 6 (.i .i64 8)]
def r60_9:List O:=[Qc 42 .eql 8 (.i .u8 5),Qv 41 42]
def r60_10:List O:=[Qv 43 0,Qf 44 11 5,Qd 45 10 44,Qg 46 100 [(.t 43),(.t 45)],Qv 6 46]
def r60_11:List O:=[Qc 48 .eql 8 (.i .u8 6),Qv 47 48]
def r60_12:List O:=[Qc 49 .eql 8 (.i .u8 7),Qv 47 49]
def r60_13:List O:=[Qf 50 11 5,Qf 51 0 50,Ql 52 51,Qv 53 0,Qi 54 53,Qf 55 4 54,Ql 56 55,Qn 57 56,Qb 58 .gtr 52 57]
def r60_14:List O:=[Qk 6 (.i .i64 5)]
def r60_15:List O:=[Qv 59 0,Qi 60 59,Qf 61 4 60,Ql 62 61,Qf 63 11 5,Qf 64 0 63,Ql 65 64,Qc 66 .sub 65 (.i .i64 1),Qx 67 10 62 66,Qf 68 7 67,Ql 69 68,Qc 70 .neq 69 (.i .u8 1)]
def r60_16:List O:=[Qk 6 (.i .i64 8)]
def r60_17:List O:=[Qk 6 (.i .i64 0)]
def a60:FI:=⟨71,[.tmp 6],.seq (.ops r60_0) (.seq (.seq (.ops r60_1) (.block 0 (.seq (.ops r60_2) (.cond (.t 9) (.seq (.ops r60_3) (.ret)) (.seq (.ops r60_4) (.cond (.t 16) (.seq (.seq (.draw r60_5 []) (.cond (.t 26) (.seq (.ops r60_6) (.ret)) (.skip))) (.seq (.draw r60_7 []) (.cond (.t 40) (.seq (.ops r60_8) (.ret)) (.skip)))) (.seq (.ops r60_9) (.cond (.t 41) (.seq (.ops r60_10) (.ret)) (.seq (.seq (.ops r60_11) (.cond (.t 47) (.skip) (.ops r60_12))) (.cond (.t 47) (.seq (.seq (.draw r60_13 []) (.cond (.t 58) (.seq (.ops r60_14) (.ret)) (.skip))) (.seq (.draw r60_15 []) (.cond (.t 70) (.seq (.ops r60_16) (.ret)) (.skip)))) (.skip))))))))))) (.seq (.ops r60_17) (.ret))),none,none⟩
def r61_0:List O:=[Qh 3 1]
def r61_1:List O:=[Qo 4 (.mkMap),Qq (.mapSet (.sc (.i .u8)) (.t 4) (.c (.i .u8 1)) (.f 101)),Qq (.mapSet (.sc (.i .u8)) (.t 4) (.c (.i .u8 2)) (.f 102)),Qq (.mapSet (.sc (.i .u8)) (.t 4) (.c (.i .u8 3)) (.f 103)),Qq (.mapSet (.sc (.i .u8)) (.t 4) (.c (.i .u8 4)) (.f 104)),Qq (.mapSet (.sc (.i .u8)) (.t 4) (.c (.i .u8 5)) (.f 105)),Qq (.mapSet (.sc (.i .u8)) (.t 4) (.c (.i .u8 6)) (.f 106)),Qq (.mapSet (.sc (.i .u8)) (.t 4) (.c (.i .u8 7)) (.f 107)),Qv 5 4,Qf 6 0 3,Ql 7 6,Qo 8 (.look (.sc (.i .u8)) (.fnil) false (.t 5) (.t 7)),Qv 9 0,Qd 10 24 3,Qo 11 (.call (.t 8) [(.t 9),(.t 10)])]
def a61:FI:=⟨12,[],.seq (.ops r61_0) (.ops r61_1),none,none⟩
def r64_0:List O:=[Qk 4 (.i .i64 0)]
def r64_1:List O:=[Qv 6 0,Qn 7 6,Qk 8 (.i .i64 0)]
def r64_2:List O:=[Qb 9 .lss 8 7]
def r64_3:List O:=[Qv 10 8,Qv 5 10]
def r64_4:List O:=[Qv 11 1,Qv 12 0,Qv 13 5,Qx 14 71 12 13,Qd 15 71 14,Qo 16 (.call (.t 11) [(.t 15)])]
def r64_5:List O:=[Qv 17 5,Qv 4 17]
def r64_6:List O:=[Qc 18 .add 8 (.i .i64 1),Qv 8 18]
def b64_0:C:=.seq (.ops r64_2) (.seq (.cond (.t 9) (.skip) (.exit 0)) (.seq (.block 1 (.seq (.ops r64_3) (.seq (.ops r64_4) (.cond (.t 16) (.seq (.ops r64_5) (.ret)) (.skip))))) (.ops r64_6)))
def r64_7:List O:=[Qk 4 (.i .i64 (-1))]
def a64:FI:=⟨19,[.tmp 4],.seq (.ops r64_0) (.seq (.seq (.ops r64_1) (.block 0 (.loop b64_0))) (.seq (.ops r64_7) (.ret))),none,none⟩
def r65_0:List O:=[Qk 2 (.sn)]
def r65_1:List O:=[Qk 3 (.sn)]
def r65_2:List O:=[Qk 4 (.i .i64 0)]
def r65_3:List O:=[Qk 5 (.i .i64 0)]
def r65_4:List O:=[Qv 6 5,Qv 7 0,Qo 8 (.lenS (.t 7)),Qb 9 .lss 6 8]
def r65_6:List O:=[Qv 12 0,Qv 13 5,Qo 14 (.ixStr (.t 12) (.t 13)),Qc 15 .eql 14 (.i .u8 32)]
def r65_7:List O:=[Qv 16 3,Qv 17 0,Qv 18 4,Qv 19 5,Qo 20 (.slcS (.t 17) (some (.t 18)) (some (.t 19))),Qo 21 (.buildSl [.s []] 1 [(0,1,(.t 20))]),Qo 22 (.app 1 16 (.t 16) (.t 21)),Qv 3 22]
def r65_8:List O:=[Qv 23 5,Qc 24 .add 23 (.i .i64 1),Qv 4 24]
def r65_5:List O:=[Qv 10 5,Qc 11 .add 10 (.i .i64 1),Qv 5 11]
def b65_0:C:=.seq (.seq (.ops r65_4) (.cond (.t 9) (.skip) (.exit 0))) (.seq (.block 1 (.seq (.ops r65_6) (.cond (.t 15) (.seq (.ops r65_7) (.ops r65_8)) (.skip)))) (.ops r65_5))
def r65_9:List O:=[Qv 25 3,Qv 26 0,Qv 27 4,Qo 28 (.slcS (.t 26) (some (.t 27)) none),Qo 29 (.buildSl [.s []] 1 [(0,1,(.t 28))]),Qo 30 (.app 1 16 (.t 25) (.t 29)),Qv 2 30]
def a65:FI:=⟨31,[.tmp 2],.seq (.ops r65_0) (.seq (.ops r65_1) (.seq (.ops r65_2) (.seq (.seq (.ops r65_3) (.block 0 (.loop b65_0))) (.seq (.ops r65_9) (.ret))))),none,none⟩
def r66_0:List O:=[Qk 2 (.i .i64 0)]
def r66_1:List O:=[Qv 5 0,Qo 6 (.lenS (.t 5)),Qc 7 .lss 6 (.i .i64 1),Qv 8 7,QFv 9 8 0,QF 10 8 (.lenS (.t 9)),QFc 11 8 .gtr 10 (.i .i64 13),Qr 12 8 11]
def r66_2:List O:=[Qk 2 (.i .i64 (-1))]
def r66_3:List O:=[Qk 3 (.i .i64 0)]
def r66_4:List O:=[Qk 4 (.i .i64 0)]
def r66_5:List O:=[Qv 13 4,Qv 14 0,Qo 15 (.lenS (.t 14)),Qb 16 .lss 13 15]
def r66_7:List O:=[Qv 19 0,Qv 20 4,Qo 21 (.ixStr (.t 19) (.t 20)),Qc 22 .lss 21 (.i .u8 48),Qv 23 22,QFv 24 23 0,QFv 25 23 4,QF 26 23 (.ixStr (.t 24) (.t 25)),QFc 27 23 .gtr 26 (.i .u8 57),Qr 28 23 27]
def r66_8:List O:=[Qk 2 (.i .i64 (-1))]
def r66_9:List O:=[Qv 29 3,Qo 30 (.bin .mul (.c (.i .i64 10)) (.t 29)),Qv 31 0,Qv 32 4,Qo 33 (.ixStr (.t 31) (.t 32)),Qo 34 (.conv .i64 (.t 33)),Qb 35 .add 30 34,Qc 36 .sub 35 (.i .i64 48),Qv 3 36]
def r66_6:List O:=[Qv 17 4,Qc 18 .add 17 (.i .i64 1),Qv 4 18]
def b66_0:C:=.seq (.seq (.ops r66_5) (.cond (.t 16) (.skip) (.exit 0))) (.seq (.block 1 (.seq (.seq (.ops r66_7) (.cond (.t 28) (.seq (.ops r66_8) (.ret)) (.skip))) (.ops r66_9))) (.ops r66_6))
def r66_10:List O:=[Qv 37 3,Qv 2 37]
def a66:FI:=⟨38,[.tmp 2],.seq (.ops r66_0) (.seq (.seq (.ops r66_1) (.cond (.t 12) (.seq (.ops r66_2) (.ret)) (.skip))) (.seq (.ops r66_3) (.seq (.seq (.ops r66_4) (.block 0 (.loop b66_0))) (.seq (.ops r66_10) (.ret))))),none,none⟩
def r67_0:List O:=[Qh 1 0,Qk 2 (.s []),Qk 3 (.i .i64 0)]
def r67_1:List O:=[Qd 6 24 1,Qg 7 114 [(.t 6)],Qo 8 (.un .not (.t 7))]
def r67_2:List O:=[Qk 2 (.s []),Qk 3 (.i .i64 1)]
def r67_3:List O:=[Qf 9 2 1,Qd 10 9 9,Qm 4 (List.replicate 9 (.i .i64 0)),Qs 9 4 10]
def r67_4:List O:=[Qf 11 11 1,Qd 12 10 11,Qm 5 [.i .i64 0,.i .i64 0,.i .i64 0,.i .i64 0,.i .u8 0,.i .i64 0,.i .i64 0,.i .u8 0,.i .i64 0,.i .i64 0],Qs 10 5 12]
def r67_5:List O:=[Qf 13 0 1,Ql 14 13]
def r67_6:List O:=[Qc 16 .eql 14 (.i .u8 1),Qv 15 16]
def r67_7:List O:=[Qf 17 1 1,Ql 18 17,Qf 19 21 1,Ql 20 19,Qf 21 23 1,Ql 22 21,Qo 23 (.buildSl [.i .i64 0,.i .i64 0] 2 [(0,1,(.t 20)),(1,1,(.t 22))]),Qg 24 115 [(.t 18),(.c (.s [114,97,116,101])),(.t 23)],Qv 2 24,Qk 3 (.i .i64 0)]
def r67_8:List O:=[Qc 26 .eql 14 (.i .u8 2),Qv 25 26]
def r67_9:List O:=[Qf 27 1 1,Ql 28 27,Qf 29 21 1,Ql 30 29,Qf 31 23 1,Ql 32 31,Qo 33 (.buildSl [.i .i64 0,.i .i64 0] 2 [(0,1,(.t 30)),(1,1,(.t 32))]),Qg 34 115 [(.t 28),(.c (.s [99,101,105,108,105,110,103])),(.t 33)],Qv 2 34,Qk 3 (.i .i64 0)]
def r67_10:List O:=[Qc 36 .eql 14 (.i .u8 3),Qv 35 36]
def r67_11:List O:=[Qf 37 1 1,Ql 38 37,Qf 39 0 4,Ql 40 39,Qf 41 2 4,Ql 42 41,Qf 43 3 4,Ql 44 43,Qf 45 4 4,Ql 46 45,Qf 47 5 4,Ql 48 47,Qf 49 6 4,Ql 50 49,Qf 51 7 4,Ql 52 51,Qf 53 8 4,Ql 54 53,Qo 55 (.buildSl [.i .i64 0,.i .i64 0,.i .i64 0,.i .i64 0,.i .i64 0,.i .i64 0,.i .i64 0,.i .i64 0] 8 [(0,1,(.t 40)),(1,1,(.t 42)),(2,1,(.t 44)),(3,1,(.t 46)),(4,1,(.t 48)),(5,1,(.t 50)),(6,1,(.t 52)),(7,1,(.t 54))]),Qg 56 115 [(.t 38),(.c (.s [103,114,97,110,116])),(.t 55)],Qv 2 56,Qk 3 (.i .i64 0)]
def r67_12:List O:=[Qc 58 .eql 14 (.i .u8 4),Qv 57 58]
def r67_13:List O:=[Qf 59 1 1,Ql 60 59,Qf 61 0 4,Ql 62 61,Qo 63 (.buildSl [.i .i64 0] 1 [(0,1,(.t 62))]),Qg 64 115 [(.t 60),(.c (.s [101,110,100])),(.t 63)],Qv 2 64,Qk 3 (.i .i64 0)]
def r67_14:List O:=[Qc 66 .eql 14 (.i .u8 5),Qv 65 66]
def r67_15:List O:=[Qf 67 1 1,Ql 68 67,Qf 69 0 5,Ql 70 69,Qf 71 2 5,Ql 72 71,Qf 73 3 5,Ql 74 73,Qf 75 4 5,Ql 76 75,Qo 77 (.conv .i64 (.t 76)),Qf 78 5 5,Ql 79 78,Qf 80 9 5,Ql 81 80,Qo 82 (.buildSl [.i .i64 0,.i .i64 0,.i .i64 0,.i .i64 0,.i .i64 0,.i .i64 0] 6 [(0,1,(.t 70)),(1,1,(.t 72)),(2,1,(.t 74)),(3,1,(.t 77)),(4,1,(.t 79)),(5,1,(.t 81))]),Qg 83 115 [(.t 68),(.c (.s [111,102,102,101,114])),(.t 82)],Qv 2 83,Qk 3 (.i .i64 0)]
def r67_16:List O:=[Qc 85 .eql 14 (.i .u8 6),Qv 84 85]
def r67_17:List O:=[Qf 86 1 1,Ql 87 86,Qf 88 0 5,Ql 89 88,Qo 90 (.buildSl [.i .i64 0] 1 [(0,1,(.t 89))]),Qg 91 115 [(.t 87),(.c (.s [116,97,107,101])),(.t 90)],Qv 2 91,Qk 3 (.i .i64 0)]
def r67_18:List O:=[Qf 92 1 1,Ql 93 92,Qf 94 0 5,Ql 95 94,Qo 96 (.buildSl [.i .i64 0] 1 [(0,1,(.t 95))]),Qg 97 115 [(.t 93),(.c (.s [114,101,102,117,115,101])),(.t 96)],Qv 2 97,Qk 3 (.i .i64 0)]
def a67:FI:=⟨98,[.tmp 2,.tmp 3],.seq (.ops r67_0) (.seq (.seq (.ops r67_1) (.cond (.t 8) (.seq (.ops r67_2) (.ret)) (.skip))) (.seq (.ops r67_3) (.seq (.ops r67_4) (.seq (.seq (.ops r67_5) (.block 0 (.seq (.ops r67_6) (.cond (.t 15) (.seq (.ops r67_7) (.ret)) (.seq (.ops r67_8) (.cond (.t 25) (.seq (.ops r67_9) (.ret)) (.seq (.ops r67_10) (.cond (.t 35) (.seq (.ops r67_11) (.ret)) (.seq (.ops r67_12) (.cond (.t 57) (.seq (.ops r67_13) (.ret)) (.seq (.ops r67_14) (.cond (.t 65) (.seq (.ops r67_15) (.ret)) (.seq (.ops r67_16) (.cond (.t 84) (.seq (.ops r67_17) (.ret)) (.skip))))))))))))))) (.seq (.ops r67_18) (.ret)))))),none,none⟩
def r68_0:List O:=[Qh 3 0,Qh 5 2,Qk 6 (.i .i64 0)]
def r68_1:List O:=[Qd 9 24 5,Qg 10 114 [(.t 9)],Qo 11 (.un .not (.t 10))]
def r68_2:List O:=[Qk 6 (.i .i64 1)]
def r68_3:List O:=[Qf 12 1 5,Ql 13 12,Qd 14 1 3,Qg 15 116 [(.t 14)],Qb 16 .lss 13 15]
def r68_4:List O:=[Qk 6 (.i .i64 7)]
def r68_5:List O:=[Qf 17 0 5,Ql 18 17]
def r68_6:List O:=[Qc 20 .eql 18 (.i .u8 3),Qv 19 20]
def r68_7:List O:=[Qd 21 1 3,Qv 22 1,Qf 23 2 5,Qd 24 9 23,Qg 25 117 [(.t 21),(.t 22),(.t 24)],Qv 6 25]
def r68_8:List O:=[Qc 27 .eql 18 (.i .u8 4),Qv 26 27]
def r68_9:List O:=[Qd 28 1 3,Qg 29 118 [(.t 28)],Qv 7 29]
def r68_10:List O:=[Qf 30 2 5,Qf 31 0 30,Ql 32 31,Qv 33 7,Qn 34 33,Qb 35 .gtr 32 34]
def r68_11:List O:=[Qk 6 (.i .i64 5)]
def r68_12:List O:=[Qv 36 7,Qf 37 2 5,Qf 38 0 37,Ql 39 38,Qc 40 .sub 39 (.i .i64 1),Qx 41 9 36 40,Qf 42 8 41,Ql 43 42,Qf 44 1 5,Ql 45 44,Qb 46 .leq 43 45]
def r68_13:List O:=[Qk 6 (.i .i64 8)]
def r68_14:List O:=[Qc 48 .eql 18 (.i .u8 5),Qv 47 48]
def r68_15:List O:=[Qd 49 1 3,Qf 50 11 5,Qd 51 10 50,Qg 52 119 [(.t 49),(.t 51)],Qv 6 52]
def r68_16:List O:=[Qc 54 .eql 18 (.i .u8 6),Qv 53 54]
def r68_17:List O:=[Qc 55 .eql 18 (.i .u8 7),Qv 53 55]
def r68_18:List O:=[Qd 56 1 3,Qg 57 74 [(.t 56)],Qv 8 57]
def r68_19:List O:=[Qf 58 11 5,Qf 59 0 58,Ql 60 59,Qv 61 8,Qn 62 61,Qb 63 .gtr 60 62]
def r68_20:List O:=[Qk 6 (.i .i64 5)]
def r68_21:List O:=[Qv 64 8,Qf 65 11 5,Qf 66 0 65,Ql 67 66,Qc 68 .sub 67 (.i .i64 1),Qx 69 10 64 68,Qf 70 7 69,Ql 71 70,Qc 72 .neq 71 (.i .u8 1)]
def r68_22:List O:=[Qk 6 (.i .i64 8)]
def r68_23:List O:=[Qk 6 (.i .i64 0)]
def a68:FI:=⟨73,[.tmp 6],.seq (.ops r68_0) (.seq (.seq (.ops r68_1) (.cond (.t 11) (.seq (.ops r68_2) (.ret)) (.skip))) (.seq (.seq (.draw r68_3 [(1,3)]) (.cond (.t 16) (.seq (.ops r68_4) (.ret)) (.skip))) (.seq (.seq (.ops r68_5) (.block 0 (.seq (.ops r68_6) (.cond (.t 19) (.seq (.ops r68_7) (.ret)) (.seq (.ops r68_8) (.cond (.t 26) (.seq (.ops r68_9) (.seq (.seq (.ops r68_10) (.cond (.t 35) (.seq (.ops r68_11) (.ret)) (.skip))) (.seq (.draw r68_12 []) (.cond (.t 46) (.seq (.ops r68_13) (.ret)) (.skip))))) (.seq (.ops r68_14) (.cond (.t 47) (.seq (.ops r68_15) (.ret)) (.seq (.seq (.ops r68_16) (.cond (.t 53) (.skip) (.ops r68_17))) (.cond (.t 53) (.seq (.ops r68_18) (.seq (.seq (.ops r68_19) (.cond (.t 63) (.seq (.ops r68_20) (.ret)) (.skip))) (.seq (.ops r68_21) (.cond (.t 72) (.seq (.ops r68_22) (.ret)) (.skip))))) (.skip))))))))))) (.seq (.ops r68_23) (.ret))))),none,none⟩
def r71_0:List O:=[Qk 4 (.b false)]
def r71_1:List O:=[Qv 5 0,Qv 6 1,Qg 7 123 [(.t 5),(.t 6)],Qc 8 .geq 7 (.i .i64 0),Qv 4 8]
def a71:FI:=⟨9,[.tmp 4],.seq (.ops r71_0) (.seq (.ops r71_1) (.ret)),none,none⟩
def r72_0:List O:=[Qh 4 1,Qk 6 (.sn)]
def r72_1:List O:=[Qv 7 0,Qv 8 2,Qg 9 125 [(.t 7),(.t 8)],Qi 10 9,Qf 11 4 10,Ql 12 11,Qo 13 (.mkFn 126 [] [(.t 4)]),Qg 14 124 [(.t 12),(.t 13)],Qv 6 14]
def a72:FI:=⟨15,[.tmp 6],.seq (.ops r72_0) (.seq (.ops r72_1) (.ret)),none,none⟩
def r73_0:List O:=[Qh 2 0,Qk 3 (.b false)]
def r73_1:List O:=[Qf 4 0 2,Ql 5 4,Qf 6 11 1,Qf 7 0 6,Ql 8 7,Qb 9 .eql 5 8,Qv 3 9]
def a73:FI:=⟨10,[.tmp 3],.seq (.ops r73_0) (.seq (.ops r73_1) (.ret)),none,none⟩
def r74_0:List O:=[Qh 1 0,Qk 2 (.sn)]
def r74_1:List O:=[Qk 3 (.sn)]
def r74_2:List O:=[Qk 4 (.i .i64 0)]
def r74_3:List O:=[Qv 9 4,Qf 10 0 1,Ql 11 10,Qn 12 11,Qb 13 .lss 9 12]
def r74_5:List O:=[Qf 16 0 1,Ql 17 16,Qv 18 4,Qx 19 24 17 18,Qd 20 24 19,Qm 5 ([.i .u8 0]++List.replicate 14 (.i .i64 0)++[.i .u8 0]++[.i .i64 0,.i .i64 0]++[.i .u8 0]++[.i .i64 0,.i .i64 0,.i .i64 0,.i .i64 0,.i .i64 0]),Qs 24 5 20]
def r74_6:List O:=[Qf 21 0 5,Ql 22 21,Qc 23 .eql 22 (.i .u8 5)]
def r74_7:List O:=[Qf 24 11 5,Qd 25 10 24,Qm 6 [.i .i64 0,.i .i64 0,.i .i64 0,.i .i64 0,.i .u8 0,.i .i64 0,.i .i64 0,.i .u8 0,.i .i64 0,.i .i64 0],Qs 10 6 25]
def r74_8:List O:=[Qf 26 5 6,Ql 27 26,Qf 28 0 1,Ql 29 28,Qv 30 4,Qo 31 (.slc 24 (.t 29) none (some (.t 30)) none),Qf 32 4 6,Ql 33 32,Qg 34 127 [(.t 31),(.t 33)],Qb 35 .mul 27 34,Qf 36 6 6,Qs 1 36 35]
def r74_9:List O:=[Qf 37 7 6,Qq (.st 1 (.t 37) (.c (.i .u8 1)))]
def r74_10:List O:=[Qv 38 3,Qd 39 10 6,Qo 40 (.buildSl [.i .i64 0,.i .i64 0,.i .i64 0,.i .i64 0,.i .u8 0,.i .i64 0,.i .i64 0,.i .u8 0,.i .i64 0,.i .i64 0] 1 [(0,10,(.t 39))]),Qo 41 (.app 10 80 (.t 38) (.t 40)),Qv 3 41]
def r74_11:List O:=[Qf 42 0 5,Ql 43 42,Qc 44 .eql 43 (.i .u8 6),Qv 45 44,QFf 46 45 0 5,QFl 47 45 46,QFc 48 45 .eql 47 (.i .u8 7),Qr 49 45 48]
def r74_12:List O:=[Qv 50 3,Qf 51 11 5,Qf 52 0 51,Ql 53 52,Qc 54 .sub 53 (.i .i64 1),Qx 55 10 50 54,Qd 56 10 55,Qm 7 [.i .i64 0,.i .i64 0,.i .i64 0,.i .i64 0,.i .u8 0,.i .i64 0,.i .i64 0,.i .u8 0,.i .i64 0,.i .i64 0],Qs 10 7 56]
def r74_13:List O:=[Qf 57 1 5,Ql 58 57,Qf 59 8 7,Qs 1 59 58]
def r74_14:List O:=[Qf 60 7 7,Qq (.st 1 (.t 60) (.c (.i .u8 2)))]
def r74_15:List O:=[Qf 61 0 5,Ql 62 61,Qc 63 .eql 62 (.i .u8 7)]
def r74_16:List O:=[Qf 64 7 7,Qq (.st 1 (.t 64) (.c (.i .u8 3)))]
def r74_17:List O:=[Qv 65 3,Qf 66 11 5,Qf 67 0 66,Ql 68 67,Qc 69 .sub 68 (.i .i64 1),Qd 70 10 7,Qx 71 10 65 69,Qs 10 71 70]
def r74_4:List O:=[Qv 14 4,Qc 15 .add 14 (.i .i64 1),Qv 4 15]
def b74_0:C:=.seq (.seq (.ops r74_3) (.cond (.t 13) (.skip) (.exit 0))) (.seq (.block 1 (.seq (.ops r74_5) (.seq (.seq (.ops r74_6) (.cond (.t 23) (.seq (.ops r74_7) (.seq (.draw r74_8 [(1,8)]) (.seq (.ops r74_9) (.ops r74_10)))) (.skip))) (.seq (.ops r74_11) (.cond (.t 49) (.seq (.ops r74_12) (.seq (.ops r74_13) (.seq (.ops r74_14) (.seq (.seq (.ops r74_15) (.cond (.t 63) (.ops r74_16) (.skip))) (.ops r74_17))))) (.skip)))))) (.ops r74_4))
def r74_18:List O:=[Qk 8 (.i .i64 0)]
def r74_19:List O:=[Qv 72 8,Qv 73 3,Qn 74 73,Qb 75 .lss 72 74]
def r74_21:List O:=[Qv 78 3,Qv 79 8,Qx 80 10 78 79,Qf 81 7 80,Ql 82 81,Qc 83 .eql 82 (.i .u8 2),Qv 84 83,QTv 85 84 3,QTv 86 84 8,QTx 87 84 10 85 86,QTf 88 84 9 87,QTl 89 84 88,QTc 90 84 .eql 89 (.i .i64 0),Qa 91 84 90,Qv 92 91,QTv 93 92 3,QTv 94 92 3,QTv 95 92 8,QTx 96 92 10 94 95,QTf 97 92 0 96,QTl 98 92 97,QTg 99 92 128 [(.t 93),(.t 98)],QTv 100 92 3,QTv 101 92 8,QTx 102 92 10 100 101,QTf 103 92 6 102,QTl 104 92 103,QTb 105 92 .geq 99 104,Qa 106 92 105]
def r74_22:List O:=[Qv 107 3,Qv 108 8,Qx 109 10 107 108,Qf 110 7 109,Qq (.st 1 (.t 110) (.c (.i .u8 4)))]
def r74_20:List O:=[Qv 76 8,Qc 77 .add 76 (.i .i64 1),Qv 8 77]
def b74_1:C:=.seq (.seq (.ops r74_19) (.cond (.t 75) (.skip) (.exit 2))) (.seq (.block 3 (.seq (.draw r74_21 [(21,26)]) (.cond (.t 106) (.ops r74_22) (.skip)))) (.ops r74_20))
def r74_23:List O:=[Qv 111 3,Qv 2 111]
def a74:FI:=⟨112,[.tmp 2],.seq (.ops r74_0) (.seq (.ops r74_1) (.seq (.seq (.ops r74_2) (.block 0 (.loop b74_0))) (.seq (.seq (.ops r74_18) (.block 2 (.loop b74_1))) (.seq (.ops r74_23) (.ret))))),none,none⟩
def r75_0:List O:=[Qh 1 0,Qk 2 (.b false)]
def r75_1:List O:=[Qf 5 0 1,Ql 6 5,Qg 7 129 [(.t 6),(.c (.i .i64 0)),(.c (.i .i64 1999))],Qv 8 7,QTf 9 8 1 1,QTl 10 8 9,QTg 11 8 129 [(.t 10),(.c (.i .i64 0)),(.c (.i .i64 100000))],Qa 12 8 11,Qv 13 12,QTf 14 13 2 1,QTl 15 13 14,QTg 16 13 129 [(.t 15),(.c (.i .i64 0)),(.c (.i .i64 7))],Qa 17 13 16,Qv 18 17,QTf 19 18 3 1,QTl 20 18 19,QT 21 18 (.conv .i64 (.t 20)),QTg 22 18 129 [(.t 21),(.c (.i .i64 1)),(.c (.i .i64 7))],Qa 23 18 22,Qv 3 23]
def r75_2:List O:=[Qv 24 3,Qo 25 (.un .not (.t 24))]
def r75_3:List O:=[Qk 2 (.b false)]
def r75_4:List O:=[Qf 26 4 1,Ql 27 26]
def r75_5:List O:=[Qf 28 5 1,Ql 29 28,Qc 30 .eql 29 (.s []),Qv 31 30,QTf 32 31 6 1,QTl 33 31 32,QTc 34 31 .eql 33 (.i .i64 0),Qa 35 31 34,Qv 2 35]
def r75_6:List O:=[Qf 36 6 1,Ql 37 36,Qg 38 129 [(.t 37),(.c (.i .i64 0)),(.c (.i .i64 9007199254740992))],Qv 4 38]
def r75_7:List O:=[Qv 39 4,Qv 40 39,QTf 41 40 5 1,QTl 42 40 41,QT 43 40 (.lenS (.t 42)),QTc 44 40 .leq 43 (.i .i64 7000),Qa 45 40 44,Qv 46 45,QTf 47 46 7 1,QTd 48 46 32 47,QTf 49 46 6 1,QTl 50 46 49,QTf 51 46 5 1,QTl 52 46 51,QTg 53 46 130 [(.t 50),(.t 52)],QT 54 46 (.eqv false (.agg (List.replicate 32 (.i .u8:KT))) (.t 48) (.t 53)),Qa 55 46 54,Qv 2 55]
def a75:FI:=⟨56,[.tmp 2],.seq (.ops r75_0) (.seq (.ops r75_1) (.seq (.seq (.ops r75_2) (.cond (.t 25) (.seq (.ops r75_3) (.ret)) (.skip))) (.seq (.seq (.ops r75_4) (.cond (.t 27) (.seq (.ops r75_5) (.ret)) (.skip))) (.seq (.ops r75_6) (.seq (.draw r75_7 [(9,14)]) (.ret)))))),none,none⟩
def r76_0:List O:=[Qm 0 (List.replicate 64 (.i .u32 0))]
def r76_1:List O:=[Qo 1 (.build (List.replicate 64 (.i .u32 0)) [(0,1,(.c (.i .u32 1116352408))),(1,1,(.c (.i .u32 1899447441))),(2,1,(.c (.i .u32 3049323471))),(3,1,(.c (.i .u32 3921009573))),(4,1,(.c (.i .u32 961987163))),(5,1,(.c (.i .u32 1508970993))),(6,1,(.c (.i .u32 2453635748))),(7,1,(.c (.i .u32 2870763221))),(8,1,(.c (.i .u32 3624381080))),(9,1,(.c (.i .u32 310598401))),(10,1,(.c (.i .u32 607225278))),(11,1,(.c (.i .u32 1426881987))),(12,1,(.c (.i .u32 1925078388))),(13,1,(.c (.i .u32 2162078206))),(14,1,(.c (.i .u32 2614888103))),(15,1,(.c (.i .u32 3248222580))),(16,1,(.c (.i .u32 3835390401))),(17,1,(.c (.i .u32 4022224774))),(18,1,(.c (.i .u32 264347078))),(19,1,(.c (.i .u32 604807628))),(20,1,(.c (.i .u32 770255983))),(21,1,(.c (.i .u32 1249150122))),(22,1,(.c (.i .u32 1555081692))),(23,1,(.c (.i .u32 1996064986))),(24,1,(.c (.i .u32 2554220882))),(25,1,(.c (.i .u32 2821834349))),(26,1,(.c (.i .u32 2952996808))),(27,1,(.c (.i .u32 3210313671))),(28,1,(.c (.i .u32 3336571891))),(29,1,(.c (.i .u32 3584528711))),(30,1,(.c (.i .u32 113926993))),(31,1,(.c (.i .u32 338241895))),(32,1,(.c (.i .u32 666307205))),(33,1,(.c (.i .u32 773529912))),(34,1,(.c (.i .u32 1294757372))),(35,1,(.c (.i .u32 1396182291))),(36,1,(.c (.i .u32 1695183700))),(37,1,(.c (.i .u32 1986661051))),(38,1,(.c (.i .u32 2177026350))),(39,1,(.c (.i .u32 2456956037))),(40,1,(.c (.i .u32 2730485921))),(41,1,(.c (.i .u32 2820302411))),(42,1,(.c (.i .u32 3259730800))),(43,1,(.c (.i .u32 3345764771))),(44,1,(.c (.i .u32 3516065817))),(45,1,(.c (.i .u32 3600352804))),(46,1,(.c (.i .u32 4094571909))),(47,1,(.c (.i .u32 275423344))),(48,1,(.c (.i .u32 430227734))),(49,1,(.c (.i .u32 506948616))),(50,1,(.c (.i .u32 659060556))),(51,1,(.c (.i .u32 883997877))),(52,1,(.c (.i .u32 958139571))),(53,1,(.c (.i .u32 1322822218))),(54,1,(.c (.i .u32 1537002063))),(55,1,(.c (.i .u32 1747873779))),(56,1,(.c (.i .u32 1955562222))),(57,1,(.c (.i .u32 2024104815))),(58,1,(.c (.i .u32 2227730452))),(59,1,(.c (.i .u32 2361852424))),(60,1,(.c (.i .u32 2428436474))),(61,1,(.c (.i .u32 2756734187))),(62,1,(.c (.i .u32 3204031479))),(63,1,(.c (.i .u32 3329325298)))]),Qs 64 0 1]
def a76:FI:=⟨2,[.cell 0 (some 64)],.seq (.ops r76_0) (.seq (.ops r76_1) (.ret)),none,none⟩
def r77_0:List O:=[Qk 8 (.i .u32 0)]
def r77_1:List O:=[Qv 9 0,Qv 10 1,Qo 11 (.un .neg (.t 10)),Qg 12 78 [(.t 9),(.t 11)],Qv 13 0,Qv 14 2,Qo 15 (.un .neg (.t 14)),Qg 16 78 [(.t 13),(.t 15)],Qb 17 .xor 12 16,Qv 18 3,Qb 19 .xor 17 18,Qv 8 19]
def a77:FI:=⟨20,[.tmp 8],.seq (.ops r77_0) (.seq (.ops r77_1) (.ret)),none,none⟩
end Go.Air.Try
set_option maxRecDepth 100000
namespace Go.Air.Try
def r78_0:List O:=[Qk 4 (.i .u32 0)]
def r78_1:List O:=[Qv 6 1,Qo 7 (.conv .u64 (.t 6)),Qc 8 .and 7 (.i .u64 31),Qv 5 8]
def r78_2:List O:=[Qv 9 0,Qv 10 5,Qb 11 .shl 9 10,Qv 12 0,Qv 13 5,Qo 14 (.bin .sub (.c (.i .u64 32)) (.t 13)),Qb 15 .shr 12 14,Qb 16 .or 11 15,Qv 4 16]
def a78:FI:=⟨17,[.tmp 4],.seq (.ops r78_0) (.seq (.ops r78_1) (.seq (.ops r78_2) (.ret))),none,none⟩
def a79:FI:=zaY 1 8
def r80_0:List O:=[Qv 1 4]
def r80_1:List O:=[Qv 5 1,Qo 6 (.eqv true (.iface) (.t 5) (.c (.in0)))]
def r80_2:List O:=[Qv 8 1,Qo 9 (.tassert 149 (.agg [.i .u8 0]) true (.t 8)),Qv 7 9,Qe 10 7 0,Qe 11 7 1,Qm 2 [.i .u8 0],Qs 1 2 10,Qv 3 11]
def r80_3:List O:=[Qv 12 3,Qo 13 (.un .not (.t 12))]
def r80_4:List O:=[Qv 14 1,Qq (.panic (.t 14))]
def r80_5:List O:=[Qf 15 0 2,Ql 16 15,Qs 1 0 16]
def a80:FI:=⟨17,[],.seq (.ops r80_0) (.seq (.ops r80_1) (.cond (.t 6) (.seq (.ops r80_2) (.seq (.seq (.ops r80_3) (.cond (.t 13) (.ops r80_4) (.skip))) (.ops r80_5))) (.skip))),none,some 4⟩
def a87:FI:=⟨2,[],.skip,none,none⟩
def r88_0:List O:=[Qv 6 1,Qo 7 (.un .not (.t 6))]
def r88_1:List O:=[Qv 8 2,Qo 9 (.build [.i .u8 0] [(0,1,(.t 8))]),Qo 10 (.mkI 149 (.t 9)),Qq (.panic (.t 10))]
def a88:FI:=⟨11,[],.seq (.ops r88_0) (.cond (.t 7) (.ops r88_1) (.skip)),none,none⟩
def r89_0:List O:=[Qh 1 0,Qk 2 (.i .i64 0)]
def r89_1:List O:=[Qf 3 0 1,Ql 4 3,Qg 5 147 [(.t 4)],Qo 6 (.un .not (.t 5)),Qv 7 6,QFf 8 7 1 1,QFl 9 7 8,QFg 10 7 148 [(.t 9),(.c (.i .i64 1)),(.c (.i .i64 3))],QF 11 7 (.un .not (.t 10)),Qr 12 7 11,Qv 13 12,QFf 14 13 2 1,QFl 15 13 14,QFg 16 13 148 [(.t 15),(.c (.i .i64 0)),(.c (.i .i64 199))],QF 17 13 (.un .not (.t 16)),Qr 18 13 17,Qv 19 18,QFf 20 19 3 1,QFl 21 19 20,QFg 22 19 148 [(.t 21),(.c (.i .i64 0)),(.c (.i .i64 100000))],QF 23 19 (.un .not (.t 22)),Qr 24 19 23,Qv 25 24,QFf 26 25 4 1,QFl 27 25 26,QFg 28 25 148 [(.t 27),(.c (.i .i64 0)),(.c (.i .i64 100000))],QF 29 25 (.un .not (.t 28)),Qr 30 25 29]
def r89_2:List O:=[Qk 2 (.i .i64 1)]
def r89_3:List O:=[Qk 2 (.i .i64 0)]
def a89:FI:=⟨31,[.tmp 2],.seq (.ops r89_0) (.seq (.seq (.ops r89_1) (.cond (.t 30) (.seq (.ops r89_2) (.ret)) (.skip))) (.seq (.ops r89_3) (.ret))),none,none⟩
def r90_0:List O:=[Qk 2 (.i .i64 0)]
def r90_1:List O:=[Qv 6 0,Qn 7 6,Qc 8 .gtr 7 (.i .i64 24)]
def r90_2:List O:=[Qk 2 (.i .i64 2)]
def r90_3:List O:=[Qo 9 (.mkMap),Qv 3 9]
def r90_4:List O:=[Qv 10 0,Qn 11 10,Qk 12 (.i .i64 0)]
def r90_5:List O:=[Qb 13 .lss 12 11]
def r90_6:List O:=[Qx 14 2 10 12,Qd 15 2 14,Qm 5 [.i .i64 0,.i .i64 0],Qs 2 5 15]
def r90_7:List O:=[Qf 16 0 5,Ql 17 16,Qg 18 147 [(.t 17)],Qo 19 (.un .not (.t 18)),Qv 20 19,QFf 21 20 1 5,QFl 22 20 21,QFg 23 20 147 [(.t 22)],QF 24 20 (.un .not (.t 23)),Qr 25 20 24]
def r90_8:List O:=[Qk 2 (.i .i64 1)]
def r90_9:List O:=[Qv 26 3,Qf 27 0 5,Ql 28 27,Qo 29 (.look (.sc (.i .i64)) (.b false) false (.t 26) (.t 28))]
def r90_10:List O:=[Qk 2 (.i .i64 6)]
def r90_11:List O:=[Qv 30 3,Qf 31 0 5,Ql 32 31,Qq (.mapSet (.sc (.i .i64)) (.t 30) (.t 32) (.c (.b true)))]
def r90_12:List O:=[Qc 33 .add 12 (.i .i64 1),Qv 12 33]
def b90_0:C:=.seq (.ops r90_5) (.seq (.cond (.t 13) (.skip) (.exit 0)) (.seq (.block 1 (.seq (.ops r90_6) (.seq (.seq (.ops r90_7) (.cond (.t 25) (.seq (.ops r90_8) (.ret)) (.skip))) (.seq (.seq (.ops r90_9) (.cond (.t 29) (.seq (.ops r90_10) (.ret)) (.skip))) (.ops r90_11))))) (.ops r90_12)))
def r90_13:List O:=[Qk 2 (.i .i64 0)]
def a90:FI:=⟨34,[.tmp 2],.seq (.ops r90_0) (.seq (.seq (.ops r90_1) (.cond (.t 8) (.seq (.ops r90_2) (.ret)) (.skip))) (.seq (.ops r90_3) (.seq (.seq (.ops r90_4) (.block 0 (.loop b90_0))) (.seq (.ops r90_13) (.ret))))),none,none⟩
def r91_0:List O:=[Qk 4 (.i .i64 0)]
def r91_1:List O:=[Qv 8 1,Qn 9 8,Qv 10 0,Qb 11 .neq 9 10]
def r91_2:List O:=[Qk 4 (.i .i64 1)]
def r91_3:List O:=[Qv 12 0,Qo 13 (.mkSl [.b false] 1 (.t 12) (.t 12)),Qv 5 13]
def r91_4:List O:=[Qv 14 1,Qn 15 14,Qk 16 (.i .i64 0)]
def r91_5:List O:=[Qb 17 .lss 16 15]
def r91_6:List O:=[Qx 18 1 14 16,Ql 19 18,Qv 7 19]
def r91_7:List O:=[Qv 20 7,Qc 21 .lss 20 (.i .i64 0),Qv 22 21,QFv 23 22 7,QFv 24 22 0,QFb 25 22 .geq 23 24,Qr 26 22 25,Qv 27 26,QFv 28 27 5,QFv 29 27 7,QFx 30 27 1 28 29,QFl 31 27 30,Qr 32 27 31]
def r91_8:List O:=[Qk 4 (.i .i64 1)]
def r91_9:List O:=[Qv 33 5,Qv 34 7,Qx 35 1 33 34,Qq (.st 1 (.t 35) (.c (.b true)))]
def r91_10:List O:=[Qc 36 .add 16 (.i .i64 1),Qv 16 36]
def b91_0:C:=.seq (.ops r91_5) (.seq (.cond (.t 17) (.skip) (.exit 0)) (.seq (.block 1 (.seq (.ops r91_6) (.seq (.seq (.ops r91_7) (.cond (.t 32) (.seq (.ops r91_8) (.ret)) (.skip))) (.ops r91_9)))) (.ops r91_10)))
def r91_11:List O:=[Qk 4 (.i .i64 0)]
def a91:FI:=⟨37,[.tmp 4],.seq (.ops r91_0) (.seq (.seq (.ops r91_1) (.cond (.t 11) (.seq (.ops r91_2) (.ret)) (.skip))) (.seq (.ops r91_3) (.seq (.seq (.ops r91_4) (.block 0 (.loop b91_0))) (.seq (.ops r91_11) (.ret))))),none,none⟩
def a92:FI:=zaY 2 2
def r93_0:List O:=[Qk 4 (.s []),Qk 5 (.s []),Qk 6 (.b false)]
def r93_1:List O:=[Qv 8 0,Qv 9 1,Qg 10 152 [(.t 8),(.t 9)],Qv 7 10]
def r93_2:List O:=[Qv 11 7,Qc 12 .geq 11 (.i .i64 0)]
def r93_3:List O:=[Qv 13 0,Qv 14 7,Qo 15 (.slcS (.t 13) none (some (.t 14))),Qv 16 0,Qv 17 7,Qv 18 1,Qo 19 (.lenS (.t 18)),Qb 20 .add 17 19,Qo 21 (.slcS (.t 16) (some (.t 20)) none),Qv 4 15,Qv 5 21,Qk 6 (.b true)]
def r93_4:List O:=[Qv 22 0,Qv 4 22,Qk 5 (.s []),Qk 6 (.b false)]
def a93:FI:=⟨23,[.tmp 4,.tmp 5,.tmp 6],.seq (.ops r93_0) (.seq (.seq (.ops r93_1) (.seq (.ops r93_2) (.cond (.t 12) (.seq (.draw r93_3 []) (.ret)) (.skip)))) (.seq (.ops r93_4) (.ret))),none,none⟩
def r96_0:List O:=[Qh 1 0,Qk 2 (.b false)]
def r96_1:List O:=[Qf 7 0 1,Ql 8 7,Qf 9 1 1,Ql 10 9,Qo 11 (.build ([.i .u8 0]++List.replicate 14 (.i .i64 0)++[.i .u8 0]++[.i .i64 0,.i .i64 0]++[.i .u8 0]++[.i .i64 0,.i .i64 0,.i .i64 0,.i .i64 0,.i .i64 0]) [(0,1,(.t 8)),(1,1,(.t 10))]),Qm 3 ([.i .u8 0]++List.replicate 14 (.i .i64 0)++[.i .u8 0]++[.i .i64 0,.i .i64 0]++[.i .u8 0]++[.i .i64 0,.i .i64 0,.i .i64 0,.i .i64 0,.i .i64 0]),Qs 24 3 11]
def r96_2:List O:=[Qk 4 (.b false)]
def r96_3:List O:=[Qf 12 0 1,Ql 13 12]
def r96_4:List O:=[Qc 15 .eql 13 (.i .u8 1),Qv 14 15]
def r96_5:List O:=[Qf 16 21 1,Ql 17 16,Qf 18 23 1,Ql 19 18,Qf 20 21 3,Qs 1 20 17,Qf 21 23 3,Qs 1 21 19]
def r96_6:List O:=[Qf 22 21 1,Ql 23 22,Qg 24 57 [(.t 23),(.c (.i .i64 1)),(.c (.i .i64 2))],Qv 25 24,QTf 26 25 23 1,QTl 27 25 26,QTg 28 25 57 [(.t 27),(.c (.i .i64 1)),(.c (.i .i64 1000000))],Qa 29 25 28,Qv 4 29]
def r96_7:List O:=[Qc 31 .eql 13 (.i .u8 2),Qv 30 31]
def r96_8:List O:=[Qf 32 21 1,Ql 33 32,Qf 34 23 1,Ql 35 34,Qf 36 21 3,Qs 1 36 33,Qf 37 23 3,Qs 1 37 35]
def r96_9:List O:=[Qf 38 21 1,Ql 39 38,Qg 40 158 [(.t 39)],Qv 41 40,QTf 42 41 23 1,QTl 43 41 42,QTg 44 41 57 [(.t 43),(.c (.i .i64 1)),(.c (.i .i64 1000000000000))],Qa 45 41 44,Qv 4 45]
def r96_10:List O:=[Qc 47 .eql 13 (.i .u8 3),Qv 46 47]
def r96_11:List O:=[Qf 48 2 1,Qd 49 9 48,Qf 50 2 3,Qs 9 50 49]
def r96_12:List O:=[Qf 51 2 1,Qd 52 9 51,Qg 53 159 [(.t 52)],Qv 54 53,QTf 55 54 2 1,QTf 56 54 1 55,QTl 57 54 56,QTf 58 54 1 1,QTl 59 54 58,QTb 60 54 .eql 57 59,Qa 61 54 60,Qv 4 61]
def r96_13:List O:=[Qc 63 .eql 13 (.i .u8 4),Qv 62 63]
def r96_14:List O:=[Qf 64 2 1,Qf 65 0 64,Ql 66 65,Qf 67 2 3,Qf 68 0 67,Qs 1 68 66]
def r96_15:List O:=[Qf 69 2 1,Qf 70 0 69,Ql 71 70,Qg 72 57 [(.t 71),(.c (.i .i64 1)),(.c (.i .i64 500))],Qv 4 72]
def r96_16:List O:=[Qc 74 .eql 13 (.i .u8 5),Qv 73 74]
def r96_17:List O:=[Qf 75 11 1,Qd 76 10 75,Qm 5 [.i .i64 0,.i .i64 0,.i .i64 0,.i .i64 0,.i .u8 0,.i .i64 0,.i .i64 0,.i .u8 0,.i .i64 0,.i .i64 0],Qs 10 5 76]
def r96_18:List O:=[Qf 77 0 5,Ql 78 77,Qf 79 1 5,Ql 80 79,Qf 81 2 5,Ql 82 81,Qf 83 3 5,Ql 84 83,Qf 85 4 5,Ql 86 85,Qf 87 5 5,Ql 88 87,Qf 89 9 5,Ql 90 89,Qo 91 (.build [.i .i64 0,.i .i64 0,.i .i64 0,.i .i64 0,.i .u8 0,.i .i64 0,.i .i64 0,.i .u8 0,.i .i64 0,.i .i64 0] [(0,1,(.t 78)),(1,1,(.t 80)),(2,1,(.t 82)),(3,1,(.t 84)),(4,1,(.t 86)),(5,1,(.t 88)),(9,1,(.t 90))]),Qf 92 11 3,Qs 10 92 91]
def r96_19:List O:=[Qf 93 0 5,Ql 94 93,Qg 95 57 [(.t 94),(.c (.i .i64 1)),(.c (.i .i64 500))],Qv 96 95,QTf 97 96 2 5,QTl 98 96 97,QTg 99 96 158 [(.t 98)],Qa 100 96 99,Qv 101 100,QTf 102 101 3 5,QTl 103 101 102,QTg 104 101 158 [(.t 103)],Qa 105 101 104,Qv 106 105,QTf 107 106 2 5,QTl 108 106 107,QTf 109 106 3 5,QTl 110 106 109,QTb 111 106 .neq 108 110,Qa 112 106 111,Qv 113 112,QTf 114 113 9 5,QTl 115 113 114,QTg 116 113 57 [(.t 115),(.c (.i .i64 0)),(.c (.i .i64 500))],Qa 117 113 116,Qv 118 117,QTf 119 118 9 5,QTl 120 118 119,QTf 121 118 0 5,QTl 122 118 121,QTb 123 118 .neq 120 122,Qa 124 118 123,Qv 6 124]
def r96_20:List O:=[Qv 125 6,Qv 126 125,QTf 127 126 1 5,QTl 128 126 127,QTf 129 126 1 1,QTl 130 126 129,QTb 131 126 .eql 128 130,Qa 132 126 131,Qv 133 132,QTf 134 133 4 5,QTl 135 133 134,QT 136 133 (.conv .i64 (.t 135)),QTg 137 133 57 [(.t 136),(.c (.i .i64 1)),(.c (.i .i64 2))],Qa 138 133 137,Qv 139 138,QTf 140 139 5 5,QTl 141 139 140,QTg 142 139 57 [(.t 141),(.c (.i .i64 1)),(.c (.i .i64 1000000))],Qa 143 139 142,Qv 4 143]
def r96_21:List O:=[Qc 145 .eql 13 (.i .u8 6),Qv 144 145]
def r96_22:List O:=[Qc 146 .eql 13 (.i .u8 7),Qv 144 146]
def r96_23:List O:=[Qf 147 11 1,Qf 148 0 147,Ql 149 148,Qf 150 11 3,Qf 151 0 150,Qs 1 151 149]
def r96_24:List O:=[Qf 152 11 1,Qf 153 0 152,Ql 154 153,Qg 155 57 [(.t 154),(.c (.i .i64 1)),(.c (.i .i64 500))],Qv 4 155]
def r96_25:List O:=[Qv 156 4,Qv 157 156,QTd 158 157 24 1,QTd 159 157 24 3,QT 160 157 (.eqv false (.agg [.i .u8,.i .i64,.i .i64,.i .i64,.i .i64,.i .i64,.i .i64,.i .i64,.i .i64,.i .i64,.i .i64,.i .i64,.i .i64,.i .i64,.i .i64,.i .u8,.i .i64,.i .i64,.i .u8,.i .i64,.i .i64,.i .i64,.i .i64,.i .i64]) (.t 158) (.t 159)),Qa 161 157 160,Qv 162 161,QTf 163 162 1 1,QTl 164 162 163,QTg 165 162 57 [(.t 164),(.c (.i .i64 0)),(.c (.i .i64 100000))],Qa 166 162 165,Qv 2 166]
def a96:FI:=⟨167,[.tmp 2],.seq (.ops r96_0) (.seq (.ops r96_1) (.seq (.ops r96_2) (.seq (.seq (.ops r96_3) (.block 0 (.seq (.ops r96_4) (.cond (.t 14) (.seq (.draw r96_5 [(3,5)]) (.ops r96_6)) (.seq (.ops r96_7) (.cond (.t 30) (.seq (.draw r96_8 [(3,5)]) (.ops r96_9)) (.seq (.ops r96_10) (.cond (.t 46) (.seq (.ops r96_11) (.ops r96_12)) (.seq (.ops r96_13) (.cond (.t 62) (.seq (.ops r96_14) (.ops r96_15)) (.seq (.ops r96_16) (.cond (.t 73) (.seq (.ops r96_17) (.seq (.ops r96_18) (.seq (.ops r96_19) (.ops r96_20)))) (.seq (.seq (.ops r96_21) (.cond (.t 144) (.skip) (.ops r96_22))) (.cond (.t 144) (.seq (.ops r96_23) (.ops r96_24)) (.skip))))))))))))))) (.seq (.ops r96_25) (.ret))))),none,none⟩
def r97_0:List O:=[Qh 1 0,Qk 2 (.sn)]
def r97_1:List O:=[Qf 5 2 1,Qd 6 9 5,Qf 7 11 1,Qd 8 10 7,Qm 3 (List.replicate 9 (.i .i64 0)),Qm 4 [.i .i64 0,.i .i64 0,.i .i64 0,.i .i64 0,.i .u8 0,.i .i64 0,.i .i64 0,.i .u8 0,.i .i64 0,.i .i64 0],Qs 9 3 6,Qs 10 4 8]
def r97_2:List O:=[Qf 9 0 1,Ql 10 9]
def r97_3:List O:=[Qc 12 .eql 10 (.i .u8 1),Qv 11 12]
def r97_4:List O:=[Qc 13 .eql 10 (.i .u8 2),Qv 11 13]
def r97_5:List O:=[Qf 14 21 1,Ql 15 14,Qf 16 23 1,Ql 17 16,Qo 18 (.buildSl [.i .i64 0,.i .i64 0] 2 [(0,1,(.t 15)),(1,1,(.t 17))]),Qv 2 18]
def r97_6:List O:=[Qc 20 .eql 10 (.i .u8 3),Qv 19 20]
def r97_7:List O:=[Qf 21 0 3,Ql 22 21,Qf 23 2 3,Ql 24 23,Qf 25 3 3,Ql 26 25,Qf 27 4 3,Ql 28 27,Qf 29 5 3,Ql 30 29,Qf 31 6 3,Ql 32 31,Qf 33 7 3,Ql 34 33,Qf 35 8 3,Ql 36 35,Qo 37 (.buildSl [.i .i64 0,.i .i64 0,.i .i64 0,.i .i64 0,.i .i64 0,.i .i64 0,.i .i64 0,.i .i64 0] 8 [(0,1,(.t 22)),(1,1,(.t 24)),(2,1,(.t 26)),(3,1,(.t 28)),(4,1,(.t 30)),(5,1,(.t 32)),(6,1,(.t 34)),(7,1,(.t 36))]),Qv 2 37]
def r97_8:List O:=[Qc 39 .eql 10 (.i .u8 4),Qv 38 39]
def r97_9:List O:=[Qf 40 0 3,Ql 41 40,Qo 42 (.buildSl [.i .i64 0] 1 [(0,1,(.t 41))]),Qv 2 42]
def r97_10:List O:=[Qc 44 .eql 10 (.i .u8 5),Qv 43 44]
def r97_11:List O:=[Qf 45 0 4,Ql 46 45,Qf 47 2 4,Ql 48 47,Qf 49 3 4,Ql 50 49,Qf 51 4 4,Ql 52 51,Qo 53 (.conv .i64 (.t 52)),Qf 54 5 4,Ql 55 54,Qf 56 9 4,Ql 57 56,Qo 58 (.buildSl [.i .i64 0,.i .i64 0,.i .i64 0,.i .i64 0,.i .i64 0,.i .i64 0] 6 [(0,1,(.t 46)),(1,1,(.t 48)),(2,1,(.t 50)),(3,1,(.t 53)),(4,1,(.t 55)),(5,1,(.t 57))]),Qv 2 58]
def r97_12:List O:=[Qf 59 0 4,Ql 60 59,Qo 61 (.buildSl [.i .i64 0] 1 [(0,1,(.t 60))]),Qv 2 61]
def a97:FI:=⟨62,[.tmp 2],.seq (.ops r97_0) (.seq (.draw r97_1 [(3,6)]) (.seq (.seq (.ops r97_2) (.block 0 (.seq (.seq (.ops r97_3) (.cond (.t 11) (.skip) (.ops r97_4))) (.cond (.t 11) (.seq (.ops r97_5) (.ret)) (.seq (.ops r97_6) (.cond (.t 19) (.seq (.ops r97_7) (.ret)) (.seq (.ops r97_8) (.cond (.t 38) (.seq (.ops r97_9) (.ret)) (.seq (.ops r97_10) (.cond (.t 43) (.seq (.ops r97_11) (.ret)) (.skip))))))))))) (.seq (.ops r97_12) (.ret)))),none,none⟩
def r98_0:List O:=[Qk 2 (.i .i64 0)]
def r98_1:List O:=[Qv 3 0,Qo 4 (.eqv false (.ptr) (.t 3) (.c (.pn))),Qv 5 4,QFv 6 5 0,QFi 7 5 6,QFf 8 5 0 7,QFl 9 5 8,QFn 10 5 9,QFc 11 5 .eql 10 (.i .i64 0),Qr 12 5 11]
def r98_2:List O:=[Qk 2 (.i .i64 0)]
def r98_3:List O:=[Qv 13 0,Qi 14 13,Qf 15 0 14,Ql 16 15,Qv 17 0,Qi 18 17,Qf 19 0 18,Ql 20 19,Qn 21 20,Qc 22 .sub 21 (.i .i64 1),Qx 23 24 16 22,Qf 24 1 23,Ql 25 24,Qv 2 25]
def a98:FI:=⟨26,[.tmp 2],.seq (.ops r98_0) (.seq (.seq (.ops r98_1) (.cond (.t 12) (.seq (.ops r98_2) (.ret)) (.skip))) (.seq (.draw r98_3 []) (.ret))),none,none⟩
def r99_0:List O:=[Qh 5 2,Qk 6 (.i .i64 0)]
def r99_1:List O:=[Qv 11 0,Qi 12 11,Qf 13 2 12,Ql 14 13,Qn 15 14,Qc 16 .geq 15 (.i .i64 500)]
def r99_2:List O:=[Qk 6 (.i .i64 2)]
def r99_3:List O:=[Qf 17 0 5,Ql 18 17,Qv 19 0,Qi 20 19,Qf 21 2 20,Ql 22 21,Qn 23 22,Qc 24 .add 23 (.i .i64 1),Qb 25 .neq 18 24]
def r99_4:List O:=[Qk 6 (.i .i64 1)]
def r99_5:List O:=[Qv 27 1,Qg 28 112 [(.t 27)],Qv 26 28,Qe 29 26 0,Qe 30 26 1,Qv 7 29,Qv 8 30]
def r99_6:List O:=[Qv 31 8,Qc 32 .neq 31 (.i .i64 0)]
def r99_7:List O:=[Qv 33 8,Qv 6 33]
def r99_8:List O:=[Qv 34 1,Qd 35 9 5,Qg 36 160 [(.t 34),(.t 35)],Qo 37 (.un .not (.t 36))]
def r99_9:List O:=[Qk 6 (.i .i64 60)]
def r99_10:List O:=[Qv 39 0,Qi 40 39,Qf 41 3 40,Ql 42 41,Qf 43 3 5,Ql 44 43,Qf 45 4 5,Ql 46 45,Qo 47 (.build [.i .i64 0,.i .i64 0] [(0,1,(.t 44)),(1,1,(.t 46))]),Qo 48 (.look (.ag [.i .i64,.i .i64]) (.i .i64 0) true (.t 42) (.t 47)),Qv 38 48,Qe 49 38 0,Qe 50 38 1,Qv 9 49,Qv 10 50]
def r99_11:List O:=[Qv 51 10]
def r99_12:List O:=[Qk 6 (.i .i64 61)]
def r99_13:List O:=[Qk 6 (.i .i64 0)]
def a99:FI:=⟨52,[.tmp 6],.seq (.ops r99_0) (.seq (.seq (.ops r99_1) (.cond (.t 16) (.seq (.ops r99_2) (.ret)) (.skip))) (.seq (.seq (.draw r99_3 []) (.cond (.t 25) (.seq (.ops r99_4) (.ret)) (.skip))) (.seq (.seq (.ops r99_5) (.seq (.ops r99_6) (.cond (.t 32) (.seq (.ops r99_7) (.ret)) (.skip)))) (.seq (.seq (.ops r99_8) (.cond (.t 37) (.seq (.ops r99_9) (.ret)) (.skip))) (.seq (.seq (.draw r99_10 []) (.seq (.ops r99_11) (.cond (.t 51) (.seq (.ops r99_12) (.ret)) (.skip)))) (.seq (.ops r99_13) (.ret))))))),none,none⟩
def r100_0:List O:=[Qh 3 1,Qk 4 (.i .i64 0)]
def r100_1:List O:=[Qv 9 0,Qi 10 9,Qf 11 4 10,Ql 12 11,Qn 13 12,Qc 14 .geq 13 (.i .i64 500),Qv 8 14]
def r100_2:List O:=[Qk 4 (.i .i64 2)]
def r100_3:List O:=[Qf 16 0 3,Ql 17 16,Qv 18 0,Qi 19 18,Qf 20 4 19,Ql 21 20,Qn 22 21,Qc 23 .add 22 (.i .i64 1),Qb 24 .neq 17 23,Qv 15 24]
def r100_4:List O:=[Qk 4 (.i .i64 1)]
def r100_5:List O:=[Qv 26 0,Qi 27 26,Qf 28 0 27,Ql 29 28,Qf 30 4 3,Ql 31 30,Qo 32 (.conv .i64 (.t 31)),Qo 33 (.look (.sc (.i .i64)) (.i .i64 0) false (.t 29) (.t 32)),Qc 34 .eql 33 (.i .i64 0),Qv 25 34]
def r100_6:List O:=[Qk 4 (.i .i64 8)]
def r100_7:List O:=[Qf 36 9 3,Ql 37 36,Qv 38 0,Qi 39 38,Qf 40 4 39,Ql 41 40,Qn 42 41,Qb 43 .gtr 37 42,Qv 35 43]
def r100_8:List O:=[Qk 4 (.i .i64 5)]
def r100_9:List O:=[Qf 44 9 3,Ql 45 44,Qc 46 .gtr 45 (.i .i64 0)]
def r100_10:List O:=[Qv 47 0,Qi 48 47,Qf 49 4 48,Ql 50 49,Qf 51 9 3,Ql 52 51,Qc 53 .sub 52 (.i .i64 1),Qx 54 10 50 53,Qd 55 10 54,Qm 5 [.i .i64 0,.i .i64 0,.i .i64 0,.i .i64 0,.i .u8 0,.i .i64 0,.i .i64 0,.i .u8 0,.i .i64 0,.i .i64 0],Qs 10 5 55]
def r100_11:List O:=[Qf 56 2 5,Ql 57 56,Qf 58 3 3,Ql 59 58,Qb 60 .neq 57 59,Qv 61 60,QFf 62 61 3 5,QFl 63 61 62,QFf 64 61 2 3,QFl 65 61 64,QFb 66 61 .neq 63 65,Qr 67 61 66,Qv 68 67,QFf 69 68 9 5,QFl 70 68 69,QFc 71 68 .neq 70 (.i .i64 0),Qr 72 68 71,Qv 73 72,QFf 74 73 7 5,QFl 75 73 74,QFc 76 73 .neq 75 (.i .u8 2),Qr 77 73 76]
def r100_12:List O:=[Qk 4 (.i .i64 8)]
def r100_13:List O:=[Qv 79 0,Qi 80 79,Qf 81 1 80,Ql 82 81,Qf 83 3 3,Ql 84 83,Qo 85 (.look (.sc (.i .i64)) (.i .i64 0) true (.t 82) (.t 84)),Qv 78 85,Qe 86 78 0,Qe 87 78 1,Qv 6 86,Qv 7 87]
def r100_14:List O:=[Qv 88 7,Qv 89 88,QTv 90 89 0,QTd 91 89 10 3,QTg 92 89 161 [(.t 90),(.t 91)],QTv 93 89 6,QTb 94 89 .gtr 92 93,Qa 95 89 94]
def r100_15:List O:=[Qk 4 (.i .i64 2)]
def r100_16:List O:=[Qk 4 (.i .i64 0)]
def a100:FI:=⟨96,[.tmp 4],.seq (.ops r100_0) (.seq (.block 0 (.seq (.ops r100_1) (.cond (.t 8) (.seq (.ops r100_2) (.ret)) (.seq (.draw r100_3 []) (.cond (.t 15) (.seq (.ops r100_4) (.ret)) (.seq (.draw r100_5 []) (.cond (.t 25) (.seq (.ops r100_6) (.ret)) (.seq (.draw r100_7 []) (.cond (.t 35) (.seq (.ops r100_8) (.ret)) (.skip)))))))))) (.seq (.seq (.ops r100_9) (.cond (.t 46) (.seq (.draw r100_10 []) (.seq (.ops r100_11) (.cond (.t 77) (.seq (.ops r100_12) (.ret)) (.skip)))) (.skip))) (.seq (.seq (.draw r100_13 []) (.seq (.ops r100_14) (.cond (.t 95) (.seq (.ops r100_15) (.ret)) (.skip)))) (.seq (.ops r100_16) (.ret))))),none,none⟩
def r101_0:List O:=[Qh 3 1]
def r101_1:List O:=[Qv 4 0,Qi 5 4,Qf 6 0 5,Ql 7 6,Qf 8 21 3,Ql 9 8,Qf 10 23 3,Ql 11 10,Qq (.mapSet (.sc (.i .i64)) (.t 7) (.t 9) (.t 11))]
def a101:FI:=⟨12,[],.seq (.ops r101_0) (.draw r101_1 []),none,none⟩
def r102_0:List O:=[Qh 3 1]
def r102_1:List O:=[Qv 4 0,Qi 5 4,Qf 6 1 5,Ql 7 6,Qf 8 21 3,Ql 9 8,Qf 10 23 3,Ql 11 10,Qq (.mapSet (.sc (.i .i64)) (.t 7) (.t 9) (.t 11))]
def a102:FI:=⟨12,[],.seq (.ops r102_0) (.draw r102_1 []),none,none⟩
def r103_0:List O:=[Qh 3 1]
def r103_1:List O:=[Qf 8 2 3,Qd 9 9 8,Qm 4 (List.replicate 9 (.i .i64 0)),Qs 9 4 9]
def r103_2:List O:=[Qv 10 0,Qv 11 0,Qi 12 11,Qf 13 2 12,Ql 14 13,Qd 15 9 4,Qo 16 (.buildSl (List.replicate 9 (.i .i64 0)) 1 [(0,9,(.t 15))]),Qo 17 (.app 9 72 (.t 14) (.t 16)),Qi 18 10,Qf 19 2 18,Qs 1 19 17]
def r103_3:List O:=[Qf 20 4 4,Ql 21 20,Qf 22 3 4,Ql 23 22,Qo 24 (.build [.i .i64 0,.i .i64 0] [(0,1,(.t 21)),(1,1,(.t 23))]),Qm 5 [.i .i64 0,.i .i64 0],Qs 2 5 24]
def r103_4:List O:=[Qv 26 0,Qi 27 26,Qf 28 3 27,Ql 29 28,Qd 30 2 5,Qo 31 (.look (.ag [.i .i64,.i .i64]) (.i .i64 0) true (.t 29) (.t 30)),Qv 25 31,Qe 32 25 0,Qe 33 25 1,Qv 6 32,Qv 7 33]
def r103_5:List O:=[Qv 34 7]
def r103_6:List O:=[Qv 35 0,Qi 36 35,Qf 37 3 36,Ql 38 37,Qd 39 2 5,Qq (.no)]
def r103_7:List O:=[Qv 40 0,Qi 41 40,Qf 42 3 41,Ql 43 42,Qf 44 3 4,Ql 45 44,Qf 46 4 4,Ql 47 46,Qo 48 (.build [.i .i64 0,.i .i64 0] [(0,1,(.t 45)),(1,1,(.t 47))]),Qf 49 0 4,Ql 50 49,Qq (.mapSet (.ag [.i .i64,.i .i64]) (.t 43) (.t 48) (.t 50))]
def a103:FI:=⟨51,[],.seq (.ops r103_0) (.seq (.ops r103_1) (.seq (.draw r103_2 []) (.seq (.ops r103_3) (.seq (.seq (.draw r103_4 []) (.seq (.ops r103_5) (.cond (.t 34) (.seq (.draw r103_6 []) (.ret)) (.skip)))) (.draw r103_7 []))))),none,none⟩
def r104_0:List O:=[Qh 3 1]
def r104_1:List O:=[Qv 5 0,Qi 6 5,Qf 7 2 6,Ql 8 7,Qf 9 2 3,Qf 10 0 9,Ql 11 10,Qc 12 .sub 11 (.i .i64 1),Qx 13 9 8 12,Qv 4 13]
def r104_2:List O:=[Qv 14 4,Qv 15 4,Qi 16 15,Qf 17 8 16,Ql 18 17,Qf 19 1 3,Ql 20 19,Qv 21 4,Qi 22 21,Qf 23 7 22,Ql 24 23,Qo 25 (.max [(.t 20),(.t 24)]),Qo 26 (.min [(.t 18),(.t 25)]),Qi 27 14,Qf 28 8 27,Qs 1 28 26]
def a104:FI:=⟨29,[],.seq (.ops r104_0) (.seq (.draw r104_1 []) (.draw r104_2 [])),none,none⟩
def r105_0:List O:=[Qh 3 1]
def r105_1:List O:=[Qf 5 11 3,Qd 6 10 5,Qm 4 [.i .i64 0,.i .i64 0,.i .i64 0,.i .i64 0,.i .u8 0,.i .i64 0,.i .i64 0,.i .u8 0,.i .i64 0,.i .i64 0],Qs 10 4 6]
def r105_2:List O:=[Qv 7 0,Qd 8 10 4,Qg 9 161 [(.t 7),(.t 8)],Qf 10 6 4,Qs 1 10 9,Qf 11 7 4,Qq (.st 1 (.t 11) (.c (.i .u8 1)))]
def r105_3:List O:=[Qv 12 0,Qv 13 0,Qi 14 13,Qf 15 4 14,Ql 16 15,Qd 17 10 4,Qo 18 (.buildSl [.i .i64 0,.i .i64 0,.i .i64 0,.i .i64 0,.i .u8 0,.i .i64 0,.i .i64 0,.i .u8 0,.i .i64 0,.i .i64 0] 1 [(0,10,(.t 17))]),Qo 19 (.app 10 80 (.t 16) (.t 18)),Qi 20 12,Qf 21 4 20,Qs 1 21 19]
def a105:FI:=⟨22,[],.seq (.ops r105_0) (.seq (.ops r105_1) (.seq (.ops r105_2) (.draw r105_3 []))),none,none⟩
def r106_0:List O:=[Qh 3 1]
def r106_1:List O:=[Qv 6 0,Qi 7 6,Qf 8 4 7,Ql 9 8,Qf 10 11 3,Qf 11 0 10,Ql 12 11,Qc 13 .sub 12 (.i .i64 1),Qx 14 10 9 13,Qv 4 14]
def r106_2:List O:=[Qv 15 4,Qv 16 4,Qf 17 1 3,Ql 18 17,Qi 19 15,Qf 20 7 19,Qq (.st 1 (.t 20) (.c (.i .u8 2))),Qi 21 16,Qf 22 8 21,Qs 1 22 18]
def r106_3:List O:=[Qv 23 4,Qi 24 23,Qf 25 9 24,Ql 26 25,Qc 27 .eql 26 (.i .i64 0)]
def r106_4:List O:=[Qv 28 0,Qi 29 28,Qf 30 5 29,Ql 31 30,Qv 32 4,Qi 33 32,Qf 34 9 33,Ql 35 34,Qo 36 (.look (.sc (.i .i64)) (.i .i64 0) false (.t 31) (.t 35)),Qv 37 4,Qi 38 37,Qf 39 6 38,Ql 40 39,Qb 41 .add 36 40,Qq (.mapSet (.sc (.i .i64)) (.t 31) (.t 35) (.t 41))]
def r106_5:List O:=[Qv 42 0,Qi 43 42,Qf 44 4 43,Ql 45 44,Qv 46 4,Qi 47 46,Qf 48 9 47,Ql 49 48,Qc 50 .sub 49 (.i .i64 1),Qx 51 10 45 50,Qv 5 51]
def r106_6:List O:=[Qv 52 0,Qi 53 52,Qf 54 5 53,Ql 55 54,Qv 56 4,Qi 57 56,Qf 58 9 57,Ql 59 58,Qo 60 (.look (.sc (.i .i64)) (.i .i64 0) false (.t 55) (.t 59)),Qv 61 5,Qi 62 61,Qf 63 6 62,Ql 64 63,Qb 65 .geq 60 64]
def r106_7:List O:=[Qv 66 5,Qi 67 66,Qf 68 7 67,Qq (.st 1 (.t 68) (.c (.i .u8 4)))]
def a106:FI:=⟨69,[],.seq (.ops r106_0) (.seq (.draw r106_1 []) (.seq (.draw r106_2 [(3,6)]) (.seq (.seq (.ops r106_3) (.cond (.t 27) (.ret) (.skip))) (.seq (.draw r106_4 []) (.seq (.draw r106_5 []) (.seq (.draw r106_6 []) (.cond (.t 65) (.ops r106_7) (.skip)))))))),none,none⟩
def r107_0:List O:=[Qh 3 1]
def r107_1:List O:=[Qv 5 0,Qi 6 5,Qf 7 4 6,Ql 8 7,Qf 9 11 3,Qf 10 0 9,Ql 11 10,Qc 12 .sub 11 (.i .i64 1),Qx 13 10 8 12,Qv 4 13]
def r107_2:List O:=[Qv 14 4,Qv 15 4,Qf 16 1 3,Ql 17 16,Qi 18 14,Qf 19 7 18,Qq (.st 1 (.t 19) (.c (.i .u8 3))),Qi 20 15,Qf 21 8 20,Qs 1 21 17]
def a107:FI:=⟨22,[],.seq (.ops r107_0) (.seq (.draw r107_1 []) (.draw r107_2 [(3,6)])),none,none⟩
def r114_0:List O:=[Qh 1 0,Qk 2 (.b false)]
def r114_1:List O:=[Qf 5 1 1,Ql 6 5,Qg 7 165 [(.t 6),(.c (.i .i64 0)),(.c (.i .i64 100000))],Qo 8 (.un .not (.t 7))]
def r114_2:List O:=[Qk 2 (.b false)]
def r114_3:List O:=[Qf 9 0 1,Ql 10 9,Qf 11 1 1,Ql 12 11,Qo 13 (.build ([.i .u8 0]++List.replicate 14 (.i .i64 0)++[.i .u8 0]++[.i .i64 0,.i .i64 0]++[.i .u8 0]++[.i .i64 0,.i .i64 0,.i .i64 0,.i .i64 0,.i .i64 0]) [(0,1,(.t 10)),(1,1,(.t 12))]),Qm 3 ([.i .u8 0]++List.replicate 14 (.i .i64 0)++[.i .u8 0]++[.i .i64 0,.i .i64 0]++[.i .u8 0]++[.i .i64 0,.i .i64 0,.i .i64 0,.i .i64 0,.i .i64 0]),Qs 24 3 13]
def r114_4:List O:=[Qf 14 0 1,Ql 15 14]
def r114_5:List O:=[Qc 17 .eql 15 (.i .u8 1),Qv 16 17]
def r114_6:List O:=[Qf 18 21 1,Ql 19 18,Qf 20 21 3,Qs 1 20 19]
def r114_7:List O:=[Qf 21 23 1,Ql 22 21,Qf 23 23 3,Qs 1 23 22]
def r114_8:List O:=[Qd 24 24 1,Qd 25 24 3,Qo 26 (.eqv false (.agg [.i .u8,.i .i64,.i .i64,.i .i64,.i .i64,.i .i64,.i .i64,.i .i64,.i .i64,.i .i64,.i .i64,.i .i64,.i .i64,.i .i64,.i .i64,.i .u8,.i .i64,.i .i64,.i .u8,.i .i64,.i .i64,.i .i64,.i .i64,.i .i64]) (.t 24) (.t 25)),Qv 27 26,QTf 28 27 21 1,QTl 29 27 28,QTg 30 27 165 [(.t 29),(.c (.i .i64 1)),(.c (.i .i64 2))],Qa 31 27 30,Qv 32 31,QTf 33 32 23 1,QTl 34 32 33,QTg 35 32 165 [(.t 34),(.c (.i .i64 1)),(.c (.i .i64 1000000))],Qa 36 32 35,Qv 2 36]
def r114_9:List O:=[Qc 38 .eql 15 (.i .u8 2),Qv 37 38]
def r114_10:List O:=[Qf 39 21 1,Ql 40 39,Qf 41 21 3,Qs 1 41 40]
def r114_11:List O:=[Qf 42 23 1,Ql 43 42,Qf 44 23 3,Qs 1 44 43]
def r114_12:List O:=[Qd 45 24 1,Qd 46 24 3,Qo 47 (.eqv false (.agg [.i .u8,.i .i64,.i .i64,.i .i64,.i .i64,.i .i64,.i .i64,.i .i64,.i .i64,.i .i64,.i .i64,.i .i64,.i .i64,.i .i64,.i .i64,.i .u8,.i .i64,.i .i64,.i .u8,.i .i64,.i .i64,.i .i64,.i .i64,.i .i64]) (.t 45) (.t 46)),Qv 48 47,QTf 49 48 21 1,QTl 50 48 49,QTg 51 48 166 [(.t 50)],Qa 52 48 51,Qv 53 52,QTf 54 53 23 1,QTl 55 53 54,QTg 56 53 165 [(.t 55),(.c (.i .i64 1)),(.c (.i .i64 1000000000000))],Qa 57 53 56,Qv 2 57]
def r114_13:List O:=[Qc 59 .eql 15 (.i .u8 3),Qv 58 59]
def r114_14:List O:=[Qf 60 2 1,Qd 61 9 60,Qf 62 2 3,Qs 9 62 61]
def r114_15:List O:=[Qd 63 24 1,Qd 64 24 3,Qo 65 (.eqv false (.agg [.i .u8,.i .i64,.i .i64,.i .i64,.i .i64,.i .i64,.i .i64,.i .i64,.i .i64,.i .i64,.i .i64,.i .i64,.i .i64,.i .i64,.i .i64,.i .u8,.i .i64,.i .i64,.i .u8,.i .i64,.i .i64,.i .i64,.i .i64,.i .i64]) (.t 63) (.t 64)),Qv 66 65,QTf 67 66 2 1,QTd 68 66 9 67,QTg 69 66 167 [(.t 68)],Qa 70 66 69,Qv 71 70,QTf 72 71 2 1,QTf 73 71 1 72,QTl 74 71 73,QTf 75 71 1 1,QTl 76 71 75,QTb 77 71 .eql 74 76,Qa 78 71 77,Qv 2 78]
def r114_16:List O:=[Qc 80 .eql 15 (.i .u8 4),Qv 79 80]
def r114_17:List O:=[Qf 81 2 1,Qf 82 0 81,Ql 83 82,Qf 84 2 3,Qf 85 0 84,Qs 1 85 83]
def r114_18:List O:=[Qd 86 24 1,Qd 87 24 3,Qo 88 (.eqv false (.agg [.i .u8,.i .i64,.i .i64,.i .i64,.i .i64,.i .i64,.i .i64,.i .i64,.i .i64,.i .i64,.i .i64,.i .i64,.i .i64,.i .i64,.i .i64,.i .u8,.i .i64,.i .i64,.i .u8,.i .i64,.i .i64,.i .i64,.i .i64,.i .i64]) (.t 86) (.t 87)),Qv 89 88,QTf 90 89 2 1,QTf 91 89 0 90,QTl 92 89 91,QTg 93 89 165 [(.t 92),(.c (.i .i64 1)),(.c (.i .i64 500))],Qa 94 89 93,Qv 2 94]
def r114_19:List O:=[Qc 96 .eql 15 (.i .u8 5),Qv 95 96]
def r114_20:List O:=[Qf 97 11 1,Qd 98 10 97,Qm 4 [.i .i64 0,.i .i64 0,.i .i64 0,.i .i64 0,.i .u8 0,.i .i64 0,.i .i64 0,.i .u8 0,.i .i64 0,.i .i64 0],Qs 10 4 98]
def r114_21:List O:=[Qf 99 0 4,Ql 100 99,Qf 101 1 1,Ql 102 101,Qf 103 2 4,Ql 104 103,Qf 105 3 4,Ql 106 105,Qf 107 4 4,Ql 108 107,Qf 109 5 4,Ql 110 109,Qf 111 9 4,Ql 112 111,Qo 113 (.build [.i .i64 0,.i .i64 0,.i .i64 0,.i .i64 0,.i .u8 0,.i .i64 0,.i .i64 0,.i .u8 0,.i .i64 0,.i .i64 0] [(0,1,(.t 100)),(1,1,(.t 102)),(2,1,(.t 104)),(3,1,(.t 106)),(4,1,(.t 108)),(5,1,(.t 110)),(9,1,(.t 112))]),Qf 114 11 3,Qs 10 114 113]
def r114_22:List O:=[Qd 115 24 1,Qd 116 24 3,Qo 117 (.eqv false (.agg [.i .u8,.i .i64,.i .i64,.i .i64,.i .i64,.i .i64,.i .i64,.i .i64,.i .i64,.i .i64,.i .i64,.i .i64,.i .i64,.i .i64,.i .i64,.i .u8,.i .i64,.i .i64,.i .u8,.i .i64,.i .i64,.i .i64,.i .i64,.i .i64]) (.t 115) (.t 116)),Qv 118 117,QTf 119 118 0 4,QTl 120 118 119,QTg 121 118 165 [(.t 120),(.c (.i .i64 1)),(.c (.i .i64 500))],Qa 122 118 121,Qv 123 122,QTf 124 123 2 4,QTl 125 123 124,QTg 126 123 166 [(.t 125)],Qa 127 123 126,Qv 128 127,QTf 129 128 3 4,QTl 130 128 129,QTg 131 128 166 [(.t 130)],Qa 132 128 131,Qv 133 132,QTf 134 133 2 4,QTl 135 133 134,QTf 136 133 3 4,QTl 137 133 136,QTb 138 133 .neq 135 137,Qa 139 133 138,Qv 140 139,QTf 141 140 4 4,QTl 142 140 141,QT 143 140 (.conv .i64 (.t 142)),QTg 144 140 165 [(.t 143),(.c (.i .i64 1)),(.c (.i .i64 2))],Qa 145 140 144,Qv 146 145,QTf 147 146 5 4,QTl 148 146 147,QTg 149 146 165 [(.t 148),(.c (.i .i64 1)),(.c (.i .i64 1000000))],Qa 150 146 149,Qv 151 150,QTf 152 151 9 4,QTl 153 151 152,QTg 154 151 165 [(.t 153),(.c (.i .i64 0)),(.c (.i .i64 500))],Qa 155 151 154,Qv 156 155,QTf 157 156 9 4,QTl 158 156 157,QTf 159 156 0 4,QTl 160 156 159,QTb 161 156 .neq 158 160,Qa 162 156 161,Qv 2 162]
def r114_23:List O:=[Qc 164 .eql 15 (.i .u8 6),Qv 163 164]
def r114_24:List O:=[Qc 165 .eql 15 (.i .u8 7),Qv 163 165]
def r114_25:List O:=[Qf 166 11 1,Qf 167 0 166,Ql 168 167,Qf 169 11 3,Qf 170 0 169,Qs 1 170 168]
def r114_26:List O:=[Qd 171 24 1,Qd 172 24 3,Qo 173 (.eqv false (.agg [.i .u8,.i .i64,.i .i64,.i .i64,.i .i64,.i .i64,.i .i64,.i .i64,.i .i64,.i .i64,.i .i64,.i .i64,.i .i64,.i .i64,.i .i64,.i .u8,.i .i64,.i .i64,.i .u8,.i .i64,.i .i64,.i .i64,.i .i64,.i .i64]) (.t 171) (.t 172)),Qv 174 173,QTf 175 174 11 1,QTf 176 174 0 175,QTl 177 174 176,QTg 178 174 165 [(.t 177),(.c (.i .i64 1)),(.c (.i .i64 500))],Qa 179 174 178,Qv 2 179]
def r114_27:List O:=[Qk 2 (.b false)]
def a114:FI:=⟨180,[.tmp 2],.seq (.ops r114_0) (.seq (.seq (.ops r114_1) (.cond (.t 8) (.seq (.ops r114_2) (.ret)) (.skip))) (.seq (.ops r114_3) (.seq (.seq (.ops r114_4) (.block 0 (.seq (.ops r114_5) (.cond (.t 16) (.seq (.ops r114_6) (.seq (.ops r114_7) (.seq (.ops r114_8) (.ret)))) (.seq (.ops r114_9) (.cond (.t 37) (.seq (.ops r114_10) (.seq (.ops r114_11) (.seq (.ops r114_12) (.ret)))) (.seq (.ops r114_13) (.cond (.t 58) (.seq (.ops r114_14) (.seq (.ops r114_15) (.ret))) (.seq (.ops r114_16) (.cond (.t 79) (.seq (.ops r114_17) (.seq (.ops r114_18) (.ret))) (.seq (.ops r114_19) (.cond (.t 95) (.seq (.ops r114_20) (.seq (.ops r114_21) (.seq (.ops r114_22) (.ret)))) (.seq (.seq (.ops r114_23) (.cond (.t 163) (.skip) (.ops r114_24))) (.cond (.t 163) (.seq (.ops r114_25) (.seq (.ops r114_26) (.ret))) (.skip))))))))))))))) (.seq (.ops r114_27) (.ret))))),none,none⟩
def r115_0:List O:=[Qk 6 (.s [])]
def r115_1:List O:=[Qv 9 0,Qg 10 168 [(.t 9)],Qc 11 .add 10 (.s [32]),Qv 12 1,Qb 13 .add 11 12,Qv 7 13]
def r115_2:List O:=[Qk 8 (.i .i64 0)]
def r115_3:List O:=[Qv 14 8,Qv 15 2,Qn 16 15,Qb 17 .lss 14 16]
def r115_5:List O:=[Qv 20 7,Qc 21 .add 20 (.s [32]),Qv 22 2,Qv 23 8,Qx 24 1 22 23,Ql 25 24,Qg 26 168 [(.t 25)],Qb 27 .add 21 26,Qv 7 27]
def r115_4:List O:=[Qv 18 8,Qc 19 .add 18 (.i .i64 1),Qv 8 19]
def b115_0:C:=.seq (.seq (.ops r115_3) (.cond (.t 17) (.skip) (.exit 0))) (.seq (.block 1 (.ops r115_5)) (.ops r115_4))
def r115_6:List O:=[Qv 28 7,Qv 6 28]
def a115:FI:=⟨29,[.tmp 6],.seq (.ops r115_0) (.seq (.ops r115_1) (.seq (.seq (.ops r115_2) (.block 0 (.loop b115_0))) (.seq (.ops r115_6) (.ret)))),none,none⟩
def r116_0:List O:=[Qh 1 0,Qk 2 (.i .i64 0)]
def r116_1:List O:=[Qf 3 0 1,Ql 4 3,Qn 5 4,Qc 6 .eql 5 (.i .i64 0)]
def r116_2:List O:=[Qk 2 (.i .i64 0)]
def r116_3:List O:=[Qf 7 0 1,Ql 8 7,Qf 9 0 1,Ql 10 9,Qn 11 10,Qc 12 .sub 11 (.i .i64 1),Qx 13 24 8 12,Qf 14 1 13,Ql 15 14,Qv 2 15]
def a116:FI:=⟨16,[.tmp 2],.seq (.ops r116_0) (.seq (.seq (.ops r116_1) (.cond (.t 6) (.seq (.ops r116_2) (.ret)) (.skip))) (.seq (.ops r116_3) (.ret))),none,none⟩
end Go.Air.Try
