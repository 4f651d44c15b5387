/-
 A part of the proof of: The row of BulletinViews and its tied card,out of the lifted form.
-/
import Derived.RecoverIn
import Derived.Lib.AtoiAllCases
import Derived.Test.YtfdbelnklcjogaaGreatDoorVwC
set_option linter.unusedSectionVars false
set_option linter.unusedVariables false
set_option linter.unusedSimpArgs false
namespace Go.Air
section
variable {P:Program} {tbl:Tb} {R R1 R':Emb} {h h1 h':H} {w w1 w':World} {t t':List V} {a:Act} {v:V} {m:Nat}
def Snd (P:Program) (r:C→List V→H→RC):Prop:=
 ∀(c:Code) (ac:C) (t:List V) (h:H) (o:Out) (t':List V) (h':H) (R:Emb) (w:World) (a:Act) (D0:List Deferred) (m n:Nat) (ro:Option Nat),
  r ac t h=.ok o t' h'→okC P c ac=true→Sim P allB R h.get w→Fresh R h h'→WF h→zae R t=some a.tmps.toList→MarksOn D0 m R w a.defers→m≤w.heap.size→Around R h ro →
  c.wpIn (Wd ro) n P (fun e a' w'=>PostE P D0 m R h w o t' h' e a' w'∧(flat ac=true→a'.defers=a.defers)) a w
def znb (P:Program) (call:V→List V→H→RO):Prop:=
 ∀(ops:Array Oper) (l:List O) (crit:List (Nat × Nat)) (t:List V) (h:H) (t':List V) (h':H) (f:List Foot) (R:Emb) (w:World) (a:Act) (D0:List Deferred) (m n:Nat) (ro:Option Nat)
  (Q:Exit→Act→World→Prop) (order:Nat),zec P ops ops.toList l=true→znq ops l crit=true→zbu call l t h []=.ok t' h' f→zbX f crit=true →
  Sim P allB R h.get w→Fresh R h h'→WF h→zae R t=some a.tmps.toList→MarksOn D0 m R w a.defers→(∀a' w',PostA P D0 m R h w t' h' a' w'→Q .normal a' w') →
  wpOpsIn (Wd ro) n P ops Q (Region.schedule (P.follows .mixedOrders) ops order) a w
theorem ziQ {l:List V} {vs:List Value} (hl:zae R l=some vs) (n:Nat):zae R (pad l n)=some (vs.toArray++Array.replicate (n-vs.toArray.size) undef).toList:=by
 have e:=zan hl
 unfold pad
 rw[zaw hl (zeU (zbk R) _)]
 simp[e]
theorem znp {k:Nat} {fi:FI} (hok:okFI P k fi=true):∃fn c,P.funcs[k]? = some fn∧fn.body=some c∧fn.ntmps=fi.ntmps∧(fn.name == "runtime.NumGoroutine")=false∧zeH P fn.results.toList fi.res=true∧znr P c fi=true:=by
 unfold okFI at hok
 split at hok<;>try simp at hok
 rename_i fn hfn
 obtain⟨⟨⟨h1,h2⟩,h3⟩,h4⟩:=hok
 split at h4<;>try simp at h4
 rename_i c hc
 exact⟨fn,c,hfn,hc,h1,by simpa using h2,h3,h4⟩
def zev (P:Program) (pr:zrn) (g:Nat) (fi:FI):Prop:=∃m n,fi=zaY m n∧∀(args:List V) (h:H) (v:V) (ob:Option Blk) (R:Emb) (w:World) (vs:List Value),
 pr n (pad args m) h=some (v,ob)→Sim P allB R h.get w→Fresh R h (h.newO ob)→WF h→zae R args=some vs →
 (callFunc g vs.toArray).run P w=.ok (.enter g vs.toArray) w∧∀ro k,CallsIn (Wd ro) k P g vs.toArray w (zes P allB R h w (.ok v (h.newO ob)))
def zkC (P:Program) (pr:zrn) (g:Nat) (fi:FI):Prop:=∃m n,fi=zaY m n∧∀(args:List V) (h:H) (v:V) (ob:Option Blk) (R:Emb) (w:World) (vs:List Value),
 pr n (pad args m) h=some (v,ob)→Sim P allB R h.get w→Fresh R h (h.newO ob)→WF h→zae R args=some vs →
 ∃x w',(callFunc g vs.toArray).run P w=.ok (.value x) w'∧PostV P allB R h w v (h.newO ob) x w'
def FnOk (P:Program) (tbl:Tb) (k:Nat) (fi:FI):Prop:=okFI P k fi=true∨zev P tbl.pr k fi∨tbl.ext k=true∧zkC P tbl.pr k fi
theorem E_seq {k:Nat} {a b:C} {o:Out} (he:E tbl k (.seq a b) t h=.ok o t' h'):∃j,j<k∧((∃t1 h1,E tbl j a t h=.ok .norm t1 h1∧E tbl j b t1 h1=.ok o t' h')∨(E tbl j a t h=.ok o t' h'∧∀(x:Unit),o≠.norm)):=by
 cases k with
 |zero=>cases he
 |succ k=>
  simp only[E,zaP]at he
  refine⟨k,by omega,?_⟩
  split at he
  ·rename_i t1 h1 q
   exact .inl ⟨t1,h1,q,he⟩
  ·rename_i hne
   refine .inr ⟨he,fun _ e => ?_⟩
   subst e
   exact hne _ _ he
theorem E_ops {k:Nat} {l:List O} {o:Out} (he:E tbl k (.ops l) t h=.ok o t' h'):∃j,j<k∧(zaQ (zaS tbl (E tbl j)) l t h).Gives o t' h':=by
 cases k with
 |zero=>cases he
 |succ k=>
  simp only[E,zaP]at he
  refine⟨k,by omega,?_⟩
  cases hr:zaQ (zaS tbl (E tbl k)) l t h with
  |fail=>simp only[hr,reduceCtorEq]at he
  |ok t1 h1=>simp only[hr,RC.ok.injEq]at he;exact⟨he.1.symm,he.2.1.symm,he.2.2.symm⟩
  |pan v t1 h1=>simp only[hr,RC.ok.injEq]at he;exact⟨he.1.symm,he.2.1.symm,he.2.2.symm⟩
theorem E_prim {k n:Nat} {o:Out} (he:E tbl k (.prim n) t h=.ok o t' h'):∃v ob,tbl.pr n t h=some (v,ob)∧o=.ret∧t'=[v]∧h'=h.newO ob:=by
 cases k with
 |zero=>cases he
 |succ k=>
  simp only[E,zaP]at he
  split at he<;>simp only[RC.ok.injEq,reduceCtorEq]at he
  rename_i v ob hv
  exact⟨v,ob,hv,he.1.symm,he.2.1.symm,he.2.2.symm⟩
theorem zcS {fi:FI} {r:RO} (he:zdO fi t h=r) (hg:r.Gives h'):∃ls,zao t h fi.res=some ls∧r=.ok (zgM ls) h∧h'=h:=by
 unfold zdO at he
 split at he
 ·rename_i ls hl
  subst he
  exact⟨ls,hl,rfl,hg⟩
 ·subst he
  exact hg.elim
theorem znm {k g m n:Nat} {first caps args:List V} {r:RO} (hg:tbl g=some (zaY m n)) (he:zaS tbl (E tbl k) (.fn g first caps) args h=r) (hgv:r.Gives h') :
 ∃v ob,tbl.pr n (pad (first++args++caps) m) h=some (v,ob)∧r=.ok v (h.newO ob)∧h'=h.newO ob:=by
 simp only[zaS,hg,zaY]at he
 cases hrun:E tbl k (.prim n) (pad (first++args++caps) m) h with
 |fail=>simp only[hrun]at he;subst he;exact hgv.elim
 |ok o t1 h1=>
  obtain⟨v,ob,q1,rfl,rfl,rfl⟩:=E_prim hrun
  simp only[hrun]at he
  obtain⟨ls,q2,rfl,rfl⟩:=zcS he hgv
  simp only[zao,zdY,nth,Option.map_some,Option.some.injEq]at q2
  subst q2
  exact⟨v,ob,q1,rfl,rfl⟩
theorem prim_snd {k g:Nat} {fi:FI} {first caps args:List V} {f1 c1 vs:List Value} {r:RO} (hg:tbl g=some fi) (hp:zev P tbl.pr g fi)
 (he:zaS tbl (E tbl k) (.fn g first caps) args h=r) (hgv:r.Gives h') (hs:Sim P allB R h.get w) (hfr:Fresh R h h') (hw:WF h) (hf:zae R first=some f1) (hcp:zae R caps=some c1) (hv:zae R args=some vs) :
 (callFunc g (f1.toArray++vs.toArray++c1.toArray)).run P w=.ok (.enter g (f1.toArray++vs.toArray++c1.toArray)) w ∧
 ∀ro n,CallsIn (Wd ro) n P g (f1.toArray++vs.toArray++c1.toArray) w (zes P allB R h w r):=by
 obtain⟨m,n,rfl,hp⟩:=hp
 obtain⟨v,ob,q1,rfl,rfl⟩:=znm hg he hgv
 have hall:zae R (first++args++caps)=some (f1++vs++c1):=zaw (zaw hf hv) hcp
 have e:(f1++vs++c1).toArray=f1.toArray++vs.toArray++c1.toArray:=by simp
 obtain⟨p1,p2⟩:=hp _ h v ob R w _ q1 hs hfr hw hall
 rw[e]at p1 p2
 exact⟨p1,p2⟩
theorem ext_snd {k g:Nat} {fi:FI} {first caps args:List V} {f1 c1 vs:List Value} {r:RO} (hg:tbl g=some fi) (hp:zkC P tbl.pr g fi)
 (he:zaS tbl (E tbl k) (.fn g first caps) args h=r) (hgv:r.Gives h') (hs:Sim P allB R h.get w) (hfr:Fresh R h h') (hw:WF h) (hf:zae R first=some f1) (hcp:zae R caps=some c1) (hv:zae R args=some vs) :
 ∃x w',(callFunc g (f1.toArray++vs.toArray++c1.toArray)).run P w=.ok (.value x) w'∧∃v,r=.ok v h'∧PostV P allB R h w v h' x w':=by
 obtain⟨m,n,rfl,hp⟩:=hp
 obtain⟨v,ob,q1,rfl,rfl⟩:=znm hg he hgv
 have hall:zae R (first++args++caps)=some (f1++vs++c1):=zaw (zaw hf hv) hcp
 have e:(f1++vs++c1).toArray=f1.toArray++vs.toArray++c1.toArray:=by simp
 obtain⟨x,w',p1,p2⟩:=hp _ h v ob R w _ q1 hs hfr hw hall
 rw[e]at p1
 exact⟨x,w',p1,v,rfl,p2⟩
theorem zmA {call:V→List V→H→RO} {ops:Array Oper} {n:Nat} {Q:Exit→Act→List Frame→World→Prop} {cs:List Frame} {o:Out} {D0:List Deferred} (hk:zhd call) :
 ∀(L:List Oper) (l:List O) (i:Nat) (t:List V) (h:H) (R:Emb) (w:World) (a:Act),(∀j,j<L.length→ops[i+j]? = L[j]?)→zec P ops L l=true→l.all (fun a => !zny a.op)=true →
  (zaQ call l t h).Gives o t' h'→Sim P allB R h.get w→Fresh R h h'→WF h→zae R t=some a.tmps.toList→MarksOn D0 m R w a.defers →
  (∀a' w',PostA P D0 m R h w t' h' a' w'→a'.defers=a.defers→o=.norm→Q .normal a' cs w') →
  (∀v x a' w',o=.pan v→PostE P D0 m R h w o t' h' (.panic [{ v:=x,recovered:=false }]) a' w'→a'.defers=a.defers→Q (.panic [{ v:=x,recovered:=false }]) a' cs w') →
  wpOpsSIn (Wd none) n P ops Q (List.range' i L.length) a cs w
 |[],[],i,t,h,R,w,a,_,_,_,he,hs,hfr,hw,ht,hm,hQ,_=>by
  obtain⟨rfl,rfl,rfl⟩:=he
  exact hQ a w (.here rfl hs ht hm) rfl rfl
 |[],_::_,_,_,_,_,_,_,_,ho,_,_,_,_,_,_,_,_,_=>by simp[zec]at ho
 |_::_,[],_,_,_,_,_,_,_,ho,_,_,_,_,_,_,_,_,_=>by simp[zec]at ho
 |o1::L,ao::l,i,t,h,R,w,a,hL,ho,hnc,he,hs,hfr,hw,ht,hm,hQ,hP=>by
  simp only[zec,okO,Bool.and_eq_true]at ho
  obtain⟨⟨⟨hdst,hg⟩,hop⟩,ho⟩:=ho
  simp only[List.all_cons,Bool.and_eq_true]at hnc
  obtain⟨hnc1,hnc⟩:=hnc
  have hi:ops[i]? = some o1:=by simpa using hL 0 (by simp)
  have hL':∀j,j<L.length→ops[i+1+j]? = L[j]? := fun j hj=>by
   have:=hL (j+1) (by simp;omega)
   rw[show i+1+j=i+(j+1) by omega]
   simpa using this
  simp only[List.length_cons,List.range'_succ,wpOpsSIn,hi]
  refine⟨fun _ _=>trivial,?_⟩
  rw[zfa hg ht]
  simp only[zaQ]at he
  have gives:∀{t1:List V} {h1:H},(zaQ call l t1 h1).Gives o t' h'→Keep h1 h':=by
   intro t1 h1 hg
   cases hr:zaQ call l t1 h1 with
   |fail=>rw[hr]at hg;exact hg.elim
   |ok t2 h2=>rw[hr]at hg;obtain⟨_,_,rfl⟩:=hg;exact zbt hk l _ _ _ _ (.inl hr)
   |pan v t2 h2=>rw[hr]at hg;obtain⟨_,_,rfl⟩:=hg;exact zbt hk l _ _ _ _ (.inr ⟨v,hr⟩)
  cases hwt:zcp ao.g t with
  |true=>
   simp only[hwt]at he
   simp only[if_true]
   cases hev:evA call ao.op t h with
   |fail=>simp only[hev]at he;exact he.elim
   |ok v h1=>
    simp only[hev]at he
    have k1:=(zfk hk hev).1
    have k2:=gives he
    obtain⟨dst,op,ty,pos,af,gd⟩:=o1
    obtain⟨nx,x,w1,hr,hnx,R1,l1,q1,q2,q3⟩:=zpp (dst:=dst) (ty:=ty) (pos:=pos) (af:=af) (gd:=gd) hop (fun f xs e=>by rw[e]at hnc1;simp[zny]at hnc1) (zcN ht) hs
     (by cases reads ao.op t<;>simp[zco,allB]) (hfr.left k2.nx) hev
    have next:wpOpsSIn (Wd none) n P ops Q (List.range' (i+1) L.length) (a.put dst x) cs w1:=by
     refine zmA hk L l (i+1) _ h1 R1 w1 _ hL' ho hnc he q2 (hfr.right q1) (k1.wf hw) (zdr hdst (zav q1.le _ _ ht) q3) (by rw[zaL];exact hm.fwd q1) ?_ ?_
     ·exact fun a' w' hp hd=>hQ a' w' (hp.step q1) (by rw[hd,zaL])
     ·exact fun v x a' w' ho hp hd=>hP v x a' w' ho (hp.step q1) (by rw[hd,zaL])
    rw[hr]
    rcases hnx with rfl|⟨rfl,rfl⟩
    ·exact next
    ·exact next
   |pan v h1=>
    simp only[hev]at he
    obtain⟨rfl,rfl,rfl⟩:=he
    rcases zkr hev with⟨y,k,u,e,q1,rfl,rfl⟩|⟨f,xs,e,_⟩
    ·obtain⟨dst,op,ty,pos,af,gd⟩:=o1
     simp only at hop
     rw[e]at hop
     cases op<;>try exact (Bool.false_ne_true hop).elim
     rename_i x
     have hx:=zcN ht x y hop
     rw[q1]at hx
     obtain⟨z,_,hxe⟩:=zic hx
     have hrun:(execOp a.eval ⟨dst,.panic x,ty,pos,af,gd⟩).run P w=.halt (.panic (a.eval x)) w:=by
      simp only[execOp,Sem.run_bind,hxe,Instr.panic,run_goPanic,Result.andThen]
     rw[hrun]
     exact hP _ _ a w rfl ⟨R,[],⟨_,hx,rfl⟩,.refl R _ w,hs,ht,hm⟩ rfl
    ·rw[e]at hnc1
     simp[zny]at hnc1
  |false=>
   simp only[hwt]at he
   simp only[Bool.false_eq_true,if_false]
   refine zmA hk L l (i+1) _ h R w _ hL' ho hnc he hs hfr hw (zdr hdst ht (zbk R)) (by rw[zaL];exact hm) ?_ ?_
   ·exact fun a' w' hp hd=>hQ a' w' hp (by rw[hd,zaL])
   ·exact fun v x a' w' ho hp hd=>hP v x a' w' ho hp (by rw[hd,zaL])
theorem zoj {call:V→List V→H→RO} {l:List O} {o:Out} (hk:zhd call) (hg:(zaQ call l t h).Gives o t' h'):Keep h h':=by
 cases hr:zaQ call l t h with
 |fail=>rw[hr]at hg;exact hg.elim
 |ok t2 h2=>rw[hr]at hg;obtain⟨_,_,rfl⟩:=hg;exact zbt hk l _ _ _ _ (.inl hr)
 |pan v t2 h2=>rw[hr]at hg;obtain⟨_,_,rfl⟩:=hg;exact zbt hk l _ _ _ _ (.inr ⟨v,hr⟩)
theorem zoq {d:Option Tmp} {n:Nat} (h:zlc d (some n)=true):d=some n:=by
 cases d with
 |none=>exact (Bool.false_ne_true h).elim
 |some e=>
  have h:Nat.beq e n=true:=h
  rw[Nat.beq_eq]at h
  rw[h]
theorem zmQ {k:Nat} (hsnd:∀j,j≤k→Snd P (E tbl j)) (htbl:∀k fi,tbl k=some fi→FnOk P tbl k fi) {f v:V} {fv x:Value} {u u2:FrameMode} (he:zdR tbl (E tbl k) f v h=some h')
 (hs:Sim P allB R h.get w) (hfr:Fresh R h h') (hw:WF h) (hf:conc R f=some fv) (hv:conc R v=some x)
 (hu:∀(c₀:Frame) (cs:List Frame),c₀.mode=u→(recoverD (c₀::cs)=some (x,{ c₀ with mode:=u2 }::cs))∨(recoverD (c₀::cs)=none∧x=.nilIface∧u2=u)) :
 ∃g caps,fv=.func (.func g) #[] caps∧(callFunc g caps).run P w=.ok (.enter g caps) w∧∀n,CallsDIn (Wd none) n P g caps u w fun e u' w'=>(∃y,e=.returned y)∧u'=u2∧∃R' l,Fwd R R' h h' w w' l∧Sim P allB R' h'.get w':=by
 unfold zdR at he
 split at he<;>try simp only[reduceCtorEq]at he
 rename_i g caps
 split at he<;>try simp only[reduceCtorEq]at he
 rename_i fi hfi
 split at he<;>try simp only[reduceCtorEq]at he
 rename_i nr hrcv
 split at he<;>try simp only[reduceCtorEq]at he
 rename_i o t1 h1 hrun
 obtain⟨ho,rfl⟩:(o=.norm∨o=.ret)∧h'=h1:=by
  split at he<;>simp only[Option.some.injEq,reduceCtorEq]at he
  ·exact⟨.inl rfl,he.symm⟩
  ·exact⟨.inr rfl,he.symm⟩
 obtain⟨f1,c1,hf1,hc1,rfl⟩:=zgk hf
 simp only[zae,Option.some.injEq]at hf1
 subst hf1
 have hfo:okFI P g fi=true:=by
  rcases htbl g fi hfi with q|⟨m,n,rfl,_⟩|⟨_,m,n,rfl,_⟩
  ·exact q
  ·cases hrcv
  ·cases hrcv
 obtain⟨fn,c,q1,q2,q3,q4,q5,q6⟩:=znp hfo
 unfold znr at q6
 rw[hrcv]at q6
 cases hd:fi.dfr with
 |some _=>rw[hd]at q6;simp at q6
 |none=>
  rw[hd]at q6
  simp only[Bool.and_eq_true,List.isEmpty_iff]at q6
  obtain⟨hres,q6⟩:=q6
  rw[hres]at q5
  unfold okRcv at q6
  split at q6<;>try simp only[reduceCtorEq]at q6
  rename_i id ops b l rest hbody
  split at q6<;>try simp only[reduceCtorEq]at q6
  rename_i op1 L hops
  simp only[Bool.and_eq_true]at q6
  obtain⟨⟨⟨⟨⟨⟨r1,r2⟩,r3⟩,r4⟩,r5⟩,r6⟩,r7⟩:=q6
  refine⟨g,c1.toArray,rfl,by simp[callFunc,q1,by simpa using q4,q2],fun n => ?_⟩
  rw[hbody]at hrun
  refine callsDIn_of_wpSIn q1 q2 trivial fun c₀ cs hc₀ => ?_
  refine wpSIn_seq (wpSIn_region ?_)
  have hsz:ops.size=L.length+1:=by
   have:ops.toList.length=ops.size:=Array.length_toList
   rw[hops]at this
   simpa using this.symm
  have h0:ops[0]? = some op1:=by rw[← Array.getElem?_toList,hops];rfl
  rw[hsz,List.range_eq_range',List.range'_succ]
  simp only[wpOpsSIn,h0]
  refine⟨fun _ _=>trivial,?_⟩
  have hgd:op1.guard=none:=by simpa using r3
  have hdst:op1.dst=some nr:=zoq r2
  have hwant:∀y,Region.wanted op1 y=true:=by intro y;simp[Region.wanted,hgd]
  rw[hwant]
  simp only[if_true]
  have hrec:∀(ρ:Operand→Value) (w:World),(execOp ρ op1).run P w=.ok .recover w:=by
   intro ρ w
   split at r1<;>try simp only[reduceCtorEq]at r1
   rename_i kc hk1
   split at r1<;>try simp only[reduceCtorEq]at r1
   rename_i hk2
   simp only[execOp,hk1,resolve,hk2,Sem.run_bind,Sem.run_pure,Result.andThen_ok,invoke,builtin]
  rw[hrec]
  simp only
  have hpad:=ziQ hc1 fi.ntmps
  have ht0:zae R (upd (pad caps fi.ntmps) nr v)=some ((({ tmps:=c1.toArray++Array.replicate (fn.ntmps-c1.toArray.size) undef,defers:=[] }:Act).put op1.dst x).tmps.toList):=by
   rw[hdst]
   simp only[Act.put,Array.toList_setIfInBounds]
   refine zhZ _ ?_ hv
   rw[hpad,q3]
  have hmain:∀(cs':List Frame),(cs'={ c₀ with mode:=u2 }::cs) →
   wpOpsSIn (Wd none) n P ops (Exit.thenS (b.wpSIn (Wd none) n P (bodyPostS P fn c₀ cs fun e u' w'=>(∃y,e=.returned y)∧u'=u2∧∃R' l,Fwd R R' h h' w w' l∧Sim P allB R' h'.get w'))
    (bodyPostS P fn c₀ cs fun e u' w'=>(∃y,e=.returned y)∧u'=u2∧∃R' l,Fwd R R' h h' w w' l∧Sim P allB R' h'.get w')) (List.range' (0+1) L.length)
    (({ tmps:=c1.toArray++Array.replicate (fn.ntmps-c1.toArray.size) undef,defers:=[] }:Act).put op1.dst x) cs' w:=by
   rintro cs' rfl
   obtain⟨j,hj,hseq⟩:=E_seq hrun
   have hkeep:=zdS (tbl:=tbl) j
   have hL:∀i,i<L.length→ops[0+1+i]? = L[i]? := by
    intro i hi
    rw[← Array.getElem?_toList,hops,show 0+1+i=i+1 by omega]
    rfl
   have hnil:MarksOn [] w.heap.size R w (({ tmps:=c1.toArray++Array.replicate (fn.ntmps-c1.toArray.size) undef,defers:=[] }:Act).put op1.dst x).defers:=by rw[zaL];exact .nil
   rcases hseq with⟨t2,h2,e1,e2⟩|⟨e1,hne⟩
   ·obtain⟨i,hi,hops1⟩:=E_ops e1
    have k2:=hkeep _ _ _ _ _ _ e2
    have k1:=hkeep _ _ _ _ _ _ e1
    refine zmA (zcU (zdS i)) L l (0+1) _ h R w _ hL r4 r5 hops1 hs (hfr.left k2.nx) hw ht0 hnil ?_ ?_
    ·rintro a' w' ⟨R1,l1,_,f1,s1,ht1,hm1⟩ hd' _
     simp only[Exit.thenS]
     refine wpSIn_of_wpIn rfl ?_
     have hda:a'.defers=[]:=by rw[hd',zaL]
     refine wpIn_mono (hsnd j (by omega) b rest t2 h2 o t1 h' R1 w' a' [] w.heap.size n none e2 r6 s1 (hfr.right f1) (k1.wf hw) ht1 hm1 f1.size trivial) ?_
     rintro e a2 w2 ⟨⟨R2,l2,hx2,f2,s2,ht2,hm2⟩,hflat⟩
     have hd2:a2.defers=[]:=by rw[hflat r7,hda]
     obtain⟨y,y1,_⟩:=zfW (fn:=fn) (ms:=[]) (vs:=[]) s2 ht2 q5 rfl
     rcases ho with rfl|rfl
     ·obtain rfl:=hx2
      exact⟨hd2,u2,rfl,y,y1,⟨y,rfl⟩,rfl,R2,_,f1.trans f2,s2⟩
     ·obtain rfl:=hx2
      exact⟨hd2,u2,rfl,y,y1,⟨y,rfl⟩,rfl,R2,_,f1.trans f2,s2⟩
    ·intro v x a' w' hv' _ _
     cases hv'
   ·rcases ho with rfl|rfl
    ·exact absurd rfl (hne ())
    ·obtain⟨i,hi,hops1⟩:=E_ops e1
     cases hr:zaQ (zaS tbl (E tbl i)) l (upd (pad caps fi.ntmps) nr v) h with
     |fail=>rw[hr]at hops1;exact hops1.elim
     |ok t2 h2=>rw[hr]at hops1;cases hops1.1
     |pan v t2 h2=>rw[hr]at hops1;cases hops1.1
  rcases hu c₀ cs hc₀ with hrc|⟨hrc,hx0,hu0⟩
  ·rw[hrc]
   exact hmain _ rfl
  ·rw[hrc]
   subst hx0 hu0
   refine hmain _ ?_
   rw[← hc₀]
theorem zpJ {c:Code} {l:List O} {rest:C} {x:X} (h:zhN P c (.ops l) rest x=true):∃id ops b,c=.seq (.region id ops false) b∧okDf P ops ops.toList l x=true∧okC P b rest=true:=by
 cases c<;>try simp[zhN]at h
 rename_i a b
 cases a<;>try simp[zhN]at h
 rename_i id ops d
 cases d<;>simp[zhN]at h
 exact⟨id,ops,b,rfl,h⟩
theorem zpI {c:Code} {a' b' rest:C} {x:X} (h:zhN P c (.seq a' b') rest x=true):∃a b,c=.seq a b∧okC P a a'=true∧flat a'=true∧zhN P b b' rest x=true:=by
 cases c<;>try simp[zhN]at h
 exact⟨_,_,rfl,h.1.1,h.1.2,h.2⟩
def AtRest (P:Program) (R:Emb) (h:H) (w:World) (x:X) (rest:C) (t0:List V) (h0:H) (n:Nat) (Q:Exit→Act→World→Prop):Prop:=
 ∀(b:Code) (R':Emb) (l:List Nat) (a':Act) (w':World) (fv:Value) (g:Nat) (caps:Array Value),okC P b rest=true→Fwd R R' h h0 w w' l→Sim P allB R' h0.get w'→zae R' t0=some a'.tmps.toList →
  conc R' (x.ev t0)=some fv→fv=.func (.func g) #[] caps→a'.defers=[{ target:=.fn (.func g) caps,args := #[] }]→b.wpIn (Wd none) n P Q a' w'
theorem AtRest.step {x:X} {rest:C} {t0:List V} {h0:H} {n:Nat} {Q:Exit→Act→World→Prop} {l:List Nat} (q:AtRest P R h w x rest t0 h0 n Q) (f:Fwd R R1 h h1 w w1 l):AtRest P R1 h1 w1 x rest t0 h0 n Q:=
 fun b R' l' a' w' fv g caps h1 h2 h3 h4 h5 h6 h7=>q b R' _ a' w' fv g caps h1 (f.trans h2) h3 h4 h5 h6 h7
theorem df_one {call:V→List V→H→RO} {x:X} {rest:C} {t0:List V} {h0:H} {n:Nat} {Q:Exit→Act→World→Prop} {ops:Array Oper} {b:Code} (hc:zcy P call) (hk:zhd call) (hb:okC P b rest=true)
 (hx:∃g caps,x.ev t0=.fn g [] caps) :
 ∀(o1:Oper) (ao:O) (i0:Nat) (t:List V) (h:H) (R:Emb) (w:World) (a:Act),(∀j,j<[o1].length→ops[i0+j]? = [o1][j]?)→okDf P ops [o1] [ao] x=true →
  (zaQ call [ao] t h).Gives .norm t0 h0→Sim P allB R h.get w→Fresh R h h0→WF h→zae R t=some a.tmps.toList→a.defers=[]→AtRest P R h w x rest t0 h0 n Q →
  wpOpsIn (Wd none) n P ops (Exit.then (b.wpIn (Wd none) n P Q) Q) (List.range' i0 [o1].length) a w:=by
 intro o1 ao i0 t h R w a hL hdf hgv hs hfr hw ht hd hQ
 have hi0:ops[i0]? = some o1:=by simpa using hL 0 (by simp)
 simp only[okDf,Bool.and_eq_true,Option.isNone_iff_eq_none]at hdf
 obtain⟨⟨⟨⟨⟨p1,p2⟩,p3⟩,p4⟩,p5⟩,p6⟩:=hdf
 obtain⟨dst,op,ty,pos,af,gd⟩:=o1
 simp only at p1 p2 p3
 subst p2 p3
 split at p1<;>try simp only[reduceCtorEq]at p1
 rename_i kc
 split at p1<;>try simp only[reduceCtorEq]at p1
 rename_i y hy
 rw[Bool.and_eq_true,Nat.beq_eq]at p1
 obtain⟨p1,p7⟩:=p1
 split at p6<;>try simp only[reduceCtorEq]at p6
 rename_i z hz
 obtain⟨adst,ag,aop⟩:=ao
 simp only at p4 p5 hz
 subst p4 p5 hz
 simp only[zaQ,zcp,evA,putD,RL.Gives]at hgv
 obtain⟨_,rfl,rfl⟩:=hgv
 have hfv:=zcN ht y x p1
 obtain⟨g,caps,hxe⟩:=hx
 have hfv':=hfv
 rw[hxe]at hfv'
 obtain⟨f1,c1,hf1,_,hyv⟩:=zgk hfv'
 simp only[zae,Option.some.injEq]at hf1
 subst hf1
 have hargs:kc.args = #[]:=Array.eq_empty_of_size_eq_zero p7
 have hw1:Region.wanted (⟨none,.defer kc,ty,pos,af,none⟩:Oper) (yielded ops a.tmps)=true:=rfl
 simp only[List.length_cons,List.length_nil,Nat.zero_add,List.range'_one,wpOpsIn,hi0,hw1,if_true]
 refine⟨fun _ _=>trivial,?_⟩
 rw[show (Wd none).round=none from rfl,Oper.semAt_none]
 have hrun:(execOp a.eval ⟨none,.defer kc,ty,pos,af,none⟩).run P w=.ok (.defer { target:=.fn (.func g) c1.toArray,args := #[] }) w:=by
  simp only[execOp,resolve,hy,hargs,Array.map_empty,Sem.run_bind,hyv,Deferred.ofValue,Sem.run_pure,Result.andThen_ok,Array.append_empty]
 rw[hrun]
 simp only[Oper.uponIn,wpOpsIn,Exit.then]
 exact hQ b R [] _ w _ g c1.toArray hb (.refl R _ w) hs (by simpa [Act.put] using ht) hfv hyv (by simp[Act.put,hd])
theorem df_wp {call:V→List V→H→RO} {x:X} {rest:C} {t0:List V} {h0:H} {n:Nat} {Q:Exit→Act→World→Prop} {ops:Array Oper} {b:Code} (hc:zcy P call) (hk:zhd call) (hb:okC P b rest=true)
 (hx:∃g caps,x.ev t0=.fn g [] caps) :
 ∀(L:List Oper) (l:List O) (i0:Nat) (t:List V) (h:H) (R:Emb) (w:World) (a:Act),(∀j,j<L.length→ops[i0+j]? = L[j]?)→okDf P ops L l x=true →
  (zaQ call l t h).Gives .norm t0 h0→Sim P allB R h.get w→Fresh R h h0→WF h→zae R t=some a.tmps.toList→a.defers=[]→AtRest P R h w x rest t0 h0 n Q →
  wpOpsIn (Wd none) n P ops (Exit.then (b.wpIn (Wd none) n P Q) Q) (List.range' i0 L.length) a w
 |[],l,i0,t,h,R,w,a,_,hdf,_,_,_,_,_,_,_=>by cases l<;>simp[okDf]at hdf
 |o1::L,[],i0,t,h,R,w,a,_,hdf,_,_,_,_,_,_,_=>by cases L<;>simp[okDf]at hdf
 |o1::L,ao::l,i0,t,h,R,w,a,hL,hdf,hgv,hs,hfr,hw,ht,hd,hQ=>by
  by_cases hlast:L=[]∧l=[]
  ·obtain⟨rfl,rfl⟩:=hlast
   exact df_one hc hk hb hx o1 ao i0 t h R w a hL hdf hgv hs hfr hw ht hd hQ
  ·have hi0:ops[i0]? = some o1:=by simpa using hL 0 (by simp)
   have hL':∀j,j<L.length→ops[i0+1+j]? = L[j]? := fun j hj=>by
    have:=hL (j+1) (by simp;omega)
    rw[show i0+1+j=i0+(j+1) by omega]
    simpa using this
   have hdf':okO P ops o1 ao=true∧okDf P ops L l x=true:=by
    have:okDf P ops (o1::L) (ao::l) x=(okO P ops o1 ao&&okDf P ops L l x):=by
     cases L<;>cases l<;>first|rfl|exact absurd ⟨rfl,rfl⟩ hlast
    rw[this,Bool.and_eq_true]at hdf
    exact hdf
   obtain⟨ho1,hdf'⟩:=hdf'
   simp only[okO,Bool.and_eq_true]at ho1
   obtain⟨⟨hdst,hg⟩,hop⟩:=ho1
   simp only[List.length_cons,List.range'_succ,wpOpsIn,hi0]
   rw[zfa hg ht]
   simp only[zaQ]at hgv
   cases hwt:zcp ao.g t with
   |true=>
    simp only[hwt]at hgv
    simp only[if_true]
    cases hev:evA call ao.op t h with
    |fail=>simp only[hev]at hgv;exact hgv.elim
    |pan v h1=>simp only[hev]at hgv;cases hgv.1
    |ok v h1=>
     simp only[hev]at hgv
     have k1:=(zfk hk hev).1
     have k2:=zoj hk hgv
     refine op_wp hc hop (zcN ht) hs (F:=allB) ?_ (hfr.left k2.nx) hw hev RO.gives_ok ?_ ?_
     ·cases reads ao.op t<;>simp[zco,allB]
     ·rintro v' y w1 hv ⟨R1,l1,q1,q2,q3⟩
      simp only[RO.ok.injEq]at hv
      obtain⟨rfl,_⟩:=hv
      exact df_wp hc hk hb hx L l (i0+1) _ h1 R1 w1 _ hL' hdf' hgv q2 (hfr.right q1) (k1.wf hw) (zdr hdst (zav q1.le _ _ ht) q3) (by rw[zaL];exact hd) (hQ.step q1)
     ·rintro v' y w1 hv _
      cases hv
   |false=>
    simp only[hwt]at hgv
    simp only[Bool.false_eq_true,if_false]
    refine⟨fun _ _=>trivial,?_⟩
    exact df_wp hc hk hb hx L l (i0+1) _ h R w _ hL' hdf' hgv hs hfr hw (zdr hdst ht (zbk R)) (by rw[zaL];exact hd) hQ
theorem pre_wp {k:Nat} {x:X} {rest:C} {t0:List V} {h0:H} {n:Nat} {Q:Exit→Act→World→Prop} (hsnd:∀j,j≤k→Snd P (E tbl j)) (hcs:∀j,j<k→zcy P (zaS tbl (E tbl j)))
 (hx:∃g caps,x.ev t0=.fn g [] caps) :
 ∀(j:Nat) (pre:C) (c:Code) (t:List V) (h:H) (R:Emb) (w:World) (a:Act),j≤k→zhN P c pre rest x=true→E tbl j pre t h=.ok .norm t0 h0→Sim P allB R h.get w→Fresh R h h0→WF h →
  zae R t=some a.tmps.toList→a.defers=[]→AtRest P R h w x rest t0 h0 n Q→c.wpIn (Wd none) n P Q a w:=by
 intro j
 induction j using Nat.strongRecOn with
 |ind j ih=>
  intro pre c t h R w a hj hok he hs hfr hw ht hd hQ
  cases pre with
  |ops l=>
   obtain⟨id,ops,b,rfl,hdf,hb⟩:=zpJ hok
   obtain⟨i,hi,hgv⟩:=E_ops he
   refine wpIn_seq (wpIn_region ?_)
   rw[List.range_eq_range']
   exact df_wp (hcs i (by omega)) (zcU (zdS i)) hb hx ops.toList l 0 t h R w a (fun j _=>by simp) hdf hgv hs hfr hw ht hd hQ
  |seq a' b'=>
   obtain⟨ca,cb,rfl,h1,h2,h3⟩:=zpI hok
   obtain⟨i,hi,⟨t1,h1',e1,e2⟩|⟨e1,hne⟩⟩:=E_seq he
   ·have k1:=zdS i _ _ _ _ _ _ e1
    have k2:=zdS i _ _ _ _ _ _ e2
    refine wpIn_seq (wpIn_mono (hsnd i (by omega) ca a' t h .norm t1 h1' R w a [] w.heap.size n none e1 h1 hs (hfr.left k2.nx) hw ht (by rw[hd];exact .nil) (Nat.le_refl _) trivial) ?_)
    rintro e a1 w1 ⟨⟨R1,l1,hx1,f1,s1,ht1,hm1⟩,hfl⟩
    obtain rfl:=hx1
    simp only[Exit.then]
    exact ih i hi b' cb t1 h1' R1 w1 a1 (by omega) h3 e2 s1 (hfr.right f1) (k1.wf hw) ht1 (by rw[hfl h2,hd]) (hQ.step f1)
   ·exact absurd rfl (hne ())
  |_=>cases c<;>simp[zhN]at hok
theorem zie:∀{ps:List Nat} {t:List V} {args:List V} {tmps:Array Value} {vs:List Value},zae R t=some tmps.toList→zae R args=some vs →
 zae R (zdH t ps args)=some ((ps.zip vs).foldl (fun (tmps:Array Value) (x:Nat × Value)=>tmps.setIfInBounds x.1 x.2) tmps).toList
 |[],t,args,tmps,vs,ht,_=>by simpa [zdH] using ht
 |p::ps,t,[],tmps,vs,ht,hv=>by
  simp[zae]at hv
  subst hv
  simpa [zdH] using ht
 |p::ps,t,x::args,tmps,vs,ht,hv=>by
  obtain⟨y,ys,h1,h2,rfl⟩:=zah.1 hv
  simp only[zdH,List.zip_cons_cons,List.foldl_cons]
  refine zie ?_ h2
  rw[Array.toList_setIfInBounds]
  exact zhZ p ht h1
theorem zis {b c sz:Nat} {lp:Loop} (hs:Sim P allB R h.get w) (hb:R b=some (c,sz)) (hg:h.get b=some (.loop lp)) :
 ∃L:Go.Loop,w.heap[c]? = some (.loop L)∧L.state=zif lp.state∧L.pending=zkX lp.pending∧zae R lp.tmps=some L.tmps.toList ∧
  L.params.toList=lp.params∧okC P L.assign lp.asg=true∧okC P L.body lp.body=true:=hs.blk b c sz _ trivial hb hg
theorem put_loop {b c sz:Nat} {lp:Loop} {L:Go.Loop} (lp':Loop) (L':Go.Loop) (hs:Sim P allB R h.get w) (hb:R b=some (c,sz)) (hg:h.get b=some (.loop lp)) (hL:w.heap[c]? = some (.loop L))
 (h1:L'.state=zif lp'.state) (h2:L'.pending=zkX lp'.pending) (h3:zae R lp'.tmps=some L'.tmps.toList) (h4:L'.params.toList=lp'.params) (h5:okC P L'.assign lp'.asg=true) (h6:okC P L'.body lp'.body=true) :
 Fwd R R h (h.put b (.loop lp')) w (w.putObj c (.loop L')) [b]∧Sim P allB R (h.put b (.loop lp')).get (w.putObj c (.loop L')):=
 zhT hs trivial hb hg ⟨rfl,rfl,rfl⟩ (by simp) (fun d hd=>World.putObj_heap_other hd) ⟨L',World.putObj_heap_same (hs.lt b c sz hb),h1,h2,h3,h4,h5,h6⟩
theorem yld_snd {r:C→List V→H→RC} (hsnd:Snd P r) (hkeep:∀c t h o t' h',r c t h=.ok o t' h'→Keep h h') {l c sz:Nat} {args:List V} {vs:List Value} {res:RO}
 (he:zaS tbl r (.yld l) args h=res) (hgv:res.Gives h') (hs:Sim P allB R h.get w) (hfr:Fresh R h h') (hw:WF h) (hb:R l=some (c,sz)) (hv:zae R args=some vs) :
 ∃nx,(Instr.yield c vs.toArray).run P w=.ok nx w∧Upon P nx w (zes P allB R h w res):=by
 obtain⟨v,rfl⟩:∃v,res=.ok v h':=by
  rcases hgv.or with q|⟨v,rfl⟩
  ·exact q
  ·exfalso
   simp only[zaS]at he
   repeat' split at he
   all_goals simp at he
 simp only[zaS]at he
 split at he<;>try simp at he
 rename_i lp hg
 obtain⟨L,g1,g2,g3,g4,g5,g6,g7⟩:=zis hs hb hg
 split at he<;>try simp at he
 rename_i hlen
 split at he<;>try simp at he
 rename_i t1 h1 hasg
 split at he<;>try simp at he
 rename_i lp1 hg1
 split at he<;>try simp at he
 rename_i hst1
 split at he<;>try simp at he
 rename_i o t2 h2 hbody
 split at he<;>try simp at he
 rename_i lp2 hg2
 split at he<;>try simp at he
 rename_i hst2
 have hpl:L.params.size=lp.params.length:=by rw[← g5];simp
 have hvl:=zan hv
 refine⟨_,run_yield g1 (by simp;omega),fun ro n => ?_⟩
 have k1:=hkeep _ _ _ _ _ _ hasg
 have k2:Keep h1 (h1.put l (.loop { lp1 with state:=.busy })):=.put hg1 (fun lp _=>⟨_,rfl⟩)
 have k3:=hkeep _ _ _ _ _ _ hbody
 obtain⟨lp3,hh3,hfin⟩:∃lp3,h'=h2.put l (.loop lp3)∧(o=.norm∧v=.b true∧lp3={ lp2 with state:=.ready,pending:=none }∨(o≠.norm∧∀u,o≠.pan u)∧v=.b false∧lp3={ lp2 with state:=.done,pending:=some o }):=by
  cases o<;>simp at he
  ·exact⟨_,he.2.symm,.inl ⟨rfl,he.1.symm,rfl⟩⟩
  ·exact⟨_,he.2.symm,.inr ⟨by simp,he.1.symm,rfl⟩⟩
  ·exact⟨_,he.2.symm,.inr ⟨by simp,he.1.symm,rfl⟩⟩
 have hn3:h2.next≤h'.next:=by rw[hh3];simp
 have hn2:=k3.nx
 have hn1:h1.next≤h'.next:=Nat.le_trans (Nat.le_trans (by simp) hn2) hn3
 refine roundIn_of_wpIn (F:=Wd ro) trivial ?_
 have hzip:zae R (zdH lp.tmps lp.params args)=some ((L.params.zip vs.toArray).foldl (fun tmps (t,a)=>tmps.setIfInBounds t a) L.tmps).toList:=by
  have:=zie (R:=R) (ps:=lp.params) g4 hv
  rw[this,← g5,← Array.foldl_toList,Array.toList_zip]
 have w1:=hsnd L.assign lp.asg _ h _ t1 h1 R w { tmps:=(L.params.zip vs.toArray).foldl (fun tmps (t,a)=>tmps.setIfInBounds t a) L.tmps,defers:=[] } [] w.heap.size n (some c) hasg g6 hs (hfr.left hn1) hw hzip .nil (Nat.le_refl _)
  ⟨l,sz,lp,hb,hw.lt hg,hg⟩
 refine wpIn_mono w1 ?_
 rintro e a1 w1 ⟨⟨R1,l1,hx1,f1,s1,ht1,hm1⟩,_⟩
 obtain rfl:=hx1
 obtain⟨L1,p1,p2,p3,p4,p5,p6,p7⟩:=zis s1 (f1.le _ _ hb) hg1
 have hw1:=k1.wf hw
 refine⟨_,run_beginRound p1 (by rw[p2,hst1];rfl),?_⟩
 obtain⟨f2,s2⟩:=put_loop { lp1 with state:=.busy } { L1 with state:=.busy } s1 (f1.le _ _ hb) hg1 p1 rfl p3 p4 p5 p6 p7
 have hfr1:=(hfr.right f1).right f2
 have w2:=hsnd L.body lp.body t1 _ o t2 h2 R1 _ a1 [] w.heap.size n (some c) hbody g7 s2 (hfr1.left hn3) (k2.wf hw1) ht1 (hm1.fwd f2) (by simpa using f1.size)
  ⟨l,sz,_,f1.le _ _ hb,by simp;exact hw1.lt hg1,by rw[H.get_put,if_pos rfl]⟩
 refine wpIn_mono w2 ?_
 rintro e a2 w3 ⟨⟨R2,l2,hx2,f3,s3,ht2,hm2⟩,_⟩
 have hb2:=f3.le _ _ (f1.le _ _ hb)
 obtain⟨L2,r1,r2,r3,r4,r5,r6,r7⟩:=zis s3 hb2 hg2
 have fall:=f1.trans (f2.trans f3)
 rcases hfin with⟨rfl,rfl,rfl⟩|⟨hne,rfl,rfl⟩
 ·obtain rfl:=hx2
  obtain⟨f4,s4⟩:=put_loop { lp2 with state:=.ready,pending:=none } { L2 with state:=.ready,pending:=none } s3 hb2 hg2 r1 rfl rfl r4 r5 r6 r7
  subst hh3
  exact⟨_,_,run_endRound none r1,R2,_,fall.trans f4,s4,by simp[conc]⟩
 ·subst hh3
  cases o with
  |norm=>exact absurd rfl hne.1
  |pan u=>exact absurd rfl (hne.2 u)
  |exit i=>
   obtain rfl:=hx2
   obtain⟨f4,s4⟩:=put_loop { lp2 with state:=.done,pending:=some (.exit i) } { L2 with state:=.done,pending:=some (.exit i) } s3 hb2 hg2 r1 rfl rfl r4 r5 r6 r7
   exact⟨_,_,run_endRound (some (.exit i)) r1,R2,_,fall.trans f4,s4,by simp[conc]⟩
  |ret=>
   obtain rfl:=hx2
   obtain⟨f4,s4⟩:=put_loop { lp2 with state:=.done,pending:=some .ret } { L2 with state:=.done,pending:=some .ret } s3 hb2 hg2 r1 rfl rfl r4 r5 r6 r7
   exact⟨_,_,run_endRound (some .ret) r1,R2,_,fall.trans f4,s4,by simp[conc]⟩
theorem zqj {k:Nat} (hsnd:∀j,j≤k→Snd P (E tbl j)) (hcs:∀j,j<k→zcy P (zaS tbl (E tbl j))) (htbl:∀k fi,tbl k=some fi→FnOk P tbl k fi) {g:Nat} {fi:FI} {fn:Func} {c:Code} {pre:C} {x:X}
 {args:List V} {vs:List Value} {t0 t1:List V} {h0 h2:H} {o:Out} {r:RO} (q1:P.funcs[g]? = some fn) (q2:fn.body=some c) (q3:fn.ntmps=fi.ntmps) (q5:zeH P fn.results.toList fi.res=true)
 (hok:zhN P c pre fi.body x=true) (e0:E tbl k pre (pad args fi.ntmps) h=.ok .norm t0 h0) (e1:E tbl k fi.body t0 h0=.ok o t1 h1)
 (ed:(match (generalizing:=false) o with
   |.exit _=>none
   |.pan v=>zdR tbl (E tbl k) (x.ev t0) v h1
   |.norm=>zdR tbl (E tbl k) (x.ev t0) .in0 h1
   |.ret=>zdR tbl (E tbl k) (x.ev t0) .in0 h1)=some h2) (er:zdO fi t1 h2=r) (hg:r.Gives h')
 (hs:Sim P allB R h.get w) (hfr:Fresh R h h') (hw:WF h) (hv:zae R args=some vs) (n:Nat):CallsIn (Wd none) n P g vs.toArray w (zes P allB R h w r):=by
 obtain⟨ls,hls,rfl,rfl⟩:=zcS er hg
 have hpad:=ziQ hv fi.ntmps
 have kp0:=zdS k _ _ _ _ _ _ e0
 have kp1:=zdS k _ _ _ _ _ _ e1
 have ed':∃v,zdR tbl (E tbl k) (x.ev t0) v h1=some h'∧((v=.in0∧(o=.norm∨o=.ret))∨o=.pan v):=by
  cases o with
  |exit i=>cases ed
  |norm=>exact⟨_,ed,.inl ⟨rfl,.inl rfl⟩⟩
  |ret=>exact⟨_,ed,.inl ⟨rfl,.inr rfl⟩⟩
  |pan v=>exact⟨v,ed,.inr rfl⟩
 obtain⟨v,edv,hov⟩:=ed'
 have kp2:=zfo (zdS k) edv
 have hxe:∃g caps,x.ev t0=.fn g [] caps:=by
  have:=edv
  unfold zdR at this
  split at this<;>try simp only[reduceCtorEq]at this
  exact⟨_,_,by assumption⟩
 refine callsIn_of_wp_marks (F:=Wd none) q1 q2 trivial ?_
 refine pre_wp (n:=n) hsnd hcs hxe k pre c _ h R w { tmps:=vs.toArray++Array.replicate (fn.ntmps-vs.toArray.size) undef,defers:=[] } (Nat.le_refl k) hok e0 hs (hfr.left (Nat.le_trans kp1.nx kp2.nx)) hw
  (by rw[hpad,q3]) rfl ?_
 intro b R1 l1 a1 w1 fv gc caps hb f1 s1 ht1 hfv hfve hd1
 have hw0:=kp0.wf hw
 have hfr0:Fresh R1 h0 h':=hfr.right f1
 refine wpIn_mono (hsnd k (Nat.le_refl k) b fi.body t0 h0 o t1 h1 R1 w1 a1 [{ target:=.fn (.func gc) caps,args := #[] }] w.heap.size n none e1 hb s1 (hfr0.left kp2.nx) hw0 ht1 (by rw[hd1];exact .nil) f1.size trivial) ?_
 rintro e a2 w2 ⟨⟨R2,l2,hx2,f2,s2,ht2,⟨ms,hms,hm2⟩⟩,_⟩
 have hw1:=kp1.wf hw0
 have hfr1:Fresh R2 h1 h':=hfr0.right f2
 have hfv2:=zdh f2.le _ _ hfv
 have fin:∀(u u2:FrameMode) (x:Value),u≠.run→conc R2 v=some x→settle u2=.returning→(∀(c₀:Frame) (cs:List Frame),c₀.mode=u→(recoverD (c₀::cs)=some (x,{ c₀ with mode:=u2 }::cs))∨(recoverD (c₀::cs)=none∧x=.nilIface∧u2=u)) →
  LeavesInM (Wd none) n P fn a2.tmps (zes P allB R h w (.ok (zgM ls) h')) a2.defers u w2:=by
  intro u u2 x hu hx hset hrec
  rw[hms]
  refine zkg hu (f1.trans f2) s2 hm2 fun w3 f3 s3 => ?_
  obtain⟨g',caps',e1',e2',hcl⟩:=zmQ (u:=u) (u2:=u2) hsnd htbl edv s3 hfr1 hw1 hfv2 hx hrec
  rw[hfve]at e1'
  simp only[Value.func.injEq,Fn.func.injEq,true_and]at e1'
  obtain⟨rfl,rfl⟩:=e1'
  refine⟨hu,.inr ⟨fun hd=>by simp[Wd,Fence.wide]at hd,.func gc,caps,gc,caps,rfl,?_,fun _ _=>trivial,?_⟩⟩
  ·simpa [invoke] using e2'
  ·refine (hcl (n-1)).mono ?_
   rintro e u' w4 ⟨⟨y,rfl⟩,rfl,R4,l4,f4,s4⟩
   simp only[hset]
   obtain⟨z,z1,z2⟩:=zfW (fn:=fn) s4 (zav f4.le _ _ ht2) q5 hls
   exact⟨z,z1,R4,_,f3.trans f4,s4,z2⟩
 rcases hov with⟨rfl,rfl|rfl⟩|rfl
 ·obtain rfl:=hx2
  exact fin .returning .returning .nilIface (by simp) (by simp[conc]) rfl fun c₀ cs hc=>.inr ⟨by simp[recoverD,hc],rfl,rfl⟩
 ·obtain rfl:=hx2
  exact fin .returning .returning .nilIface (by simp) (by simp[conc]) rfl fun c₀ cs hc=>.inr ⟨by simp[recoverD,hc],rfl,rfl⟩
 ·obtain⟨x,hx,rfl⟩:=hx2
  exact fin (.panicking [{ v:=x,recovered:=false }]) (.panicking [{ v:=x,recovered:=true }]) x (by simp) hx rfl fun c₀ cs hc=>.inl (by simp[recoverD,hc])
theorem zqp {k:Nat} (hsnd:∀j,j≤k→Snd P (E tbl j)) (hcs:∀j,j<k→zcy P (zaS tbl (E tbl j))) (htbl:∀k fi,tbl k=some fi→FnOk P tbl k fi) {g:Nat} {first caps args:List V} {f1 c1 vs:List Value} {r:RO}
 (hx:∀fi,tbl g=some fi→¬ (tbl.ext g=true∧zkC P tbl.pr g fi)) (he:zaS tbl (E tbl k) (.fn g first caps) args h=r) (hgv:r.Gives h') (hs:Sim P allB R h.get w) (hfr:Fresh R h h') (hw:WF h) (hf:zae R first=some f1) (hcp:zae R caps=some c1) (hv:zae R args=some vs) :
 (callFunc g (f1.toArray++vs.toArray++c1.toArray)).run P w=.ok (.enter g (f1.toArray++vs.toArray++c1.toArray)) w ∧
 ∀ro n,CallsIn (Wd ro) n P g (f1.toArray++vs.toArray++c1.toArray) w (zes P allB R h w r):=by
 have he0:=he
 simp only[zaS]at he
 split at he
 case h_1=>subst he;exact hgv.elim
 rename_i fi hfi
 rcases htbl g fi hfi with hfo|hpr|hxt
 case inr.inl=>exact prim_snd hfi hpr he0 hgv hs hfr hw hf hcp hv
 case inr.inr=>exact absurd hxt (hx fi hfi)
 clear he0
 obtain⟨fn,c,q1,q2,q3,q4,q5,q6⟩:=znp hfo
 refine⟨by simp[callFunc,q1,by simpa using q4,q2],fun ro n => ?_⟩
 have hall:zae R (first++args++caps)=some (f1++vs++c1):=zaw (zaw hf hv) hcp
 have e:(f1++vs++c1).toArray=f1.toArray++vs.toArray++c1.toArray:=by simp
 rw[← e]
 have hpad:=ziQ hall fi.ntmps
 show CallsIn (Wd none) n P g (f1++vs++c1).toArray w (zes P allB R h w r)
 unfold znr at q6
 cases hrc:fi.rcv with
 |some nr=>simp only[hrc]at he;subst he;exact hgv.elim
 |none=>
  simp only[hrc]at he q6
  cases hdf:fi.dfr with
  |some px=>
   obtain⟨pre,x⟩:=px
   simp only[hdf]at he q6
   cases e0:E tbl k pre (pad (first++args++caps) fi.ntmps) h with
   |fail=>simp only[e0]at he;subst he;exact hgv.elim
   |ok o0 t0 h0=>
    cases o0<;>simp only[e0]at he<;>first|(subst he;exact hgv.elim)|skip
    cases e1:E tbl k fi.body t0 h0 with
    |fail=>simp only[e1]at he;subst he;exact hgv.elim
    |ok o t1 h1=>
     simp only[e1]at he
     split at he
     ·subst he;exact hgv.elim
     ·rename_i h2 hd
      exact zqj hsnd hcs htbl q1 q2 q3 q5 q6 e0 e1 hd he hgv hs hfr hw hall n
  |none=>
   simp only[hdf]at he q6
   cases e1:E tbl k fi.body (pad (first++args++caps) fi.ntmps) h with
   |fail=>simp only[e1]at he;subst he;exact hgv.elim
   |ok o t1 h1=>
    simp only[e1]at he
    have main:h'=h1→CallsIn (Wd none) n P g (f1++vs++c1).toArray w (zes P allB R h w r):=by
     rintro rfl
     refine callsIn_of_wp_marks (F:=Wd none) q1 q2 trivial ?_
     refine wpIn_mono (hsnd k (Nat.le_refl k) c fi.body _ h o t1 h' R w { tmps:=(f1++vs++c1).toArray++Array.replicate (fn.ntmps-(f1++vs++c1).toArray.size) undef,defers:=[] } [] w.heap.size n none e1 q6 hs hfr hw
      (by rw[hpad,q3]) .nil (Nat.le_refl _) trivial) ?_
     rintro e a' w' ⟨⟨R',l,hx,f,hs',ht',hm'⟩,_⟩
     cases o with
     |exit i=>simp only at he;subst he;exact hgv.elim
     |norm=>
      obtain rfl:=hx
      obtain⟨ls,hls,rfl,_⟩:=zcS he hgv
      exact leaves q5 ht' hls f hs' hm'
     |ret=>
      obtain rfl:=hx
      obtain⟨ls,hls,rfl,_⟩:=zcS he hgv
      exact leaves q5 ht' hls f hs' hm'
     |pan v=>
      obtain⟨x,hx,rfl⟩:=hx
      simp only at he
      subst he
      exact leavesP hx f hs' hm'
    cases o with
    |exit i=>simp only at he;subst he;exact hgv.elim
    |norm=>obtain⟨_,_,_,hh⟩:=zcS he hgv;exact main hh
    |ret=>obtain⟨_,_,_,hh⟩:=zcS he hgv;exact main hh
    |pan v=>simp only at he;subst he;exact main hgv
theorem znS (htbl:∀k fi,tbl k=some fi→FnOk P tbl k fi):∀k,(∀j,j≤k→Snd P (E tbl j))→zcy P (zaS tbl (E tbl k)):=by
 intro k
 induction k using Nat.strongRecOn with
 |ind k ih=>
  intro hsnd f args h h' r R w fv vs he hg hs hfr hw hf hv
  cases f<;>try (simp only[zaS]at he;subst he;exact hg.elim)
  case fn g first caps=>
   obtain⟨f1,c1,q1,q2,rfl⟩:=zgk hf
   by_cases hx:∃fi,tbl g=some fi∧tbl.ext g=true∧zkC P tbl.pr g fi
   ·obtain⟨fi,hfi,_,hxo⟩:=hx
    obtain⟨x,w1,p1,v,rfl,p2⟩:=ext_snd hfi hxo he hg hs hfr hw q1 q2 hv
    exact⟨.value x,w1,by simpa [Deferred.ofValue,invoke] using p1,p2⟩
   ·obtain⟨p1,p2⟩:=zqp hsnd (fun j hj=>ih j hj fun i hi=>hsnd i (by omega)) htbl (fun fi hfi h=>hx ⟨fi,hfi,h⟩) he hg hs hfr hw q1 q2 hv
    exact⟨.enter g _,w,by simpa [Deferred.ofValue,invoke] using p1,p2⟩
  case yld l=>
   obtain⟨c,sz,q1,rfl⟩:=zhY hf
   obtain⟨nx,p1,p2⟩:=yld_snd (hsnd k (Nat.le_refl k)) (zdS k) he hg hs hfr hw q1 hv
   exact⟨nx,w,by simpa [Deferred.ofValue,invoke] using p1,p2⟩
end
end Go.Air
namespace Go.Air
section
variable {P:Program} {tbl:Tb} {R R1 R':Emb} {h h1 h':H} {w w1 w':World} {t t':List V} {a:Act} {v:V} {m:Nat}
theorem zmW {o:Obj} (hs:Sim P allB R h.get w):Fwd R R h h w (w.alloc o) []∧Sim P allB R h.get (w.alloc o):=by
 refine⟨⟨R.le_refl,rfl,Nat.le_refl _,by simp,fun _ _ _ h=>.inl h,fun _ _ _=>rfl,fun c hc _=>zcJ hc,fun _ hb=>by simp at hb,⟨rfl,rfl,rfl⟩⟩,⟨?_,hs.inj,?_,hs.fix⟩⟩
 ·intro b c sz x hF hb hx
  exact (hs.blk b c sz x hF hb hx).mono P R.le_refl (zcJ (hs.lt b c sz hb))
 ·intro b c sz hb
  have:=hs.lt b c sz hb
  simp;omega
theorem znv {lp:Loop} {L:Go.Loop} (hs:Sim P allB R h.get w) (hf:R h.next=none) (h1:L.state=zif lp.state) (h2:L.pending=zkX lp.pending) (h3:zae R lp.tmps=some L.tmps.toList)
 (h4:L.params.toList=lp.params) (h5:okC P L.assign lp.asg=true) (h6:okC P L.body lp.body=true) :
 Fwd R (R.add h.next (w.heap.size,0)) h (h.new (.loop lp)) w (w.alloc (.loop L)) []∧Sim P allB (R.add h.next (w.heap.size,0)) (h.new (.loop lp)).get (w.alloc (.loop L)):=
 zds hs hf fun w' hw'=>⟨L,hw',h1,h2,zav (Emb.le_add hf) _ _ h3,h4,h5,h6⟩
theorem zkW {F:Fence} {n:Nat} {K:Exit→Act→World→Prop} {p:Option Out} {j:Option Code} (hj:j=zkX p) (hp:zqg p=false) (hK:∀e,exitIs (fun _=>none) (p.getD .norm) e→K e a w) :
 (match (generalizing:=false) j with
 |none=>K .normal a w
 |some c=>c.wpIn F n P K a w):=by
 subst hj
 cases p with
 |none=>exact hK _ rfl
 |some o=>
  cases o with
  |norm=>exact hK _ rfl
  |exit i=>exact wpIn_exit (hK _ rfl)
  |ret=>exact wpIn_ret (hK _ rfl)
  |pan v=>cases hp
theorem zpy {k:Nat} (hsnd:∀j,j≤k→Snd P (E tbl j)) (hcs:∀j,j<k→zcy P (zaS tbl (E tbl j))) (htbl:∀k fi,tbl k=some fi→FnOk P tbl k fi)
 {g:Operand} {f:X} {ps:Array Tmp} {qs:List Nat} {asg body:Code} {aasg abody:C} {n:Nat} {ro:Option Nat} {o:Out} {D0:List Deferred}
 (he:zaP tbl (E tbl k) (.rangeF f qs aasg abody) t h=.ok o t' h') (hgf:okX g f=true) (hps:ps.toList=qs) (hasg:okC P asg aasg=true) (hbody:okC P body abody=true)
 (hs:Sim P allB R h.get w) (hfr:Fresh R h h') (hw:WF h) (ht:zae R t=some a.tmps.toList) (hm:MarksOn D0 m R w a.defers) (hmw:m≤w.heap.size) (har:Around R h ro) :
 (Code.rangeFunc g ps asg body).wpIn (Wd ro) n P (fun e a' w'=>PostE P D0 m R h w o t' h' e a' w'∧(flat (.rangeF f qs aasg abody)=true→a'.defers=a.defers)) a w:=by
 have hkeep:=zdS (tbl:=tbl) k
 simp only[zaP]at he
 split at he<;>try simp at he
 rename_i gf first caps hfe
 split at he<;>try simp at he
 rename_i hnx
 split at he<;>try simp at he
 rename_i vr hr hcall
 split at he<;>try simp at he
 rename_i lp hlp
 split at he<;>try simp at he
 rename_i hbusy
 split at he<;>simp at he
 rename_i hnp
 obtain⟨rfl,rfl,rfl⟩:=he
 have hg:=zcN ht g f hgf
 rw[hfe]at hg
 obtain⟨f1,c1,hf1,hc1,hge⟩:=zgk hg
 have hfn:R h.next=none:=hfr h.next (Nat.le_refl _) (by
  have:=(zcU hkeep _ _ _ _ _ (.inl hcall)).nx
  simp at this ⊢;omega)
 have hnr:h.next<hr.next:=by
  have:=(zcU hkeep _ _ _ _ _ (.inl hcall)).nx
  simp at this;omega
 obtain⟨ms,hms,hm⟩:=hm
 have lay:∀fn,∃(l:Nat) (mark:List Deferred) (w₁:World),(Instr.enterLoop fn a.tmps ps asg body ro).run P w=.ok (l,mark) w₁ ∧
  Fwd R (R.add h.next (l,0)) h (h.new (.loop ⟨.ready,none,t,qs,aasg,abody⟩)) w w₁ []∧Sim P allB (R.add h.next (l,0)) (h.new (.loop ⟨.ready,none,t,qs,aasg,abody⟩)).get w₁ ∧
  MarksOn D0 m (R.add h.next (l,0)) w₁ (mark++a.defers):=by
  intro fn
  cases ro with
  |none=>
   obtain⟨f2,s2⟩:=zmW (o:=.deferred (some [])) hs
   obtain⟨f3,s3⟩:=znv (lp:=⟨.ready,none,t,qs,aasg,abody⟩) (L:={ state:=.ready,pending:=none,fn,tmps:=a.tmps,params:=ps,assign:=asg,body,defers:=w.heap.size }) s2 hfn rfl rfl ht hps hasg hbody
   rw[World.size_alloc]at f3 s3
   refine⟨w.heap.size+1,_,_,run_enterLoop_outer fn a.tmps ps asg body,f2.trans f3,s3,{ target:=.collected w.heap.size,args := #[] }::ms,by rw[hms];rfl,⟨⟨w.heap.size,rfl,hmw,by simp;omega,?_,?_,?_⟩,hm.fwd (f2.trans f3)⟩⟩
   ·rw[zcJ (by simp)];exact zeP
   ·intro b sz hb
    simp only[Emb.add]at hb
    split at hb
    ·simp at hb
    ·have:=hs.lt b _ sz hb
     omega
   ·intro e he hee
    have:∀{ds:List Deferred},Marks m R w ds→e∈ds→e.target=.collected w.heap.size→False:=by
     intro ds
     induction ds with
     |nil=>intro _ h1;simp at h1
     |cons d ds ih=>
      rintro⟨⟨D,q1,q2,q3,_⟩,hrest⟩ hin hee
      rcases List.mem_cons.1 hin with rfl|hin
      ·rw[q1]at hee
       simp at hee
       omega
      ·exact ih hrest hin hee
    exact this hm he hee
  |some l₀=>
   obtain⟨b,sz,lp0,b1,b2,b3⟩:=har
   obtain⟨L0,g1,_⟩:=zis hs b1 b3
   obtain⟨f3,s3⟩:=znv (lp:=⟨.ready,none,t,qs,aasg,abody⟩) (L:={ state:=.ready,pending:=none,fn,tmps:=a.tmps,params:=ps,assign:=asg,body,defers:=L0.defers }) hs hfn rfl rfl ht hps hasg hbody
   exact⟨w.heap.size,[],_,run_enterLoop_inner g1 fn a.tmps ps asg body,f3,s3,ms,by rw[hms];rfl,hm.fwd f3⟩
 refine wpIn_rangeFunc fun fn _ => ?_
 obtain⟨l,mark,w₁,e1,f1',s1,m1⟩:=lay fn
 have hfr1:Fresh (R.add h.next (l,0)) (h.new (.loop ⟨.ready,none,t,qs,aasg,abody⟩)) hr:=(hfr.left (h1:=hr) (by simp)).right f1'
 have hyl:zae (R.add h.next (l,0)) [.yld h.next]=some [.func (.yield l) #[] #[]]:=by simp[zae,conc,Emb.add_self]
 obtain⟨p1,p2⟩:=zqp hsnd hcs htbl (fun fi _ hx=>hnx hx.1) hcall RO.gives_ok s1 hfr1 ((Keep.new h _).wf hw) (zav f1'.le _ _ hf1) (zav f1'.le _ _ hc1) hyl
 refine⟨l,mark,w₁,{ target:=.fn (.func gf) c1.toArray,args:=f1.toArray ++ #[.func (.yield l) #[] #[]] },w₁,gf,f1.toArray ++ #[.func (.yield l) #[] #[]]++c1.toArray,w₁,e1,?_,fun _ _=>trivial,?_,fun hd=>by simp[Wd,Fence.wide]at hd,?_⟩
 ·have:a.eval g=.func (.func gf) f1.toArray c1.toArray:=hge
  simp only[resolve,rangeCall]
  rw[this]
  simp[Deferred.ofValue,Act.eval]
 ·simpa [invoke] using p1
 ·refine (p2 ro (n-1)).mono ?_
  intro e w₃ hq
  cases e with
  |panicked _=>exact hq.elim
  |outgrown=>exact hq.elim
  |returned x=>
   obtain⟨R3,l3,f3,s3,_⟩:=hq
   have hb3:R3 h.next=some (l,0):=f3.le _ _ Emb.add_self
   obtain⟨L,q1,q2,q3,q4,q5,q6,q7⟩:=zis s3 hb3 hlp
   have hnb:L.state≠.busy:=by
    rw[q2]
    intro e
    apply hbusy
    revert e
    cases lp.state<;>simp[zif]
   obtain⟨f4,s4⟩:=put_loop { lp with state:=.over } { L with state:=.exhausted } s3 hb3 hlp q1 rfl q3 q4 q5 q6 q7
   have fall:=f1'.trans (f3.trans f4)
   have hpost:∀e,exitIs (fun _=>none) (lp.pending.getD .norm) e→PostE P D0 m R h w (lp.pending.getD .norm) t (hr.put h.next (.loop { lp with state:=.over })) e { a with defers:=mark++a.defers } (w₃.putObj l (.loop { L with state:=.exhausted })):=
    fun e hx=>⟨R3,_,hx.mono (fun _ _ hb=>by cases hb),fall,s4,zav fall.le _ _ ht,(m1.fwd f3).fwd f4⟩
   have hnp':zqg lp.pending=false:=by simpa using hnp
   refine⟨_,_,run_endLoop q1 hnb,?_⟩
   exact zkW (F:=Wd ro) (n:=n) (K:=fun e a' w'=>PostE P D0 m R h w (lp.pending.getD .norm) t (hr.put h.next (.loop { lp with state:=.over })) e a' w'∧(flat (.rangeF f qs aasg abody)=true→a'.defers=a.defers)) q3 hnp' (fun e hx=>⟨hpost e hx,fun hf=>by cases hf⟩)
theorem Marks.drew:∀{ds:List Deferred},Marks m R w ds→Marks m R w.drew ds
 |[],_=>trivial
 |_::_,⟨⟨D,h1,h2,h3,h4,h5,h6⟩,hs⟩=>⟨⟨D,h1,h2,h3,h4,h5,h6⟩,hs.drew⟩
theorem zpL {c:Code} {ac:C}:okC P (.scope c) ac=okC P c ac:=by cases ac<;>rfl
theorem MarksOn.drew {D0:List Deferred} {ds:List Deferred} (h:MarksOn D0 m R w ds):MarksOn D0 m R w.drew ds:=let ⟨ms,e,q⟩:=h;⟨ms,e,q.drew⟩
theorem exitIs.pass {o:Out} {e:Exit} (hx:exitIs R o e) (hn:o≠.norm):e≠.normal:=by
 cases o with
 |norm=>exact absurd rfl hn
 |exit i=>obtain rfl:=hx;simp
 |ret=>obtain rfl:=hx;simp
 |pan v=>obtain⟨x,_,rfl⟩:=hx;simp
theorem step_snd {k:Nat} (ih:∀j,j≤k→Snd P (E tbl j)) (htbl:∀k fi,tbl k=some fi→FnOk P tbl k fi) (hdraw:∀call,zcy P call→zhd call→znb P call) :
 Snd P (zaP tbl (E tbl k)):=by
 have ihk:=ih k (Nat.le_refl _)
 have hkeep:=zdS (tbl:=tbl) k
 have hcall:∀j,j≤k→zcy P (zaS tbl (E tbl j)):=fun j hj=>znS htbl j fun i hi=>ih i (by omega)
 have hcs:=hcall k (Nat.le_refl k)
 have hck:=zcU (tbl:=tbl) hkeep
 intro c
 induction c with
 |scope c ihc=>
  intro ac t h o t' h' R w a D0 m n ro he hok hs hfr hw ht hm hmw har
  rw[zpL]at hok
  refine zfT (wpIn_mono (ihc ac t h o t' h' R w a D0 m n ro he hok hs hfr hw ht hm hmw har) ?_)
  rintro e a' w' ⟨hp,hd⟩
  obtain⟨R',l,hx,hp⟩:=hp
  cases o with
  |pan v=>obtain⟨x,hv,rfl⟩:=hx;exact⟨⟨R',l,⟨x,hv,rfl⟩,hp⟩,hd⟩
  |_=>obtain rfl:=hx;exact⟨⟨R',l,rfl,hp⟩,hd⟩
 |skip=>
  intro ac t h o t' h' R w a D0 m n ro he hok hs hfr hw ht hm hmw har
  cases ac<;>try exact (Bool.false_ne_true hok).elim
  simp only[zaP,RC.ok.injEq]at he
  obtain⟨rfl,rfl,rfl⟩:=he
  exact wpIn_skip ⟨.here rfl hs ht hm,fun _=>rfl⟩
 |label l=>
  intro ac t h o t' h' R w a D0 m n ro he hok hs hfr hw ht hm hmw har
  cases ac<;>try exact (Bool.false_ne_true hok).elim
  simp only[zaP,RC.ok.injEq]at he
  obtain⟨rfl,rfl,rfl⟩:=he
  exact wpIn_label ⟨.here rfl hs ht hm,fun _=>rfl⟩
 |region id ops dr=>
  intro ac t h o t' h' R w a D0 m n ro he hok hs hfr hw ht hm hmw har
  cases dr with
  |false=>
   cases ac<;>try exact (Bool.false_ne_true hok).elim
   rename_i l
   have hok:zec P ops ops.toList l=true:=hok
   have hgv:(zaQ (zaS tbl (E tbl k)) l t h).Gives o t' h':=by
    simp only[zaP]at he
    cases hr:zaQ (zaS tbl (E tbl k)) l t h with
    |fail=>simp only[hr,reduceCtorEq]at he
    |ok t1 h1=>simp only[hr,RC.ok.injEq]at he;exact⟨he.1.symm,he.2.1.symm,he.2.2.symm⟩
    |pan v t1 h1=>simp only[hr,RC.ok.injEq]at he;exact⟨he.1.symm,he.2.1.symm,he.2.2.symm⟩
   refine wpIn_region ?_
   rw[List.range_eq_range']
   have:=zpF (tail:=[]) (n:=n) (ro:=ro) (Q:=fun e a' w'=>PostE P D0 m R h w o t' h' e a' w'∧(flat (.ops l)=true→a'.defers=a.defers)) hcs hck ops.toList l 0 t h R w a (fun j _=>by simp) hok hgv hs hfr hw ht hm
    (fun a' w' hp hd ho=>by subst ho;exact⟨hp,fun _=>hd⟩) (fun v x a' w' ho hp hd=>⟨hp,fun _=>hd⟩)
   rw[List.append_nil]at this
   exact this
  |true=>
   cases ac<;>try exact (Bool.false_ne_true hok).elim
   rename_i l crit
   have hok:(zec P ops ops.toList l&&znq ops l crit)=true:=hok
   rw[Bool.and_eq_true]at hok
   simp only[zaP]at he
   split at he<;>try simp at he
   rename_i t1 h1 f hrun
   split at he<;>simp at he
   rename_i hcrit
   obtain⟨rfl,rfl,rfl⟩:=he
   refine wpIn_region_draw fun order => ?_
   have hs':Sim P allB R h.get { w with drawn:=w.drawn+1 }:=hs.drew
   refine hdraw _ hcs hck ops l crit t h t1 h1 f R { w with drawn:=w.drawn+1 } a D0 m n ro _ order hok.1 hok.2 hrun hcrit hs' hfr hw ht ?_ (fun a' w' hp=>⟨?_,fun hf=>by cases hf⟩)
   ·exact hm.drew
   ·obtain⟨R',l',q0,q1,q2⟩:=hp
    exact⟨R',l',q0,⟨q1.le,q1.log,q1.nx,q1.size,q1.new,q1.same,q1.frame,q1.own,q1.io⟩,q2⟩
 |seq x y _ _=>
  intro ac t h o t' h' R w a D0 m n ro he hok hs hfr hw ht hm hmw har
  cases ac<;>try exact (Bool.false_ne_true hok).elim
  rename_i ax ay
  have hok:(okC P x ax&&okC P y ay)=true:=hok
  rw[Bool.and_eq_true]at hok
  have hfl:flat (.seq ax ay)=true→flat ax=true∧flat ay=true:=fun hf=>by
   have hf:(flat ax&&flat ay)=true:=hf
   rwa [Bool.and_eq_true]at hf
  simp only[zaP]at he
  split at he
  ·rename_i t1 h1 hrun
   have k1:=hkeep _ _ _ _ _ _ hrun
   have k2:=hkeep _ _ _ _ _ _ he
   refine wpIn_seq (wpIn_mono (ihk x ax t h _ t1 h1 R w a D0 m n ro hrun hok.1 hs (hfr.left k2.nx) hw ht hm hmw har) ?_)
   rintro e a1 w1 ⟨⟨R1,l1,hx1,f1,s1,ht1,hm1⟩,hd1⟩
   obtain rfl:=hx1
   refine wpIn_mono (ihk y ay t1 h1 o t' h' R1 w1 a1 D0 m n ro he hok.2 s1 (hfr.right f1) (k1.wf hw) ht1 hm1 (Nat.le_trans hmw f1.size) (har.fwd f1 k1)) ?_
   rintro e a' w' ⟨hp,hd⟩
   exact⟨hp.step f1,fun hf=>by rw[hd (hfl hf).2,hd1 (hfl hf).1]⟩
  ·rename_i hne
   refine wpIn_seq (wpIn_mono (ihk x ax t h o t' h' R w a D0 m n ro he hok.1 hs hfr hw ht hm hmw har) ?_)
   rintro e a1 w1 ⟨hp,hd⟩
   have hon:o≠.norm:=by rintro rfl;exact absurd he (hne t' h')
   have hen:e≠.normal:=by obtain⟨_,_,hx,_⟩:=hp;exact hx.pass hon
   cases e<;>first|exact absurd rfl hen|exact⟨hp,fun hf=>hd (hfl hf).1⟩
 |cond x y z _ _=>
  intro ac t h o t' h' R w a D0 m n ro he hok hs hfr hw ht hm hmw har
  cases ac<;>try exact (Bool.false_ne_true hok).elim
  rename_i ax ay az
  have hok:(okX x ax&&okC P y ay&&okC P z az)=true:=hok
  rw[Bool.and_eq_true,Bool.and_eq_true]at hok
  obtain⟨⟨hx,hy⟩,hz⟩:=hok
  have hfl:flat (.cond ax ay az)=true→flat ay=true∧flat az=true:=fun hf=>by
   have hf:(flat ay&&flat az)=true:=hf
   rwa [Bool.and_eq_true]at hf
  have hxe:=zcN ht x ax hx
  simp only[zaP]at he
  split at he<;>try simp at he
  ·rename_i hb
   rw[hb]at hxe
   refine wpIn_cond_true ?_ (wpIn_mono (ihk y ay t h o t' h' R w a D0 m n ro he hy hs hfr hw ht hm hmw har) fun e a' w' q=>⟨q.1,fun hf=>q.2 (hfl hf).1⟩)
   simpa [conc,eq_comm] using hxe
  ·rename_i hb
   rw[hb]at hxe
   refine wpIn_cond_false ?_ (wpIn_mono (ihk z az t h o t' h' R w a D0 m n ro he hz hs hfr hw ht hm hmw har) fun e a' w' q=>⟨q.1,fun hf=>q.2 (hfl hf).2⟩)
   simpa [conc,eq_comm] using hxe
 |block i x _=>
  intro ac t h o t' h' R w a D0 m n ro he hok hs hfr hw ht hm hmw har
  cases ac<;>try exact (Bool.false_ne_true hok).elim
  rename_i j ax
  have hok1:(Nat.beq i j&&okC P x ax)=true:=hok
  rw[Bool.and_eq_true,Nat.beq_eq]at hok1
  clear hok
  obtain⟨hij,hok⟩:=hok1
  subst hij
  simp only[zaP]at he
  split at he
  ·rename_i e t1 h1 hrun
   by_cases hei:e=i
   ·subst hei
    simp at he
    obtain⟨rfl,rfl,rfl⟩:=he
    refine wpIn_block (wpIn_mono (ihk x ax t h _ t1 h1 R w a D0 m n ro hrun hok hs hfr hw ht hm hmw har) ?_)
    rintro e' a1 w1 ⟨⟨R1,l1,hx1,hp⟩,hd⟩
    obtain rfl:=hx1
    simp only[Exit.inBlock,if_true]
    exact⟨⟨R1,l1,rfl,hp⟩,hd⟩
   ·rw[if_neg (by simpa using hei)]at he
    simp at he
    obtain⟨rfl,rfl,rfl⟩:=he
    refine wpIn_block (wpIn_mono (ihk x ax t h _ t1 h1 R w a D0 m n ro hrun hok hs hfr hw ht hm hmw har) ?_)
    rintro e' a1 w1 ⟨⟨R1,l1,hx1,hp⟩,hd⟩
    obtain rfl:=hx1
    simp only[Exit.inBlock,hei,if_false]
    exact⟨⟨R1,l1,rfl,hp⟩,hd⟩
  ·rename_i hne
   refine wpIn_block (wpIn_mono (ihk x ax t h o t' h' R w a D0 m n ro he hok hs hfr hw ht hm hmw har) ?_)
   rintro e a1 w1 ⟨⟨R1,l1,hx1,hp⟩,hd⟩
   cases o with
   |exit e=>exact absurd he (hne e t' h')
   |norm=>obtain rfl:=hx1;exact⟨⟨R1,l1,rfl,hp⟩,hd⟩
   |ret=>obtain rfl:=hx1;exact⟨⟨R1,l1,rfl,hp⟩,hd⟩
   |pan v=>obtain⟨x,hv,rfl⟩:=hx1;exact⟨⟨R1,l1,⟨x,hv,rfl⟩,hp⟩,hd⟩
 |loop x _=>
  intro ac t h o t' h' R w a D0 m n ro he hok hs hfr hw ht hm hmw har
  cases ac<;>try exact (Bool.false_ne_true hok).elim
  rename_i ax
  have hok:okC P x ax=true:=hok
  have he':E tbl (k+1) (.loop ax) t h=.ok o t' h':=he
  refine zjJ (fun j a1 w1=>j≤k+1∧∃t1 h1 R1 l1,E tbl j (.loop ax) t1 h1=.ok o t' h'∧Fwd R R1 h h1 w w1 l1∧Keep h h1∧Sim P allB R1 h1.get w1 ∧
   zae R1 t1=some a1.tmps.toList∧MarksOn D0 m R1 w1 a1.defers∧(flat (.loop ax)=true→a1.defers=a.defers)) ⟨k+1,Nat.le_refl _,t,h,R,[],he',.refl R h w,.refl h,hs,ht,hm,fun _=>rfl⟩ ?_
  rintro j a1 w1 ⟨hj,t1,h1,R1,l1,he1,f1,k1,s1,ht1,hm1,hd1⟩
  cases j with
  |zero=>simp[E]at he1
  |succ j=>
   have ihj:=ih j (by omega)
   have hkj:=zdS (tbl:=tbl) j
   simp only[E,zaP]at he1
   split at he1
   ·rename_i t2 h2 hrun
    have k2:=hkj _ _ _ _ _ _ hrun
    have k3:=hkj _ _ _ _ _ _ he1
    refine wpIn_mono (ihj x ax t1 h1 _ t2 h2 R1 w1 a1 D0 m n ro hrun hok s1 ((hfr.right f1).left k3.nx) (k1.wf hw) ht1 hm1 (Nat.le_trans hmw f1.size) (har.fwd f1 k1)) ?_
    rintro e a2 w2 ⟨⟨R2,l2,hx2,f2,s2,ht2,hm2⟩,hd2⟩
    obtain rfl:=hx2
    exact⟨j,by omega,by omega,t2,h2,R2,_,he1,f1.trans f2,k1.trans k2,s2,ht2,hm2,fun hf=>by rw[hd2 hf,hd1 hf]⟩
   ·rename_i hne
    refine wpIn_mono (ihj x ax t1 h1 o t' h' R1 w1 a1 D0 m n ro he1 hok s1 (hfr.right f1) (k1.wf hw) ht1 hm1 (Nat.le_trans hmw f1.size) (har.fwd f1 k1)) ?_
    rintro e a2 w2 ⟨hp,hd⟩
    have hon:o≠.norm:=by rintro rfl;exact absurd he1 (hne t' h')
    have hen:e≠.normal:=by obtain⟨_,_,hx,_⟩:=hp;exact hx.pass hon
    cases e<;>first|exact absurd rfl hen|exact⟨hp.step f1,fun hf=>by rw[hd hf,hd1 hf]⟩
 |exit i=>
  intro ac t h o t' h' R w a D0 m n ro he hok hs hfr hw ht hm hmw har
  cases ac<;>try exact (Bool.false_ne_true hok).elim
  rename_i j
  have hok:Nat.beq i j=true:=hok
  rw[Nat.beq_eq]at hok
  subst hok
  simp only[zaP,RC.ok.injEq]at he
  obtain⟨rfl,rfl,rfl⟩:=he
  exact wpIn_exit ⟨.here rfl hs ht hm,fun _=>rfl⟩
 |ret=>
  intro ac t h o t' h' R w a D0 m n ro he hok hs hfr hw ht hm hmw har
  cases ac<;>try exact (Bool.false_ne_true hok).elim
  simp only[zaP,RC.ok.injEq]at he
  obtain⟨rfl,rfl,rfl⟩:=he
  exact wpIn_ret ⟨.here rfl hs ht hm,fun _=>rfl⟩
 |rangeFunc g ps x y _ _=>
  intro ac t h o t' h' R w a D0 m n ro he hok hs hfr hw ht hm hmw har
  cases ac<;>try exact (Bool.false_ne_true hok).elim
  rename_i f qs ax ay
  have hok:(okX g f&&decide (ps.toList=qs)&&okC P x ax&&okC P y ay)=true:=hok
  simp only[Bool.and_eq_true,decide_eq_true_eq]at hok
  obtain⟨⟨⟨h1,h2⟩,h3⟩,h4⟩:=hok
  exact zpy ih (fun j hj=>hcall j (by omega)) htbl he h1 h2 h3 h4 hs hfr hw ht hm hmw har
 |_=>
  intro ac t h o t' h' R w a D0 m n ro he hok
  cases ac<;>exact (Bool.false_ne_true hok).elim
theorem snd (htbl:∀k fi,tbl k=some fi→FnOk P tbl k fi) (hdraw:∀call,zcy P call→zhd call→znb P call):∀k j,j≤k→Snd P (E tbl j)
 |_,0,_=>fun c ac t h o t' h' R w a D0 m n ro he=>by simp[E]at he
 |0,j+1,hj=>by omega
 |k+1,j+1,hj=>step_snd (fun i hi=>snd htbl hdraw k i (by omega)) htbl hdraw
end
end Go.Air
namespace Go.Air
section
variable {t t':List V}
theorem zag {x:X} (h:∀n∈xT x,nth t n=nth t' n):x.ev t=x.ev t':=by
 cases x<;>simp only[X.ev]
 exact h _ (by simp[xT])
theorem zeS {xs:List X} (h:∀n∈xs.flatMap xT,nth t n=nth t' n):xs.map (X.ev t)=xs.map (X.ev t'):=by
 apply List.map_congr_left
 intro x hx
 exact zag fun n hn=>h n (List.mem_flatMap.2 ⟨x,hx,hn⟩)
theorem zhp:∀{ps:List (Nat × Nat × X)} {z:List V},(∀n∈ps.flatMap (fun p=>xT p.2.2),nth t n=nth t' n)→fill t z ps=fill t' z ps
 |[],_,_=>rfl
 |(off,sz,x)::ps,z,h=>by
  have hx:x.ev t=x.ev t':=zag fun n hn=>h n (by simp[hn])
  have ih:∀z,fill t z ps=fill t' z ps:=fun z=>zhp fun n hn=>h n (by simp only[List.flatMap_cons,List.mem_append];exact .inr hn)
  simp only[fill,hx,ih]
theorem zdx {len cap:Nat} {lo hi:Option X} (h1:∀n∈xoT lo,nth t n=nth t' n) (h2:∀n∈xoT hi,nth t n=nth t' n):zbr t len cap lo hi=zbr t' len cap lo hi:=by
 cases lo<;>cases hi<;>simp only[zbr]
 ·rw[zag h2]
 ·rw[zag h1]
 ·rw[zag h1,zag h2]
theorem zkM {esz:Nat} {lo hi:Option X} {v:V} (h1:∀n∈xoT lo,nth t n=nth t' n) (h2:∀n∈xoT hi,nth t n=nth t' n):zck esz t lo hi v=zck esz t' lo hi v:=by
 cases v<;>simp only[zck,zdx h1 h2]
theorem zjT {esz:Nat} {lo hi:Option X} {m:X} {v:V} (h1:∀n∈xoT lo,nth t n=nth t' n) (h2:∀n∈xoT hi,nth t n=nth t' n) (h3:∀n∈xT m,nth t n=nth t' n) :
 zfV esz t lo hi m v=zfV esz t' lo hi m v:=by
 cases v<;>simp only[zfV,zdx h1 h2,zag h3]
theorem zqL {call:V→List V→H→RO} {op:A} {h:H} (hu:∀n∈uses op,nth t n=nth t' n):evA call op t h=evA call op t' h:=by
 cases op<;>simp only[uses,List.mem_append]at hu<;>simp only[evA]
 case mov x=>rw[zag hu]
 case pick a b c=>rw[zag (x:=a) fun n hn=>hu n (.inl (.inl hn)),zag (x:=b) fun n hn=>hu n (.inl (.inr hn)),zag (x:=c) fun n hn=>hu n (.inr hn)]
 case box x=>rw[zag hu]
 case build z ps=>rw[zhp hu]
 case buildSl z n ps=>rw[zhp hu]
 case ld x=>rw[zag hu]
 case ldn n x=>rw[zag hu]
 case st n a b=>rw[zag (x:=a) fun n hn=>hu n (.inl hn),zag (x:=b) fun n hn=>hu n (.inr hn)]
 case nilck x=>rw[zag hu]
 case bin o a b=>rw[zag (x:=a) fun n hn=>hu n (.inl hn),zag (x:=b) fun n hn=>hu n (.inr hn)]
 case eqv o k a b=>rw[zag (x:=a) fun n hn=>hu n (.inl hn),zag (x:=b) fun n hn=>hu n (.inr hn)]
 case un o x=>rw[zag hu]
 case conv o x=>rw[zag hu]
 case mkI o x=>rw[zag hu]
 case mkFn f a c=>rw[zeS (xs:=a) fun n hn=>hu n (.inl hn),zeS (xs:=c) fun n hn=>hu n (.inr hn)]
 case mkSl z n a b=>rw[zag (x:=a) fun n hn=>hu n (.inl hn),zag (x:=b) fun n hn=>hu n (.inr hn)]
 case slc e x a b c=>
  have h1:∀n∈xT x,nth t n=nth t' n:=fun n hn=>hu n (.inl (.inl (.inl hn)))
  have h2:∀n∈xoT a,nth t n=nth t' n:=fun n hn=>hu n (.inl (.inl (.inr hn)))
  have h3:∀n∈xoT b,nth t n=nth t' n:=fun n hn=>hu n (.inl (.inr hn))
  have h4:∀n∈xoT c,nth t n=nth t' n:=fun n hn=>hu n (.inr hn)
  cases c with
  |none=>simp only;rw[zag h1,zkM h2 h3]
  |some m=>simp only;rw[zag h1,zjT h2 h3 h4]
 case slcA n e x a b=>rw[zag (x:=x) fun n hn=>hu n (.inl (.inl hn)),zdx (fun n hn=>hu n (.inl (.inr hn))) fun n hn=>hu n (.inr hn)]
 case slcS x a b=>
  rw[zag (x:=x) fun n hn=>hu n (.inl (.inl hn))]
  split
  ·rw[zdx (fun n hn=>hu n (.inl (.inr hn))) fun n hn=>hu n (.inr hn)]
  ·rfl
 case fld o x=>rw[zag hu]
 case fldv o s x=>rw[zag hu]
 case ixS e a b=>rw[zag (x:=a) fun n hn=>hu n (.inl hn),zag (x:=b) fun n hn=>hu n (.inr hn)]
 case ixA m e a b=>rw[zag (x:=a) fun n hn=>hu n (.inl hn),zag (x:=b) fun n hn=>hu n (.inr hn)]
 case ixStr a b=>rw[zag (x:=a) fun n hn=>hu n (.inl hn),zag (x:=b) fun n hn=>hu n (.inr hn)]
 case ixV m e g a b=>rw[zag (x:=a) fun n hn=>hu n (.inl hn),zag (x:=b) fun n hn=>hu n (.inr hn)]
 case look k z o a b=>rw[zag (x:=a) fun n hn=>hu n (.inl hn),zag (x:=b) fun n hn=>hu n (.inr hn)]
 case mapSet k a b c=>rw[zag (x:=a) fun n hn=>hu n (.inl (.inl hn)),zag (x:=b) fun n hn=>hu n (.inl (.inr hn)),zag (x:=c) fun n hn=>hu n (.inr hn)]
 case ext x n=>rw[zag hu]
 case call f xs=>rw[zag (x:=f) fun n hn=>hu n (.inl hn),zeS (xs:=xs) fun n hn=>hu n (.inr hn)]
 case lenS x=>rw[zag hu]
 case lenL x=>rw[zag hu]
 case lenM x=>rw[zag hu]
 case app e b x y=>rw[zag (x:=x) fun n hn=>hu n (.inl hn),zag (x:=y) fun n hn=>hu n (.inr hn)]
 case cpy e x y=>rw[zag (x:=x) fun n hn=>hu n (.inl hn),zag (x:=y) fun n hn=>hu n (.inr hn)]
 case clr z x=>rw[zag hu]
 case min xs=>rw[zeS hu]
 case max xs=>rw[zeS hu]
 case panic x=>rw[zag hu]
 case tassert k z o x=>rw[zag hu]
 case s2b x=>rw[zag hu]
 case b2s x=>rw[zag hu]
 case mark x=>rw[zag hu]
theorem zmw {op:A} (hu:∀n∈uses op,nth t n=nth t' n):reads op t=reads op t':=by
 cases op<;>simp only[uses,List.mem_append]at hu<;>simp only[reads]
 case ld x=>rw[zag hu]
 case ldn n x=>rw[zag hu]
 case st n a b=>rw[zag (x:=a) fun n hn=>hu n (.inl hn)]
 case look k z o a b=>rw[zag (x:=a) fun n hn=>hu n (.inl hn)]
 case mapSet k a b c=>rw[zag (x:=a) fun n hn=>hu n (.inl (.inl hn))]
 case lenM x=>rw[zag hu]
 case b2s x=>rw[zag hu]
 case mark x=>rw[zag hu]
theorem zmf {g:Option (Nat × Bool)} (hu:∀n∈(match g with|some (n,_)=>[n]|none=>[]),nth t n=nth t' n):zcp g t=zcp g t':=by
 cases g with
 |none=>rfl
 |some p=>simp only[zcp];rw[hu p.1 (by simp)]
end
theorem zlX {op:A} {t:List V} (h:cls op≠.writes):∃r,reads op t=some r∧(cls op=.idle→r=[]):=by
 cases op<;>first|(exact absurd rfl h)|exact⟨_,rfl,fun _=>rfl⟩|exact⟨_,rfl,fun e=>by cases e⟩
theorem zqZ {call:V→List V→H→RO} {op:A} {t:List V} {h h':H} {v:V} (hc:cls op≠.writes) (he:evA call op t h=.ok v h'):h'.log=h.log:=by
 have pure':∀(o:Option V),RO.ofV h o=.ok v h'→h'.log=h.log:=fun o ho=>by rw[(zdL ho).2]
 have here:∀u,RO.ok u h=.ok v h'→h'.log=h.log:=fun u hu=>by simp at hu;rw[← hu.2]
 have fresh:∀u x,RO.ok u (h.new x)=.ok v h'→h'.log=h.log:=fun u x hu=>by simp at hu;rw[← hu.2];rfl
 cases op<;>try exact absurd rfl hc
 all_goals simp only[evA]at he
 case mov=>exact here _ he
 case pick=>split at he<;>first|exact here _ he|simp at he
 case alloc=>exact fresh _ _ he
 case box=>exact fresh _ _ he
 case build=>split at he<;>first|exact here _ he|simp at he
 case buildSl=>split at he<;>first|exact fresh _ _ he|simp at he
 case ld=>split at he<;>try simp at he
          split at he<;>try simp at he
          exact pure' _ he
 case ldn=>split at he<;>try simp at he
           split at he<;>try simp at he
           split at he<;>first|exact here _ he|simp at he
 case nilck=>split at he<;>first|exact here _ he|simp at he
 case bin=>exact pure' _ he
 case eqv=>split at he<;>first|exact here _ he|simp at he
 case un=>exact pure' _ he
 case conv=>split at he<;>first|exact here _ he|simp at he
 case mkI=>exact here _ he
 case mkFn=>exact here _ he
 case mkMap=>exact fresh _ _ he
 case mkSl=>split at he<;>try simp at he
            split at he<;>first|exact fresh _ _ he|simp at he
 case slc=>split at he<;>exact pure' _ he
 case slcA=>split at he<;>try simp at he
            split at he<;>first|exact here _ he|simp at he
 case slcS=>split at he<;>try simp at he
            split at he<;>first|exact here _ he|simp at he
 case fld=>split at he<;>first|exact here _ he|simp at he
 case fldv=>split at he<;>try simp at he
            split at he<;>first|exact pure' _ he|(split at he<;>first|exact here _ he|simp at he)
 case ixS=>split at he<;>try simp at he
           split at he<;>first|exact here _ he|simp at he
 case ixA=>split at he<;>try simp at he
           split at he<;>first|exact here _ he|simp at he
 case ixStr=>split at he<;>try simp at he
             split at he<;>first|exact here _ he|simp at he
 case ixV=>split at he<;>try simp at he
           split at he<;>try simp at he
           split at he<;>first|exact pure' _ he|(split at he<;>first|exact here _ he|simp at he)
 case look=>split at he<;>try simp at he
            split at he<;>first|exact here _ he|simp at he
 case ext=>split at he<;>first|exact pure' _ he|simp at he
 case lenS=>split at he<;>first|exact here _ he|simp at he
 case lenL=>split at he<;>first|exact here _ he|simp at he
 case lenC=>exact here _ he
 case lenM=>split at he<;>try simp only[reduceCtorEq]at he
            ·exact here _ he
            ·split at he<;>first|exact here _ he|simp at he
 case min=>exact pure' _ he
 case max=>exact pure' _ he
 case panic=>split at he<;>simp at he
 case tassert=>
  split at he<;>try simp at he
  ·split at he<;>first|exact here _ he|simp at he
  ·split at he
   ·exact here _ he
   ·split at he<;>first|exact here _ he|simp at he
 case s2b=>split at he<;>first|exact fresh _ _ he|simp at he
 case b2s=>exact pure' _ he
 case no=>simp at he
structure At (call:V→List V→H→RO) (o:O) (t:List V) (h:H) (t':List V) (h':H) (ft:Foot):Prop where
 nx:h.next≤h'.next
 wf:WF h→WF h'
 log:h'.log=ft.wr++h.log
 same:∀b,b<h.next→b ∉ ft.wr→h'.get b=h.get b
 had:∀b∈ft.wr,b<h.next∧∃y,h.get b=some y
 sub:∀r,ft.rd=some r→∀b∈ft.wr,b∈r
 idle:cls o.op=.idle→ft=⟨some [],[]⟩
 rds:cls o.op≠.writes→ft.wr=[]∧∃r,ft.rd=some r
 run:(zcp o.g t=true∧∃v hh,evA call o.op t ⟨h.next,h.mem,[]⟩=.ok v hh∧t'=putD t o.dst v∧h'=⟨hh.next,hh.mem,ft.wr++h.log⟩∧ft.rd=reads o.op t∧ft.wr=zaD h.next hh.log∧(WF h→WF hh)) ∨
  (zcp o.g t=false∧t'=putD t o.dst .undef∧h'=h∧ft=⟨some [],[]⟩)
def Chain (call:V→List V→H→RO):List O→List Foot→List V→H→List V→H→Prop
 |[],[],t,h,t',h'=>t=t'∧h=h'
 |o::l,ft::fs,t,h,t',h'=>∃t1 h1,At call o t h t1 h1 ft∧Chain call l fs t1 h1 t' h'
 |_,_,_,_,_,_=>False
theorem zkx {call:V→List V→H→RO} (hk:zhd call):∀(l:List O) (t:List V) (h:H) (f:List Foot) (t':List V) (h':H) (f':List Foot),
 zbu call l t h f=.ok t' h' f'→∃fs,f'=f++fs∧Chain call l fs t h t' h'
 |[],t,h,f,t',h',f',he=>by
  simp[zbu]at he
  exact⟨[],by simp[he.2.2],he.1,he.2.1⟩
 |o::l,t,h,f,t',h',f',he=>by
  simp only[zbu]at he
  split at he
  ·rename_i hwt
   split at he<;>try simp at he
   rename_i v hh hev
   obtain⟨fs,q1,q2⟩:=zkx hk l _ _ _ _ _ _ he
   obtain⟨k,hsub⟩:=zfk hk hev
   obtain⟨w,w1,w2,w3⟩:=k.wr
   simp only[List.append_nil]at w1
   subst w1
   refine⟨_::fs,by rw[q1,List.append_assoc];rfl,_,⟨hh.next,hh.mem,zaD h.next hh.log++h.log⟩,⟨k.nx,?_,rfl,?_,?_,?_,?_,?_,.inl ⟨hwt,v,hh,hev,rfl,rfl,rfl,rfl,fun hw=>k.wf ⟨hw.1,fun _ hb=>by simp at hb⟩⟩⟩,q2⟩
   ·intro hw
    refine⟨(k.wf ⟨hw.1,fun _ hb=>by simp at hb⟩).1,fun b hb => ?_⟩
    rcases List.mem_append.1 hb with hb|hb
    ·exact Nat.lt_of_lt_of_le (zbb hb).1 k.nx
    ·exact Nat.lt_of_lt_of_le (hw.2 b hb) k.nx
   ·exact fun b hb hl=>w2 b hb (fun hm=>hl (zda hb hm))
   ·exact fun b hb=>⟨(zbb hb).1,w3 b (zbb hb).2 (zbb hb).1⟩
   ·intro r hr b hb
    obtain⟨l',e1,e2⟩:=hsub r hr
    simp only[List.append_nil]at e1
    exact e2 b (e1▸(zbb hb).2)
   ·intro hc
    obtain⟨r,r1,r2⟩:=zlX (op:=o.op) (t:=t) (by rw[hc];simp)
    have:=zqZ (by rw[hc];simp) hev
    simp only at this
    rw[this,r1,r2 hc]
    rfl
   ·intro hc
    obtain⟨r,r1,_⟩:=zlX (op:=o.op) (t:=t) hc
    have:=zqZ hc hev
    simp only at this
    exact⟨by rw[this];rfl,r,r1⟩
  ·rename_i hwt
   obtain⟨fs,q1,q2⟩:=zkx hk l _ _ _ _ _ _ he
   refine⟨_::fs,by rw[q1,List.append_assoc];rfl,_,_,⟨Nat.le_refl _,id,rfl,fun _ _ _=>rfl,fun _ hb=>by simp at hb,fun _ _ _ hb=>by simp at hb,fun _=>rfl,fun _=>⟨rfl,_,rfl⟩,.inr ⟨hwt,rfl,rfl,rfl⟩⟩,q2⟩
theorem Chain.states {call:V→List V→H→RO}:∀{l:List O} {fs:List Foot} {t t':List V} {h h':H},Chain call l fs t h t' h' →
 fs.length=l.length∧∃(T:Nat→List V) (S:Nat→H),T 0=t∧S 0=h∧T l.length=t'∧S l.length=h' ∧
  ∀i o ft,l[i]? = some o→fs[i]? = some ft→At call o (T i) (S i) (T (i+1)) (S (i+1)) ft
 |[],[],t,t',h,h',hc=>⟨rfl,fun _=>t,fun _=>h,rfl,rfl,hc.1,hc.2,fun i o ft hi=>by simp at hi⟩
 |[],_::_,_,_,_,_,hc=>hc.elim
 |_::_,[],_,_,_,_,hc=>hc.elim
 |o::l,ft::fs,t,t',h,h',⟨t1,h1,ha,hc⟩=>by
  obtain⟨e,T,S,q1,q2,q3,q4,q5⟩:=hc.states
  refine⟨by simp[e],fun i=>match i with|0=>t|i+1=>T i,fun i=>match i with|0=>h|i+1=>S i,rfl,rfl,q3,q4,?_⟩
  intro i o' ft' hi hf
  cases i with
  |zero=>
   simp at hi hf
   subst hi hf
   simp only[q1,q2]
   exact ha
  |succ i=>exact q5 i o' ft' (by simpa using hi) (by simpa using hf)
end Go.Air
namespace Go.Air
def Mem (f g:Foot):Prop:=∀b∈f.wr,(∀r,g.rd=some r→b ∉ r)∧g.rd≠none∧b ∉ g.wr
structure Ind (a b:O) (f g:Foot):Prop where
 d1:∀d,a.dst=some d→d ∉ zkJ b∧b.dst≠some d
 d2:∀d,b.dst=some d→d ∉ zkJ a
 m1:Mem f g
 m2:Mem g f
theorem zim {t:List V} {d:Option Nat} {v:V}:(putD t d v).length=t.length:=by
 cases d<;>simp[putD,zja]
theorem zns {t:List V} {d:Option Nat} {v:V} {x:Nat} (h:d≠some x):nth (putD t d v) x=nth t x:=by
 cases d with
 |none=>rfl
 |some d=>
  have:d≠x:=fun e=>h (by rw[e])
  simp only[putD,zja,zgN,List.getD_eq_getElem?_getD,List.getElem?_set_ne this]
theorem zkd {t t':List V} {v:V} {x:Nat} (h:t.length=t'.length):nth (putD t (some x) v) x=nth (putD t' (some x) v) x:=by
 simp only[putD,zja,zgN,List.getD_eq_getElem?_getD,List.getElem?_set,h]
 by_cases hl:x<t'.length
 ·simp[hl]
 ·simp[hl]
section
open Classical
variable {P:Program} {call:V→List V→H→RO} (N:Nat) (o:Nat→O) (ft:Nat→Foot) (T:Nat→List V) (S:Nat→H)
def zdA (i b:Nat):Prop:=b∈(ft i).wr∨((S i).next≤b∧b<(S (i+1)).next)
noncomputable def ver (D:Nat→Prop) (b:Nat):Nat→Option Blk
 |0=>(S 0).get b
 |n+1=>if D n∧zdA ft S n b then (S (n+1)).get b else ver D b n
noncomputable def vt (D:Nat→Prop) (x:Nat):Nat→V
 |0=>nth (T 0) x
 |n+1=>if D n∧(o n).dst=some x then nth (T (n+1)) x else vt D x n
structure Run (call:V→List V→H→RO) (pr:Nat→Nat→Prop):Prop where
 at':∀i,i<N→At call (o i) (T i) (S i) (T (i+1)) (S (i+1)) (ft i)
 ind:∀i j,i<j→j<N→¬ pr i j→Ind (o i) (o j) (ft i) (ft j)
 wf:WF (S 0)
variable {N o ft T S}
variable {pr:Nat→Nat→Prop} {D D':Nat→Prop} {i j n m b x:Nat}
theorem Run.nx (hr:Run N o ft T S call pr):∀(j i:Nat),i≤j→j≤N→(S i).next≤(S j).next
 |0,i,h1,_=>by rw[Nat.le_zero.1 h1];exact Nat.le_refl _
 |j+1,i,h1,h2=>by
  rcases Nat.lt_or_ge j i with h|h
  ·rw[show i=j+1 by omega];exact Nat.le_refl _
  ·exact Nat.le_trans (hr.nx j i h (by omega)) (hr.at' j (by omega)).nx
theorem Run.wfs (hr:Run N o ft T S call pr):∀(i:Nat),i≤N→WF (S i)
 |0,_=>hr.wf
 |i+1,h=>(hr.at' i (by omega)).wf (hr.wfs i (by omega))
theorem Run.len (hr:Run N o ft T S call pr):∀(i:Nat),i≤N→(T i).length=(T 0).length
 |0,_=>rfl
 |i+1,h=>by
  have a:=(hr.at' i (by omega)).run
  rw[← hr.len i (by omega)]
  rcases a with⟨_,v,hh,_,e,_⟩|⟨_,e,_⟩<;>rw[e,zim]
theorem Run.same (hr:Run N o ft T S call pr) (hi:i<N) (ht:¬ zdA ft S i b):(S (i+1)).get b=(S i).get b:=by
 have a:=hr.at' i hi
 rw[zdA,not_or]at ht
 by_cases hb:b<(S i).next
 ·exact a.same b hb ht.1
 ·rw[(hr.wfs i (by omega)).1 b (by omega),(hr.wfs (i+1) (by omega)).1 b (Nat.le_of_not_lt fun h=>ht.2 ⟨by omega,h⟩)]
theorem Run.sameT (hr:Run N o ft T S call pr) (hi:i<N) (ht:(o i).dst≠some x):nth (T (i+1)) x=nth (T i) x:=by
 rcases (hr.at' i hi).run with⟨_,v,hh,_,e,_⟩|⟨_,e,_⟩<;>rw[e,zns ht]
theorem zjM (hr:Run N o ft T S call pr):∀(n:Nat),n≤N→(∀j,j<n→zdA ft S j b→D j)→ver ft S D b n=(S n).get b
 |0,_,_=>rfl
 |n+1,hn,h=>by
  rw[ver]
  split
  ·rfl
  ·rename_i hno
   have ht:¬ zdA ft S n b:=fun ht=>hno ⟨h n (by omega) ht,ht⟩
   rw[zjM hr n (by omega) (fun j hj=>h j (by omega)),hr.same (by omega) ht]
theorem zmg (hr:Run N o ft T S call pr):∀(n:Nat),n≤N→(∀j,j<n→(o j).dst=some x→D j)→vt o T D x n=nth (T n) x
 |0,_,_=>rfl
 |n+1,hn,h=>by
  rw[vt]
  split
  ·rfl
  ·rename_i hno
   have ht:(o n).dst≠some x:=fun ht=>hno ⟨h n (by omega) ht,ht⟩
   rw[zmg hr n (by omega) (fun j hj=>h j (by omega)),hr.sameT (by omega) ht]
theorem zjN (n:Nat):∀(m:Nat),n≤m→(∀j,n≤j→j<m→¬ (D j∧zdA ft S j b))→ver ft S D b m=ver ft S D b n
 |0,h,_=>by rw[Nat.le_zero.1 h]
 |m+1,h,hno=>by
  rcases Nat.lt_or_ge m n with hl|hl
  ·rw[show n=m+1 by omega]
  ·rw[ver,if_neg (hno m hl (by omega))]
   exact zjN n m hl fun j h1 h2=>hno j h1 (by omega)
theorem zmh (n:Nat):∀(m:Nat),n≤m→(∀j,n≤j→j<m→¬ (D j∧(o j).dst=some x))→vt o T D x m=vt o T D x n
 |0,h,_=>by rw[Nat.le_zero.1 h]
 |m+1,h,hno=>by
  rcases Nat.lt_or_ge m n with hl|hl
  ·rw[show n=m+1 by omega]
  ·rw[vt,if_neg (hno m hl (by omega))]
   exact zmh n m hl fun j h1 h2=>hno j h1 (by omega)
theorem ver_hit (hi:D i) (ht:zdA ft S i b) (him:i<m) (hno:∀j,i<j→j<m→¬ (D j∧zdA ft S j b)):ver ft S D b m=(S (i+1)).get b:=by
 rw[zjN (i+1) m him (fun j h1 h2=>hno j h1 h2),ver,if_pos ⟨hi,ht⟩]
theorem vt_hit (hi:D i) (ht:(o i).dst=some x) (him:i<m) (hno:∀j,i<j→j<m→¬ (D j∧(o j).dst=some x)):vt o T D x m=nth (T (i+1)) x:=by
 rw[zmh (i+1) m him (fun j h1 h2=>hno j h1 h2),vt,if_pos ⟨hi,ht⟩]
theorem zjO:∀(m:Nat),(∀j,j<m→zdA ft S j b→(D j↔D' j))→ver ft S D b m=ver ft S D' b m
 |0,_=>rfl
 |m+1,h=>by
  rw[ver,ver,zjO m fun j hj=>h j (by omega)]
  by_cases ht:zdA ft S m b
  ·simp only[h m (by omega) ht]
  ·simp[ht]
theorem zoZ:∀(m:Nat),(∀j,j<m→(o j).dst=some x→(D j↔D' j))→vt o T D x m=vt o T D' x m
 |0,_=>rfl
 |m+1,h=>by
  rw[vt,vt,zoZ m fun j hj=>h j (by omega)]
  by_cases ht:(o m).dst=some x
  ·simp only[h m (by omega) ht]
  ·simp[ht]
def born (S:Nat→H) (i b:Nat):Prop:=(S i).next≤b∧b<(S (i+1)).next
theorem znU (hr:Run N o ft T S call pr) (hi:i<N) (hj:j<N) (h1:born S i b) (h2:born S j b):i=j:=by
 rcases Nat.lt_trichotomy i j with h|h|h
 ·have:=hr.nx j (i+1) h (by omega)
  have:=h1.2;have:=h2.1;omega
 ·exact h
 ·have:=hr.nx i (j+1) h (by omega)
  have:=h1.1;have:=h2.2;omega
structure Inv (P:Program) (N:Nat) (o:Nat→O) (ft:Nat→Foot) (T:Nat→List V) (S:Nat→H) (mk:List Deferred × Nat) (R0:Emb) (w0:World) (D:Nat→Prop) (R:Emb) (w:World) (a:Act):Prop where
 sub:∀j,D j→j<N
 tm:∃th,zae R th=some a.tmps.toList∧th.length=(T 0).length∧∀x,nth th x=vt o T D x N
 sim:Sim P allB R (fun b=>ver ft S D b N) w
 brn:∀b x,R b=some x→b<(S 0).next∨(S N).next≤b∨∃j,D j∧born S j b
 own:∀j,D j→∀b∈(ft j).wr,∃x,R b=some x
 le:R0.le R
 size:w0.heap.size≤w.heap.size
 new:∀b c sz,R b=some (c,sz)→R0 b=some (c,sz)∨((S 0).next≤b∧b<(S N).next∧(w0.heap.size≤c∨∃b0 sz0,R0 b0=some (c,sz0)∧∃j,j<N∧b0∈(ft j).wr))
 frame:∀c,c<w0.heap.size→(∀b sz,R0 b=some (c,sz)→¬ ∃j,j<N∧b∈(ft j).wr)→w.heap[c]? = w0.heap[c]?
 marks:MarksOn mk.1 mk.2 R w a.defers
 io:SameIO w0 w
variable {mk:List Deferred × Nat} {R0 R R':Emb} {w0 w w':World} {a:Act}
structure Nxt (N:Nat) (pr:Nat→Nat→Prop) (D:Nat→Prop) (i:Nat):Prop where
 lt:i<N
 not:¬ D i
 pre:∀p,pr p i→D p
 cl:∀j p,D j→pr p j→D p
 sub:∀j,D j→j<N
theorem Nxt.before (hn:Nxt N pr D i) (hr:Run N o ft T S call pr) (hj:j<i) (hD:¬ D j):Ind (o j) (o i) (ft j) (ft i):=hr.ind j i hj hn.lt fun hp=>hD (hn.pre j hp)
theorem Nxt.after (hn:Nxt N pr D i) (hr:Run N o ft T S call pr) (hj:i<j) (hjN:j<N) (hD:D j):Ind (o i) (o j) (ft i) (ft j):=hr.ind i j hj hjN fun hp=>hn.not (hn.cl j i hD hp)
theorem Nxt.tmp (hn:Nxt N pr D i) (hr:Run N o ft T S call pr) (hx:x∈zkJ (o i)):vt o T D x N=nth (T i) x:=by
 have hi:=hn.lt
 rw[zmh i N (by omega),zmg hr i (by omega)]
 ·intro j hj hd
  exact Classical.byContradiction fun hD=>((hn.before hr hj hD).d1 x hd).1 hx
 ·rintro j h1 h2 ⟨hD,hd⟩
  rcases Nat.eq_or_lt_of_le h1 with rfl|h1
  ·exact hn.not hD
  ·exact (hn.after hr h1 h2 hD).d2 x hd hx
theorem Nxt.blk (hn:Nxt N pr D i) (hr:Run N o ft T S call pr) (hborn:∀y,R b=some y→b<(S 0).next∨(S N).next≤b∨∃j,D j∧born S j b) {y:Nat × Nat} (hR:R b=some y)
 (hF:∀r,(ft i).rd=some r→b∈r) (hb:b<(S i).next):ver ft S D b N=(S i).get b:=by
 have hi:=hn.lt
 rw[zjN i N (by omega),zjM hr i (by omega)]
 ·rintro j hj (ht|ht)
  ·refine Classical.byContradiction fun hD => ?_
   obtain⟨q1,q2,_⟩:=(hn.before hr hj hD).m1 b ht
   cases hrd:(ft i).rd with
   |none=>exact q2 hrd
   |some r=>exact q1 r hrd (hF r hrd)
  ·rcases hborn y hR with h|h|⟨j',hD,hj'⟩
   ·have:=hr.nx j 0 (by omega) (by omega)
    have:=ht.1;omega
   ·have:=hr.nx N (j+1) (by omega) (by omega)
    have:=ht.2;omega
   ·rw[znU hr (by omega) (hn.sub j' hD) ht hj'];exact hD
 ·rintro j h1 h2 ⟨hD,ht⟩
  rcases Nat.eq_or_lt_of_le h1 with rfl|h1
  ·exact hn.not hD
  ·rcases ht with ht|ht
   ·obtain⟨q1,q2,_⟩:=(hn.after hr h1 h2 hD).m2 b ht
    cases hrd:(ft i).rd with
    |none=>exact q2 hrd
    |some r=>exact q1 r hrd (hF r hrd)
   ·have:=hr.nx j i (by omega) (by omega)
    have:=ht.1;omega
end
end Go.Air
namespace Go.Air
section
open Classical
variable {P:Program} {call:V→List V→H→RO} {N:Nat} {o:Nat→O} {ft:Nat→Foot} {T:Nat→List V} {S:Nat→H}
variable {pr:Nat→Nat→Prop} {D:Nat→Prop} {i j n m b x:Nat} {mk:List Deferred × Nat} {R0 R R':Emb} {w0 w w':World} {a:Act}
def more (D:Nat→Prop) (i:Nat):Nat→Prop:=fun j=>D j∨j=i
theorem zhU (h:j≠i):more D i j↔D j:=⟨fun q=>q.resolve_right h,.inl⟩
theorem zpf (hr:Run N o ft T S call pr) (hn:Nxt N pr D i) {th:List V} {v:V} (hlen:th.length=(T 0).length) (hth:∀x,nth th x=vt o T D x N) (hT:T (i+1)=putD (T i) (o i).dst v) :
 (putD th (o i).dst v).length=(T 0).length∧∀x,nth (putD th (o i).dst v) x=vt o T (more D i) x N:=by
 refine⟨by rw[zim];exact hlen,fun x => ?_⟩
 have hi:=hn.lt
 by_cases hx:(o i).dst=some x
 ·rw[vt_hit (i:=i) (D:=more D i) (.inr rfl) hx hi,hT,hx]
  ·exact zkd (by rw[hlen,hr.len i (by omega)])
  ·rintro j h1 h2 ⟨hD,hd⟩
   have hD':D j:=hD.resolve_right (by omega)
   exact ((hn.after hr h1 h2 hD').d1 x hx).2 hd
 ·rw[zns hx,hth,zoZ]
  intro j hj hd
  exact (zhU (by rintro rfl;exact hx hd)).symm
theorem Inv.skip (hr:Run N o ft T S call pr) (hn:Nxt N pr D i) (I:Inv P N o ft T S mk R0 w0 D R w a) {dst:Option Tmp} (hd:zlc dst (o i).dst=true) (hwt:zcp (o i).g (T i)=false) :
 Inv P N o ft T S mk R0 w0 (more D i) R w (a.put dst undef):=by
 have hi:=hn.lt
 obtain⟨hT,hS,hf⟩:T (i+1)=putD (T i) (o i).dst .undef∧S (i+1)=S i∧ft i=⟨some [],[]⟩:=by
  rcases (hr.at' i hi).run with⟨h1,_⟩|⟨_,h⟩
  ·rw[hwt]at h1;cases h1
  ·exact h
 have hno:∀b,¬ zdA ft S i b:=by
  rintro b (h|h)
  ·rw[hf]at h;simp at h
  ·rw[hS]at h;omega
 have hver:(fun b=>ver ft S (more D i) b N)=fun b=>ver ft S D b N:=by
  funext b
  refine zjO N fun j _ ht=>zhU ?_
  rintro rfl
  exact hno b ht
 obtain⟨th,h1,h2,h3⟩:=I.tm
 refine⟨?_,⟨_,zdr hd h1 (zbk R),zpf hr hn h2 h3 hT⟩,by rw[hver];exact I.sim,?_,?_,I.le,I.size,I.new,I.frame,by rw[zaL];exact I.marks,I.io⟩
 ·rintro j (h|rfl)
  ·exact I.sub j h
  ·exact hi
 ·intro b y hb
  rcases I.brn b y hb with h|h|⟨j,h,h'⟩
  ·exact .inl h
  ·exact .inr (.inl h)
  ·exact .inr (.inr ⟨j,.inl h,h'⟩)
 ·rintro j (h|rfl) b hb
  ·exact I.own j h b hb
  ·rw[hf]at hb;simp at hb
def zqm (ft:Nat→Foot) (S:Nat→H) (i:Nat):Nat→Prop:=fun b=>∀r,(ft i).rd=some r→b∈r∨(S i).next≤b
theorem Inv.sim_at (hr:Run N o ft T S call pr) (hn:Nxt N pr D i) (I:Inv P N o ft T S mk R0 w0 D R w a):Sim P (zqm ft S i) R (S i).get w:=by
 have key:∀b c sz y,zqm ft S i b→R b=some (c,sz)→(S i).get b=some y→ver ft S D b N=some y:=by
  intro b c sz y hF hR hy
  have hlt:=(hr.wfs i (by have:=hn.lt;omega)).lt hy
  rw[hn.blk hr (I.brn b) hR (fun r hrd=>(hF r hrd).resolve_right (by omega)) hlt]
  exact hy
 exact⟨fun b c sz y hF hR hy=>I.sim.blk b c sz y trivial hR (key b c sz y hF hR hy),
  fun b b' c sz sz' y y' hF hF' hR hR' hy hy'=>I.sim.inj b b' c sz sz' y y' trivial trivial hR hR' (key b c sz y hF hR hy) (key b' c sz' y' hF' hR' hy'),I.sim.lt,I.sim.fix⟩
theorem Inv.fresh (hr:Run N o ft T S call pr) (hn:Nxt N pr D i) (I:Inv P N o ft T S mk R0 w0 D R w a) (hb:born S i b):R b=none:=by
 have hi:=hn.lt
 cases hR:R b with
 |none=>rfl
 |some y=>
  exfalso
  rcases I.brn b y hR with h|h|⟨j,h,h'⟩
  ·have:=hr.nx i 0 (by omega) (by omega)
   have:=hb.1;omega
  ·have:=hr.nx N (i+1) (by omega) (by omega)
   have:=hb.2;omega
  ·rw[← znU hr hi (I.sub j h) hb h']at h
   exact hn.not h
theorem Inv.done (hr:Run N o ft T S call pr) (hn:Nxt N pr D i) (I:Inv P N o ft T S mk R0 w0 D R w a) {dst:Option Tmp} {v:V} {hh:H} {u:Value} {th:List V} (hd:zlc dst (o i).dst=true)
 (hth1:zae R th=some a.tmps.toList) (hth2:th.length=(T 0).length) (hth3:∀x,nth th x=vt o T D x N)
 (hT:T (i+1)=putD (T i) (o i).dst v) (hS:S (i+1)=⟨hh.next,hh.mem,(ft i).wr++(S i).log⟩) (hwr:(ft i).wr=zaD (S i).next hh.log) (hwfh:WF hh)
 (hp:PostV P (zqm ft S i) R ⟨(S i).next,(S i).mem,[]⟩ w v hh u w'):∃R',Inv P N o ft T S mk R0 w0 (more D i) R' w' (a.put dst u):=by
 have hi:=hn.lt
 obtain⟨R',l,f,s,hu⟩:=hp
 have hll:l=hh.log:=by have:=f.log;simpa using this.symm
 subst hll
 have hnext:(S (i+1)).next=hh.next:=by rw[hS]
 have hget:∀b,(S (i+1)).get b=hh.get b:=by intro b;rw[hS];rfl
 have hnewR:∀b c sz,R' b=some (c,sz)→R b=some (c,sz)∨(born S i b∧(w.heap.size≤c∨∃b0 sz0,R b0=some (c,sz0)∧b0∈hh.log)):=by
  intro b c sz hb
  rcases f.new b c sz hb with h|⟨h1,h2,h3⟩
  ·exact .inl h
  ·exact .inr ⟨⟨h1,by rw[hnext];exact h2⟩,h3⟩
 have hwrit:∀b y,R b=some y→b∈hh.log→b∈(ft i).wr∧∃z,ver ft S D b N=some z:=by
  intro b y hR hb
  have hlt:=hwfh.2 b hb
  have hltS:b<(S i).next:=by
   rcases Nat.lt_or_ge b (S i).next with h|h
   ·exact h
   ·have:=I.fresh hr hn (b:=b) ⟨h,by rw[hnext];exact hlt⟩
    rw[this]at hR;cases hR
  have hin:b∈(ft i).wr:=by rw[hwr];exact zda hltS hb
  obtain⟨_,z,hz⟩:=(hr.at' i hi).had b hin
  refine⟨hin,z,?_⟩
  rw[hn.blk hr (I.brn b) hR (fun r hrd=>(hr.at' i hi).sub r hrd b hin) hltS]
  exact hz
 have hwrR:∀b∈(ft i).wr,∃y,R b=some y:=by
  intro b hb
  rw[hwr]at hb
  have hlt:=(zbb hb).1
  rcases f.own b (zbb hb).2 with h|h
  ·exact absurd h.1 (by simp;exact hlt)
  ·exact h.1
 have hvtouch:∀b,zdA ft S i b→ver ft S (more D i) b N=hh.get b:=by
  intro b ht
  rw[ver_hit (i:=i) (D:=more D i) (.inr rfl) ht hi,hget]
  rintro j h1 h2 ⟨hD,htj⟩
  have hD':D j:=hD.resolve_right (by omega)
  have hni:=hr.nx j (i+1) (by omega) (by omega)
  rcases htj with htj|htj
  ·rcases ht with ht|ht
   ·exact ((hn.after hr h1 h2 hD').m1 b ht).2.2 htj
   ·obtain⟨y,hy⟩:=I.own j hD' b htj
    rw[I.fresh hr hn ht]at hy;cases hy
  ·rcases ht with ht|ht
   ·rw[hwr]at ht
    have:=(zbb ht).1
    have:=htj.1
    have:=(hr.at' i hi).nx
    omega
   ·have:=ht.2;have:=htj.1;omega
 have hvoff:∀b,¬ zdA ft S i b→ver ft S (more D i) b N=ver ft S D b N:=by
  intro b ht
  refine zjO N fun j _ htj=>zhU ?_
  rintro rfl
  exact ht htj
 have hFt:∀b,zdA ft S i b→zqm ft S i b:=by
  rintro b (h|h) r hrd
  ·exact .inl ((hr.at' i hi).sub r hrd b h)
  ·exact .inr h.1
 have hold:∀b c sz,¬ zdA ft S i b→R' b=some (c,sz)→R b=some (c,sz):=by
  intro b c sz ht hb
  rcases hnewR b c sz hb with h|⟨h,_⟩
  ·exact h
  ·exact absurd (.inr h) ht
 have hmix:∀b1 b2 c s1 s2 z1 z2,zdA ft S i b1→¬ zdA ft S i b2→R' b1=some (c,s1)→R' b2=some (c,s2)→ver ft S (more D i) b1 N=some z1→ver ft S (more D i) b2 N=some z2→False:=by
  intro b1 b2 c s1 s2 z1 z2 h1 h2 r1 r2 v1 v2
  have r2':=hold b2 c s2 h2 r2
  rw[hvoff b2 h2]at v2
  rcases hnewR b1 c s1 r1 with h|⟨hb,h|⟨b0,s0,h,h'⟩⟩
  ·rcases h1 with h1|h1
   ·obtain⟨y,hy⟩:=hwrit b1 _ h (by rw[hwr]at h1;exact (zbb h1).2)
    obtain⟨z,hz⟩:=hy
    have:=I.sim.inj b1 b2 c s1 s2 z z2 trivial trivial h r2' hz v2
    subst this
    exact h2 (.inl y)
   ·rw[I.fresh hr hn h1]at h;cases h
  ·have:=I.sim.lt b2 c s2 r2'
   omega
  ·obtain⟨y,z,hz⟩:=hwrit b0 _ h h'
   have:=I.sim.inj b0 b2 c s0 s2 z z2 trivial trivial h r2' hz v2
   subst this
   exact h2 (.inl y)
 have hLL:∀b,b∈(ft i).wr→∃j,j<N∧b∈(ft j).wr:=fun b hb=>⟨i,hi,hb⟩
 refine⟨R',⟨?_,⟨_,zdr hd (zav f.le _ _ hth1) hu,zpf hr hn hth2 hth3 hT⟩,⟨?_,?_,s.lt,s.fix⟩,?_,?_,Emb.le_trans I.le f.le,Nat.le_trans I.size f.size,?_,?_,by rw[zaL];exact I.marks.fwd f,I.io.trans f.io⟩⟩
 ·rintro j (h|rfl)
  ·exact I.sub j h
  ·exact hi
 ·intro b c sz y _ hb hy
  by_cases ht:zdA ft S i b
  ·rw[hvtouch b ht]at hy
   exact s.blk b c sz y (hFt b ht) hb hy
  ·have hb':=hold b c sz ht hb
   have hy':=hy
   rw[hvoff b ht]at hy'
   refine (I.sim.blk b c sz y trivial hb' hy').mono P f.le (f.frame c (I.sim.lt b c sz hb') ?_)
   intro b' sz' hb1 hb2
   obtain⟨h1,z,h2⟩:=hwrit b' _ hb1 hb2
   have:=I.sim.inj b b' c sz sz' y z trivial trivial hb' hb1 hy' h2
   subst this
   exact ht (.inl h1)
 ·intro b1 b2 c s1 s2 z1 z2 _ _ r1 r2 v1 v2
  by_cases h1:zdA ft S i b1
  ·by_cases h2:zdA ft S i b2
   ·simp only[hvtouch b1 h1]at v1
    simp only[hvtouch b2 h2]at v2
    exact s.inj b1 b2 c s1 s2 z1 z2 (hFt b1 h1) (hFt b2 h2) r1 r2 v1 v2
   ·exact (hmix b1 b2 c s1 s2 z1 z2 h1 h2 r1 r2 v1 v2).elim
  ·by_cases h2:zdA ft S i b2
   ·exact (hmix b2 b1 c s2 s1 z2 z1 h2 h1 r2 r1 v2 v1).elim
   ·simp only[hvoff b1 h1]at v1
    simp only[hvoff b2 h2]at v2
    exact I.sim.inj b1 b2 c s1 s2 z1 z2 trivial trivial (hold b1 c s1 h1 r1) (hold b2 c s2 h2 r2) v1 v2
 ·intro b y hb
  obtain⟨c,sz⟩:=y
  rcases hnewR b c sz hb with h|⟨h,_⟩
  ·rcases I.brn b _ h with h|h|⟨j,h,h'⟩
   ·exact .inl h
   ·exact .inr (.inl h)
   ·exact .inr (.inr ⟨j,.inl h,h'⟩)
  ·exact .inr (.inr ⟨i,.inr rfl,h⟩)
 ·rintro j (h|rfl) b hb
  ·obtain⟨y,hy⟩:=I.own j h b hb
   exact⟨y,f.le _ _ hy⟩
  ·obtain⟨y,hy⟩:=hwrR b hb
   exact⟨y,f.le _ _ hy⟩
 ·intro b c sz hb
  rcases hnewR b c sz hb with h|⟨h,h'⟩
  ·exact I.new b c sz h
  ·refine .inr ⟨Nat.le_trans (hr.nx i 0 (by omega) (by omega)) h.1,Nat.lt_of_lt_of_le h.2 (hr.nx N (i+1) (by omega) (by omega)),?_⟩
   rcases h' with h'|⟨b0,s0,h1,h2⟩
   ·exact .inl (Nat.le_trans I.size h')
   ·rcases I.new b0 c s0 h1 with h3|⟨_,_,h3⟩
    ·exact .inr ⟨b0,s0,h3,hLL b0 (hwrit b0 _ h1 h2).1⟩
    ·exact h3
 ·intro c hc hno
  rw[f.frame c (Nat.lt_of_lt_of_le hc I.size) ?_,I.frame c hc hno]
  intro b sz hb hbl
  rcases I.new b c sz hb with h|⟨_,_,h|⟨b0,s0,h1,h2⟩⟩
  ·exact hno b sz h (hLL b (hwrit b _ hb hbl).1)
  ·omega
  ·exact hno b0 s0 h1 h2
end
end Go.Air
namespace Go.Air
inductive Prec (ops:Array Oper):Nat→Nat→Prop
 |one {j:Nat} {o:Oper} {e:Edge}:ops[j]? = some o→e∈o.after.toList→Region.binds .any e=true→Prec ops e.on j
 |more {i j:Nat} {o:Oper} {e:Edge}:ops[j]? = some o→e∈o.after.toList→Region.binds .any e=true→Prec ops i e.on→Prec ops i j
theorem zjC (acc:List Nat) (i:Nat):∀(l:List Edge) (s:Nat),(l.foldl (fun s e=>if Region.binds .any e then s ||| 2^e.on ||| acc.getD e.on 0 else s) s).testBit i=true →
 s.testBit i=true∨∃e∈l,Region.binds .any e=true∧(i=e.on∨(acc.getD e.on 0).testBit i=true)
 |[],s,h=>.inl h
 |e::l,s,h=>by
  simp only[List.foldl_cons]at h
  rcases zjC acc i l _ h with h|⟨e',h1,h2⟩
  ·split at h
   ·rename_i hb
    simp only[Nat.testBit_or,Bool.or_eq_true,Nat.testBit_two_pow,decide_eq_true_eq]at h
    rcases h with (h|h)|h
    ·exact .inl h
    ·exact .inr ⟨e,by simp,hb,.inl h.symm⟩
    ·exact .inr ⟨e,by simp,hb,.inr h⟩
   ·exact .inl h
  ·exact .inr ⟨e',by simp[h1],h2⟩
theorem zjB {ops:Array Oper}:∀(L pre:List Oper) (acc:List Nat),ops.toList=pre++L→acc.length=pre.length→(∀j i,(acc.getD j 0).testBit i=true→Prec ops i j) →
 ∀j i,((L.foldl (fun acc o=>acc++[o.after.toList.foldl (fun s e=>if Region.binds .any e then s ||| 2^e.on ||| acc.getD e.on 0 else s) 0]) acc).getD j 0).testBit i=true→Prec ops i j
 |[],_,_,_,_,h=>h
 |o::L,pre,acc,he,hl,h=>by
  simp only[List.foldl_cons]
  refine zjB L (pre++[o]) _ (by simp[he]) (by simp[hl]) ?_
  intro j i hb
  rcases Nat.lt_trichotomy j acc.length with hj|hj|hj
  ·refine h j i ?_
   rw[List.getD_eq_getElem?_getD,List.getElem?_append_left hj]at hb
   rw[List.getD_eq_getElem?_getD];exact hb
  ·subst hj
   rw[List.getD_eq_getElem?_getD,List.getElem?_append_right (Nat.le_refl _)]at hb
   simp only[Nat.sub_self,List.getElem?_cons_zero,Option.getD_some]at hb
   have ho:ops[acc.length]? = some o:=by
    rw[← Array.getElem?_toList,he,hl,List.getElem?_append_right (Nat.le_refl _)]
    simp
   rcases zjC acc i _ _ hb with hb|⟨e,h1,h2,h3|h3⟩
   ·simp at hb
   ·rw[h3];exact .one ho h1 h2
   ·exact .more ho h1 h2 (h _ _ h3)
  ·rw[List.getD_eq_getElem?_getD,List.getElem?_eq_none (by simp;omega)]at hb
   simp at hb
theorem zrc {ops:Array Oper} {i j:Nat} (h:((zjD ops).getD j 0).testBit i=true):Prec ops i j:=
 zjB ops.toList [] [] (by simp) rfl (by intro j i h;simp at h) j i h
theorem zji:∀(L:List Oper) (k:Nat),zkb k L=true→∀j o,L[j]? = some o→∀e∈o.after.toList,Region.binds .any e=true→e.on<k+j
 |[],_,_,_,_,h,_,_,_=>by simp at h
 |o::L,k,h,j,o',ho,e,he,hb=>by
  simp only[zkb,Bool.and_eq_true,List.all_eq_true]at h
  cases j with
  |zero=>
   simp at ho
   subst ho
   have:=h.1 e he
   simp only[hb,Bool.not_true,Bool.false_or,Nat.blt_eq]at this
   omega
  |succ j=>
   have:=zji L (k+1) h.2 j o' (by simpa using ho) e he hb
   omega
theorem zlb {P:Program} {ops:Array Oper}:∀{L:List Oper} {l:List O},zec P ops L l=true→L.length=l.length∧∀(i:Nat) (x:Oper),L[i]? = some x→∃y,l[i]? = some y∧okO P ops x y=true
 |[],[],_=>⟨rfl,fun i x h=>by simp at h⟩
 |[],_::_,h=>by simp[zec]at h
 |_::_,[],h=>by simp[zec]at h
 |a::L,b::l,h=>by
  simp only[zec,Bool.and_eq_true]at h
  obtain⟨e,q⟩:=zlb h.2
  refine⟨by simp[e],fun i x hx => ?_⟩
  cases i with
  |zero=>simp at hx;subst hx;exact⟨b,by simp,h.1⟩
  |succ i=>simpa using q i x (by simpa using hx)
theorem zqk (m:Region.Mode) (ops:Array Oper):∀(fuel t:Nat) (listed:Array Bool) (acc:List Nat),Region.linearise.go m ops fuel t listed acc=acc.reverse++Region.linearise.go m ops fuel t listed []
 |0,t,listed,acc=>by simp[Region.linearise.go]
 |fuel+1,t,listed,acc=>by
  simp only[Region.linearise.go]
  split
  ·rename_i i _
   rw[zqk m ops fuel _ _ (i::acc),zqk m ops fuel _ _ [i]]
   simp
  ·simp
def unl (N:Nat) (listed:Array Bool):List Nat:=(List.range N).filter fun i => !listed.getD i true
theorem unl_less {N i:Nat} {listed:Array Bool} (hi:i<N) (hs:listed.size=N) (hl:listed.getD i true=false):(unl N (listed.setIfInBounds i true)).length<(unl N listed).length:=by
 have e:unl N (listed.setIfInBounds i true)=(unl N listed).filter fun j=>j != i:=by
  unfold unl
  rw[List.filter_filter]
  apply List.filter_congr
  intro j _
  by_cases hj:j=i
  ·subst hj
   simp[Array.getD_eq_getD_getElem?,hs,hi]
  ·have:(listed.setIfInBounds i true).getD j true=listed.getD j true:=by
    simp only[Array.getD_eq_getD_getElem?]
    rw[Array.getElem?_setIfInBounds_ne (Ne.symm hj)]
   rw[this]
   simp[hj]
 rw[e]
 exact List.length_filter_lt_length_iff_exists.2 ⟨i,by simp only[unl,List.mem_filter,List.mem_range];exact⟨hi,by rw[hl];rfl⟩,by simp⟩
section
open Classical
variable {P:Program} {call:V→List V→H→RO} {N:Nat} {o:Nat→O} {ft:Nat→Foot} {T:Nat→List V} {S:Nat→H}
variable {D:Nat→Prop} {i j n b x:Nat} {mk:List Deferred × Nat} {R0 R R':Emb} {w0 w w':World} {a:Act}
theorem zno {ops:Array Oper} {ro:Option Nat} {Q:Exit→Act→World→Prop} (hc:zcy P call) (hr:Run N o ft T S call (Prec ops)) (hN:ops.size=N)
 (hok:∀i x,ops[i]? = some x→okO P ops x (o i)=true) (hedge:∀j x,ops[j]? = some x→∀e∈x.after.toList,Region.binds .any e=true→e.on<j)
 (hQ:∀D R w a,(∀j,j<N→D j)→Inv P N o ft T S mk R0 w0 D R w a→Q .normal a w) :
 ∀(fuel t:Nat) (listed:Array Bool) (D:Nat→Prop) (R:Emb) (w:World) (a:Act),listed.size=N→(∀j,j<N→(listed.getD j true=true↔D j))→(unl N listed).length≤fuel →
  (∀j p,D j→Prec ops p j→D p)→Inv P N o ft T S mk R0 w0 D R w a→wpOpsIn (Wd ro) n P ops Q (Region.linearise.go .any ops fuel t listed []) a w
 |0,t,listed,D,R,w,a,hs,hl,hu,hcl,I=>by
  simp only[Region.linearise.go,List.reverse_nil,wpOpsIn]
  refine hQ D R w a (fun j hj => ?_) I
  rw[← hl j hj]
  refine Classical.byContradiction fun hne => ?_
  have:j∈unl N listed:=by
   simp only[unl,List.mem_filter,List.mem_range]
   exact⟨hj,by simpa using hne⟩
  have:=List.length_pos_of_mem this
  omega
 |fuel+1,t,listed,D,R,w,a,hs,hl,hu,hcl,I=>by
  simp only[Region.linearise.go]
  split
  ·rename_i i hi
   have hmem:=List.mem_of_getElem? hi
   simp only[List.mem_filter,List.mem_range,Bool.and_eq_true,Bool.not_eq_true']at hmem
   obtain⟨hiN,hli,hrdy⟩:=hmem
   rw[hN]at hiN
   rw[zqk]
   simp only[List.reverse_cons,List.reverse_nil,List.nil_append,List.singleton_append]
   cases hop:ops[i]? with
   |none=>rw[hop]at hrdy;simp at hrdy
   |some x=>
    rw[hop]at hrdy
    simp only[Option.map_some,Option.getD_some,Array.all_eq_true']at hrdy
    have hdir:∀e∈x.after.toList,Region.binds .any e=true→D e.on:=by
     intro e he hb
     have h1:=hrdy e (by simpa using he)
     simp only[hb,Bool.not_true,Bool.false_or]at h1
     have hlt:e.on<N:=by have:=hedge i x hop e he hb;omega
     rw[← hl e.on hlt]
     rw[Array.getD_eq_getD_getElem?]at h1 ⊢
     cases hq:listed[e.on]? with
     |none=>rfl
     |some v=>rw[hq]at h1;exact h1
    have hnot:¬ D i:=by
     rw[← hl i hiN,hli];simp
    have hn:Nxt N (Prec ops) D i:=by
     refine⟨hiN,hnot,?_,hcl,I.sub⟩
     intro p hp
     cases hp with
     |one h1 h2 h3=>
      rw[hop]at h1;cases h1
      exact hdir _ h2 h3
     |more h1 h2 h3 h4=>
      rw[hop]at h1;cases h1
      exact hcl _ _ (hdir _ h2 h3) h4
    have hcl':∀j p,more D i j→Prec ops p j→more D i p:=by
     rintro j p (h|rfl) hp
     ·exact .inl (hcl j p h hp)
     ·exact .inl (hn.pre p hp)
    have next:∀R w a,Inv P N o ft T S mk R0 w0 (more D i) R w a →
     wpOpsIn (Wd ro) n P ops Q (Region.linearise.go .any ops fuel (t/((List.range ops.size).filter fun i => !listed.getD i true&&((ops[i]?).map (·.after.all fun e => !Region.binds .any e||listed.getD e.on false)).getD false).length) (listed.setIfInBounds i true) []) a w:=by
     intro R w a I'
     refine zno hc hr hN hok hedge hQ fuel _ _ (more D i) R w a (by simpa using hs) ?_ ?_ hcl' I'
     ·intro j hj
      by_cases hji:j=i
      ·subst hji
       simp[more,Array.getD_eq_getD_getElem?,hs,hj]
      ·rw[zhU hji,← hl j hj]
       simp only[Array.getD_eq_getD_getElem?]
       rw[Array.getElem?_setIfInBounds_ne (Ne.symm hji)]
     ·have:=unl_less hiN hs hli
      omega
    have hoi:=hok i x hop
    simp only[okO,Bool.and_eq_true]at hoi
    obtain⟨⟨hdst,hg⟩,hopa⟩:=hoi
    obtain⟨th,h1,h2,h3⟩:=I.tm
    have huse:∀y∈zkJ (o i),nth th y=nth (T i) y:=fun y hy=>by rw[h3 y,hn.tmp hr hy]
    have hw:zcp (o i).g th=zcp (o i).g (T i):=zmf fun y hy=>huse y (by
     unfold zkJ
     exact List.mem_append.2 (.inr hy))
    have huo:∀y∈uses (o i).op,nth th y=nth (T i) y:=fun y hy=>huse y (by
     unfold zkJ
     exact List.mem_append.2 (.inl hy))
    simp only[wpOpsIn,hop]
    rw[zfa hg h1,hw]
    cases hwt:zcp (o i).g (T i) with
    |false=>
     simp only[Bool.false_eq_true,if_false]
     exact⟨fun _ _=>trivial,next R w _ (I.skip hr hn hdst hwt)⟩
    |true=>
     simp only[if_true]
     rcases (hr.at' i hiN).run with⟨_,v,hh,hev,hT,hS,hrd,hwr,hwfh0⟩|⟨hwf,_⟩
     ·have hwfi:WF ⟨(S i).next,(S i).mem,[]⟩:=⟨(hr.wfs i (by omega)).1,fun _ hb=>by simp at hb⟩
      have hev':evA call (o i).op th ⟨(S i).next,(S i).mem,[]⟩=.ok v hh:=by rw[zqL huo];exact hev
      refine op_wp hc hopa (zcN h1) (h:=⟨(S i).next,(S i).mem,[]⟩) (F:=zqm ft S i) (I.sim_at hr hn) ?_ ?_ hwfi hev' RO.gives_ok ?_ (fun v' x w' hv _=>by cases hv)
      ·rw[zmw huo,← hrd]
       cases hq:(ft i).rd with
       |none=>intro b r hr';rw[hq]at hr';cases hr'
       |some r=>
        intro b hb r' hr'
        rw[hq]at hr'
        cases hr'
        exact .inl hb
      ·intro b hb1 hb2
       exact I.fresh hr hn ⟨hb1,by rw[hS];exact hb2⟩
      ·intro v' u w' hv hp
       simp only[RO.ok.injEq]at hv
       obtain⟨rfl,_⟩:=hv
       have hwfh:WF hh:=hwfh0 (hr.wfs i (by omega))
       obtain⟨R',I'⟩:=I.done hr hn hdst h1 h2 h3 hT hS hwr hwfh hp
       exact next R' w' _ I'
     ·rw[hwt]at hwf;cases hwf
  ·
   rename_i hno
   simp only[List.reverse_nil,wpOpsIn]
   refine hQ D R w a (fun j hj => ?_) I
   rw[← hl j hj]
   induction j using Nat.strongRecOn with
   |_ j ih=>
    refine Classical.byContradiction fun hne => ?_
    have hop:ops[j]? = some (ops[j]'(by omega)):=by simp[hN,hj]
    have hin:j∈(List.range ops.size).filter fun i => !listed.getD i true&&((ops[i]?).map (·.after.all fun e => !Region.binds .any e||listed.getD e.on false)).getD false:=by
     simp only[List.mem_filter,List.mem_range,Bool.and_eq_true,Bool.not_eq_true']
     refine⟨by omega,by simpa using hne,?_⟩
     rw[hop]
     simp only[Option.map_some,Option.getD_some,Array.all_eq_true']
     intro e he
     cases hb:Region.binds .any e with
     |false=>rfl
     |true=>
      have hlt:=hedge j _ hop e (by simpa using he) hb
      have:=ih e.on hlt (by omega)
      simp only[Bool.not_true,Bool.false_or]
      rw[Array.getD_eq_getD_getElem?]at this ⊢
      rw[Array.getElem?_eq_getElem (by omega)]at this ⊢
      exact this
    have hpos:=List.length_pos_of_mem hin
    rw[List.getElem?_eq_none_iff]at hno
    have:=Nat.mod_lt t hpos
    omega
end
end Go.Air
namespace Go.Air
section
open Classical
variable {P:Program} {call:V→List V→H→RO} {N:Nat} {o:Nat→O} {ft:Nat→Foot} {T:Nat→List V} {S:Nat→H} {pr:Nat→Nat→Prop}
variable {D:Nat→Prop} {mk:List Deferred × Nat} {R0 R:Emb} {w0 w:World} {a:Act}
theorem zhA:∀{a b:List V},a.length=b.length→(∀x,nth a x=nth b x)→a=b
 |[],[],_,_=>rfl
 |[],_::_,h,_=>by simp at h
 |_::_,[],h,_=>by simp at h
 |x::a,y::b,h,hx=>by
  have h0:x=y:=hx 0
  rw[h0,zhA (by simpa using h) fun n=>hx (n+1)]
theorem Run.logs (hr:Run N o ft T S call pr):∀(n:Nat),n≤N→∃L,(S n).log=L++(S 0).log∧∀b,b∈L↔∃j,j<n∧b∈(ft j).wr
 |0,_=>⟨[],rfl,fun b=>by simp⟩
 |n+1,hn=>by
  obtain⟨L,h1,h2⟩:=hr.logs n (by omega)
  refine⟨(ft n).wr++L,by rw[(hr.at' n (by omega)).log,h1,List.append_assoc],fun b => ?_⟩
  rw[List.mem_append,h2 b]
  constructor
  ·rintro (h|⟨j,hj,h⟩)
   ·exact⟨n,by omega,h⟩
   ·exact⟨j,by omega,h⟩
  ·rintro⟨j,hj,h⟩
   rcases Nat.eq_or_lt_of_le (Nat.le_of_lt_succ hj) with rfl|hj
   ·exact .inl h
   ·exact .inr ⟨j,hj,h⟩
theorem Run.kept (hr:Run N o ft T S call pr) {b:Nat} (hb:b<(S 0).next):∀(n:Nat),n≤N→(∀j,j<n→b ∉ (ft j).wr)→(S n).get b=(S 0).get b
 |0,_,_=>rfl
 |n+1,hn,h=>by
  rw[(hr.at' n (by omega)).same b (Nat.lt_of_lt_of_le hb (hr.nx n 0 (by omega) (by omega))) (h n (by omega))]
  exact hr.kept hb n (by omega) fun j hj=>h j (by omega)
theorem Run.lived (hr:Run N o ft T S call pr) {b:Nat} (hb:b<(S 0).next):∀(n:Nat),n≤N→(∃y,(S n).get b=some y)→∃y,(S 0).get b=some y
 |0,_,h=>h
 |n+1,hn,⟨y,hy⟩=>by
  refine hr.lived hb n (by omega) ?_
  by_cases h:b∈(ft n).wr
  ·exact ((hr.at' n (by omega)).had b h).2
  ·rw[(hr.at' n (by omega)).same b (Nat.lt_of_lt_of_le hb (hr.nx n 0 (by omega) (by omega))) h]at hy
   exact⟨y,hy⟩
theorem Inv.fin (hr:Run N o ft T S call pr) (hall:∀j,j<N→D j) (I:Inv P N o ft T S mk R0 w0 D R w a):PostA P mk.1 mk.2 R0 (S 0) w0 (T N) (S N) a w:=by
 obtain⟨L,h1,h2⟩:=hr.logs N (Nat.le_refl _)
 obtain⟨th,q1,q2,q3⟩:=I.tm
 have hth:th=T N:=by
  refine zhA (by rw[q2,hr.len N (Nat.le_refl _)]) fun x => ?_
  rw[q3,zmg hr N (Nat.le_refl _) fun j hj _=>hall j hj]
 have hv:(fun b=>ver ft S D b N)=(S N).get:=by
  funext b
  exact zjM hr N (Nat.le_refl _) fun j hj _=>hall j hj
 refine⟨R,L,rfl,⟨I.le,h1,hr.nx N 0 (Nat.zero_le _) (Nat.le_refl _),I.size,?_,?_,?_,?_,I.io⟩,hv▸I.sim,hth▸q1,I.marks⟩
 ·intro b c sz hb
  rcases I.new b c sz hb with h|⟨p1,p2,p3|⟨b0,s0,p3,p4⟩⟩
  ·exact .inl h
  ·exact .inr ⟨p1,p2,.inl p3⟩
  ·exact .inr ⟨p1,p2,.inr ⟨b0,s0,p3,(h2 b0).2 p4⟩⟩
 ·intro b hb hl
  exact hr.kept hb N (Nat.le_refl _) fun j hj hm=>hl ((h2 b).2 ⟨j,hj,hm⟩)
 ·intro c hc hno
  exact I.frame c hc fun b sz hb hm=>hno b sz hb ((h2 b).2 hm)
 ·intro b hb
  obtain⟨j,hj,hm⟩:=(h2 b).1 hb
  obtain⟨⟨c,sz⟩,hy⟩:=I.own j (hall j hj) b hm
  rcases I.new b c sz hy with h|⟨p1,p2,_⟩
  ·exact .inr ⟨⟨_,h⟩,fun hlt=>hr.lived hlt j (by omega) ((hr.at' j hj).had b hm).2⟩
  ·exact .inl ⟨p1,p2⟩
theorem zrg {f g:Foot} (h:zfM f g=true):Mem f g∧Mem g f:=by
 simp only[zfM,Bool.and_eq_true,List.all_eq_true,Bool.not_eq_true',List.contains_eq_mem,decide_eq_false_iff_not]at h
 obtain⟨⟨h1,h2⟩,h3⟩:=h
 constructor
 ·intro b hb
  refine⟨fun r hr => ?_,fun hr => ?_,h3 b hb⟩
  ·rw[hr]at h1
   simp only[List.all_eq_true,Bool.not_eq_true',decide_eq_false_iff_not]at h1
   exact h1 b hb
  ·rw[hr]at h1
   simp only[List.isEmpty_iff]at h1
   rw[h1]at hb;simp at hb
 ·intro b hb
  refine⟨fun r hr => ?_,fun hr => ?_,fun hb'=>h3 b hb' hb⟩
  ·rw[hr]at h2
   simp only[List.all_eq_true,Bool.not_eq_true',decide_eq_false_iff_not]at h2
   exact h2 b hb
  ·rw[hr]at h2
   simp only[List.isEmpty_iff]at h2
   rw[h2]at hb;simp at hb
theorem draw_snd (hmix:P.follows .mixedOrders=true) (call:V→List V→H→RO) (hc:zcy P call) (hk:zhd call):znb P call:=by
 intro ops l crit t h t' h' f R w a D0 m n ro Q order hok hdr hrun hcrit hs hfr hw ht hm hQ
 obtain⟨fs,hfs,hch⟩:=zkx hk l t h [] t' h' f hrun
 simp only[List.nil_append]at hfs
 subst hfs
 obtain⟨hlen,T,S,e1,e2,e3,e4,hat⟩:=hch.states
 obtain⟨hol,hoget⟩:=zlb hok
 have hN:ops.size=l.length:=by simpa using hol
 let o:Nat→O:=fun i=>l.getD i default
 let ft:Nat→Foot:=fun i=>f.getD i ⟨none,[]⟩
 have ho:∀i,i<l.length→l[i]? = some (o i):=fun i hi=>by simp[o,List.getD_eq_getElem?_getD,hi]
 have hf:∀i,i<l.length→f[i]? = some (ft i):=fun i hi=>by
  have:i<f.length:=by omega
  simp[ft,List.getD_eq_getElem?_getD,this]
 simp only[znq,Bool.and_eq_true]at hdr
 obtain⟨hed,hpairs⟩:=hdr
 have hat':∀i,i<l.length→At call (o i) (T i) (S i) (T (i+1)) (S (i+1)) (ft i):=fun i hi=>hat i _ _ (ho i hi) (hf i hi)
 have hr:Run l.length o ft T S call (Prec ops):=by
  refine⟨hat',?_,by rw[e2];exact hw⟩
  intro i j hij hj hnp
  simp only[zpK,List.all_eq_true,List.mem_range]at hpairs
  have hp:=hpairs j hj i hij
  rw[Bool.or_eq_true]at hp
  have hp:=hp.resolve_left fun hb=>hnp (zrc hb)
  rw[ho i (by omega),ho j hj]at hp
  simp only[free,Bool.and_eq_true,Bool.not_eq_true',Bool.or_eq_true]at hp
  obtain⟨⟨hd1,hd2⟩,hmem⟩:=hp
  have hmm:Mem (ft i) (ft j)∧Mem (ft j) (ft i):=by
   rcases hmem with hseen|hcls
   ·rw[List.any_eq_true]at hseen
    obtain⟨⟨p,q⟩,hpq,hpe⟩:=hseen
    simp only[Bool.and_eq_true,Nat.beq_eq]at hpe
    obtain⟨rfl,rfl⟩:=hpe
    simp only[zbX,List.all_eq_true]at hcrit
    have:=hcrit (p,q) hpq
    simp only[hf p (by omega),hf q hj]at this
    exact zrg this
   ·have idle:∀x y,x<l.length→cls (o x).op=.idle→Mem (ft x) (ft y)∧Mem (ft y) (ft x):=by
     intro x y hx hcl
     have:=(hat' x hx).idle hcl
     rw[this]
     refine⟨fun b hb=>by simp at hb,fun b hb=>⟨fun r hr => ?_,by simp,by simp⟩⟩
     simp at hr
     subst hr
     simp
    cases hci:cls (o i).op with
    |idle=>exact idle i j (by omega) hci
    |reads=>
     cases hcj:cls (o j).op with
     |idle=>exact (idle j i hj hcj).symm
     |reads=>
      obtain⟨w1,_⟩:=(hat' i (by omega)).rds (by rw[hci];simp)
      obtain⟨w2,_⟩:=(hat' j hj).rds (by rw[hcj];simp)
      exact⟨fun b hb=>by rw[w1]at hb;simp at hb,fun b hb=>by rw[w2]at hb;simp at hb⟩
     |writes=>rw[hci,hcj]at hcls;simp at hcls
    |writes=>
     cases hcj:cls (o j).op with
     |idle=>exact (idle j i hj hcj).symm
     |reads=>rw[hci,hcj]at hcls;simp at hcls
     |writes=>rw[hci,hcj]at hcls;simp at hcls
  refine⟨fun d hd => ?_,fun d hd => ?_,hmm.1,hmm.2⟩
  ·rw[hd]at hd1
   simp only[zjP,List.contains_eq_mem,List.mem_append,decide_eq_false_iff_not,not_or]at hd1
   refine⟨hd1.1,fun he => ?_⟩
   rw[he]at hd1
   simp at hd1
  ·rw[hd]at hd2
   simpa [zjP] using hd2
 have hsch:Region.schedule (P.follows .mixedOrders) ops order=Region.linearise .any ops order:=by simp[Region.schedule,hmix]
 rw[hsch]
 unfold Region.linearise
 have I:Inv P l.length o ft T S (D0,m) R w (fun _=>False) R w a:=by
  have hv:∀(D:Nat→Prop) b n,(∀j,¬ D j)→ver ft S D b n=(S 0).get b:=by
   intro D b n hD
   induction n with
   |zero=>rfl
   |succ n ih=>rw[ver,if_neg (fun h=>hD n h.1),ih]
  have ht':∀(D:Nat→Prop) x n,(∀j,¬ D j)→vt o T D x n=nth (T 0) x:=by
   intro D x n hD
   induction n with
   |zero=>rfl
   |succ n ih=>rw[vt,if_neg (fun h=>hD n h.1),ih]
  refine⟨fun _ h=>h.elim,⟨t,ht,by rw[e1],fun x=>by rw[ht' _ x _ (fun _ h=>h),e1]⟩,?_,?_,fun _ h=>h.elim,Emb.le_refl R,Nat.le_refl _,fun _ _ _ h=>.inl h,fun _ _ _=>rfl,hm,.refl w⟩
  ·have:(fun b=>ver ft S (fun _=>False) b l.length)=h.get:=by
    funext b
    rw[hv _ b _ (fun _ h=>h),e2]
   rw[this];exact hs
  ·intro b y hb
   rcases Nat.lt_or_ge b (S 0).next with h1|h1
   ·exact .inl h1
   ·rcases Nat.lt_or_ge b (S l.length).next with h2|h2
    ·rw[hfr b (by rw[← e2];exact h1) (by rw[← e4];exact h2)]at hb;cases hb
    ·exact .inr (.inl h2)
 refine zno hc hr hN ?_ ?_ ?_ ops.size order _ (fun _=>False) R w a (by simp[hN]) ?_ ?_ (fun _ _ h=>h.elim) I
 ·intro i x hx
  obtain⟨y,h1,h2⟩:=hoget i x (by simpa using hx)
  have hi:i<l.length:=(List.getElem?_eq_some_iff.1 h1).1
  rw[ho i hi]at h1
  cases h1
  exact h2
 ·intro j x hx e he hb
  have:=zji ops.toList 0 hed j x (by simpa using hx) e he hb
  omega
 ·intro D R' w' a' hall I'
  have:=I'.fin hr hall
  rw[e2,e3,e4]at this
  exact hQ a' w' this
 ·intro j hj
  have:(Array.replicate ops.size false).getD j true=false:=by simp[Array.getD_eq_getD_getElem?,hN,hj]
  rw[this]
  simp
 ·have h1:(unl l.length (Array.replicate ops.size false)).length≤(List.range l.length).length:=List.length_filter_le _ _
  simp at h1
  omega
end
theorem air_fn {P:Program} {tbl:Tb} (hmix:P.follows .mixedOrders=true) (htbl:∀k fi,tbl k=some fi→FnOk P tbl k fi) {k g:Nat} {args:List V} {vs:List Value} {R:Emb} {h h':H} {w:World} {v:V}
 (hx:tbl.ext g=false) (he:zaS tbl (E tbl k) (.fn g [] []) args h=.ok v h') (hs:Sim P allB R h.get w) (hfr:Fresh R h h') (hw:WF h) (hv:zae R args=some vs) :
 (callFunc g vs.toArray).run P w=.ok (.enter g vs.toArray) w∧∀ro n,CallsIn (Wd ro) n P g vs.toArray w (zes P allB R h w (.ok v h')):=by
 have hall:∀j,j≤k→Snd P (E tbl j):=fun j hj=>snd htbl (fun call=>draw_snd hmix call) k j hj
 have:=zqp hall (fun j hj=>znS htbl j fun i hi=>hall i (by omega)) htbl (fun _ _ h=>by rw[hx]at h;cases h.1) he RO.gives_ok hs hfr hw (zbI R) (zbI R) hv
 rw[show ([]:List Value).toArray++vs.toArray++([]:List Value).toArray=vs.toArray by simp]at this
 exact this
end Go.Air
set_option maxRecDepth 100000
namespace Go.Air
theorem zpA {P:Program} {tbl:Tb} (hmix:P.follows .mixedOrders=true) (htbl:∀k fi,tbl k=some fi→FnOk P tbl k fi) {pr:zrn} {g m n:Nat} (hx:tbl.ext g=false)
 (H:∀(args:List V) (h:H) (v:V) (ob:Option Blk) (R:Emb) (w:World) (vs:List Value),WF h→pr n (pad args m) h=some (v,ob)→Sim P allB R h.get w→zae R args=some vs→ob=none∧(∀R R':Emb,conc R v=conc R' v) ∧
   ∃(h2:Air.H) (R2:Emb),WF h2∧Sim P allB R2 h2.get w∧(∀b,h2.next≤b→R2 b=none)∧zae R2 args=some vs∧WC tbl (.fn g [] []) args h2 fun u h'=>u=v∧∃l,h'.log=l++h2.log∧∀b∈l,h2.next≤b):zev P pr g (zaY m n):=by
 refine⟨m,n,rfl,?_⟩
 intro args h v ob R w vs hp hs hfr hw hargs
 obtain⟨rfl,hflat,h2,R2,hw2,hs2,hf2,ha2,k,r,he,hq⟩:=H args h v ob R w vs hw hp hs hargs
 cases r with
 |fail=>exact hq.elim
 |pan v h'=>exact hq.elim
 |ok u h'=>
  obtain⟨rfl,ext⟩:=hq
  obtain⟨q1,q2⟩:=air_fn hmix htbl hx he hs2 (fun b hb _=>hf2 b hb) hw2 ha2
  refine⟨q1,fun ro k=>(q2 ro k).mono ?_⟩
  intro e w' q
  cases e with
  |panicked _=>exact q.elim
  |outgrown=>exact q.elim
  |returned x=>
   obtain⟨R',l,f,_,hc⟩:=q
   have hkeep:∀c,c<w.heap.size→w'.heap[c]? = w.heap[c]? := by
    intro c hc
    refine f.frame c hc fun b sz hb hl => ?_
    obtain⟨l',e1,e2⟩:=ext
    have e3:=f.log
    rw[e1]at e3
    obtain rfl:l'=l:=List.append_cancel_right e3
    rw[hf2 b (e2 b hl)]at hb
    cases hb
   refine⟨R,[],⟨R.le_refl,rfl,Nat.le_refl _,f.size,fun _ _ _ h=>.inl h,fun _ _ _=>rfl,fun c hc _=>hkeep c hc,fun _ hb=>by simp at hb,f.io⟩,?_,(hflat R R').trans hc⟩
   exact⟨fun b c sz x hF hb hx=>BlkRel.mono P (Emb.le_refl R) (hs.blk b c sz x hF hb hx) (hkeep c (hs.lt b c sz hb)),hs.inj,fun b c sz hb=>Nat.lt_of_lt_of_le (hs.lt b c sz hb) f.size,hs.fix⟩
theorem zku:∀{cs:List (Option V)} {o n:Nat} {l:List V},l.length=n→(∀(i:Nat) (v:V),l[i]? = some v→cs[o+i]? = some (some v))→o+n≤cs.length→cutO cs o n=some l
 |[],0,0,l,hl,_,_=>by
  obtain rfl:=List.eq_nil_of_length_eq_zero hl
  rfl
 |_::_,0,0,l,hl,_,_=>by
  obtain rfl:=List.eq_nil_of_length_eq_zero hl
  rfl
 |[],0,n+1,_,_,_,h=>by simp at h
 |[],o+1,n,_,_,_,h=>by simp at h
 |x::cs,0,n+1,l,hl,h,hle=>by
  cases l with
  |nil=>simp at hl
  |cons v l=>
   have h0:=h 0 v rfl
   simp only[Nat.add_zero,List.getElem?_cons_zero,Option.some.injEq]at h0
   subst h0
   have ih:=zku (cs:=cs) (o:=0) (n:=n) (l:=l) (by simpa using hl) (fun i v hi=>by
    have:=h (i+1) v (by simpa using hi)
    rw[show 0+(i+1)=(0+i)+1 by omega]at this
    simpa using this) (by simp at hle ⊢;omega)
   simp only[cutO,ih,Option.map_some]
 |x::cs,o+1,n,l,hl,h,hle=>by
  simp only[cutO]
  refine zku (o:=o) hl (fun i v hi => ?_) (by simp at hle;omega)
  have:=h i v hi
  rw[show o+1+i=(o+i)+1 by omega]at this
  simpa using this
theorem znt:∀{cs:List (Option V)} {o:Nat} {v:V},nthO cs o=some v→cs[o]? = some (some v)
 |[],_,_,h=>by cases h
 |x::_,0,_,h=>by simpa [nthO] using h
 |_::cs,o+1,v,h=>by simpa using znt (cs:=cs) (o:=o) (by simpa [nthO] using h)
theorem zmO:∀{cs:List (Option V)} {o n:Nat} {l:List V},cutO cs o n=some l→o+n≤cs.length
 |[],0,0,_,_=>by simp
 |_::_,0,0,_,_=>by simp
 |[],0,_+1,_,h=>by simp[cutO]at h
 |[],_+1,_,_,h=>by simp[cutO]at h
 |x::cs,0,n+1,l,h=>by
  cases x with
  |none=>simp[cutO]at h
  |some v=>
   simp only[cutO,Option.map_eq_some_iff]at h
   obtain⟨l',h,rfl⟩:=h
   have:=zmO h
   simp;omega
 |_::cs,o+1,n,l,h=>by
  have:=zmO (cs:=cs) (o:=o) (n:=n) (l:=l) (by simpa [cutO] using h)
  simp;omega
theorem zmd {P:Program} {R:Emb} {w:World} {c sz:Nat} {bl:Blk} {o n:Nat} {cs:List V} (hb:BlkRel P R w c sz bl) (hr:bl.rd o n=some cs) :
 ∃arr e f,w.heap[c]? = some (.cells arr e f)∧o+n≤arr.size∧∀(i:Nat) (u:V),cs[i]? = some u→∃x,arr.toList[o+i]? = some x∧conc R u=some x:=by
 have hlen:=zgK hr
 cases bl with
 |cells l=>
  obtain⟨arr,e,vs,rest,h1,h2,h3,h4⟩:=hb
  have hll:=zan h2
  obtain⟨q1,_⟩:=zbh.1 hr
  refine⟨arr,_,_,h1,?_,fun i u hi => ?_⟩
  ·have:arr.size=(vs++rest).length:=by rw[← h3];simp
   simp at this;omega
  ·have hin:i<n:=by rw[← hlen];exact (List.getElem?_eq_some_iff.1 hi).1
   have h5:=zpx hr hin
   rw[hi]at h5
   simp only[Blk.rd1,zdB]at h5
   obtain⟨x,q1,q2⟩:=zcb h2 h5
   refine⟨x,?_,q2⟩
   rw[h3,List.getElem?_append_left (List.getElem?_eq_some_iff.1 q1).1]
   exact q1
 |ro l=>
  obtain⟨arr,e,f,h1,h2,h3⟩:=hb
  have q:=(ziJ hr).2
  refine⟨arr,e,f,h1,by have:=zmO hr;omega,fun i u hi => ?_⟩
  have hin:i<n:=by rw[← hlen];exact (List.getElem?_eq_some_iff.1 hi).1
  have h5:=zpx hr hin
  rw[hi]at h5
  exact h3 _ _ (znt h5)
 |map _=>cases hr
 |loop _=>cases hr
theorem zpb:∀{cs:List V} {b:List Nat},u8s cs=some b→cs=b.map u8∧∀c∈b,c<256
 |[],b,h=>by simp[u8s]at h;subst h;exact⟨rfl,by simp⟩
 |x::cs,b,h=>by
  unfold u8s at h
  split at h<;>try cases h
  rename_i c h1
  obtain⟨r,h2,rfl⟩:=Option.map_eq_some_iff.1 h
  obtain⟨rfl,h3⟩:=zpb h2
  unfold u8Of at h1
  split at h1<;>try cases h1
  split at h1<;>simp only[Option.some.injEq,reduceCtorEq]at h1
  rename_i hlt
  subst h1
  rw[Nat.blt_eq]at hlt
  refine⟨rfl,fun d hd => ?_⟩
  rcases List.mem_cons.1 hd with rfl|hd
  ·exact hlt
  ·exact h3 d hd
theorem zpU:∀{b:List Nat},(∀c∈b,c<256)→u8s (b.map u8)=some b
 |[],_=>rfl
 |c::b,h=>by
  have h1:u8Of (u8 c)=some c:=by
   show (if Nat.blt c 256 then some c else none)=_
   rw[if_pos (by rw[Nat.blt_eq];exact h c (by simp))]
  have h2:u8s (b.map u8)=some b:=zpU fun d hd=>h d (List.mem_cons_of_mem _ hd)
  simp only[List.map_cons,u8s,h1,h2,Option.map_some]
def emb1 (R:Emb) (b:Nat):Emb:=fun c=>if c=b∨c∈fixB then R c else none
theorem zqO {R:Emb} {b c:Nat} {x:Nat × Nat} (h:emb1 R b c=some x):R c=some x∧(c=b∨c∈fixB):=by
 unfold emb1 at h
 split at h
 ·rename_i hc;exact⟨h,hc⟩
 ·cases h
theorem zlO (R:Emb) (b:Nat):emb1 R b b=R b:=if_pos (.inl rfl)
theorem znQ {R:Emb} (b:Nat) (h:Fix R):Fix (emb1 R b):=fun c hc=>(if_pos (.inr hc)).trans (h c hc)
def bareH:H:=⟨zcV,.e,[]⟩
theorem zkA (b:Nat):bareH.get b=none:=by cases b<;>rfl
theorem zre:WF bareH:=⟨fun b _=>zkA b,fun _ hb=>by simp[bareH]at hb⟩
theorem znW {P:Program} {R:Emb} {h:H} {w:World} (hs:Sim P allB R h.get w):Sim P allB (emb1 R zbO) bareH.get w:=
 ⟨fun b _ _ _ _ _ hx=>(by rw[zkA]at hx;cases hx),fun b _ _ _ _ _ _ _ _ _ _ hx=>(by rw[zkA]at hx;cases hx),fun b c sz hb=>hs.lt b c sz (zqO hb).1,znQ _ hs.fix⟩
theorem zjE (R:Emb) (b:Nat) (hb:bareH.next≤b):emb1 R zbO b=none:=by
 have hb:zcV≤b:=hb
 refine if_neg ?_
 rintro (rfl|h)
 ·exact absurd (zjt zjQ) (by omega)
 ·exact absurd (zjt h) (by omega)
def view (off:Nat) (cs:List V) (size:Nat):List (Option V):=List.replicate off none++cs.map some++List.replicate (size-(off+cs.length)) none
theorem view_get {off size i:Nat} {cs:List V} {v:V} (h:(view off cs size)[i]? = some (some v)):∃j,i=off+j∧cs[j]? = some v:=by
 unfold view at h
 rcases Nat.lt_or_ge i off with h1|h1
 ·rw[List.append_assoc,List.getElem?_append_left (by simpa using h1),List.getElem?_replicate,if_pos h1]at h
  cases h
 ·rw[List.append_assoc,List.getElem?_append_right (by simpa using h1),List.length_replicate]at h
  rcases Nat.lt_or_ge (i-off) cs.length with h2|h2
  ·rw[List.getElem?_append_left (by simpa using h2),List.getElem?_map,List.getElem?_eq_getElem h2]at h
   refine⟨i-off,by omega,?_⟩
   rw[List.getElem?_eq_getElem h2]
   simpa using h
  ·rw[List.getElem?_append_right (by simpa using h2),List.getElem?_replicate]at h
   split at h<;>cases h
theorem zmR {P:Program} {h:H} {v:V} {bs:List Nat} {R:Emb} {w:World} {vs:List Value} (hw:WF h) (hb:zdE h v=some bs) (hs:Sim P allB R h.get w) (hv:zae R [v]=some vs) :
 (bs.length≤10000000∧∀c∈bs,c<256)∧∃(h2:H) (R2:Emb),WF h2∧Sim P allB R2 h2.get w∧(∀b,h2.next≤b→R2 b=none)∧zae R2 [v]=some vs∧Sl 1 h2 v bs.length (bs.map u8):=by
 unfold zdE at hb
 split at hb<;>try cases hb
 rename_i hstr
 split at hb<;>try cases hb
 rename_i n hn
 split at hb<;>try cases hb
 rename_i cs hcs
 split at hb<;>try cases hb
 rename_i hle
 have hle:=Nat.le_of_ble_eq_true hle
 obtain⟨rfl,hlt⟩:=zpb hb
 rw[List.length_map]at hle
 refine⟨⟨hle,hlt⟩,?_⟩
 have hempty:∀v,(v=.sn∨∃a,v=.se a)→zae R [v]=some vs→bs=[]→∃(h2:H) (R2:Emb),WF h2∧Sim P allB R2 h2.get w∧(∀b,h2.next≤b→R2 b=none)∧zae R2 [v]=some vs∧Sl 1 h2 v bs.length (bs.map u8):=by
  rintro v hv' hvs rfl
  refine⟨bareH,emb1 R zbO,zre,znW hs,zjE R,?_,.inl ⟨rfl,rfl,hv'⟩⟩
  rcases hv' with rfl|⟨a,rfl⟩<;>(simp only[zae,conc]at hvs ⊢;exact hvs)
 cases v<;>simp only[zaT,reduceCtorEq,Option.some.injEq]at hn
 case s x=>exact (hstr rfl).elim
 case sn=>
  subst hn
  exact hempty _ (.inl rfl) hv (by cases bs with|nil=>rfl|cons _ _=>simp[zat]at hcs)
 case se a=>
  subst hn
  exact hempty _ (.inr ⟨a,rfl⟩) hv (by cases bs with|nil=>rfl|cons _ _=>simp[zat]at hcs)
 case sl b off len cap g=>
  subst hn
  simp only[zat,Nat.mul_one]at hcs
  split at hcs<;>try cases hcs
  rename_i bl hg
  have hlen:=zgK hcs
  rw[List.length_map]at hlen
  cases hR:R b with
  |none=>
   exfalso
   cases g<;>simp[zae,conc,hR]at hv
  |some x=>
   obtain⟨c,sz⟩:=x
   obtain⟨arr,e,f,q1,q2,q3⟩:=zmd (hs.blk b c sz bl trivial hR hg) hcs
   have hget:∀d,(T.set (T.e:T Blk) b (some (.ro (view off (bs.map u8) arr.size)))).get d=if d=b then some (.ro (view off (bs.map u8) arr.size)) else none:=by
    intro d
    rw[T.get_set]
    split
    ·rfl
    ·cases d<;>rfl
   have hvl:(view off (bs.map u8) arr.size).length=arr.size:=by
    unfold view;simp;omega
   refine⟨⟨max b zcV+1,T.set .e b (some (.ro (view off (bs.map u8) arr.size))),[]⟩,emb1 R b,⟨?_,fun _ hb=>by simp at hb⟩,⟨?_,?_,?_,znQ _ hs.fix⟩,?_,?_,?_⟩
   ·intro d hd
    have hd:max b zcV+1≤d:=hd
    exact (hget d).trans (if_neg (by omega))
   ·intro d c' sz' y _ hd hy
    have hy:=(hget d).symm.trans hy
    split at hy<;>try cases hy
    rename_i e'
    subst e'
    rw[zlO,hR]at hd
    cases hd
    refine⟨arr,e,f,q1,hvl.symm,fun i u hi => ?_⟩
    obtain⟨j,rfl,hj⟩:=view_get hi
    obtain⟨x,q4,q5⟩:=q3 j u hj
    refine⟨x,q4,?_⟩
    rw[List.getElem?_map,Option.map_eq_some_iff]at hj
    obtain⟨n,_,rfl⟩:=hj
    exact q5
   ·intro d d' c' s1 s2 y y' _ _ _ _ hy hy'
    have hy:=(hget d).symm.trans hy
    have hy':=(hget d').symm.trans hy'
    by_cases e1:d=b
    ·by_cases e2:d'=b
     ·rw[e1,e2]
     ·rw[if_neg e2]at hy';cases hy'
    ·rw[if_neg e1]at hy;cases hy
   ·intro d c' s1 hd
    exact hs.lt _ _ _ (zqO hd).1
   ·intro d hd
    have hd:max b zcV+1≤d:=hd
    refine if_neg ?_
    rintro (rfl|h)
    ·omega
    ·exact absurd (zjt h) (by omega)
   ·have he:emb1 R b b=R b:=zlO R b
    cases g<;>(simp only[zae,conc,he]at hv ⊢;exact hv)
   ·refine .inr ⟨b,off,cap,g,_,by rw[hlen],(by show b<max b zcV+1;omega),(hget b).trans (if_pos rfl),?_⟩
    simp only[Blk.rd]
    refine zku (by simp) (fun i u hi => ?_) (by rw[hvl];omega)
    have hi':=(List.getElem?_eq_some_iff.1 hi).1
    unfold view
    rw[List.append_assoc,List.getElem?_append_right (by simp),List.length_replicate,Nat.add_sub_cancel_left,List.getElem?_append_left (by simpa using hi'),List.getElem?_map,hi]
    rfl
end Go.Air
set_option maxRecDepth 100000
namespace Go.Air.Try
def fi1 (k:Nat):Option FI:=match k with
 |6=>some (zaY 0 9)
 |16=>some (zaY 1 0)
 |177=>some (zaY 1 0)
 |79=>some (zaY 1 1)
 |k=>tree.get k
def tb1:Tb:=⟨fi1,zcg,ext⟩
end Go.Air.Try
namespace Go.Air
open Go.Air.Try
section
variable {S Sp:V→H→Prop} {h:H}
@[go_sem ↓] theorem fn1_alive:WX tb1 (.fn 6 [] []) [] h S Sp↔S (.b true) h:=zeY (m:=0) (n:=9) (b:=none) rfl rfl
def sumV (bs:List Nat):V:=.agg ((Sha.sum bs).map u8)
theorem znl {v:V} {bs:List Nat} (hv:zdE h v=some bs):zcg 0 (pad [v] 1) h=some (sumV bs,none):=by
 show (zdE h v).map _=_
 rw[hv];rfl
theorem fn1_sum {v:V} {bs:List Nat} (hv:zdE h v=some bs):WX tb1 (.fn 16 [] []) [v] h S Sp↔S (sumV bs) h:=zeY (m:=1) (n:=0) (b:=none) rfl (znl hv)
theorem fn1_rsum {v:V} {bs:List Nat} (hv:zdE h v=some bs):WX tb1 (.fn 177 [] []) [v] h S Sp↔S (sumV bs) h:=zeY (m:=1) (n:=0) (b:=none) rfl (znl hv)
end
theorem znT {h:H} {v:V} {bs:List Nat} (hv:Sl 1 h v bs.length (bs.map u8)) (hlt:∀c∈bs,c<256) (hl:bs.length≤10000000):zdE h v=some bs:=by
 have h1:=hv.slen
 have h2:=hv.src
 have h3:isStr v=false:=by
  rcases hv with⟨_,_,rfl|⟨a,rfl⟩⟩|⟨b,off,cap,g,bl,rfl,_⟩<;>rfl
 unfold zdE
 rw[h3,h1]
 simp only[Bool.false_eq_true,if_false,h2]
 rw[if_pos (by rw[Nat.ble_eq,List.length_map];exact hl),zpU hlt]
theorem zlE:∀(l:List Nat),fitL (List.replicate l.length (.i .u8:KT)) (l.map u8)=true
 |[]=>rfl
 |c::l=>by
  show (KT.fits (.i .u8) (u8 c)&&fitL (List.replicate l.length (.i .u8:KT)) (l.map u8))=true
  rw[zlE l];rfl
theorem zfm:∀(l m:List Nat),zaF (l.map u8) (m.map u8)=decide (l=m)
 |[],[]=>rfl
 |[],_::_=>by simp[zaF]
 |_::_,[]=>by simp[zaF]
 |c::l,d::m=>by
  show (decide ((c:Int)=(d:Int))&&zaF (l.map u8) (m.map u8))=_
  rw[zfm l m]
  simp only[List.cons.injEq,Bool.decide_and]
  congr 1
  simp only[Int.natCast_inj]
theorem zqN {l m:List Nat} {n:Nat} (hl:l.length=n) (hm:m.length=n):eqV (.agg (List.replicate n (.i .u8))) (.agg (l.map u8)) (.agg (m.map u8))=some (decide (l=m)):=by
 have h1:fitL (List.replicate n (.i .u8:KT)) (l.map u8)=true:=by rw[← hl];exact zlE l
 have h2:fitL (List.replicate n (.i .u8:KT)) (m.map u8)=true:=by rw[← hm];exact zlE m
 simp only[eqV,h1,h2,Bool.and_self,if_true,zfm]
theorem zjR (bs:List Nat):(Sha.sum bs).length=32:=rfl
@[go_sem] theorem eq_sum (a b:List Nat):eqV (.agg (List.replicate 32 (.i .u8))) (sumV a) (sumV b)=some (decide (Sha.sum a=Sha.sum b)):=zqN (zjR a) (zjR b)
end Go.Air
set_option maxRecDepth 100000
namespace Go.Air
open Go.Air.Try
structure Tb4 (h:H):Prop where
 lt:zcV≤h.next
 is:isTab (h.get zbO)=true
 syn:zhl (h.get zgE)=true
 rng:zhl (h.get zgJ)=true
theorem Tb4.ext {h h':H} (t:Tb4 h) (e:Ext h h'):Tb4 h':=by
 have key:∀b∈fixB,h'.get b=h.get b:=fun b hb=>e.same _ (Nat.lt_of_lt_of_le (zjt hb) t.lt)
 exact⟨Nat.le_trans t.lt e.nx,by rw[key _ zjQ];exact t.is,by rw[key _ zmi];exact t.syn,by rw[key _ zmp];exact t.rng⟩
theorem Tb4.bare {h:H} (t:Tb4 h):Tb4 h.bare:=⟨t.lt,t.is,t.syn,t.rng⟩
def I64 (n:Int):Prop := -9223372036854775808≤n∧n≤9223372036854775807
section
variable {S Sp:V→H→Prop} {h:H}
theorem zkn (ht:Tb4 h) {n:Int} (hn:I64 n):WX tb1 (.fn 79 [] []) [.i .i64 n] h S Sp↔S (.s (itoa n)) h:=by
 refine zeY (m:=1) (n:=1) (b:=none) rfl ?_
 show (if isTab (h.get zbO)&&(decide (-9223372036854775808≤n)&&decide (n≤9223372036854775807)) then some (V.s (itoa n),(none:Option Blk)) else none)=_
 rw[show isTab (h.get zbO)=true from ht.is,decide_eq_true hn.1,decide_eq_true hn.2]
 rfl
theorem zgg:∀(f n:Nat) (acc:List Nat),(zaA f n acc).length≤f+acc.length
 |0,_,_=>by simp[zaA]
 |f+1,n,acc=>by
  rw[zaA]
  split
  ·simp;omega
  ·refine Nat.le_trans (zgg f _ _) ?_
   simp;omega
theorem zei (n:Int):(itoa n).length≤21:=by
 unfold itoa
 split
 ·have:=zgg 20 n.natAbs []
  simp[zaV]at this ⊢;omega
 ·have:=zgg 20 n.toNat []
  simp[zaV]at this ⊢;omega
theorem zhr:∀(f n:Nat) (acc:List Nat),(∀c∈acc,c<256)→∀c∈zaA f n acc,c<256
 |0,_,_,h=>h
 |f+1,n,acc,h=>by
  rw[zaA]
  split
  ·intro c hc;rcases List.mem_cons.1 hc with rfl|hc
   ·omega
   ·exact h c hc
  ·refine zhr f _ _ fun c hc => ?_
   rcases List.mem_cons.1 hc with rfl|hc
   ·omega
   ·exact h c hc
theorem zqf (n:Int):∀c∈itoa n,c<256:=by
 unfold itoa
 split
 ·intro c hc;rcases List.mem_cons.1 hc with rfl|hc
  ·omega
  ·exact zhr 20 _ _ (by simp) c hc
 ·exact zhr 20 _ _ (by simp)
def btw (a lo hi:Int):Bool:=decide (lo≤a)&&decide (a≤hi)
theorem t80:tb1 43=some a43:=by kernel_rfl
theorem t83:tb1 129=some a129:=by kernel_rfl
@[go_sem ↓] theorem fn_between {a b c:Int}:WX tb1 (.fn 43 [] []) [.i .i64 a,.i .i64 b,.i .i64 c] h S Sp↔S (.b (btw a b c)) h:=by
 rw[zay t80]
 unfold btw
 by_cases h1:b≤a
 ·simp only[go_sem,↓reduceIte,r43_0,r43_1,h1]
  rfl
 ·simp only[go_sem,↓reduceIte,r43_0,r43_1,h1]
  rfl
@[go_sem ↓] theorem fn_within {a b c:Int}:WX tb1 (.fn 129 [] []) [.i .i64 a,.i .i64 b,.i .i64 c] h S Sp↔S (.b (btw a b c)) h:=by
 rw[zay t83]
 unfold btw
 by_cases h1:b≤a
 ·simp only[go_sem,↓reduceIte,r129_0,r129_1,h1]
  rfl
 ·simp only[go_sem,↓reduceIte,r129_0,r129_1,h1]
  rfl
end
theorem zqI {l:List Nat}:zhQ (.s l)=some [.s l]:=rfl
structure M87 (h hh:H) (u:V) (l:List (List Nat)):Prop where
 ext:Ext h hh
 own:Own h 1 hh u l.length (l.map V.s)
theorem one_s {h0 hh:H} (e:Ext h0 hh) (c:List Nat):Sl 1 (hh.new (.cells [.s c])) (.sl hh.next 0 1 1 none) 1 [.s c]:=(Own.lit (esz:=1) e [.s c] 1 rfl).1.sl
theorem M87.app {h hh:H} {u:V} {l:List (List Nat)} (q:M87 h hh u l) (hn:l.length≤1000) (c:List Nat) :
 ∃u' h',zaX 1 16 (hh.new (.cells [.s c])) u (.sl hh.next 0 1 1 none)=.ok u' h'∧M87 h h' u' (l++[c]):=by
 have e1:Ext h (hh.new (.cells [.s c])):=q.ext.new _
 obtain⟨v',h',q1,q2,q3,_⟩:=(q.own.ext ((Ext.refl hh).new _)).app (bytes:=16) e1 (one_s q.ext c) (by intro u hu;simp at hu;subst hu;rfl) (by omega) (by omega) (by omega)
 exact⟨v',h',q1,q2,by simpa using q3⟩
end Go.Air
set_option maxRecDepth 100000
namespace Go.Air
open Go.Air.Try
def cutL (c:Nat):List Nat→Option (List Nat × List Nat)
 |[]=>none
 |x::l=>if x=c then some ([],l) else (cutL c l).map fun p=>(x::p.1,p.2)
def zaM (c:Nat):List Nat→List (List Nat)
 |[]=>[[]]
 |x::l=>if x=c then []::zaM c l else match zaM c l with
  |[]=>[[x]]
  |w::ws=>(x::w)::ws
theorem zgY {c:Nat}:∀{l a b:List Nat},cutL c l=some (a,b)→l=a++c::b∧c ∉ a
 |[],_,_,h=>by cases h
 |x::l,a,b,h=>by
  rw[cutL]at h
  split at h
  ·rename_i e;subst e;cases h;exact⟨rfl,by simp⟩
  ·rename_i e
   obtain⟨⟨a',b'⟩,h1,h2⟩:=Option.map_eq_some_iff.1 h
   cases h2
   obtain⟨rfl,h4⟩:=zgY h1
   refine⟨rfl,?_⟩
   rw[List.mem_cons,not_or]
   exact⟨fun q=>e q.symm,h4⟩
theorem ziK {c:Nat}:∀{l:List Nat},cutL c l=none→c ∉ l
 |[],_=>by simp
 |x::l,h=>by
  rw[cutL]at h
  split at h
  ·cases h
  ·rename_i e
   rw[Option.map_eq_none_iff]at h
   rw[List.mem_cons,not_or]
   exact⟨fun q=>e q.symm,ziK h⟩
theorem zdT {c:Nat}:∀{l:List Nat},c ∉ l→zaM c l=[l]
 |[],_=>rfl
 |x::l,h=>by
  rw[List.mem_cons,not_or]at h
  rw[zaM,if_neg (fun e=>h.1 e.symm),zdT h.2]
theorem zdI {c:Nat}:∀{a b:List Nat},c ∉ a→zaM c (a++c::b)=a::zaM c b
 |[],b,_=>by simp[zaM]
 |x::a,b,h=>by
  rw[List.mem_cons,not_or]at h
  rw[List.cons_append,zaM,if_neg (fun e=>h.1 e.symm),zdI h.2]
theorem zlp {c:Nat}:∀{l:List Nat} (i:Nat),c ∉ l→idxB c l i = -1
 |[],_,_=>rfl
 |x::l,i,h=>by
  rw[List.mem_cons,not_or]at h
  rw[idxB,if_neg (fun e=>h.1 e.symm),zlp _ h.2]
theorem znz {c:Nat}:∀{a b:List Nat} (i:Nat),c ∉ a→idxB c (a++c::b) i=((a.length+i:Nat):Int)
 |[],b,i,_=>by simp[idxB]
 |x::a,b,i,h=>by
  rw[List.mem_cons,not_or]at h
  rw[List.cons_append,idxB,if_neg (fun e=>h.1 e.symm),znz (i+1) h.2]
  simp;omega
section
variable {S Sp:V→H→Prop} {h:H}
theorem fn_idxB {l:List Nat} {c:Nat} (hc:c<256):WX tb1 (.fn 288 [] []) [.s l,.i .u8 (c:Int)] h S Sp↔S (.i .i64 (idxB c l 0)) h:=by
 refine zeY (m:=2) (n:=5) (b:=none) rfl ?_
 show (if Nat.blt c 256 then some (V.i .i64 (idxB c l 0),(none:Option Blk)) else none)=_
 rw[if_pos (by rw[Nat.blt_eq];exact hc)]
theorem t374:tb1 208=some a208:=by kernel_rfl
theorem t386:tb1 152=some a152:=by kernel_rfl
theorem t269:tb1 93=some a93:=by kernel_rfl
theorem t166:tb1 53=some a53:=by kernel_rfl
theorem zlx {l:List Nat} {c:Nat} (hc:c<256):WX tb1 (.fn 208 [] []) [.s l,.i .u8 (c:Int)] h S Sp↔S (.i .i64 (idxB c l 0)) h:=by
 rw[zay t374]
 simp only[go_sem,↓reduceIte,r208_0,r208_1,fn_idxB hc]
theorem ixS_one {c:Nat}:ixSV (.s [c]) (.i .i64 0)=some (.i .u8 (c:Int)):=rfl
theorem znF {l:List Nat} {c:Nat} (hc:c<256):WX tb1 (.fn 152 [] []) [.s l,.s [c]] h S Sp↔S (.i .i64 (idxB c l 0)) h:=by
 rw[zay t386]
 by_cases e:[c]=l
 ·subst e
  have e1:binV .eql (.s [c]) (.s [c])=some (.b true):=by rw[zcj];simp
  have e2:idxB c [c] 0=0:=by simp[idxB]
  simp only[go_sem,↓reduceIte,r152_0,r152_1,r152_2,r152_3,e1,e2,zeg,Int.reduceEq]
 ·have e1:binV .eql (.s [c]) (.s l)=some (.b false):=by rw[zcj,decide_eq_false e]
  simp only[go_sem,↓reduceIte,r152_0,r152_1,r152_2,r152_4,r152_5,e1,zeg,Int.reduceEq,ixS_one,zlx hc]
theorem slc_hi {t:List V} {l:List Nat} {k n:Nat} (hk:nth t k=.i .i64 (n:Int)) (hn:n≤l.length):zjU t (.s l) none (some (.t k))=some (.s (l.take n)):=by
 have hb:zbr t l.length l.length none (some (.t k))=some (0,n):=zhc (by rw[ev_t,hk];rfl) hn
 simp only[zjU,hb,Option.map_some,List.drop_zero,Nat.sub_zero]
theorem slc_lo {t:List V} {l:List Nat} {k n:Nat} (hk:nth t k=.i .i64 (n:Int)) (hn:n≤l.length):zjU t (.s l) (some (.t k)) none=some (.s (l.drop n)):=by
 have hb:zbr t l.length l.length (some (.t k)) none=some (n,l.length):=ziS (by rw[ev_t,hk];rfl) (Nat.le_refl _) hn
 simp only[zjU,hb,Option.map_some]
 rw[List.take_of_length_le (by simp)]
def cutR (c:Nat) (l:List Nat):V:=match cutL c l with
 |some (a,b)=>.tup [.s a,.s b,.b true]
 |none=>.tup [.s l,.s [],.b false]
theorem fn_cut0 {l:List Nat} {c:Nat} (hc:c<256) (hl:l.length≤1000000000):WX tb1 (.fn 93 [] []) [.s l,.s [c]] h S Sp↔S (cutR c l) h:=by
 rw[zay t269]
 unfold cutR
 cases hq:cutL c l with
 |none=>
  have h1:=zlp 0 (ziK hq)
  simp only[go_sem,↓reduceIte,r93_0,r93_1,r93_2,r93_4,znF hc,h1]
 |some p=>
  obtain⟨a,b⟩:=p
  obtain⟨rfl,hca⟩:=zgY hq
  have h1:=znz (b:=b) 0 hca
  rw[Nat.add_zero]at h1
  have h2:(0:Int)≤(a.length:Int):=by omega
  have hlen:(a++c::b).length=a.length+b.length+1:=by simp;omega
  have h3:IntKind.i64.wrap ((a.length:Int)+1)=((a.length+1:Nat):Int):=zaq (by omega)
  have k1:(a++c::b).take a.length=a:=List.take_left' rfl
  have k2:(a++c::b).drop (a.length+1)=b:=by
   rw[← List.drop_drop,List.drop_left' rfl];rfl
  simp only[go_sem,↓reduceIte,r93_0,r93_1,r93_2,r93_3,znF hc,h1,h2,zeg]
  rw[slc_hi (k:=14) (n:=a.length) (by simp only[go_sem,↓reduceIte]) (by omega)]
  simp only[go_sem,↓reduceIte,zeg,h3]
  rw[slc_lo (k:=20) (n:=a.length+1) (by simp only[go_sem,↓reduceIte]) (by omega)]
  simp only[go_sem,↓reduceIte,k1,k2]
theorem fn_Cut {l:List Nat} {c:Nat} (hc:c<256) (hl:l.length≤1000000000):WX tb1 (.fn 53 [] []) [.s l,.s [c]] h S Sp↔S (cutR c l) h:=by
 rw[zay t166]
 have key:∃x y z,cutR c l=.tup [x,y,z]:=by unfold cutR;cases cutL c l<;>exact⟨_,_,_,rfl⟩
 obtain⟨x,y,z,hk⟩:=key
 simp only[go_sem,↓reduceIte,r53_0,r53_1,fn_cut0 hc hl,hk,zbz]
end
theorem znX {f:V} {args:List V} {h:H} {x:V} {S Sp:V→H→Prop} (hw:WC tb1 f args h fun u h'=>u=x∧h'=h):WX tb1 f args h S Sp↔S x h:=by
 constructor
 ·rintro⟨k,r,e,q⟩
  obtain⟨m,v,h',e',rfl,rfl⟩:=WC_ok hw
  have a1:=zra tb1 (Nat.le_max_left k m) e q.ne
  have a2:=zra tb1 (Nat.le_max_right k m) e' (by simp)
  rw[a1]at a2
  subst a2
  exact q
 ·intro hs
  exact hw.mono fun v h' q=>by obtain⟨rfl,rfl⟩:=q;exact hs
theorem slc_lh {t:List V} {l:List Nat} {k1 k2 m n:Nat} (h1:nth t k1=.i .i64 (m:Int)) (h2:nth t k2=.i .i64 (n:Int)) (hm:m≤n) (hn:n≤l.length):zjU t (.s l) (some (.t k1)) (some (.t k2))=some (.s ((l.drop m).take (n-m))):=by
 have hb:zbr t l.length l.length (some (.t k1)) (some (.t k2))=some (m,n):=ziT (by rw[ev_t,h1];rfl) (by rw[ev_t,h2];rfl) hn hm
 simp only[zjU,hb,Option.map_some]
theorem ixS_at {l:List Nat} {i c:Nat} (hc:l[i]? = some c):ixSV (.s l) (.i .i64 (i:Int))=some (.i .u8 (c:Int)):=by
 have:zbg (.i .i64 (i:Int))=some i:=rfl
 simp[ixSV,this,hc]
end Go.Air
set_option maxRecDepth 100000
namespace Go.Air
open Go.Air.Try
theorem ziG:∀(f n:Nat) (acc:List Nat),(∀c∈acc,48≤c∧c≤57)→∀c∈zaA f n acc,48≤c∧c≤57
 |0,_,_,h=>h
 |f+1,n,acc,h=>by
  rw[zaA]
  split
  ·intro c hc
   rcases List.mem_cons.1 hc with rfl|hc
   ·omega
   ·exact h c hc
  ·refine ziG f _ _ fun c hc => ?_
   rcases List.mem_cons.1 hc with rfl|hc
   ·omega
   ·exact h c hc
theorem zjx:∀(f n:Nat) (acc:List Nat),acc≠[]→zaA f n acc≠[]
 |0,_,_,h=>h
 |f+1,n,acc,h=>by
  rw[zaA]
  split
  ·simp
  ·exact zjx f _ _ (by simp)
theorem zlQ (n:Nat):zaV n≠[]:=by
 unfold zaV
 rw[zaA]
 split
 ·simp
 ·exact zjx _ _ _ (by simp)
theorem zjw (n:Nat):∀c∈zaV n,48≤c∧c≤57:=ziG 20 n [] (by simp)
theorem zfh {n:Int} (h:0≤n):itoa n=zaV n.toNat:=by
 unfold itoa
 rw[if_neg (by omega)]
theorem zki {n:Int} (h:0≤n):∀c∈itoa n,48≤c∧c≤57:=by rw[zfh h];exact zjw _
theorem itoa_ne {n:Int} (h:0≤n):itoa n≠[]:=by rw[zfh h];exact zlQ _
theorem zpc {c:Nat} (h:c<256):(UInt8.ofNat c).toNat=c:=by simp[Nat.mod_eq_of_lt h]
theorem zjh {acc d:Nat} {r:List UInt8} (hd:d<10) (ha:acc*10+d<9223372036854775808):Lib.parseUint10 acc (UInt8.ofNat (48+d)::r)=Lib.parseUint10 (acc*10+d) r:=by
 have h1:(UInt8.ofNat (48+d)).toNat=48+d:=zpc (by omega)
 rw[Lib.parseUint10,h1,if_pos ⟨by omega,by omega⟩,if_neg (by omega),if_neg (by omega)]
 congr 1
 omega
theorem zhx:∀(f n:Nat) (acc:List Nat),n<10^f→n<9223372036854775808→0<f→Lib.parseUint10 0 ((zaA f n acc).map UInt8.ofNat)=Lib.parseUint10 n (acc.map UInt8.ofNat)
 |0,_,_,_,_,h=>by omega
 |f+1,n,acc,hf,hn,_=>by
  rw[zaA]
  split
  ·rename_i h
   rw[List.map_cons,zjh h (by omega)]
   congr 1
   omega
  ·rename_i h
   have h1:n/10<10^f:=by rw[Nat.div_lt_iff_lt_mul (by omega)];rw[Nat.pow_succ]at hf;exact hf
   have h2:0<f:=by
    rcases Nat.eq_zero_or_pos f with rfl|q
    ·simp at hf;omega
    ·exact q
   rw[zhx f (n/10) _ h1 (by omega) h2,List.map_cons,zjh (by omega) (by omega)]
   congr 1
   omega
theorem zoU {n:Int} (h0:0≤n) (h1:n≤9223372036854775807):ziU (itoa n)=.ok n:=by
 unfold ziU
 have hd:=zki h0
 have hp:=zhx 20 n.toNat [] (by omega) (by omega) (by omega)
 have he:(itoa n).map UInt8.ofNat=(zaA 20 n.toNat []).map UInt8.ofNat:=by rw[zfh h0];rfl
 cases hl:itoa n with
 |nil=>exact (itoa_ne h0 hl).elim
 |cons c r=>
  rw[hl]at hd he
  have hc:=hd c (by simp)
  rw[List.map_cons,Lib.atoiAll_plain _ _ (by rw[zpc (by omega)];omega) (by rw[zpc (by omega)];omega),← List.map_cons,he]
  unfold Lib.parseMag
  rw[if_neg (by rw[← he];simp),hp]
  simp only[List.map_nil,Lib.parseUint10,Lib.signless]
  rw[if_neg (by omega)]
  congr 1
  omega
def NumB (n:Int):Prop:=0≤n∧n≤9223372036854775807
theorem NumB.i64 {n:Int} (h:NumB n):I64 n:=⟨by have:=h.1;omega,h.2⟩
theorem zig:∀{first:List Nat} {ns:List Int},32 ∉ first→(∀n∈ns,0≤n)→zaM 32 (first++ns.flatMap fun n=>32::itoa n)=first::ns.map itoa
 |first,[],hf,_=>by simpa using zdT hf
 |first,n::ns,hf,h=>by
  have hi:32 ∉ itoa n:=fun hm=>by have:=zki (h n (by simp)) _ hm;omega
  rw[List.flatMap_cons,List.cons_append,zdI hf,zig hi fun m hm=>h m (by simp[hm])]
  rfl
end Go.Air
set_option maxRecDepth 100000
namespace Go.Air
open Go.Air.Try
def digN:Nat→List Nat→Nat
 |acc,[]=>acc
 |acc,c::r=>if c<48∨57<c then 0 else digN (acc*10+(c-48)) r
theorem zqQ:∀(w:List Nat) (acc:Nat),digN acc w<(acc+1)*10^w.length
 |[],acc=>by simp[digN]
 |c::r,acc=>by
  rw[digN]
  split
  ·exact Nat.mul_pos (by omega) (Nat.pow_pos (by omega))
  ·have ih:=zqQ r (acc*10+(c-48))
   have h1:acc*10+(c-48)+1≤(acc+1)*10:=by omega
   have h2:=Nat.mul_le_mul_right (10^r.length) h1
   rw[List.length_cons,Nat.pow_succ',← Nat.mul_assoc]
   omega
theorem zlR {acc d:Nat} {r:List Nat} (hd:d<10):digN acc ((48+d)::r)=digN (acc*10+d) r:=by
 rw[digN,if_neg (by omega)]
 congr 1
 omega
theorem ziH:∀(f n:Nat) (acc:List Nat),n<10^f→0<f→digN 0 (zaA f n acc)=digN n acc
 |0,_,_,_,h=>by omega
 |f+1,n,acc,hf,_=>by
  rw[zaA]
  split
  ·rename_i h
   rw[zlR h]
   congr 1
   omega
  ·rename_i h
   have h1:n/10<10^f:=by rw[Nat.div_lt_iff_lt_mul (by omega)];rw[Nat.pow_succ]at hf;exact hf
   have h2:0<f:=by
    rcases Nat.eq_zero_or_pos f with rfl|q
    ·simp at hf;omega
    ·exact q
   rw[ziH f (n/10) _ h1 h2,zlR (by omega)]
   congr 1
   omega
theorem zcx:∀(k f n:Nat) (acc:List Nat),n<10^k→0<k→(zaA f n acc).length≤acc.length+k
 |0,_,_,_,_,h=>by omega
 |_,0,_,_,_,_=>by simp[zaA]
 |k+1,f+1,n,acc,hk,_=>by
  rw[zaA]
  split
  ·simp
  ·rename_i h
   have h1:n/10<10^k:=by rw[Nat.div_lt_iff_lt_mul (by omega)];rw[Nat.pow_succ]at hk;exact hk
   have h2:0<k:=by
    rcases Nat.eq_zero_or_pos k with rfl|q
    ·simp at hk;omega
    ·exact q
   have:=zcx k f (n/10) ((48+n%10)::acc) h1 h2
   rw[List.length_cons]at this
   omega
theorem zlh {c x:Nat} {l:List Nat} {i:Nat} (h:c ∉ l.take i) (hx:l[i]? = some x) (hne:x≠c):c ∉ l.take (i+1):=by
 rw[zaz hx,List.mem_append,List.mem_singleton,not_or]
 exact⟨h,fun e=>hne e.symm⟩
theorem split_at {l:List Nat} {i x:Nat} (hx:l[i]? = some x):l=l.take i++x::l.drop (i+1):=by
 obtain⟨hi,e⟩:=List.getElem?_eq_some_iff.1 hx
 rw[← e,← List.drop_eq_getElem_cons hi,List.take_append_drop]
theorem zhh (c:Nat):∀l,(zaM c l).length≤l.length+1
 |[]=>by simp[zaM]
 |x::l=>by
  have ih:=zhh c l
  rw[zaM]
  split
  ·simp;omega
  ·split
   ·simp
   ·rename_i h
    rw[h]at ih
    simp at ih ⊢;omega
end Go.Air
set_option maxRecDepth 100000
namespace Go.Air
open Go.Air.Try
structure Wv where
 (id day signer giver taker under over since til:Int)
 deriving DecidableEq
structure Gf where
 (id day frm to:Int)
 cur:Nat
 (n worth:Int)
 st:Nat
 (ans ret:Int)
 deriving DecidableEq
structure Ent where
 kind:Nat
 day:Int
 w:Wv
 g:Gf
 (a b n:Int)
 deriving DecidableEq
def wv0:Wv:=⟨0,0,0,0,0,0,0,0,0⟩
def gf0:Gf:=⟨0,0,0,0,0,0,0,0,0,0⟩
def ent0:Ent:=⟨0,0,wv0,gf0,0,0,0⟩
def zbc (n:Int):Bool:=btw n 1 1000000
def zbv (w:Wv):Bool:=
 ((btw w.id 1 500&&zbc w.signer&&zbc w.giver&&zbc w.taker && !decide (w.giver=w.taker)) &&
 ((decide (w.under=0)||zbc w.under)&&(decide (w.over=0)||zbc w.over)&&(decide (w.under=0) || !decide (w.under=w.over)))) &&
 (btw w.day 0 100000&&decide (w.day≤w.since)&&decide (w.since<w.til)&&decide (w.til≤100000))
def Ent.want (x:Ent):Ent:=
 if x.kind=1∨x.kind=2 then ⟨x.kind,x.day,wv0,gf0,x.a,0,x.n⟩
 else if x.kind=3 then ⟨x.kind,x.day,x.w,gf0,0,0,0⟩
 else if x.kind=4 then ⟨x.kind,x.day,{ wv0 with id:=x.w.id },gf0,0,0,0⟩
 else if x.kind=5 then ⟨x.kind,x.day,wv0,⟨x.g.id,x.g.day,x.g.frm,x.g.to,x.g.cur,x.g.n,0,0,0,x.g.ret⟩,0,0,0⟩
 else if x.kind=6∨x.kind=7 then ⟨x.kind,x.day,wv0,{ gf0 with id:=x.g.id },0,0,0⟩
 else ⟨x.kind,x.day,wv0,gf0,0,0,0⟩
def zcu (x:Ent):Bool:=
 (btw x.g.id 1 500&&zbc x.g.frm&&zbc x.g.to && !decide (x.g.frm=x.g.to)&&btw x.g.ret 0 500 && !decide (x.g.ret=x.g.id)) &&
 (decide (x.g.day=x.day)&&btw (x.g.cur:Int) 1 2&&btw x.g.n 1 1000000)
def Ent.okk (x:Ent):Bool:=
 if x.kind=1 then btw x.a 1 2&&btw x.n 1 1000000
 else if x.kind=2 then zbc x.a&&btw x.n 1 1000000000000
 else if x.kind=3 then zbv x.w&&decide (x.w.day=x.day)
 else if x.kind=4 then btw x.w.id 1 500
 else if x.kind=5 then zcu x
 else if x.kind=6∨x.kind=7 then btw x.g.id 1 500
 else false
def Ent.formed (x:Ent):Bool:=(x.okk&&decide (x=x.want))&&btw x.day 0 100000
def verbL:List (List Nat):=[[],[114,97,116,101],[99,101,105,108,105,110,103],[103,114,97,110,116],[101,110,100],[111,102,102,101,114],[116,97,107,101],[114,101,102,117,115,101]]
def zas (k:Nat):List Nat:=verbL.getD k []
def Ent.vals (x:Ent):List Int:=
 if x.kind=1∨x.kind=2 then [x.a,x.n]
 else if x.kind=3 then [x.w.id,x.w.signer,x.w.giver,x.w.taker,x.w.under,x.w.over,x.w.since,x.w.til]
 else if x.kind=4 then [x.w.id]
 else if x.kind=5 then [x.g.id,x.g.frm,x.g.to,(x.g.cur:Int),x.g.n,x.g.ret]
 else [x.g.id]
def Ent.words (x:Ent):List (List Nat):=itoa x.day::zas x.kind::x.vals.map itoa
def zcI (ns:List Int):List Nat:=ns.flatMap fun n=>32::itoa n
def Ent.text (x:Ent):List Nat:=itoa x.day++[32]++zas x.kind++zcI x.vals
def num1 (w:List Nat):Option Int:=match ziU w with
 |.ok n=>some n
 |_=>none
def zcC (ws:List (List Nat)) (i:Nat):Option Int:=match ws[i]? with
 |some w=>num1 w
 |none=>none
def zbN (w:List Nat):Nat:=if w=zas 1 then 1 else if w=zas 2 then 2 else if w=zas 3 then 3 else if w=zas 4 then 4 else if w=zas 5 then 5 else if w=zas 6 then 6 else if w=zas 7 then 7 else 0
def zaR (ws:List (List Nat)):Nat→Nat→Option (List Int)
 |_,0=>some []
 |i,k+1=>match zcC ws i with
  |some n=>(zaR ws (i+1) k).map (n :: ·)
  |none=>none
def zeq (ws:List (List Nat)) (day:Int) (k:Nat):Option Ent:=
 if k=1∨k=2 then match zaR ws 2 2 with
  |some [a,n]=>some ⟨k,day,wv0,gf0,a,0,n⟩
  |_=>none
 else if k=3 then match zaR ws 2 8 with
  |some [i,s,g,t,u,o,f,e]=>some ⟨k,day,⟨i,day,s,g,t,u,o,f,e⟩,gf0,0,0,0⟩
  |_=>none
 else if k=4 then match zcC ws 2 with
  |some i=>some ⟨k,day,{ wv0 with id:=i },gf0,0,0,0⟩
  |none=>none
 else if k=5 then match zaR ws 2 6 with
  |some [i,f,t,c,n,r]=>if 0≤c∧c≤255 then some ⟨k,day,wv0,⟨i,day,f,t,c.toNat,n,0,0,0,r⟩,0,0,0⟩ else none
  |_=>none
 else if k=6∨k=7 then match zcC ws 2 with
  |some i=>some ⟨k,day,wv0,{ gf0 with id:=i },0,0,0⟩
  |none=>none
 else some ⟨k,day,wv0,gf0,0,0,0⟩
def zbQ (ws:List (List Nat)):Option Ent:=match zcC ws 0 with
 |none=>none
 |some day=>match ws[1]? with
  |none=>none
  |some v=>zeq ws day (zbN v)
def zcf (line:List Nat):Option Ent:=match zbQ (zaM 32 line) with
 |some x=>if x.formed=true∧x.text=line then some x else none
 |none=>none
theorem zdk {a lo hi:Int} (h:btw a lo hi=true):lo≤a∧a≤hi:=by
 unfold btw at h
 simpa using h
theorem zaE {x:Ent} (h:x.formed=true):(0≤x.day∧x.day≤100000)∧x=x.want∧x.okk=true:=by
 unfold Ent.formed at h
 simp only[Bool.and_eq_true,decide_eq_true_eq]at h
 exact⟨zdk h.2,h.1.2,h.1.1⟩
theorem zkS {w:Wv} (h:zbv w=true):(1≤w.id∧w.id≤500)∧(1≤w.signer∧w.signer≤1000000)∧(1≤w.giver∧w.giver≤1000000)∧(1≤w.taker∧w.taker≤1000000)∧(0≤w.under∧w.under≤1000000)∧(0≤w.over∧w.over≤1000000)∧(0≤w.day∧w.day≤100000)∧(0≤w.since∧w.since≤100000)∧(0≤w.til∧w.til≤100000):=by
 unfold zbv zbc at h
 simp only[Bool.and_eq_true,Bool.or_eq_true,decide_eq_true_eq]at h
 obtain⟨⟨⟨⟨⟨⟨a1,a2⟩,a3⟩,a4⟩,_⟩,⟨⟨b1,b2⟩,_⟩⟩,⟨⟨⟨c1,c2⟩,c3⟩,c4⟩⟩:=h
 have a1:=zdk a1
 have a2:=zdk a2
 have a3:=zdk a3
 have a4:=zdk a4
 have c1:=zdk c1
 have b1:0≤w.under∧w.under≤1000000:=by
  rcases b1 with h|h
  ·omega
  ·have:=zdk h;omega
 have b2:0≤w.over∧w.over≤1000000:=by
  rcases b2 with h|h
  ·omega
  ·have:=zdk h;omega
 exact⟨a1,a2,a3,a4,b1,b2,c1,by omega,by omega⟩
theorem zbe {x:Ent} (h:zcu x=true):(1≤x.g.id∧x.g.id≤500)∧(1≤x.g.frm∧x.g.frm≤1000000)∧(1≤x.g.to∧x.g.to≤1000000)∧x.g.frm≠x.g.to∧(0≤x.g.ret∧x.g.ret≤500)∧x.g.ret≠x.g.id∧x.g.day=x.day∧(1≤(x.g.cur:Int)∧(x.g.cur:Int)≤2)∧(1≤x.g.n∧x.g.n≤1000000):=by
 unfold zcu zbc at h
 simp only[Bool.and_eq_true,Bool.not_eq_true',decide_eq_true_eq,decide_eq_false_iff_not]at h
 obtain⟨⟨⟨⟨⟨⟨a1,a2⟩,a3⟩,a4⟩,a5⟩,a6⟩,⟨⟨b1,b2⟩,b3⟩⟩:=h
 exact⟨zdk a1,zdk a2,zdk a3,a4,zdk a5,a6,b1,zdk b2,zdk b3⟩
theorem zbT {x:Ent} (h:x.formed=true) :
 (∃k a n,(k=1∨k=2)∧x=⟨k,x.day,wv0,gf0,a,0,n⟩∧(1≤a∧a≤1000000)∧(1≤n∧n≤1000000000000)) ∨
 (∃w,x=⟨3,x.day,w,gf0,0,0,0⟩∧zbv w=true∧w.day=x.day) ∨
 (∃i,x=⟨4,x.day,{ wv0 with id:=i },gf0,0,0,0⟩∧1≤i∧i≤500) ∨
 (∃i f t c n r,x=⟨5,x.day,wv0,⟨i,x.day,f,t,c,n,0,0,0,r⟩,0,0,0⟩∧zcu x=true) ∨
 (∃k i,(k=6∨k=7)∧x=⟨k,x.day,wv0,{ gf0 with id:=i },0,0,0⟩∧1≤i∧i≤500):=by
 obtain⟨_,hw,hk⟩:=zaE h
 unfold Ent.okk at hk
 by_cases c1:x.kind=1
 ·rw[if_pos c1,Bool.and_eq_true]at hk
  have b1:=zdk hk.1
  have b2:=zdk hk.2
  refine .inl ⟨x.kind,x.a,x.n,.inl c1,?_,by omega,by omega⟩
  unfold Ent.want at hw
  rw[if_pos (.inl c1)]at hw
  exact hw
 rw[if_neg c1]at hk
 by_cases c2:x.kind=2
 ·rw[if_pos c2,Bool.and_eq_true]at hk
  have b1:=zdk hk.1
  have b2:=zdk hk.2
  refine .inl ⟨x.kind,x.a,x.n,.inr c2,?_,by omega,by omega⟩
  unfold Ent.want at hw
  rw[if_pos (.inr c2)]at hw
  exact hw
 rw[if_neg c2]at hk
 have c12:¬ (x.kind=1∨x.kind=2):=by omega
 unfold Ent.want at hw
 rw[if_neg c12]at hw
 by_cases c3:x.kind=3
 ·rw[if_pos c3,Bool.and_eq_true,decide_eq_true_eq]at hk
  rw[if_pos c3,c3]at hw
  exact .inr (.inl ⟨x.w,hw,hk.1,hk.2⟩)
 rw[if_neg c3]at hk hw
 by_cases c4:x.kind=4
 ·rw[if_pos c4]at hk
  rw[if_pos c4,c4]at hw
  exact .inr (.inr (.inl ⟨x.w.id,hw,zdk hk⟩))
 rw[if_neg c4]at hk hw
 by_cases c5:x.kind=5
 ·rw[if_pos c5]at hk
  rw[if_pos c5,c5]at hw
  have hd:=(zbe hk).2.2.2.2.2.2.1
  refine .inr (.inr (.inr (.inl ⟨x.g.id,x.g.frm,x.g.to,x.g.cur,x.g.n,x.g.ret,?_,hk⟩)))
  rw[hd]at hw
  exact hw
 rw[if_neg c5]at hk hw
 by_cases c6:x.kind=6∨x.kind=7
 ·rw[if_pos c6]at hk
  rw[if_pos c6]at hw
  exact .inr (.inr (.inr (.inr ⟨x.kind,x.g.id,c6,hw,zdk hk⟩)))
 ·rw[if_neg c6]at hk
  cases hk
theorem zcP {x:Ent} (h:x.formed=true):∀v∈x.vals,0≤v∧v≤1000000000000:=by
 have hd:=(zaE h).1
 rcases zbT h with⟨k,a,n,hk,hx,h1,h2⟩|⟨w,hx,h1,_⟩|⟨i,hx,h1,h2⟩|⟨i,f,t,c,n,r,hx,ho⟩|⟨k,i,hk,hx,h1,h2⟩
 ·rw[hx]
  intro v hv
  unfold Ent.vals at hv
  rw[if_pos hk]at hv
  simp only[List.mem_cons,List.not_mem_nil,or_false]at hv
  omega
 ·have:=zkS h1
  rw[hx]
  intro v hv
  simp only[Ent.vals,Nat.reduceEqDiff,or_self,if_false,if_true,List.mem_cons,List.not_mem_nil,or_false]at hv
  omega
 ·rw[hx]
  intro v hv
  simp only[Ent.vals,Nat.reduceEqDiff,or_self,if_false,if_true,List.mem_cons,List.not_mem_nil,or_false]at hv
  omega
 ·have:=zbe ho
  rw[hx]at this ⊢
  simp only at this
  intro v hv
  simp only[Ent.vals,Nat.reduceEqDiff,or_self,if_false,if_true,List.mem_cons,List.not_mem_nil,or_false]at hv
  omega
 ·rw[hx]
  intro v hv
  unfold Ent.vals at hv
  simp only at hv
  rw[if_neg (by omega),if_neg (by omega),if_neg (by omega),if_neg (by omega)]at hv
  simp only[List.mem_cons,List.not_mem_nil,or_false]at hv
  omega
theorem zoi:∀{first:List Nat} {ns:List Int},32 ∉ first→(∀n∈ns,0≤n)→zaM 32 (first++zcI ns)=first::ns.map itoa:=fun hf h=>zig hf h
theorem zoa:∀k:Fin 8,32 ∉ zas k.val:=by decide
theorem zbf {x:Ent} (h:x.formed=true):1≤x.kind∧x.kind≤7:=by
 rcases zbT h with⟨k,a,n,hk,hx,_⟩|⟨w,hx,_⟩|⟨i,hx,_⟩|⟨i,f,t,c,n,r,hx,_⟩|⟨k,i,hk,hx,_⟩<;>rw[hx]<;>simp only<;>omega
theorem zhg {x:Ent} (h:x.formed=true):zaM 32 x.text=x.words:=by
 have hd:=(zaE h).1
 have hk:=zbf h
 have h1:32 ∉ itoa x.day:=fun hm=>by have:=zki hd.1 _ hm;omega
 have h2:32 ∉ zas x.kind:=zoa ⟨x.kind,by omega⟩
 unfold Ent.text Ent.words
 rw[List.append_assoc,List.append_assoc,List.singleton_append,zdI h1,zoi h2 fun v hv=>(zcP h v hv).1]
theorem zle {n:Int} (h0:0≤n) (h1:n≤1000000000000):num1 (itoa n)=some n:=by
 unfold num1
 rw[zoU h0 (by omega)]
theorem zlm:∀k:Fin 8,1≤k.val→zbN (zas k.val)=k.val:=by decide
theorem zjj:∀{ns:List Int} (pre:List (List Nat)),(∀n∈ns,0≤n∧n≤1000000000000)→zaR (pre++ns.map itoa) pre.length ns.length=some ns
 |[],pre,_=>rfl
 |n::ns,pre,h=>by
  have hn:=h n (by simp)
  have e:pre++(n::ns).map itoa=(pre++[itoa n])++ns.map itoa:=by simp
  have ih:=zjj (ns:=ns) (pre++[itoa n]) fun m hm=>h m (by simp[hm])
  rw[List.length_cons,zaR]
  have ha:zcC (pre++(n::ns).map itoa) pre.length=some n:=by
   unfold zcC
   rw[List.getElem?_append_right (Nat.le_refl _),Nat.sub_self,List.map_cons,List.getElem?_cons_zero]
   exact zle hn.1 hn.2
  rw[ha,e]
  rw[show (pre++[itoa n]).length=pre.length+1 by simp]at ih
  rw[ih];rfl
theorem zmy {x:Ent} (h:x.formed=true):zbQ x.words=some x:=by
 have hd:=(zaE h).1
 have hk:=zbf h
 have hv:=zcP h
 have h0:zcC x.words 0=some x.day:=by
  unfold zcC Ent.words
  rw[List.getElem?_cons_zero]
  exact zle hd.1 (by omega)
 have hkv:zbN (zas x.kind)=x.kind:=zlm ⟨x.kind,by omega⟩ hk.1
 have hns:zaR x.words 2 x.vals.length=some x.vals:=zjj (pre:=[itoa x.day,zas x.kind]) hv
 have hn1:∀v,x.vals=[v]→zcC x.words 2=some v:=by
  intro v hvs
  rw[hvs]at hns
  simp only[List.length_cons,List.length_nil,zaR]at hns
  split at hns
  ·rename_i n hn
   rw[hn]
   simp at hns
   rw[hns]
  ·cases hns
 unfold zbQ
 rw[h0]
 have h1:x.words[1]? = some (zas x.kind):=rfl
 simp only[h1,hkv]
 rcases zbT h with⟨k,a,n,hk2,hx,_⟩|⟨w,hx,_,hwd⟩|⟨i,hx,_⟩|⟨i,f,t,c,n,r,hx,ho⟩|⟨k,i,hk2,hx,_⟩
 ·have ek:x.kind=k:=by rw[hx]
  have ev:x.vals=[a,n]:=by rw[hx];unfold Ent.vals;rw[if_pos hk2]
  rw[ev]at hns
  have hns:zaR x.words 2 2=some [a,n]:=hns
  unfold zeq
  rw[ek,if_pos hk2,hns]
  exact congrArg some hx.symm
 ·have ek:x.kind=3:=by rw[hx]
  have ev:x.vals=[w.id,w.signer,w.giver,w.taker,w.under,w.over,w.since,w.til]:=by rw[hx];rfl
  rw[ev]at hns
  have hns:zaR x.words 2 8=some [w.id,w.signer,w.giver,w.taker,w.under,w.over,w.since,w.til]:=hns
  unfold zeq
  rw[ek,if_neg (by omega),if_pos rfl,hns]
  simp only
  rw[← hwd]at hx ⊢
  rw[hwd]
  rw[hwd]at hx
  refine congrArg some (Eq.trans ?_ hx.symm)
  rw[← hwd]
 ·have ek:x.kind=4:=by rw[hx]
  have ev:x.vals=[i]:=by rw[hx];rfl
  unfold zeq
  rw[ek,if_neg (by omega),if_neg (by omega),if_pos rfl,hn1 i ev]
  exact congrArg some hx.symm
 ·have ek:x.kind=5:=by rw[hx]
  have ev:x.vals=[i,f,t,(c:Int),n,r]:=by rw[hx];rfl
  rw[ev]at hns
  have hns:zaR x.words 2 6=some [i,f,t,(c:Int),n,r]:=hns
  have hc:1≤(c:Int)∧(c:Int)≤2:=by
   have:=(zbe ho).2.2.2.2.2.2.2.1
   rw[hx]at this
   exact this
  unfold zeq
  rw[ek,if_neg (by omega),if_neg (by omega),if_neg (by omega),if_pos rfl,hns]
  simp only
  rw[if_pos (by omega)]
  exact congrArg some hx.symm
 ·have ek:x.kind=k:=by rw[hx]
  have ev:x.vals=[i]:=by
   rw[hx];unfold Ent.vals;simp only
   rw[if_neg (by omega),if_neg (by omega),if_neg (by omega),if_neg (by omega)]
  unfold zeq
  rw[ek,if_neg (by omega),if_neg (by omega),if_neg (by omega),if_neg (by omega),if_pos hk2,hn1 i ev]
  exact congrArg some hx.symm
theorem zol {x:Ent} (h:x.formed=true):zcf x.text=some x:=by
 unfold zcf
 rw[zhg h,zmy h]
 simp only[h,and_self,if_true]
theorem zcR {line:List Nat} {x:Ent} (h:zcf line=some x):x.formed=true∧x.text=line:=by
 unfold zcf at h
 split at h<;>try cases h
 split at h<;>try cases h
 assumption
def zgc (line:List Nat):Option Ent→Option Ent
 |some x=>if x.formed=true∧x.text=line then some x else none
 |none=>none
theorem zjg (line:List Nat):zcf line=zgc line (zbQ (zaM 32 line)):=by
 unfold zcf zgc
 cases zbQ (zaM 32 line)<;>rfl
theorem readE_by {line:List Nat} {p:Option Ent} (hp:∀x:Ent,x.formed=true→x.text=line→p=some x):zgc line p=zcf line:=by
 cases hr:zcf line with
 |some x=>
  obtain⟨h1,h2⟩:=zcR hr
  rw[hp x h1 h2]
  simp only[zgc,h1,h2,and_self,if_true]
 |none=>
  cases p with
  |none=>rfl
  |some x=>
   simp only[zgc]
   rw[if_neg]
   rintro⟨h1,h2⟩
   have:=zol h1
   rw[h2,hr]at this
   cases this
end Go.Air
set_option maxRecDepth 100000
namespace Go.Air
open Go.Air.Try
def Wv.cells (w:Wv):List V:=[.i .i64 w.id,.i .i64 w.day,.i .i64 w.signer,.i .i64 w.giver,.i .i64 w.taker,.i .i64 w.under,.i .i64 w.over,.i .i64 w.since,.i .i64 w.til]
def Gf.cells (g:Gf):List V:=[.i .i64 g.id,.i .i64 g.day,.i .i64 g.frm,.i .i64 g.to,.i .u8 (g.cur:Int),.i .i64 g.n,.i .i64 g.worth,.i .u8 (g.st:Int),.i .i64 g.ans,.i .i64 g.ret]
def Ent.cells (x:Ent):List V:=[.i .u8 (x.kind:Int),.i .i64 x.day,.i .i64 x.w.id,.i .i64 x.w.day,.i .i64 x.w.signer,.i .i64 x.w.giver,.i .i64 x.w.taker,.i .i64 x.w.under,.i .i64 x.w.over,.i .i64 x.w.since,.i .i64 x.w.til,
 .i .i64 x.g.id,.i .i64 x.g.day,.i .i64 x.g.frm,.i .i64 x.g.to,.i .u8 (x.g.cur:Int),.i .i64 x.g.n,.i .i64 x.g.worth,.i .u8 (x.g.st:Int),.i .i64 x.g.ans,.i .i64 x.g.ret,.i .i64 x.a,.i .i64 x.b,.i .i64 x.n]
def zE:List V:=[.i .u8 0]++List.replicate 14 (.i .i64 0)++[.i .u8 0]++[.i .i64 0,.i .i64 0]++[.i .u8 0]++[.i .i64 0,.i .i64 0,.i .i64 0,.i .i64 0,.i .i64 0]
theorem zaI (x:Ent):x.cells.length=24:=rfl
theorem wv_one (w:Wv):∀u∈w.cells,u.oneCell=true:=by
 intro u hu
 simp only[Wv.cells,List.mem_cons,List.not_mem_nil,or_false]at hu
 rcases hu with rfl|rfl|rfl|rfl|rfl|rfl|rfl|rfl|rfl<;>rfl
theorem zdN (g:Gf):∀u∈g.cells,u.oneCell=true:=by
 intro u hu
 simp only[Gf.cells,List.mem_cons,List.not_mem_nil,or_false]at hu
 rcases hu with rfl|rfl|rfl|rfl|rfl|rfl|rfl|rfl|rfl|rfl<;>rfl
theorem zby (x:Ent):∀u∈x.cells,u.oneCell=true:=by
 intro u hu
 simp only[Ent.cells,List.mem_cons,List.not_mem_nil,or_false]at hu
 rcases hu with rfl|rfl|rfl|rfl|rfl|rfl|rfl|rfl|rfl|rfl|rfl|rfl|rfl|rfl|rfl|rfl|rfl|rfl|rfl|rfl|rfl|rfl|rfl|rfl<;>rfl
structure Ent.Ok (x:Ent):Prop where
 kind:x.kind<256
 cur:x.g.cur<256
 st:x.g.st<256
 day:I64 x.day
 ws:∀n∈[x.w.id,x.w.day,x.w.signer,x.w.giver,x.w.taker,x.w.under,x.w.over,x.w.since,x.w.til],I64 n
 gs:∀n∈[x.g.id,x.g.day,x.g.frm,x.g.to,x.g.n,x.g.worth,x.g.ans,x.g.ret],I64 n
 abn:∀n∈[x.a,x.b,x.n],I64 n
section
variable {S Sp:V→H→Prop} {h:H}
theorem t2057:tb1 57=some a57:=by kernel_rfl
theorem t2158:tb1 158=some a158:=by kernel_rfl
theorem t2215:tb1 215=some a215:=by kernel_rfl
theorem t2159:tb1 159=some a159:=by kernel_rfl
theorem zcK {a b c:Int}:WX tb1 (.fn 57 [] []) [.i .i64 a,.i .i64 b,.i .i64 c] h S Sp↔S (.b (btw a b c)) h:=by
 rw[zay t2057]
 unfold btw
 by_cases h1:b≤a
 ·simp only[go_sem,↓reduceIte,r57_0,r57_1,h1]
  rfl
 ·simp only[go_sem,↓reduceIte,r57_0,r57_1,h1]
  rfl
theorem zcE {a:Int}:WX tb1 (.fn 158 [] []) [.i .i64 a] h S Sp↔S (.b (zbc a)) h:=by
 rw[zay t2158]
 simp only[go_sem,↓reduceIte,r158_0,r158_1,zcK]
 rfl
def zjZ (n:Int):Bool:=decide (n=0)||zbc n
theorem zgS {a:Int}:WX tb1 (.fn 215 [] []) [.i .i64 a] h S Sp↔S (.b (zjZ a)) h:=by
 rw[zay t2215]
 unfold zjZ
 by_cases h1:a=0
 ·simp only[go_sem,↓reduceIte,r215_0,r215_1,h1]
  rfl
 ·simp only[go_sem,↓reduceIte,r215_0,r215_1,h1,zcE]
  rfl
def zhK (w:Wv):Bool:=btw w.id 1 500&&zbc w.signer&&zbc w.giver&&zbc w.taker && !decide (w.giver=w.taker)
def zkD (w:Wv):Bool:=(decide (w.under=0)||zbc w.under)&&(decide (w.over=0)||zbc w.over)&&(decide (w.under=0) || !decide (w.under=w.over))
def w159c (w:Wv):Bool:=btw w.day 0 100000&&decide (w.day≤w.since)&&decide (w.since<w.til)&&decide (w.til≤100000)
theorem zpu (w:Wv):zbv w=((zhK w&&zkD w)&&w159c w):=rfl
theorem fn_right {w:Wv}:WC tb1 (.fn 159 [] []) [.agg w.cells] h fun u h'=>u=.b (zbv w)∧Ext h h':=by
 refine (zay t2159).2 ?_
 have e1:Ext h (h.new (.cells w.cells)):=(Ext.refl h).new _
 have g:(h.new (.cells w.cells)).get h.next=some (.cells w.cells):=zac rfl
 have hc:(V.agg w.cells).cells=w.cells:=rfl
 have l0:ldV (h.new (.cells w.cells)) (.p h.next 0)=some (.i .i64 w.id):=zad g rfl
 have l1:ldV (h.new (.cells w.cells)) (.p h.next 1)=some (.i .i64 w.day):=zad g rfl
 have l2:ldV (h.new (.cells w.cells)) (.p h.next 2)=some (.i .i64 w.signer):=zad g rfl
 have l3:ldV (h.new (.cells w.cells)) (.p h.next 3)=some (.i .i64 w.giver):=zad g rfl
 have l4:ldV (h.new (.cells w.cells)) (.p h.next 4)=some (.i .i64 w.taker):=zad g rfl
 have l5:ldV (h.new (.cells w.cells)) (.p h.next 5)=some (.i .i64 w.under):=zad g rfl
 have l6:ldV (h.new (.cells w.cells)) (.p h.next 6)=some (.i .i64 w.over):=zad g rfl
 have l7:ldV (h.new (.cells w.cells)) (.p h.next 7)=some (.i .i64 w.since):=zad g rfl
 have l8:ldV (h.new (.cells w.cells)) (.p h.next 8)=some (.i .i64 w.til):=zad g rfl
 simp only[go_sem,↓reduceIte,r159_0,r159_1,hc]
 generalize h.new (.cells w.cells)=h1 at e1 g l0 l1 l2 l3 l4 l5 l6 l7 l8
 have A:∀{Q:Out→List V→H→Prop} {t:List V},t.length=81→nth t 1=.p h.next 0→nth t 3=.fn 215 [] [] →
  (∀t',t'.length=81→nth t' 1=.p h.next 0→nth t' 3=.fn 215 [] []→nth t' 4=.b (zhK w)→Q .norm t' h1)→WL tb1 r159_2 t h1 Q:=by
  intro Q t tl t1 t3 K
  have fin:∀(t':List V) (c:Bool),t'.length=81→nth t' 1=.p h.next 0→nth t' 3=.fn 215 [] []→nth t' 4=.b c→c=zhK w→Q .norm t' h1:=fun t' c a1 a2 a3 a4 a5=>K t' a1 a2 a3 (a5▸a4)
  cases c1:btw w.id 1 500
  ·simp only[go_sem,↓reduceIte,r159_2,tl,t1,l0,zcK,c1]
   exact fin _ false (by simp only[go_sem,↓reduceIte,tl]) (by simp only[go_sem,↓reduceIte,tl,t1]) (by simp only[go_sem,↓reduceIte,tl,t3]) (by simp only[go_sem,↓reduceIte,tl]) (by simp[zhK,c1])
  cases c2:zbc w.signer
  ·simp only[go_sem,↓reduceIte,r159_2,tl,t1,l0,l2,zcK,zcE,c1,c2]
   exact fin _ false (by simp only[go_sem,↓reduceIte,tl]) (by simp only[go_sem,↓reduceIte,tl,t1]) (by simp only[go_sem,↓reduceIte,tl,t3]) (by simp only[go_sem,↓reduceIte,tl]) (by simp[zhK,c2])
  cases c3:zbc w.giver
  ·simp only[go_sem,↓reduceIte,r159_2,tl,t1,l0,l2,l3,zcK,zcE,c1,c2,c3]
   exact fin _ false (by simp only[go_sem,↓reduceIte,tl]) (by simp only[go_sem,↓reduceIte,tl,t1]) (by simp only[go_sem,↓reduceIte,tl,t3]) (by simp only[go_sem,↓reduceIte,tl]) (by simp[zhK,c3])
  cases c4:zbc w.taker
  ·simp only[go_sem,↓reduceIte,r159_2,tl,t1,l0,l2,l3,l4,zcK,zcE,c1,c2,c3,c4]
   exact fin _ false (by simp only[go_sem,↓reduceIte,tl]) (by simp only[go_sem,↓reduceIte,tl,t1]) (by simp only[go_sem,↓reduceIte,tl,t3]) (by simp only[go_sem,↓reduceIte,tl]) (by simp[zhK,c4])
  simp only[go_sem,↓reduceIte,r159_2,tl,t1,l0,l2,l3,l4,zcK,zcE,c1,c2,c3,c4]
  exact fin _ (!decide (w.giver=w.taker)) (by simp only[go_sem,↓reduceIte,tl]) (by simp only[go_sem,↓reduceIte,tl,t1]) (by simp only[go_sem,↓reduceIte,tl,t3]) (by simp only[go_sem,↓reduceIte,tl]) (by simp[zhK,c1,c2,c3,c4])
 have B:∀{Q:Out→List V→H→Prop} {t:List V},t.length=81→nth t 1=.p h.next 0→nth t 3=.fn 215 [] []→nth t 4=.b (zhK w) →
  (∀t',t'.length=81→nth t' 1=.p h.next 0→nth t' 4=.b (zhK w)→nth t' 5=.b (zkD w)→Q .norm t' h1)→WL tb1 r159_3 t h1 Q:=by
  intro Q t tl t1 t3 t4 K
  have fin:∀(t':List V) (c:Bool),t'.length=81→nth t' 1=.p h.next 0→nth t' 4=.b (zhK w)→nth t' 5=.b c→c=zkD w→Q .norm t' h1:=fun t' c a1 a2 a3 a4 a5=>K t' a1 a2 a3 (a5▸a4)
  cases c1:zjZ w.under
  ·have d1:(decide (w.under=0)||zbc w.under)=false:=c1
   simp only[go_sem,↓reduceIte,r159_3,tl,t1,t3,l5,zgS,c1]
   exact fin _ false (by simp only[go_sem,↓reduceIte,tl]) (by simp only[go_sem,↓reduceIte,tl,t1]) (by simp only[go_sem,↓reduceIte,tl,t4]) (by simp only[go_sem,↓reduceIte,tl]) (by unfold zkD;rw[d1];rfl)
  have d1:(decide (w.under=0)||zbc w.under)=true:=c1
  cases c2:zjZ w.over
  ·have d2:(decide (w.over=0)||zbc w.over)=false:=c2
   simp only[go_sem,↓reduceIte,r159_3,tl,t1,t3,l5,l6,zgS,c1,c2]
   exact fin _ false (by simp only[go_sem,↓reduceIte,tl]) (by simp only[go_sem,↓reduceIte,tl,t1]) (by simp only[go_sem,↓reduceIte,tl,t4]) (by simp only[go_sem,↓reduceIte,tl]) (by unfold zkD;rw[d1,d2];rfl)
  have d2:(decide (w.over=0)||zbc w.over)=true:=c2
  by_cases c3:w.under=0
  ·have c3':decide (w.under=0)=true:=decide_eq_true c3
   simp only[go_sem,↓reduceIte,r159_3,tl,t1,t3,l5,l6,zgS,c1,c2,c3']
   exact fin _ true (by simp only[go_sem,↓reduceIte,tl]) (by simp only[go_sem,↓reduceIte,tl,t1]) (by simp only[go_sem,↓reduceIte,tl,t4]) (by simp only[go_sem,↓reduceIte,tl]) (by unfold zkD;rw[d1,d2];simp[c3])
  ·simp only[go_sem,↓reduceIte,r159_3,tl,t1,t3,l5,l6,zgS,c1,c2,c3]
   exact fin _ (!decide (w.under=w.over)) (by simp only[go_sem,↓reduceIte,tl]) (by simp only[go_sem,↓reduceIte,tl,t1]) (by simp only[go_sem,↓reduceIte,tl,t4]) (by simp only[go_sem,↓reduceIte,tl]) (by unfold zkD;rw[d1,d2];simp[c3])
 refine A rfl rfl rfl ?_
 intro t tl t1 t3 t4
 simp only[go_sem,↓reduceIte]
 refine B tl t1 t3 t4 ?_
 clear t4 t3 t1 tl t
 intro t tl t1 t4 t5
 rw[zpu]
 unfold w159c
 cases c1:zhK w
 ·simp only[go_sem,↓reduceIte,r159_4,tl,t1,t4,t5,c1]
  exact⟨by simp,e1⟩
 cases c2:zkD w
 ·simp only[go_sem,↓reduceIte,r159_4,tl,t1,t4,t5,c1,c2]
  exact⟨by simp,e1⟩
 cases c3:btw w.day 0 100000
 ·simp only[go_sem,↓reduceIte,r159_4,tl,t1,t4,t5,c1,c2,c3,l1,zcK]
  exact⟨by simp,e1⟩
 by_cases c4:w.day≤w.since
 rotate_left
 ·simp only[go_sem,↓reduceIte,r159_4,tl,t1,t4,t5,c1,c2,c3,c4,l1,l7,zcK]
  exact⟨by simp,e1⟩
 by_cases c5:w.since<w.til
 rotate_left
 ·simp only[go_sem,↓reduceIte,r159_4,tl,t1,t4,t5,c1,c2,c3,c4,c5,l1,l7,l8,zcK]
  exact⟨by simp,e1⟩
 simp only[go_sem,↓reduceIte,r159_4,tl,t1,t4,t5,c1,c2,c3,c4,c5,l1,l7,l8,zcK]
 exact⟨by simp,e1⟩
end
end Go.Air
set_option maxRecDepth 100000
namespace Go.Air
open Go.Air.Try
theorem zpv (z:V):∀n,rep [z] n=List.replicate n z
 |0=>rfl
 |n+1=>by rw[rep,zpv z n];rfl
section
variable {h:H}
theorem mkSl_ok {z:V} {n bytes:Nat} (hb:bytes≤64) (hn:n≤2000000000):mkSlR h [z] bytes (some n) (some n)=.ok (.sl h.next 0 n n none) (h.new (.cells (List.replicate n z))):=by
 have h1:Nat.ble n n=true:=by rw[Nat.ble_eq];exact Nat.le_refl _
 have h2:Nat.ble n 281474976710656=true:=by rw[Nat.ble_eq];omega
 have h3:Nat.ble (bytes*n) 281474976710656=true:=by
  rw[Nat.ble_eq]
  have:bytes*n≤64*2000000000:=Nat.mul_le_mul hb hn
  omega
 simp only[mkSlR,h1,h2,h3,Bool.and_self,if_true,zpv]
theorem set_next {pre:List (List Nat)} {k:Nat} {w:List Nat} {z:V}:(pre.map V.s++List.replicate (k+1) z).set pre.length (.s w)=(pre++[w]).map V.s++List.replicate k z:=by
 have h1:(pre.map V.s).length=pre.length:=by simp
 rw[List.set_eq_take_append_cons_drop,if_pos (by simp)]
 rw[List.take_left' h1,List.map_append,List.append_assoc]
 congr 1
 rw[← List.drop_drop,List.drop_left' h1]
 simp
structure SplitR (h:H) (u:V) (h':H) (ws:List (List Nat)):Prop where
 ext:Ext h h'
 eq:u=.sl h.next 0 ws.length ws.length none
 nx:h.next<h'.next
 get:h'.get h.next=some (.cells (ws.map V.s))
structure M268 (h hh:H) (l:List Nat) (c n:Nat) (pre:List (List Nat)) (s:List Nat):Prop where
 ext:Ext h hh
 nx:h.next<hh.next
 get:hh.get h.next=some (.cells (pre.map V.s++List.replicate (n+1-pre.length) (.s [])))
 eq:zaM c l=pre++zaM c s
 cnt:s.countP (Nat.beq c)+pre.length=n
 len:s.length≤l.length
theorem M268.put {h hh:H} {l:List Nat} {c n:Nat} {pre:List (List Nat)} {s w:List Nat} (q:M268 h hh l c n pre s):stV hh 1 (.p h.next (0+pre.length*1)) (.s w)=some (hh.put h.next (.cells ((pre++[w]).map V.s++List.replicate (n-pre.length) (.s [])))):=by
 have hle:pre.length≤n:=by have:=q.cnt;omega
 have:=zdF (x:=.s w) (i:=pre.length) q.get (by simp;omega) rfl rfl
 rw[this,show n+1-pre.length=(n-pre.length)+1 by omega,set_next]
variable {S Sp:V→H→Prop}
end
end Go.Air
set_option maxRecDepth 100000
namespace Go.Air
open Go.Air.Try
structure Ch (b:Nat) (h h':H):Prop where
 nx:h.next≤h'.next
 same:∀c,c<h.next→c≠b→h'.get c=h.get c
 log:∃l,h'.log=l++h.log∧∀x∈l,h.next≤x∨x=b
theorem Ch.put {b:Nat} {h h':H} (q:Ch b h h') (x:Blk):Ch b h (h'.put b x):=by
 obtain⟨l,h1,h2⟩:=q.log
 refine⟨q.nx,fun c hc hb=>by rw[zaa hb];exact q.same c hc hb,b::l,by simp[h1],fun y hy => ?_⟩
 rcases List.mem_cons.1 hy with rfl|hy
 ·exact .inr rfl
 ·exact h2 y hy
theorem Ch.then {b:Nat} {h h1 h2:H} (q:Ch b h h1) (e:Ext h1 h2):Ch b h h2:=by
 obtain⟨l,a1,a2⟩:=q.log
 obtain⟨m,b1,b2⟩:=e.log
 refine⟨Nat.le_trans q.nx e.nx,fun c hc hb=>(e.same c (Nat.lt_of_lt_of_le hc q.nx)).trans (q.same c hc hb),m++l,by rw[b1,a1,List.append_assoc],fun x hx => ?_⟩
 rcases List.mem_append.1 hx with hx|hx
 ·exact .inl (Nat.le_trans q.nx (b2 x hx))
 ·exact a2 x hx
theorem Ch.ext {b:Nat} {h0 h h':H} (q:Ch b h h') (e:Ext h0 h) (hb:h0.next≤b):Ext h0 h':=by
 obtain⟨l,a1,a2⟩:=q.log
 obtain⟨m,b1,b2⟩:=e.log
 refine⟨Nat.le_trans e.nx q.nx,fun c hc=>(q.same c (Nat.lt_of_lt_of_le hc e.nx) (by omega)).trans (e.same c hc),l++m,by rw[a1,b1,List.append_assoc],fun x hx => ?_⟩
 rcases List.mem_append.1 hx with hx|hx
 ·rcases a2 x hx with q'|rfl
  ·exact Nat.le_trans e.nx q'
  ·exact hb
 ·exact b2 x hx
theorem Ch.tb {b:Nat} {h h':H} (q:Ch b h h') (t:Tb4 h) (hb:zcV≤b):Tb4 h':=by
 have key:∀c∈fixB,h'.get c=h.get c:=fun c hc=>q.same _ (Nat.lt_of_lt_of_le (zjt hc) t.lt) (by have:=zjt hc;omega)
 exact⟨Nat.le_trans t.lt q.nx,by rw[key _ zjQ];exact t.is,by rw[key _ zmi];exact t.syn,by rw[key _ zmp];exact t.rng⟩
section
variable {h:H}
theorem zqJ {t:List V}:fill t [] []=some []:=rfl
theorem eqi_00:eqV .iface .in0 .in0=some true:=rfl
theorem eqi_v0 {t:Nat} {v:V}:eqV .iface (.ifc t v) .in0=some false:=rfl
theorem prim3 {l:List Nat} (ht:Tb4 h) (hl:l.length≤1000000):zcg 3 (pad [.s l] 1) h=match ziU l with
 |.ok n=>some (.tup [.i .i64 n,.in0],none)
 |Lib.NumEnd.syntax=>some (.tup [.i .i64 0,.ifc zfY (.p h.next 0)],some (.ro [none,none,none]))
 |.range=>some (.tup [.i .i64 (Lib.atoiSat (l.map UInt8.ofNat)),.ifc zfY (.p h.next 0)],some (.ro [none,none,none])):=by
 have h1:Nat.ble l.length 281474976710656=true:=by rw[Nat.ble_eq];omega
 show (if zhl (h.get zgE)&&(zhl (h.get zgJ)&&Nat.ble l.length 281474976710656) then _ else none)=_
 rw[ht.syn,ht.rng,h1]
 rfl
theorem zoN {S Sp:V→H→Prop} {l:List Nat} {n:Int} (ht:Tb4 h) (hl:l.length≤1000000) (he:ziU l=.ok n):WX tb1 (.fn 55 [] []) [.s l] h S Sp↔S (.tup [.i .i64 n,.in0]) h:=by
 refine zeY (m:=1) (n:=3) (b:=none) rfl ?_
 show zcg 3 (pad [.s l] 1) h=_
 rw[prim3 ht hl,he]
theorem zmL {l:List Nat} (ht:Tb4 h) (hl:l.length≤1000000) (he:∀n,ziU l≠.ok n):∃x:Int,∀(S Sp:V→H→Prop),WX tb1 (.fn 55 [] []) [.s l] h S Sp↔S (.tup [.i .i64 x,.ifc zfY (.p h.next 0)]) (h.new (.ro [none,none,none])):=by
 cases hq:ziU l with
 |ok n=>exact (he n hq).elim
 |range=>
  refine⟨Lib.atoiSat (l.map UInt8.ofNat),fun S Sp=>zeY (m:=1) (n:=3) (b:=some (.ro [none,none,none])) rfl ?_⟩
  show zcg 3 (pad [.s l] 1) h=_
  rw[prim3 ht hl,hq]
 |_=>
  refine⟨0,fun S Sp=>zeY (m:=1) (n:=3) (b:=some (.ro [none,none,none])) rfl ?_⟩
  show zcg 3 (pad [.s l] 1) h=_
  rw[prim3 ht hl,hq]
structure M92 (h1 hh:H) (u:V) (ns:List Int):Prop where
 ext:Ext h1 hh
 own:Own h1 1 hh u ns.length (ns.map (V.i .i64))
theorem one_i {h0 hh:H} (e:Ext h0 hh) (n:Int):Sl 1 (hh.new (.cells [.i .i64 n])) (.sl hh.next 0 1 1 none) 1 [.i .i64 n]:=(Own.lit (esz:=1) e [.i .i64 n] 1 rfl).1.sl
theorem M92.app {h1 hh:H} {u:V} {ns:List Int} (q:M92 h1 hh u ns) (hn:ns.length≤2000000) (n:Int) :
 ∃u' h',zaX 1 8 (hh.new (.cells [.i .i64 n])) u (.sl hh.next 0 1 1 none)=.ok u' h'∧M92 h1 h' u' (ns++[n]):=by
 have e1:Ext h1 (hh.new (.cells [.i .i64 n])):=q.ext.new _
 obtain⟨v',h',q1,q2,q3,_⟩:=(q.own.ext ((Ext.refl hh).new _)).app (bytes:=8) e1 (one_i q.ext n) (by intro u hu;simp at hu;subst hu;rfl) (by omega) (by omega) (by omega)
 exact⟨v',h',q1,q2,by simpa using q3⟩
end
end Go.Air
set_option maxRecDepth 100000
namespace Go.Air
open Go.Air.Try
def ksE:List KT:=[.i .u8,.i .i64,.i .i64,.i .i64,.i .i64,.i .i64,.i .i64,.i .i64,.i .i64,.i .i64,.i .i64,.i .i64,.i .i64,.i .i64,.i .i64,.i .u8,.i .i64,.i .i64,.i .u8,.i .i64,.i .i64,.i .i64,.i .i64,.i .i64]
theorem zbA (x y:Ent):eqV (.agg ksE) (.agg x.cells) (.agg y.cells)=some (decide (x=y)):=by
 have h1:fitL ksE x.cells=true:=rfl
 have h2:fitL ksE y.cells=true:=rfl
 simp only[eqV,h1,h2,Bool.and_self,if_true]
 congr 1
 obtain⟨k,d,⟨w1,w2,w3,w4,w5,w6,w7,w8,w9⟩,⟨g1,g2,g3,g4,g5,g6,g7,g8,g9,g10⟩,a,b,n⟩:=x
 obtain⟨k',d',⟨w1',w2',w3',w4',w5',w6',w7',w8',w9'⟩,⟨g1',g2',g3',g4',g5',g6',g7',g8',g9',g10'⟩,a',b',n'⟩:=y
 simp only[Ent.cells,zaF,zbm,Bool.and_true,Ent.mk.injEq,Wv.mk.injEq,Gf.mk.injEq]
 rw[Bool.eq_iff_iff]
 simp only[Bool.and_eq_true,decide_eq_true_eq,Int.natCast_inj]
 constructor
 ·rintro⟨q1,q2,q3,q4,q5,q6,q7,q8,q9,q10,q11,q12,q13,q14,q15,q16,q17,q18,q19,q20,q21,q22,q23,q24⟩
  exact⟨q1,q2,⟨q3,q4,q5,q6,q7,q8,q9,q10,q11⟩,⟨q12,q13,q14,q15,q16,q17,q18,q19,q20,q21⟩,q22,q23,q24⟩
 ·rintro⟨q1,q2,⟨q3,q4,q5,q6,q7,q8,q9,q10,q11⟩,⟨q12,q13,q14,q15,q16,q17,q18,q19,q20,q21⟩,q22,q23,q24⟩
  exact⟨q1,q2,q3,q4,q5,q6,q7,q8,q9,q10,q11,q12,q13,q14,q15,q16,q17,q18,q19,q20,q21,q22,q23,q24⟩
theorem zaj {k j:Nat}:binV .eql (.i .u8 (k:Int)) (.i .u8 (j:Int))=some (.b (decide (k=j))):=by
 show some (V.b (decide ((k:Int)=(j:Int))))=_
 have:decide ((k:Int)=(j:Int))=decide (k=j):=decide_eq_decide.2 Int.natCast_inj
 rw[this]
def offA (x:Ent):Bool:=btw x.g.id 1 500&&zbc x.g.frm&&zbc x.g.to && !decide (x.g.frm=x.g.to)&&btw x.g.ret 0 500 && !decide (x.g.ret=x.g.id)
theorem zfe (x:Ent):zcu x=(offA x&&(decide (x.g.day=x.day)&&btw (x.g.cur:Int) 1 2&&btw x.g.n 1 1000000)):=rfl
theorem zcn {n:Nat} (h:n<256):zca .i64 (.i .u8 (n:Int))=some (.i .i64 (n:Int)):=by
 simp only[zca];rw[zap (by omega) (by omega)]
section
variable {h:H}
theorem t2096:tb1 96=some a96:=by kernel_rfl
theorem entL {hh:H} {b:Nat} {x:Ent} (g:hh.get b=some (.cells x.cells)) :
 ldV hh (.p b 0)=some (.i .u8 (x.kind:Int))∧ldV hh (.p b 1)=some (.i .i64 x.day)∧ldV hh (.p b 2)=some (.i .i64 x.w.id)∧ldV hh (.p b 3)=some (.i .i64 x.w.day)∧ldV hh (.p b 11)=some (.i .i64 x.g.id) ∧
 ldV hh (.p b 21)=some (.i .i64 x.a)∧ldV hh (.p b 23)=some (.i .i64 x.n)∧ldnV hh 9 (.p b 2)=some (.agg x.w.cells)∧ldnV hh 10 (.p b 11)=some (.agg x.g.cells)∧ldnV hh 24 (.p b 0)=some (.agg x.cells):=by
 refine⟨zad g rfl,zad g rfl,zad g rfl,zad g rfl,zad g rfl,zad g rfl,zad g rfl,?_,?_,zar g rfl⟩
 ·have:cut x.cells 2 9=some x.w.cells:=rfl
  simp[ldnV,g,Blk.rd,this]
 ·have:cut x.cells 11 10=some x.g.cells:=rfl
  simp[ldnV,g,Blk.rd,this]
theorem zbG {hh:H} {b i:Nat} {x:V} {c c':List V} (g:hh.get b=some (.cells c)) (hi:i<c.length) (hx:x.cells=[x]) (ho:x.oneCell=true) (hc:c.set i x=c'):stV hh 1 (.p b i) x=some (hh.put b (.cells c')):=by
 subst hc;exact zbB g hi hx ho
theorem zfU {hh:H} {b i:Nat} {x:V} {c c':List V} (g:hh.get b=some (.cells c)) (hi:i<c.length) (hx:x.cells=[x]) (ho:x.oneCell=true) (hc:c.set i x=c'):stV hh.bare 1 (.p b i) x=some (hh.bare.put b (.cells c')):=by
 subst hc;exact zbB (h:=hh.bare) g hi hx ho
theorem zjq {x:Ent} (hk:x.kind<256) (hcur:x.g.cur<256):WC tb1 (.fn 96 [] []) [.agg x.cells] h fun u h'=>u=.b x.formed∧Ext h h':=by
 refine (zay t2096).2 ?_
 have hc:(V.agg x.cells).cells=x.cells:=rfl
 have hz:[V.i .u8 0]++List.replicate 14 (.i .i64 0)++[.i .u8 0]++[.i .i64 0,.i .i64 0]++[.i .u8 0]++[.i .i64 0,.i .i64 0,.i .i64 0,.i .i64 0,.i .i64 0]=zE:=rfl
 have gx0:(h.new (.cells x.cells)).get h.next=some (.cells x.cells):=zac rfl
 obtain⟨l0,l1,_⟩:=entL gx0
 simp only[hz,go_sem,↓reduceIte,r96_0,r96_1,hc,l0,l1]
 have hfil:∀(t:List V) (x0 x1:X),x0.ev t=.i .u8 (x.kind:Int)→x1.ev t=.i .i64 x.day→fill t zE [(0,1,x0),(1,1,x1)]=some (⟨x.kind,x.day,wv0,gf0,0,0,0⟩:Ent).cells:=by
  intro t x0 x1 e0 e1
  simp[fill,lay,e0,e1,V.cells,zE,Ent.cells,wv0,gf0]
 rw[hfil _ _ _ (by simp only[go_sem,↓reduceIte]) (by simp only[go_sem,↓reduceIte])]
 have n1:(h.new (.cells x.cells)).next=h.next+1:=rfl
 have gz:((h.new (.cells x.cells)).new (.cells zE)).get (h.next+1)=some (.cells zE):=zac rfl
 have st0:=zal (k:=24) (d:=(⟨x.kind,x.day,wv0,gf0,0,0,0⟩:Ent).cells) gz rfl rfl (zby _)
 simp only[hz,go_sem,↓reduceIte,n1,st0]
 generalize hh2:((h.new (.cells x.cells)).new (.cells zE)).put (h.next+1) (.cells (⟨x.kind,x.day,wv0,gf0,0,0,0⟩:Ent).cells)=h2
 have e2:Ext h h2:=by subst hh2;exact (((Ext.refl h).new _).new _).put (by omega) _
 have gx:h2.get h.next=some (.cells x.cells):=by subst hh2;rw[zaa (by omega),zaf (by simp)];exact gx0
 have gw:h2.get (h.next+1)=some (.cells (⟨x.kind,x.day,wv0,gf0,0,0,0⟩:Ent).cells):=by subst hh2;exact zab
 have nx:h2.next=h.next+2:=by subst hh2;rfl
 clear hh2 st0 gz l0 l1 gx0
 obtain⟨l0,l1,l2,l3,l11,l21,l23,lw,lg,lx⟩:=entL gx
 refine zbs (fun t=>t.length=167∧nth t 1=.p h.next 0∧nth t 3=.p (h.next+1) 0) (by simp only[go_sem,↓reduceIte]) ?_
 rintro t ⟨tl,t1,t3⟩
 have fin:∀(t:List V) (hh:H),t.length=167→nth t 1=.p h.next 0→nth t 3=.p (h.next+1) 0→nth t 4=.b x.okk→Ext h hh→hh.get h.next=some (.cells x.cells)→hh.get (h.next+1)=some (.cells x.want.cells) →
  W tb1 (.seq (.ops r96_25) (.ret)) t hh (Kfn [.tmp 2] (fun u h'=>u=.b x.formed∧Ext h h') zeK):=by
  intro t hh tl t1 t3 t4 ex ga gb
  obtain⟨_,m1,_,_,_,_,_,_,_,mx⟩:=entL ga
  obtain⟨_,_,_,_,_,_,_,_,_,mw⟩:=entL gb
  have hks:EqK.agg [.i .u8,.i .i64,.i .i64,.i .i64,.i .i64,.i .i64,.i .i64,.i .i64,.i .i64,.i .i64,.i .i64,.i .i64,.i .i64,.i .i64,.i .i64,.i .u8,.i .i64,.i .i64,.i .u8,.i .i64,.i .i64,.i .i64,.i .i64,.i .i64]=.agg ksE:=rfl
  unfold Ent.formed
  cases c1:x.okk
  ·rw[c1]at t4
   simp only[go_sem,↓reduceIte,r96_25,tl,t1,t3,t4]
   exact⟨by simp,ex⟩
  rw[c1]at t4
  cases c2:decide (x=x.want)
  ·simp only[go_sem,↓reduceIte,r96_25,tl,t1,t3,t4,mx,mw,hks,zbA,c2]
   exact⟨by simp,ex⟩
  simp only[go_sem,↓reduceIte,r96_25,tl,t1,t3,t4,mx,mw,hks,zbA,c2,m1,zcK]
  exact⟨by simp,ex⟩
 simp only[zbC,zbi]at fin
 have q1:(1:Int)=((1:Nat):Int):=rfl
 have k1:binV .eql (.i .u8 (x.kind:Int)) (.i .u8 1)=some (.b (decide (x.kind=1))):=zaj (j:=1)
 have k2:binV .eql (.i .u8 (x.kind:Int)) (.i .u8 2)=some (.b (decide (x.kind=2))):=zaj (j:=2)
 have k3:binV .eql (.i .u8 (x.kind:Int)) (.i .u8 3)=some (.b (decide (x.kind=3))):=zaj (j:=3)
 have k4:binV .eql (.i .u8 (x.kind:Int)) (.i .u8 4)=some (.b (decide (x.kind=4))):=zaj (j:=4)
 have k5:binV .eql (.i .u8 (x.kind:Int)) (.i .u8 5)=some (.b (decide (x.kind=5))):=zaj (j:=5)
 have k6:binV .eql (.i .u8 (x.kind:Int)) (.i .u8 6)=some (.b (decide (x.kind=6))):=zaj (j:=6)
 have k7:binV .eql (.i .u8 (x.kind:Int)) (.i .u8 7)=some (.b (decide (x.kind=7))):=zaj (j:=7)
 have nlt:h.next+1<h2.next:=by omega
 have tail4:∀{t:List V} {hh:H} {c:Bool},t.length=167→nth t 1=.p h.next 0→nth t 3=.p (h.next+1) 0→nth t 4=.b c→c=x.okk→Ext h hh→hh.get h.next=some (.cells x.cells)→hh.get (h.next+1)=some (.cells x.want.cells) →
  WL tb1 r96_25 t hh (Kseq tb1 .ret (Kfn [.tmp 2] (fun u h'=>u=.b x.formed∧Ext h h') zeK)):=by
  intro t hh c a1 a2 a3 a4 a5
  subst a5
  exact fin t hh a1 a2 a3 a4
 by_cases c1:x.kind=1
 ·have d1:decide (x.kind=1)=true:=decide_eq_true c1
  have hw:x.want=⟨x.kind,x.day,wv0,gf0,x.a,0,x.n⟩:=by unfold Ent.want;rw[if_pos (.inl c1)]
  have ho:x.okk=(btw x.a 1 2&&btw x.n 1 1000000):=by unfold Ent.okk;rw[if_pos c1]
  have s1:=zfU (i:=21) (x:=.i .i64 x.a) (c':=(⟨x.kind,x.day,wv0,gf0,x.a,0,0⟩:Ent).cells) gw (by simp[Ent.cells]) rfl rfl rfl
  have b1:=zaH nlt (.cells (⟨x.kind,x.day,wv0,gf0,x.a,0,0⟩:Ent).cells)
  have g3:(h2.put (h.next+1) (.cells (⟨x.kind,x.day,wv0,gf0,x.a,0,0⟩:Ent).cells)).get (h.next+1)=some (.cells (⟨x.kind,x.day,wv0,gf0,x.a,0,0⟩:Ent).cells):=zab
  have gx3:(h2.put (h.next+1) (.cells (⟨x.kind,x.day,wv0,gf0,x.a,0,0⟩:Ent).cells)).get h.next=some (.cells x.cells):=by rw[zaa (by omega)];exact gx
  have nlt3:h.next+1<(h2.put (h.next+1) (.cells (⟨x.kind,x.day,wv0,gf0,x.a,0,0⟩:Ent).cells)).next:=nlt
  have e3:=e2.put (show h.next≤h.next+1 by omega) (.cells (⟨x.kind,x.day,wv0,gf0,x.a,0,0⟩:Ent).cells)
  generalize h2.put (h.next+1) (.cells (⟨x.kind,x.day,wv0,gf0,x.a,0,0⟩:Ent).cells)=h3 at b1 g3 gx3 nlt3 e3
  have s2:=zfU (i:=23) (x:=.i .i64 x.n) (c':=x.want.cells) g3 (by simp[Ent.cells]) rfl rfl (by rw[hw];rfl)
  have b2:=zaH nlt3 (.cells x.want.cells)
  have g4:(h3.put (h.next+1) (.cells x.want.cells)).get (h.next+1)=some (.cells x.want.cells):=zab
  have gx4:(h3.put (h.next+1) (.cells x.want.cells)).get h.next=some (.cells x.cells):=by rw[zaa (by omega)];exact gx3
  have e4:=e3.put (show h.next≤h.next+1 by omega) (.cells x.want.cells)
  generalize h3.put (h.next+1) (.cells x.want.cells)=h4 at b2 g4 gx4 e4
  obtain⟨_,_,_,_,_,m21,m23,_,_,_⟩:=entL gx4
  simp only[go_sem,↓reduceIte,r96_2,r96_3,r96_4,r96_5,tl,t1,t3,l0,k1,d1,l21,l23,s1,b1,s2,b2,zaG,H.back_bare,List.cons_append,List.nil_append]
  refine⟨?_,?_⟩
  ·simp only[zbX,List.all_cons,List.all_nil,Bool.and_true,List.getElem?_cons_succ,List.getElem?_cons_zero,zfM,reads,go_sem,↓reduceIte,tl,zhi nlt,zaU]
   simp
  cases v1:btw x.a 1 2
  ·simp only[go_sem,↓reduceIte,r96_6,tl,t1,t3,m21,zcK,v1]
   exact tail4 (c:=false) (by simp only[go_sem,↓reduceIte,tl]) (by simp only[go_sem,↓reduceIte,tl,t1]) (by simp only[go_sem,↓reduceIte,tl,t3]) (by simp only[go_sem,↓reduceIte,tl]) (by rw[ho,v1];rfl) e4 gx4 g4
  ·simp only[go_sem,↓reduceIte,r96_6,tl,t1,t3,m21,m23,zcK,v1]
   exact tail4 (c:=btw x.n 1 1000000) (by simp only[go_sem,↓reduceIte,tl]) (by simp only[go_sem,↓reduceIte,tl,t1]) (by simp only[go_sem,↓reduceIte,tl,t3]) (by simp only[go_sem,↓reduceIte,tl]) (by rw[ho,v1];rfl) e4 gx4 g4
 have d1:decide (x.kind=1)=false:=decide_eq_false c1
 by_cases c2:x.kind=2
 ·have d2:decide (x.kind=2)=true:=decide_eq_true c2
  have hw:x.want=⟨x.kind,x.day,wv0,gf0,x.a,0,x.n⟩:=by unfold Ent.want;rw[if_pos (.inr c2)]
  have ho:x.okk=(zbc x.a&&btw x.n 1 1000000000000):=by unfold Ent.okk;rw[if_neg c1,if_pos c2]
  have s1:=zfU (i:=21) (x:=.i .i64 x.a) (c':=(⟨x.kind,x.day,wv0,gf0,x.a,0,0⟩:Ent).cells) gw (by simp[Ent.cells]) rfl rfl rfl
  have b1:=zaH nlt (.cells (⟨x.kind,x.day,wv0,gf0,x.a,0,0⟩:Ent).cells)
  have g3:(h2.put (h.next+1) (.cells (⟨x.kind,x.day,wv0,gf0,x.a,0,0⟩:Ent).cells)).get (h.next+1)=some (.cells (⟨x.kind,x.day,wv0,gf0,x.a,0,0⟩:Ent).cells):=zab
  have gx3:(h2.put (h.next+1) (.cells (⟨x.kind,x.day,wv0,gf0,x.a,0,0⟩:Ent).cells)).get h.next=some (.cells x.cells):=by rw[zaa (by omega)];exact gx
  have nlt3:h.next+1<(h2.put (h.next+1) (.cells (⟨x.kind,x.day,wv0,gf0,x.a,0,0⟩:Ent).cells)).next:=nlt
  have e3:=e2.put (show h.next≤h.next+1 by omega) (.cells (⟨x.kind,x.day,wv0,gf0,x.a,0,0⟩:Ent).cells)
  generalize h2.put (h.next+1) (.cells (⟨x.kind,x.day,wv0,gf0,x.a,0,0⟩:Ent).cells)=h3 at b1 g3 gx3 nlt3 e3
  have s2:=zfU (i:=23) (x:=.i .i64 x.n) (c':=x.want.cells) g3 (by simp[Ent.cells]) rfl rfl (by rw[hw];rfl)
  have b2:=zaH nlt3 (.cells x.want.cells)
  have g4:(h3.put (h.next+1) (.cells x.want.cells)).get (h.next+1)=some (.cells x.want.cells):=zab
  have gx4:(h3.put (h.next+1) (.cells x.want.cells)).get h.next=some (.cells x.cells):=by rw[zaa (by omega)];exact gx3
  have e4:=e3.put (show h.next≤h.next+1 by omega) (.cells x.want.cells)
  generalize h3.put (h.next+1) (.cells x.want.cells)=h4 at b2 g4 gx4 e4
  obtain⟨_,_,_,_,_,m21,m23,_,_,_⟩:=entL gx4
  simp only[go_sem,↓reduceIte,r96_2,r96_3,r96_4,r96_7,r96_8,tl,t1,t3,l0,k1,d1,k2,d2,l21,l23,s1,b1,s2,b2,zaG,H.back_bare,List.cons_append,List.nil_append]
  refine⟨?_,?_⟩
  ·simp only[zbX,List.all_cons,List.all_nil,Bool.and_true,List.getElem?_cons_succ,List.getElem?_cons_zero,zfM,reads,go_sem,↓reduceIte,tl,zhi nlt,zaU]
   simp
  cases v1:zbc x.a
  ·simp only[go_sem,↓reduceIte,r96_9,tl,t1,t3,m21,zcE,v1]
   exact tail4 (c:=false) (by simp only[go_sem,↓reduceIte,tl]) (by simp only[go_sem,↓reduceIte,tl,t1]) (by simp only[go_sem,↓reduceIte,tl,t3]) (by simp only[go_sem,↓reduceIte,tl]) (by rw[ho,v1];rfl) e4 gx4 g4
  ·simp only[go_sem,↓reduceIte,r96_9,tl,t1,t3,m21,m23,zcK,zcE,v1]
   exact tail4 (c:=btw x.n 1 1000000000000) (by simp only[go_sem,↓reduceIte,tl]) (by simp only[go_sem,↓reduceIte,tl,t1]) (by simp only[go_sem,↓reduceIte,tl,t3]) (by simp only[go_sem,↓reduceIte,tl]) (by rw[ho,v1];rfl) e4 gx4 g4
 have d2:decide (x.kind=2)=false:=decide_eq_false c2
 have c12:¬ (x.kind=1∨x.kind=2):=by omega
 by_cases c3:x.kind=3
 ·have d3:decide (x.kind=3)=true:=decide_eq_true c3
  have hw:x.want=⟨x.kind,x.day,x.w,gf0,0,0,0⟩:=by unfold Ent.want;rw[if_neg c12,if_pos c3]
  have ho:x.okk=(zbv x.w&&decide (x.w.day=x.day)):=by unfold Ent.okk;rw[if_neg c1,if_neg c2,if_pos c3]
  have s1:stV h2 9 (.p (h.next+1) 2) (.agg x.w.cells)=some (h2.put (h.next+1) (.cells x.want.cells)):=by
   rw[hw]
   simp[stV,V.cells,storeAt,gw,lay,V.oneCell,Ent.cells,Wv.cells,wv0,gf0]
  have g4:(h2.put (h.next+1) (.cells x.want.cells)).get (h.next+1)=some (.cells x.want.cells):=zab
  have gx4:(h2.put (h.next+1) (.cells x.want.cells)).get h.next=some (.cells x.cells):=by rw[zaa (by omega)];exact gx
  have e4:=e2.put (show h.next≤h.next+1 by omega) (.cells x.want.cells)
  have nlt4:h.next+1<(h2.put (h.next+1) (.cells x.want.cells)).next:=nlt
  simp only[go_sem,↓reduceIte,r96_2,r96_3,r96_4,r96_7,r96_10,r96_11,tl,t1,t3,l0,k1,d1,k2,d2,k3,d3,lw,s1]
  generalize h2.put (h.next+1) (.cells x.want.cells)=h4 at g4 gx4 e4 nlt4
  obtain⟨_,m1,_,m3,_,_,_,mw,_,_⟩:=entL gx4
  simp only[go_sem,↓reduceIte,r96_12,tl,t1,t3,mw]
  refine fn_right.mono ?_
  rintro u h5 ⟨rfl,e5⟩
  have g5:=e5.get nlt4 g4
  have gx5:=e5.get (by omega) gx4
  obtain⟨_,m1,_,m3,_,_,_,mw,_,_⟩:=entL gx5
  have e05:=e4.trans e5
  cases v1:zbv x.w
  ·simp only[go_sem,↓reduceIte,tl,t1,t3]
   exact tail4 (c:=false) (by simp only[go_sem,↓reduceIte,tl]) (by simp only[go_sem,↓reduceIte,tl,t1]) (by simp only[go_sem,↓reduceIte,tl,t3]) (by simp only[go_sem,↓reduceIte,tl]) (by rw[ho,v1];rfl) e05 gx5 g5
  ·simp only[go_sem,↓reduceIte,tl,t1,t3,m1,m3]
   exact tail4 (c:=decide (x.w.day=x.day)) (by simp only[go_sem,↓reduceIte,tl]) (by simp only[go_sem,↓reduceIte,tl,t1]) (by simp only[go_sem,↓reduceIte,tl,t3]) (by simp only[go_sem,↓reduceIte,tl]) (by rw[ho,v1];rfl) e05 gx5 g5
 have d3:decide (x.kind=3)=false:=decide_eq_false c3
 by_cases c4:x.kind=4
 ·have d4:decide (x.kind=4)=true:=decide_eq_true c4
  have hw:x.want=⟨x.kind,x.day,{ wv0 with id:=x.w.id },gf0,0,0,0⟩:=by unfold Ent.want;rw[if_neg c12,if_neg c3,if_pos c4]
  have ho:x.okk=btw x.w.id 1 500:=by unfold Ent.okk;rw[if_neg c1,if_neg c2,if_neg c3,if_pos c4]
  have s1:=zbG (i:=2) (x:=.i .i64 x.w.id) (c':=x.want.cells) gw (by simp[Ent.cells]) rfl rfl (by rw[hw];rfl)
  have g4:(h2.put (h.next+1) (.cells x.want.cells)).get (h.next+1)=some (.cells x.want.cells):=zab
  have gx4:(h2.put (h.next+1) (.cells x.want.cells)).get h.next=some (.cells x.cells):=by rw[zaa (by omega)];exact gx
  have e4:=e2.put (show h.next≤h.next+1 by omega) (.cells x.want.cells)
  simp only[go_sem,↓reduceIte,r96_2,r96_3,r96_4,r96_7,r96_10,r96_13,r96_14,tl,t1,t3,l0,k1,d1,k2,d2,k3,d3,k4,d4,l2,s1]
  generalize h2.put (h.next+1) (.cells x.want.cells)=h4 at g4 gx4 e4
  obtain⟨_,_,m2,_,_,_,_,_,_,_⟩:=entL gx4
  simp only[go_sem,↓reduceIte,r96_15,tl,t1,t3,m2,zcK]
  exact tail4 (c:=btw x.w.id 1 500) (by simp only[go_sem,↓reduceIte,tl]) (by simp only[go_sem,↓reduceIte,tl,t1]) (by simp only[go_sem,↓reduceIte,tl,t3]) (by simp only[go_sem,↓reduceIte,tl]) ho.symm e4 gx4 g4
 have d4:decide (x.kind=4)=false:=decide_eq_false c4
 by_cases c5:x.kind=5
 ·have d5:decide (x.kind=5)=true:=decide_eq_true c5
  have hw:x.want=⟨x.kind,x.day,wv0,⟨x.g.id,x.g.day,x.g.frm,x.g.to,x.g.cur,x.g.n,0,0,0,x.g.ret⟩,0,0,0⟩:=by unfold Ent.want;rw[if_neg c12,if_neg c3,if_neg c4,if_pos c5]
  have ho:x.okk=zcu x:=by unfold Ent.okk;rw[if_neg c1,if_neg c2,if_neg c3,if_neg c4,if_pos c5]
  have z10:(h2.new (.cells [.i .i64 0,.i .i64 0,.i .i64 0,.i .i64 0,.i .u8 0,.i .i64 0,.i .i64 0,.i .u8 0,.i .i64 0,.i .i64 0])).get h2.next=some (.cells [.i .i64 0,.i .i64 0,.i .i64 0,.i .i64 0,.i .u8 0,.i .i64 0,.i .i64 0,.i .u8 0,.i .i64 0,.i .i64 0]):=zac rfl
  have sg:=zal (k:=10) (d:=x.g.cells) z10 rfl rfl (zdN _)
  simp only[go_sem,↓reduceIte,r96_2,r96_3,r96_4,r96_7,r96_10,r96_13,r96_16,r96_17,tl,t1,t3,l0,k1,d1,k2,d2,k3,d3,k4,d4,k5,d5,lg,sg]
  generalize hh3:(h2.new (.cells [.i .i64 0,.i .i64 0,.i .i64 0,.i .i64 0,.i .u8 0,.i .i64 0,.i .i64 0,.i .u8 0,.i .i64 0,.i .i64 0])).put h2.next (.cells x.g.cells)=h3
  have e3:Ext h h3:=by subst hh3;exact (e2.new _).put (by omega) _
  have gx3:h3.get h.next=some (.cells x.cells):=by subst hh3;rw[zaa (by omega),zaf (by omega)];exact gx
  have gw3:h3.get (h.next+1)=some (.cells (⟨x.kind,x.day,wv0,gf0,0,0,0⟩:Ent).cells):=by subst hh3;rw[zaa (by omega),zaf (by omega)];exact gw
  have gg3:h3.get h2.next=some (.cells x.g.cells):=by subst hh3;exact zab
  clear hh3 sg z10
  have m0:ldV h3 (.p h2.next 0)=some (.i .i64 x.g.id):=zad gg3 rfl
  have m1:ldV h3 (.p h2.next 1)=some (.i .i64 x.g.day):=zad gg3 rfl
  have m2:ldV h3 (.p h2.next 2)=some (.i .i64 x.g.frm):=zad gg3 rfl
  have m3:ldV h3 (.p h2.next 3)=some (.i .i64 x.g.to):=zad gg3 rfl
  have m4:ldV h3 (.p h2.next 4)=some (.i .u8 (x.g.cur:Int)):=zad gg3 rfl
  have m5:ldV h3 (.p h2.next 5)=some (.i .i64 x.g.n):=zad gg3 rfl
  have m9:ldV h3 (.p h2.next 9)=some (.i .i64 x.g.ret):=zad gg3 rfl
  have s1:stV h3 10 (.p (h.next+1) 11) (.agg (⟨x.g.id,x.g.day,x.g.frm,x.g.to,x.g.cur,x.g.n,0,0,0,x.g.ret⟩:Gf).cells)=some (h3.put (h.next+1) (.cells x.want.cells)):=by
   rw[hw]
   simp[stV,V.cells,storeAt,gw3,lay,V.oneCell,Ent.cells,Gf.cells,wv0,gf0]
  have hfg:∀(t:List V) (x0 x1 x2 x3 x4 x5 x9:X),x0.ev t=.i .i64 x.g.id→x1.ev t=.i .i64 x.g.day→x2.ev t=.i .i64 x.g.frm→x3.ev t=.i .i64 x.g.to→x4.ev t=.i .u8 (x.g.cur:Int)→x5.ev t=.i .i64 x.g.n→x9.ev t=.i .i64 x.g.ret →
   fill t [.i .i64 0,.i .i64 0,.i .i64 0,.i .i64 0,.i .u8 0,.i .i64 0,.i .i64 0,.i .u8 0,.i .i64 0,.i .i64 0] [(0,1,x0),(1,1,x1),(2,1,x2),(3,1,x3),(4,1,x4),(5,1,x5),(9,1,x9)]=some (⟨x.g.id,x.g.day,x.g.frm,x.g.to,x.g.cur,x.g.n,0,0,0,x.g.ret⟩:Gf).cells:=by
   intro t x0 x1 x2 x3 x4 x5 x9 e0 e1 e2 e3 e4 e5 e9
   simp[fill,lay,e0,e1,e2,e3,e4,e5,e9,V.cells,Gf.cells]
  simp only[go_sem,↓reduceIte,r96_18,tl,t1,t3,m0,m1,m2,m3,m4,m5,m9]
  rw[hfg _ _ _ _ _ _ _ _ (by simp only[go_sem,↓reduceIte,tl]) (by simp only[go_sem,↓reduceIte,tl]) (by simp only[go_sem,↓reduceIte,tl]) (by simp only[go_sem,↓reduceIte,tl]) (by simp only[go_sem,↓reduceIte,tl]) (by simp only[go_sem,↓reduceIte,tl]) (by simp only[go_sem,↓reduceIte,tl])]
  simp only[go_sem,↓reduceIte,tl,t1,t3,s1]
  have g4:(h3.put (h.next+1) (.cells x.want.cells)).get (h.next+1)=some (.cells x.want.cells):=zab
  have gx4:(h3.put (h.next+1) (.cells x.want.cells)).get h.next=some (.cells x.cells):=by rw[zaa (by omega)];exact gx3
  have gg4:(h3.put (h.next+1) (.cells x.want.cells)).get h2.next=some (.cells x.g.cells):=by rw[zaa (by omega)];exact gg3
  have e4:=e3.put (show h.next≤h.next+1 by omega) (.cells x.want.cells)
  generalize h3.put (h.next+1) (.cells x.want.cells)=h4 at g4 gx4 gg4 e4
  clear m0 m1 m2 m3 m4 m5 m9
  have n0:ldV h4 (.p h2.next 0)=some (.i .i64 x.g.id):=zad gg4 rfl
  have n1:ldV h4 (.p h2.next 1)=some (.i .i64 x.g.day):=zad gg4 rfl
  have n2:ldV h4 (.p h2.next 2)=some (.i .i64 x.g.frm):=zad gg4 rfl
  have n3:ldV h4 (.p h2.next 3)=some (.i .i64 x.g.to):=zad gg4 rfl
  have n4:ldV h4 (.p h2.next 4)=some (.i .u8 (x.g.cur:Int)):=zad gg4 rfl
  have n5:ldV h4 (.p h2.next 5)=some (.i .i64 x.g.n):=zad gg4 rfl
  have n9:ldV h4 (.p h2.next 9)=some (.i .i64 x.g.ret):=zad gg4 rfl
  obtain⟨_,md,_⟩:=entL gx4
  refine zbs (fun t=>t.length=167∧nth t 1=.p h.next 0∧nth t 3=.p (h.next+1) 0∧nth t 5=.p h2.next 0) ?_ ?_
  ·refine⟨?_,?_,?_,?_⟩<;>simp only[go_sem,↓reduceIte,tl,t1,t3]
  clear t1 t3 tl t
  rintro t ⟨tl,t1,t3,t5⟩
  have A:∀{Q:Out→List V→H→Prop},(∀t',t'.length=167→nth t' 1=.p h.next 0→nth t' 3=.p (h.next+1) 0→nth t' 5=.p h2.next 0→nth t' 6=.b (offA x)→Q .norm t' h4)→WL tb1 r96_19 t h4 Q:=by
   intro Q K
   have finA:∀(t':List V) (c:Bool),t'.length=167→nth t' 1=.p h.next 0→nth t' 3=.p (h.next+1) 0→nth t' 5=.p h2.next 0→nth t' 6=.b c→c=offA x→Q .norm t' h4:=fun t' c a1 a2 a3 a4 a5 a6=>K t' a1 a2 a3 a4 (a6▸a5)
   cases vc1:btw x.g.id 1 500
   ·simp only[go_sem,↓reduceIte,r96_19,tl,t1,t3,t5,n0,n2,n3,n9,zcK,zcE,vc1]
    exact finA _ false (by simp only[go_sem,↓reduceIte,tl]) (by simp only[go_sem,↓reduceIte,tl,t1]) (by simp only[go_sem,↓reduceIte,tl,t3]) (by simp only[go_sem,↓reduceIte,tl,t5]) (by simp only[go_sem,↓reduceIte,tl]) (by simp[offA,vc1])
   cases vc2:zbc x.g.frm
   ·simp only[go_sem,↓reduceIte,r96_19,tl,t1,t3,t5,n0,n2,n3,n9,zcK,zcE,vc1,vc2]
    exact finA _ false (by simp only[go_sem,↓reduceIte,tl]) (by simp only[go_sem,↓reduceIte,tl,t1]) (by simp only[go_sem,↓reduceIte,tl,t3]) (by simp only[go_sem,↓reduceIte,tl,t5]) (by simp only[go_sem,↓reduceIte,tl]) (by simp[offA,vc2])
   cases vc3:zbc x.g.to
   ·simp only[go_sem,↓reduceIte,r96_19,tl,t1,t3,t5,n0,n2,n3,n9,zcK,zcE,vc1,vc2,vc3]
    exact finA _ false (by simp only[go_sem,↓reduceIte,tl]) (by simp only[go_sem,↓reduceIte,tl,t1]) (by simp only[go_sem,↓reduceIte,tl,t3]) (by simp only[go_sem,↓reduceIte,tl,t5]) (by simp only[go_sem,↓reduceIte,tl]) (by simp[offA,vc3])
   cases vc4:decide (x.g.frm=x.g.to)
   rotate_left
   ·simp only[go_sem,↓reduceIte,r96_19,tl,t1,t3,t5,n0,n2,n3,n9,zcK,zcE,vc1,vc2,vc3,vc4]
    exact finA _ false (by simp only[go_sem,↓reduceIte,tl]) (by simp only[go_sem,↓reduceIte,tl,t1]) (by simp only[go_sem,↓reduceIte,tl,t3]) (by simp only[go_sem,↓reduceIte,tl,t5]) (by simp only[go_sem,↓reduceIte,tl]) (by unfold offA;rw[vc4];simp)
   cases vc5:btw x.g.ret 0 500
   ·simp only[go_sem,↓reduceIte,r96_19,tl,t1,t3,t5,n0,n2,n3,n9,zcK,zcE,vc1,vc2,vc3,vc4,vc5]
    exact finA _ false (by simp only[go_sem,↓reduceIte,tl]) (by simp only[go_sem,↓reduceIte,tl,t1]) (by simp only[go_sem,↓reduceIte,tl,t3]) (by simp only[go_sem,↓reduceIte,tl,t5]) (by simp only[go_sem,↓reduceIte,tl]) (by simp[offA,vc5])
   simp only[go_sem,↓reduceIte,r96_19,tl,t1,t3,t5,n0,n2,n3,n9,zcK,zcE,vc1,vc2,vc3,vc4,vc5]
   exact finA _ (!decide (x.g.ret=x.g.id)) (by simp only[go_sem,↓reduceIte,tl]) (by simp only[go_sem,↓reduceIte,tl,t1]) (by simp only[go_sem,↓reduceIte,tl,t3]) (by simp only[go_sem,↓reduceIte,tl,t5]) (by simp only[go_sem,↓reduceIte,tl]) (by unfold offA;rw[vc1,vc2,vc3,vc4,vc5];simp)
  refine A ?_
  clear A t5 t1 t3 tl t
  intro t tl t1 t3 t5 t6
  simp only[go_sem,↓reduceIte]
  have hcv:zca .i64 (.i .u8 (x.g.cur:Int))=some (.i .i64 (x.g.cur:Int)):=zcn hcur
  cases va:offA x
  ·rw[va]at t6
   simp only[go_sem,↓reduceIte,r96_20,tl,t1,t3,t5,t6]
   exact tail4 (c:=false) (by simp only[go_sem,↓reduceIte,tl]) (by simp only[go_sem,↓reduceIte,tl,t1]) (by simp only[go_sem,↓reduceIte,tl,t3]) (by simp only[go_sem,↓reduceIte,tl]) (by rw[ho,zfe,va];rfl) e4 gx4 g4
  rw[va]at t6
  cases vb:decide (x.g.day=x.day)
  ·simp only[go_sem,↓reduceIte,r96_20,tl,t1,t3,t5,t6,n1,md,vb]
   exact tail4 (c:=false) (by simp only[go_sem,↓reduceIte,tl]) (by simp only[go_sem,↓reduceIte,tl,t1]) (by simp only[go_sem,↓reduceIte,tl,t3]) (by simp only[go_sem,↓reduceIte,tl]) (by rw[ho,zfe,va,vb];rfl) e4 gx4 g4
  cases vc:btw (x.g.cur:Int) 1 2
  ·simp only[go_sem,↓reduceIte,r96_20,tl,t1,t3,t5,t6,n1,n4,md,hcv,zcK,vb,vc]
   exact tail4 (c:=false) (by simp only[go_sem,↓reduceIte,tl]) (by simp only[go_sem,↓reduceIte,tl,t1]) (by simp only[go_sem,↓reduceIte,tl,t3]) (by simp only[go_sem,↓reduceIte,tl]) (by rw[ho,zfe,va,vb,vc];rfl) e4 gx4 g4
  simp only[go_sem,↓reduceIte,r96_20,tl,t1,t3,t5,t6,n1,n4,n5,md,hcv,zcK,vb,vc]
  exact tail4 (c:=btw x.g.n 1 1000000) (by simp only[go_sem,↓reduceIte,tl]) (by simp only[go_sem,↓reduceIte,tl,t1]) (by simp only[go_sem,↓reduceIte,tl,t3]) (by simp only[go_sem,↓reduceIte,tl]) (by rw[ho,zfe,va,vb,vc];rfl) e4 gx4 g4
 have d5:decide (x.kind=5)=false:=decide_eq_false c5
 by_cases c67:x.kind=6∨x.kind=7
 ·have hw:x.want=⟨x.kind,x.day,wv0,{ gf0 with id:=x.g.id },0,0,0⟩:=by unfold Ent.want;rw[if_neg c12,if_neg c3,if_neg c4,if_neg c5,if_pos c67]
  have ho:x.okk=btw x.g.id 1 500:=by unfold Ent.okk;rw[if_neg c1,if_neg c2,if_neg c3,if_neg c4,if_neg c5,if_pos c67]
  have s1:=zbG (i:=11) (x:=.i .i64 x.g.id) (c':=x.want.cells) gw (by simp[Ent.cells]) rfl rfl (by rw[hw];rfl)
  have g4:(h2.put (h.next+1) (.cells x.want.cells)).get (h.next+1)=some (.cells x.want.cells):=zab
  have gx4:(h2.put (h.next+1) (.cells x.want.cells)).get h.next=some (.cells x.cells):=by rw[zaa (by omega)];exact gx
  have e4:=e2.put (show h.next≤h.next+1 by omega) (.cells x.want.cells)
  obtain⟨_,_,_,_,m11,_,_,_,_,_⟩:=entL gx4
  by_cases c6:x.kind=6
  ·have d6:decide (x.kind=6)=true:=decide_eq_true c6
   simp only[go_sem,↓reduceIte,r96_2,r96_3,r96_4,r96_7,r96_10,r96_13,r96_16,r96_21,r96_23,r96_24,tl,t1,t3,l0,k1,d1,k2,d2,k3,d3,k4,d4,k5,d5,k6,d6,l11,s1,m11,zcK]
   exact tail4 (c:=btw x.g.id 1 500) (by simp only[go_sem,↓reduceIte,tl]) (by simp only[go_sem,↓reduceIte,tl,t1]) (by simp only[go_sem,↓reduceIte,tl,t3]) (by simp only[go_sem,↓reduceIte,tl]) ho.symm e4 gx4 g4
  ·have d6:decide (x.kind=6)=false:=decide_eq_false c6
   have d7:decide (x.kind=7)=true:=decide_eq_true (by omega)
   simp only[go_sem,↓reduceIte,r96_2,r96_3,r96_4,r96_7,r96_10,r96_13,r96_16,r96_21,r96_22,r96_23,r96_24,tl,t1,t3,l0,k1,d1,k2,d2,k3,d3,k4,d4,k5,d5,k6,d6,k7,d7,l11,s1,m11,zcK]
   exact tail4 (c:=btw x.g.id 1 500) (by simp only[go_sem,↓reduceIte,tl]) (by simp only[go_sem,↓reduceIte,tl,t1]) (by simp only[go_sem,↓reduceIte,tl,t3]) (by simp only[go_sem,↓reduceIte,tl]) ho.symm e4 gx4 g4
 have d6:decide (x.kind=6)=false:=decide_eq_false (by omega)
 have d7:decide (x.kind=7)=false:=decide_eq_false (by omega)
 have hw:x.want=⟨x.kind,x.day,wv0,gf0,0,0,0⟩:=by unfold Ent.want;rw[if_neg c12,if_neg c3,if_neg c4,if_neg c5,if_neg c67]
 have ho:x.okk=false:=by unfold Ent.okk;rw[if_neg c1,if_neg c2,if_neg c3,if_neg c4,if_neg c5,if_neg c67]
 simp only[go_sem,↓reduceIte,r96_2,r96_3,r96_4,r96_7,r96_10,r96_13,r96_16,r96_21,r96_22,tl,t1,t3,l0,k1,d1,k2,d2,k3,d3,k4,d4,k5,d5,k6,d6,k7,d7]
 exact tail4 (c:=false) (by simp only[go_sem,↓reduceIte,tl]) (by simp only[go_sem,↓reduceIte,tl,t1]) (by simp only[go_sem,↓reduceIte,tl,t3]) (by simp only[go_sem,↓reduceIte,tl]) ho.symm e2 gx (by rw[hw];exact gw)
end
end Go.Air
set_option maxRecDepth 100000
namespace Go.Air
open Go.Air.Try
theorem znO {t:List V} {z0 z1 z2 z3 z4 z5 z6 z7 v0 v1 v2 v3 v4 v5 v6 v7:V} {x0 x1 x2 x3 x4 x5 x6 x7:X} (e0:x0.ev t=v0) (e1:x1.ev t=v1) (e2:x2.ev t=v2) (e3:x3.ev t=v3) (e4:x4.ev t=v4) (e5:x5.ev t=v5) (e6:x6.ev t=v6) (e7:x7.ev t=v7)
 (c0:v0.cells=[v0]) (c1:v1.cells=[v1]) (c2:v2.cells=[v2]) (c3:v3.cells=[v3]) (c4:v4.cells=[v4]) (c5:v5.cells=[v5]) (c6:v6.cells=[v6]) (c7:v7.cells=[v7]) :
 fill t [z0,z1,z2,z3,z4,z5,z6,z7] [(0,1,x0),(1,1,x1),(2,1,x2),(3,1,x3),(4,1,x4),(5,1,x5),(6,1,x6),(7,1,x7)]=some [v0,v1,v2,v3,v4,v5,v6,v7]:=by
 simp[fill,lay,e0,e1,e2,e3,e4,e5,e6,e7,c0,c1,c2,c3,c4,c5,c6,c7]
theorem zqG {t:List V} {z0 z1 z2 z3 z4 z5 v0 v1 v2 v3 v4 v5:V} {x0 x1 x2 x3 x4 x5:X} (e0:x0.ev t=v0) (e1:x1.ev t=v1) (e2:x2.ev t=v2) (e3:x3.ev t=v3) (e4:x4.ev t=v4) (e5:x5.ev t=v5)
 (c0:v0.cells=[v0]) (c1:v1.cells=[v1]) (c2:v2.cells=[v2]) (c3:v3.cells=[v3]) (c4:v4.cells=[v4]) (c5:v5.cells=[v5]) :
 fill t [z0,z1,z2,z3,z4,z5] [(0,1,x0),(1,1,x1),(2,1,x2),(3,1,x3),(4,1,x4),(5,1,x5)]=some [v0,v1,v2,v3,v4,v5]:=by
 simp[fill,lay,e0,e1,e2,e3,e4,e5,c0,c1,c2,c3,c4,c5]
section
variable {h:H}
theorem t2056:tb1 56=some a56:=by kernel_rfl
theorem t2097:tb1 97=some a97:=by kernel_rfl
theorem t2058:tb1 58=some a58:=by kernel_rfl
theorem fn_verbs:WC tb1 (.fn 56 [] []) [] h fun u h'=>Ext h h'∧Own h 1 h' u 8 (verbL.map V.s):=by
 refine (zay t2056).2 ?_
 have hf:∀t:List V,fill t [.s [],.s [],.s [],.s [],.s [],.s [],.s [],.s []] [(0,1,(.c (.s []))),(1,1,(.c (.s [114,97,116,101]))),(2,1,(.c (.s [99,101,105,108,105,110,103]))),(3,1,(.c (.s [103,114,97,110,116]))),(4,1,(.c (.s [101,110,100]))),(5,1,(.c (.s [111,102,102,101,114]))),(6,1,(.c (.s [116,97,107,101]))),(7,1,(.c (.s [114,101,102,117,115,101])))]=some (verbL.map V.s):=
  fun t=>znO rfl rfl rfl rfl rfl rfl rfl rfl rfl rfl rfl rfl rfl rfl rfl rfl
 simp only[go_sem,↓reduceIte,r56_0,r56_1,hf]
 exact⟨(Ext.refl h).new _,(Own.lit (esz:=1) (Ext.refl h) (verbL.map V.s) 8 rfl).1⟩
theorem zqo {x:Ent} (hcur:x.g.cur<256):WC tb1 (.fn 97 [] []) [.agg x.cells] h fun u h'=>Ext h h'∧Own h 1 h' u x.vals.length (x.vals.map (V.i .i64)):=by
 refine (zay t2097).2 ?_
 have hc:(V.agg x.cells).cells=x.cells:=rfl
 have e1:Ext h (h.new (.cells x.cells)):=(Ext.refl h).new _
 have gx:(h.new (.cells x.cells)).get h.next=some (.cells x.cells):=zac rfl
 have n1:(h.new (.cells x.cells)).next=h.next+1:=rfl
 simp only[go_sem,↓reduceIte,r97_0,hc]
 generalize h.new (.cells x.cells)=h1 at e1 gx n1
 obtain⟨_,_,_,_,_,_,_,lw,lg,_⟩:=entL gx
 generalize hh2:(h1.new (.cells (List.replicate 9 (.i .i64 0)))).new (.cells [.i .i64 0,.i .i64 0,.i .i64 0,.i .i64 0,.i .u8 0,.i .i64 0,.i .i64 0,.i .u8 0,.i .i64 0,.i .i64 0])=h2
 have e2:Ext h1 h2:=by subst hh2;exact ((Ext.refl h1).new _).new _
 have n2:h2.next=h.next+3:=by subst hh2;show h1.next+2=_;omega
 have g9:h2.get (h.next+1)=some (.cells (List.replicate 9 (.i .i64 0))):=by subst hh2;rw[zaf (by simp;omega)];exact zac (by omega)
 have g10:h2.get (h.next+2)=some (.cells [.i .i64 0,.i .i64 0,.i .i64 0,.i .i64 0,.i .u8 0,.i .i64 0,.i .i64 0,.i .u8 0,.i .i64 0,.i .i64 0]):=by subst hh2;exact zac (by simp;omega)
 have s1:stV h2.bare 9 (.p (h.next+1) 0) (.agg x.w.cells)=some (h2.bare.put (h.next+1) (.cells x.w.cells)):=zal (h:=h2.bare) g9 rfl rfl (wv_one _)
 have b1:=zaH (show h.next+1<h2.next by omega) (.cells x.w.cells)
 have g10':(h2.put (h.next+1) (.cells x.w.cells)).get (h.next+2)=_:=(zaa (by omega)).trans g10
 have s2:stV (h2.put (h.next+1) (.cells x.w.cells)).bare 10 (.p (h.next+2) 0) (.agg x.g.cells)=some ((h2.put (h.next+1) (.cells x.w.cells)).bare.put (h.next+2) (.cells x.g.cells)):=zal (h:=(h2.put (h.next+1) (.cells x.w.cells)).bare) g10' rfl rfl (zdN _)
 have b2:=zaH (h:=h2.put (h.next+1) (.cells x.w.cells)) (show h.next+2<h2.next by omega) (.cells x.g.cells)
 have n11:(h1.new (.cells (List.replicate 9 (.i .i64 0)))).next=h.next+2:=by show h1.next+1=_;omega
 refine zdy (fun t=>t.length=62∧nth t 1=.p h.next 0) (by simp only[go_sem,↓reduceIte]) ?_
 rintro t ⟨tl,t1⟩
 simp only[go_sem,↓reduceIte,r97_1,tl,t1,lw,lg,n1,n11,hh2,s1,b1,s2,b2,zaG,H.back_bare,H.back_new,List.cons_append,List.nil_append]
 refine⟨?_,?_⟩
 ·simp only[zbX,List.all_cons,List.all_nil,Bool.and_true,List.getElem?_cons_succ,List.getElem?_cons_zero,zfM,reads,go_sem,↓reduceIte,tl,zaU,zhi (show h.next+1<h2.next by omega)]
  simp
 generalize hh4:(h2.put (h.next+1) (.cells x.w.cells)).put (h.next+2) (.cells x.g.cells)=h4
 have e4:Ext h h4:=by subst hh4;exact ((e1.trans e2).put (by omega) _).put (by omega) _
 have gx4:h4.get h.next=some (.cells x.cells):=by subst hh4;rw[zaa (by omega),zaa (by omega)];exact e2.get (by omega) gx
 have gw4:h4.get (h.next+1)=some (.cells x.w.cells):=by subst hh4;rw[zaa (by omega)];exact zab
 have gg4:h4.get (h.next+2)=some (.cells x.g.cells):=by subst hh4;exact zab
 clear hh4 s1 s2 b1 b2 g9 g10 g10' hh2
 refine zbs (fun t=>t.length=62∧nth t 1=.p h.next 0∧nth t 3=.p (h.next+1) 0∧nth t 4=.p (h.next+2) 0) ?_ ?_
 ·refine⟨?_,?_,?_,?_⟩<;>simp only[go_sem,↓reduceIte,tl,t1]
 clear t1 tl t
 rintro t ⟨tl,t1,t3,t4⟩
 obtain⟨l0,l1,l2,l3,l11,l21,l23,_,_,_⟩:=entL gx4
 have w0:ldV h4 (.p (h.next+1) 0)=some (.i .i64 x.w.id):=zad gw4 rfl
 have w2:ldV h4 (.p (h.next+1) 2)=some (.i .i64 x.w.signer):=zad gw4 rfl
 have w3:ldV h4 (.p (h.next+1) 3)=some (.i .i64 x.w.giver):=zad gw4 rfl
 have w4:ldV h4 (.p (h.next+1) 4)=some (.i .i64 x.w.taker):=zad gw4 rfl
 have w5:ldV h4 (.p (h.next+1) 5)=some (.i .i64 x.w.under):=zad gw4 rfl
 have w6:ldV h4 (.p (h.next+1) 6)=some (.i .i64 x.w.over):=zad gw4 rfl
 have w7:ldV h4 (.p (h.next+1) 7)=some (.i .i64 x.w.since):=zad gw4 rfl
 have w8:ldV h4 (.p (h.next+1) 8)=some (.i .i64 x.w.til):=zad gw4 rfl
 have g0:ldV h4 (.p (h.next+2) 0)=some (.i .i64 x.g.id):=zad gg4 rfl
 have g2:ldV h4 (.p (h.next+2) 2)=some (.i .i64 x.g.frm):=zad gg4 rfl
 have g3:ldV h4 (.p (h.next+2) 3)=some (.i .i64 x.g.to):=zad gg4 rfl
 have g4:ldV h4 (.p (h.next+2) 4)=some (.i .u8 (x.g.cur:Int)):=zad gg4 rfl
 have g5:ldV h4 (.p (h.next+2) 5)=some (.i .i64 x.g.n):=zad gg4 rfl
 have g9:ldV h4 (.p (h.next+2) 9)=some (.i .i64 x.g.ret):=zad gg4 rfl
 have hcv:zca .i64 (.i .u8 (x.g.cur:Int))=some (.i .i64 (x.g.cur:Int)):=zcn hcur
 have k1:binV .eql (.i .u8 (x.kind:Int)) (.i .u8 1)=some (.b (decide (x.kind=1))):=zaj (j:=1)
 have k2:binV .eql (.i .u8 (x.kind:Int)) (.i .u8 2)=some (.b (decide (x.kind=2))):=zaj (j:=2)
 have k3:binV .eql (.i .u8 (x.kind:Int)) (.i .u8 3)=some (.b (decide (x.kind=3))):=zaj (j:=3)
 have k4:binV .eql (.i .u8 (x.kind:Int)) (.i .u8 4)=some (.b (decide (x.kind=4))):=zaj (j:=4)
 have k5:binV .eql (.i .u8 (x.kind:Int)) (.i .u8 5)=some (.b (decide (x.kind=5))):=zaj (j:=5)
 have fin:∀(vs:List Int),x.vals=vs→(Ext h (h4.new (.cells (vs.map (V.i .i64))))∧Own h 1 (h4.new (.cells (vs.map (V.i .i64)))) (.sl h4.next 0 vs.length vs.length none) x.vals.length (x.vals.map (V.i .i64))):=by
  intro vs hv
  subst hv
  exact⟨e4.new _,(Own.lit (esz:=1) e4 (x.vals.map (V.i .i64)) x.vals.length (by simp)).1⟩
 have f1:∀v:V,v.cells=[v]→zhQ v=some [v]:=fun v hv=>by simp[zhQ,hv]
 by_cases c12:x.kind=1∨x.kind=2
 ·have hv:x.vals=[x.a,x.n]:=by unfold Ent.vals;rw[if_pos c12]
  have f2:zqH (.i .i64 x.a) (.i .i64 x.n)=some [.i .i64 x.a,.i .i64 x.n]:=rfl
  by_cases c1:x.kind=1
  ·have d1:decide (x.kind=1)=true:=decide_eq_true c1
   simp only[go_sem,↓reduceIte,r97_2,r97_3,r97_5,tl,t1,t3,t4,l0,k1,d1,l21,l23,f2]
   exact fin _ hv
  ·have d1:decide (x.kind=1)=false:=decide_eq_false c1
   have d2:decide (x.kind=2)=true:=decide_eq_true (by omega)
   simp only[go_sem,↓reduceIte,r97_2,r97_3,r97_4,r97_5,tl,t1,t3,t4,l0,k1,d1,k2,d2,l21,l23,f2]
   exact fin _ hv
 have d1:decide (x.kind=1)=false:=decide_eq_false (by omega)
 have d2:decide (x.kind=2)=false:=decide_eq_false (by omega)
 by_cases c3:x.kind=3
 ·have d3:decide (x.kind=3)=true:=decide_eq_true c3
  have hv:x.vals=[x.w.id,x.w.signer,x.w.giver,x.w.taker,x.w.under,x.w.over,x.w.since,x.w.til]:=by unfold Ent.vals;rw[if_neg c12,if_pos c3]
  simp only[go_sem,↓reduceIte,r97_2,r97_3,r97_4,r97_6,r97_7,tl,t1,t3,t4,l0,k1,d1,k2,d2,k3,d3,w0,w2,w3,w4,w5,w6,w7,w8]
  rw[znO (v0:=.i .i64 x.w.id) (v1:=.i .i64 x.w.signer) (v2:=.i .i64 x.w.giver) (v3:=.i .i64 x.w.taker) (v4:=.i .i64 x.w.under) (v5:=.i .i64 x.w.over) (v6:=.i .i64 x.w.since) (v7:=.i .i64 x.w.til)
   (by simp only[go_sem,↓reduceIte,tl]) (by simp only[go_sem,↓reduceIte,tl]) (by simp only[go_sem,↓reduceIte,tl]) (by simp only[go_sem,↓reduceIte,tl]) (by simp only[go_sem,↓reduceIte,tl]) (by simp only[go_sem,↓reduceIte,tl]) (by simp only[go_sem,↓reduceIte,tl]) (by simp only[go_sem,↓reduceIte,tl]) rfl rfl rfl rfl rfl rfl rfl rfl]
  simp only[go_sem,↓reduceIte,tl]
  exact fin _ hv
 have d3:decide (x.kind=3)=false:=decide_eq_false c3
 by_cases c4:x.kind=4
 ·have d4:decide (x.kind=4)=true:=decide_eq_true c4
  have hv:x.vals=[x.w.id]:=by unfold Ent.vals;rw[if_neg c12,if_neg c3,if_pos c4]
  simp only[go_sem,↓reduceIte,r97_2,r97_3,r97_4,r97_6,r97_8,r97_9,tl,t1,t3,t4,l0,k1,d1,k2,d2,k3,d3,k4,d4,w0,f1 (.i .i64 x.w.id) rfl]
  exact fin _ hv
 have d4:decide (x.kind=4)=false:=decide_eq_false c4
 by_cases c5:x.kind=5
 ·have d5:decide (x.kind=5)=true:=decide_eq_true c5
  have hv:x.vals=[x.g.id,x.g.frm,x.g.to,(x.g.cur:Int),x.g.n,x.g.ret]:=by unfold Ent.vals;rw[if_neg c12,if_neg c3,if_neg c4,if_pos c5]
  simp only[go_sem,↓reduceIte,r97_2,r97_3,r97_4,r97_6,r97_8,r97_10,r97_11,tl,t1,t3,t4,l0,k1,d1,k2,d2,k3,d3,k4,d4,k5,d5,g0,g2,g3,g4,g5,g9,hcv]
  rw[zqG (v0:=.i .i64 x.g.id) (v1:=.i .i64 x.g.frm) (v2:=.i .i64 x.g.to) (v3:=.i .i64 (x.g.cur:Int)) (v4:=.i .i64 x.g.n) (v5:=.i .i64 x.g.ret)
   (by simp only[go_sem,↓reduceIte,tl]) (by simp only[go_sem,↓reduceIte,tl]) (by simp only[go_sem,↓reduceIte,tl]) (by simp only[go_sem,↓reduceIte,tl]) (by simp only[go_sem,↓reduceIte,tl]) (by simp only[go_sem,↓reduceIte,tl]) rfl rfl rfl rfl rfl rfl]
  simp only[go_sem,↓reduceIte,tl]
  exact fin _ hv
 have d5:decide (x.kind=5)=false:=decide_eq_false c5
 have hv:x.vals=[x.g.id]:=by unfold Ent.vals;rw[if_neg c12,if_neg c3,if_neg c4,if_neg c5]
 simp only[go_sem,↓reduceIte,r97_2,r97_3,r97_4,r97_6,r97_8,r97_10,r97_12,tl,t1,t3,t4,l0,k1,d1,k2,d2,k3,d3,k4,d4,k5,d5,g0,f1 (.i .i64 x.g.id) rfl]
 exact fin _ hv
def putE (x:Ent):V:=if x.formed then .tup [.s x.text,.i .i64 0] else .tup [.s [],.i .i64 1]
theorem zgD:∀ns:List Int,(zcI ns).length≤22*ns.length
 |[]=>by simp[zcI]
 |n::ns=>by
  have ih:=zgD ns
  have:=zei n
  simp[zcI]at ih ⊢
  omega
theorem zjc {ns:List Int} {i:Nat} {n:Int} (hp:ns[i]? = some n):zcI (ns.take (i+1))=zcI (ns.take i)++(32::itoa n):=by
 rw[zaz hp];simp[zcI]
theorem vals_len (x:Ent):x.vals.length≤8:=by
 unfold Ent.vals
 split
 ·simp
 split
 ·simp
 split
 ·simp
 split<;>simp
theorem verb_len:∀k:Fin 8,(zas k.val).length≤7:=by decide
theorem ixV_u8 {v:V} {k:Nat}:ixV 1 v (.i .u8 (k:Int))=ixV 1 v (.i .i64 (k:Int)):=rfl
theorem zqx (ht:Tb4 h) {x:Ent} (ok:x.Ok):WC tb1 (.fn 58 [] []) [.agg x.cells] h fun u h'=>u=putE x∧Ext h h':=by
 refine (zay t2058).2 ?_
 have hc:(V.agg x.cells).cells=x.cells:=rfl
 have e1:Ext h (h.new (.cells x.cells)):=(Ext.refl h).new _
 have gx:(h.new (.cells x.cells)).get h.next=some (.cells x.cells):=zac rfl
 have n1:(h.new (.cells x.cells)).next=h.next+1:=rfl
 obtain⟨_,_,_,_,_,_,_,_,_,lx⟩:=entL gx
 simp only[go_sem,↓reduceIte,r58_0,r58_1,hc,lx]
 generalize h.new (.cells x.cells)=h1 at e1 gx n1
 refine (zjq ok.kind ok.cur).mono ?_
 rintro u h2 ⟨rfl,e2⟩
 have g2:=e2.get (by omega) gx
 have n2:h.next<h2.next:=by have:=e2.nx;omega
 have e02:=e1.trans e2
 unfold putE
 cases hf:x.formed
 ·simp only[go_sem,↓reduceIte,r58_2]
  exact e02
 simp only[go_sem,↓reduceIte]
 have hk:=zbf hf
 obtain⟨l0,l1,_⟩:=entL g2
 have htb:Tb4 h2.bare:=(ht.ext e02).bare
 have kd:=zei x.day
 have b1:binV .add (.s (itoa x.day)) (.s [32])=some (.s (itoa x.day++[32])):=zbE (by simp only[List.length_cons,List.length_nil];omega)
 refine zdy (fun t=>t.length=34∧nth t 1=.p h.next 0) (by simp only[go_sem,↓reduceIte]) ?_
 rintro t ⟨tl,t1⟩
 simp only[go_sem,↓reduceIte,r58_3,tl,t1,l1,zkn htb ok.day,b1,zaG,H.back_bare,List.cons_append,List.nil_append]
 refine fn_verbs.mono ?_
 rintro u h3 ⟨e3,O⟩
 have ho3:=e3.old
 have e3':=e3.back
 rw[Kdrw_eq,ho3]
 have O':Own h2 1 (h2.back h3) u 8 (verbL.map V.s):=O
 generalize h2.back h3=h4 at e3' O'
 have g4:=e3'.get n2 g2
 have m0:ldV h4 (.p h.next 0)=some (.i .u8 (x.kind:Int)):=(entL g4).1
 have hix:=O'.sl.ix (i:=x.kind) (by omega)
 rw[← ixV_u8]at hix
 have hld:=O'.sl.ld1 (i:=x.kind) (by omega)
 have hvb:verbL[x.kind]? = some (zas x.kind):=by
  unfold zas
  rw[List.getD_eq_getElem?_getD,List.getElem?_eq_getElem (by simp[verbL];omega)];rfl
 rw[List.getElem?_map,hvb]at hld
 have hvl:(zas x.kind).length≤7:=verb_len ⟨x.kind,Nat.lt_of_le_of_lt hk.2 (by decide)⟩
 have b2:binV .add (.s (itoa x.day++[32])) (.s (zas x.kind))=some (.s (itoa x.day++[32]++zas x.kind)):=zbE (by simp only[List.length_append,List.length_cons,List.length_nil];omega)
 have lH:(itoa x.day++[32]++zas x.kind).length≤40:=by simp only[List.length_append,List.length_cons,List.length_nil];omega
 have htx:x.text=itoa x.day++[32]++zas x.kind++zcI x.vals:=rfl
 simp only[go_sem,↓reduceIte,tl,t1,m0,hix,hld,b2,Option.map_some,zaG,H.back_bare,List.cons_append,List.nil_append]
 generalize itoa x.day++[32]++zas x.kind=H0 at lH htx
 refine⟨rfl,?_⟩
 have e04:=e02.trans e3'
 obtain⟨_,_,_,_,_,_,_,_,_,lx4⟩:=entL g4
 refine zbs (fun t=>t.length=34∧nth t 1=.p h.next 0∧nth t 4=.s H0) (by simp only[go_sem,↓reduceIte,tl,t1]) ?_
 clear t1 tl t
 rintro t ⟨tl,t1,t4⟩
 simp only[go_sem,↓reduceIte,r58_4,tl,t1,lx4]
 refine (zqo ok.cur).mono ?_
 rintro u5 h5 ⟨e5,O5⟩
 have hlv:=O5.sl.len
 have hvl8:=vals_len x
 have hti:=zgD x.vals
 have e05:=e04.trans e5
 have ht5:=ht.ext e05
 have hvi:∀v∈x.vals,I64 v:=by
  intro v hv
  have:=zcP hf v hv
  exact⟨by omega,by omega⟩
 simp only[go_sem,↓reduceIte,tl,hlv]
 refine zax (fun k t hh=>∃i,k=x.vals.length-i∧i≤x.vals.length∧t.length=34∧nth t 4=.s (H0++zcI (x.vals.take i))∧nth t 21=u5∧nth t 22=.i .i64 (x.vals.length:Int)∧nth t 23=.i .i64 (i:Int)∧hh=h5) ?_ x.vals.length ?_
 ·clear t4 t1 tl t
  rintro k t hh ⟨i,rfl,hi,tl,t4,t21,t22,t23,rfl⟩
  unfold b58_0
  by_cases hin:i<x.vals.length
  ·have hI:(i:Int)<(x.vals.length:Int):=by omega
   have hp:x.vals[i]? = some x.vals[i]:=List.getElem?_eq_getElem hin
   generalize x.vals[i]=v at hp
   have hix:=O5.sl.ix hin
   have hld:=O5.sl.ld1 hin
   rw[List.getElem?_map,hp]at hld
   have w1:IntKind.i64.wrap ((i:Int)+1)=((i+1:Nat):Int):=zaq (by omega)
   have kv:=zei v
   have lT:=zgD (x.vals.take i)
   rw[List.length_take]at lT
   have c1:binV .add (.s [32]) (.s (itoa v))=some (.s (32::itoa v)):=zbE (by simp only[List.length_cons,List.length_nil];omega)
   have c2:binV .add (.s (H0++zcI (x.vals.take i))) (.s (32::itoa v))=some (.s (H0++zcI (x.vals.take (i+1)))):=by
    rw[zbE (by simp only[List.length_append,List.length_cons];omega),zjc hp,List.append_assoc]
   simp only[go_sem,↓reduceIte,r58_5,r58_6,r58_7,r58_8,tl,t4,t21,t22,t23,hI,hix,hld,Option.map_some,zkn ht5 (hvi v (List.mem_of_getElem? hp)),c1,c2,w1]
   exact⟨x.vals.length-(i+1),by omega,i+1,rfl,by omega,rfl,rfl⟩
  ·have hI:¬ (i:Int)<(x.vals.length:Int):=by omega
   obtain rfl:i=x.vals.length:=by omega
   rw[List.take_length,← htx]at t4
   simp only[go_sem,↓reduceIte,r58_5,r58_9,tl,t4,t22,t23,hI]
   exact e05
 ·refine⟨0,rfl,by omega,?_,?_,?_,?_,?_,rfl⟩<;>simp only[go_sem,↓reduceIte,tl,t4,zcI,List.take_zero,List.flatMap_nil,List.append_nil]
end
end Go.Air
set_option maxRecDepth 100000
namespace Go.Air
open Go.Air.Try
def Kd (S:H→Prop) (o:Out) (_:List V) (h:H):Prop:=match o with
 |.norm=>S h
 |.ret=>S h
 |_=>False
section
variable {tbl:Tb} {h:H} {S Sp:V→H→Prop} {t:List V}
@[go_sem ↓] theorem Kd_norm {R:H→Prop}:Kd R .norm t h↔R h:=Iff.rfl
@[go_sem ↓] theorem Kd_ret {R:H→Prop}:Kd R .ret t h↔R h:=Iff.rfl
theorem WD1_in {g n m:Nat} {res:List ResV} {body:C} {caps:List V} {v:V} {R:H→Prop} (ht:tbl g=some ⟨m,res,body,none,some n⟩):WD1 tbl (.fn g [] caps) v h R↔W tbl body (upd (pad caps m) n v) h (Kd R):=
 WD1_fn ht rfl
def Kdf (tbl:Tb) (f:V) (res:List ResV) (S:V→H→Prop) (o:Out) (t:List V) (h:H):Prop:=match o with
 |.exit _=>False
 |.norm=>WD1 tbl f .in0 h fun h2=>zdl (zao t h2 res) h2 S
 |.ret=>WD1 tbl f .in0 h fun h2=>zdl (zao t h2 res) h2 S
 |.pan v=>WD1 tbl f v h fun h2=>zdl (zao t h2 res) h2 S
def Kpre (tbl:Tb) (body:C) (x:X) (res:List ResV) (S:V→H→Prop) (o:Out) (t:List V) (h:H):Prop:=o=.norm∧W tbl body t h (Kdf tbl (x.ev t) res S)
@[go_sem ↓] theorem Kpre_norm {body:C} {x:X} {res:List ResV}:Kpre tbl body x res S .norm t h↔W tbl body t h (Kdf tbl (x.ev t) res S):=by simp[Kpre]
@[go_sem ↓] theorem Kdf_ret {f:V} {res:List ResV}:Kdf tbl f res S .ret t h↔WD1 tbl f .in0 h fun h2=>zdl (zao t h2 res) h2 S:=Iff.rfl
@[go_sem ↓] theorem Kdf_pan {f v:V} {res:List ResV}:Kdf tbl f res S (.pan v) t h↔WD1 tbl f v h fun h2=>zdl (zao t h2 res) h2 S:=Iff.rfl
theorem zrm {g m:Nat} {first caps args:List V} {res:List ResV} {body pre:C} {x:X} (ht:tbl g=some ⟨m,res,body,some (pre,x),none⟩) (hw:W tbl pre (pad (first++args++caps) m) h (Kpre tbl body x res S)):WX tbl (.fn g first caps) args h S Sp:=by
 refine WC_dfr ht rfl rfl (hw.mono ?_)
 rintro o t' h' ⟨rfl,q⟩
 refine⟨rfl,q.mono ?_⟩
 intro o t1 h1 q1
 cases o<;>exact q1
end
theorem Ch.refl (b:Nat) (h:H):Ch b h h:=⟨Nat.le_refl _,fun _ _ _=>rfl,[],rfl,fun _ hx=>by simp at hx⟩
end Go.Air
set_option maxRecDepth 100000
namespace Go.Air
open Go.Air.Try
def nfT:Nat:=109
def nfV:V:=.ifc nfT (.agg [])
def zaB (left:List Nat):List Nat × List Nat × Bool:=match cutL 32 left with
 |some (a,b)=>(a,b,true)
 |none=>(left,[],false)
def wordH (h:H) (lb mb:Nat) (left:List Nat):H:=(h.put lb (.cells [.s (zaB left).2.1])).put mb (.cells [.b (zaB left).2.2])
section
variable {h:H} {S Sp:V→H→Prop}
theorem t2052:tb1 52=some a52:=by kernel_rfl
theorem t2054:tb1 54=some a54:=by kernel_rfl
theorem zlt {lb mb:Nat} (gm:h.get mb=some (.cells [.b false])):WX tb1 (.fn 52 [] [.p mb 0,.p lb 0]) [] h S Sp↔Sp nfV h:=by
 rw[zhJ t2052]
 have lm:ldV h (.p mb 0)=some (.b false):=zad gm rfl
 simp only[go_sem,↓reduceIte,r52_0,r52_1,r52_2,lm,zqJ,List.nil_append,List.cons_append,List.append_nil]
 exact Iff.rfl
theorem ziw {lb mb:Nat} {left:List Nat} (gm:h.get mb=some (.cells [.b true])) (gl:h.get lb=some (.cells [.s left])) (hne:lb≠mb) (hl:left.length≤1000000) :
 WX tb1 (.fn 52 [] [.p mb 0,.p lb 0]) [] h S Sp↔S (.s (zaB left).1) (wordH h lb mb left):=by
 rw[zhJ t2052]
 have lm:ldV h (.p mb 0)=some (.b true):=zad gm rfl
 have ll:ldV h (.p lb 0)=some (.s left):=zad gl rfl
 have hr:cutR 32 left=.tup [.s (zaB left).1,.s (zaB left).2.1,.b (zaB left).2.2]:=by
  unfold cutR zaB
  cases cutL 32 left<;>rfl
 have s1:stV h 1 (.p lb 0) (.s (zaB left).2.1)=some (h.put lb (.cells [.s (zaB left).2.1])):=zbB (i:=0) gl (by simp) rfl rfl
 have s2:stV (h.put lb (.cells [.s (zaB left).2.1])) 1 (.p mb 0) (.b (zaB left).2.2)=some (wordH h lb mb left):=zbB (i:=0) ((zaa (fun e=>hne e.symm)).trans gm) (by simp) rfl rfl
 simp only[go_sem,↓reduceIte,r52_0,r52_1,r52_3,r52_4,r52_5,lm,ll,fn_Cut (show 32<256 by omega) (show left.length≤1000000000 by omega),hr,zbz,s1,s2,List.nil_append,List.cons_append,List.append_nil]
theorem ziy {lb mb fb:Nat} (gf:h.get fb=some (.cells [.fn 52 [] [.p mb 0,.p lb 0]])) (gm:h.get mb=some (.cells [.b false])):WX tb1 (.fn 54 [] [.p fb 0]) [] h S Sp↔Sp nfV h:=by
 rw[zhJ t2054]
 have lf:ldV h (.p fb 0)=some (.fn 52 [] [.p mb 0,.p lb 0]):=zad gf rfl
 simp only[go_sem,↓reduceIte,r54_0,r54_1,lf,zlt gm,List.nil_append,List.cons_append,List.append_nil]
theorem zeA (left:List Nat):(zaB left).1.length≤left.length∧(zaB left).2.1.length≤left.length:=by
 unfold zaB
 split
 ·rename_i a b hc
  obtain⟨rfl,_⟩:=zgY hc
  simp;omega
 ·simp
theorem zhB {lb mb fb:Nat} {left:List Nat} {n:Int} (gf:h.get fb=some (.cells [.fn 52 [] [.p mb 0,.p lb 0]])) (gm:h.get mb=some (.cells [.b true])) (gl:h.get lb=some (.cells [.s left])) (hne:lb≠mb) (hl:left.length≤1000000)
 (ht:Tb4 (wordH h lb mb left)) (hn:num1 (zaB left).1=some n):WX tb1 (.fn 54 [] [.p fb 0]) [] h S Sp↔S (.i .i64 n) (wordH h lb mb left):=by
 rw[zhJ t2054]
 have lf:ldV h (.p fb 0)=some (.fn 52 [] [.p mb 0,.p lb 0]):=zad gf rfl
 have hw:=(zeA left).1
 have ha:ziU (zaB left).1=.ok n:=by
  unfold num1 at hn
  split at hn
  ·rename_i k hk;cases hn;exact hk
  ·cases hn
 simp only[go_sem,↓reduceIte,r54_0,r54_1,r54_2,r54_4,lf,ziw gm gl hne hl,zoN ht (show (zaB left).1.length≤1000000 by omega) ha,zbz,eqi_00,List.nil_append,List.cons_append,List.append_nil]
theorem zgT {lb mb fb:Nat} {left:List Nat} (gf:h.get fb=some (.cells [.fn 52 [] [.p mb 0,.p lb 0]])) (gm:h.get mb=some (.cells [.b true])) (gl:h.get lb=some (.cells [.s left])) (hne:lb≠mb) (hl:left.length≤1000000)
 (ht:Tb4 (wordH h lb mb left)) (hn:num1 (zaB left).1=none):WX tb1 (.fn 54 [] [.p fb 0]) [] h S Sp↔Sp nfV ((wordH h lb mb left).new (.ro [none,none,none])):=by
 rw[zhJ t2054]
 have lf:ldV h (.p fb 0)=some (.fn 52 [] [.p mb 0,.p lb 0]):=zad gf rfl
 have hw:=(zeA left).1
 have ha:∀n,ziU (zaB left).1≠.ok n:=by
  intro n hk
  unfold num1 at hn
  rw[hk]at hn
  cases hn
 obtain⟨x,hx⟩:=zmL ht (show (zaB left).1.length≤1000000 by omega) ha
 simp only[go_sem,↓reduceIte,r54_0,r54_1,r54_2,r54_3,lf,ziw gm gl hne hl,hx,zbz,eqi_v0,zqJ,List.nil_append,List.cons_append,List.append_nil]
 exact Iff.rfl
end
structure At23 (h0 hh:H) (n xb:Nat) (ws0:List (List Nat)) (i:Nat) (x:List V):Prop where
 tb:Tb4 h0
 nb:h0.next≤n
 ext:Ext h0 hh
 z:hh.get n=some (.cells zE)
 e:hh.get (n+1)=some (.cells [.i .i64 0])
 st:∃left more,hh.get (n+2)=some (.cells [.s left])∧hh.get (n+3)=some (.cells [.b more])∧left.length≤1000000∧((more=true∧ws0.drop i=zaM 32 left)∨(more=false∧ws0.drop i=[]))
 f:hh.get (n+4)=some (.cells [.fn 52 [] [.p (n+3) 0,.p (n+2) 0]])
 x:hh.get xb=some (.cells x)
 xn:n+4≤xb
 lt:xb<hh.next
structure F23 (h0 hh:H) (n:Nat):Prop where
 ext:Ext h0 hh
 z:hh.get n=some (.cells zE)
 e:hh.get (n+1)=some (.cells [.i .i64 0])
 lt:n+1<hh.next
section
variable {h0 hh:H} {n xb:Nat} {ws0:List (List Nat)} {i:Nat} {x:List V} {S Sp:V→H→Prop}
theorem At23.fail (q:At23 h0 hh n xb ws0 i x):F23 h0 hh n:=⟨q.ext,q.z,q.e,by have:=q.xn;have:=q.lt;omega⟩
theorem At23.put (q:At23 h0 hh n xb ws0 i x) (hs:n+4<xb) (x':List V):At23 h0 (hh.put xb (.cells x')) n xb ws0 i x':=by
 obtain⟨left,more,a1,a2,a3,a4⟩:=q.st
 have hx:=q.xn
 have hn:=q.nb
 exact⟨q.tb,q.nb,q.ext.put (by omega) _,by rw[zaa (by omega)];exact q.z,by rw[zaa (by omega)];exact q.e,⟨left,more,by rw[zaa (by omega)];exact a1,by rw[zaa (by omega)];exact a2,a3,a4⟩,by rw[zaa (by omega)];exact q.f,zab,q.xn,q.lt⟩
theorem At23.step {h':H} (q:At23 h0 hh n xb ws0 i x) (e:Ext hh h'):At23 h0 h' n xb ws0 i x:=by
 obtain⟨left,more,a1,a2,a3,a4⟩:=q.st
 have hx:=q.xn
 have hl:=q.lt
 exact⟨q.tb,q.nb,q.ext.trans e,e.get (by omega) q.z,e.get (by omega) q.e,⟨left,more,e.get (by omega) a1,e.get (by omega) a2,a3,a4⟩,e.get (by omega) q.f,e.get (by omega) q.x,q.xn,Nat.lt_of_lt_of_le hl e.nx⟩
theorem zqP {ws:List (List Nat)} {i:Nat} {w:List Nat} {r:List (List Nat)} (h:ws.drop i=w::r):ws[i]? = some w∧ws.drop (i+1)=r:=by
 constructor
 ·have:=congrArg (·[0]?) h
  simpa [List.getElem?_drop] using this
 ·rw[← List.drop_drop,h];rfl
theorem zkt {ws:List (List Nat)} {i:Nat} (h:ws.drop i=[]):ws[i]? = none:=by
 rw[List.drop_eq_nil_iff]at h
 rw[List.getElem?_eq_none_iff];exact h
theorem zof (left:List Nat):∃r,zaM 32 left=(zaB left).1::r∧(((zaB left).2.2=true∧r=zaM 32 (zaB left).2.1)∨((zaB left).2.2=false∧r=[])):=by
 unfold zaB
 cases hc:cutL 32 left with
 |none=>exact⟨[],zdT (ziK hc),.inr ⟨rfl,rfl⟩⟩
 |some p=>
  obtain⟨a,b⟩:=p
  obtain⟨rfl,ha⟩:=zgY hc
  exact⟨zaM 32 b,zdI ha,.inl ⟨rfl,rfl⟩⟩
theorem At23.wordH {left:List Nat} (q:At23 h0 hh n xb ws0 i x) (hw:ws0.drop i=zaM 32 left) (hl:left.length≤1000000) :
 At23 h0 (wordH hh (n+2) (n+3) left) n xb ws0 (i+1) x∧ws0[i]? = some (zaB left).1:=by
 obtain⟨r,h1,h2⟩:=zof left
 rw[h1]at hw
 obtain⟨q1,q2⟩:=zqP hw
 have hx:=q.xn
 have hlt:=q.lt
 have hnb:=q.nb
 refine⟨⟨q.tb,q.nb,(q.ext.put (by omega) _).put (by omega) _,?_,?_,⟨(zaB left).2.1,(zaB left).2.2,?_,zab,Nat.le_trans (zeA left).2 hl,?_⟩,?_,?_,q.xn,hlt⟩,q1⟩
 ·unfold Go.Air.wordH;rw[zaa (by omega),zaa (by omega)];exact q.z
 ·unfold Go.Air.wordH;rw[zaa (by omega),zaa (by omega)];exact q.e
 ·unfold Go.Air.wordH;rw[zaa (by omega)];exact zab
 ·rcases h2 with⟨a,b⟩|⟨a,b⟩
  ·exact .inl ⟨a,q2.trans b⟩
  ·exact .inr ⟨a,q2.trans b⟩
 ·unfold Go.Air.wordH;rw[zaa (by omega),zaa (by omega)];exact q.f
 ·unfold Go.Air.wordH;rw[zaa (by omega),zaa (by omega)];exact q.x
theorem At23.word (q:At23 h0 hh n xb ws0 i x) (K:∀w hh',ws0[i]? = some w→At23 h0 hh' n xb ws0 (i+1) x→S (.s w) hh') (KP:ws0[i]? = none→Sp nfV hh):WX tb1 (.fn 52 [] [.p (n+3) 0,.p (n+2) 0]) [] hh S Sp:=by
 obtain⟨left,more,gl,gm,hl,⟨rfl,hw⟩|⟨rfl,hw⟩⟩:=q.st
 ·rw[ziw gm gl (by omega) hl]
  obtain⟨q1,q2⟩:=q.wordH hw hl
  exact K _ _ q2 q1
 ·rw[zlt gm]
  exact KP (zkt hw)
theorem At23.number (q:At23 h0 hh n xb ws0 i x) (K:∀v hh',zcC ws0 i=some v→At23 h0 hh' n xb ws0 (i+1) x→S (.i .i64 v) hh') (KP:∀hh',zcC ws0 i=none→F23 h0 hh' n→Sp nfV hh'):WX tb1 (.fn 54 [] [.p (n+4) 0]) [] hh S Sp:=by
 obtain⟨left,more,gl,gm,hl,⟨rfl,hw⟩|⟨rfl,hw⟩⟩:=q.st
 ·obtain⟨q1,q2⟩:=q.wordH hw hl
  have ht:=q.tb.ext q1.ext
  cases hn:num1 (zaB left).1 with
  |some v=>
   rw[zhB q.f gm gl (by omega) hl ht hn]
   exact K v _ (by unfold zcC;rw[q2];exact hn) q1
  |none=>
   rw[zgT q.f gm gl (by omega) hl ht hn]
   have qf:=(q1.step ((Ext.refl _).new (.ro [none,none,none]))).fail
   exact KP _ (by unfold zcC;rw[q2];exact hn) qf
 ·rw[ziy q.f gm]
  exact KP _ (by unfold zcC;rw[zkt hw]) q.fail
theorem At23.number2 (q:At23 h0 hh n xb ws0 i x) (K:∀v hh',zcC ws0 i=some v→At23 h0 hh' n xb ws0 (i+1) x→(∀k,k≠n+2→k≠n+3→hh'.get k=hh.get k)→hh'.next=hh.next→S (.i .i64 v) hh') (KP:∀hh',zcC ws0 i=none→F23 h0 hh' n→Sp nfV hh'):WX tb1 (.fn 54 [] [.p (n+4) 0]) [] hh S Sp:=by
 obtain⟨left,more,gl,gm,hl,⟨rfl,hw⟩|⟨rfl,hw⟩⟩:=q.st
 ·obtain⟨q1,q2⟩:=q.wordH hw hl
  have ht:=q.tb.ext q1.ext
  cases hn:num1 (zaB left).1 with
  |some v=>
   rw[zhB q.f gm gl (by omega) hl ht hn]
   exact K v _ (by unfold zcC;rw[q2];exact hn) q1 (fun k h2 h3=>by unfold Go.Air.wordH;rw[zaa h3,zaa h2]) rfl
  |none=>
   rw[zgT q.f gm gl (by omega) hl ht hn]
   have qf:=(q1.step ((Ext.refl _).new (.ro [none,none,none]))).fail
   exact KP _ (by unfold zcC;rw[q2];exact hn) qf
 ·rw[ziy q.f gm]
  exact KP _ (by unfold zcC;rw[zkt hw]) q.fail
end
end Go.Air
set_option maxRecDepth 100000
namespace Go.Air
open Go.Air.Try
def zct (s:List Nat):V:=match zcf s with
 |some x=>.tup [.agg x.cells,.i .i64 0]
 |none=>.tup [.agg zE,.i .i64 4]
def kUp (verb:List Nat):Nat→Nat
 |0=>0
 |i+1=>if 0<i∧verbL.getD i []=verb then i else kUp verb i
theorem kUp_lt (verb:List Nat):∀i,kUp verb i≤i
 |0=>Nat.le_refl 0
 |i+1=>by
  have:=kUp_lt verb i
  rw[kUp]
  split<;>omega
theorem kUp_8 (verb:List Nat):kUp verb 8=zbN verb:=by
 by_cases h1:verb=zas 1
 ·subst h1;decide
 by_cases h2:verb=zas 2
 ·subst h2;decide
 by_cases h3:verb=zas 3
 ·subst h3;decide
 by_cases h4:verb=zas 4
 ·subst h4;decide
 by_cases h5:verb=zas 5
 ·subst h5;decide
 by_cases h6:verb=zas 6
 ·subst h6;decide
 by_cases h7:verb=zas 7
 ·subst h7;decide
 have e:zbN verb=0:=by unfold zbN;rw[if_neg h1,if_neg h2,if_neg h3,if_neg h4,if_neg h5,if_neg h6,if_neg h7]
 have d:∀j:Nat,verbL.getD j []=zas j:=fun _=>rfl
 rw[e]
 simp only[kUp,d]
 rw[if_neg (fun q=>h7 q.2.symm),if_neg (fun q=>h6 q.2.symm),if_neg (fun q=>h5 q.2.symm),if_neg (fun q=>h4 q.2.symm),if_neg (fun q=>h3 q.2.symm),if_neg (fun q=>h2 q.2.symm),if_neg (fun q=>h1 q.2.symm),if_neg (by omega)]
def kdC (k:Nat) (day:Int):List V:=(⟨k,day,wv0,gf0,0,0,0⟩:Ent).cells
theorem num1_i64 {w:List Nat} {n:Int} (h:num1 w=some n):I64 n:=by
 unfold num1 at h
 split at h
 ·rename_i k hk
  cases h
  exact Lib.atoiAll_bounds hk
 ·cases h
theorem zeI {ws:List (List Nat)} {i:Nat} {n:Int} (h:zcC ws i=some n):I64 n:=by
 unfold zcC at h
 split at h
 ·exact num1_i64 h
 ·cases h
theorem zff {ws:List (List Nat)}:∀{k i:Nat} {ns:List Int},zaR ws i k=some ns→∀n∈ns,I64 n
 |0,_,ns,h=>by cases h;simp
 |k+1,i,ns,h=>by
  rw[zaR]at h
  split at h
  ·rename_i v hv
   obtain⟨ms,h1,rfl⟩:=Option.map_eq_some_iff.1 h
   intro n hn
   rcases List.mem_cons.1 hn with rfl|hn
   ·exact zeI hv
   ·exact zff h1 n hn
  ·cases h
theorem zew:(0:Nat)<256:=by decide
theorem zmF:I64 0:=⟨by omega,by omega⟩
theorem zjI:∀n∈[wv0.id,wv0.day,wv0.signer,wv0.giver,wv0.taker,wv0.under,wv0.over,wv0.since,wv0.til],I64 n:=by
 intro n hn
 simp[wv0]at hn
 subst hn
 exact zmF
theorem zkj:∀n∈[gf0.id,gf0.day,gf0.frm,gf0.to,gf0.n,gf0.worth,gf0.ans,gf0.ret],I64 n:=by
 intro n hn
 simp[gf0]at hn
 subst hn
 exact zmF
theorem zgy {ws:List (List Nat)} {day:Int} {k:Nat} {x:Ent} (hd:I64 day) (hk:k≤7) (h:zeq ws day k=some x):x.Ok:=by
 have z3:∀n∈[(0:Int),0,0],I64 n:=by intro n hn;simp at hn;subst hn;exact zmF
 unfold zeq at h
 split at h
 ·split at h<;>try cases h
  rename_i a n hn
  have:=zff hn
  refine⟨by show k<256;omega,zew,zew,hd,zjI,zkj,fun v hv => ?_⟩
  simp only[List.mem_cons,List.not_mem_nil,or_false]at hv
  rcases hv with rfl|rfl|rfl
  ·exact this _ (by simp)
  ·exact zmF
  ·exact this _ (by simp)
 split at h
 ·split at h<;>try cases h
  rename_i hn
  have:=zff hn
  refine⟨by show k<256;omega,zew,zew,hd,fun v hv => ?_,zkj,z3⟩
  simp only[List.mem_cons,List.not_mem_nil,or_false]at hv
  rcases hv with rfl|rfl|rfl|rfl|rfl|rfl|rfl|rfl|rfl<;>first|exact hd|exact this _ (by simp)
 split at h
 ·split at h<;>try cases h
  rename_i hn
  have:=zeI hn
  refine⟨by show k<256;omega,zew,zew,hd,fun v hv => ?_,zkj,z3⟩
  simp only[wv0,List.mem_cons,List.not_mem_nil,or_false]at hv
  rcases hv with rfl|rfl|rfl|rfl|rfl|rfl|rfl|rfl|rfl<;>first|exact this|exact zmF
 split at h
 ·split at h<;>try cases h
  split at h<;>try cases h
  rename_i hn hc
  have:=zff hn
  refine⟨by show k<256;omega,by simp only;omega,zew,hd,zjI,fun v hv => ?_,z3⟩
  simp only[List.mem_cons,List.not_mem_nil,or_false]at hv
  rcases hv with rfl|rfl|rfl|rfl|rfl|rfl|rfl|rfl<;>first|exact hd|exact zmF|exact this _ (by simp)
 split at h
 ·split at h<;>try cases h
  rename_i hn
  have:=zeI hn
  refine⟨by show k<256;omega,zew,zew,hd,zjI,fun v hv => ?_,z3⟩
  simp only[gf0,List.mem_cons,List.not_mem_nil,or_false]at hv
  rcases hv with rfl|rfl|rfl|rfl|rfl|rfl|rfl|rfl<;>first|exact this|exact zmF
 ·cases h
  exact⟨by show k<256;omega,zew,zew,hd,zjI,zkj,z3⟩
theorem zln (w:List Nat):zbN w≤7:=by rw[← kUp_8];have:=kUp_lt w 8;rw[kUp_8]at this ⊢;unfold zbN;repeat (first|omega|split)
theorem zee {ws:List (List Nat)}:∀{j i:Nat} {vs:List Int} {v:Int},zaR ws i j=some vs→zcC ws (i+j)=some v→zaR ws i (j+1)=some (vs++[v])
 |0,i,vs,v,h,hv=>by
  cases h
  have hv:zcC ws i=some v:=hv
  rw[zaR,hv];rfl
 |j+1,i,vs,v,h,hv=>by
  rw[zaR]at h
  split at h
  ·rename_i u hu
   obtain⟨ms,h1,rfl⟩:=Option.map_eq_some_iff.1 h
   have:=zee h1 (by rw[show i+1+j=i+(j+1) by omega];exact hv)
   rw[zaR,hu,this];rfl
  ·cases h
theorem zef {ws:List (List Nat)}:∀{m i j:Nat},j<m→zcC ws (i+j)=none→zaR ws i m=none
 |0,_,_,h,_=>by omega
 |m+1,i,0,_,hn=>by
  have hn:zcC ws i=none:=hn
  rw[zaR,hn]
 |m+1,i,j+1,h,hn=>by
  have ih:=zef (ws:=ws) (m:=m) (i:=i+1) (j:=j) (by omega) (by rw[show i+1+j=i+(j+1) by omega];exact hn)
  rw[zaR]
  split
  ·rw[ih];rfl
  ·rfl
theorem zhj {ws:List (List Nat)}:∀{k i:Nat} {vs:List Int},zaR ws i k=some vs→vs.length=k
 |0,_,vs,h=>by cases h;rfl
 |k+1,i,vs,h=>by
  rw[zaR]at h
  split at h
  ·obtain⟨ms,h1,rfl⟩:=Option.map_eq_some_iff.1 h
   rw[List.length_cons,zhj h1]
  ·cases h
def entW (k:Nat) (day:Int) (vs:List Int):Ent:=⟨k,day,⟨vs.getD 0 0,day,vs.getD 1 0,vs.getD 2 0,vs.getD 3 0,vs.getD 4 0,vs.getD 5 0,vs.getD 6 0,vs.getD 7 0⟩,gf0,0,0,0⟩
def offW:List Nat:=[2,4,5,6,7,8,9,10]
theorem setW {k:Nat} {day:Int}:∀(vs:List Int) (v:Int),vs.length<8→(entW k day vs).cells.set (offW.getD vs.length 0) (.i .i64 v)=(entW k day (vs++[v])).cells
 |[],v,_=>rfl
 |[_],v,_=>rfl
 |[_,_],v,_=>rfl
 |[_,_,_],v,_=>rfl
 |[_,_,_,_],v,_=>rfl
 |[_,_,_,_,_],v,_=>rfl
 |[_,_,_,_,_,_],v,_=>rfl
 |[_,_,_,_,_,_,_],v,_=>rfl
 |_::_::_::_::_::_::_::_::l,v,h=>by simp at h;omega
def entG (k:Nat) (day:Int) (vs:List Int):Ent:=⟨k,day,wv0,⟨vs.getD 0 0,day,vs.getD 1 0,vs.getD 2 0,0,vs.getD 4 0,0,0,0,vs.getD 5 0⟩,0,0,0⟩
def offG:List Nat:=[11,13,14,0,16,20]
theorem setG {k:Nat} {day:Int}:∀(vs:List Int) (v:Int),vs.length<6→vs.length≠3→(entG k day vs).cells.set (offG.getD vs.length 0) (.i .i64 v)=(entG k day (vs++[v])).cells
 |[],v,_,_=>rfl
 |[_],v,_,_=>rfl
 |[_,_],v,_,_=>rfl
 |[_,_,_],v,_,h=>by simp at h
 |[_,_,_,_],v,_,_=>rfl
 |[_,_,_,_,_],v,_,_=>rfl
 |_::_::_::_::_::_::l,v,h,_=>by simp at h;omega
theorem setG3 {k:Nat} {day:Int}:∀(vs:List Int) (v:Int),vs.length=3→(entG k day (vs++[v]))=entG k day vs
 |[_,_,_],v,_=>rfl
 |[],v,h=>by simp at h
 |[_],v,h=>by simp at h
 |[_,_],v,h=>by simp at h
 |_::_::_::_::l,v,h=>by simp at h
theorem getD3:∀(vs:List Int) (v:Int),vs.length≠3→vs.length<6→(vs++[v]).getD 3 0=vs.getD 3 0
 |[],v,_,_=>rfl
 |[_],v,_,_=>rfl
 |[_,_],v,_,_=>rfl
 |[_,_,_],v,h,_=>by simp at h
 |_::_::_::_::l,v,_,_=>rfl
end Go.Air
