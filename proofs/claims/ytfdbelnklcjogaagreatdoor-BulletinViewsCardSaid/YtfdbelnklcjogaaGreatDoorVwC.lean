/-
 A part of the proof of: The row of BulletinViews and its tied card,out of the lifted form.
-/
import Derived.Laws.StructEq
import Derived.ChangeKeysEq
import Derived.Laws.BytesString
import Derived.Attr
import Derived.Lib.AtoiAll
import Derived.KernelRfl
import Derived.RangeFuncCalls
import Derived.RangeFuncNested
import Derived.Scope
import Derived.Test.YtfdbelnklcjogaaGreatDoorVwB
set_option linter.unusedSectionVars false
set_option linter.unusedVariables false
set_option linter.unusedSimpArgs false
namespace Go.Air
theorem zgH:∀{a b:List KT},zfP a b=true→a=b
 |[],[],_=>rfl
 |[],_::_,h=>by simp[zfP]at h
 |_::_,[],h=>by simp[zfP]at h
 |x::a,y::b,h=>by
  simp only[zfP,Bool.and_eq_true,decide_eq_true_eq]at h
  rw[h.1,zgH h.2]
theorem zaZ:∀{ks:List KT} {xs:List V},fitL ks xs=true→xs.length=ks.length
 |[],[],_=>rfl
 |[],_::_,h=>by simp[fitL]at h
 |_::_,[],h=>by simp[fitL]at h
 |k::ks,x::xs,h=>by
  simp only[fitL,Bool.and_eq_true]at h
  simp[zaZ h.2]
theorem zel:∀{a b:List KT} {xs:List V},fitL (a++b) xs=true→fitL a (xs.take a.length)=true∧fitL b (xs.drop a.length)=true
 |[],b,xs,h=>by simpa [fitL] using h
 |k::a,b,[],h=>by simp[fitL]at h
 |k::a,b,x::xs,h=>by
  simp only[List.cons_append,fitL,Bool.and_eq_true]at h
  obtain⟨h1,h2⟩:=zel h.2
  simp only[List.length_cons,List.take_succ_cons,List.drop_succ_cons,fitL,Bool.and_eq_true]
  exact⟨⟨h.1,h1⟩,h2⟩
theorem zen:∀(n:Nat) (xs ys:List V),xs.length=ys.length→zaF xs ys=(zaF (xs.take n) (ys.take n)&&zaF (xs.drop n) (ys.drop n))
 |0,xs,ys,_=>by simp[zaF]
 |n+1,[],[],_=>by simp[zaF]
 |n+1,[],_::_,h=>by simp at h
 |n+1,_::_,[],h=>by simp at h
 |n+1,x::xs,y::ys,h=>by
  simp only[List.take_succ_cons,List.drop_succ_cons,zaF]
  rw[zen n xs ys (by simpa using h),Bool.and_assoc]
section
variable {P:Program} {F:Nat→Prop} {R:Emb} {h h':H} {w:World} {t:List V} {ρ:Operand→Value} {v:V}
 {dst:Option Tmp} {op:Op} {ty:TypeId} {pos:String} {af:Array Edge} {gd:Option (Nat × Bool)} {call:V→List V→H→RO}
def mkv (P:Program) (t:TypeId) (l:List Value):Value:=if aggT P t then .agg l.toArray else l.headD undef
theorem zcw {k:KT} {x:V} {u:Value} (hf:k.fits x=true) (hx:conc R x=some u) :
 (∃b,k=.b∧x=.b b∧u=.bool b)∨(∃kd n,k=.i kd∧x=.i kd n∧u=.int kd n)∨(∃l,k=.s∧x=.s l∧u=.string (zai l)∧∀n∈l,n<256):=by
 unfold KT.fits at hf
 split at hf<;>try simp at hf
 ·exact .inl ⟨_,rfl,rfl,ziN hx⟩
 ·subst hf;exact .inr (.inl ⟨_,_,rfl,rfl,zdw hx⟩)
 ·obtain⟨a,b⟩:=zdD hx;exact .inr (.inr ⟨_,rfl,rfl,a,b⟩)
theorem zjW {t:TypeId} {d:TypeDesc} {k:KT} (hu:P.underlying t=some d) (hk:ktD k d=true) {x y:V} {u z:Value} (hx:k.fits x=true) (hy:k.fits y=true) (hcx:conc R x=some u)
 (hcy:conc R y=some z) (e:Nat) (w:World):(Op.equalIn (e+1) t u z).run P w=.ok (zbm x y) w:=by
 rcases zcw hx hcx with⟨b,rfl,rfl,rfl⟩|⟨kd,n,rfl,rfl,rfl⟩|⟨l,rfl,rfl,rfl,hl⟩
 ·rcases zcw hy hcy with⟨b',_,rfl,rfl⟩|⟨_,_,e1,_⟩|⟨_,e1,_⟩<;>try cases e1
  cases d<;>simp[ktD]at hk
  rw[run_equalIn_bool' w e t _ _ hu]
  rfl
 ·rcases zcw hy hcy with⟨_,e1,_⟩|⟨kd',n',e1,rfl,rfl⟩|⟨_,e1,_⟩<;>try cases e1
  cases d<;>simp[ktD]at hk
  rw[run_equalIn_int w e t kd _ _ _ hu]
  simp only[zbm]
  congr 1
 ·rcases zcw hy hcy with⟨_,e1,_⟩|⟨_,_,e1,_⟩|⟨l',e1,rfl,rfl,hl'⟩<;>try cases e1
  cases d<;>simp[ktD]at hk
  rw[run_equalIn_string w e t _ _ hu,zbY,zbY,zeo _ _ hl hl']
  rfl
def EqFlat (P:Program) (R:Emb) (d:Nat) (t:TypeId) (ks:List KT):Prop:=
 ∀(e:Nat) (w:World) (xs ys:List V) (vx vy:List Value),d≤e→fitL ks xs=true→fitL ks ys=true→zae R xs=some vx→zae R ys=some vy →
  (Op.equalIn e t (mkv P t vx) (mkv P t vy)).run P w=.ok (zaF xs ys) w
theorem zem {d:Nat} {t:TypeId} {k:KT} {ds:TypeDesc} (hu:P.underlying t=some ds) (hk:ktD k ds=true):EqFlat P R (d+1) t [k]:=by
 intro e w xs ys vx vy hd hx hy hcx hcy
 have h1:=zaZ hx
 have h2:=zaZ hy
 match xs,ys,h1,h2 with
 |[x],[y],_,_=>
  obtain⟨u,r,hu1,hr,rfl⟩:=zah.1 hcx
  obtain⟨z,r',hz1,hr',rfl⟩:=zah.1 hcy
  simp[zae]at hr hr'
  subst hr hr'
  simp only[fitL,Bool.and_true]at hx hy
  have hag:aggT P t=false:=by
   unfold aggT
   rw[hu]
   cases ds<;>cases k<;>simp[ktD]at hk<;>rfl
  simp only[mkv,hag,Bool.false_eq_true,if_false,List.headD_cons]
  obtain⟨e',rfl⟩:∃e',e=e'+1:=⟨e-1,by omega⟩
  rw[zjW hu hk hx hy hu1 hz1 e' w]
  simp[zaF]
theorem zgL {d:Nat} {ft:TypeId} {l:List KT} {off:Nat} {vX:List Value} {w:World} (hag:aggT P ft=true∨zcl P ft=true∧l.length=1) (hsz:isSz P ft l.length=true)
 (hlen:off+l.length≤vX.length):(part ft vX.toArray off).run P w=.ok (mkv P ft ((vX.drop off).take l.length)) w:=by
 rcases hag with hag|⟨hpl,h1⟩
 ·rw[zcL (P:=P) (w:=w) (cs:=vX.toArray) hag hsz]
  simp[mkv,hag]
 ·have hag:aggT P ft=false:=by
   obtain⟨dd,hd,ha⟩:=znn hpl
   simp[aggT,hd,ha]
  rw[h1]at hlen
  have hlt:off<vX.length:=by omega
  rw[zcs (P:=P) (w:=w) (cs:=vX.toArray) (x:=vX[off]) hpl (by simp[hlt])]
  simp only[mkv,hag,Bool.false_eq_true,if_false,h1]
  rw[List.drop_eq_getElem_cons hlt]
  rfl
theorem zhm:∀{d:Nat} {t:TypeId} {l:List KT},zex P d t=some l→aggT P t=true∨zcl P t=true∧l.length=1
 |0,_,_,hh=>by simp[zex]at hh
 |d+1,t,l,hh=>by
  simp only[zex]at hh
  split at hh
  ·rename_i hu;split at hh<;>simp at hh;subst hh;exact .inr ⟨by simp[zcl,hu,zdt],rfl⟩
  ·rename_i hu;split at hh<;>simp at hh;subst hh;exact .inr ⟨by simp[zcl,hu,zdt],rfl⟩
  ·rename_i hu;split at hh<;>simp at hh;subst hh;exact .inr ⟨by simp[zcl,hu,zdt],rfl⟩
  ·rename_i hu;exact .inl (by simp[aggT,hu,zdt])
  ·rename_i hu;exact .inl (by simp[aggT,hu,zdt])
  ·simp at hh
theorem zil {l:List KT}:∀{n:Nat} {xs:List V},fitL (List.replicate n l).flatten xs=true→xs.length=n*l.length∧∀i,i<n→fitL l ((xs.drop (i*l.length)).take l.length)=true
 |0,xs,hf=>by
  have:=zaZ hf
  simp at this
  exact⟨by simp[this],fun i hi=>by omega⟩
 |n+1,xs,hf=>by
  rw[List.replicate_succ,List.flatten_cons]at hf
  obtain⟨h1,h2⟩:=zel hf
  obtain⟨h3,h4⟩:=zil h2
  have h5:=zaZ h1
  simp at h3 h5
  refine⟨by rw[Nat.add_mul];omega,fun i hi => ?_⟩
  cases i with
  |zero=>simpa using h1
  |succ i=>
   have:=h4 i (by omega)
   rw[List.drop_drop]at this
   rw[Nat.add_mul,Nat.one_mul,Nat.add_comm]
   exact this
theorem zhC {dd:Nat} {e:TypeId} {l:List KT} (hag:aggT P e=true∨zcl P e=true∧l.length=1) (hsz:isSz P e l.length=true) {xs ys:List V} {vx vy:List Value}
 (hcx:zae R xs=some vx) (hcy:zae R ys=some vy) (heq:∀(w:World) (a b:List V) (va vb:List Value),fitL l a=true→fitL l b=true→zae R a=some va→zae R b=some vb →
   (Op.equalIn dd e (mkv P e va) (mkv P e vb)).run P w=.ok (zaF a b) w) :
 ∀(m i n:Nat),i+m=n→fitL (List.replicate n l).flatten xs=true→fitL (List.replicate n l).flatten ys=true →
  (Op.eqItems dd e l.length vx.toArray vy.toArray ((List.range m).map (i + ·))).run P w=.ok (zaF (xs.drop (i*l.length)) (ys.drop (i*l.length))) w
 |0,i,n,hin,hx,hy=>by
  obtain⟨h1,_⟩:=zil hx
  obtain⟨h2,_⟩:=zil hy
  obtain rfl:i=n:=by omega
  rw[List.drop_eq_nil_of_le (by omega),List.drop_eq_nil_of_le (by omega)]
  simp[Op.eqItems,zaF]
 |m+1,i,n,hin,hx,hy=>by
  obtain⟨h1,h1'⟩:=zil hx
  obtain⟨h2,h2'⟩:=zil hy
  have hle:(i+1)*l.length≤n*l.length:=Nat.mul_le_mul_right _ (by omega)
  rw[Nat.add_mul,Nat.one_mul]at hle
  have e1:=zan hcx
  have e2:=zan hcy
  have ih:=zhC hag hsz hcx hcy heq m (i+1) n (by omega) hx hy
  rw[List.range_succ_eq_map,List.map_cons,List.map_map]
  have e3:(List.range m).map ((i + ·)∘Nat.succ)=(List.range m).map (i+1 + ·):=by
   apply List.map_congr_left
   intro a _
   simp;omega
  rw[e3]
  simp only[Nat.add_zero,Op.eqItems,Sem.run_bind,zgL (d:=0) (w:=w) hag hsz (show i*l.length+l.length≤vx.length by omega),zgL (d:=0) (w:=w) hag hsz (show i*l.length+l.length≤vy.length by omega),Result.andThen_ok]
  rw[heq w _ _ _ _ (h1' i (by omega)) (h2' i (by omega)) (zbd _ (zbl _ hcx)) (zbd _ (zbl _ hcy))]
  simp only[Result.andThen_ok]
  rw[zen l.length (xs.drop (i*l.length)) (ys.drop (i*l.length)) (by simp;omega)]
  cases zaF ((xs.drop (i*l.length)).take l.length) ((ys.drop (i*l.length)).take l.length)
  ·simp
  ·simp only[Bool.not_true,Bool.false_eq_true,if_false,Bool.true_and,List.drop_drop]
   rw[ih]
   rw[Nat.add_mul,Nat.one_mul]
mutual
theorem zkp:∀(d:Nat) (t:TypeId) (ks:List KT),zex P d t=some ks→EqFlat P R d t ks
 |0,_,_,hh=>by simp[zex]at hh
 |d+1,t,ks,hh=>by
  simp only[zex]at hh
  split at hh
  ·rename_i hu;split at hh<;>simp at hh;subst hh;exact zem hu rfl
  ·rename_i k hu;split at hh<;>simp at hh;subst hh;exact zem hu (by simp[ktD])
  ·rename_i hu;split at hh<;>simp at hh;subst hh;exact zem hu rfl
  ·rename_i fs hu
   split at hh<;>try simp at hh
   rename_i hst
   intro e w xs ys vx vy hd hx hy hcx hcy
   obtain⟨e',rfl⟩:∃e',e=e'+1:=⟨e-1,by omega⟩
   have hag:aggT P t=true:=by simp[aggT,hu,zdt]
   have hfo:P.fieldsOf t=fs:=by simp[Program.fieldsOf,hu]
   simp only[mkv,hag,if_true]
   rw[run_equalIn_struct w e' t vx.toArray vy.toArray (by rw[hfo];exact hu) (by simpa using hst),hfo]
   have:=znI d 0 fs.toList ks hh e' w xs ys vx vy (by omega) (by rw[List.drop_zero,List.take_of_length_le (by have:=zaZ hx;omega)];exact hx) (by rw[List.drop_zero,List.take_of_length_le (by have:=zaZ hy;omega)];exact hy) (by have:=zaZ hx;omega) (by have:=zaZ hy;omega) hcx hcy
   have hl:=zaZ hx
   have hl2:=zaZ hy
   rw[List.drop_zero,List.drop_zero,List.take_of_length_le (by omega),List.take_of_length_le (by omega)]at this
   exact this
  ·rename_i n e hu
   split at hh<;>try simp at hh
   rename_i l hl
   obtain⟨hsz,rfl⟩:=hh
   intro e' w xs ys vx vy hd hx hy hcx hcy
   obtain⟨e'',rfl⟩:∃e'',e'=e''+1:=⟨e'-1,by omega⟩
   have hag:aggT P t=true:=by simp[aggT,hu,zdt]
   obtain⟨i,hi,hisz⟩:=zng hsz
   simp only[mkv,hag,if_true]
   have hco:P.cellsOf e=l.length:=by simp[Program.cellsOf,hi,hisz]
   rw[run_equalIn_array w e'' vx.toArray vy.toArray hu hi,hco]
   have:=zhC (dd:=e'') (w:=w) (zhm hl) hsz hcx hcy (fun w a b va vb ha hb hca hcb=>zkp d e l hl e'' w a b va vb (by omega) ha hb hca hcb) n 0 n (by omega) hx hy
   simpa using this
  ·simp at hh
theorem znI:∀(d off:Nat) (fs:List Field) (ks:List KT),zhn P d off fs=some ks→∀(e:Nat) (w:World) (xs ys:List V) (vx vy:List Value),d≤e →
 fitL ks ((xs.drop off).take ks.length)=true→fitL ks ((ys.drop off).take ks.length)=true→off+ks.length≤xs.length→off+ks.length≤ys.length→zae R xs=some vx→zae R ys=some vy →
 (Op.eqFields e vx.toArray vy.toArray fs).run P w=.ok (zaF ((xs.drop off).take ks.length) ((ys.drop off).take ks.length)) w
 |0,_,_,_,hh=>by simp[zhn]at hh
 |d+1,off,[],ks,hh=>by
  simp only[zhn,Option.some.injEq]at hh
  subst hh
  intros
  simp[Op.eqFields,zaF]
 |d+1,off,f::fs,ks,hh=>by
  simp only[zhn]at hh
  split at hh<;>try simp at hh
  rename_i hname
  split at hh<;>try simp at hh
  rename_i l hl
  obtain⟨⟨ho,hsz⟩,ks',hks,rfl⟩:=hh
  intro e w xs ys vx vy hd hx hy hlx hly hcx hcy
  have e1:=zan hcx
  have e2:=zan hcy
  simp only[List.length_append]at hlx hly
  obtain⟨hx1,hx2⟩:=zel hx
  obtain⟨hy1,hy2⟩:=zel hy
  have tk:∀z:List V,((z.drop off).take (l++ks').length).take l.length=(z.drop off).take l.length:=fun z=>by rw[List.take_take];congr 1;simp
  have dk:∀z:List V,((z.drop off).take (l++ks').length).drop l.length=(z.drop (off+l.length)).take ks'.length:=fun z=>by
   rw[List.drop_take,List.drop_drop]
   congr 1
   simp
  rw[tk]at hx1 hy1
  rw[dk]at hx2 hy2
  have ih:=znI d (off+l.length) fs ks' hks e w xs ys vx vy (by omega) hx2 hy2 (by omega) (by omega) hcx hcy
  have he:=zkp d f.type l hl e w _ _ _ _ (by omega) hx1 hy1 (zbd _ (zbl _ hcx)) (zbd _ (zbl _ hcy))
  have hk:=zhm hl
  subst ho
  simp only[Op.eqFields,ne_eq,hname,not_false_eq_true,if_true,Sem.run_bind,zgL (d:=0) (w:=w) hk hsz (show f.offset+l.length≤vx.length by omega),
   zgL (d:=0) (w:=w) hk hsz (show f.offset+l.length≤vy.length by omega),Result.andThen_ok,he]
  rw[zen l.length ((xs.drop f.offset).take (l++ks').length) ((ys.drop f.offset).take (l++ks').length) (by simp;omega),tk,tk,dk,dk]
  cases zaF ((xs.drop f.offset).take l.length) ((ys.drop f.offset).take l.length)
  ·simp
  ·simp only[Bool.not_true,Bool.false_eq_true,if_false,Bool.true_and]
   exact ih
end
theorem zgI {t:TypeId} {ks:List KT} {x y:List V} {vx vy:List Value} (hag:aggT P t=true) (hf:zex P 40 t=some ks) (hx:fitL ks x=true) (hy:fitL ks y=true)
 (hcx:zae R x=some vx) (hcy:zae R y=some vy) (w:World):(Op.equal t (.agg vx.toArray) (.agg vy.toArray)).run P w=.ok (zaF x y) w:=by
 have:=zkp (R:=R) 40 t ks hf 10000 w x y vx vy (by omega) hx hy hcx hcy
 simpa [mkv,hag,Op.equal,Op.maxDepth] using this
theorem eql_of {o:BinOp} {neg:Bool} {t:TypeId} {a b:Value} {r:Bool} (ho:o=if neg then .neq else .eql) (hr:(Op.equal t a b).run P w=.ok r w)
 (h1:(binOp .eql t a b)=(do pure (.bool (← Op.equal t a b)))) (h2:(binOp .neq t a b)=(do pure (.bool (!(← Op.equal t a b))))) :
 (binOp o t a b).run P w=.ok (.bool (if neg then !r else r)) w:=by
 cases neg
 ·simp only[Bool.false_eq_true,if_false]at ho
  subst ho
  rw[h1]
  simp[hr]
 ·simp only[if_true]at ho
  subst ho
  rw[h2]
  simp[hr]
theorem zlW {b:Nat} {x:Value} (hx:conc R (.m b)=some x):∃c sz,R b=some (c,sz)∧x=.map (some c):=by
 simp only[conc,Option.map_eq_some_iff]at hx
 obtain⟨a,ha,rfl⟩:=hx
 exact⟨a.1,a.2,ha,rfl⟩
theorem zhY {b:Nat} {x:Value} (hx:conc R (.yld b)=some x):∃c sz,R b=some (c,sz)∧x=.func (.yield c) #[] #[]:=by
 simp only[conc,Option.map_eq_some_iff]at hx
 obtain⟨a,ha,rfl⟩:=hx
 exact⟨a.1,a.2,ha,rfl⟩
theorem zgk {f:Nat} {a c:List V} {x:Value} (hx:conc R (.fn f a c)=some x):∃va vc,zae R a=some va∧zae R c=some vc∧x=.func (.func f) va.toArray vc.toArray:=by
 simp only[conc]at hx
 cases ha:zae R a<;>cases hc:zae R c<;>simp[ha,hc]at hx
 exact⟨_,_,rfl,rfl,hx.symm⟩
theorem zic {k:Nat} {a:V} {x:Value} (hx:conc R (.ifc k a)=some x):∃u,conc R a=some u∧x=.iface k u:=by
 simp only[conc]at hx
 cases ha:conc R a<;>simp[ha]at hx
 exact⟨_,rfl,hx.symm⟩
theorem ziL {x:Value} (hx:conc R .pn=some x):x=.pointer none:=by simpa [conc,eq_comm] using hx
theorem zgj {x:Value} (hx:conc R .sn=some x):x=.slice none 0 0:=by simpa [conc,eq_comm] using hx
theorem zmP {a:Addr} {x:Value} (hx:conc R (.se a)=some x):x=.slice (some a) 0 0:=by simpa [conc,eq_comm] using hx
theorem zhs {x:Value} (hx:conc R .mn=some x):x=.map none:=by simpa [conc,eq_comm] using hx
theorem zdi {x:Value} (hx:conc R .fnil=some x):x=.nilFunc:=by simpa [conc,eq_comm] using hx
theorem zib {x:Value} (hx:conc R .in0=some x):x=.nilIface:=by simpa [conc,eq_comm] using hx
def EqSays (P:Program) (w:World) (t:TypeId) (X Y:Value) (r:Bool):Prop:=
 (Op.equal t X Y).run P w=.ok r w∧(binOp .eql t X Y)=(do pure (.bool (← Op.equal t X Y)))∧(binOp .neq t X Y)=(do pure (.bool (!(← Op.equal t X Y)))) ∧
   (∀o x y,(X=.nilIface→Y=.nilIface→zcc x=true∨zcc y=true)→(eqGuard o t x y X Y).run P w=.ok () w)
theorem EqSays.of {t:TypeId} {X Y:Value} {r:Bool} (q:∀d,(Op.equalIn (d+1) t X Y).run P w=.ok r w) (h1:(binOp .eql t X Y)=(do pure (.bool (← Op.equal t X Y))))
 (h2:(binOp .neq t X Y)=(do pure (.bool (!(← Op.equal t X Y))))) (h3:∀o x y,(X=.nilIface→Y=.nilIface→zcc x=true∨zcc y=true)→(eqGuard o t x y X Y).run P w=.ok () w) :
 EqSays P w t X Y r:=⟨q 9999,h1,h2,h3⟩
set_option maxHeartbeats 4000000 in
theorem zhM {t:TypeId} {k:EqK} {va vb:V} {X Y:Value} {r:Bool} (hk:okEqK P t k=true) (he:eqV k va vb=some r) (hx:conc R va=some X) (hy:conc R vb=some Y) :
 EqSays P w t X Y r:=by
 cases k with
 |bool=>
  have hk:(match P.underlying t with|some (.bool)=>true|_=>false)=true:=hk
  split at hk<;>try simp at hk
  rename_i hu
  cases va<;>cases vb<;>simp[eqV]at he
  subst he
  obtain rfl:=ziN hx
  obtain rfl:=ziN hy
  exact .of (fun d=>by simp[Op.equalIn,run_underlying hu]) rfl rfl (fun o x y _=>by cases o<;>simp[eqGuard])
 |ptr=>
  have hk:(match P.underlying t with|some (.pointer _)=>true|_=>false)=true:=hk
  split at hk<;>try simp at hk
  rename_i hu
  cases va<;>cases vb<;>simp[eqV]at he<;>subst he
  ·obtain rfl:=ziL hx;obtain rfl:=ziL hy
   exact .of (fun d=>by simp[Op.equalIn,run_underlying hu]) rfl rfl (fun o x y _=>by cases o<;>simp[eqGuard])
  ·obtain rfl:=ziL hx;obtain⟨_,_,_,rfl⟩:=zeT hy
   exact .of (fun d=>by simp[Op.equalIn,run_underlying hu]) rfl rfl (fun o x y _=>by cases o<;>simp[eqGuard])
  ·obtain rfl:=ziL hy;obtain⟨_,_,_,rfl⟩:=zeT hx
   exact .of (fun d=>by simp[Op.equalIn,run_underlying hu]) rfl rfl (fun o x y _=>by cases o<;>simp[eqGuard])
 |slice=>
  have hk:(match P.underlying t with|some (.slice _)=>true|_=>false)=true:=hk
  split at hk<;>try simp at hk
  rename_i hu
  cases va<;>cases vb<;>simp[eqV]at he<;>subst he
  ·obtain rfl:=zgj hx;obtain rfl:=zgj hy
   exact .of (fun d=>by simp[Op.equalIn,run_underlying hu]) rfl rfl (fun o x y _=>by cases o<;>simp[eqGuard])
  ·obtain rfl:=zgj hx;obtain⟨_,_,_,_,rfl,_⟩:=zci hy
   exact .of (fun d=>by simp[Op.equalIn,run_underlying hu]) rfl rfl (fun o x y _=>by cases o<;>simp[eqGuard])
  ·obtain rfl:=zgj hx;obtain rfl:=zmP hy
   exact .of (fun d=>by simp[Op.equalIn,run_underlying hu]) rfl rfl (fun o x y _=>by cases o<;>simp[eqGuard])
  ·obtain rfl:=zgj hy;obtain⟨_,_,_,_,rfl,_⟩:=zci hx
   exact .of (fun d=>by simp[Op.equalIn,run_underlying hu]) rfl rfl (fun o x y _=>by cases o<;>simp[eqGuard])
  ·obtain rfl:=zgj hy;obtain rfl:=zmP hx
   exact .of (fun d=>by simp[Op.equalIn,run_underlying hu]) rfl rfl (fun o x y _=>by cases o<;>simp[eqGuard])
 |map=>
  have hk:(match P.underlying t with|some (.map _ _)=>true|_=>false)=true:=hk
  split at hk<;>try simp at hk
  rename_i hu
  cases va<;>cases vb<;>simp[eqV]at he<;>subst he
  ·obtain rfl:=zhs hx;obtain rfl:=zhs hy
   exact .of (fun d=>by simp[Op.equalIn,run_underlying hu]) rfl rfl (fun o x y _=>by cases o<;>simp[eqGuard])
  ·obtain rfl:=zhs hx;obtain⟨_,_,_,rfl⟩:=zlW hy
   exact .of (fun d=>by simp[Op.equalIn,run_underlying hu]) rfl rfl (fun o x y _=>by cases o<;>simp[eqGuard])
  ·obtain rfl:=zhs hy;obtain⟨_,_,_,rfl⟩:=zlW hx
   exact .of (fun d=>by simp[Op.equalIn,run_underlying hu]) rfl rfl (fun o x y _=>by cases o<;>simp[eqGuard])
 |func=>
  have hk:(match P.underlying t with|some (.func _ _ _)=>true|_=>false)=true:=hk
  split at hk<;>try simp at hk
  rename_i hu
  cases va<;>cases vb<;>simp[eqV]at he<;>subst he
  ·obtain rfl:=zdi hx;obtain rfl:=zdi hy
   exact .of (fun d=>by simp[Op.equalIn,run_underlying hu]) rfl rfl (fun o x y _=>by cases o<;>simp[eqGuard])
  ·obtain rfl:=zdi hx;obtain⟨_,_,_,_,rfl⟩:=zgk hy
   exact .of (fun d=>by simp[Op.equalIn,run_underlying hu]) rfl rfl (fun o x y _=>by cases o<;>simp[eqGuard])
  ·obtain rfl:=zdi hx;obtain⟨_,_,_,rfl⟩:=zhY hy
   exact .of (fun d=>by simp[Op.equalIn,run_underlying hu]) rfl rfl (fun o x y _=>by cases o<;>simp[eqGuard])
  ·obtain rfl:=zdi hy;obtain⟨_,_,_,_,rfl⟩:=zgk hx
   exact .of (fun d=>by simp[Op.equalIn,run_underlying hu]) rfl rfl (fun o x y _=>by cases o<;>simp[eqGuard])
  ·obtain rfl:=zdi hy;obtain⟨_,_,_,rfl⟩:=zhY hx
   exact .of (fun d=>by simp[Op.equalIn,run_underlying hu]) rfl rfl (fun o x y _=>by cases o<;>simp[eqGuard])
 |iface=>
  have hk:(match P.underlying t with|some (.interface _)=>true|_=>false)=true:=hk
  split at hk<;>try simp at hk
  rename_i hu
  cases va<;>cases vb<;>simp[eqV]at he<;>subst he
  ·obtain rfl:=zib hx;obtain rfl:=zib hy
   refine .of (fun d=>by simp[Op.equalIn,run_underlying hu]) rfl rfl (fun o x y hc => ?_)
   rcases hc rfl rfl with hc|hc
   ·cases x<;>simp[zcc]at hc
    cases o<;>simp[eqGuard]
   ·cases y<;>simp[zcc]at hc
    cases o<;>simp[eqGuard]
  ·obtain rfl:=zib hx;obtain⟨_,_,rfl⟩:=zic hy
   exact .of (fun d=>by simp[Op.equalIn,run_underlying hu]) rfl rfl (fun o x y _=>by cases o<;>simp[eqGuard])
  ·obtain rfl:=zib hy;obtain⟨_,_,rfl⟩:=zic hx
   exact .of (fun d=>by simp[Op.equalIn,run_underlying hu]) rfl rfl (fun o x y _=>by cases o<;>simp[eqGuard])
 |agg ks=>
  have hk:(aggT P t && !P.eqGuardType P.depth t&&(match zex P 40 t with|some l=>zfP l ks|none=>false))=true:=hk
  rw[Bool.and_eq_true,Bool.and_eq_true]at hk
  obtain⟨⟨hag,hg⟩,hfl⟩:=hk
  split at hfl<;>try simp at hfl
  rename_i l hl
  obtain rfl:=zgH hfl
  cases va<;>cases vb<;>simp only[eqV,reduceCtorEq]at he
  split at he<;>simp only[Option.some.injEq,reduceCtorEq]at he
  rename_i hfit
  rw[Bool.and_eq_true]at hfit
  obtain⟨cx,hcx,rfl⟩:=zcO hx
  obtain⟨cy,hcy,rfl⟩:=zcO hy
  refine⟨by rw[← he];exact zgI hag hl hfit.1 hfit.2 hcx hcy w,rfl,rfl,?_⟩
  intro o x y _
  have hg':P.eqGuardType P.depth t=false:=by simpa using hg
  exact run_eqGuard_agg (w:=w) o t x y _ _ hg'
set_option maxHeartbeats 4000000 in
theorem run_eqv {neg:Bool} {k:EqK} {a b:X} (hok:okA P op (.eqv neg k a b)=true) (hρ:zba R t ρ) (hs:Sim P F R h.get w) (he:evA call (.eqv neg k a b) t h=.ok v h') :
 OpRun P F R h w (execOp ρ ⟨dst,op,ty,pos,af,gd⟩) v h':=by
 cases op<;>try exact (Bool.false_ne_true hok).elim
 rename_i o xt x y yt
 have hok:(decide (o=if neg then .neq else .eql)&&okX x a&&okX y b&&okEqK P xt k&&(match (generalizing:=false) k with
  |.iface=>zcc x||zcc y
  |_=>true))=true:=hok
 simp only[Bool.and_eq_true,decide_eq_true_eq]at hok
 obtain⟨⟨⟨⟨ho,hxa⟩,hyb⟩,hkk⟩,hcst⟩:=hok
 have hx:=hρ x a hxa
 have hy:=hρ y b hyb
 simp only[evA]at he
 cases hev:eqV k (a.ev t) (b.ev t) with
 |none=>simp[hev]at he
 |some r=>
  simp only[hev,RO.ok.injEq]at he
  obtain⟨rfl,rfl⟩:=he
  obtain⟨h1,h2,h3,h4⟩:=zhM (P:=P) (w:=w) hkk hev hx hy
  have hc:ρ x=.nilIface→ρ y=.nilIface→zcc x=true∨zcc y=true:=by
   intro e1 e2
   cases k with
   |iface=>simpa using hcst
   |_=>
    exfalso
    rw[e1]at hx
    rw[e2]at hy
    generalize a.ev t=va at *
    generalize b.ev t=vb at *
    clear h1 h2 h3 h4 hkk
    cases va<;>cases vb<;>simp only[eqV,reduceCtorEq]at hev<;>first
     |(cases ziN hx;done)
     |(cases ziL hx;done)
     |(cases zgj hx;done)
     |(cases zmP hx;done)
     |(cases zhs hx;done)
     |(cases zdi hx;done)
     |(obtain⟨_,_,_,e⟩:=zeT hx;cases e;done)
     |(obtain⟨_,_,_,_,e,_⟩:=zci hx;cases e;done)
     |(obtain⟨_,_,_,e⟩:=zlW hx;cases e;done)
     |(obtain⟨_,_,_,_,e⟩:=zgk hx;cases e;done)
     |(obtain⟨_,_,_,e⟩:=zhY hx;cases e;done)
     |(obtain⟨_,_,e⟩:=zcO hx;cases e;done)
  exact .plain (x:=.bool (if neg then !r else r)) hs (by simp only[execOp,Sem.run_bind,h4 o x y hc,eql_of ho h1 h2 h3,Result.andThen_ok,Sem.run_pure]) (by simp[conc])
end
end Go.Air
namespace Go.Air
section
variable {P:Program} {F:Nat→Prop} {R:Emb} {h h':H} {w:World} {t:List V} {ρ:Operand→Value} {v:V}
 {dst:Option Tmp} {op:Op} {ty:TypeId} {pos:String} {af:Array Edge} {gd:Option (Nat × Bool)} {call:V→List V→H→RO}
theorem zqW {k:Nat} {u:V} {x:Value} (hx:conc R (.ifc k u)=some x):∃y,conc R u=some y∧x=.iface k y:=by
 simp only[conc]at hx
 cases hc:conc R u with
 |none=>simp[hc]at hx
 |some y=>simp[hc]at hx;exact⟨y,rfl,hx.symm⟩
theorem zmn {k:Nat} {z:V} {ok:Bool} {a:X} (hok:okA P op (.tassert k z ok a)=true) (hρ:zba R t ρ) (hs:Sim P F R h.get w) (he:evA call (.tassert k z ok a) t h=.ok v h') :
 OpRun P F R h w (execOp ρ ⟨dst,op,ty,pos,af,gd⟩) v h':=by
 cases op<;>try exact (Bool.false_ne_true hok).elim
 rename_i x xt s ok'
 have hok:(Nat.beq s k&&(ok'==ok)&&okX x a&&(match P.underlying s with
  |some (.interface _)=>false
  |some _=>true
  |none=>false)&&(match zey P s with
   |some v=>zcW z v
   |none=>false))=true:=hok
 simp only[Bool.and_eq_true,Nat.beq_eq,beq_iff_eq]at hok
 obtain⟨⟨⟨⟨rfl,rfl⟩,hxa⟩,hu⟩,hz⟩:=hok
 have hx:=hρ x a hxa
 split at hz<;>try simp at hz
 rename_i zv hzv
 have hzc:=zdv R _ _ hz
 obtain⟨d,hd,hni⟩:∃d,P.underlying s=some d∧∀m,d≠.interface m:=by
  split at hu<;>try simp at hu
  rename_i d hne hd
  exact⟨d,hd,fun m e=>hne m (by rw[e])⟩
 simp only[evA]at he
 split at he<;>try simp only[reduceCtorEq]at he
 ·rename_i e
  rw[e]at hx
  simp only[conc,Option.some.injEq]at hx
  cases ok'<;>simp only[if_true,if_false,Bool.false_eq_true,RO.ok.injEq,reduceCtorEq]at he
  obtain⟨rfl,rfl⟩:=he
  refine .plain (x:=.tuple #[zv,.bool false]) hs ?_ (by simp[conc,zae,hzc])
  simp only[execOp,Instr.typeAssert,Sem.run_bind,run_underlying hd,Result.andThen_ok,← hx]
  cases d<;>first|exact absurd rfl (hni _)|simp[zcr w hzv]
 ·rename_i ty' u e
  rw[e]at hx
  obtain⟨y,hy,hx⟩:=zqW hx
  split at he
  ·rename_i hb
   rw[Nat.beq_eq]at hb
   subst hb
   simp only[RO.ok.injEq]at he
   obtain⟨rfl,rfl⟩:=he
   cases ok' with
   |true=>
    refine .plain (x:=.tuple #[y,.bool true]) hs ?_ (by simp[conc,zae,hy])
    simp only[execOp,Instr.typeAssert,Sem.run_bind,run_underlying hd,Result.andThen_ok,hx]
    cases d<;>first|exact absurd rfl (hni _)|simp
   |false=>
    refine .plain (x:=y) hs ?_ (by simpa using hy)
    simp only[execOp,Instr.typeAssert,Sem.run_bind,run_underlying hd,Result.andThen_ok,hx]
    cases d<;>first|exact absurd rfl (hni _)|simp
  ·rename_i hb
   have hb:ty'≠s:=fun e=>hb (by rw[e];simp)
   cases ok'<;>simp only[if_true,if_false,Bool.false_eq_true,RO.ok.injEq,reduceCtorEq]at he
   obtain⟨rfl,rfl⟩:=he
   refine .plain (x:=.tuple #[zv,.bool false]) hs ?_ (by simp[conc,zae,hzc])
   simp only[execOp,Instr.typeAssert,Sem.run_bind,run_underlying hd,Result.andThen_ok,hx]
   cases d<;>first|exact absurd rfl (hni _)|simp[zcr w hzv,hb]
theorem zjp:∀(ns:List Nat) (acc:List Nat),((ns.map fun c:Nat=>(c:Int)).foldl (fun (r:ByteArray) n=>r.push (UInt8.ofNat n.toNat)) (zai acc))=zai (acc++ns)
 |[],acc=>by simp
 |c::ns,acc=>by
  rw[List.map_cons,List.foldl_cons]
  have:(zai acc).push (UInt8.ofNat (c:Int).toNat)=zai (acc++[c]):=by
   simp[zai,ByteArray.push]
  rw[this,zjp ns (acc++[c])]
  simp
theorem zoS {x:V} {c:Nat} (h:zmc x=some c):∃n:Int,x=.i .u8 n∧c=n.toNat∧c<256:=by
 unfold zmc at h
 split at h<;>try simp only[reduceCtorEq]at h
 split at h<;>simp only[Option.some.injEq,reduceCtorEq]at h
 rename_i n hb
 rw[Nat.blt_eq]at hb
 exact⟨n,rfl,h.symm,by omega⟩
theorem ziR:∀{l:List V} {cs:List Nat} {us:List Value},zeV l=some cs→zae R l=some us→∃ns:List Int,us=ns.map (Value.int .u8)∧cs=ns.map Int.toNat∧∀c∈cs,c<256
 |[],cs,us,h,hc=>by
  simp[zeV]at h
  simp[zae]at hc
  subst h hc
  exact⟨[],rfl,rfl,by simp⟩
 |x::l,cs,us,h,hc=>by
  simp only[zeV]at h
  split at h<;>simp only[Option.some.injEq,reduceCtorEq]at h
  rename_i c r h1 h2
  subst h
  obtain⟨v,w,hv,hw,rfl⟩:=zah.1 hc
  obtain⟨n,rfl,rfl,hlt⟩:=zoS h1
  obtain⟨ns,rfl,rfl,hall⟩:=ziR h2 hw
  simp only[conc,Option.some.injEq]at hv
  subst hv
  refine⟨n::ns,rfl,rfl,?_⟩
  intro c hc
  rcases List.mem_cons.1 hc with rfl|hc
  ·exact hlt
  ·exact hall c hc
theorem zoc (ns:List Int):ns.foldl (fun (r:ByteArray) n=>r.push (UInt8.ofNat n.toNat)) ByteArray.empty=zai (ns.map Int.toNat):=by
 have:=zjp (ns.map Int.toNat) []
 simp only[List.nil_append]at this
 rw[← this,List.map_map,List.foldl_map]
 rfl
theorem conc_str {l:List Nat} (h:∀c∈l,c<256):conc R (.s l)=some (.string (zai l)):=by
 have:l.all (Nat.blt · 256)=true:=by
  rw[List.all_eq_true]
  intro c hc
  rw[Nat.blt_eq]
  exact h c hc
 simp[conc,this]
theorem run_b2s {a:X} (hok:okA P op (.b2s a)=true) (hρ:zba R t ρ) (hs:Sim P F R h.get w) (hF:zco F (reads (.b2s a) t)) (he:evA call (.b2s a) t h=.ok v h') :
 OpRun P F R h w (execOp ρ ⟨dst,op,ty,pos,af,gd⟩) v h':=by
 cases op<;>try exact (Bool.false_ne_true hok).elim
 rename_i s d x
 have hok:(okX x a&&(match P.underlying s,P.underlying d with
  |some (.slice e),some .string=>(match P.underlying e with|some (.int .u8)=>true|_=>false)
  |_,_=>false))=true:=hok
 rw[Bool.and_eq_true]at hok
 obtain⟨hxa,hd⟩:=hok
 split at hd<;>try simp only[reduceCtorEq]at hd
 rename_i e hs1 hd1
 split at hd<;>try simp only[reduceCtorEq]at hd
 rename_i he1
 have hx:=hρ x a hxa
 have hF:zco F (some (zaU (a.ev t))):=hF
 simp only[evA]at he
 obtain⟨he,e2⟩:=zdL he
 rw[e2]
 unfold zmj at he
 have go:∀(o:Option Addr) (l c:Nat) (cs:List V),ρ x=.slice o l c→(∃us,zae R cs=some us∧(o=none→us=[])∧∀ad,o=some ad→(loadCells ad l).run P w=.ok us.toArray w) →
  (zeV cs).map V.s=some v→OpRun P F R h w (execOp ρ ⟨dst,.convert s d x,ty,pos,af,gd⟩) v h:=by
  rintro o l c cs hρx ⟨us,q1,q2,q3⟩ hb
  rw[Option.map_eq_some_iff]at hb
  obtain⟨bs,hb,rfl⟩:=hb
  obtain⟨ns,rfl,rfl,hlt⟩:=ziR hb q1
  refine .plain (x:=.string (zai (ns.map Int.toNat))) hs ?_ (conc_str hlt)
  simp only[execOp,Sem.run_bind,hρx,run_convert_bytes_string w s d e o l c hs1 he1 hd1]
  cases o with
  |none=>
   have:ns=[]:=by
    have:=q2 rfl
    simpa using this
   subst this
   simp[Conv.bytesToString,zai]
   rfl
  |some ad=>
   rw[run_bytesToString w ad l c ns (q3 ad rfl),zoc]
   simp
 cases hv:a.ev t with
 |s l=>simp[hv]at he
 |sn=>
  rw[hv]at he hx
  simp only[conc,Option.some.injEq]at hx
  simp only[zaT,zat]at he
  exact go none 0 0 [] hx.symm ⟨[],zbI R,fun _=>rfl,fun _ h=>by cases h⟩ (by simpa using he)
 |se ad=>
  rw[hv]at he hx
  simp only[conc,Option.some.injEq]at hx
  simp only[zaT,zat]at he
  refine go (some ad) 0 0 [] hx.symm ⟨[],zbI R,(fun h=>by cases h),fun ad' h => ?_⟩ (by simpa using he)
  simp[loadCells,loadCellsFrom]
 |sl b o l c g=>
  rw[hv]at he hx hF
  obtain⟨cb,sz,cap',hb,hxe,_⟩:=zci hx
  simp only[zaT,zat]at he
  cases hg:h.get b with
  |none=>simp[hg]at he
  |some bl=>
   simp only[hg,Nat.mul_one]at he
   cases hr:bl.rd o l with
   |none=>simp[hr]at he
   |some cs=>
    simp only[hr]at he
    have hFb:F b:=hF b (by simp[zaU])
    obtain⟨us,q1,q2,q3,q4⟩:=rd_at hs hFb hb hg hr
    exact go (some ⟨cb,o,none⟩) l cap' cs hxe ⟨us,q1,(fun h=>by cases h),fun ad h=>by cases h;exact q4⟩ he
 |_=>simp[hv,zaT]at he
theorem zjz:∀l:List Nat,zae R (l.map fun c:Nat=>V.i .u8 (Int.ofNat c))=some (l.map fun c:Nat=>Value.int .u8 (c:Int))
 |[]=>by simp[zae]
 |c::m=>zah.2 ⟨_,_,by simp[conc],zjz m,rfl⟩
theorem zmI {w:World} {arr:Array Value} {e:TypeId}:(w.alloc (.cells arr e)).freeze ⟨w.heap.size,arr.size,none⟩ 1=w.alloc (.cells arr e (arr.size,arr.size+1)):=by
 unfold World.freeze World.alloc
 simp only[if_neg (by omega:¬ (1:Nat)=0)]
 congr 1
 apply Array.ext_getElem?
 intro i
 rw[Array.getElem?_modify,Array.getElem?_push,Array.getElem?_push]
 by_cases hi:i=w.heap.size
 ·subst hi;simp
 ·simp[hi,Ne.symm hi]
theorem run_s2b {a:X} (hok:okA P op (.s2b a)=true) (hρ:zba R t ρ) (hs:Sim P F R h.get w) (hfr:Fresh R h h') (he:evA call (.s2b a) t h=.ok v h') :
 OpRun P F R h w (execOp ρ ⟨dst,op,ty,pos,af,gd⟩) v h':=by
 cases op<;>try exact (Bool.false_ne_true hok).elim
 rename_i s d x
 have hok:(okX x a&&(P.underlying s).isSome&&(match P.underlying d with
  |some (.slice e)=>(match P.underlying e with|some (.int .u8)=>true|_=>false)&&isSz P e 1
  |_=>false))=true:=hok
 simp only[Bool.and_eq_true]at hok
 obtain⟨⟨hxa,hsrc⟩,hd⟩:=hok
 split at hd<;>try simp only[reduceCtorEq]at hd
 rename_i e hd1
 rw[Bool.and_eq_true]at hd
 obtain⟨hd,hsz⟩:=hd
 split at hd<;>try simp only[reduceCtorEq]at hd
 rename_i he1
 obtain⟨sd,hs1⟩:=Option.isSome_iff_exists.1 hsrc
 have hx:=hρ x a hxa
 simp only[evA]at he
 split at he<;>simp only[RO.ok.injEq,reduceCtorEq]at he
 rename_i l hl
 obtain⟨rfl,rfl⟩:=he
 rw[hl]at hx
 obtain⟨hxe,hlt⟩:=zdD hx
 have hq:∀n,(Question.appendCap n 0 e).forced=false:=fun _=>rfl
 obtain⟨cap,hcap,hcut⟩:∃cap,l.length≤cap∧(Question.appendCap l.length 0 e).cut (w.tape w.drawn (Question.appendCap l.length 0 e))=cap:=⟨_,by simp[Question.cut],rfl⟩
 obtain⟨arr,harr⟩:∃arr:Array Value,arr=(zai l).data.map (fun b=>Value.int .u8 (b.toNat:Int))++Array.replicate (cap-l.length) (.int .u8 0):=⟨_,rfl⟩
 have hlist:arr.toList=(l.map fun c:Nat=>Value.int .u8 (c:Int))++List.replicate (cap-l.length) (.int .u8 0):=by
  rw[harr]
  simp only[zai,Array.toList_append,Array.toList_map,List.map_map,Array.toList_replicate]
  congr 1
  apply List.map_congr_left
  intro c hc
  have:=hlt c hc
  simp[Nat.mod_eq_of_lt this]
 have hsize:arr.size=cap:=by
  have:arr.toList.length=arr.size:=Array.length_toList
  rw[hlist]at this
  simp at this
  omega
 have hrun:(execOp ρ ⟨dst,.convert s d x,ty,pos,af,gd⟩).run P w=.ok (.value (.slice (some ⟨w.heap.size,0,none⟩) l.length cap)) ((w.drew).alloc (.cells arr e (arr.size,arr.size+1))):=by
  have hconv:(convert s d (.string (zai l))).run P w=(Conv.stringToBytes e (zai l)).run P w:=by
   cases sd<;>simp[convert,run_underlying hs1,run_underlying hd1,run_underlying he1]
  have hconv2:(Conv.stringToBytes e (zai l)).run P w=.ok (.slice (some ⟨w.heap.size,0,none⟩) l.length cap) ((w.drew).alloc (.cells arr e (arr.size,arr.size+1))):=by
   have h2:=zmI (w:=w.drew) (arr:=arr) (e:=e)
   have h3:((w.drew).alloc (.cells arr e)).shape? w.heap.size=some (e,arr.size):=by
    have:((w.drew).alloc (.cells arr e)).heap[w.heap.size]? = some (.cells arr e):=zeP (w:=w.drew)
    simp only[World.shape?,this]
   simp only[Conv.stringToBytes,Sem.run_bind,zbP,run_choose,hq,Bool.false_eq_true,if_false,Result.andThen_ok,hcut,newRow,run_newObj,markStringish,run_shape,Sem.run_pure]
   rw[← harr]
   have h3':World.shape? { heap:=w.heap.push (Obj.cells arr e),tape:=w.tape,drawn:=w.drawn+1,os:=w.os,output:=w.output } w.heap.size=some (e,arr.size):=h3
   rw[h3']
   simp only[run_freeze,Result.andThen_ok]
   exact congrArg _ h2
  simp only[execOp,Sem.run_bind,hxe,hconv,hconv2,Result.andThen_ok,Sem.run_pure]
 have hcb:zae R (l.map fun c:Nat=>V.i .u8 (Int.ofNat c))=some (l.map fun c:Nat=>Value.int .u8 (c:Int)):=zjz l
 have hfn:=zbH hfr
 obtain⟨hf,hs'⟩:=zds (x:=.cells (l.map fun c:Nat=>V.i .u8 (Int.ofNat c))) (sz:=cap) (o:=.cells arr e (arr.size,arr.size+1)) (Sim.drew hs) hfn
  (fun w' hw'=>⟨arr,Fr.mark cap e,_,_,by rw[hw',hsize];rfl,zav (Emb.le_add hfn) _ _ hcb,hlist,hsize⟩)
 refine⟨_,_,_,hrun,.inl rfl,_,_,hf.undrew,hs',?_⟩
 simp only[conc,Emb.add_self,Option.bind_some]
 rw[if_pos ⟨by omega,by omega⟩]
 simp
theorem zmJ {c:Nat} {arr:Array Value} {ty:TypeId} {e:Fr arr.size} (hc:w.heap[c]? = some (.cells arr ty e.fz)) :
 (w.freeze ⟨c,arr.size,none⟩ 1).heap[c]? = some (.cells arr ty (arr.size,arr.size+1))∧(∀d,d≠c→(w.freeze ⟨c,arr.size,none⟩ 1).heap[d]? = w.heap[d]?)∧(w.freeze ⟨c,arr.size,none⟩ 1).heap.size=w.heap.size∧SameIO w (w.freeze ⟨c,arr.size,none⟩ 1):=by
 unfold World.freeze
 simp only[if_neg (by omega:¬ (1:Nat)=0)]
 refine⟨?_,?_,by simp,rfl,rfl,rfl⟩
 ·rw[Array.getElem?_modify,if_pos rfl,hc]
  rcases e.is with h|h<;>rw[h]
  ·simp
  ·simp
 ·intro d hd
  rw[Array.getElem?_modify,if_neg (Ne.symm hd)]
theorem run_mark {a:X} (hok:okA P op (.mark a)=true) (hρ:zba R t ρ) (hs:Sim P F R h.get w) (hF:zco F (reads (.mark a) t)) (he:evA call (.mark a) t h=.ok v h') :
 OpRun P F R h w (execOp ρ ⟨dst,op,ty,pos,af,gd⟩) v h':=by
 cases op<;>try exact (Bool.false_ne_true hok).elim
 rename_i s d x
 have hok:(okX x a&&Nat.beq s d&&(match P.underlying s with
  |some (.slice e)=>(match P.underlying e with|some (.int .u8)=>true|_=>false)
  |_=>false))=true:=hok
 simp only[Bool.and_eq_true,Nat.beq_eq]at hok
 obtain⟨⟨hxa,rfl⟩,hd⟩:=hok
 split at hd<;>try simp only[reduceCtorEq]at hd
 rename_i e hs1
 split at hd<;>try simp only[reduceCtorEq]at hd
 rename_i he1
 have hx:=hρ x a hxa
 have hF:zco F (some (zaU (a.ev t))):=hF
 simp only[evA]at he
 split at he<;>try simp only[reduceCtorEq]at he
 rename_i b o l c g ha
 split at he<;>simp only[RO.ok.injEq,reduceCtorEq]at he
 rename_i cs hg
 obtain⟨rfl,rfl⟩:=he
 rw[ha]at hx hF
 have hFb:F b:=hF b (by simp[zaU])
 obtain⟨cb,sz,cap',hb,hxe,_⟩:=zci hx
 obtain⟨arr,fr,vs,rest,h1,h2,h3,h4⟩:=zha hs hFb hb hg
 subst h4
 obtain⟨q1,q2,q3,q4⟩:=zmJ h1
 have hsh:w.shape? cb=some (fr.ty,arr.size):=by simp only[World.shape?,h1]
 have hrun:(execOp ρ ⟨dst,.convert s s x,ty,pos,af,gd⟩).run P w=.ok (.value (ρ x)) (w.freeze ⟨cb,arr.size,none⟩ 1):=by
  have hconv:(convert s s (ρ x)).run P w=.ok (ρ x) (w.freeze ⟨cb,arr.size,none⟩ 1):=by
   rw[hxe]
   simp only[convert,Sem.run_bind,run_underlying hs1,Result.andThen_ok,beq_self_eq_true,run_underlying he1,markStringish,run_shape,hsh,run_freeze,Sem.run_pure]
  simp only[execOp,Sem.run_bind,hconv,Result.andThen_ok,Sem.run_pure]
 obtain⟨f,s'⟩:=zhT (x:=.cells cs) hs hFb hb hg q4 q3 q2 ⟨arr,Fr.mark arr.size fr.ty,vs,rest,q1,h2,h3,rfl⟩
 exact⟨_,ρ x,_,hrun,.inl rfl,R,_,f,s',hx⟩
end
end Go.Air
namespace Go.Air
section
variable {P:Program} {F:Nat→Prop} {R:Emb} {h h':H} {w:World} {t:List V} {ρ:Operand→Value} {v:V}
 {dst:Option Tmp} {op:Op} {ty:TypeId} {pos:String} {af:Array Edge} {gd:Option (Nat × Bool)} {call:V→List V→H→RO}
theorem zhF {n:Nat} {em:Bool} {t:TypeId} {u:Value} (hs:zeE P t=true):(Instr.checkKey em (n+1) t u).run P w=.ok () w:=by
 unfold zeE at hs
 split at hs<;>try simp at hs
 all_goals (rename_i hu;simp[Instr.checkKey,run_underlying hu])
theorem ziB:∀{d off:Nat} {fs:List Field} {ks:List KT},zhn P d off fs=some ks→∀f∈fs,∃l,isSz P f.type l∧f.offset+l≤off+ks.length∧(aggT P f.type=true∨zcl P f.type=true∧l=1)
 |0,_,_,_,hh=>by simp[zhn]at hh
 |d+1,off,[],ks,hh=>by simp
 |d+1,off,g::fs,ks,hh=>by
  simp only[zhn]at hh
  split at hh<;>try simp at hh
  split at hh<;>try simp at hh
  rename_i l hl
  obtain⟨⟨ho,hsz⟩,ks',hks,rfl⟩:=hh
  intro f hf
  rcases List.mem_cons.1 hf with rfl|hf
  ·exact⟨l.length,hsz,by simp;omega,zhm hl⟩
  ·obtain⟨m,h1,h2,h3⟩:=ziB hks f hf
   exact⟨m,h1,by simp;omega,h3⟩
theorem zhG {n:Nat} {em:Bool} {vx:List Value}:∀(fs:List Field),(∀f∈fs,zeE P f.type=true)→(∀f∈fs,∃l,isSz P f.type l∧f.offset+l≤vx.length∧(aggT P f.type=true∨zcl P f.type=true∧l=1)) →
 (forIn fs () fun f _=>(do
   if f.name ≠ "_" then Instr.checkKey em (n+1) f.type (← part f.type vx.toArray f.offset)
   pure (ForInStep.yield ()):Sem (ForInStep Unit))).run P w=.ok () w
 |[],_,_=>by simp
 |f::fs,hs,hp=>by
  have ih:=zhG (n:=n) (em:=em) (vx:=vx) fs (fun g hg=>hs g (by simp[hg])) (fun g hg=>hp g (by simp[hg]))
  obtain⟨l,h1,h2,h3⟩:=hp f (by simp)
  have hpart:∃u,(part f.type vx.toArray f.offset).run P w=.ok u w:=by
   rcases h3 with h3|⟨h3,rfl⟩
   ·exact⟨_,zcL h3 h1⟩
   ·have:f.offset<vx.length:=by omega
    exact⟨_,zcs (cs:=vx.toArray) (x:=vx[f.offset]) h3 (by simp[this])⟩
  obtain⟨u,hu⟩:=hpart
  rw[List.forIn_cons]
  by_cases hn:f.name = "_"
  ·simp only[ne_eq,hn,not_true_eq_false,if_false,Sem.run_bind,Sem.run_pure,Result.andThen_ok]
   simpa using ih
  ·simp only[ne_eq,hn,not_false_eq_true,if_true,Sem.run_bind,hu,Result.andThen_ok,zhF (hs f (by simp)),Sem.run_pure]
   simpa using ih
theorem zlY {n:Nat} {em:Bool} {t:TypeId} {fs:Array Field} {vx:List Value} (hu:P.underlying t=some (.struct fs)) (h1:∀f∈fs.toList,zeE P f.type=true) (h2:∀f∈fs.toList,∃l,isSz P f.type l∧f.offset+l≤vx.length∧(aggT P f.type=true∨zcl P f.type=true∧l=1)) :
 (Instr.checkKey em (n+1+1) t (.agg vx.toArray)).run P w=.ok () w:=by
 have:=zhG (P:=P) (w:=w) (n:=n) (em:=em) (vx:=vx) fs.toList h1 h2
 unfold Instr.checkKey
 simp only[Sem.run_bind,run_underlying hu,Result.andThen_ok]
 rw[← Array.forIn_toList]
 exact Eq.trans (congrArg (fun r:Result PUnit=>r.andThen fun _ w'=>(pure ():Sem Unit).run P w') this) rfl
theorem zhO {d:Nat} {t:TypeId} {fs:Array Field} {l:List KT} (hu:P.underlying t=some (.struct fs)) (hl:zex P (d+1) t=some l):zhn P d 0 fs.toList=some l:=by
 unfold zex at hl
 rw[hu]at hl
 have hl:(if P.stoodInHeld t then none else zhn P d 0 fs.toList)=some l:=hl
 split at hl<;>try simp at hl
 exact hl
theorem zlD {t:TypeId} {fs:Array Field} {l:List KT} (hu:P.underlying t=some (.struct fs)) (hl:zex P 40 t=some l):zhn P 39 0 fs.toList=some l:=zhO (d:=39) hu hl
theorem zlZ {kt:TypeId} {kk:KK} {k:V} {u:Value} {em:Bool} (hk:okKK P kt kk=true) (hf:kk.fits k=true) (hc:conc R k=some u):(Instr.checkKey em 10000 kt u).run P w=.ok () w:=by
 cases kk with
 |sc q=>
  have hk:(match P.underlying kt with|some d=>ktD q d|none=>false)=true:=hk
  split at hk<;>try simp at hk
  rename_i d hu
  refine zhF (n:=9999) ?_
  unfold zeE
  rw[hu]
  cases d<;>cases q<;>simp[ktD]at hk<;>rfl
 |ag ks=>
  have hk:((match P.underlying kt with
   |some (.struct fs)=>fs.toList.all fun f=>zeE P f.type
   |_=>false)&&(match zex P 40 kt with|some l=>zfP l ks|none=>false))=true:=hk
  rw[Bool.and_eq_true]at hk
  obtain⟨h1,h2⟩:=hk
  split at h1<;>try simp at h1
  rename_i fs hu
  split at h2<;>try simp at h2
  rename_i l hl
  obtain rfl:=zgH h2
  cases k<;>simp only[KK.fits,Bool.false_eq_true]at hf
  rename_i c
  obtain⟨vx,hvx,rfl⟩:=zcO hc
  have hlen:vx.length=l.length:=(zan hvx).trans (zaZ hf)
  have hfl:zhn P 39 0 fs.toList=some l:=zlD hu hl
  have hp:=ziB hfl
  refine zlY (n:=9998) hu (fun f hf=>by
   obtain⟨i,hi,e⟩:=List.getElem_of_mem hf
   have:=h1 i (by simpa using hi)
   simpa [← e] using this) (fun f hf=>by
   obtain⟨m,q1,q2,q3⟩:=hp f hf
   exact⟨m,q1,by omega,q3⟩)
def fi (kk:KK) (k:V):List (V × V)→Nat→Option (Option (Nat × V))
 |[],_=>some none
 |e::es,i=>if kk.fits e.1 then (if zhk k e.1 then some (some (i,e.2)) else fi kk k es (i+1)) else none
theorem zqB (kk:KK) (k:V):∀(es:List (V × V)) (i:Nat),find kk k es=(fi kk k es i).map (·.map (·.2))
 |[],i=>by simp[find,fi]
 |e::es,i=>by
  simp only[find,fi]
  split
  ·split
   ·simp
   ·exact zqB kk k es (i+1)
  ·simp
theorem zpQ (kk:KK) (k v:V):∀(es:List (V × V)) (i:Nat) (es':List (V × V)),mput kk k v es=some es' →
 (fi kk k es i=some none∧es'=es++[(k,v)])∨(∃j old,fi kk k es i=some (some (i+j,old))∧j<es.length∧∃e,es[j]? = some e∧zhk k e.1=true∧kk.fits e.1=true∧es'=es.set j (e.1,v))
 |[],i,es',hm=>by
  simp[mput]at hm
  subst hm
  exact .inl ⟨rfl,rfl⟩
 |e::es,i,es',hm=>by
  simp only[mput]at hm
  split at hm<;>try simp at hm
  rename_i hf
  split at hm
  ·rename_i hk
   simp at hm
   subst hm
   exact .inr ⟨0,e.2,by simp[fi,hf,hk],by simp,e,by simp,hk,hf,by simp⟩
  ·rename_i hk
   simp at hm
   obtain⟨es1,h1,rfl⟩:=hm
   rcases zpQ kk k v es (i+1) es1 h1 with⟨q1,rfl⟩|⟨j,old,q1,q2,e',q3,q4,q5,rfl⟩
   ·exact .inl ⟨by simp[fi,hf,hk,q1],by simp⟩
   ·exact .inr ⟨j+1,old,by simp[fi,hf,hk,q1];omega,by simp;omega,e',by simpa using q3,q4,q5,by simp⟩
theorem zgG {k:KT} {x y:V} (hx:k.fits x=true) (hy:k.fits y=true) (he:zbm x y=true):x=y:=by
 unfold KT.fits at hx hy
 split at hx<;>try simp at hx
 ·split at hy<;>try simp at hy
  ·simp[zbm]at he;rw[he]
  ·rename_i e;cases e
  ·rename_i e;cases e
 ·split at hy<;>try simp at hy
  ·rename_i e;cases e
  ·rename_i e
   simp only[KT.i.injEq]at e
   subst e hx hy
   simp[zbm]at he;rw[he]
  ·rename_i e;cases e
 ·split at hy<;>try simp at hy
  ·rename_i e;cases e
  ·rename_i e;cases e
  ·simp only[zbm]at he
   rw[(zdj _ _).1 he]
theorem zhH:∀{ks:List KT} {xs ys:List V},fitL ks xs=true→fitL ks ys=true→zaF xs ys=true→xs=ys
 |[],[],[],_,_,_=>rfl
 |[],_::_,_,hx,_,_=>by simp[fitL]at hx
 |[],[],_::_,_,hy,_=>by simp[fitL]at hy
 |_::_,[],_,hx,_,_=>by simp[fitL]at hx
 |_::_,_::_,[],_,hy,_=>by simp[fitL]at hy
 |k::ks,x::xs,y::ys,hx,hy,he=>by
  simp only[fitL,Bool.and_eq_true]at hx hy
  simp only[zaF,Bool.and_eq_true]at he
  rw[zgG hx.1 hy.1 he.1,zhH hx.2 hy.2 he.2]
theorem zoz {kk:KK} {x y:V} (hx:kk.fits x=true) (hy:kk.fits y=true) (he:zhk x y=true):x=y:=by
 cases kk with
 |sc k=>
  simp only[KK.fits]at hx hy
  have:zhk x y=zbm x y:=by
   cases x<;>cases y<;>first|rfl|(simp[KT.fits]at hx;done)
  rw[this]at he
  exact zgG hx hy he
 |ag ks=>
  cases x<;>simp only[KK.fits,Bool.false_eq_true]at hx
  cases y<;>simp only[KK.fits,Bool.false_eq_true]at hy
  rw[zhH hx hy he]
def EntRel (R:Emb):List (V × V)→List MapEntry→Prop
 |[],[]=>True
 |e::es,m::ms=>conc R e.1=some m.key∧conc R e.2=some m.val∧EntRel R es ms
 |_,_=>False
theorem zlN:∀{es:List (V × V)} {ms:List MapEntry},zfq R es=some (ms.map fun e=>(e.key,e.val))→EntRel R es ms
 |[],[],_=>trivial
 |[],m::ms,hh=>by simp[zfq]at hh
 |(a,b)::es,ms,hh=>by
  obtain⟨x,y,w,h1,h2,h3,h4⟩:=zdP.1 hh
  cases ms with
  |nil=>simp at h4
  |cons m ms=>
   simp only[List.map_cons,List.cons.injEq,Prod.mk.injEq]at h4
   obtain⟨⟨rfl,rfl⟩,rfl⟩:=h4
   exact⟨h1,h2,zlN h3⟩
theorem ziq:∀{es:List (V × V)} {ms:List MapEntry},EntRel R es ms→zfq R es=some (ms.map fun e=>(e.key,e.val))
 |[],[],_=>by simp[zfq]
 |[],m::ms,hh=>hh.elim
 |_::_,[],hh=>hh.elim
 |(a,b)::es,m::ms,⟨h1,h2,h3⟩=>zdP.2 ⟨_,_,_,h1,h2,ziq h3,rfl⟩
def zkB (R:Emb):Option (Nat × V)→Option (Nat × Value)→Prop
 |none,none=>True
 |some (i,v),some (j,x)=>i=j∧conc R v=some x
 |_,_=>False
theorem ziC {q:KT} {d:TypeDesc} {k:V} {u:Value} (hd:ktD q d=true) (hf:q.fits k=true) (hc:conc R k=some u):∀(es:List (V × V)) (ms:List MapEntry) (i:Nat) (r:Option (Nat × V)),
 EntRel R es ms→fi (.sc q) k es i=some r→∃o,Instr.findNow d u ms i=some o∧zkB R r o
 |[],[],i,r,_,hr=>by
  simp[fi]at hr
  subst hr
  exact⟨none,by simp[Instr.findNow],trivial⟩
 |[],_::_,_,_,hh,_=>hh.elim
 |_::_,[],_,_,hh,_=>hh.elim
 |e::es,m::ms,i,r,⟨h1,h2,h3⟩,hr=>by
  simp only[fi]at hr
  split at hr<;>try simp at hr
  rename_i hfe
  simp only[KK.fits]at hfe
  have hsame:Instr.sameNow d u m.key=some (zhk k e.1):=by
   rcases zcw hf hc with⟨b,rfl,rfl,rfl⟩|⟨kd,n,rfl,rfl,rfl⟩|⟨l,rfl,rfl,rfl,hl⟩
   ·rcases zcw hfe h1 with⟨b',_,hv,hu⟩|⟨_,_,e1,_⟩|⟨_,e1,_⟩<;>try cases e1
    cases d<;>simp[ktD]at hd
    rw[hu,hv]
    rfl
   ·rcases zcw hfe h1 with⟨_,e1,_⟩|⟨kd',n',e1,hv,hu⟩|⟨_,e1,_⟩<;>try cases e1
    cases d<;>simp[ktD]at hd
    rw[hu,hv]
    simp only[Instr.sameNow,zhk,zbm]
    first|rfl|(congr 1;done)|(rw[Bool.eq_iff_iff];simp)
   ·rcases zcw hfe h1 with⟨_,e1,_⟩|⟨_,_,e1,_⟩|⟨l',e1,hv,hu,hl'⟩<;>try cases e1
    cases d<;>simp[ktD]at hd
    rw[hu,hv]
    simp only[Instr.sameNow,zhk,zbm]
    rw[beq_toListBytes,zbY,zbY,zeo _ _ hl hl']
  simp only[Instr.findNow,hsame]
  split at hr
  ·rename_i hk
   simp at hr
   subst hr
   rw[hk]
   exact⟨_,rfl,rfl,h2⟩
  ·rename_i hk
   have hk':zhk k e.1=false:=by simpa using hk
   rw[hk']
   exact ziC hd hf hc es ms (i+1) r h3 hr
theorem zfQ {kt:TypeId} {ks:List KT} {c:List V} {vc:List Value} (hag:aggT P kt=true) (hfl:zex P 40 kt=some ks) (hf:fitL ks c=true) (hc:zae R c=some vc) :
 ∀(es:List (V × V)) (ms:List MapEntry) (i:Nat) (r:Option (Nat × V)),EntRel R es ms→fi (.ag ks) (.agg c) es i=some r→∃o,(Instr.findAsking kt (.agg vc.toArray) ms i).run P w=.ok o w∧zkB R r o
 |[],[],i,r,_,hr=>by
  simp[fi]at hr
  subst hr
  exact⟨none,by simp[Instr.findAsking],trivial⟩
 |[],_::_,_,_,hh,_=>hh.elim
 |_::_,[],_,_,hh,_=>hh.elim
 |e::es,m::ms,i,r,⟨h1,h2,h3⟩,hr=>by
  simp only[fi]at hr
  split at hr<;>try simp at hr
  rename_i hfe
  obtain⟨ke,ve⟩:=e
  cases ke<;>simp only[KK.fits,Bool.false_eq_true]at hfe
  rename_i c'
  obtain⟨vc',hc',hm⟩:=zcO h1
  have he:=zgI hag hfl hf hfe hc hc' w
  simp only[Instr.findAsking,Sem.run_bind,hm,he,Result.andThen_ok]
  simp only[zhk]at hr
  cases hk:zaF c c' with
  |true=>
   simp only[hk,if_true,Option.some.injEq]at hr
   subst hr
   simp only[if_true]
   exact⟨some (i,m.val),rfl,rfl,h2⟩
  |false=>
   simp only[hk,Bool.false_eq_true,if_false]at hr
   simp only[Bool.false_eq_true,if_false]
   exact zfQ hag hfl hf hc es ms (i+1) r h3 hr
theorem zgf {kt:TypeId} {kk:KK} {k:V} {u:Value} {es:List (V × V)} {ms:List MapEntry} {r:Option (Nat × V)} (hk:okKK P kt kk=true) (hf:kk.fits k=true) (hc:conc R k=some u)
 (he:EntRel R es ms) (hr:fi kk k es 0=some r):∃o,(Instr.findKey kt u ms).run P w=.ok o w∧zkB R r o:=by
 cases kk with
 |sc q=>
  have hk:(match P.underlying kt with|some d=>ktD q d|none=>false)=true:=hk
  split at hk<;>try simp at hk
  rename_i d hu
  obtain⟨o,h1,h2⟩:=ziC hk hf hc es ms 0 r he hr
  exact⟨o,by simp[Instr.findKey,run_underlying hu,h1],h2⟩
 |ag ks=>
  have hk:((match P.underlying kt with
   |some (.struct fs)=>fs.toList.all fun f=>zeE P f.type
   |_=>false)&&(match zex P 40 kt with|some l=>zfP l ks|none=>false))=true:=hk
  rw[Bool.and_eq_true]at hk
  obtain⟨h1,h2⟩:=hk
  split at h1<;>try simp at h1
  rename_i fs hu
  split at h2<;>try simp at h2
  rename_i l hl
  obtain rfl:=zgH h2
  cases k<;>simp only[KK.fits,Bool.false_eq_true]at hf
  rename_i c
  obtain⟨vx,hvx,rfl⟩:=zcO hc
  have hag:aggT P kt=true:=by simp[aggT,hu,zdt]
  obtain⟨o,q1,q2⟩:=zfQ (P:=P) (w:=w) hag hl hf hvx es ms 0 r he hr
  refine⟨o,?_,q2⟩
  simp only[Instr.findKey,Sem.run_bind,run_underlying hu,Result.andThen_ok]
  cases ms with
  |nil=>
   cases es with
   |cons _ _=>exact he.elim
   |nil=>
    simp[fi]at hr
    subst hr
    cases o with
    |none=>simp[Instr.findNow]
    |some _=>exact q2.elim
  |cons m ms=>
   have:Instr.findNow (.struct fs) (.agg vx.toArray) (m::ms) 0=none:=by simp[Instr.findNow,Instr.sameNow]
   rw[this]
   exact q1
theorem map_at {b c sz:Nat} {es:List (V × V)} (hs:Sim P F R h.get w) (hF:F b) (hb:R b=some (c,sz)) (hg:h.get b=some (.map es)) :
 ∃arr ck,w.heap[c]? = some (.map arr ck)∧EntRel R es arr.toList:=by
 obtain⟨arr,ck,h1,h2⟩:=hs.blk b c sz _ hF hb hg
 exact⟨arr,ck,h1,zlN h2⟩
theorem zfd {c ck:Nat} {arr:Array MapEntry} (h1:w.heap[c]? = some (.map arr ck)):(getObj c).run P w=.ok (.map arr ck) w:=by
 simp[getObj,Sem.run,h1]
theorem run_look {kk:KK} {z:V} {cok:Bool} {a b:X} (hok:okA P op (.look kk z cok a b)=true) (hρ:zba R t ρ) (hs:Sim P F R h.get w) (hF:zco F (reads (.look kk z cok a b) t))
 (he:evA call (.look kk z cok a b) t h=.ok v h'):OpRun P F R h w (execOp ρ ⟨dst,op,ty,pos,af,gd⟩) v h':=by
 cases op<;>try exact (Bool.false_ne_true hok).elim
 rename_i mt x k cok'
 have hok:(okX x a&&okX k b&&(cok'==cok)&&(match P.underlying mt with
  |some (.map kt et)=>okKK P kt kk&&(match zey P et with
   |some v=>zcW z v
   |none=>false)
  |_=>false))=true:=hok
 simp only[Bool.and_eq_true,beq_iff_eq]at hok
 obtain⟨⟨⟨hxa,hkb⟩,rfl⟩,hu⟩:=hok
 split at hu<;>try simp at hu
 rename_i kt et hue
 obtain⟨hkk,hz⟩:=hu
 split at hz<;>try simp at hz
 rename_i zv hzv
 have hzc:=zdv R z zv hz
 have hx:=hρ x a hxa
 have hk:=hρ k b hkb
 simp only[evA]at he
 split at he<;>try simp at he
 rename_i hfit
 have fin:∀(es:List (V × V)) (arr:Array MapEntry) (r:Option V),find kk (b.ev t) es=some r→EntRel R es arr.toList →
  (ρ x=.map none∧arr = #[]∨∃c ck,ρ x=.map (some c)∧w.heap[c]? = some (.map arr ck)) →
  OpRun P F R h w (execOp ρ ⟨dst,.lookup mt x k cok',ty,pos,af,gd⟩) (if cok' then .tup [r.getD z,.b r.isSome] else r.getD z) h:=by
  intro es arr r hfd her hrun
  rw[zqB kk _ es 0]at hfd
  cases hq:fi kk (b.ev t) es 0 with
  |none=>simp[hq]at hfd
  |some q=>
   simp[hq]at hfd
   obtain⟨o,q1,q2⟩:=zgf (P:=P) (w:=w) hkk hfit hk her hq
   have hck:=zlZ (P:=P) (w:=w) (em:=arr.isEmpty) hkk hfit hk
   cases q with
   |none=>
    simp at hfd
    subst hfd
    cases o with
    |some _=>exact q2.elim
    |none=>
     refine .plain (x:=if cok' then .tuple #[zv,.bool false] else zv) hs ?_ ?_
     ·rcases hrun with⟨hxe,rfl⟩|⟨c,ck,hxe,hob⟩
      ·have hck':(Instr.checkKey true 10000 kt (ρ k)).run P w=.ok () w:=hck
       have q1':(Instr.findKey kt (ρ k) []).run P w=.ok none w:=q1
       cases cok'<;>simp[execOp,Instr.lookup,run_underlying hue,hxe,hck',q1',zcr w hzv]
      ·cases cok'<;>simp[execOp,Instr.lookup,run_underlying hue,hxe,zfd (P:=P) hob,hck,q1,zcr w hzv]
     ·cases cok'<;>simp[conc,zae,hzc]
   |some q=>
    obtain⟨i,vv⟩:=q
    simp at hfd
    subst hfd
    cases o with
    |none=>exact q2.elim
    |some o=>
     obtain⟨j,xx⟩:=o
     obtain⟨rfl,hcv⟩:=q2
     refine .plain (x:=if cok' then .tuple #[xx,.bool true] else xx) hs ?_ ?_
     ·rcases hrun with⟨hxe,rfl⟩|⟨c,ck,hxe,hob⟩
      ·have hck':(Instr.checkKey true 10000 kt (ρ k)).run P w=.ok () w:=hck
       have q1':(Instr.findKey kt (ρ k) []).run P w=.ok (some (i,xx)) w:=q1
       cases cok'<;>simp[execOp,Instr.lookup,run_underlying hue,hxe,hck',q1']
      ·cases cok'<;>simp[execOp,Instr.lookup,run_underlying hue,hxe,zfd (P:=P) hob,hck,q1]
     ·cases cok'<;>simp[conc,zae,hcv]
 cases ha:a.ev t with
 |mn=>
  simp only[ha]at he
  simp at he
  obtain⟨rfl,rfl⟩:=he
  rw[ha]at hx
  obtain hxe:=zhs hx
  exact fin [] #[] none (by simp[find]) trivial (.inl ⟨hxe,rfl⟩)
 |m blk=>
  simp only[ha]at he
  cases hg:h.get blk with
  |none=>simp[hg]at he
  |some bl=>
   cases bl with
   |map es=>
    simp only[hg]at he
    cases hfd:find kk (b.ev t) es with
    |none=>simp[hfd]at he
    |some r=>
     simp only[hfd,RO.ok.injEq]at he
     obtain⟨rfl,rfl⟩:=he
     rw[ha]at hx
     obtain⟨c,sz,hR,hxe⟩:=zlW hx
     obtain⟨arr,ck,h1,h2⟩:=map_at hs (hF blk (by simp[ha,zaU])) hR hg
     exact fin es arr r hfd h2 (.inr ⟨c,ck,hxe,h1⟩)
   |_=>simp[hg]at he
 |_=>simp[ha]at he
theorem zeF {k:KT} {x:V} {u:Value} (hf:k.fits x=true) (hc:conc R x=some u) (n:Nat):Instr.sameBits n u u=true:=by
 rcases zcw hf hc with⟨b,rfl,rfl,rfl⟩|⟨kd,m,rfl,rfl,rfl⟩|⟨l,rfl,rfl,rfl,hl⟩
 ·cases n<;>simp[Instr.sameBits]
 ·cases n<;>simp[Instr.sameBits]
 ·cases n<;>simp[Instr.sameBits,beq_toListBytes]
theorem zhw {n:Nat}:∀{ks:List KT} {xs:List V} {us:List Value},fitL ks xs=true→zae R xs=some us→((us.zip us).all fun (x,y)=>Instr.sameBits n x y)=true
 |[],[],us,_,hc=>by simp[zae]at hc;subst hc;rfl
 |[],_::_,_,hf,_=>by simp[fitL]at hf
 |_::_,[],_,hf,_=>by simp[fitL]at hf
 |k::ks,x::xs,us,hf,hc=>by
  obtain⟨u,us',h1,h2,rfl⟩:=zah.1 hc
  simp only[fitL,Bool.and_eq_true]at hf
  simp only[List.zip_cons_cons,List.all_cons,zeF hf.1 h1,Bool.true_and]
  exact zhw hf.2 h2
theorem zkO {kk:KK} {k:V} {u:Value} (hf:kk.fits k=true) (hc:conc R k=some u):Instr.sameBits 10000 u u=true:=by
 cases kk with
 |sc q=>exact zeF hf hc 10000
 |ag ks=>
  cases k<;>simp only[KK.fits,Bool.false_eq_true]at hf
  obtain⟨vx,hvx,rfl⟩:=zcO hc
  have:=zhw (n:=9999) hf hvx
  show Instr.sameBits (9999+1) (.agg vx.toArray) (.agg vx.toArray)=true
  simp only[Instr.sameBits,Bool.and_eq_true,beq_self_eq_true,true_and]
  exact this
theorem EntRel.append:∀{es:List (V × V)} {ms:List MapEntry} {e:V × V} {m:MapEntry},EntRel R es ms→conc R e.1=some m.key→conc R e.2=some m.val→EntRel R (es++[e]) (ms++[m])
 |[],[],_,_,_,h1,h2=>⟨h1,h2,trivial⟩
 |[],_::_,_,_,hh,_,_=>hh.elim
 |_::_,[],_,_,hh,_,_=>hh.elim
 |_::es,_::ms,_,_,⟨a,b,c⟩,h1,h2=>⟨a,b,EntRel.append c h1 h2⟩
theorem EntRel.set:∀{es:List (V × V)} {ms:List MapEntry} {e:V × V} {m:MapEntry} (j:Nat),EntRel R es ms→conc R e.1=some m.key→conc R e.2=some m.val→EntRel R (es.set j e) (ms.set j m)
 |[],[],_,_,_,_,_,_=>by simp[EntRel]
 |[],_::_,_,_,_,hh,_,_=>hh.elim
 |_::_,[],_,_,_,hh,_,_=>hh.elim
 |_::es,_::ms,_,_,0,⟨a,b,c⟩,h1,h2=>⟨h1,h2,c⟩
 |_::es,_::ms,_,_,j+1,⟨a,b,c⟩,h1,h2=>⟨a,b,EntRel.set j c h1 h2⟩
theorem EntRel.get:∀{es:List (V × V)} {ms:List MapEntry} {j:Nat} {e:V × V},EntRel R es ms→es[j]? = some e→∃m,ms[j]? = some m∧conc R e.1=some m.key∧conc R e.2=some m.val
 |[],[],j,e,_,he=>by simp at he
 |[],_::_,_,_,hh,_=>hh.elim
 |_::_,[],_,_,hh,_=>hh.elim
 |_::es,m::ms,0,e,⟨a,b,c⟩,he=>by
  simp at he;subst he
  exact⟨m,rfl,a,b⟩
 |_::es,_::ms,j+1,e,⟨a,b,c⟩,he=>by
  obtain⟨m,h1,h2⟩:=EntRel.get c (by simpa using he)
  exact⟨m,by simpa using h1,h2⟩
theorem zih {b c sz:Nat} {x y:Blk} {o o':Obj} (hs:Sim P F R h.get w) (hF:F b) (hb:R b=some (c,sz)) (hg:h.get b=some y) (ho:w.heap[c]? = some o) (hnc:∀a e f,o≠.cells a e f)
 (hx:∀w':World,w'.heap[c]? = some o'→BlkRel P R w' c sz x) :
 ∃w',(setObj c o').run P w=.ok () w'∧Fwd R R h (h.put b x) w w' [b]∧Sim P F R (h.put b x).get w':=by
 have hlt:=hs.lt b c sz hb
 refine⟨{ w with heap:=w.heap.setIfInBounds c o' },?_,?_⟩
 ·cases o with
  |cells a e f=>exact absurd rfl (hnc a e f)
  |_=>simp[setObj,Sem.run,ho]
 ·refine zhT hs hF hb hg ⟨rfl,rfl,rfl⟩ (by simp) (fun d hd => ?_) (hx _ (by simp[hlt]))
  simp[Array.getElem?_setIfInBounds,Ne.symm hd]
theorem zij {kk:KK} {a b e:X} (hop:∃mt x k y,op=.mapUpdate mt x k y) (hok:okA P op (.mapSet kk a b e)=true) (hρ:zba R t ρ) (hs:Sim P F R h.get w) (hF:zco F (reads (.mapSet kk a b e) t))
 (he:evA call (.mapSet kk a b e) t h=.ok v h'):OpRun P F R h w (execOp ρ ⟨dst,op,ty,pos,af,gd⟩) v h':=by
 obtain⟨mt,x,k,y,rfl⟩:=hop
 have hok:(okX x a&&okX k b&&okX y e&&(match P.underlying mt with
  |some (.map kt _)=>okKK P kt kk
  |_=>false))=true:=hok
 simp only[Bool.and_eq_true]at hok
 obtain⟨⟨⟨hxa,hkb⟩,hye⟩,hu⟩:=hok
 split at hu<;>try simp at hu
 rename_i kt et hue
 have hx:=hρ x a hxa
 have hk:=hρ k b hkb
 have hy:=hρ y e hye
 simp only[evA]at he
 cases ha:a.ev t with
 |m blk=>
  simp only[ha]at he
  cases hg:h.get blk with
  |none=>simp[hg]at he
  |some bl=>
   cases bl with
   |map es=>
    simp only[hg]at he
    split at he<;>try simp at he
    rename_i hfit
    cases hm:mput kk (b.ev t) (e.ev t) es with
    |none=>simp[hm]at he
    |some es'=>
     simp only[hm,RO.ok.injEq]at he
     obtain⟨rfl,rfl⟩:=he
     rw[ha]at hx
     obtain⟨c,sz,hR,hxe⟩:=zlW hx
     have hFb:=hF blk (by simp[ha,zaU])
     obtain⟨arr,ck,h1,h2⟩:=map_at hs hFb hR hg
     have hck:=zlZ (P:=P) (w:=w) (em:=false) hu hfit hk
     rcases zpQ kk _ _ es 0 es' hm with⟨q1,rfl⟩|⟨j,old,q1,q2,e0,q3,q4,q5,rfl⟩
     ·obtain⟨o,r1,r2⟩:=zgf (P:=P) (w:=w) hu hfit hk h2 q1
      cases o with
      |some _=>exact r2.elim
      |none=>
       obtain⟨w',s1,s2,s3⟩:=zih (P:=P) (x:=.map (es++[(b.ev t,e.ev t)])) (o':=.map (arr.push { key:=ρ k,val:=ρ y,born:=ck }) (ck+1)) hs hFb hR hg h1 (by intro _ _ _ e;cases e)
        (fun w' hw'=>⟨_,_,hw',ziq (by simpa using h2.append (e:=(b.ev t,e.ev t)) (m:={ key:=ρ k,val:=ρ y,born:=ck }) hk hy)⟩)
       refine⟨.skip,undef,w',?_,.inr ⟨rfl,rfl⟩,_,_,s2,s3,zbk R⟩
       simp only[execOp,Instr.mapUpdate,Sem.run_bind,run_underlying hue,Result.andThen_ok,hxe,zfd (P:=P) h1,hck,r1,s1,Sem.run_pure]
     ·obtain⟨o,r1,r2⟩:=zgf (P:=P) (w:=w) hu hfit hk h2 q1
      cases o with
      |none=>exact r2.elim
      |some o=>
       obtain⟨i,xx⟩:=o
       obtain⟨hij,hcv⟩:=r2
       rw[Nat.zero_add]at hij
       subst hij
       have hkeq:b.ev t=e0.1:=zoz hfit q5 q4
       obtain⟨m0,m1,m2,m3⟩:=h2.get q3
       have hkey:m0.key=ρ k:=by rw[← hkeq,hk]at m2;exact (Option.some.inj m2).symm
       have hjlt:j<arr.size:=by
        have:=(List.getElem?_eq_some_iff.1 m1).1
        simpa using this
       have hm0:arr[j]? = some m0:=by simpa using m1
       have hentries:EntRel R (es.set j (e0.1,e.ev t)) (arr.modify j fun q=>{ q with key:=ρ k,val:=ρ y }).toList:=by
        have:(arr.modify j fun q=>{ q with key:=ρ k,val:=ρ y }).toList=arr.toList.set j { m0 with key:=ρ k,val:=ρ y }:=by
         apply List.ext_getElem?
         intro i
         rw[Array.getElem?_toList,Array.getElem?_modify,List.getElem?_set]
         by_cases hij:j=i
         ·subst hij
          have hb:arr[j].born=m0.born:=by rw[(Array.getElem?_eq_some_iff.1 hm0).2]
          simp[hm0,hjlt,hb]
         ·simp[hij]
        rw[this]
        exact h2.set (e:=(e0.1,e.ev t)) (m:={ m0 with key:=ρ k,val:=ρ y }) j (by rw[← hkeq];exact hk) hy
       obtain⟨w',s1,s2,s3⟩:=zih (P:=P) (x:=.map (es.set j (e0.1,e.ev t))) (o':=.map (arr.modify j fun q=>{ q with key:=ρ k,val:=ρ y }) ck) hs hFb hR hg h1 (by intro _ _ _ e;cases e)
        (fun w' hw'=>⟨_,_,hw',ziq hentries⟩)
       have hstays:(Instr.keyThatStays (((arr[j]?).map (·.key)).getD (ρ k)) (ρ k)).run P w=.ok (ρ k) w:=by
        simp only[hm0,Option.map_some,Option.getD_some,hkey,Instr.keyThatStays]
        rw[if_pos (zkO hfit hk)]
        rfl
       refine⟨.skip,undef,w',?_,.inr ⟨rfl,rfl⟩,_,_,s2,s3,zbk R⟩
       simp only[execOp,Instr.mapUpdate,Sem.run_bind,run_underlying hue,Result.andThen_ok,hxe,zfd (P:=P) h1,hck,r1,hstays,s1,Sem.run_pure]
   |_=>simp[hg]at he
 |_=>simp[ha]at he
theorem zok {kk:KK} {a b e:X} (hok:okA P op (.mapSet kk a b e)=true) (hρ:zba R t ρ) (hs:Sim P F R h.get w) (hF:zco F (reads (.mapSet kk a b e) t))
 (he:evA call (.mapSet kk a b e) t h=.ok v h'):OpRun P F R h w (execOp ρ ⟨dst,op,ty,pos,af,gd⟩) v h':=by
 cases op<;>try exact (Bool.false_ne_true hok).elim
 case mapUpdate mt x k y=>exact zij ⟨mt,x,k,y,rfl⟩ hok hρ hs hF he
 case insert mt x k y=>exact zij (dst:=dst) (op:=.mapUpdate mt x k y) (ty:=ty) (pos:=pos) (af:=af) (gd:=gd) ⟨mt,x,k,y,rfl⟩ hok hρ hs hF he
theorem zpp {a:A} (hok:okA P op a=true) (hnc:∀f xs,a≠.call f xs) (hρ:zba R t ρ) (hs:Sim P F R h.get w) (hF:zco F (reads a t)) (hfr:Fresh R h h') (he:evA call a t h=.ok v h') :
 OpRun P F R h w (execOp ρ ⟨dst,op,ty,pos,af,gd⟩) v h':=by
 cases a with
 |mov x=>exact run_mov hok hρ hs he
 |pick c a b=>exact run_pick hok hρ hs he
 |alloc z=>exact zpq hok hs hfr he
 |box x=>exact run_box hok hρ hs hfr he
 |build z ps=>exact zpo hok hρ hs he
 |buildSl z n ps=>exact zmo hok hρ hs hfr he
 |ld x=>exact run_ld hok hρ hs hF he
 |ldn n x=>exact run_ldn hok hρ hs hF he
 |st n x y=>exact run_st hok hρ hs hF he
 |nilck x=>exact zpl hok hρ hs he
 |bin o x y=>exact run_bin hok hρ hs he
 |eqv n k x y=>exact run_eqv hok hρ hs he
 |un o x=>exact run_un hok hρ hs he
 |conv k x=>exact run_conv hok hρ hs he
 |mkI k x=>exact run_mkI hok hρ hs he
 |mkFn f a c=>exact run_mkFn hok hρ hs he
 |mkMap=>exact zpm hok hs hfr he
 |mkSl z b l c=>exact run_mkSl hok hρ hs hfr he
 |slc e x lo hi mx=>exact run_slc hok hρ hs he
 |slcA n e x lo hi=>exact run_slcA hok hρ hs he
 |slcS x lo hi=>exact run_slcS hok hρ hs he
 |fld o x=>exact run_fld hok hρ hs he
 |fldv o s x=>exact run_fldv hok hρ hs he
 |ixS e x i=>exact run_ixS hok hρ hs he
 |ixA n e x i=>exact run_ixA hok hρ hs he
 |ixStr x i=>exact zpn hok hρ hs he
 |ixV n e g x i=>exact run_ixV hok hρ hs he
 |look kk z o x k=>exact run_look hok hρ hs hF he
 |mapSet kk x k y=>exact zok hok hρ hs hF he
 |ext x n=>exact run_ext hok hρ hs he
 |call f xs=>exact absurd rfl (hnc f xs)
 |lenS x=>exact run_lenS hok hρ hs he
 |lenL x=>exact run_lenL hok hρ hs he
 |lenC n=>exact run_lenC hok hs he
 |lenM x=>exact run_lenM hok hρ hs hF he
 |app e b s x=>exact run_app hok hρ hs hF hfr he
 |cpy e d s=>exact run_cpy hok hρ hs hF he
 |clr z x=>exact run_clr hok hρ hs hF he
 |min xs=>exact run_min hok hρ hs he
 |max xs=>exact run_max hok hρ hs he
 |panic x=>
  simp only[evA]at he
  split at he<;>simp at he
 |tassert k z o x=>exact zmn hok hρ hs he
 |s2b x=>exact run_s2b hok hρ hs hfr he
 |b2s x=>exact run_b2s hok hρ hs hF he
 |mark x=>exact run_mark hok hρ hs hF he
 |no=>simp[evA]at he
end
end Go.Air
namespace Go.Air
def WF (h:H):Prop:=(∀b,h.next≤b→h.get b=none)∧∀b∈h.log,b<h.next
theorem WF.lt {h:H} {b:Nat} {x:Blk} (hw:WF h) (hb:h.get b=some x):b<h.next:=by
 rcases Nat.lt_or_ge b h.next with hl|hl
 ·exact hl
 ·rw[hw.1 b hl]at hb;cases hb
structure Keep (h h':H):Prop where
 nx:h.next≤h'.next
 wf:WF h→WF h'
 loop:∀b lp,b<h.next→h.get b=some (.loop lp)→∃lp',h'.get b=some (.loop lp')
 wr:∃l,h'.log=l++h.log∧(∀b,b<h.next→b ∉ l→h'.get b=h.get b)∧∀b∈l,b<h.next→∃y,h.get b=some y
theorem Keep.refl (h:H):Keep h h:=⟨Nat.le_refl _,id,fun _ lp _ hb=>⟨lp,hb⟩,[],rfl,fun _ _ _=>rfl,fun _ hb=>by simp at hb⟩
theorem Keep.trans {h h1 h2:H} (a:Keep h h1) (b:Keep h1 h2):Keep h h2:=
 ⟨Nat.le_trans a.nx b.nx,fun w=>b.wf (a.wf w),fun x lp hx hg=>let ⟨lp1,h1⟩:=a.loop x lp hx hg;b.loop x lp1 (Nat.lt_of_lt_of_le hx a.nx) h1,by
   obtain⟨l1,p1,p2,p3⟩:=a.wr
   obtain⟨l2,q1,q2,q3⟩:=b.wr
   refine⟨l2++l1,by rw[q1,p1,List.append_assoc],fun x hx hl => ?_,fun x hx hlt => ?_⟩
   ·rw[List.mem_append,not_or]at hl
    rw[q2 x (Nat.lt_of_lt_of_le hx a.nx) hl.1,p2 x hx hl.2]
   ·by_cases hl:x∈l1
    ·exact p3 x hl hlt
    ·rcases List.mem_append.1 hx with hx|hx
     ·obtain⟨y,hy⟩:=q3 x hx (Nat.lt_of_lt_of_le hlt a.nx)
      exact⟨y,by rw[← p2 x hlt hl];exact hy⟩
     ·exact absurd hx hl⟩
theorem Keep.new (h:H) (x:Blk):Keep h (h.new x):=by
 refine⟨by simp,fun w=>⟨fun b hb => ?_,fun b hb => ?_⟩,fun b lp hb hg=>⟨lp,?_⟩,[],rfl,fun b hb _=>by rw[H.get_new,if_neg (by omega)],fun _ hb=>by simp at hb⟩
 ·simp at hb
  rw[H.get_new,if_neg (by omega)];exact w.1 b (by omega)
 ·have:=w.2 b (by simpa using hb)
  simp;omega
 ·rw[H.get_new,if_neg (by omega)];exact hg
theorem Keep.put {h:H} {b:Nat} {x y:Blk} (hg:h.get b=some y) (hl:∀lp,y=.loop lp→∃lp',x=.loop lp'):Keep h (h.put b x):=by
 refine⟨by simp,fun w=>⟨fun c hc => ?_,fun c hc => ?_⟩,fun c lp hc hcg => ?_,[b],rfl,fun c _ hc=>by rw[H.get_put,if_neg (by simpa using hc)],fun c hc _=>by simp at hc;subst hc;exact⟨_,hg⟩⟩
 ·have:=w.lt hg
  simp at hc
  rw[H.get_put,if_neg (by omega)];exact w.1 c hc
 ·simp at hc
  rcases hc with rfl|hc
  ·exact w.lt hg
  ·exact w.2 c hc
 ·rw[H.get_put]
  split
  ·rename_i e;subst e
   rw[hg]at hcg
   obtain⟨lp',e⟩:=hl lp (Option.some.inj hcg)
   exact⟨lp',by rw[e]⟩
  ·exact⟨lp,hcg⟩
theorem Keep.kill {h:H} {b:Nat} {cs:List V} (hg:h.get b=some (.cells cs)):Keep h (h.kill b):=by
 refine⟨by simp,fun w=>⟨fun c hc => ?_,fun c hc => ?_⟩,fun c lp hc hcg => ?_,[b],rfl,fun c _ hc=>by rw[H.get_kill,if_neg (by simpa using hc)],fun c hc _=>by simp at hc;subst hc;exact⟨_,hg⟩⟩
 ·rw[H.get_kill]
  split
  ·rfl
  ·exact w.1 c hc
 ·simp at hc
  rcases hc with rfl|hc
  ·exact w.lt hg
  ·exact w.2 c hc
 ·rw[H.get_kill]
  split
  ·rename_i e;subst e
   rw[hg]at hcg;cases hcg
  ·exact⟨lp,hcg⟩
def Does (h h':H) (rs:Option (List Nat)):Prop:=Keep h h'∧∀r,rs=some r→∃l,h'.log=l++h.log∧∀b∈l,b∈r
theorem Does.refl {h:H} {rs:Option (List Nat)}:Does h h rs:=⟨.refl h,fun _ _=>⟨[],rfl,fun _ hb=>by simp at hb⟩⟩
theorem Does.new {h:H} {x:Blk} {rs:Option (List Nat)}:Does h (h.new x) rs:=⟨.new h x,fun _ _=>⟨[],rfl,fun _ hb=>by simp at hb⟩⟩
theorem zdo {h h':H} {b o:Nat} {vs:List V} (hs:storeAt h b o vs=some h'):Keep h h'∧h'.log=b::h.log:=by
 unfold storeAt at hs
 split at hs<;>try simp at hs
 rename_i cs hg
 split at hs<;>try simp at hs
 obtain⟨_,rfl⟩:=hs
 exact⟨.put hg (by intro lp e;cases e),rfl⟩
theorem zmT {esz bytes:Nat} {h h':H} {s x v:V} (he:zaX esz bytes h s x=.ok v h'):Keep h h':=by
 unfold zaX at he
 split at he<;>try simp only[reduceCtorEq]at he
 split at he<;>try simp only[reduceCtorEq]at he
 split at he<;>try simp only[reduceCtorEq]at he
 split at he<;>try simp only[reduceCtorEq]at he
 ·split at he<;>simp at he
  ·rw[← he.2];exact .refl _
  ·rw[← he.2];exact .new _ _
 ·split at he<;>simp at he
  ·rw[← he.2];exact .refl _
  ·rw[← he.2];exact .new _ _
 ·split at he
  ·split at he<;>simp at he
   rename_i hst
   rw[← he.2]
   exact (zdo hst).1
  ·split at he<;>try simp only[reduceCtorEq]at he
   split at he
   ·split at he<;>try simp only[reduceCtorEq]at he
    split at he<;>simp at he
    rw[← he.2];exact .new _ _
   ·split at he<;>try simp only[reduceCtorEq]at he
    rename_i hg
    split at he<;>try simp only[reduceCtorEq]at he
    split at he<;>simp at he
    rw[← he.2]
    exact (Keep.kill hg).trans (.new _ _)
theorem zqS {esz:Nat} {h h':H} {d s v:V} (he:zlT esz h d s=.ok v h'):Keep h h':=by
 unfold zlT at he
 split at he<;>try simp at he
 split at he<;>try simp at he
 ·rw[← he.2];exact .refl _
 ·split at he<;>try simp at he
  split at he<;>simp at he
  rename_i hst
  rw[← he.2]
  exact (zdo hst).1
def zhd (call:V→List V→H→RO):Prop:=∀f args h v h',(call f args h=.ok v h'∨call f args h=.pan v h')→Keep h h'
theorem zfk {call:V→List V→H→RO} {op:A} {t:List V} {h h':H} {v:V} (hc:zhd call) (he:evA call op t h=.ok v h'):Does h h' (reads op t):=by
 have pure':∀(o:Option V),RO.ofV h o=.ok v h'→Does h h' (reads op t):=fun o ho=>by rw[(zdL ho).2];exact .refl
 have here:∀u,RO.ok u h=.ok v h'→Does h h' (reads op t):=fun u hu=>by simp at hu;rw[← hu.2];exact .refl
 have fresh:∀u x,RO.ok u (h.new x)=.ok v h'→Does h h' (reads op t):=fun u x hu=>by simp at hu;rw[← hu.2];exact .new
 cases op<;>simp only[evA]at he
 case mov=>exact here _ he
 case pick=>split at he<;>first|exact here _ he|simp at he
 case alloc=>exact fresh _ _ he
 case box=>exact fresh _ _ he
 case build=>split at he<;>first|exact here _ he|simp at he
 case buildSl=>split at he<;>first|exact fresh _ _ he|simp at he
 case ld=>split at he<;>try simp at he
          split at he<;>try simp at he
          exact pure' _ he
 case ldn=>split at he<;>try simp at he
           split at he<;>try simp at he
           split at he<;>first|exact here _ he|simp at he
 case st n x y=>
  split at he<;>try simp at he
  rename_i b o hx
  split at he<;>try simp at he
  split at he<;>simp at he
  rename_i hst
  obtain⟨h1,h2⟩:=zdo hst
  obtain⟨_,rfl⟩:=he
  refine⟨h1,fun r hr=>⟨[b],h2,fun c hcb => ?_⟩⟩
  simp only[reads,hx,zaU,Option.some.injEq]at hr
  rw[← hr];exact hcb
 case nilck=>split at he<;>first|exact here _ he|simp at he
 case bin=>exact pure' _ he
 case eqv=>split at he<;>first|exact here _ he|simp at he
 case un=>exact pure' _ he
 case conv=>split at he<;>first|exact here _ he|simp at he
 case mkI=>exact here _ he
 case mkFn=>exact here _ he
 case mkMap=>exact fresh _ _ he
 case mkSl=>split at he<;>try simp at he
            split at he<;>first|exact fresh _ _ he|simp at he
 case slc=>split at he<;>exact pure' _ he
 case slcA=>split at he<;>try simp at he
            split at he<;>first|exact here _ he|simp at he
 case slcS=>split at he<;>try simp at he
            split at he<;>first|exact here _ he|simp at he
 case fld=>split at he<;>first|exact here _ he|simp at he
 case fldv=>split at he<;>try simp at he
            split at he<;>first|exact pure' _ he|(split at he<;>first|exact here _ he|simp at he)
 case ixS=>split at he<;>try simp at he
           split at he<;>first|exact here _ he|simp at he
 case ixA=>split at he<;>try simp at he
           split at he<;>first|exact here _ he|simp at he
 case ixStr=>split at he<;>try simp at he
             split at he<;>first|exact here _ he|simp at he
 case ixV=>split at he<;>try simp at he
           split at he<;>try simp at he
           split at he<;>first|exact pure' _ he|(split at he<;>first|exact here _ he|simp at he)
 case look=>split at he<;>try simp at he
            split at he<;>first|exact here _ he|simp at he
 case mapSet kk x k y=>
  split at he<;>try simp at he
  rename_i b hx
  split at he<;>try simp at he
  rename_i es hg
  split at he<;>try simp at he
  split at he<;>simp at he
  obtain⟨_,rfl⟩:=he
  refine⟨.put hg (by intro lp e;cases e),fun r hr=>⟨[b],rfl,fun c hcb => ?_⟩⟩
  simp only[reads,hx,zaU,Option.some.injEq]at hr
  rw[← hr];exact hcb
 case ext=>split at he<;>first|exact pure' _ he|simp at he
 case call=>exact⟨hc _ _ _ _ _ (.inl he),fun r hr=>by simp[reads]at hr⟩
 case lenS=>split at he<;>first|exact here _ he|simp at he
 case lenL=>split at he<;>first|exact here _ he|simp at he
 case lenC=>exact here _ he
 case lenM=>split at he<;>try simp only[reduceCtorEq]at he
            ·exact here _ he
            ·split at he<;>first|exact here _ he|simp at he
 case app=>exact⟨zmT he,fun r hr=>by simp[reads]at hr⟩
 case cpy=>exact⟨zqS he,fun r hr=>by simp[reads]at hr⟩
 case clr=>
  split at he<;>try simp at he
  ·obtain⟨_,rfl⟩:=he
   exact .refl
  ·split at he
   ·exact here _ he
   ·split at he<;>simp at he
    rename_i hst
    rw[← he.2]
    exact⟨(zdo hst).1,fun r hr=>by simp[reads]at hr⟩
 case min=>exact pure' _ he
 case max=>exact pure' _ he
 case panic=>split at he<;>simp at he
 case tassert=>
  split at he<;>try simp at he
  ·split at he<;>first|exact here _ he|simp at he
  ·split at he
   ·exact here _ he
   ·split at he<;>first|exact here _ he|simp at he
 case s2b=>split at he<;>first|exact fresh _ _ he|simp at he
 case b2s=>exact pure' _ he
 case mark x=>
  split at he<;>try simp at he
  rename_i b o l c g hx
  split at he<;>simp at he
  rename_i cs hg
  obtain⟨_,rfl⟩:=he
  refine⟨.put hg (by intro lp e;cases e),fun r hr=>⟨[b],rfl,fun c hcb => ?_⟩⟩
  simp only[reads,hx,zaU,Option.some.injEq]at hr
  rw[← hr];exact hcb
 case no=>simp at he
theorem RO.ofV_pan {o:Option V} {h h':H} {v:V}:RO.ofV h o≠.pan v h':=by cases o<;>simp[RO.ofV]
theorem zmV {esz bytes:Nat} {h h':H} {s x v:V}:zaX esz bytes h s x≠.pan v h':=by
 unfold zaX
 repeat' split
 all_goals simp
theorem zqT {esz:Nat} {h h':H} {d s v:V}:zlT esz h d s≠.pan v h':=by
 unfold zlT
 repeat' split
 all_goals simp
theorem zkr {call:V→List V→H→RO} {op:A} {t:List V} {h h':H} {v:V} (he:evA call op t h=.pan v h') :
 (∃x ty u,op=.panic x∧x.ev t=.ifc ty u∧v=.ifc ty u∧h'=h)∨∃f xs,op=.call f xs∧call (f.ev t) (xs.map (X.ev t)) h=.pan v h':=by
 cases op<;>simp only[evA]at he
 case panic x=>
  split at he<;>simp only[RO.pan.injEq,reduceCtorEq]at he
  rename_i ty u hx
  exact .inl ⟨x,ty,u,rfl,hx,he.1.symm,he.2.symm⟩
 case call f xs=>exact .inr ⟨f,xs,rfl,he⟩
 case app=>exact absurd he zmV
 case cpy=>exact absurd he zqT
 all_goals
  exfalso
  revert he
  repeat' split
  all_goals first|exact RO.ofV_pan|simp
theorem evA_keep {call:V→List V→H→RO} {op:A} {t:List V} {h h':H} {v:V} (hc:zhd call) (he:evA call op t h=.pan v h'):Keep h h':=by
 rcases zkr he with⟨_,_,_,_,_,_,rfl⟩|⟨f,xs,_,he⟩
 ·exact .refl _
 ·exact hc _ _ _ _ _ (.inr he)
theorem zbt {call:V→List V→H→RO} (hc:zhd call):∀(l:List O) (t:List V) (h:H) (t':List V) (h':H),(zaQ call l t h=.ok t' h'∨∃v,zaQ call l t h=.pan v t' h')→Keep h h'
 |[],t,h,t',h',he=>by simp[zaQ]at he;rw[← he.2];exact .refl _
 |o::l,t,h,t',h',he=>by
  simp only[zaQ]at he
  split at he
  ·split at he
   ·rename_i v h1 h2
    exact (zfk hc h2).1.trans (zbt hc l _ _ _ _ he)
   ·rename_i v h1 h2
    rcases he with he|⟨_,he⟩<;>simp only[RL.pan.injEq,reduceCtorEq]at he
    obtain⟨_,_,rfl⟩:=he
    exact evA_keep hc h2
   ·rcases he with he|⟨_,he⟩<;>simp only[reduceCtorEq]at he
  ·exact zbt hc l _ _ _ _ he
theorem zbb {n:Nat}:∀{l:List Nat} {b:Nat},b∈zaD n l→b<n∧b∈l
 |[],b,hb=>by simp[zaD]at hb
 |x::l,b,hb=>by
  simp only[zaD]at hb
  split at hb
  ·rename_i hx
   rcases List.mem_cons.1 hb with rfl|hb
   ·exact⟨by simpa [Nat.blt_eq] using hx,by simp⟩
   ·have:=zbb hb
    exact⟨this.1,by simp[this.2]⟩
  ·have:=zbb hb
   exact⟨this.1,by simp[this.2]⟩
theorem zda {n:Nat}:∀{l:List Nat} {b:Nat},b<n→b∈l→b∈zaD n l
 |[],b,_,hb=>by simp at hb
 |x::l,b,hn,hb=>by
  simp only[zaD]
  rcases List.mem_cons.1 hb with rfl|hb
  ·rw[if_pos (by simpa [Nat.blt_eq] using hn)];simp
  ·split
   ·exact List.mem_cons.2 (.inr (zda hn hb))
   ·exact zda hn hb
theorem zeG {call:V→List V→H→RO} (hc:zhd call):∀(l:List O) (t:List V) (h:H) (f:List Foot) (t':List V) (h':H) (f':List Foot),zbu call l t h f=.ok t' h' f'→Keep h h'
 |[],t,h,f,t',h',f',he=>by simp[zbu]at he;rw[← he.2.1];exact .refl _
 |o::l,t,h,f,t',h',f',he=>by
  simp only[zbu]at he
  split at he
  ·split at he<;>try simp at he
   rename_i v h1 h2
   refine Keep.trans ?_ (zeG hc l _ _ _ _ _ _ he)
   have k:=(zfk hc h2).1
   refine⟨k.nx,fun w=>⟨(k.wf ⟨w.1,fun _ hb=>by simp at hb⟩).1,fun b hb => ?_⟩,k.loop,?_⟩
   case refine_2=>
    obtain⟨l,q1,q2,q3⟩:=k.wr
    simp only[List.append_nil]at q1
    subst q1
    exact⟨_,rfl,fun b hb hl=>q2 b hb (fun hm=>hl (zda hb hm)),fun b hb hlt=>q3 b (zbb hb).2 hlt⟩
   rcases List.mem_append.1 hb with hb|hb
   ·exact Nat.lt_of_lt_of_le (zbb hb).1 k.nx
   ·exact Nat.lt_of_lt_of_le (w.2 b hb) k.nx
  ·exact zeG hc l _ _ _ _ _ _ he
section
variable {tbl:Tb} {r:C→List V→H→RC}
theorem zge {fi:FI} {t:List V} {h h':H} {v:V} (he:zdO fi t h=.ok v h'∨zdO fi t h=.pan v h'):h'=h:=by
 unfold zdO at he
 split at he<;>simp at he
 exact he.2.symm
theorem zfo (hr:∀c t h o t' h',r c t h=.ok o t' h'→Keep h h') {f v:V} {h h':H} (he:zdR tbl r f v h=some h'):Keep h h':=by
 unfold zdR at he
 split at he<;>try simp only[reduceCtorEq]at he
 split at he<;>try simp only[reduceCtorEq]at he
 split at he<;>try simp only[reduceCtorEq]at he
 split at he<;>try simp only[reduceCtorEq]at he
 rename_i hrun
 split at he<;>simp only[Option.some.injEq,reduceCtorEq]at he
 all_goals
  subst he
  exact hr _ _ _ _ _ _ hrun
theorem zcU (hr:∀c t h o t' h',r c t h=.ok o t' h'→Keep h h'):zhd (zaS tbl r):=by
 intro f args h v h' he
 unfold zaS at he
 split at he<;>try simp at he
 ·split at he<;>try simp at he
  split at he<;>try simp at he
  split at he
  ·split at he<;>try simp at he
   rename_i hrun
   split at he
   ·simp at he
   ·simp at he
    rw[← he.2]
    exact hr _ _ _ _ _ _ hrun
   ·rw[zge he];exact hr _ _ _ _ _ _ hrun
   ·rw[zge he];exact hr _ _ _ _ _ _ hrun
  ·split at he<;>try simp at he
   rename_i hrun0
   split at he<;>try simp at he
   split at he<;>try simp at he
   rename_i hrun
   split at he<;>try simp at he
   rename_i hd
   rw[zge he]
   refine (hr _ _ _ _ _ _ hrun0).trans ((hr _ _ _ _ _ _ hrun).trans ?_)
   split at hd
   ·cases hd
   ·exact zfo hr hd
   ·exact zfo hr hd
   ·exact zfo hr hd
 ·split at he<;>try simp at he
  split at he<;>try simp at he
  split at he<;>try simp at he
  rename_i t1 h1 hasg
  split at he<;>try simp at he
  rename_i lp1 hg1
  split at he<;>try simp at he
  split at he<;>try simp at he
  rename_i o2 t2 h2 hbody
  split at he<;>try simp at he
  rename_i lp2 hg2
  split at he<;>try simp at he
  have k1:=hr _ _ _ _ _ _ hasg
  have k2:Keep h1 (h1.put _ (.loop { lp1 with state:=.busy })):=.put hg1 (fun lp _=>⟨_,rfl⟩)
  have k3:=hr _ _ _ _ _ _ hbody
  split at he<;>simp at he<;>rw[← he.2]
  all_goals exact k1.trans (k2.trans (k3.trans (.put hg2 (fun lp _=>⟨_,rfl⟩))))
theorem zoh (hr:∀c t h o t' h',r c t h=.ok o t' h'→Keep h h') (c:C) (t:List V) (h:H) (o:Out) (t':List V) (h':H) (he:zaP tbl r c t h=.ok o t' h'):Keep h h':=by
 have hc:=zcU (tbl:=tbl) hr
 cases c<;>simp only[zaP]at he
 case skip=>simp at he;rw[← he.2.2];exact .refl _
 case ops=>split at he<;>simp at he
           ·rename_i hrun
            rw[← he.2.2];exact zbt hc _ _ _ _ _ (.inl hrun)
           ·rename_i hrun
            rw[← he.2.2];exact zbt hc _ _ _ _ _ (.inr ⟨_,hrun⟩)
 case draw=>split at he<;>try simp at he
            rename_i hrun
            split at he<;>simp at he
            obtain⟨_,_,rfl⟩:=he
            exact zeG hc _ _ _ _ _ _ _ hrun
 case seq=>split at he
           ·rename_i hrun
            exact (hr _ _ _ _ _ _ hrun).trans (hr _ _ _ _ _ _ he)
           ·exact hr _ _ _ _ _ _ he
 case cond=>split at he<;>first|exact hr _ _ _ _ _ _ he|simp at he
 case block=>split at he
             ·rename_i hrun
              split at he<;>simp at he<;>rw[← he.2.2]<;>exact hr _ _ _ _ _ _ hrun
             ·exact hr _ _ _ _ _ _ he
 case loop=>split at he
            ·rename_i hrun
             exact (hr _ _ _ _ _ _ hrun).trans (hr _ _ _ _ _ _ he)
            ·exact hr _ _ _ _ _ _ he
 case exit=>simp at he;rw[← he.2.2];exact .refl _
 case ret=>simp at he;rw[← he.2.2];exact .refl _
 case rangeF=>
  split at he<;>try simp only[reduceCtorEq]at he
  split at he<;>try simp only[reduceCtorEq]at he
  split at he<;>try simp only[reduceCtorEq]at he
  rename_i hrun
  split at he<;>try simp only[reduceCtorEq]at he
  rename_i hg
  split at he<;>try simp only[reduceCtorEq]at he
  split at he<;>simp only[RC.ok.injEq,reduceCtorEq]at he
  obtain⟨_,_,rfl⟩:=he
  exact (Keep.new _ _).trans ((hc _ _ _ _ _ (.inl hrun)).trans (.put hg (fun lp _=>⟨_,rfl⟩)))
 case prim=>
  split at he<;>simp at he
  rename_i b hb
  rw[← he.2.2]
  cases b with
  |none=>exact .refl _
  |some x=>exact .new _ _
end
theorem zdS {tbl:Tb}:∀(k:Nat) (c:C) (t:List V) (h:H) (o:Out) (t':List V) (h':H),E tbl k c t h=.ok o t' h'→Keep h h'
 |0,_,_,_,_,_,_,he=>by simp[E]at he
 |k+1,c,t,h,o,t',h',he=>zoh (zdS k) c t h o t' h' he
end Go.Air
namespace Go.Air
def RC.le (a b:RC):Prop:=a=.fail∨a=b
def RO.le (a b:RO):Prop:=a=.fail∨a=b
def RL.le (a b:RL):Prop:=a=.fail∨a=b
def RD.le (a b:RD):Prop:=a=.fail∨a=b
section
variable {tbl:Tb} {r r':C→List V→H→RC}
theorem zfn (hr:∀c t h,(r c t h).le (r' c t h)) (f v:V) (h:H):zdR tbl r f v h=none∨zdR tbl r f v h=zdR tbl r' f v h:=by
 unfold zdR
 split<;>try exact .inl rfl
 split<;>try exact .inl rfl
 rename_i fi _
 split<;>try exact .inl rfl
 rename_i n _
 rcases hr fi.body (upd (pad _ fi.ntmps) n v) h with e|e
 ·rw[e];exact .inl rfl
 ·rw[e];exact .inr rfl
theorem zdQ (hr:∀c t h,(r c t h).le (r' c t h)) (f:V) (args:List V) (h:H):(zaS tbl r f args h).le (zaS tbl r' f args h):=by
 cases f<;>try exact .inr rfl
 case fn g first caps=>
  unfold zaS
  simp only
  cases tbl.fi g with
  |none=>exact .inr rfl
  |some fi=>
   simp only
   cases fi.rcv with
   |some _=>exact .inr rfl
   |none=>
    simp only
    cases fi.dfr with
    |none=>
     simp only
     rcases hr fi.body (pad (first++args++caps) fi.ntmps) h with e|e
     ·rw[e];exact .inl rfl
     ·rw[e];exact .inr rfl
    |some px=>
     obtain⟨pre,x⟩:=px
     simp only
     rcases hr pre (pad (first++args++caps) fi.ntmps) h with e|e
     ·rw[e];exact .inl rfl
     ·rw[e]
      cases r' pre (pad (first++args++caps) fi.ntmps) h with
      |fail=>exact .inr rfl
      |ok o0 t0 h0=>
       cases o0<;>try exact .inr rfl
       simp only
       rcases hr fi.body t0 h0 with e|e
       ·rw[e];exact .inl rfl
       ·rw[e]
        cases r' fi.body t0 h0 with
        |fail=>exact .inr rfl
        |ok o t1 h1=>
         cases o<;>simp only
         ·rcases zfn (tbl:=tbl) hr (x.ev t0) .in0 h1 with e|e
          ·rw[e];exact .inl rfl
          ·rw[e];exact .inr rfl
         ·exact .inr rfl
         ·rcases zfn (tbl:=tbl) hr (x.ev t0) .in0 h1 with e|e
          ·rw[e];exact .inl rfl
          ·rw[e];exact .inr rfl
         ·rename_i v
          rcases zfn (tbl:=tbl) hr (x.ev t0) v h1 with e|e
          ·rw[e];exact .inl rfl
          ·rw[e];exact .inr rfl
 case yld l=>
  unfold zaS
  simp only
  cases h.get l with
  |none=>exact .inr rfl
  |some bl=>
   cases bl<;>try exact .inr rfl
   rename_i lp
   simp only
   by_cases hl:Nat.beq args.length lp.params.length=true
   ·rw[if_pos hl,if_pos hl]
    rcases hr lp.asg (zdH lp.tmps lp.params args) h with e|e
    ·rw[e];exact .inl rfl
    ·rw[e]
     cases hb:r' lp.asg (zdH lp.tmps lp.params args) h with
     |fail=>exact .inr rfl
     |ok o t h1=>
      cases o<;>try exact .inr rfl
      simp only
      cases h1.get l with
      |none=>exact .inr rfl
      |some bl=>
       cases bl<;>try exact .inr rfl
       rename_i lp1
       simp only
       split
       ·rcases hr lp.body t (h1.put l (.loop { lp1 with state:=.busy })) with e|e
        ·rw[e];exact .inl rfl
        ·rw[e];exact .inr rfl
       ·exact .inr rfl
   ·rw[if_neg hl,if_neg hl];exact .inr rfl
theorem zks {call call':V→List V→H→RO} (hc:∀f args h,(call f args h).le (call' f args h)) (op:A) (t:List V) (h:H):(evA call op t h).le (evA call' op t h):=by
 cases op<;>first|exact .inr rfl|exact hc _ _ _
theorem zdX {call call':V→List V→H→RO} (hc:∀f args h,(call f args h).le (call' f args h)):∀(l:List O) (t:List V) (h:H),(zaQ call l t h).le (zaQ call' l t h)
 |[],_,_=>.inr rfl
 |o::l,t,h=>by
  unfold zaQ
  split
  ·rcases zks hc o.op t h with e|e
   ·rw[e];exact .inl rfl
   ·rw[e]
    split
    ·exact zdX hc l _ _
    ·exact .inr rfl
    ·exact .inr rfl
  ·exact zdX hc l _ _
theorem zdp {call call':V→List V→H→RO} (hc:∀f args h,(call f args h).le (call' f args h)):∀(l:List O) (t:List V) (h:H) (f:List Foot),(zbu call l t h f).le (zbu call' l t h f)
 |[],_,_,_=>.inr rfl
 |o::l,t,h,f=>by
  unfold zbu
  split
  ·rcases zks hc o.op t ⟨h.next,h.mem,[]⟩ with e|e
   ·rw[e];exact .inl rfl
   ·rw[e]
    split
    ·exact zdp hc l _ _ _
    ·exact .inr rfl
  ·exact zdp hc l _ _ _
theorem zog (hr:∀c t h,(r c t h).le (r' c t h)) (c:C) (t:List V) (h:H):(zaP tbl r c t h).le (zaP tbl r' c t h):=by
 have hc:=fun f args h=>zdQ (tbl:=tbl) hr f args h
 cases c<;>try exact .inr rfl
 case ops l=>
  unfold zaP
  simp only
  rcases zdX hc l t h with e|e
  ·rw[e];exact .inl rfl
  ·rw[e];exact .inr rfl
 case draw l crit=>
  unfold zaP
  simp only
  rcases zdp hc l t h [] with e|e
  ·rw[e];exact .inl rfl
  ·rw[e];exact .inr rfl
 case seq a b=>
  unfold zaP
  simp only
  rcases hr a t h with e|e
  ·rw[e];exact .inl rfl
  ·rw[e]
   cases r' a t h with
   |fail=>exact .inr rfl
   |ok o t' h'=>cases o<;>first|exact hr _ _ _|exact .inr rfl
 case cond x a b=>
  unfold zaP
  simp only
  split
  ·exact hr _ _ _
  ·exact hr _ _ _
  ·exact .inr rfl
 case block id a=>
  unfold zaP
  simp only
  rcases hr a t h with e|e
  ·rw[e];exact .inl rfl
  ·rw[e];exact .inr rfl
 case loop a=>
  unfold zaP
  simp only
  rcases hr a t h with e|e
  ·rw[e];exact .inl rfl
  ·rw[e]
   cases r' a t h with
   |fail=>exact .inr rfl
   |ok o t' h'=>cases o<;>first|exact hr _ _ _|exact .inr rfl
 case rangeF f ps asg body=>
  unfold zaP
  simp only
  split
  ·rename_i g a c _
   split
   ·exact .inr rfl
   rcases hc (.fn g a c) [.yld h.next] (h.new (.loop ⟨.ready,none,t,ps,asg,body⟩)) with e|e
   ·rw[e];exact .inl rfl
   ·rw[e];exact .inr rfl
  ·exact .inr rfl
end
section
variable (tbl:Tb)
theorem E_succ:∀k c t h,(E tbl k c t h).le (E tbl (k+1) c t h)
 |0,_,_,_=>.inl rfl
 |k+1,c,t,h=>zog (E_succ k) c t h
theorem E_le {k m:Nat} (hkm:k≤m) (c:C) (t:List V) (h:H):(E tbl k c t h).le (E tbl m c t h):=by
 induction hkm with
 |refl=>exact .inr rfl
 |step _ ih=>
  rcases ih with e|e
  ·exact .inl e
  ·rw[e];exact E_succ tbl _ c t h
theorem E_up {k m:Nat} (hkm:k≤m) {c:C} {t:List V} {h:H} {o:Out} {t':List V} {h':H} (he:E tbl k c t h=.ok o t' h'):E tbl m c t h=.ok o t' h':=by
 rcases E_le tbl hkm c t h with e|e
 ·rw[e]at he;cases he
 ·rw[← e];exact he
theorem zra {k m:Nat} (hkm:k≤m) {f:V} {args:List V} {h:H} {r:RO} (he:zaS tbl (E tbl k) f args h=r) (hr:r≠.fail):zaS tbl (E tbl m) f args h=r:=by
 rcases zdQ (tbl:=tbl) (E_le tbl hkm) f args h with e|e
 ·rw[e]at he;exact absurd he.symm hr
 ·rw[← e];exact he
theorem evA_up {k m:Nat} (hkm:k≤m) {op:A} {t:List V} {h:H} {r:RO} (he:evA (zaS tbl (E tbl k)) op t h=r) (hr:r≠.fail):evA (zaS tbl (E tbl m)) op t h=r:=by
 rcases zks (zdQ (tbl:=tbl) (E_le tbl hkm)) op t h with e|e
 ·rw[e]at he;exact absurd he.symm hr
 ·rw[← e];exact he
theorem ops_up {k m:Nat} (hkm:k≤m) {l:List O} {t:List V} {h:H} {r:RL} (he:zaQ (zaS tbl (E tbl k)) l t h=r) (hr:r≠.fail):zaQ (zaS tbl (E tbl m)) l t h=r:=by
 rcases zdX (zdQ (tbl:=tbl) (E_le tbl hkm)) l t h with e|e
 ·rw[e]at he;exact absurd he.symm hr
 ·rw[← e];exact he
theorem draw_up {k m:Nat} (hkm:k≤m) {l:List O} {t t':List V} {h h':H} {f f':List Foot} (he:zbu (zaS tbl (E tbl k)) l t h f=.ok t' h' f'):zbu (zaS tbl (E tbl m)) l t h f=.ok t' h' f':=by
 rcases zdp (zdQ (tbl:=tbl) (E_le tbl hkm)) l t h f with e|e
 ·rw[e]at he;cases he
 ·rw[← e];exact he
def ROp (r:RO) (S Sp:V→H→Prop):Prop:=match r with
 |.ok v h=>S v h
 |.pan v h=>Sp v h
 |.fail=>False
def RLq (r:RL) (T:Out→List V→H→Prop):Prop:=match r with
 |.ok t h=>T .norm t h
 |.pan v t h=>T (.pan v) t h
 |.fail=>False
theorem ROp.ne {r:RO} {S Sp:V→H→Prop} (h:ROp r S Sp):r≠.fail:=by rintro rfl;exact h
theorem RLq.ne {r:RL} {T:Out→List V→H→Prop} (h:RLq r T):r≠.fail:=by rintro rfl;exact h
theorem ROp.mono {r:RO} {S Sp S' Sp':V→H→Prop} (h:ROp r S Sp) (hq:∀v h',S v h'→S' v h') (hp:∀v h',Sp v h'→Sp' v h'):ROp r S' Sp':=by
 cases r with
 |ok v h'=>exact hq _ _ h
 |pan v h'=>exact hp _ _ h
 |fail=>exact h.elim
def W (c:C) (t:List V) (h:H) (Q:Out→List V→H→Prop):Prop:=∃k o t' h',E tbl k c t h=.ok o t' h'∧Q o t' h'
def WX (f:V) (args:List V) (h:H) (S Sp:V→H→Prop):Prop:=∃k r,zaS tbl (E tbl k) f args h=r∧ROp r S Sp
def WA (op:A) (t:List V) (h:H) (S Sp:V→H→Prop):Prop:=∃k r,evA (zaS tbl (E tbl k)) op t h=r∧ROp r S Sp
def WL (l:List O) (t:List V) (h:H) (T:Out→List V→H→Prop):Prop:=∃k r,zaQ (zaS tbl (E tbl k)) l t h=r∧RLq r T
def WD (l:List O) (t:List V) (h:H) (f:List Foot) (Q:List V→H→List Foot→Prop):Prop:=∃k t' h' f',zbu (zaS tbl (E tbl k)) l t h f=.ok t' h' f'∧Q t' h' f'
def zeK:V→H→Prop:=fun _ _=>False
abbrev WC (f:V) (args:List V) (h:H) (S:V→H→Prop):Prop:=WX tbl f args h S zeK
variable {tbl} {t:List V} {h:H} {Q:Out→List V→H→Prop} {S Sp:V→H→Prop}
theorem W.mono {c:C} {Q':Out→List V→H→Prop} (hw:W tbl c t h Q) (hq:∀o t' h',Q o t' h'→Q' o t' h'):W tbl c t h Q':=
 let ⟨k,o,t',h',e,q⟩:=hw;⟨k,o,t',h',e,hq _ _ _ q⟩
theorem WX.mono {f:V} {args:List V} {S' Sp':V→H→Prop} (hw:WX tbl f args h S Sp) (hq:∀v h',S v h'→S' v h') (hp:∀v h',Sp v h'→Sp' v h'):WX tbl f args h S' Sp':=
 let ⟨k,r,e,q⟩:=hw;⟨k,r,e,q.mono hq hp⟩
theorem WC.mono {f:V} {args:List V} {S' Sp':V→H→Prop} (hw:WC tbl f args h S) (hq:∀v h',S v h'→S' v h'):WX tbl f args h S' Sp':=
 WX.mono hw hq fun _ _ h=>h.elim
theorem WA.mono {op:A} {S' Sp':V→H→Prop} (hw:WA tbl op t h S Sp) (hq:∀v h',S v h'→S' v h') (hp:∀v h',Sp v h'→Sp' v h'):WA tbl op t h S' Sp':=
 let ⟨k,r,e,q⟩:=hw;⟨k,r,e,q.mono hq hp⟩
theorem WC_ok {f:V} {args:List V} (hw:WC tbl f args h S):∃k v h',zaS tbl (E tbl k) f args h=.ok v h'∧S v h':=by
 obtain⟨k,r,e,q⟩:=hw
 cases r with
 |ok v h'=>exact⟨k,v,h',e,q⟩
 |pan v h'=>exact q.elim
 |fail=>exact q.elim
theorem W_skip:W tbl .skip t h Q↔Q .norm t h:=
 ⟨fun⟨k,o,t',h',e,q⟩=>by
   cases k with
   |zero=>cases e
   |succ k=>simp only[E,zaP,RC.ok.injEq]at e;obtain⟨rfl,rfl,rfl⟩:=e;exact q,
  fun q=>⟨1,_,_,_,rfl,q⟩⟩
theorem W_exit {id:Nat}:W tbl (.exit id) t h Q↔Q (.exit id) t h:=
 ⟨fun⟨k,o,t',h',e,q⟩=>by
   cases k with
   |zero=>cases e
   |succ k=>simp only[E,zaP,RC.ok.injEq]at e;obtain⟨rfl,rfl,rfl⟩:=e;exact q,
  fun q=>⟨1,_,_,_,rfl,q⟩⟩
theorem W_ret:W tbl .ret t h Q↔Q .ret t h:=
 ⟨fun⟨k,o,t',h',e,q⟩=>by
   cases k with
   |zero=>cases e
   |succ k=>simp only[E,zaP,RC.ok.injEq]at e;obtain⟨rfl,rfl,rfl⟩:=e;exact q,
  fun q=>⟨1,_,_,_,rfl,q⟩⟩
theorem W_prim {n:Nat} {v:V} {b:Option Blk} (hp:tbl.pr n t h=some (v,b)):W tbl (.prim n) t h Q↔Q .ret [v] (h.newO b):=
 ⟨fun⟨k,o,t',h',e,q⟩=>by
   cases k with
   |zero=>cases e
   |succ k=>simp only[E,zaP,hp,RC.ok.injEq]at e;obtain⟨rfl,rfl,rfl⟩:=e;exact q,
  fun q=>⟨1,_,_,_,by simp only[E,zaP,hp],q⟩⟩
theorem W_ops {l:List O}:W tbl (.ops l) t h Q↔WL tbl l t h Q:=
 ⟨fun⟨k,o,t',h',e,q⟩=>by
   cases k with
   |zero=>cases e
   |succ k=>
    simp only[E,zaP]at e
    refine⟨k,_,rfl,?_⟩
    cases hr:zaQ (zaS tbl (E tbl k)) l t h with
    |fail=>rw[hr]at e;cases e
    |ok t1 h1=>rw[hr]at e;simp only[RC.ok.injEq]at e;obtain⟨rfl,rfl,rfl⟩:=e;exact q
    |pan v t1 h1=>rw[hr]at e;simp only[RC.ok.injEq]at e;obtain⟨rfl,rfl,rfl⟩:=e;exact q,
  fun⟨k,r,e,q⟩=>by
   cases r with
   |fail=>exact q.elim
   |ok t' h'=>exact⟨k+1,.norm,t',h',by simp only[E,zaP,e],q⟩
   |pan v t' h'=>exact⟨k+1,.pan v,t',h',by simp only[E,zaP,e],q⟩⟩
theorem W_draw {l:List O} {crit:List (Nat × Nat)}:W tbl (.draw l crit) t h Q↔WD tbl l t h [] fun t' h' f=>zbX f crit=true∧Q .norm t' h':=
 ⟨fun⟨k,o,t',h',e,q⟩=>by
   cases k with
   |zero=>cases e
   |succ k=>
    simp only[E,zaP]at e
    split at e<;>try simp only[reduceCtorEq]at e
    rename_i t1 h1 f1 e1
    split at e<;>simp only[RC.ok.injEq,reduceCtorEq]at e
    rename_i hc
    obtain⟨rfl,rfl,rfl⟩:=e
    exact⟨k,_,_,_,e1,hc,q⟩,
  fun⟨k,t',h',f,e,hc,q⟩=>⟨k+1,.norm,t',h',by simp only[E,zaP,e,hc,if_true],q⟩⟩
theorem W_seq {a b:C}:W tbl (.seq a b) t h Q↔W tbl a t h fun o t' h'=>match o with
 |.norm=>W tbl b t' h' Q
 |.exit i=>Q (.exit i) t' h'
 |.ret=>Q .ret t' h'
 |.pan v=>Q (.pan v) t' h':=
 ⟨fun⟨k,o,t',h',e,q⟩=>by
   cases k with
   |zero=>cases e
   |succ k=>
    simp only[E,zaP]at e
    cases e1:E tbl k a t h with
    |fail=>rw[e1]at e;cases e
    |ok o1 t1 h1=>
     rw[e1]at e
     refine⟨k,o1,t1,h1,e1,?_⟩
     cases o1 with
     |norm=>exact⟨k,_,_,_,e,q⟩
     |exit i=>simp only[RC.ok.injEq]at e;obtain⟨rfl,rfl,rfl⟩:=e;exact q
     |ret=>simp only[RC.ok.injEq]at e;obtain⟨rfl,rfl,rfl⟩:=e;exact q
     |pan v=>simp only[RC.ok.injEq]at e;obtain⟨rfl,rfl,rfl⟩:=e;exact q,
  fun⟨k,o,t',h',e,q⟩=>by
   cases o with
   |norm=>
    obtain⟨m,o2,t2,h2,e2,q2⟩:=q
    refine⟨max k m+1,o2,t2,h2,?_,q2⟩
    simp only[E,zaP,E_up tbl (Nat.le_max_left k m) e]
    exact E_up tbl (Nat.le_max_right k m) e2
   |exit i=>exact⟨k+1,_,_,_,by simp only[E,zaP,e],q⟩
   |ret=>exact⟨k+1,_,_,_,by simp only[E,zaP,e],q⟩
   |pan v=>exact⟨k+1,_,_,_,by simp only[E,zaP,e],q⟩⟩
def condV (v:V) (A B:Prop):Prop:=match v with
 |.b true=>A
 |.b false=>B
 |_=>False
theorem W_cond {x:X} {a b:C}:W tbl (.cond x a b) t h Q↔condV (x.ev t) (W tbl a t h Q) (W tbl b t h Q):=
 ⟨fun⟨k,o,t',h',e,q⟩=>by
   cases k with
   |zero=>cases e
   |succ k=>
    simp only[E,zaP]at e
    split at e
    ·rename_i hv;rw[hv];exact⟨k,_,_,_,e,q⟩
    ·rename_i hv;rw[hv];exact⟨k,_,_,_,e,q⟩
    ·exact (nomatch e),
  fun q=>by
   unfold condV at q
   split at q
   ·rename_i hv;obtain⟨k,o,t',h',e,q⟩:=q;exact⟨k+1,o,t',h',by simp only[E,zaP,hv,e],q⟩
   ·rename_i hv;obtain⟨k,o,t',h',e,q⟩:=q;exact⟨k+1,o,t',h',by simp only[E,zaP,hv,e],q⟩
   ·exact q.elim⟩
theorem zmY {id:Nat} {a:C}:W tbl (.block id a) t h Q↔W tbl a t h fun o t' h'=>match o with
 |.exit i=>if i=id then Q .norm t' h' else Q (.exit i) t' h'
 |.norm=>Q .norm t' h'
 |.ret=>Q .ret t' h'
 |.pan v=>Q (.pan v) t' h':=
 ⟨fun⟨k,o,t',h',e,q⟩=>by
   cases k with
   |zero=>cases e
   |succ k=>
    simp only[E,zaP]at e
    cases e1:E tbl k a t h with
    |fail=>rw[e1]at e;cases e
    |ok o1 t1 h1=>
     rw[e1]at e
     refine⟨k,o1,t1,h1,e1,?_⟩
     cases o1 with
     |norm=>simp only[RC.ok.injEq]at e;obtain⟨rfl,rfl,rfl⟩:=e;exact q
     |ret=>simp only[RC.ok.injEq]at e;obtain⟨rfl,rfl,rfl⟩:=e;exact q
     |pan v=>simp only[RC.ok.injEq]at e;obtain⟨rfl,rfl,rfl⟩:=e;exact q
     |exit i=>
      simp only at e
      split at e
      ·rename_i hb
       rw[Nat.beq_eq]at hb
       simp only[RC.ok.injEq]at e;obtain⟨rfl,rfl,rfl⟩:=e
       simp only;rw[if_pos hb];exact q
      ·rename_i hb
       have hb:i≠id:=by simpa using hb
       simp only[RC.ok.injEq]at e;obtain⟨rfl,rfl,rfl⟩:=e
       simp only;rw[if_neg hb];exact q,
  fun⟨k,o,t',h',e,q⟩=>by
   cases o with
   |norm=>exact⟨k+1,_,_,_,by simp only[E,zaP,e],q⟩
   |ret=>exact⟨k+1,_,_,_,by simp only[E,zaP,e],q⟩
   |pan v=>exact⟨k+1,_,_,_,by simp only[E,zaP,e],q⟩
   |exit i=>
    simp only at q
    split at q
    ·rename_i hb
     exact⟨k+1,_,_,_,by simp only[E,zaP,e];rw[if_pos (by rw[Nat.beq_eq];exact hb)],q⟩
    ·rename_i hb
     exact⟨k+1,_,_,_,by simp only[E,zaP,e];rw[if_neg (by simpa using hb)],q⟩⟩
theorem W_loop {a:C}:W tbl (.loop a) t h Q↔W tbl a t h fun o t' h'=>match o with
 |.norm=>W tbl (.loop a) t' h' Q
 |.exit i=>Q (.exit i) t' h'
 |.ret=>Q .ret t' h'
 |.pan v=>Q (.pan v) t' h':=
 ⟨fun⟨k,o,t',h',e,q⟩=>by
   cases k with
   |zero=>cases e
   |succ k=>
    simp only[E,zaP]at e
    cases e1:E tbl k a t h with
    |fail=>rw[e1]at e;cases e
    |ok o1 t1 h1=>
     rw[e1]at e
     refine⟨k,o1,t1,h1,e1,?_⟩
     cases o1 with
     |norm=>exact⟨k,_,_,_,e,q⟩
     |exit i=>simp only[RC.ok.injEq]at e;obtain⟨rfl,rfl,rfl⟩:=e;exact q
     |ret=>simp only[RC.ok.injEq]at e;obtain⟨rfl,rfl,rfl⟩:=e;exact q
     |pan v=>simp only[RC.ok.injEq]at e;obtain⟨rfl,rfl,rfl⟩:=e;exact q,
  fun⟨k,o,t',h',e,q⟩=>by
   cases o with
   |norm=>
    obtain⟨m,o2,t2,h2,e2,q2⟩:=q
    refine⟨max k m+1,o2,t2,h2,?_,q2⟩
    simp only[E,zaP,E_up tbl (Nat.le_max_left k m) e]
    exact E_up tbl (Nat.le_max_right k m) e2
   |exit i=>exact⟨k+1,_,_,_,by simp only[E,zaP,e],q⟩
   |ret=>exact⟨k+1,_,_,_,by simp only[E,zaP,e],q⟩
   |pan v=>exact⟨k+1,_,_,_,by simp only[E,zaP,e],q⟩⟩
theorem zoV {a:C} {I:Nat→List V→H→Prop} (hI:∀n t h,I n t h→W tbl a t h fun o t' h'=>match o with
 |.norm=>∃m,m<n∧I m t' h'
 |.exit i=>Q (.exit i) t' h'
 |.ret=>Q .ret t' h'
 |.pan v=>Q (.pan v) t' h'):∀n t h,I n t h→W tbl (.loop a) t h Q:=by
 intro n
 induction n using Nat.strongRecOn with
 |ind n ih=>
  intro t h hi
  refine W_loop.2 ((hI n t h hi).mono ?_)
  intro o t' h' q
  cases o with
  |norm=>obtain⟨m,hm,q⟩:=q;exact ih m hm t' h' q
  |exit i=>exact q
  |ret=>exact q
  |pan v=>exact q
def zdc (v:Option Blk) (S:Loop→Prop):Prop:=match v with
 |some (.loop lp)=>S lp
 |_=>False
theorem W_range {f:X} {ps:List Nat} {asg body:C} {g:Nat} {a c:List V} (hf:f.ev t=.fn g a c) (hx:tbl.ext g=false):W tbl (.rangeF f ps asg body) t h Q ↔
 WC tbl (.fn g a c) [.yld h.next] (h.new (.loop ⟨.ready,none,t,ps,asg,body⟩)) fun _ h'=>zdc (h'.get h.next) fun lp=>lp.state≠.busy∧zqg lp.pending=false∧Q (lp.pending.getD .norm) t (h'.put h.next (.loop { lp with state:=.over })):=
 ⟨fun⟨k,o,t',h',e,q⟩=>by
   cases k with
   |zero=>cases e
   |succ k=>
    simp only[E,zaP,hf,hx,Bool.false_eq_true,if_false]at e
    split at e<;>try simp only[reduceCtorEq]at e
    rename_i v h1 e1
    split at e<;>try simp only[reduceCtorEq]at e
    rename_i lp hg
    split at e<;>try simp only[reduceCtorEq]at e
    rename_i hb
    split at e<;>simp only[RC.ok.injEq,reduceCtorEq]at e
    rename_i hn
    obtain⟨rfl,rfl,rfl⟩:=e
    exact⟨k,_,e1,by show zdc (h1.get h.next) _;rw[hg];exact⟨hb,by simpa using hn,q⟩⟩,
  fun w=>by
   obtain⟨k,v,h',e,q⟩:=WC_ok w
   have q:zdc (h'.get h.next) fun lp=>lp.state≠.busy∧zqg lp.pending=false∧Q (lp.pending.getD .norm) t (h'.put h.next (.loop { lp with state:=.over })):=q
   unfold zdc at q
   split at q<;>try exact q.elim
   rename_i lp hg
   exact⟨k+1,_,_,_,by simp only[E,zaP,hf,hx,Bool.false_eq_true,if_false,e,hg];rw[if_neg q.1];simp only[q.2.1,Bool.false_eq_true,if_false],q.2.2⟩⟩
theorem WL_nil {T:Out→List V→H→Prop}:WL tbl [] t h T↔T .norm t h:=
 ⟨fun⟨k,r,e,q⟩=>by simp only[zaQ]at e;subst e;exact q,fun q=>⟨0,_,rfl,q⟩⟩
theorem zrk {o:O} {l:List O} {T:Out→List V→H→Prop}:WL tbl (o::l) t h T↔if zcp o.g t=true then WA tbl o.op t h (fun v h'=>WL tbl l (putD t o.dst v) h' T) (fun v h'=>T (.pan v) t h') else WL tbl l (putD t o.dst .undef) h T:=by
 cases hw:zcp o.g t with
 |false=>
  simp only[Bool.false_eq_true,if_false]
  exact⟨fun⟨k,r,e,q⟩=>⟨k,r,by simpa only[zaQ,hw] using e,q⟩,fun⟨k,r,e,q⟩=>⟨k,r,by simpa only[zaQ,hw] using e,q⟩⟩
 |true=>
  simp only[if_true]
  constructor
  ·rintro⟨k,r,e,q⟩
   simp only[zaQ,hw]at e
   cases hv:evA (zaS tbl (E tbl k)) o.op t h with
   |fail=>rw[hv]at e;subst e;exact q.elim
   |ok v h1=>rw[hv]at e;exact⟨k,_,hv,k,r,e,q⟩
   |pan v h1=>rw[hv]at e;subst e;exact⟨k,_,hv,q⟩
  ·rintro⟨k,r,e1,q⟩
   cases r with
   |fail=>exact q.elim
   |ok v h1=>
    obtain⟨m,r,e,q⟩:=q
    exact⟨max k m,r,by simp only[zaQ,hw,evA_up tbl (Nat.le_max_left k m) e1 (by simp)];exact ops_up tbl (Nat.le_max_right k m) e q.ne,q⟩
   |pan v h1=>exact⟨k,.pan v t h1,by simp only[zaQ,hw,e1],q⟩
theorem WD_nil {f:List Foot} {S:List V→H→List Foot→Prop}:WD tbl [] t h f S↔S t h f:=
 ⟨fun⟨k,t',h',f',e,q⟩=>by simp only[zbu,RD.ok.injEq]at e;obtain⟨rfl,rfl,rfl⟩:=e;exact q,fun q=>⟨0,_,_,_,rfl,q⟩⟩
theorem zmZ {o:O} {l:List O} {f:List Foot} {S:List V→H→List Foot→Prop}:WD tbl (o::l) t h f S↔if zcp o.g t=true then
 WA tbl o.op t ⟨h.next,h.mem,[]⟩ (fun v h'=>WD tbl l (putD t o.dst v) ⟨h'.next,h'.mem,zaD h.next h'.log++h.log⟩ (f++[⟨reads o.op t,zaD h.next h'.log⟩]) S) zeK
 else WD tbl l (putD t o.dst .undef) h (f++[⟨some [],[]⟩]) S:=by
 cases hw:zcp o.g t with
 |false=>
  simp only[Bool.false_eq_true,if_false]
  exact⟨fun⟨k,t',h',f',e,q⟩=>⟨k,t',h',f',by simpa only[zbu,hw] using e,q⟩,fun⟨k,t',h',f',e,q⟩=>⟨k,t',h',f',by simpa only[zbu,hw] using e,q⟩⟩
 |true=>
  simp only[if_true]
  constructor
  ·rintro⟨k,t',h',f',e,q⟩
   simp only[zbu,hw]at e
   split at e<;>try simp only[reduceCtorEq]at e
   rename_i v h1 e1
   exact⟨k,_,e1,k,t',h',f',e,q⟩
  ·rintro⟨k,r,e1,q⟩
   cases r with
   |fail=>exact q.elim
   |pan v h1=>exact q.elim
   |ok v h1=>
    obtain⟨m,t',h',f',e,q⟩:=q
    exact⟨max k m,t',h',f',by simp only[zbu,hw,evA_up tbl (Nat.le_max_left k m) e1 (by simp)];exact draw_up tbl (Nat.le_max_right k m) e,q⟩
def ROk (r:RO) (S:V→H→Prop):Prop:=match r with
 |.ok v h=>S v h
 |_=>False
theorem ROk_ok {v:V} {S:V→H→Prop}:ROk (.ok v h) S↔S v h:=Iff.rfl
def A.plain:A→Bool
 |.call ..|.panic ..=>false
 |_=>true
theorem zlJ {op:A} (hp:op.plain=true) (call call':V→List V→H→RO):evA call op t h=evA call' op t h:=by
 cases op<;>first|rfl|exact (Bool.false_ne_true hp).elim
def zaC:V→List V→H→RO:=fun _ _ _=>.fail
theorem zkV {op:A} (hp:op.plain=true) {call:V→List V→H→RO} {v:V} {h':H}:evA call op t h≠.pan v h':=by
 intro he
 rcases zkr he with⟨_,_,_,rfl,_⟩|⟨_,_,rfl,_⟩<;>exact (Bool.false_ne_true hp).elim
theorem WA_plain {op:A} (hp:op.plain=true):WA tbl op t h S Sp↔ROk (evA zaC op t h) S:=
 ⟨fun⟨k,r,e,q⟩=>by
   rw[zlJ hp _ (zaS tbl (E tbl k)),e]
   cases r with
   |ok v h'=>exact q
   |pan v h'=>exact absurd e (zkV hp)
   |fail=>exact q.elim,
  fun q=>by
   cases e:evA zaC op t h with
   |fail=>rw[e]at q;exact q.elim
   |pan v h'=>exact absurd e (zkV hp)
   |ok v h'=>rw[e]at q;exact⟨0,.ok v h',by rw[zlJ hp _ zaC,e],q⟩⟩
theorem WA_call {f:X} {args:List X}:WA tbl (.call f args) t h S Sp↔WX tbl (f.ev t) (args.map (X.ev t)) h S Sp:=Iff.rfl
def panV (v:V) (P:V→Prop):Prop:=match v with
 |.ifc ty u=>P (.ifc ty u)
 |_=>False
theorem WA_panic {x:X}:WA tbl (.panic x) t h S Sp↔panV (x.ev t) fun v=>Sp v h:=by
 unfold WA panV
 simp only[evA]
 constructor
 ·rintro⟨k,r,e,q⟩
  split at e
  ·rename_i ty u hx;rw[hx];subst e;exact q
  ·subst e;exact q.elim
 ·intro q
  split at q
  ·rename_i ty u hx;exact⟨0,_,rfl,by rw[hx];exact q⟩
  ·exact q.elim
def zdl (r:Option (List V)) (h:H) (S:V→H→Prop):Prop:=match r with
 |some l=>S (zgM l) h
 |none=>False
theorem zlF {fi:FI} {r:RO} (he:zdO fi t h=r) (hq:ROp r S Sp):zdl (zao t h fi.res) h S:=by
 unfold zdO at he
 split at he
 ·rename_i l hl;rw[hl];subst he;exact hq
 ·subst he;exact hq.elim
theorem zio {fi:FI} (q:zdl (zao t h fi.res) h S):∃r,zdO fi t h=r∧ROp r S Sp:=by
 unfold zdl at q
 split at q<;>try exact q.elim
 rename_i l hl
 exact⟨_,rfl,by unfold zdO;rw[hl];exact q⟩
theorem WC_fn {g:Nat} {first caps args:List V} {fi:FI} (ht:tbl g=some fi) (hr:fi.rcv=none) (hd:fi.dfr=none):WX tbl (.fn g first caps) args h S Sp ↔
 W tbl fi.body (pad (first++args++caps) fi.ntmps) h fun o t' h'=>match o with
  |.exit _=>False
  |.norm=>zdl (zao t' h' fi.res) h' S
  |.ret=>zdl (zao t' h' fi.res) h' S
  |.pan v=>Sp v h':=
 ⟨fun⟨k,r,e,q⟩=>by
   simp only[zaS,ht,hr,hd]at e
   cases e1:E tbl k fi.body (pad (first++args++caps) fi.ntmps) h with
   |fail=>rw[e1]at e;subst e;exact q.elim
   |ok o t' h1=>
    rw[e1]at e
    refine⟨k,o,t',h1,e1,?_⟩
    cases o with
    |exit _=>simp only at e;subst e;exact q.elim
    |norm=>exact zlF e q
    |ret=>exact zlF e q
    |pan v=>simp only at e;subst e;exact q,
  fun⟨k,o,t',h',e,q⟩=>by
   cases o with
   |exit _=>exact q.elim
   |norm=>obtain⟨r,e2,q2⟩:=zio (fi:=fi) (Sp:=Sp) q;exact⟨k,r,by simp only[zaS,ht,hr,hd,e];exact e2,q2⟩
   |ret=>obtain⟨r,e2,q2⟩:=zio (fi:=fi) (Sp:=Sp) q;exact⟨k,r,by simp only[zaS,ht,hr,hd,e];exact e2,q2⟩
   |pan v=>exact⟨k,.pan v h',by simp only[zaS,ht,hr,hd,e],q⟩⟩
def WD1 (tbl:Tb) (f v:V) (h:H) (S:H→Prop):Prop:=∃k h',zdR tbl (E tbl k) f v h=some h'∧S h'
theorem WD1_fn {g n:Nat} {caps:List V} {fi:FI} {v:V} {S:H→Prop} (ht:tbl g=some fi) (hr:fi.rcv=some n):WD1 tbl (.fn g [] caps) v h S ↔
 W tbl fi.body (upd (pad caps fi.ntmps) n v) h fun o _ h'=>match o with
  |.norm=>S h'
  |.ret=>S h'
  |_=>False:=
 ⟨fun⟨k,h',e,q⟩=>by
   simp only[zdR,ht,hr]at e
   cases e1:E tbl k fi.body (upd (pad caps fi.ntmps) n v) h with
   |fail=>rw[e1]at e;cases e
   |ok o t' h1=>
    rw[e1]at e
    refine⟨k,o,t',h1,e1,?_⟩
    cases o<;>simp only[Option.some.injEq,reduceCtorEq]at e<;>(subst e;exact q),
  fun⟨k,o,t',h',e,q⟩=>by
   cases o<;>first|exact q.elim|exact⟨k,h',by simp only[zdR,ht,hr,e],q⟩⟩
theorem WC_dfr {g:Nat} {first caps args:List V} {fi:FI} {pre:C} {x:X} (ht:tbl g=some fi) (hr:fi.rcv=none) (hd:fi.dfr=some (pre,x))
 (hw:W tbl pre (pad (first++args++caps) fi.ntmps) h fun o t0 h0=>o=.norm∧W tbl fi.body t0 h0 fun o t' h1=>match o with
   |.exit _=>False
   |.norm=>WD1 tbl (x.ev t0) .in0 h1 fun h2=>zdl (zao t' h2 fi.res) h2 S
   |.ret=>WD1 tbl (x.ev t0) .in0 h1 fun h2=>zdl (zao t' h2 fi.res) h2 S
   |.pan v=>WD1 tbl (x.ev t0) v h1 fun h2=>zdl (zao t' h2 fi.res) h2 S):WX tbl (.fn g first caps) args h S Sp:=by
 obtain⟨k,o,t0,h0,e0,rfl,m,o,t',h1,e1,q⟩:=hw
 have main:∀v,WD1 tbl (x.ev t0) v h1 (fun h2=>zdl (zao t' h2 fi.res) h2 S)→(o=.norm∧v=.in0∨o=.ret∧v=.in0∨o=.pan v)→WX tbl (.fn g first caps) args h S Sp:=by
  rintro v ⟨j,h2,e2,q⟩ ho
  obtain⟨r,e3,q3⟩:=zio (fi:=fi) (Sp:=Sp) q
  refine⟨max k (max m j),r,?_,q3⟩
  have e0':=E_up tbl (Nat.le_max_left k (max m j)) e0
  have e1':=E_up tbl (Nat.le_trans (Nat.le_max_left m j) (Nat.le_max_right k (max m j))) e1
  have e2':zdR tbl (E tbl (max k (max m j))) (x.ev t0) v h1=some h2:=by
   rcases zfn (tbl:=tbl) (E_le tbl (Nat.le_trans (Nat.le_max_right m j) (Nat.le_max_right k (max m j)))) (x.ev t0) v h1 with e|e
   ·rw[e]at e2;cases e2
   ·rw[← e];exact e2
  simp only[zaS,ht,hr,hd,e0',e1']
  rcases ho with⟨rfl,rfl⟩|⟨rfl,rfl⟩|rfl<;>(simp only[e2'];exact e3)
 cases o with
 |exit _=>exact q.elim
 |norm=>exact main _ q (.inl ⟨rfl,rfl⟩)
 |ret=>exact main _ q (.inr (.inl ⟨rfl,rfl⟩))
 |pan v=>exact main _ q (.inr (.inr rfl))
theorem WC_yld {l:Nat} {args:List V} {lp:Loop} (hg:h.get l=some (.loop lp)) (ha:args.length=lp.params.length):WX tbl (.yld l) args h S Sp ↔
 W tbl lp.asg (zdH lp.tmps lp.params args) h fun o t h1=>match o with
  |.norm=>zdc (h1.get l) fun lp1=>lp1.state=.ready∧W tbl lp.body t (h1.put l (.loop { lp1 with state:=.busy })) fun o _ h2=>zdc (h2.get l) fun lp2=>lp2.state=.busy∧match o with
   |.norm=>S (.b true) (h2.put l (.loop { lp2 with state:=.ready,pending:=none }))
   |.exit i=>S (.b false) (h2.put l (.loop { lp2 with state:=.done,pending:=some (.exit i) }))
   |.ret=>S (.b false) (h2.put l (.loop { lp2 with state:=.done,pending:=some .ret }))
   |.pan _=>False
  |_=>False:=
 ⟨fun⟨k,r,e,q⟩=>by
   have hbl:Nat.beq args.length lp.params.length=true:=by rw[Nat.beq_eq];exact ha
   simp only[zaS,hg,hbl,if_true]at e
   cases e1:E tbl k lp.asg (zdH lp.tmps lp.params args) h with
   |fail=>rw[e1]at e;subst e;exact q.elim
   |ok o1 t1 h1=>
    rw[e1]at e
    refine⟨k,_,_,_,e1,?_⟩
    cases o1<;>simp only at e ⊢ <;> first|(subst e;exact q.elim)|skip
    unfold zdc
    split at e
    ·rename_i lp1 g1
     rw[g1]
     simp only
     split at e
     ·rename_i hs1
      refine⟨hs1,?_⟩
      cases e2:E tbl k lp.body t1 (h1.put l (.loop { lp1 with state:=.busy })) with
      |fail=>rw[e2]at e;subst e;exact q.elim
      |ok o2 t2 h2=>
       rw[e2]at e
       refine⟨k,_,_,_,e2,?_⟩
       simp only at e ⊢
       split at e
       ·rename_i lp2 g2
        rw[g2]
        simp only
        split at e
        ·rename_i hs2
         refine⟨hs2,?_⟩
         cases o2<;>simp only at e ⊢ <;> (subst e;exact q)
        ·subst e;exact q.elim
       ·subst e;exact q.elim
     ·subst e;exact q.elim
    ·subst e;exact q.elim,
  fun⟨k,o,t1,h1,e1,q⟩=>by
   cases o<;>try exact q.elim
   simp only at q
   unfold zdc at q
   split at q<;>try exact q.elim
   rename_i lp1 g1
   obtain⟨hs1,m,o2,t2,h2,e2,q⟩:=q
   split at q<;>try exact q.elim
   rename_i lp2 g2
   obtain⟨hs2,q⟩:=q
   have e1':=E_up tbl (Nat.le_max_left k m) e1
   have e2':=E_up tbl (Nat.le_max_right k m) e2
   cases o2 with
   |pan v=>exact q.elim
   |norm=>exact⟨max k m,.ok _ _,by simp only[zaS,hg];rw[if_pos (by rw[Nat.beq_eq];exact ha)];simp only[e1',g1,hs1,if_true,e2',g2,hs2],q⟩
   |exit i=>exact⟨max k m,.ok _ _,by simp only[zaS,hg];rw[if_pos (by rw[Nat.beq_eq];exact ha)];simp only[e1',g1,hs1,if_true,e2',g2,hs2],q⟩
   |ret=>exact⟨max k m,.ok _ _,by simp only[zaS,hg];rw[if_pos (by rw[Nat.beq_eq];exact ha)];simp only[e1',g1,hs1,if_true,e2',g2,hs2],q⟩⟩
end
end Go.Air
namespace Go.Air
structure Ext (h h':H):Prop where
 nx:h.next≤h'.next
 same:∀b,b<h.next→h'.get b=h.get b
 log:∃l,h'.log=l++h.log∧∀b∈l,h.next≤b
theorem Ext.refl (h:H):Ext h h:=⟨Nat.le_refl _,fun _ _=>rfl,[],rfl,fun _ hb=>by simp at hb⟩
theorem Ext.trans {h h1 h2:H} (a:Ext h h1) (b:Ext h1 h2):Ext h h2:=by
 refine⟨Nat.le_trans a.nx b.nx,fun x hx=>(b.same x (Nat.lt_of_lt_of_le hx a.nx)).trans (a.same x hx),?_⟩
 obtain⟨l,e,hl⟩:=a.log
 obtain⟨m,e',hm⟩:=b.log
 refine⟨m++l,by rw[e',e,List.append_assoc],fun x hx => ?_⟩
 rcases List.mem_append.1 hx with hx|hx
 ·exact Nat.le_trans a.nx (hm x hx)
 ·exact hl x hx
theorem Ext.new {h h1:H} (a:Ext h h1) (x:Blk):Ext h (h1.new x):=
 ⟨Nat.le_succ_of_le a.nx,fun b hb=>by rw[H.get_new,if_neg (by have:=a.nx;omega)];exact a.same b hb,a.log⟩
theorem Ext.put {h h1:H} (a:Ext h h1) {b:Nat} (hb:h.next≤b) (x:Blk):Ext h (h1.put b x):=by
 refine⟨a.nx,fun c hc=>by rw[H.get_put,if_neg (by omega)];exact a.same c hc,?_⟩
 obtain⟨l,e,hl⟩:=a.log
 exact⟨b::l,by simp[e],fun c hc=>by rcases List.mem_cons.1 hc with rfl|hc;exact hb;exact hl c hc⟩
theorem Ext.kill {h h1:H} (a:Ext h h1) {b:Nat} (hb:h.next≤b):Ext h (h1.kill b):=by
 refine⟨a.nx,fun c hc=>by rw[H.get_kill,if_neg (by omega)];exact a.same c hc,?_⟩
 obtain⟨l,e,hl⟩:=a.log
 exact⟨b::l,by simp[e],fun c hc=>by rcases List.mem_cons.1 hc with rfl|hc;exact hb;exact hl c hc⟩
def H.bare (h:H):H:=⟨h.next,h.mem,[]⟩
def H.back (h h':H):H:=⟨h'.next,h'.mem,zaD h.next h'.log++h.log⟩
theorem H.get_bare (h:H) (b:Nat):h.bare.get b=h.get b:=rfl
theorem H.next_bare (h:H):h.bare.next=h.next:=rfl
theorem zea {n:Nat}:∀{l:List Nat} {b:Nat},b∈zaD n l→b<n∧b∈l
 |[],b,hb=>by simp[zaD]at hb
 |x::l,b,hb=>by
  simp only[zaD]at hb
  split at hb
  ·rename_i hx
   rcases List.mem_cons.1 hb with rfl|hb
   ·exact⟨by simpa [Nat.blt_eq] using hx,by simp⟩
   ·have:=zea hb
    exact⟨this.1,by simp[this.2]⟩
  ·have:=zea hb
   exact⟨this.1,by simp[this.2]⟩
theorem zhz {n:Nat}:∀{l:List Nat},(∀b∈l,n≤b)→zaD n l=[]
 |[],_=>rfl
 |x::l,h=>by
  have hx:Nat.blt x n=false:=by rw[Bool.eq_false_iff,ne_eq,Nat.blt_eq];exact Nat.not_lt.2 (h x (by simp))
  simp only[zaD,hx,Bool.false_eq_true,if_false]
  exact zhz fun b hb=>h b (by simp[hb])
theorem Ext.old {h h':H} (a:Ext h.bare h'):zaD h.next h'.log=[]:=by
 obtain⟨l,e,hl⟩:=a.log
 have:h'.log=l:=by rw[e];simp[H.bare]
 rw[this]
 exact zhz hl
theorem Ext.back {h h':H} (a:Ext h.bare h'):Ext h (h.back h'):=
 ⟨a.nx,a.same,[],by simp[H.back,a.old],fun _ hb=>by simp at hb⟩
theorem H.back_new (h:H) (x:Blk):h.back (h.bare.new x)=h.new x:=by
 simp[H.back,H.bare,H.new,zaD]
theorem H.back_bare (h:H):h.back h.bare=h:=by
 simp[H.back,H.bare,zaD]
theorem zkv:∀{cs:List (Option V)} {o n:Nat} {l:List V},cutO cs o n=some l→∀i,i<n→nthO cs (o+i)=l[i]?
 |[],0,0,_,_,i,hi=>by omega
 |_::_,0,0,_,_,i,hi=>by omega
 |[],0,_+1,_,h,i,hi=>by simp[cutO]at h
 |[],_+1,_,_,h,i,hi=>by simp[cutO]at h
 |x::cs,0,n+1,l,h,i,hi=>by
  simp only[cutO]at h
  split at h<;>try simp at h
  rename_i v
  obtain⟨l',h1,rfl⟩:=h
  cases i with
  |zero=>simp[nthO]
  |succ i=>
   have:=zkv h1 i (by omega)
   simp only[Nat.zero_add]at this ⊢
   simpa [nthO] using this
 |x::cs,o+1,n,l,h,i,hi=>by
  simp only[cutO]at h
  have:=zkv h i hi
  rw[show o+1+i=(o+i)+1 by omega]
  simpa [nthO] using this
theorem zhX:∀{cs:List (Option V)} {o n:Nat} {l:List V},cutO cs o n=some l→∀a m,a+m≤n→cutO cs (o+a) m=some ((l.drop a).take m)
 |[],0,0,l,h,a,m,ha=>by
  simp[cutO]at h;subst h
  obtain rfl:a=0:=by omega
  obtain rfl:m=0:=by omega
  simp[cutO]
 |y::cs,0,0,l,h,a,m,ha=>by
  simp[cutO]at h;subst h
  obtain rfl:a=0:=by omega
  obtain rfl:m=0:=by omega
  simp[cutO]
 |[],0,_+1,_,h,a,m,ha=>by simp[cutO]at h
 |[],_+1,_,_,h,a,m,ha=>by simp[cutO]at h
 |x::cs,0,n+1,l,h,a,m,ha=>by
  simp only[cutO]at h
  split at h<;>try simp at h
  rename_i v
  obtain⟨l',h1,rfl⟩:=h
  cases a with
  |zero=>
   cases m with
   |zero=>simp[cutO]
   |succ m=>
    have:=zhX h1 0 m (by omega)
    simp only[Nat.add_zero,List.drop_zero]at this ⊢
    simp[cutO,this]
  |succ a=>
   have:=zhX h1 a m (by omega)
   simp only[Nat.zero_add]at this ⊢
   simpa [cutO] using this
 |x::cs,o+1,n,l,h,a,m,ha=>by
  simp only[cutO]at h
  have:=zhX h a m ha
  rw[show o+1+a=(o+a)+1 by omega]
  simpa [cutO] using this
theorem zgK {bl:Blk} {o n:Nat} {l:List V} (h:bl.rd o n=some l):l.length=n:=by
 cases bl with
 |cells cs=>
  obtain⟨h1,rfl⟩:=zbh.1 h
  simp;omega
 |ro cs=>exact (ziJ h).1
 |map _=>cases h
 |loop _=>cases h
theorem zpx {bl:Blk} {o n:Nat} {l:List V} (h:bl.rd o n=some l) {i:Nat} (hi:i<n):bl.rd1 (o+i)=l[i]? := by
 cases bl with
 |cells cs=>
  obtain⟨h1,rfl⟩:=zbh.1 h
  simp only[Blk.rd1,zdB]
  rw[List.getElem?_take_of_lt hi,List.getElem?_drop]
 |ro cs=>exact zkv h i hi
 |map _=>cases h
 |loop _=>cases h
theorem znk {bl:Blk} {o n:Nat} {l:List V} (h:bl.rd o n=some l) {a m:Nat} (ha:a+m≤n):bl.rd (o+a) m=some ((l.drop a).take m):=by
 cases bl with
 |cells cs=>
  obtain⟨h1,rfl⟩:=zbh.1 h
  refine zbh.2 ⟨by omega,?_⟩
  rw[List.drop_take,List.drop_drop,List.take_take]
  congr 1;omega
 |ro cs=>exact zhX h a m ha
 |map _=>cases h
 |loop _=>cases h
def lenV:V→Option Nat
 |.sn=>some 0
 |.se _=>some 0
 |.sl _ _ n _ _=>some n
 |_=>none
def blkV:V→Nat
 |.sl b _ _ _ _=>b
 |_=>0
def offV:V→Nat
 |.sl _ o _ _ _=>o
 |_=>0
def ixV (esz:Nat) (v i:V):Option V:=match v,zbg i with
 |.sl b o len _ _,some n=>if n<len then some (.p b (o+n*esz)) else none
 |_,_=>none
def ldV (h:H):V→Option V
 |.p b o=>(h.get b).bind fun bl=>bl.rd1 o
 |_=>none
def ldnV (h:H) (n:Nat):V→Option V
 |.p b o=>(h.get b).bind fun bl=>(bl.rd o n).map .agg
 |_=>none
section
variable {t:List V} {h:H} {x y ix:X}
theorem ev_lenL:evA zaC (.lenL x) t h=RO.ofV h ((lenV (x.ev t)).map fun (n:Nat)=>V.i .i64 (n:Int)):=by
 simp only[evA]
 cases x.ev t<;>rfl
theorem ev_ixS {esz:Nat}:evA zaC (.ixS esz x ix) t h=RO.ofV h (ixV esz (x.ev t) (ix.ev t)):=by
 simp only[evA,ixV]
 cases x.ev t<;>first|(cases zbg (ix.ev t)<;>rfl)|skip
 cases zbg (ix.ev t) with
 |none=>rfl
 |some n=>
  simp only[Nat.blt_eq]
  split<;>rfl
theorem ev_ld:evA zaC (.ld x) t h=RO.ofV h (ldV h (x.ev t)):=by
 simp only[evA]
 cases x.ev t<;>try rfl
 simp only[ldV]
 cases h.get _<;>rfl
theorem ev_ldn {n:Nat}:evA zaC (.ldn n x) t h=RO.ofV h (ldnV h n (x.ev t)):=by
 simp only[evA]
 cases x.ev t<;>try rfl
 simp only[ldnV]
 cases h.get _ with
 |none=>rfl
 |some bl=>
  simp only[Option.bind_some]
  cases bl.rd _ n<;>rfl
end
def Sl (esz:Nat) (h:H) (v:V) (n:Nat) (cs:List V):Prop:=
 (n=0∧cs=[]∧(v=.sn∨∃a,v=.se a))∨∃b off cap g bl,v=.sl b off n cap g∧b<h.next∧h.get b=some bl∧bl.rd off (n*esz)=some cs
section
variable {esz n:Nat} {h h':H} {v:V} {cs:List V}
theorem Sl.len (s:Sl esz h v n cs):lenV v=some n:=by
 rcases s with⟨rfl,_,rfl|⟨a,rfl⟩⟩|⟨b,off,cap,g,bl,rfl,_⟩<;>rfl
theorem Sl.slen (s:Sl esz h v n cs):zaT v=some n:=by
 rcases s with⟨rfl,_,rfl|⟨a,rfl⟩⟩|⟨b,off,cap,g,bl,rfl,_⟩<;>rfl
theorem Sl.length (s:Sl esz h v n cs):cs.length=n*esz:=by
 rcases s with⟨rfl,rfl,_⟩|⟨b,off,cap,g,bl,rfl,_,_,hr⟩
 ·simp
 ·exact zgK hr
theorem Sl.ix (s:Sl esz h v n cs) {i:Nat} (hi:i<n):ixV esz v (.i .i64 (i:Int))=some (.p (blkV v) (offV v+i*esz)):=by
 rcases s with⟨rfl,_,_⟩|⟨b,off,cap,g,bl,rfl,_⟩
 ·omega
 ·simp only[ixV]
  rw[show zbg (.i .i64 (i:Int))=some i from rfl]
  simp[hi,blkV,offV]
theorem Sl.lt (s:Sl esz h v n cs) (hn:0<n):blkV v<h.next:=by
 rcases s with⟨rfl,_,_⟩|⟨b,off,cap,g,bl,rfl,hb,_⟩
 ·omega
 ·exact hb
theorem mul_lt {i n k esz:Nat} (hi:i<n) (hk:k<esz):i*esz+k<n*esz:=by
 have:(i+1)*esz≤n*esz:=Nat.mul_le_mul_right _ hi
 rw[Nat.add_mul]at this;omega
theorem Sl.ld (s:Sl esz h v n cs) {i k:Nat} (hi:i<n) (hk:k<esz):ldV h (.p (blkV v) (offV v+i*esz+k))=cs[i*esz+k]? := by
 rcases s with⟨rfl,_,_⟩|⟨b,off,cap,g,bl,rfl,_,hg,hr⟩
 ·omega
 ·simp only[ldV,blkV,offV,hg,Option.bind_some]
  rw[Nat.add_assoc,zpx hr (mul_lt hi hk)]
theorem Sl.ld1 (s:Sl 1 h v n cs) {i:Nat} (hi:i<n):ldV h (.p (blkV v) (offV v+i*1))=cs[i]? := by
 have:=s.ld (k:=0) hi (by omega)
 simpa using this
theorem Sl.ldn (s:Sl esz h v n cs) {i:Nat} (hi:i<n):ldnV h esz (.p (blkV v) (offV v+i*esz))=some (.agg ((cs.drop (i*esz)).take esz)):=by
 rcases s with⟨rfl,_,_⟩|⟨b,off,cap,g,bl,rfl,_,hg,hr⟩
 ·omega
 ·simp only[ldnV,blkV,offV,hg,Option.bind_some]
  rw[znk hr (by have:(i+1)*esz≤n*esz:=Nat.mul_le_mul_right _ hi
                rw[Nat.add_mul]at this;omega)]
  rfl
theorem Sl.src (s:Sl esz h v n cs):zat esz n h v=some cs:=by
 rcases s with⟨rfl,rfl,rfl|⟨a,rfl⟩⟩|⟨b,off,cap,g,bl,rfl,_,hg,hr⟩
 ·rfl
 ·rfl
 ·simp only[zat,hg];exact hr
theorem Sl.ext (s:Sl esz h v n cs) (e:Ext h h'):Sl esz h' v n cs:=by
 rcases s with s|⟨b,off,cap,g,bl,hv,hb,hg,hr⟩
 ·exact .inl s
 ·exact .inr ⟨b,off,cap,g,bl,hv,Nat.lt_of_lt_of_le hb e.nx,(e.same b hb).trans hg,hr⟩
theorem Sl.bare (s:Sl esz h v n cs):Sl esz h.bare v n cs:=s
theorem Sl.keep (s:Sl esz h v n cs) (hn:h.next≤h'.next) (hk:blkV v<h.next→h'.get (blkV v)=h.get (blkV v)):Sl esz h' v n cs:=by
 rcases s with s|⟨b,off,cap,g,bl,rfl,hb,hg,hr⟩
 ·exact .inl s
 ·exact .inr ⟨b,off,cap,g,bl,rfl,Nat.lt_of_lt_of_le hb hn,(hk hb).trans hg,hr⟩
def Arg (esz:Nat) (h:H) (v:V) (n:Nat) (cs:List V):Prop:=
 (n=0∧cs=[]∧(v=.sn∨∃a,v=.se a))∨∃b off cap bl,v=.sl b off n cap none∧n≤cap∧b<h.next∧h.get b=some bl∧bl.rd off (n*esz)=some cs
theorem Arg.sl (s:Arg esz h v n cs):Sl esz h v n cs:=by
 rcases s with s|⟨b,off,cap,bl,h1,_,h2⟩
 ·exact .inl s
 ·exact .inr ⟨b,off,cap,none,bl,h1,h2⟩
theorem Arg.ext (s:Arg esz h v n cs) (e:Ext h h'):Arg esz h' v n cs:=by
 rcases s with s|⟨b,off,cap,bl,hv,hc,hb,hg,hr⟩
 ·exact .inl s
 ·exact .inr ⟨b,off,cap,bl,hv,hc,Nat.lt_of_lt_of_le hb e.nx,(e.same b hb).trans hg,hr⟩
def slHi (esz:Nat) (v i:V):Option V:=zck esz [i] none (some (.t 0)) v
def slLo (esz:Nat) (v i:V):Option V:=zck esz [i] (some (.t 0)) none v
def slLH (esz:Nat) (v i j:V):Option V:=zck esz [i,j] (some (.t 0)) (some (.t 1)) v
theorem zhc {t:List V} {len cap b:Nat} {x:X} (hb:zbg (x.ev t)=some b) (hc:b≤cap):zbr t len cap none (some x)=some (0,b):=by
 have h1:Nat.ble b cap=true:=by rw[Nat.ble_eq];exact hc
 have h2:Nat.ble 0 b=true:=by rw[Nat.ble_eq];omega
 simp only[zbr,hb,h1,h2,if_true]
theorem ziS {t:List V} {len cap a:Nat} {x:X} (ha:zbg (x.ev t)=some a) (hl:len≤cap) (hc:a≤len):zbr t len cap (some x) none=some (a,len):=by
 have h1:Nat.ble len cap=true:=by rw[Nat.ble_eq];exact hl
 have h2:Nat.ble a len=true:=by rw[Nat.ble_eq];exact hc
 simp only[zbr,ha,h1,h2,if_true]
theorem ziT {t:List V} {len cap a b:Nat} {x y:X} (ha:zbg (x.ev t)=some a) (hb:zbg (y.ev t)=some b) (hl:b≤cap) (hc:a≤b):zbr t len cap (some x) (some y)=some (a,b):=by
 have h1:Nat.ble b cap=true:=by rw[Nat.ble_eq];exact hl
 have h2:Nat.ble a b=true:=by rw[Nat.ble_eq];exact hc
 simp only[zbr,ha,hb,h1,h2,if_true]
theorem Arg.part (s:Arg esz h v n cs) {a b:Nat} (hab:a≤b) (hb:b≤n) {lo hi:Option X} {t:List V} (hbd:∀cap,n≤cap→zbr t n cap lo hi=some (a,b)) :
 ∃u,zck esz t lo hi v=some u∧Arg esz h u (b-a) ((cs.drop (a*esz)).take ((b-a)*esz)):=by
 rcases s with⟨rfl,rfl,hv⟩|⟨b',off,cap,bl,rfl,hc,hb',hg',hr⟩
 ·obtain rfl:b=0:=by omega
  obtain rfl:a=0:=by omega
  have:=hbd 0 (Nat.le_refl _)
  rcases hv with rfl|⟨ad,rfl⟩
  ·exact⟨.sn,by simp only[zck,this],.inl ⟨rfl,by simp,.inl rfl⟩⟩
  ·exact⟨.se ad,by simp only[zck,this],.inl ⟨rfl,by simp,.inr ⟨ad,rfl⟩⟩⟩
 ·have key:bl.rd (off+a*esz) ((b-a)*esz)=some ((cs.drop (a*esz)).take ((b-a)*esz)):=znk hr (by
   have:(a+(b-a))*esz≤n*esz:=Nat.mul_le_mul_right _ (by omega)
   rw[Nat.add_mul]at this;exact this)
  simp only[zck,hbd cap hc]
  refine⟨_,rfl,.inr ⟨b',_,cap-a,bl,rfl,by omega,hb',hg',?_⟩⟩
  by_cases hac:a=cap
  ·have h1:Nat.beq a cap=true:=by rw[Nat.beq_eq];exact hac
   have h0:b-a=0:=by omega
   rw[h1,if_pos rfl,h0]
   have:=znk hr (a:=0) (m:=0) (by omega)
   simpa using this
  ·have h1:Nat.beq a cap=false:=by rw[Bool.eq_false_iff,ne_eq,Nat.beq_eq];exact hac
   rw[h1,if_neg (by simp)]
   exact key
theorem Arg.hi (s:Arg esz h v n cs) {b:Nat} (hb:b≤n):∃u,slHi esz v (.i .i64 (b:Int))=some u∧Arg esz h u b (cs.take (b*esz)):=by
 have:=s.part (a:=0) (t:=[.i .i64 (b:Int)]) (lo:=none) (hi:=some (.t 0)) (Nat.zero_le b) hb (fun cap hc=>zhc rfl (by omega))
 simpa [slHi] using this
theorem Arg.lo (s:Arg esz h v n cs) {a:Nat} (ha:a≤n):∃u,slLo esz v (.i .i64 (a:Int))=some u∧Arg esz h u (n-a) (cs.drop (a*esz)):=by
 have:=s.part (b:=n) (t:=[.i .i64 (a:Int)]) (lo:=some (.t 0)) (hi:=none) ha (Nat.le_refl n) (fun cap hc=>ziS rfl hc ha)
 obtain⟨u,h1,h2⟩:=this
 refine⟨u,h1,?_⟩
 rw[List.take_of_length_le]at h2
 ·exact h2
 ·have:=s.sl.length
  rw[List.length_drop,this,← Nat.sub_mul]
  exact Nat.le_refl _
theorem Arg.lh (s:Arg esz h v n cs) {a b:Nat} (hab:a≤b) (hb:b≤n):∃u,slLH esz v (.i .i64 (a:Int)) (.i .i64 (b:Int))=some u∧Arg esz h u (b-a) ((cs.drop (a*esz)).take ((b-a)*esz)):=
 s.part (t:=[.i .i64 (a:Int),.i .i64 (b:Int)]) (lo:=some (.t 0)) (hi:=some (.t 1)) hab hb (fun cap hc=>ziT rfl rfl (by omega) hab)
end
def Own (h0:H) (esz:Nat) (h:H) (v:V) (n:Nat) (cs:List V):Prop:=
 cs.length=n*esz∧((n=0∧v=.sn)∨∃b g,v=.sl b 0 n n g∧(g=none∨g=some esz)∧h0.next≤b∧b<h.next∧h.get b=some (.cells cs))
section
variable {esz bytes n m:Nat} {h0 h h':H} {v x:V} {cs new:List V}
theorem Own.nil:Own h0 esz h .sn 0 []:=⟨by simp,.inl ⟨rfl,rfl⟩⟩
theorem Own.len (o:Own h0 esz h v n cs):cs.length=n*esz:=o.1
theorem Own.sl (o:Own h0 esz h v n cs):Sl esz h v n cs:=by
 obtain⟨hl,⟨rfl,rfl⟩|⟨b,g,rfl,_,_,hb,hg⟩⟩:=o
 ·exact .inl ⟨rfl,List.eq_nil_of_length_eq_zero (by rw[hl];simp),.inl rfl⟩
 ·refine .inr ⟨b,0,n,g,_,rfl,hb,hg,?_⟩
  exact zbh.2 ⟨by omega,by rw[← hl];simp⟩
theorem Own.ge (o:Own h0 esz h v n cs) (hv:v≠.sn):h0.next≤blkV v:=by
 obtain⟨hl,⟨rfl,rfl⟩|⟨b,g,rfl,_,hb,_⟩⟩:=o
 ·exact absurd rfl hv
 ·exact hb
theorem Own.keep (o:Own h0 esz h v n cs) (hn:h.next≤h'.next) (hk:blkV v<h.next→h'.get (blkV v)=h.get (blkV v)):Own h0 esz h' v n cs:=by
 obtain⟨hl,o|⟨b,g,rfl,hv,h1,h2,hg⟩⟩:=o
 ·exact⟨hl,.inl o⟩
 ·exact⟨hl,.inr ⟨b,g,rfl,hv,h1,Nat.lt_of_lt_of_le h2 hn,(hk h2).trans hg⟩⟩
theorem Own.ext (o:Own h0 esz h v n cs) (e:Ext h h'):Own h0 esz h' v n cs:=o.keep e.nx (fun hb=>e.same _ hb)
theorem Own.mono {h1:H} (o:Own h1 esz h v n cs) (hn:h0.next≤h1.next):Own h0 esz h v n cs:=by
 obtain⟨hl,o|⟨b,g,rfl,hv,q1,q2⟩⟩:=o
 ·exact⟨hl,.inl o⟩
 ·exact⟨hl,.inr ⟨b,g,rfl,hv,Nat.le_trans hn q1,q2⟩⟩
theorem Own.lit (e:Ext h0 h) (cs:List V) (n:Nat) (hn:cs.length=n*esz):Own h0 esz (h.new (.cells cs)) (.sl h.next 0 n n none) n cs∧Ext h0 (h.new (.cells cs)):=
 ⟨⟨hn,.inr ⟨h.next,none,rfl,.inl rfl,e.nx,by simp,by rw[H.get_new,if_pos rfl]⟩⟩,e.new _⟩
theorem Own.app (o:Own h0 esz h v n cs) (e:Ext h0 h) (s:Sl esz h x m new) (hone:∀u∈new,u.oneCell=true) (hb:0<bytes) (hz:0<esz) (hm:(2*(n+m)+200)*bytes≤281474976710656) :
 ∃v' h',zaX esz bytes h v x=.ok v' h'∧Ext h0 h'∧Own h0 esz h' v' (n+m) (cs++new)∧h.next≤h'.next∧(∀b,b<h.next→(v=.sn∨b≠blkV v)→h'.get b=h.get b)∧(0<m→blkV v'=h.next):=by
 have hall:new.all V.oneCell=true:=List.all_eq_true.2 hone
 have hlim:(Nat.ble ((2*m+200)*bytes) 281474976710656&&Nat.blt 0 bytes&&Nat.blt 0 esz)=true:=by
  have:(2*m+200)*bytes≤(2*(n+m)+200)*bytes:=Nat.mul_le_mul_right _ (by omega)
  simp only[Bool.and_eq_true,Nat.ble_eq,Nat.blt_eq]
  exact⟨⟨by omega,hb⟩,hz⟩
 have hnl:=s.length
 unfold zaX
 simp only[s.slen,s.src,hlim,if_true]
 obtain⟨hl,⟨rfl,rfl⟩|⟨b,g,rfl,hgg,h1,h2,hg⟩⟩:=o
 ·obtain rfl:cs=[]:=List.eq_nil_of_length_eq_zero (by rw[hl];simp)
  by_cases hm0:m=0
  ·subst hm0
   obtain rfl:new=[]:=List.eq_nil_of_length_eq_zero (by rw[hnl];simp)
   exact⟨.sn,h,rfl,e,.nil,Nat.le_refl _,fun _ _ _=>rfl,fun hm=>by omega⟩
  ·have:Nat.beq m 0=false:=by rw[Bool.eq_false_iff,ne_eq,Nat.beq_eq];exact hm0
   simp only[this,Bool.false_eq_true,if_false]
   refine⟨_,_,rfl,e.new _,⟨by simp[hnl],.inr ⟨h.next,some esz,by simp,.inr rfl,e.nx,by simp,by rw[H.get_new,if_pos rfl];simp⟩⟩,by simp,fun c hc _=>by rw[H.get_new,if_neg (by omega)],fun _=>rfl⟩
 ·by_cases hm0:m=0
  ·subst hm0
   obtain rfl:new=[]:=List.eq_nil_of_length_eq_zero (by rw[hnl];simp)
   have h3:Nat.ble (n+0) n=true:=by rw[Nat.ble_eq];omega
   have h4:lay cs (n*esz) []=some cs:=zeu.2 ⟨by simp;omega,by simp⟩
   have hs:storeAt h b (0+n*esz) []=some (h.put b (.cells cs)):=by
    simp only[storeAt,hg,Nat.zero_add,h4,List.all_nil,if_true]
   simp only[h3,if_true,hs]
   refine⟨_,_,rfl,e.put h1 _,⟨by simpa using hl,.inr ⟨b,g,by simp,hgg,h1,h2,by rw[H.get_put,if_pos rfl];simp⟩⟩,by simp,fun c _ hc=>by rw[H.get_put,if_neg (by simpa [blkV] using hc)],fun hm=>by omega⟩
  ·have h3:Nat.ble (n+m) n=false:=by rw[Bool.eq_false_iff,ne_eq,Nat.ble_eq];omega
   have h4:Nat.ble ((2*(n+m)+200)*bytes) 281474976710656=true:=by rw[Nat.ble_eq];exact hm
   have h5:cut cs 0 (n*esz)=some cs:=zbh.2 ⟨by omega,by rw[← hl];simp⟩
   have h6:Nat.beq cs.length (n*esz)=true:=by rw[Nat.beq_eq];exact hl
   have h7:Nat.beq esz esz=true:=by simp
   have h8:Nat.beq 0 0=true:=rfl
   rcases hgg with rfl|rfl
   ·simp only[h3,Bool.false_eq_true,if_false,h4,if_true,hg,Blk.rd,h5]
    refine⟨_,_,rfl,e.new _,⟨by simp[hl,hnl,Nat.add_mul],.inr ⟨h.next,some esz,by simp,.inr rfl,e.nx,by simp,by rw[H.get_new,if_pos rfl]⟩⟩,by simp,fun c hc hcb => ?_,fun _=>rfl⟩
    rw[H.get_new,if_neg (by omega)]
   ·simp only[h3,Bool.false_eq_true,if_false,h4,if_true,hg,h5,h6,h7,h8,hall,Bool.and_self]
    refine⟨_,_,rfl,(e.kill h1).new _,⟨by simp[hl,hnl,Nat.add_mul],.inr ⟨h.next,some esz,by simp,.inr rfl,e.nx,by simp,by rw[H.get_kn,if_pos rfl]⟩⟩,by simp,fun c hc hcb => ?_,fun _=>rfl⟩
    rw[H.get_kn,if_neg (by omega),if_neg (by simpa [blkV] using hcb)]
theorem zkL {b o:Nat} {vs:List V} {h h':H} (hs:storeAt h b o vs=some h'):∃l,h'.log=l++h.log∧storeAt h.bare b o vs=some ⟨h'.next,h'.mem,l⟩:=by
 unfold storeAt at hs ⊢
 rw[H.get_bare]
 split at hs<;>try simp only[reduceCtorEq]at hs
 split at hs<;>try simp only[reduceCtorEq]at hs
 split at hs<;>simp only[Option.some.injEq,reduceCtorEq]at hs
 rename_i q1 _ cs' q2 q3
 subst hs
 exact⟨[b],rfl,by simp only[q2,q3,if_true];rfl⟩
theorem zmk {h:H} {esz n:Nat} {x:V}:zat esz n h.bare x=zat esz n h x:=by cases x<;>rfl
theorem zmU {esz bytes:Nat} {h h':H} {v x v':V} (ha:zaX esz bytes h v x=.ok v' h'):∃l,h'.log=l++h.log∧zaX esz bytes h.bare v x=.ok v' ⟨h'.next,h'.mem,l⟩:=by
 unfold zaX at ha ⊢
 cases q1:zaT x with
 |none=>simp only[q1,reduceCtorEq]at ha
 |some n=>
  simp only[q1]at ha ⊢
  rw[zmk]
  cases q2:zat esz n h x with
  |none=>simp only[q2,reduceCtorEq]at ha
  |some new=>
   simp only[q2]at ha ⊢
   split at ha<;>try simp only[reduceCtorEq]at ha
   rename_i q3
   rw[if_pos q3]
   cases v<;>try simp only[reduceCtorEq]at ha
   case sn=>
    simp only at ha ⊢
    split at ha<;>(rename_i q4;simp only[RO.ok.injEq]at ha;obtain⟨rfl,rfl⟩:=ha)
    ·rw[if_pos q4];exact⟨[],rfl,rfl⟩
    ·rw[if_neg q4];exact⟨[],rfl,rfl⟩
   case se a=>
    simp only at ha ⊢
    split at ha<;>(rename_i q4;simp only[RO.ok.injEq]at ha;obtain⟨rfl,rfl⟩:=ha)
    ·rw[if_pos q4];exact⟨[],rfl,rfl⟩
    ·rw[if_neg q4];exact⟨[],rfl,rfl⟩
   case sl blk off len cap g=>
    simp only at ha ⊢
    split at ha
    ·rename_i q4
     rw[if_pos q4]
     split at ha<;>simp only[RO.ok.injEq,reduceCtorEq]at ha
     rename_i hs
     obtain⟨rfl,rfl⟩:=ha
     obtain⟨l,e1,e2⟩:=zkL hs
     exact⟨l,e1,by rw[e2]⟩
    ·rename_i q4
     rw[if_neg q4]
     split at ha<;>try simp only[reduceCtorEq]at ha
     rename_i q5
     rw[if_pos q5]
     cases g with
     |none=>
      simp only[H.get_bare]at ha ⊢
      cases q6:h.get blk with
      |none=>simp only[q6,reduceCtorEq]at ha
      |some bl=>
       simp only[q6]at ha ⊢
       cases q7:bl.rd off (len*esz) with
       |none=>simp only[q7,reduceCtorEq]at ha
       |some old=>
        simp only[q7,RO.ok.injEq]at ha ⊢
        obtain⟨rfl,rfl⟩:=ha
        exact⟨[],rfl,rfl,rfl⟩
     |some e=>
      simp only[H.get_bare]at ha ⊢
      cases q6:h.get blk with
      |none=>simp only[q6,reduceCtorEq]at ha
      |some bl=>
       cases bl<;>simp only[q6,reduceCtorEq]at ha ⊢
       rename_i cs
       cases q7:cut cs off (len*esz) with
       |none=>simp only[q7,reduceCtorEq]at ha
       |some old=>
        simp only[q7]at ha ⊢
        split at ha<;>simp only[RO.ok.injEq,reduceCtorEq]at ha
        rename_i q8
        rw[if_pos q8]
        obtain⟨rfl,rfl⟩:=ha
        exact⟨[blk],rfl,rfl⟩
theorem zin {n:Nat}:∀{l:List Nat} {b:Nat},b∈zaD n l→b∈l:=fun hb=>(zea hb).2
theorem Own.appB (o:Own h0 esz h v n cs) (e:Ext h0 h) (s:Sl esz h x m new) (hone:∀u∈new,u.oneCell=true) (hb:0<bytes) (hz:0<esz) (hm:(2*(n+m)+200)*bytes≤281474976710656) :
 ∃v' hb g,zaX esz bytes h.bare v x=.ok v' hb∧h.back hb=g∧Ext h0 g∧Own h0 esz g v' (n+m) (cs++new)∧h.next≤g.next∧(∀b,b<h.next→(v=.sn∨b≠blkV v)→g.get b=h.get b)∧(0<m→blkV v'=h.next):=by
 obtain⟨v',h',q1,q2,q3,q4,q5,q6⟩:=o.app e s hone hb hz hm
 obtain⟨l,e1,e2⟩:=zmU q1
 refine⟨v',_,_,e2,rfl,⟨q2.nx,q2.same,?_⟩,?_,q4,q5,q6⟩
 ·obtain⟨l1,f1,f2⟩:=e.log
  obtain⟨l2,g1,g2⟩:=q2.log
  refine⟨zaD h.next l++l1,by simp[H.back,f1],fun b hb => ?_⟩
  rcases List.mem_append.1 hb with hb|hb
  ·have hb:=zin hb
   have:l2=l++l1:=by
    rw[e1,f1,← List.append_assoc]at g1
    exact (List.append_cancel_right g1).symm
   exact g2 b (by rw[this];exact List.mem_append_left _ hb)
  ·exact f2 b hb
 ·obtain⟨hl,o|⟨b,gg,r1,r2,r3,r4,r5⟩⟩:=q3
  ·exact⟨hl,.inl o⟩
  ·exact⟨hl,.inr ⟨b,gg,r1,r2,r3,r4,r5⟩⟩
end
end Go.Air
namespace Go.Air
variable {tbl:Tb} {t t':List V} {h h':H} {Q:Out→List V→H→Prop} {S Sp:V→H→Prop} {T:List V→H→Prop} {U:List V→H→List Foot→Prop}
def Kseq (tbl:Tb) (b:C) (Q:Out→List V→H→Prop) (o:Out) (t:List V) (h:H):Prop:=match o with
 |.norm=>W tbl b t h Q
 |.exit i=>Q (.exit i) t h
 |.ret=>Q .ret t h
 |.pan v=>Q (.pan v) t h
def Kblk (id:Nat) (Q:Out→List V→H→Prop) (o:Out) (t:List V) (h:H):Prop:=match o with
 |.exit i=>if i=id then Q .norm t h else Q (.exit i) t h
 |.norm=>Q .norm t h
 |.ret=>Q .ret t h
 |.pan v=>Q (.pan v) t h
def Kops (Q:Out→List V→H→Prop) (t:List V) (h:H):Prop:=Q .norm t h
def Kput (tbl:Tb) (d:Option Nat) (l:List O) (Q:Out→List V→H→Prop) (t:List V) (v:V) (h:H):Prop:=WL tbl l (putD t d v) h Q
def Kpn (Q:Out→List V→H→Prop) (t:List V) (v:V) (h:H):Prop:=Q (.pan v) t h
def Kdrw (tbl:Tb) (d:Option Nat) (l:List O) (U:List V→H→List Foot→Prop) (t:List V) (f:List Foot) (r:Option (List Nat)) (h:H) (v:V) (h':H):Prop:=
 WD tbl l (putD t d v) (h.back h') (f++[⟨r,zaD h.next h'.log⟩]) U
def Kcrit (crit:List (Nat × Nat)) (Q:Out→List V→H→Prop) (t:List V) (h:H) (f:List Foot):Prop:=zbX f crit=true∧Q .norm t h
def Kfn (res:List ResV) (S Sp:V→H→Prop) (o:Out) (t:List V) (h:H):Prop:=match o with
 |.exit _=>False
 |.norm=>zdl (zao t h res) h S
 |.ret=>zdl (zao t h res) h S
 |.pan v=>Sp v h
def zna (I:Nat→List V→H→Prop) (n:Nat) (Q:Out→List V→H→Prop) (o:Out) (t:List V) (h:H):Prop:=match o with
 |.norm=>∃m,m<n∧I m t h
 |.exit i=>Q (.exit i) t h
 |.ret=>Q .ret t h
 |.pan v=>Q (.pan v) t h
def zjo (b:Bool) (A B:Prop):Prop:=if b=true then A else B
@[go_sem ↓] theorem zbC {a b:C}:W tbl (.seq a b) t h Q↔W tbl a t h (Kseq tbl b Q):=W_seq
@[go_sem ↓] theorem W_block' {id:Nat} {a:C}:W tbl (.block id a) t h Q↔W tbl a t h (Kblk id Q):=zmY
@[go_sem ↓] theorem zbi {l:List O}:W tbl (.ops l) t h Q↔WL tbl l t h Q:=W_ops
def WE (tbl:Tb):List O→List V→H→(List V→H→Prop)→Prop
 |[],t,h,T=>T t h
 |o::l,t,h,T=>if zcp o.g t=true then WA tbl o.op t h.bare (fun v h'=>WE tbl l (putD t o.dst v) (h.back h') T) zeK else WE tbl l (putD t o.dst .undef) h T
theorem WD_WE {T:List V→H→Prop}:∀{l:List O} {t:List V} {h:H} {f:List Foot},WD tbl l t h f (fun t h _=>T t h)↔WE tbl l t h T
 |[],_,_,_=>WD_nil
 |o::l,t,h,f=>by
  rw[zmZ]
  simp only[WE]
  split
  ·constructor
   ·exact fun w=>w.mono (fun v h' q=>WD_WE.1 q) fun _ _ h=>h
   ·exact fun w=>w.mono (fun v h' q=>WD_WE.2 q) fun _ _ h=>h
  ·exact WD_WE
def Kdr0 (tbl:Tb) (d:Option Nat) (l:List O) (T:List V→H→Prop) (t:List V) (h:H) (v:V) (h':H):Prop:=WE tbl l (putD t d v) (h.back h') T
@[go_sem ↓] theorem zro {d:Option Nat} {l:List O} {T:List V→H→Prop} {v:V}:Kdr0 tbl d l T t h v h'↔WE tbl l (putD t d v) (h.back h') T:=Iff.rfl
@[go_sem ↓] theorem WE_nil {T:List V→H→Prop}:WE tbl [] t h T↔T t h:=Iff.rfl
@[go_sem ↓] theorem WE_plain {d:Option Nat} {op:A} {l:List O} {T:List V→H→Prop}:WE tbl (⟨d,none,op⟩::l) t h T↔WA tbl op t h.bare (Kdr0 tbl d l T t h) zeK:=by
 simp[WE,zcp];rfl
@[go_sem ↓] theorem WE_guard {d:Option Nat} {op:A} {l:List O} {n:Nat} {w:Bool} {T:List V→H→Prop}:WE tbl (⟨d,some (n,w),op⟩::l) t h T ↔
 if zcp (some (n,w)) t=true then WA tbl op t h.bare (Kdr0 tbl d l T t h) zeK else WE tbl l (putD t d .undef) h T:=Iff.rfl
@[go_sem ↓ high] theorem zrj {l:List O}:W tbl (.draw l []) t h Q↔WE tbl l t h (Kops Q):=by
 rw[W_draw,← WD_WE (f:=[])]
 have:(fun t' h' f=>zbX f []=true∧Q .norm t' h')=fun t h (_:List Foot)=>Kops Q t h:=by
  funext t' h' f
  simp[zbX,Kops]
 rw[this]
@[go_sem ↓] theorem W_draw' {l:List O} {crit:List (Nat × Nat)}:W tbl (.draw l crit) t h Q↔WD tbl l t h [] (Kcrit crit Q):=W_draw
attribute [go_sem ↓] W_skip W_exit W_ret W_cond WL_nil WD_nil WA_call WA_panic
attribute [go_sem] ROk_ok
section
variable {b:C} {id i:Nat} {l:List O} {d:Option Nat} {v:V} {f:List Foot} {r:Option (List Nat)} {crit:List (Nat × Nat)} {res:List ResV} {I:Nat→List V→H→Prop} {n:Nat} {op:A} {A B:Prop}
@[go_sem ↓] theorem Kseq_norm:Kseq tbl b Q .norm t h↔W tbl b t h Q:=Iff.rfl
@[go_sem ↓] theorem Kseq_exit:Kseq tbl b Q (.exit i) t h↔Q (.exit i) t h:=Iff.rfl
@[go_sem ↓] theorem Kseq_ret:Kseq tbl b Q .ret t h↔Q .ret t h:=Iff.rfl
@[go_sem ↓] theorem Kblk_norm:Kblk id Q .norm t h↔Q .norm t h:=Iff.rfl
@[go_sem ↓] theorem Kblk_ret:Kblk id Q .ret t h↔Q .ret t h:=Iff.rfl
@[go_sem ↓] theorem Kblk_exit:Kblk id Q (.exit i) t h↔zjo (Nat.beq i id) (Q .norm t h) (Q (.exit i) t h):=by simp[Kblk,zjo]
@[go_sem ↓] theorem Kseq_pan:Kseq tbl b Q (.pan v) t h↔Q (.pan v) t h:=Iff.rfl
@[go_sem ↓] theorem Kblk_pan:Kblk id Q (.pan v) t h↔Q (.pan v) t h:=Iff.rfl
@[go_sem ↓] theorem Kpn_eq:Kpn Q t v h↔Q (.pan v) t h:=Iff.rfl
@[go_sem ↓] theorem Kloop_pan:zna I n Q (.pan v) t h↔Q (.pan v) t h:=Iff.rfl
@[go_sem ↓] theorem Kops_eq:Kops Q t h↔Q .norm t h:=Iff.rfl
@[go_sem ↓] theorem Kput_eq:Kput tbl d l Q t v h↔WL tbl l (putD t d v) h Q:=Iff.rfl
@[go_sem ↓] theorem Kdrw_eq:Kdrw tbl d l U t f r h v h'↔WD tbl l (putD t d v) (h.back h') (f++[⟨r,zaD h.next h'.log⟩]) U:=Iff.rfl
@[go_sem ↓] theorem Kcrit_eq:Kcrit crit Q t h f↔zbX f crit=true∧Q .norm t h:=Iff.rfl
@[go_sem ↓] theorem Kfn_norm:Kfn res S Sp .norm t h↔zdl (zao t h res) h S:=Iff.rfl
@[go_sem ↓] theorem Kfn_ret:Kfn res S Sp .ret t h↔zdl (zao t h res) h S:=Iff.rfl
@[go_sem ↓] theorem Kfn_pan:Kfn res S Sp (.pan v) t h↔Sp v h:=Iff.rfl
@[go_sem ↓] theorem Kloop_norm:zna I n Q .norm t h↔∃m,m<n∧I m t h:=Iff.rfl
@[go_sem ↓] theorem Kloop_exit:zna I n Q (.exit i) t h↔Q (.exit i) t h:=Iff.rfl
@[go_sem ↓] theorem Kloop_ret:zna I n Q .ret t h↔Q .ret t h:=Iff.rfl
@[go_sem ↓] theorem WL_plain:WL tbl (⟨d,none,op⟩::l) t h Q↔WA tbl op t h (Kput tbl d l Q t) (Kpn Q t):=by
 rw[zrk];simp[zcp,Kput];rfl
@[go_sem ↓] theorem WL_guard {w:Bool}:WL tbl (⟨d,some (n,w),op⟩::l) t h Q↔if zcp (some (n,w)) t=true then WA tbl op t h (Kput tbl d l Q t) (Kpn Q t) else WL tbl l (putD t d .undef) h Q:=zrk
@[go_sem ↓] theorem WD_plain:WD tbl (⟨d,none,op⟩::l) t h f U↔WA tbl op t h.bare (Kdrw tbl d l U t f (reads op t) h) zeK:=by
 rw[zmZ];simp[zcp,H.bare];rfl
@[go_sem ↓] theorem WD_guard {w:Bool}:WD tbl (⟨d,some (n,w),op⟩::l) t h f U ↔
 if zcp (some (n,w)) t=true then WA tbl op t h.bare (Kdrw tbl d l U t f (reads op t) h) zeK else WD tbl l (putD t d .undef) h (f++[⟨some [],[]⟩]) U:=zmZ
@[go_sem] theorem guardB_true:zjo true A B↔A:=by simp[zjo]
@[go_sem] theorem guardB_false:zjo false A B↔B:=by simp[zjo]
@[go_sem] theorem condV_true:condV (.b true) A B↔A:=Iff.rfl
@[go_sem] theorem condV_false:condV (.b false) A B↔B:=Iff.rfl
@[go_sem] theorem resOk_some {l:List V}:zdl (some l) h S↔S (zgM l) h:=Iff.rfl
@[go_sem] theorem loopOut_some {lp:Loop} {L:Loop→Prop}:zdc (some (.loop lp)) L↔L lp:=Iff.rfl
theorem zrl {g:Nat} {first caps args:List V} {fi:FI} (ht:tbl g=some fi) (hr:fi.rcv=none) (hd:fi.dfr=none):WX tbl (.fn g first caps) args h S Sp↔W tbl fi.body (pad (first++args++caps) fi.ntmps) h (Kfn fi.res S Sp):=WC_fn ht hr hd
theorem zay {g:Nat} {args:List V} {m:Nat} {res:List ResV} {body:C} (ht:tbl g=some ⟨m,res,body,none,none⟩):WX tbl (.fn g [] []) args h S Sp↔W tbl body (pad args m) h (Kfn res S Sp):=by
 rw[zrl ht rfl rfl];simp
theorem zhJ {g:Nat} {first caps args:List V} {m:Nat} {res:List ResV} {body:C} (ht:tbl g=some ⟨m,res,body,none,none⟩):WX tbl (.fn g first caps) args h S Sp↔W tbl body (pad (first++args++caps) m) h (Kfn res S Sp):=zrl ht rfl rfl
theorem zeY {g:Nat} {args:List V} {m n:Nat} {v:V} {b:Option Blk} (ht:tbl g=some (zaY m n)) (hp:tbl.pr n (pad args m) h=some (v,b)):WX tbl (.fn g [] []) args h S Sp↔S v (h.newO b):=by
 rw[zrl ht rfl rfl]
 show W tbl (.prim n) (pad ([]++args++[]) m) h (Kfn [.tmp 0] S Sp)↔_
 rw[W_prim (v:=v) (b:=b) (by simpa using hp)]
 rfl
theorem zax {a:C} (I:Nat→List V→H→Prop) (hI:∀n t h,I n t h→W tbl a t h (zna I n Q)) (n:Nat) (hi:I n t h):W tbl (.loop a) t h Q:=
 zoV (I:=I) (fun n t h hi=>hI n t h hi) n t h hi
end
attribute [go_sem] eq_self reduceCtorEq Int.reduceEq Int.reduceLT Int.reduceLE Int.reduceAdd Int.reduceSub Int.reduceMul Int.reduceNe decide_true decide_false Bool.not_true Bool.not_false
@[go_sem] theorem beq_tf:(true==false)=false:=rfl
@[go_sem] theorem beq_ff:(false==false)=true:=rfl
@[go_sem] theorem beq_tt:(true==true)=true:=rfl
@[go_sem] theorem beq_ft:(false==true)=false:=rfl
theorem zrd (n:Nat):Nat.beq n n=true:=by simp
attribute [go_sem] zrd
@[go_sem] theorem beq_dec' (m n:Nat):Nat.beq m n=decide (m=n):=by rw[Bool.eq_iff_iff];simp
attribute [go_sem] H.back_bare H.back_new H.get_bare H.next_bare
@[go_sem] theorem ldV_bare (v:V):ldV h.bare v=ldV h v:=by cases v<;>rfl
@[go_sem] theorem ldnV_bare (n:Nat) (v:V):ldnV h.bare n v=ldnV h n v:=by cases v<;>rfl
@[go_sem] theorem critOk_nil (f:List Foot):zbX f []=true:=rfl
theorem zob (t:List V) (n:Nat) (v:V):(upd t n v).length=t.length:=by rw[zja];simp
theorem nth_upd (t:List V) (n m:Nat) (v:V):nth (upd t n v) m=if n=m then (if n<t.length then v else nth t m) else nth t m:=by
 rw[zja,zgN,zgN,List.getD_eq_getElem?_getD,List.getD_eq_getElem?_getD,List.getElem?_set]
 by_cases h:n=m
 ·subst h
  by_cases h2:n<t.length
  ·simp[h2]
  ·simp only[if_pos True.intro,if_neg h2,if_true]
   rw[List.getElem?_eq_none (by omega)]
 ·simp[h]
attribute [go_sem] nth_upd zob Nat.reduceEqDiff Nat.reduceLT
@[go_sem] theorem nth_pad (l:List V) (n k:Nat):nth (pad l n) k=nth l k:=by
 rw[zgN,zgN,List.getD_eq_getElem?_getD,List.getD_eq_getElem?_getD]
 unfold pad
 by_cases h:k<l.length
 ·rw[List.getElem?_append_left h]
 ·rw[List.getElem?_append_right (by omega),List.getElem?_eq_none (l:=l) (by omega)]
  by_cases h2:k-l.length<n-l.length
  ·rw[List.getElem?_replicate,if_pos h2];rfl
  ·rw[List.getElem?_replicate,if_neg h2]
@[go_sem] theorem pad_length (l:List V) (n:Nat):(pad l n).length=l.length+(n-l.length):=by simp[pad]
@[go_sem] theorem nth_0 (x:V) (l:List V):nth (x::l) 0=x:=rfl
@[go_sem] theorem nth_1 (x y:V) (l:List V):nth (x::y::l) 1=y:=rfl
@[go_sem] theorem nth_2 (x y z:V) (l:List V):nth (x::y::z::l) 2=z:=rfl
@[go_sem] theorem nth_3 (x y z u:V) (l:List V):nth (x::y::z::u::l) 3=u:=rfl
attribute [go_sem] List.length_cons List.length_nil Nat.reduceAdd Nat.reduceSub
@[go_sem] theorem putD_none (t:List V) (v:V):putD t none v=t:=rfl
@[go_sem] theorem putD_some (t:List V) (n:Nat) (v:V):putD t (some n) v=upd t n v:=rfl
@[go_sem] theorem ev_t (t:List V) (n:Nat):(X.t n).ev t=nth t n:=rfl
@[go_sem] theorem ev_c (t:List V) (v:V):(X.c v).ev t=v:=rfl
@[go_sem] theorem ev_f (t:List V) (n:Nat):(X.f n).ev t=.fn n [] []:=rfl
def wantV (v:V) (w:Bool):Bool:=match v with
 |.b x=>x==w
 |_=>false
@[go_sem] theorem wants_some (n:Nat) (w:Bool) (t:List V):zcp (some (n,w)) t=wantV (nth t n) w:=rfl
@[go_sem] theorem wantV_b (x w:Bool):wantV (.b x) w=(x==w):=rfl
attribute [go_sem] List.map_nil List.map_cons
@[go_sem] theorem lenV_sn:lenV .sn=some 0:=rfl
@[go_sem] theorem lenV_sl {b o n c:Nat} {g:Option Nat}:lenV (.sl b o n c g)=some n:=rfl
@[go_sem] theorem natCast_zero:((0:Nat):Int)=0:=rfl
@[go_sem] theorem zeg:((1:Nat):Int)=1:=rfl
def pickV (c a b:V):Option V:=match c with
 |.b true=>some a
 |.b false=>some b
 |_=>none
def stV (h:H) (n:Nat) (p v:V):Option H:=match p with
 |.p b o=>if Nat.beq v.cells.length n then storeAt h b o v.cells else none
 |_=>none
def fldP (off:Nat):V→Option V
 |.p b o=>some (.p b (o+off))
 |_=>none
def extV (n:Nat):V→Option V
 |.tup c=>nth? c n
 |_=>none
def zgP (h:H) (kk:KK) (m k:V):Option (Option V):=
 if kk.fits k then (match m with
  |.mn=>some none
  |.m b=>match h.get b with
   |some (.map es)=>find kk k es
   |_=>none
  |_=>none) else none
def lookR (zero:V) (ok:Bool) (r:Option V):V:=if ok then .tup [r.getD zero,.b r.isSome] else r.getD zero
def zbR (h:H) (kk:KK) (m k v:V):Option H:=match m with
 |.m b=>match h.get b with
  |some (.map es)=>if kk.fits k then (mput kk k v es).map fun es'=>h.put b (.map es') else none
  |_=>none
 |_=>none
def zpY (h:H):V→Option Nat
 |.mn=>some 0
 |.m b=>match h.get b with
  |some (.map es)=>some es.length
  |_=>none
 |_=>none
def RO.ofH:Option H→RO
 |some h=>.ok .undef h
 |none=>.fail
variable {x y z k:X}
theorem ev_mov:evA zaC (.mov x) t h=.ok (x.ev t) h:=rfl
theorem ev_pick:evA zaC (.pick x y z) t h=RO.ofV h (pickV (x.ev t) (y.ev t) (z.ev t)):=by
 simp only[evA]
 cases x.ev t<;>try rfl
 rename_i b
 cases b<;>rfl
theorem ev_alloc {c:List V}:evA zaC (.alloc c) t h=.ok (.p h.next 0) (h.new (.cells c)):=rfl
theorem ev_box:evA zaC (.box x) t h=.ok (.p h.next 0) (h.new (.cells (x.ev t).cells)):=rfl
theorem ev_build {c:List V} {ps:List (Nat × Nat × X)}:evA zaC (.build c ps) t h=RO.ofV h ((fill t c ps).map .agg):=by
 simp only[evA];cases fill t c ps<;>rfl
def bslR (h:H) (len:Nat):Option (List V)→RO
 |some c=>.ok (.sl h.next 0 len len none) (h.new (.cells c))
 |none=>.fail
@[go_sem] theorem bslR_some {len:Nat} {c:List V}:bslR h len (some c)=.ok (.sl h.next 0 len len none) (h.new (.cells c)):=rfl
theorem zoQ {c:List V} {n:Nat} {ps:List (Nat × Nat × X)}:evA zaC (.buildSl c n ps) t h=bslR h n (fill t c ps):=by
 simp only[evA];cases fill t c ps<;>rfl
theorem ev_st {n:Nat}:evA zaC (.st n x y) t h=RO.ofH (stV h n (x.ev t) (y.ev t)):=by
 simp only[evA,stV]
 cases x.ev t<;>try rfl
 simp only
 split
 ·cases storeAt h _ _ (y.ev t).cells<;>rfl
 ·rfl
theorem ev_bin {op:BinOp}:evA zaC (.bin op x y) t h=RO.ofV h (binV op (x.ev t) (y.ev t)):=rfl
theorem ev_eqv {neg:Bool} {kd:EqK}:evA zaC (.eqv neg kd x y) t h=RO.ofV h ((eqV kd (x.ev t) (y.ev t)).map fun r=>.b (if neg then !r else r)):=by
 simp only[evA];cases eqV kd (x.ev t) (y.ev t)<;>rfl
theorem ev_un {op:UnOp}:evA zaC (.un op x) t h=RO.ofV h (unV op (x.ev t)):=rfl
def zca (kd:IntKind):V→Option V
 |.i _ n=>some (.i kd (kd.wrap n))
 |_=>none
theorem ev_conv {kd:IntKind}:evA zaC (.conv kd x) t h=RO.ofV h (zca kd (x.ev t)):=by
 simp only[evA];cases x.ev t<;>rfl
theorem ev_mkFn {f:Nat} {a c:List X}:evA zaC (.mkFn f a c) t h=.ok (.fn f (a.map (X.ev t)) (c.map (X.ev t))) h:=rfl
theorem ev_mkMap:evA zaC .mkMap t h=.ok (.m h.next) (h.new (.map [])):=rfl
def mkSlR (h:H) (c:List V) (bytes:Nat):Option Nat→Option Nat→RO
 |some l,some m=>if Nat.ble l m&&Nat.ble m 281474976710656&&Nat.ble (bytes*m) 281474976710656 then .ok (.sl h.next 0 l m none) (h.new (.cells (rep c m))) else .fail
 |_,_=>.fail
theorem ev_mkSl {c:List V} {bytes:Nat}:evA zaC (.mkSl c bytes x y) t h=mkSlR h c bytes (zbg (x.ev t)) (zbg (y.ev t)):=by
 simp only[evA]
 cases zbg (x.ev t)<;>cases zbg (y.ev t)<;>rfl
theorem ev_slcH {esz:Nat}:evA zaC (.slc esz x none (some y) none) t h=RO.ofV h (slHi esz (x.ev t) (y.ev t)):=rfl
theorem ev_slcL {esz:Nat}:evA zaC (.slc esz x (some y) none none) t h=RO.ofV h (slLo esz (x.ev t) (y.ev t)):=rfl
theorem ev_slcLH {esz:Nat}:evA zaC (.slc esz x (some y) (some z) none) t h=RO.ofV h (slLH esz (x.ev t) (y.ev t) (z.ev t)):=rfl
theorem ev_fld {off:Nat}:evA zaC (.fld off x) t h=RO.ofV h (fldP off (x.ev t)):=by
 simp only[evA];cases x.ev t<;>rfl
def fldvV (off:Nat) (sz:Option Nat):V→Option V
 |.agg c=>match sz with
  |none=>nth? c off
  |some n=>(cut c off n).map .agg
 |_=>none
theorem ev_fldv {off:Nat} {sz:Option Nat}:evA zaC (.fldv off sz x) t h=RO.ofV h (fldvV off sz (x.ev t)):=by
 simp only[evA]
 cases x.ev t<;>try rfl
 cases sz with
 |none=>rfl
 |some n=>
  simp only[fldvV]
  cases cut _ off n<;>rfl
theorem ev_look {kk:KK} {zero:V} {ok:Bool}:evA zaC (.look kk zero ok x k) t h=RO.ofV h ((zgP h kk (x.ev t) (k.ev t)).map (lookR zero ok)):=by
 simp only[evA,zgP]
 by_cases hk:kk.fits (k.ev t)=true
 ·simp only[if_pos hk]
  cases x.ev t<;>try rfl
  simp only
  cases h.get _ with
  |none=>rfl
  |some bl=>
   cases bl<;>try rfl
   simp only
   cases find kk (k.ev t) _<;>rfl
 ·simp only[if_neg hk]
  rfl
theorem zqK {kk:KK}:evA zaC (.mapSet kk x k y) t h=RO.ofH (zbR h kk (x.ev t) (k.ev t) (y.ev t)):=by
 simp only[evA,zbR]
 cases x.ev t<;>try rfl
 simp only
 cases h.get _ with
 |none=>rfl
 |some bl=>
  cases bl<;>try rfl
  simp only
  by_cases hk:kk.fits (k.ev t)=true
  ·simp only[if_pos hk]
   cases mput kk (k.ev t) (y.ev t) _<;>rfl
  ·simp only[if_neg hk]
   rfl
theorem ev_ext {n:Nat}:evA zaC (.ext x n) t h=RO.ofV h (extV n (x.ev t)):=by
 simp only[evA];cases x.ev t<;>rfl
theorem ev_lenC {n:Nat}:evA zaC (.lenC n) t h=.ok (.i .i64 (n:Int)) h:=rfl
theorem ev_lenM:evA zaC (.lenM x) t h=RO.ofV h ((zpY h (x.ev t)).map fun (n:Nat)=>V.i .i64 (n:Int)):=by
 simp only[evA,zpY]
 cases x.ev t<;>try rfl
 simp only
 cases h.get _ with
 |none=>rfl
 |some bl=>cases bl<;>rfl
theorem ev_app {esz bytes:Nat}:evA zaC (.app esz bytes x y) t h=zaX esz bytes h (x.ev t) (y.ev t):=rfl
theorem ev_cpy {esz:Nat}:evA zaC (.cpy esz x y) t h=zlT esz h (x.ev t) (y.ev t):=rfl
theorem ev_min {xs:List X}:evA zaC (.min xs) t h=RO.ofV h (minL false (xs.map (X.ev t))):=rfl
theorem ev_max {xs:List X}:evA zaC (.max xs) t h=RO.ofV h (minL true (xs.map (X.ev t))):=rfl
def ixAV (len esz:Nat) (v i:V):Option V:=match v,zbg i with
 |.p b o,some n=>if n<len then some (.p b (o+n*esz)) else none
 |_,_=>none
theorem ev_ixA {len esz:Nat}:evA zaC (.ixA len esz x y) t h=RO.ofV h (ixAV len esz (x.ev t) (y.ev t)):=by
 simp only[evA,ixAV]
 cases x.ev t<;>first|(cases zbg (y.ev t)<;>rfl)|skip
 cases zbg (y.ev t) with
 |none=>rfl
 |some n=>
  simp only[Nat.blt_eq]
  split<;>rfl
theorem zeN {len esz b o n:Nat} (hn:n<len):ixAV len esz (.p b o) (.i .i64 (n:Int))=some (.p b (o+n*esz)):=by
 simp only[ixAV]
 rw[show zbg (.i .i64 (n:Int))=some n from rfl]
 simp[hn]
theorem zbj {op:A} {r:RO} (hp:op.plain=true) (he:evA zaC op t h=r):WA tbl op t h S Sp↔ROk r S:=by rw[WA_plain hp,he]
@[go_sem ↓] theorem wa_mov:WA tbl (.mov x) t h S Sp↔ROk (.ok (x.ev t) h) S:=zbj rfl ev_mov
@[go_sem ↓] theorem wa_pick:WA tbl (.pick x y z) t h S Sp↔ROk (RO.ofV h (pickV (x.ev t) (y.ev t) (z.ev t))) S:=zbj rfl ev_pick
@[go_sem ↓] theorem wa_alloc {c:List V}:WA tbl (.alloc c) t h S Sp↔ROk (.ok (.p h.next 0) (h.new (.cells c))) S:=zbj rfl ev_alloc
@[go_sem ↓] theorem wa_box:WA tbl (.box x) t h S Sp↔ROk (.ok (.p h.next 0) (h.new (.cells (x.ev t).cells))) S:=zbj rfl ev_box
@[go_sem ↓] theorem wa_build {c:List V} {ps:List (Nat × Nat × X)}:WA tbl (.build c ps) t h S Sp↔ROk (RO.ofV h ((fill t c ps).map .agg)) S:=zbj rfl ev_build
@[go_sem ↓] theorem wa_buildSl {c:List V} {n:Nat} {ps:List (Nat × Nat × X)}:WA tbl (.buildSl c n ps) t h S Sp↔ROk (bslR h n (fill t c ps)) S:=zbj rfl zoQ
@[go_sem ↓] theorem wa_st {n:Nat}:WA tbl (.st n x y) t h S Sp↔ROk (RO.ofH (stV h n (x.ev t) (y.ev t))) S:=zbj rfl ev_st
@[go_sem ↓] theorem wa_bin {op:BinOp}:WA tbl (.bin op x y) t h S Sp↔ROk (RO.ofV h (binV op (x.ev t) (y.ev t))) S:=zbj rfl ev_bin
@[go_sem ↓] theorem wa_eqv {neg:Bool} {kd:EqK}:WA tbl (.eqv neg kd x y) t h S Sp↔ROk (RO.ofV h ((eqV kd (x.ev t) (y.ev t)).map fun r=>.b (if neg then !r else r))) S:=zbj rfl ev_eqv
@[go_sem ↓] theorem wa_un {op:UnOp}:WA tbl (.un op x) t h S Sp↔ROk (RO.ofV h (unV op (x.ev t))) S:=zbj rfl ev_un
@[go_sem ↓] theorem wa_conv {kd:IntKind}:WA tbl (.conv kd x) t h S Sp↔ROk (RO.ofV h (zca kd (x.ev t))) S:=zbj rfl ev_conv
@[go_sem ↓] theorem wa_mkFn {f:Nat} {a c:List X}:WA tbl (.mkFn f a c) t h S Sp↔ROk (.ok (.fn f (a.map (X.ev t)) (c.map (X.ev t))) h) S:=zbj rfl ev_mkFn
@[go_sem ↓] theorem wa_mkMap:WA tbl .mkMap t h S Sp↔ROk (.ok (.m h.next) (h.new (.map []))) S:=zbj rfl ev_mkMap
@[go_sem ↓] theorem wa_mkSl {c:List V} {bytes:Nat}:WA tbl (.mkSl c bytes x y) t h S Sp↔ROk (mkSlR h c bytes (zbg (x.ev t)) (zbg (y.ev t))) S:=zbj rfl ev_mkSl
@[go_sem ↓] theorem wa_slcH {esz:Nat}:WA tbl (.slc esz x none (some y) none) t h S Sp↔ROk (RO.ofV h (slHi esz (x.ev t) (y.ev t))) S:=zbj rfl ev_slcH
@[go_sem ↓] theorem wa_slcL {esz:Nat}:WA tbl (.slc esz x (some y) none none) t h S Sp↔ROk (RO.ofV h (slLo esz (x.ev t) (y.ev t))) S:=zbj rfl ev_slcL
@[go_sem ↓] theorem wa_slcLH {esz:Nat}:WA tbl (.slc esz x (some y) (some z) none) t h S Sp↔ROk (RO.ofV h (slLH esz (x.ev t) (y.ev t) (z.ev t))) S:=zbj rfl ev_slcLH
@[go_sem ↓] theorem wa_fld {off:Nat}:WA tbl (.fld off x) t h S Sp↔ROk (RO.ofV h (fldP off (x.ev t))) S:=zbj rfl ev_fld
@[go_sem ↓] theorem wa_fldv {off:Nat} {sz:Option Nat}:WA tbl (.fldv off sz x) t h S Sp↔ROk (RO.ofV h (fldvV off sz (x.ev t))) S:=zbj rfl ev_fldv
@[go_sem ↓] theorem wa_look {kk:KK} {zero:V} {ok:Bool}:WA tbl (.look kk zero ok x k) t h S Sp↔ROk (RO.ofV h ((zgP h kk (x.ev t) (k.ev t)).map (lookR zero ok))) S:=zbj rfl ev_look
@[go_sem ↓] theorem wa_mapSet {kk:KK}:WA tbl (.mapSet kk x k y) t h S Sp↔ROk (RO.ofH (zbR h kk (x.ev t) (k.ev t) (y.ev t))) S:=zbj rfl zqK
@[go_sem ↓] theorem wa_ext {n:Nat}:WA tbl (.ext x n) t h S Sp↔ROk (RO.ofV h (extV n (x.ev t))) S:=zbj rfl ev_ext
@[go_sem ↓] theorem wa_lenC {n:Nat}:WA tbl (.lenC n) t h S Sp↔ROk (.ok (.i .i64 (n:Int)) h) S:=zbj rfl ev_lenC
@[go_sem ↓] theorem wa_lenM:WA tbl (.lenM x) t h S Sp↔ROk (RO.ofV h ((zpY h (x.ev t)).map fun (n:Nat)=>V.i .i64 (n:Int))) S:=zbj rfl ev_lenM
@[go_sem ↓] theorem wa_app {esz bytes:Nat}:WA tbl (.app esz bytes x y) t h S Sp↔ROk (zaX esz bytes h (x.ev t) (y.ev t)) S:=zbj rfl ev_app
@[go_sem ↓] theorem wa_cpy {esz:Nat}:WA tbl (.cpy esz x y) t h S Sp↔ROk (zlT esz h (x.ev t) (y.ev t)) S:=zbj rfl ev_cpy
@[go_sem ↓] theorem wa_min {xs:List X}:WA tbl (.min xs) t h S Sp↔ROk (RO.ofV h (minL false (xs.map (X.ev t)))) S:=zbj rfl ev_min
@[go_sem ↓] theorem wa_max {xs:List X}:WA tbl (.max xs) t h S Sp↔ROk (RO.ofV h (minL true (xs.map (X.ev t)))) S:=zbj rfl ev_max
@[go_sem ↓] theorem wa_ld:WA tbl (.ld x) t h S Sp↔ROk (RO.ofV h (ldV h (x.ev t))) S:=zbj rfl ev_ld
@[go_sem ↓] theorem wa_ldn {n:Nat}:WA tbl (.ldn n x) t h S Sp↔ROk (RO.ofV h (ldnV h n (x.ev t))) S:=zbj rfl ev_ldn
@[go_sem ↓] theorem wa_ixS {esz:Nat}:WA tbl (.ixS esz x k) t h S Sp↔ROk (RO.ofV h (ixV esz (x.ev t) (k.ev t))) S:=zbj rfl ev_ixS
@[go_sem ↓] theorem wa_ixA {len esz:Nat}:WA tbl (.ixA len esz x y) t h S Sp↔ROk (RO.ofV h (ixAV len esz (x.ev t) (y.ev t))) S:=zbj rfl ev_ixA
@[go_sem ↓] theorem wa_lenL:WA tbl (.lenL x) t h S Sp↔ROk (RO.ofV h ((lenV (x.ev t)).map fun (n:Nat)=>V.i .i64 (n:Int))) S:=zbj rfl ev_lenL
def znu:V→Option V
 |.p b o=>some (.p b o)
 |.fn f a c=>some (.fn f a c)
 |.yld l=>some (.yld l)
 |_=>none
theorem ev_nilck:evA zaC (.nilck x) t h=RO.ofV h (znu (x.ev t)):=by
 simp only[evA];cases x.ev t<;>rfl
@[go_sem ↓] theorem wa_nilck:WA tbl (.nilck x) t h S Sp↔ROk (RO.ofV h (znu (x.ev t))) S:=zbj rfl ev_nilck
@[go_sem] theorem nilckV_p {b o:Nat}:znu (.p b o)=some (.p b o):=rfl
@[go_sem] theorem nilckV_fn {f:Nat} {a c:List V}:znu (.fn f a c)=some (.fn f a c):=rfl
def lenSV:V→Option V
 |.s l=>some (.i .i64 (l.length:Int))
 |_=>none
theorem ev_lenS:evA zaC (.lenS x) t h=RO.ofV h (lenSV (x.ev t)):=by
 simp only[evA];cases x.ev t<;>rfl
@[go_sem ↓] theorem wa_lenS:WA tbl (.lenS x) t h S Sp↔ROk (RO.ofV h (lenSV (x.ev t))) S:=zbj rfl ev_lenS
@[go_sem] theorem lenSV_s {l:List Nat}:lenSV (.s l)=some (.i .i64 (l.length:Int)):=rfl
def zjU (t:List V) (v:V) (lo hi:Option X):Option V:=match v with
 |.s l=>(zbr t l.length l.length lo hi).map fun p=>.s ((l.drop p.1).take (p.2-p.1))
 |_=>none
theorem ev_slcS {lo hi:Option X}:evA zaC (.slcS x lo hi) t h=RO.ofV h (zjU t (x.ev t) lo hi):=by
 simp only[evA,zjU]
 cases x.ev t<;>try rfl
 simp only
 cases zbr t _ _ lo hi<;>rfl
@[go_sem ↓] theorem wa_slcS {lo hi:Option X}:WA tbl (.slcS x lo hi) t h S Sp↔ROk (RO.ofV h (zjU t (x.ev t) lo hi)) S:=zbj rfl ev_slcS
def ixSV (v i:V):Option V:=match v,zbg i with
 |.s l,some n=>(l[n]?).map fun c=>.i .u8 (c:Int)
 |_,_=>none
theorem ev_ixStr:evA zaC (.ixStr x y) t h=RO.ofV h (ixSV (x.ev t) (y.ev t)):=by
 simp only[evA,ixSV]
 cases x.ev t<;>first|(cases zbg (y.ev t)<;>rfl;done)|skip
 rename_i l
 cases zbg (y.ev t) with
 |none=>rfl
 |some n=>
  simp only
  cases l[n]? <;> rfl
@[go_sem ↓] theorem wa_ixStr:WA tbl (.ixStr x y) t h S Sp↔ROk (RO.ofV h (ixSV (x.ev t) (y.ev t))) S:=zbj rfl ev_ixStr
def slcAV (t:List V) (len esz:Nat) (v:V) (lo hi:Option X):Option V:=match v with
 |.p b o=>(zbr t len len lo hi).map fun p=>.sl b (if Nat.beq p.1 len then o else o+p.1*esz) (p.2-p.1) (len-p.1) none
 |_=>none
theorem ev_slcA {len esz:Nat} {lo hi:Option X}:evA zaC (.slcA len esz x lo hi) t h=RO.ofV h (slcAV t len esz (x.ev t) lo hi):=by
 simp only[evA,slcAV]
 cases x.ev t<;>try rfl
 simp only
 cases zbr t len len lo hi<;>rfl
@[go_sem ↓] theorem wa_slcA {len esz:Nat} {lo hi:Option X}:WA tbl (.slcA len esz x lo hi) t h S Sp↔ROk (RO.ofV h (slcAV t len esz (x.ev t) lo hi)) S:=zbj rfl ev_slcA
theorem ev_slc3 {esz:Nat} {lo hi:Option X} {mx:X}:evA zaC (.slc esz x lo hi (some mx)) t h=RO.ofV h (zfV esz t lo hi mx (x.ev t)):=rfl
@[go_sem ↓] theorem wa_slc3 {esz:Nat} {lo hi:Option X} {mx:X}:WA tbl (.slc esz x lo hi (some mx)) t h S Sp↔ROk (RO.ofV h (zfV esz t lo hi mx (x.ev t))) S:=zbj rfl ev_slc3
def ixVV (len esz:Nat) (ag:Bool) (v i:V):Option V:=match v,zbg i with
 |.agg c,some n=>if n<len then (if ag then (cut c (n*esz) esz).map .agg else nth? c (n*esz)) else none
 |_,_=>none
theorem ev_ixV {len esz:Nat} {ag:Bool}:evA zaC (.ixV len esz ag x y) t h=RO.ofV h (ixVV len esz ag (x.ev t) (y.ev t)):=by
 simp only[evA,ixVV]
 cases x.ev t<;>first|(cases zbg (y.ev t)<;>rfl)|skip
 cases zbg (y.ev t) with
 |none=>rfl
 |some n=>
  simp only[Nat.blt_eq]
  split
  ·cases ag
   ·rfl
   ·simp only[if_true]
    cases cut _ (n*esz) esz<;>rfl
  ·rfl
@[go_sem ↓] theorem wa_ixV {len esz:Nat} {ag:Bool}:WA tbl (.ixV len esz ag x y) t h S Sp↔ROk (RO.ofV h (ixVV len esz ag (x.ev t) (y.ev t))) S:=zbj rfl ev_ixV
theorem ev_mkI {k:Nat}:evA zaC (.mkI k x) t h=.ok (.ifc k (x.ev t)) h:=rfl
@[go_sem ↓] theorem wa_mkI {k:Nat}:WA tbl (.mkI k x) t h S Sp↔ROk (.ok (.ifc k (x.ev t)) h) S:=zbj rfl ev_mkI
def taV (k:Nat) (z:V) (ok:Bool):V→Option V
 |.in0=>if ok then some (.tup [z,.b false]) else none
 |.ifc k' v=>if Nat.beq k' k then some (if ok then .tup [v,.b true] else v) else (if ok then some (.tup [z,.b false]) else none)
 |_=>none
theorem zoP {k:Nat} {zv:V} {ok:Bool}:evA zaC (.tassert k zv ok x) t h=RO.ofV h (taV k zv ok (x.ev t)):=by
 simp only[evA]
 cases x.ev t<;>try rfl
 ·cases ok<;>rfl
 ·simp only[taV]
  split
  ·rfl
  ·cases ok<;>rfl
@[go_sem ↓] theorem wa_tassert {k:Nat} {zv:V} {ok:Bool}:WA tbl (.tassert k zv ok x) t h S Sp↔ROk (RO.ofV h (taV k zv ok (x.ev t))) S:=zbj rfl zoP
def s2bR (h:H):V→RO
 |.s l=>.ok (.sl h.next 0 l.length l.length (some 1)) (h.new (.cells (l.map fun c:Nat=>V.i .u8 (c:Int))))
 |_=>.fail
theorem ev_s2b:evA zaC (.s2b x) t h=s2bR h (x.ev t):=by
 simp only[evA];cases x.ev t<;>rfl
@[go_sem ↓] theorem wa_s2b:WA tbl (.s2b x) t h S Sp↔ROk (s2bR h (x.ev t)) S:=zbj rfl ev_s2b
@[go_sem] theorem s2bR_s {l:List Nat}:s2bR h (.s l)=.ok (.sl h.next 0 l.length l.length (some 1)) (h.new (.cells (l.map fun c:Nat=>V.i .u8 (c:Int)))):=rfl
theorem ev_b2s:evA zaC (.b2s x) t h=RO.ofV h (zmj h (x.ev t)):=rfl
@[go_sem ↓] theorem wa_b2s:WA tbl (.b2s x) t h S Sp↔ROk (RO.ofV h (zmj h (x.ev t))) S:=zbj rfl ev_b2s
@[go_sem] theorem zbE {a b:List Nat} (hl:a.length+b.length≤9223372036854775807):binV .add (.s a) (.s b)=some (.s (a++b)):=by
 have:Nat.ble (a.length+b.length) 9223372036854775807=true:=by rw[Nat.ble_eq];exact hl
 simp only[binV,binS,this,if_true]
theorem zcj {a b:List Nat}:binV .eql (.s a) (.s b)=some (.b (decide (a=b))):=by
 have:zbD a b=decide (a=b):=by rw[Bool.eq_iff_iff,zdj];simp
 simp only[binV,binS,this]
theorem zkz {a b:List Nat}:binV .neq (.s a) (.s b)=some (.b (!decide (a=b))):=by
 have:zbD a b=decide (a=b):=by rw[Bool.eq_iff_iff,zdj];simp
 simp only[binV,binS,this]
@[go_sem] theorem ofV_some {v:V}:RO.ofV h (some v)=.ok v h:=rfl
@[go_sem] theorem ofH_some:RO.ofH (some h)=.ok .undef h:=rfl
attribute [go_sem] Option.map_some Option.bind_some Option.getD_some Option.getD_none true_and and_true
@[go_sem] theorem pickV_t {a b:V}:pickV (.b true) a b=some a:=rfl
@[go_sem] theorem pickV_f {a b:V}:pickV (.b false) a b=some b:=rfl
@[go_sem] theorem fldP_p {b o off:Nat}:fldP off (.p b o)=some (.p b (o+off)):=rfl
@[go_sem] theorem extV_0 {a:V} {l:List V}:extV 0 (.tup (a::l))=some a:=rfl
@[go_sem] theorem extV_1 {a b:V} {l:List V}:extV 1 (.tup (a::b::l))=some b:=rfl
@[go_sem] theorem zbz {a b c:V} {l:List V}:extV 2 (.tup (a::b::c::l))=some c:=rfl
@[go_sem] theorem convV_i {kd kd':IntKind} {n:Int}:zca kd (.i kd' n)=some (.i kd (kd.wrap n)):=rfl
@[go_sem] theorem lookR_f {zero:V} {r:Option V}:lookR zero false r=r.getD zero:=rfl
@[go_sem] theorem lookR_t {zero:V} {r:Option V}:lookR zero true r=.tup [r.getD zero,.b r.isSome]:=rfl
@[go_sem] theorem packR_1 {v:V}:zgM [v]=v:=rfl
@[go_sem] theorem packR_2 {u v:V} {l:List V}:zgM (u::v::l)=.tup (u::v::l):=rfl
@[go_sem] theorem packR_0:zgM []=.tup []:=rfl
@[go_sem] theorem res_nil:zao t h []=some []:=rfl
@[go_sem] theorem res_tmp {n:Nat} {l:List ResV}:zao t h (.tmp n::l)=(zao t h l).map (nth t n :: ·):=rfl
def zhQ (v:V):Option (List V):=if Nat.beq v.cells.length 1 then some v.cells else none
@[go_sem] theorem fill_one {z0:V}:fill t [z0] [(0,1,x)]=zhQ (x.ev t):=by
 simp only[fill,zhQ]
 split
 ·rename_i hl
  cases hc:(x.ev t).cells with
  |nil=>rw[hc]at hl;simp at hl
  |cons u l=>
   cases l with
   |nil=>simp[lay]
   |cons _ _=>rw[hc]at hl;simp at hl
 ·rfl
def zqH (x y:V):Option (List V):=if Nat.beq x.cells.length 1 then (if Nat.beq y.cells.length 1 then some (x.cells++y.cells) else none) else none
@[go_sem] theorem fill_two {z0 z1:V}:fill t [z0,z1] [(0,1,x),(1,1,y)]=zqH (x.ev t) (y.ev t):=by
 simp only[fill,zqH]
 split
 ·rename_i hl
  cases hc:(x.ev t).cells with
  |nil=>rw[hc]at hl;simp at hl
  |cons u l=>
   cases l with
   |cons _ _=>rw[hc]at hl;simp at hl
   |nil=>
    simp only[lay,Option.map_some]
    split
    ·rename_i hl2
     cases hd:(y.ev t).cells with
     |nil=>rw[hd]at hl2;simp at hl2
     |cons u2 l2=>
      cases l2 with
      |cons _ _=>rw[hd]at hl2;simp at hl2
      |nil=>simp[lay]
    ·rfl
 ·rfl
@[go_sem] theorem fill2_ii {kd kd':IntKind} {m n:Int}:zqH (.i kd m) (.i kd' n)=some [.i kd m,.i kd' n]:=rfl
def fillR (z0 x:V):Option (List V):=if Nat.beq x.cells.length 1 then some (z0::x.cells) else none
@[go_sem] theorem fill_at1 {z0 z1:V}:fill t [z0,z1] [(1,1,x)]=fillR z0 (x.ev t):=by
 simp only[fill,fillR]
 split
 ·rename_i hl
  cases hc:(x.ev t).cells with
  |nil=>rw[hc]at hl;simp at hl
  |cons u l=>
   cases l with
   |nil=>simp[lay]
   |cons _ _=>rw[hc]at hl;simp at hl
 ·rfl
@[go_sem] theorem fillR_i {z0:V} {kd:IntKind} {n:Int}:fillR z0 (.i kd n)=some [z0,.i kd n]:=rfl
def fillA (k:Nat) (v:V):Option (List V):=if Nat.beq v.cells.length k then some v.cells else none
@[go_sem] theorem fill_agg2 {z0 z1:V}:fill t [z0,z1] [(0,2,x)]=fillA 2 (x.ev t):=by
 simp only[fill,fillA]
 split
 ·rename_i hl
  cases hc:(x.ev t).cells with
  |nil=>rw[hc]at hl;simp at hl
  |cons u l=>
   cases l with
   |nil=>rw[hc]at hl;simp at hl
   |cons u2 l2=>
    cases l2 with
    |cons _ _=>rw[hc]at hl;simp at hl
    |nil=>simp[lay]
 ·rfl
@[go_sem] theorem fillA_2 {a b:V}:fillA 2 (.agg [a,b])=some [a,b]:=rfl
@[go_sem] theorem zhq {kd:IntKind} {n:Int}:zhQ (.i kd n)=some [.i kd n]:=rfl
@[go_sem] theorem fill1_sl {b o l c:Nat} {g:Option Nat}:zhQ (.sl b o l c g)=some [.sl b o l c g]:=rfl
@[go_sem] theorem fill1_sn:zhQ .sn=some [.sn]:=rfl
def encM (l:List (Int × V)):List (V × V):=l.map fun p=>(.i .i64 p.1,p.2)
def insI (x:Int) (v:V):List (Int × V)→List (Int × V)
 |[]=>[(x,v)]
 |p::l=>if x=p.1 then (p.1,v)::l else p::insI x v l
def lkp (x:Int):List (Int × V)→Option V
 |[]=>none
 |p::l=>if x=p.1 then some p.2 else lkp x l
theorem znL (x:Int):∀l:List (Int × V),find (.sc (.i .i64)) (.i .i64 x) (encM l)=some (lkp x l)
 |[]=>rfl
 |p::l=>by
  have hf:(KK.sc (.i .i64)).fits (.i .i64 p.1)=true:=rfl
  have ih:=znL x l
  simp only[encM]at ih
  simp only[encM,List.map_cons,find,hf,if_true,lkp,zhk,zbm,ih,decide_eq_true_eq]
  split<;>rfl
theorem znw (x:Int) (v:V):∀l:List (Int × V),mput (.sc (.i .i64)) (.i .i64 x) v (encM l)=some (encM (insI x v l))
 |[]=>rfl
 |p::l=>by
  have hf:(KK.sc (.i .i64)).fits (.i .i64 p.1)=true:=rfl
  have ih:=znw x v l
  simp only[encM]at ih
  simp only[encM,List.map_cons,mput,hf,if_true,zhk,zbm,ih,insI,decide_eq_true_eq]
  by_cases h:x=p.1
  ·simp[h]
  ·simp[h]
theorem zmD (x:Int) (v:V) (y:Int):∀l:List (Int × V),lkp y (insI x v l)=if y=x then some v else lkp y l
 |[]=>by simp only[insI,lkp]
 |p::l=>by
  have ih:=zmD x v y l
  simp only[insI]
  by_cases h:x=p.1
  ·rw[if_pos h]
   simp only[lkp,h]
   split<;>rfl
  ·rw[if_neg h]
   simp only[lkp,ih]
   by_cases h2:y=p.1
   ·rw[if_pos h2,if_pos h2,if_neg (by omega)]
   ·rw[if_neg h2,if_neg h2]
theorem zeL {m:Nat} {l:List (Int × V)} (hg:h.get m=some (.map (encM l))) (x:Int):zgP h (.sc (.i .i64)) (.m m) (.i .i64 x)=some (lkp x l):=by
 have hf:(KK.sc (.i .i64)).fits (.i .i64 x)=true:=rfl
 simp only[zgP,hf,if_true,hg,znL]
theorem zgb {m:Nat} {l:List (Int × V)} (hg:h.get m=some (.map (encM l))) (x:Int) (v:V):zbR h (.sc (.i .i64)) (.m m) (.i .i64 x) v=some (h.put m (.map (encM (insI x v l)))):=by
 have hf:(KK.sc (.i .i64)).fits (.i .i64 x)=true:=rfl
 simp only[zbR,hg,hf,if_true,znw,Option.map_some]
@[go_sem] theorem lookV_bare (kk:KK) (m k:V):zgP h.bare kk m k=zgP h kk m k:=rfl
@[go_sem] theorem lenMV_bare (m:V):zpY h.bare m=zpY h m:=rfl
theorem zaH {h:H} {b:Nat} (hb:b<h.next) (x:Blk):h.back (h.bare.put b x)=h.put b x:=by
 have:Nat.blt b h.next=true:=by rw[Nat.blt_eq];exact hb
 simp[H.back,H.bare,H.put,zaD,this]
theorem zhi {h:H} {b:Nat} (hb:b<h.next) (x:Blk):zaD h.next (h.bare.put b x).log=[b]:=by
 have:Nat.blt b h.next=true:=by rw[Nat.blt_eq];exact hb
 simp[H.bare,H.put,zaD,this]
theorem zaG (h:H) (n:Nat):zaD n h.bare.log=[]:=rfl
attribute [go_sem] Option.isSome_some Option.isSome_none
@[go_sem] theorem un_not {b:Bool}:unV .not (.b b)=some (.b !b):=rfl
theorem zap {n:Int} (h0 : -9223372036854775808≤n) (h1:n≤9223372036854775807):IntKind.i64.wrap n=n:=
 by exact IntWalk.i64_in _ (by omega)
section
variable {a b:Int} {kd:IntKind}
@[go_sem] theorem bin_add:binV .add (.i .i64 a) (.i .i64 b)=some (.i .i64 (IntKind.i64.wrap (a+b))):=rfl
@[go_sem] theorem bin_sub:binV .sub (.i .i64 a) (.i .i64 b)=some (.i .i64 (IntKind.i64.wrap (a-b))):=rfl
@[go_sem] theorem bin_mul:binV .mul (.i .i64 a) (.i .i64 b)=some (.i .i64 (IntKind.i64.wrap (a*b))):=rfl
@[go_sem] theorem bin_lss:binV .lss (.i kd a) (.i kd b)=some (.b (decide (a<b))):=by simp[binV,binI]
@[go_sem] theorem bin_leq:binV .leq (.i kd a) (.i kd b)=some (.b (decide (a≤b))):=by simp[binV,binI]
@[go_sem] theorem bin_gtr:binV .gtr (.i kd a) (.i kd b)=some (.b (decide (b<a))):=by simp[binV,binI]
@[go_sem] theorem bin_geq:binV .geq (.i kd a) (.i kd b)=some (.b (decide (b≤a))):=by simp[binV,binI]
@[go_sem] theorem bin_eql:binV .eql (.i kd a) (.i kd b)=some (.b (decide (a=b))):=by simp[binV,binI]
@[go_sem] theorem bin_neq:binV .neq (.i kd a) (.i kd b)=some (.b (!decide (a=b))):=by simp[binV,binI]
@[go_sem] theorem eqV_bool {p q:Bool}:eqV .bool (.b p) (.b q)=some (p==q):=rfl
@[go_sem] theorem natOf_nat {n:Nat}:zbg (.i kd (n:Int))=some n:=rfl
@[go_sem] theorem natOf_0:zbg (.i kd 0)=some 0:=rfl
@[go_sem] theorem natOf_1:zbg (.i kd 1)=some 1:=rfl
end
end Go.Air
namespace Go.Air.Sha
abbrev W32:=BitVec 32
def rotr (x:W32) (n:Nat):W32:=(x <<< (32-n)) ||| (x >>> n)
def K:List Nat:=[
 0x428a2f98,0x71374491,0xb5c0fbcf,0xe9b5dba5,0x3956c25b,0x59f111f1,0x923f82a4,0xab1c5ed5,
 0xd807aa98,0x12835b01,0x243185be,0x550c7dc3,0x72be5d74,0x80deb1fe,0x9bdc06a7,0xc19bf174,
 0xe49b69c1,0xefbe4786,0x0fc19dc6,0x240ca1cc,0x2de92c6f,0x4a7484aa,0x5cb0a9dc,0x76f988da,
 0x983e5152,0xa831c66d,0xb00327c8,0xbf597fc7,0xc6e00bf3,0xd5a79147,0x06ca6351,0x14292967,
 0x27b70a85,0x2e1b2138,0x4d2c6dfc,0x53380d13,0x650a7354,0x766a0abb,0x81c2c92e,0x92722c85,
 0xa2bfe8a1,0xa81a664b,0xc24b8b70,0xc76c51a3,0xd192e819,0xd6990624,0xf40e3585,0x106aa070,
 0x19a4c116,0x1e376c08,0x2748774c,0x34b0bcb5,0x391c0cb3,0x4ed8aa4a,0x5b9cca4f,0x682e6ff3,
 0x748f82ee,0x78a5636f,0x84c87814,0x8cc70208,0x90befffa,0xa4506ceb,0xbef9a3f7,0xc67178f2]
def H0:List Nat:=[0x6a09e667,0xbb67ae85,0x3c6ef372,0xa54ff53a,0x510e527f,0x9b05688c,0x1f83d9ab,0x5be0cd19]
def wN (l:List Nat) (i:Nat):W32:=BitVec.ofNat 32 (l.getD i 0)
def w0 (l:List W32) (i:Nat):W32:=l.getD i 0
def word (b:List Nat) (i:Nat):W32:=((((0 <<< 8 ||| wN b (4*i)) <<< 8 ||| wN b (4*i+1)) <<< 8 ||| wN b (4*i+2)) <<< 8) ||| wN b (4*i+3)
def words (b:List Nat):List W32:=(List.range 16).map (word b)
def more (w:List W32):W32:=
 let n:=w.length
 let x:=w0 w (n-15)
 let y:=w0 w (n-2)
 (rotr y 17 ^^^ rotr y 19 ^^^ (y >>> 10))+w0 w (n-7)+(rotr x 7 ^^^ rotr x 18 ^^^ (x >>> 3))+w0 w (n-16)
def grow:Nat→List W32→List W32
 |0,w=>w
 |k+1,w=>grow k (w++[more w])
def zbM (b:List Nat):List W32:=grow 48 (words b)
structure St where
 (a b c d e f g h:W32)
 deriving DecidableEq
def St.list (s:St):List W32:=[s.a,s.b,s.c,s.d,s.e,s.f,s.g,s.h]
def round (s:St) (k w:W32):St:=
 let t:=s.h+(rotr s.e 6 ^^^ rotr s.e 11 ^^^ rotr s.e 25)+((s.e &&& s.f) ^^^ (~~~s.e &&& s.g))+k+w
 let u:=(rotr s.a 2 ^^^ rotr s.a 13 ^^^ rotr s.a 22)+((s.a &&& s.b) ^^^ (s.a &&& s.c) ^^^ (s.b &&& s.c))
 ⟨t+u,s.a,s.b,s.c,s.d+t,s.e,s.f,s.g⟩
def zcz (w:List W32):Nat→St→St
 |0,s=>s
 |n+1,s=>let s':=zcz w n s;round s' (wN K n) (w0 w n)
def St.add (x y:St):St:=⟨x.a+y.a,x.b+y.b,x.c+y.c,x.d+y.d,x.e+y.e,x.f+y.f,x.g+y.g,x.h+y.h⟩
def block (s:St) (b:List Nat):St:=(zcz (zbM b) 64 s).add s
def start:St:=⟨wN H0 0,wN H0 1,wN H0 2,wN H0 3,wN H0 4,wN H0 5,wN H0 6,wN H0 7⟩
def zcH (n:Nat):Nat:=(119-n%64)%64
def pad (b:List Nat):List Nat:=b++[128]++List.replicate (zcH b.length) 0++(List.range 8).map fun i=>((b.length*8) >>> (56-8*i))%256
def zbV:Nat→St→List Nat→St
 |0,s,_=>s
 |n+1,s,m=>zbV n (block s (m.take 64)) (m.drop 64)
def bytes (s:St):List Nat:=s.list.flatMap fun x=>(List.range 4).map fun k=>(x.toNat >>> (24-8*k))%256
def sum (b:List Nat):List Nat:=bytes (zbV ((pad b).length/64) start (pad b))
end Go.Air.Sha
namespace Go.Air
def isStr:V→Bool
 |.s _=>true
 |_=>false
def u8Of:V→Option Nat
 |.i .u8 (.ofNat n)=>if Nat.blt n 256 then some n else none
 |_=>none
def u8s:List V→Option (List Nat)
 |[]=>some []
 |x::l=>match u8Of x with
  |some c=>(u8s l).map (c :: ·)
  |none=>none
def zdE (h:H) (v:V):Option (List Nat):=if isStr v then none else match zaT v with
 |none=>none
 |some n=>match zat 1 n h v with
  |none=>none
  |some cs=>if Nat.ble cs.length 10000000 then u8s cs else none
def zaA:Nat→Nat→List Nat→List Nat
 |0,_,acc=>acc
 |f+1,n,acc=>if n<10 then (48+n)::acc else zaA f (n/10) ((48+n%10)::acc)
def zaV (n:Nat):List Nat:=zaA 20 n []
def itoa (n:Int):List Nat:=if n<0 then 45::zaV n.natAbs else zaV n.toNat
def pow10s:List (Option V):=(List.range 20).map fun i=>some (.i .u64 (.ofNat (10^i)))
def isTab:Option Blk→Bool
 |some (.ro l)=>decide (l.map tabCell=pow10s.map tabCell)
 |_=>false
where tabCell:Option V→Option Int
 |some (.i .u64 n)=>some n
 |_=>none
def zkK:List V→Option (List (List Nat))
 |[]=>some []
 |.s x::l=>(zkK l).map (x :: ·)
 |_::_=>none
def strsAt (h:H):V→Option (List (List Nat))
 |.sn=>some []
 |.se _=>some []
 |.sl b o len cap g=>if Nat.ble len cap then match zat 1 len h (.sl b o len cap g) with
  |none=>none
  |some cs=>zkK cs
  else none
 |_=>none
def ziV (sep:List Nat):List (List Nat)→List Nat
 |[]=>[]
 |[x]=>x
 |x::l=>x++sep++ziV sep l
def idxB (c:Nat):List Nat→Nat→Int
 |[],_ => -1
 |x::l,i=>if x=c then (i:Int) else idxB c l (i+1)
def zhl:Option Blk→Bool
 |some (.ro [some (.ifc _ _)])=>true
 |_=>false
def ziU (l:List Nat):Lib.NumEnd Int:=Lib.atoiAll (l.map UInt8.ofNat)
def zcg:zrn
 |0,t,h=>match t with
  |[v]=>(zdE h v).map fun b=>(.agg ((Sha.sum b).map fun c=>.i .u8 (.ofNat c)),none)
  |_=>none
 |1,t,h=>match t with
  |[.i .i64 n]=>if isTab (h.get zbO)&&(decide (-9223372036854775808≤n)&&decide (n≤9223372036854775807)) then some (.s (itoa n),none) else none
  |_=>none
 |2,t,h=>match t with
  |[v,.s sep]=>match strsAt h v with
   |none=>none
   |some l=>if Nat.ble l.length 140737488355328&&Nat.ble (ziV sep l).length 140737488355328 then some (.s (ziV sep l),none) else none
  |_=>none
 |3,t,h=>match t with
  |[.s l]=>if zhl (h.get zgE)&&(zhl (h.get zgJ)&&Nat.ble l.length 281474976710656) then
    match ziU l with
    |.ok n=>some (.tup [.i .i64 n,.in0],none)
    |Lib.NumEnd.syntax=>some (.tup [.i .i64 0,.ifc zfY (.p h.next 0)],some (.ro [none,none,none]))
    |.range=>some (.tup [.i .i64 (Lib.atoiSat (l.map UInt8.ofNat)),.ifc zfY (.p h.next 0)],some (.ro [none,none,none]))
   else none
  |_=>none
 |5,t,_=>match t with
  |[.s l,.i .u8 (.ofNat c)]=>if Nat.blt c 256 then some (.i .i64 (idxB c l 0),none) else none
  |_=>none
 |6,t,_=>match t with
  |[.s l,.i .u8 (.ofNat c)]=>if Nat.blt c 256 then some (.i .i64 (.ofNat (l.countP (Nat.beq c))),none) else none
  |_=>none
 |7,t,_=>match t with
  |[.s l,.i .u8 c]=>some (.i .i64 (idxB c.toNat l 0),none)
  |_=>none
 |8,t,_=>match t with
  |[.i .i64 (.ofNat n)]=>if Nat.blt n 100 then some (.s (zaV n),none) else none
  |_=>none
 |9,t,_=>match t with
  |[]=>some (.b true,none)
  |_=>none
 |_,_,_=>none
end Go.Air
namespace Go.Air
open Go.Air.Sha (rotr)
def u32 (x:BitVec 32):V:=.i .u32 (x.toNat:Int)
def u8 (c:Nat):V:=.i .u8 (c:Int)
@[go_sem] theorem zpd (x:BitVec 32):(u32 x).cells=[u32 x]:=rfl
theorem zgA (n:Int):IntKind.u32.wrap n=n%4294967296:=by simp[IntKind.wrap,IntKind.signed,IntKind.bits]
theorem zfS (n:Int):IntKind.u8.wrap n=n%256:=by simp[IntKind.wrap,IntKind.signed,IntKind.bits]
theorem zdn (n:Int):IntKind.u64.wrap n=n%18446744073709551616:=by simp[IntKind.wrap,IntKind.signed,IntKind.bits]
theorem lt32 (x:BitVec 32):x.toNat<4294967296:=x.isLt
theorem zkc (x:BitVec 32):BitVec.ofInt 32 (x.toNat:Int)=x:=by
 apply BitVec.eq_of_toNat_eq
 rw[BitVec.toNat_ofInt]
 have:=lt32 x
 omega
theorem znV (f:BitVec 32→BitVec 32→BitVec 32) (x y:BitVec 32):ziW .u32 f (x.toNat:Int) (y.toNat:Int)=u32 (f x y):=by
 unfold ziW u32
 have h:((BitVec.ofInt (IntKind.u32).bits (x.toNat:Int)):BitVec 32)=x:=zkc x
 have h2:((BitVec.ofInt (IntKind.u32).bits (y.toNat:Int)):BitVec 32)=y:=zkc y
 show V.i .u32 (IntKind.u32.wrap ((f (BitVec.ofInt 32 (x.toNat:Int)) (BitVec.ofInt 32 (y.toNat:Int))).toNat:Int))=_
 rw[zkc,zkc,zgA]
 have:=lt32 (f x y)
 congr 1
 omega
section
variable {x y:BitVec 32}
@[go_sem] theorem u32_xor:binV .xor (u32 x) (u32 y)=some (u32 (x ^^^ y)):=by
 exact congrArg some (znV (fun x y=>x ^^^ y) x y)
@[go_sem] theorem u32_and:binV .and (u32 x) (u32 y)=some (u32 (x &&& y)):=by
 exact congrArg some (znV (fun x y=>x &&& y) x y)
@[go_sem] theorem u32_or:binV .or (u32 x) (u32 y)=some (u32 (x ||| y)):=by
 exact congrArg some (znV (fun x y=>x ||| y) x y)
@[go_sem] theorem u32_not:unV .xor (u32 x)=some (u32 (~~~x)):=by
 show some (ziW .u32 (fun x y=>x ^^^ y) (if (IntKind.u32).signed then -1 else (IntKind.u32).max) (x.toNat:Int))=_
 have:(if (IntKind.u32).signed then -1 else (IntKind.u32).max)=((4294967295#32:BitVec 32).toNat:Int):=by decide
 rw[this]
 refine congrArg some ((znV (fun x y=>x ^^^ y) _ x).trans (congrArg u32 ?_))
 have h1:(4294967295#32:BitVec 32)=BitVec.allOnes 32:=by decide
 exact (congrArg (· ^^^ x) h1).trans BitVec.allOnes_xor
@[go_sem] theorem u32_add:binV .add (u32 x) (u32 y)=some (u32 (x+y)):=by
 show some (V.i .u32 (IntKind.u32.wrap ((x.toNat:Int)+(y.toNat:Int))))=_
 rw[zgA]
 unfold u32
 rw[BitVec.toNat_add]
 congr 2
theorem zhf {k:IntKind} {n:Nat} (hn:n<32):binV .shl (u32 x) (.i k (n:Int))=some (u32 (x <<< n)):=by
 show shI .shl .u32 (x.toNat:Int) (n:Int)=_
 unfold shI
 rw[if_neg (by omega)]
 simp only[Int.toNat_natCast]
 have hb:(IntKind.u32).bits=32:=rfl
 rw[hb,Nat.min_eq_left (by omega),zgA]
 unfold u32
 rw[BitVec.toNat_shiftLeft,Nat.shiftLeft_eq]
 congr 2
theorem zeC {k:IntKind} {n:Nat} (hn:n<32):binV .shr (u32 x) (.i k (n:Int))=some (u32 (x >>> n)):=by
 show shI .shr .u32 (x.toNat:Int) (n:Int)=_
 unfold shI
 rw[if_neg (by omega)]
 simp only[Int.toNat_natCast]
 have hb:(IntKind.u32).bits=32:=rfl
 rw[hb,Nat.min_eq_left (by omega)]
 unfold u32
 rw[BitVec.toNat_ushiftRight,Nat.shiftRight_eq_div_pow]
 have e:(2:Int)^n=((2^n:Nat):Int):=by simp
 rw[e,Int.fdiv_eq_ediv_of_nonneg _ (Int.natCast_nonneg _)]
 rfl
@[go_sem] theorem zqU {c:Nat} (hc:c<256):zca .u32 (u8 c)=some (u32 (BitVec.ofNat 32 c)):=by
 unfold u8 zca u32
 simp only[zgA,BitVec.toNat_ofNat]
 congr 2
@[go_sem] theorem conv_u32_u8:zca .u8 (u32 x)=some (u8 (x.toNat%256)):=by
 unfold u8 zca u32
 simp only[zfS]
 congr 2
end
end Go.Air
set_option maxRecDepth 100000
namespace Go.Air
theorem zaq {i:Nat} (hi:i<1000000000):IntKind.i64.wrap ((i:Int)+1)=((i+1:Nat):Int):=by rw[zap (by omega) (by omega)];simp
theorem zaz {α:Type} {xs:List α} {i:Nat} {x:α} (hx:xs[i]? = some x):xs.take (i+1)=xs.take i++[x]:=by
 rw[List.take_add_one,hx];rfl
theorem zbs {tbl:Tb} {l:List O} {t:List V} {h:H} {Q:Out→List V→H→Prop} (P:List V→Prop) (hp:P t) (H:∀t',P t'→WL tbl l t' h Q):WL tbl l t h Q:=H t hp
theorem W_gen {tbl:Tb} {c:C} {t:List V} {h:H} {Q:Out→List V→H→Prop} (P:List V→Prop) (hp:P t) (H:∀t',P t'→W tbl c t' h Q):W tbl c t h Q:=H t hp
theorem zdy {tbl:Tb} {l:List O} {t:List V} {h:H} {f:List Foot} {U:List V→H→List Foot→Prop} (P:List V→Prop) (hp:P t) (H:∀t',P t'→WD tbl l t' h f U):WD tbl l t h f U:=H t hp
theorem zjF {tbl:Tb} {l:List O} {t:List V} {h:H} {T:List V→H→Prop} (P:List V→Prop) (hp:P t) (H:∀t',P t'→WE tbl l t' h T):WE tbl l t h T:=H t hp
theorem zht {tbl:Tb} {l:List O} {t:List V} {h:H} {Q:Out→List V→H→Prop} (P:List V→H→Prop) (hp:P t h) (H:∀t' h',P t' h'→WL tbl l t' h' Q):WL tbl l t h Q:=H t h hp
section
variable {h h':H} {b:Nat} {c:List V}
theorem zar {k:Nat} (g:h.get b=some (.cells c)) (hk:c.length=k):ldnV h k (.p b 0)=some (.agg c):=by
 have:cut c 0 k=some c:=zbh.2 ⟨by omega,by simp[← hk]⟩
 simp[ldnV,g,Blk.rd,this]
theorem zad {i:Nat} {x:V} (g:h.get b=some (.cells c)) (hx:c[i]? = some x):ldV h (.p b i)=some x:=by
 simp[ldV,g,Blk.rd1,zdB,hx]
theorem zeX {i:Nat} {x:V} (g:h.get b=some (.cells c)) (hx:c[i]? = some x):ldV h (.p b (0+i*1))=some x:=by
 rw[show 0+i*1=i by omega];exact zad g hx
theorem Ext.get (e:Ext h h') {x:Blk} (hb:b<h.next) (g:h.get b=some x):h'.get b=some x:=(e.same b hb).trans g
theorem lay_one {l:List V} {i:Nat} {x:V} (hi:i<l.length):lay l i [x]=some (l.set i x):=by
 refine zeu.2 ⟨by simp;omega,?_⟩
 rw[List.set_eq_take_append_cons_drop,if_pos hi]
 simp
theorem zbB {i:Nat} {x:V} (g:h.get b=some (.cells c)) (hi:i<c.length) (hx:x.cells=[x]) (ho:x.oneCell=true):stV h 1 (.p b i) x=some (h.put b (.cells (c.set i x))):=by
 simp[stV,hx,storeAt,g,lay_one hi,ho]
theorem zdF {i:Nat} {x:V} (g:h.get b=some (.cells c)) (hi:i<c.length) (hx:x.cells=[x]) (ho:x.oneCell=true):stV h 1 (.p b (0+i*1)) x=some (h.put b (.cells (c.set i x))):=by
 rw[show 0+i*1=i by omega];exact zbB g hi hx ho
theorem zal {k:Nat} {d:List V} (g:h.get b=some (.cells c)) (hk:c.length=k) (hd:d.length=k) (ho:∀u∈d,u.oneCell=true):stV h k (.p b 0) (.agg d)=some (h.put b (.cells d)):=by
 have h1:lay c 0 d=some d:=zeu.2 ⟨by omega,by simp[show c.length≤d.length by omega]⟩
 have h2:d.all V.oneCell=true:=List.all_eq_true.2 ho
 have h3:Nat.beq d.length k=true:=by rw[Nat.beq_eq];exact hd
 simp only[stV,V.cells,h3,if_true,storeAt,g,h1,h2]
theorem zaf {x:Blk} (hb:b<h.next):(h.new x).get b=h.get b:=by rw[H.get_new,if_neg (by omega)]
theorem zac {x:Blk} (hb:b=h.next):(h.new x).get b=some x:=by rw[H.get_new,if_pos hb]
theorem zab {x:Blk}:(h.put b x).get b=some x:=by rw[H.get_put,if_pos rfl]
theorem zaa {d:Nat} {x:Blk} (hd:d≠b):(h.put b x).get d=h.get d:=by rw[H.get_put,if_neg hd]
end
def Sc (esz:Nat) (h:H) (v:V) (n:Nat) (cs:List V):Prop:=
 ∃b off cap g bl,v=.sl b off n cap g∧n≤cap∧(g=none∨g=some esz)∧b<h.next∧h.get b=some bl∧bl.rd off (n*esz)=some cs
section
variable {esz n:Nat} {h h':H} {v:V} {cs:List V}
theorem Sc.sl (s:Sc esz h v n cs):Sl esz h v n cs:=by
 obtain⟨b,off,cap,g,bl,q1,_,_,q2⟩:=s
 exact .inr ⟨b,off,cap,g,bl,q1,q2⟩
theorem Sc.ext (s:Sc esz h v n cs) (e:Ext h h'):Sc esz h' v n cs:=by
 obtain⟨b,off,cap,g,bl,q1,q2,q3,q4,q5,q6⟩:=s
 exact⟨b,off,cap,g,bl,q1,q2,q3,Nat.lt_of_lt_of_le q4 e.nx,(e.same b q4).trans q5,q6⟩
theorem Sc.keep (s:Sc esz h v n cs) (hn:h.next≤h'.next) (hk:h'.get (blkV v)=h.get (blkV v)):Sc esz h' v n cs:=by
 obtain⟨b,off,cap,g,bl,rfl,q2,q3,q4,q5,q6⟩:=s
 exact⟨b,off,cap,g,bl,rfl,q2,q3,Nat.lt_of_lt_of_le q4 hn,hk.trans q5,q6⟩
theorem Sc.lt (s:Sc esz h v n cs):blkV v<h.next:=by
 obtain⟨b,off,cap,g,bl,rfl,q2,q3,q4,_⟩:=s
 exact q4
theorem Sc.lh (s:Sc esz h v n cs) {a b:Nat} (hab:a≤b) (hb:b≤n) (ha:a<n) :
 ∃u,slLH esz v (.i .i64 (a:Int)) (.i .i64 (b:Int))=some u∧Sc esz h u (b-a) ((cs.drop (a*esz)).take ((b-a)*esz))∧blkV u=blkV v:=by
 obtain⟨blk,off,cap,g,bl,rfl,q2,q3,q4,q5,q6⟩:=s
 have key:bl.rd (off+a*esz) ((b-a)*esz)=some ((cs.drop (a*esz)).take ((b-a)*esz)):=znk q6 (by
  have:(a+(b-a))*esz≤n*esz:=Nat.mul_le_mul_right _ (by omega)
  rw[Nat.add_mul]at this;exact this)
 have hbd:zbr [V.i .i64 (a:Int),V.i .i64 (b:Int)] n cap (some (.t 0)) (some (.t 1))=some (a,b):=ziT rfl rfl (by omega) hab
 have h1:Nat.beq a cap=false:=by rw[Bool.eq_false_iff,ne_eq,Nat.beq_eq];omega
 have h2:Nat.blt a cap=true:=by rw[Nat.blt_eq];omega
 unfold slLH
 rcases q3 with rfl|rfl
 ·refine⟨.sl blk (off+a*esz) (b-a) (cap-a) none,?_,⟨blk,_,_,none,bl,rfl,by omega,.inl rfl,q4,q5,key⟩,rfl⟩
  simp only[zck,hbd,h1,Bool.false_eq_true,if_false]
 ·refine⟨.sl blk (off+a*esz) (b-a) (cap-a) (some esz),?_,⟨blk,_,_,some esz,bl,rfl,by omega,.inr rfl,q4,q5,key⟩,rfl⟩
  have h3:Nat.beq esz esz=true:=by simp
  simp only[zck,hbd,h2,h3,Bool.and_self,if_true]
end
theorem Own.sc {h0 h:H} {esz n:Nat} {v:V} {cs:List V} (o:Own h0 esz h v n cs) (hn:0<n):Sc esz h v n cs:=by
 obtain⟨hl,⟨rfl,_⟩|⟨b,g,rfl,hg,_,h2,h3⟩⟩:=o
 ·omega
 ·exact⟨b,0,n,g,_,rfl,Nat.le_refl _,hg,h2,h3,zbh.2 ⟨by omega,by rw[← hl];simp⟩⟩
theorem zdq {h:H} {t:List V} {n b k:Nat} {cs:List V} (hn:nth t n=.p b 0) (hg:h.get b=some (.cells cs)) (hk:cs.length=k):zao t h [.cell n (some k)]=some [.agg cs]:=by
 have:cut cs 0 k=some cs:=zbh.2 ⟨by omega,by simp[← hk]⟩
 simp only[zao,zdY,hn,hg,this,Option.map_some]
theorem zeB (l:List Nat):∀u∈l.map u8,u.oneCell=true:=by
 intro u hu
 obtain⟨n,_,rfl⟩:=List.mem_map.1 hu
 rfl
end Go.Air
namespace Go.Air.Try
def tb0:Tb:=⟨tree.get,zcg,ext⟩
end Go.Air.Try
set_option maxRecDepth 100000
namespace Go.Air.Try
def fiV (k:Nat):Option FI:=if k=16 then some (zaY 1 0) else tree.get k
def tbV:Tb:=⟨fiV,zcg,ext⟩
end Go.Air.Try
namespace Go.Air
def Wd (ro:Option Nat):Fence:={ Fence.wide with round:=ro }
def allB:Nat→Prop:=fun _=>True
section
variable {P:Program} {F:Nat→Prop} {R R1:Emb} {h h1 h':H} {w w1:World} {t t':List V} {a:Act} {v:V}
theorem Sim.sub {G:Nat→Prop} (hs:Sim P F R h.get w) (hG:∀b,G b→F b):Sim P G R h.get w:=
 ⟨fun b c sz x hb=>hs.blk b c sz x (hG b hb),fun b b' c sz sz' x x' h1 h2=>hs.inj b b' c sz sz' x x' (hG b h1) (hG b' h2),hs.lt,hs.fix⟩
def Upon (P:Program) (nx:Next) (w:World) (K:Ending→World→Prop):Prop:=
 match nx with
 |.value x=>K (.returned x) w
 |.skip=>K (.returned undef) w
 |.enter f args=>∀ro n,CallsIn (Wd ro) n P f args w K
 |.round l f tmps assign body=>∀ro n,RoundIn (Wd ro) n P l f tmps assign body w K
 |_=>False
def zes (P:Program) (F:Nat→Prop) (R:Emb) (h:H) (w:World) (r:RO):Ending→World→Prop
 |.returned x,w'=>match r with
  |.ok v h'=>PostV P F R h w v h' x w'
  |_=>False
 |.panicked chain,w'=>match r with
  |.pan v h'=>∃x,chain=[{ v:=x,recovered:=false }]∧PostV P F R h w v h' x w'
  |_=>False
 |.outgrown,_=>False
def RO.Gives (r:RO) (h':H):Prop:=match r with
 |.ok _ h=>h'=h
 |.pan _ h=>h'=h
 |.fail=>False
theorem RO.Gives.or {r:RO} {h':H} (g:r.Gives h'):(∃v,r=.ok v h')∨∃v,r=.pan v h':=by
 cases r with
 |fail=>exact g.elim
 |ok v h=>exact .inl ⟨v,by rw[show h'=h from g]⟩
 |pan v h=>exact .inr ⟨v,by rw[show h'=h from g]⟩
theorem RO.gives_ok {v:V} {h':H}:(RO.ok v h').Gives h':=rfl
theorem RO.gives_pan {v:V} {h':H}:(RO.pan v h').Gives h':=rfl
def zcy (P:Program) (call:V→List V→H→RO):Prop:=
 ∀(f:V) (args:List V) (h h':H) (r:RO) (R:Emb) (w:World) (fv:Value) (vs:List Value),call f args h=r→r.Gives h'→Sim P allB R h.get w→Fresh R h h'→WF h →
  conc R f=some fv→zae R args=some vs →
  ∃nx w1,(do let d ← Deferred.ofValue fv vs.toArray;invoke d.target d.args:Sem Next).run P w=.ok nx w1∧Upon P nx w1 (zes P allB R h w r)
theorem upon_in {o:Oper} {n:Nat} {ro:Option Nat} {next:Act→World→Prop} {Q:Exit→Act→World→Prop} {nx:Next} {r:RO} {wx:World} (hu:Upon P nx wx (zes P F R h w r))
 (hn:∀v h' x w',r=.ok v h'→PostV P F R h w v h' x w'→next (a.put o.dst x) w')
 (hp:∀v h' x w',r=.pan v h'→PostV P F R h w v h' x w'→Q (.panic [{ v:=x,recovered:=false }]) a w'):o.uponIn (Wd ro) n P a next Q (.ok nx wx):=by
 have room:((Wd ro).depth.isSome=true→1≤n):=fun h=>by simp[Wd,Fence.wide]at h
 have ret:∀x w',zes P F R h w r (.returned x) w'→next (a.put o.dst x) w':=by
  intro x w' q
  cases r with
  |ok v h'=>exact hn v h' x w' rfl q
  |_=>exact q.elim
 have pan:∀chain w',zes P F R h w r (.panicked chain) w'→Q (.panic chain) a w':=by
  intro chain w' q
  cases r with
  |pan v h'=>obtain⟨x,rfl,q⟩:=q;exact hp v h' x w' rfl q
  |_=>exact q.elim
 cases nx<;>first|exact hu.elim|skip
 case value x=>exact ret _ _ hu
 case skip=>exact ret _ _ hu
 case enter f args=>
  refine⟨room,(hu ro (n-1)).mono ?_⟩
  intro e w' he
  cases e with
  |returned v=>exact ret _ _ he
  |panicked _=>exact pan _ _ he
  |outgrown=>exact he.elim
 case round l f tmps assign body=>
  refine⟨room,(hu ro (n-1)).mono ?_⟩
  intro e w' he
  cases e with
  |returned v=>exact ret _ _ he
  |panicked _=>exact pan _ _ he
  |outgrown=>exact he.elim
theorem zcN (ht:zae R t=some a.tmps.toList):zba R t a.eval:=by
 intro x y hxy
 unfold okX at hxy
 split at hxy<;>try simp at hxy
 ·subst hxy
  have:=zia ht ‹Nat›
  simp only[X.ev,Act.eval]
  rw[this]
  simp[Array.getD_eq_getD_getElem?,List.getD_eq_getElem?_getD]
 ·exact zdv R _ _ hxy
 ·subst hxy
  simp[X.ev,Act.eval,conc,zae]
theorem PostV.all {v:V} {x:Value} {w':World} (q:PostV P allB R h w v h' x w'):PostV P F R h w v h' x w':=
 let ⟨R',l,q1,q2,q3⟩:=q
 ⟨R',l,q1,⟨fun b c sz x _=>q2.blk b c sz x trivial,fun b b' c sz sz' x x' _ _=>q2.inj b b' c sz sz' x x' trivial trivial,q2.lt,q2.fix⟩,q3⟩
theorem op_wp {o:Oper} {ao:A} {n:Nat} {ro:Option Nat} {next:Act→World→Prop} {Q:Exit→Act→World→Prop} {call:V→List V→H→RO} {r:RO} (hc:zcy P call)
 (hok:okA P o.op ao=true) (hρ:zba R t a.eval) (hs:Sim P F R h.get w) (hF:zco F (reads ao t)) (hfr:Fresh R h h') (hw:WF h) (he:evA call ao t h=r) (hg:r.Gives h')
 (hn:∀v x w',r=.ok v h'→PostV P F R h w v h' x w'→next (a.put o.dst x) w')
 (hp:∀v x w',r=.pan v h'→PostV P F R h w v h' x w'→Q (.panic [{ v:=x,recovered:=false }]) a w'):o.wpIn (Wd ro) n P a w next Q:=by
 refine⟨fun _ _=>trivial,?_⟩
 obtain⟨dst,op,ty,pos,af,gd⟩:=o
 simp only at hok
 have hsem:Oper.semAt (Wd ro).round a.eval ⟨dst,op,ty,pos,af,gd⟩=execOp a.eval ⟨dst,op,ty,pos,af,gd⟩:=by
  refine Oper.semAt_eq _ _ _ (fun c hcc => ?_)
  simp only at hcc
  subst hcc
  cases ao<;>first|exact (Bool.false_ne_true hok).elim|(simp[evA]at he;subst he;exact hg.elim)
 rw[hsem]
 by_cases hcall:∃f xs,ao=.call f xs
 ·obtain⟨f,xs,rfl⟩:=hcall
  have hall:∀b,F b:=hF
  cases op<;>try exact (Bool.false_ne_true hok).elim
  rename_i c
  have hok:(match c.callee with
   |.value g=>okX g f&&okXs c.args.toList xs
   |_=>false)=true:=hok
  split at hok<;>try simp at hok
  rename_i g hgc
  obtain⟨h1,h2⟩:=hok
  have hfv:=hρ g f h1
  have hxs:=zdK hρ _ _ h2
  obtain⟨nx,wx,hr,hu⟩:=hc _ _ _ _ _ R w _ _ he hg (hs.sub fun b _=>hall b) hfr hw hfv hxs
  have hr':(execOp a.eval ⟨dst,.call c,ty,pos,af,gd⟩).run P w=.ok nx wx:=by
   simp only[execOp,resolve,hgc]
   rw[show c.args.map a.eval=(c.args.toList.map a.eval).toArray from Array.toList_inj.1 (by simp)]
   exact hr
  rw[hr']
  refine upon_in hu (fun v h1 x w' hv q => ?_) (fun v h1 x w' hv q => ?_)
  ·have hh:h'=h1:=by rw[hv]at hg;exact hg
   subst hh
   exact hn v x w' hv q.all
  ·have hh:h'=h1:=by rw[hv]at hg;exact hg
   subst hh
   exact hp v x w' hv q.all
 ·rcases hg.or with⟨v,hv⟩|⟨v,hv⟩
  ·obtain⟨nx,x,w',hr,hnx,hpv⟩:=zpp (dst:=dst) (ty:=ty) (pos:=pos) (af:=af) (gd:=gd) hok (fun f xs e=>hcall ⟨f,xs,e⟩) hρ hs hF hfr (he.trans hv)
   rw[hr]
   rcases hnx with rfl|⟨rfl,rfl⟩
   ·exact hn _ _ _ hv hpv
   ·exact hn _ _ _ hv hpv
  ·rcases zkr (he.trans hv) with⟨y,k,u,rfl,q1,rfl,rfl⟩|⟨f,xs,e,_⟩
   ·cases op<;>try exact (Bool.false_ne_true hok).elim
    rename_i x
    have hx:=hρ x y hok
    rw[q1]at hx
    obtain⟨z,_,hxe⟩:=zic hx
    have hrun:(execOp a.eval ⟨dst,.panic x,ty,pos,af,gd⟩).run P w=.halt (.panic (a.eval x)) w:=by
     simp only[execOp,Sem.run_bind,hxe,Instr.panic,run_goPanic,Result.andThen]
    rw[hrun]
    exact hp _ _ _ hv (.same hs hx)
   ·exact absurd ⟨f,xs,e⟩ hcall
theorem zdr {x:Value} {dst:Option Tmp} {d:Option Nat} (hd:zlc dst d=true) (ht:zae R t=some a.tmps.toList) (hv:conc R v=some x) :
 zae R (putD t d v)=some (a.put dst x).tmps.toList:=by
 unfold zlc at hd
 split at hd<;>try simp at hd
 ·exact ht
 ·subst hd
  simp only[putD,Act.put,Array.toList_setIfInBounds]
  exact zhZ _ ht hv
theorem zaL {x:Value} {dst:Option Tmp}:(a.put dst x).defers=a.defers:=by cases dst<;>rfl
theorem zfa {ops:Array Oper} {o:Oper} {g:Option (Nat × Bool)} (hg:okG ops o.guard g=true) (ht:zae R t=some a.tmps.toList) :
 Region.wanted o (yielded ops a.tmps)=zcp g t:=by
 unfold okG at hg
 split at hg<;>try simp at hg
 ·rename_i h1
  simp[Region.wanted,h1,zcp]
 ·rename_i j w1 d w2 h1
  obtain⟨rfl,hd⟩:=hg
  split at hd<;>try simp at hd
  rename_i o' ho
  have hdst:o'.dst=some d:=by
   cases hq:o'.dst with
   |none=>rw[hq]at hd;exact (Bool.false_ne_true hd).elim
   |some e=>
    rw[hq]at hd
    have hd:Nat.beq e d=true:=hd
    rw[Nat.beq_eq]at hd
    rw[hd]
  simp only[Region.wanted,h1,yielded,ho,hdst,Option.bind_some,zcp]
  have hcn:=zia ht d
  rw[List.getD_eq_getElem?_getD,Array.getElem?_toList]at hcn
  cases hq:a.tmps[d]? with
  |none=>
   have:t.length≤d:=by
    have e:=zan ht
    rw[Array.getElem?_eq_none_iff]at hq
    simp at e
    omega
   have:nth t d=.undef:=by rw[zgN];simp[this]
   rw[this]
   rfl
  |some x=>
   rw[hq,Option.getD_some]at hcn
   cases hn:nth t d with
   |b y=>
    rw[hn]at hcn
    simp[conc]at hcn
    subst hcn
    cases y<;>cases w1<;>rfl
   |_=>
    rw[hn]at hcn
    have:∀b,x≠.bool b:=by
     intro b e
     subst e
     first|(simp[conc]at hcn;done)|(simp only[conc]at hcn;split at hcn<;>simp at hcn;done)|(rename_i gr;cases gr<;>first|(simp[conc]at hcn;done)|(simp only[conc,Option.bind_eq_some_iff]at hcn;obtain⟨y,_,h2⟩:=hcn;split at h2<;>simp at h2;done))
    cases x<;>first|rfl|exact absurd rfl (this _)
end
end Go.Air
namespace Go.Air
theorem least {p:Nat→Prop} (h:∃j,p j):∃m,p m∧∀j,p j→m≤j:=by
 obtain⟨j,hj⟩:=h
 induction j using Nat.strongRecOn with
 |_ j ih=>
  by_cases hl:∃i,i<j∧p i
  ·obtain⟨i,hi,hp⟩:=hl
   exact ih i hi hp
  ·exact⟨j,hj,fun i hi=>Nat.le_of_not_lt fun hlt=>hl ⟨i,hlt,hi⟩⟩
theorem zjJ {F:Fence} {n:Nat} {P:Program} {Q:Exit→Act→World→Prop} {a:Act} {w:World} {c:Code} (J:Nat→Act→World→Prop) (h0:∃j,J j a w)
 (round:∀j a w,J j a w→c.wpIn F n P (Exit.then (fun a' w'=>∃j',j'<j∧J j' a' w') Q) a w):(Code.loop c).wpIn F n P Q a w:=by
 classical
 refine wpIn_loop (fun a w=>∃j,J j a w) (fun a w=>if h:∃j,J j a w then Classical.choose (least h) else 0) h0 ?_
 intro a w hj
 have hfind:=(Classical.choose_spec (least hj)).1
 refine wpIn_mono (round _ a w hfind) ?_
 intro e a' w' hq
 cases e with
 |normal=>
  obtain⟨j',hlt,hj'⟩:=hq
  refine⟨⟨j',hj'⟩,?_⟩
  simp only[dif_pos hj,dif_pos (⟨j',hj'⟩:∃j,J j a' w')]
  exact Nat.lt_of_le_of_lt ((Classical.choose_spec (least (⟨j',hj'⟩:∃j,J j a' w'))).2 _ hj') hlt
 |_=>exact hq
section
variable {P:Program} {b:Frame} {a:Act} {k:List Item} {cs:List Frame} {w:World} {Q:Exit→Act→World→Prop} {F:Fence} {n:Nat}
theorem zcB {c:Code}:step P (lone (b.atR a (.code (.scope c)::k)) cs w)=.next (lone (b.atR a (.code c::.inScope c::k)) cs w):=
 step_lone_go (by simp[stepG,stepG.exec,Frame.atR])
theorem zjS {c:Code}:step P (lone (b.atR a (.inScope c::k)) cs w)=.next (lone (b.atR a k) cs w):=
 step_lone_go (by simp[stepG,stepG.exec,Frame.atR])
theorem zfT {c:Code} (h:c.wpIn F n P (Exit.noGoto Q) a w):(Code.scope c).wpIn F n P Q a w:=by
 intro b k cs hro hb hr
 have h0:(lone (b.atR a (.code (.scope c)::k)) cs w).fenced P F:=fenced_calm hb hr rfl
 obtain⟨e,a₁,w₁,hq,harr⟩:=h b (.inScope c::k) cs hro hb hr
 cases e with
 |normal=>exact⟨.normal,a₁,w₁,hq,.head h0 zcB (StepsIn.trans harr (.one (fenced_calm hb hr rfl) zjS))⟩
 |exit id=>
  have hx:exitTo id (.inScope c::k)=exitTo id k:=by simp[exitTo]
  exact⟨.exit id,a₁,w₁,hq,fun k' hk=>.head h0 zcB (harr.1 k' (by rw[hx];exact hk)),
   fun hr' hk=>let ⟨k₁,h1,h2⟩:=harr.2 hr' (by rw[hx];exact hk);⟨k₁,h1,.head h0 zcB h2⟩⟩
 |goto l=>exact hq.elim
 |ret=>exact⟨_,a₁,w₁,hq,.of_steps (.one h0 zcB) harr⟩
 |panic ch=>exact⟨_,a₁,w₁,hq,.of_steps (.one h0 zcB) harr⟩
 |outgrown=>exact⟨_,a₁,w₁,hq,.of_steps (.one h0 zcB) harr⟩
end
section
variable {P:Program} {R R1 R':Emb} {h h1 h':H} {w w1 w':World} {t t':List V} {a:Act} {v:V} {m:Nat}
def Marks (m:Nat) (R:Emb) (w:World):List Deferred→Prop
 |[]=>True
 |d::ds=>(∃D,d={ target:=.collected D,args := #[] }∧m≤D∧D<w.heap.size∧w.heap[D]? = some (.deferred (some []))∧(∀b sz,R b≠some (D,sz)) ∧
   ∀e∈ds,e.target≠.collected D)∧Marks m R w ds
theorem Marks.fwd {l:List Nat} (f:Fwd R R' h h' w w' l):∀{ds:List Deferred},Marks m R w ds→Marks m R' w' ds
 |[],_=>trivial
 |d::ds,⟨⟨D,h1,h2,h3,h4,h5,h6⟩,hs⟩=>by
  refine⟨⟨D,h1,h2,Nat.lt_of_lt_of_le h3 f.size,?_,?_,h6⟩,hs.fwd f⟩
  ·rw[f.frame D h3 (fun b sz hb=>absurd hb (h5 b sz))];exact h4
  ·intro b sz hb
   rcases f.new b D sz hb with q|⟨_,_,q|⟨b0,s0,q,_⟩⟩
   ·exact h5 b sz q
   ·omega
   ·exact h5 b0 s0 q
theorem Marks.took {D:Nat}:∀{ds:List Deferred},(∀e∈ds,e.target≠.collected D)→Marks m R w ds→Marks m R (w.putObj D (.deferred none)) ds
 |[],_,_=>trivial
 |d::ds,hne,⟨⟨E,h1,h2,h3,h4,h5,h6⟩,hs⟩=>by
  have hED:E≠D:=by
   intro e;subst e
   exact hne d (by simp) (by rw[h1])
  refine⟨⟨E,h1,h2,by simpa using h3,?_,h5,h6⟩,Marks.took (fun e he=>hne e (by simp[he])) hs⟩
  rw[World.putObj_heap_other hED];exact h4
def MarksOn (D0:List Deferred) (m:Nat) (R:Emb) (w:World) (ds:List Deferred):Prop:=∃ms,ds=ms++D0∧Marks m R w ms
theorem MarksOn.fwd {D0:List Deferred} {l:List Nat} {ds:List Deferred} (h:MarksOn D0 m R w ds) (f:Fwd R R' h1 h' w w' l):MarksOn D0 m R' w' ds:=
 let ⟨ms,e,q⟩:=h;⟨ms,e,q.fwd f⟩
theorem MarksOn.nil {D0:List Deferred}:MarksOn D0 m R w D0:=⟨[],rfl,trivial⟩
def exitIs (R:Emb):Out→Exit→Prop
 |.norm,e=>e=.normal
 |.exit i,e=>e=.exit i
 |.ret,e=>e=.ret
 |.pan v,e=>∃x,conc R v=some x∧e=.panic [{ v:=x,recovered:=false }]
theorem exitIs.mono {R R':Emb} (hR:R.le R') {o:Out} {e:Exit} (h:exitIs R o e):exitIs R' o e:=by
 cases o with
 |pan v=>obtain⟨x,h1,h2⟩:=h;exact⟨x,zdh hR _ _ h1,h2⟩
 |_=>exact h
def PostE (P:Program) (D0:List Deferred) (m:Nat) (R:Emb) (h:H) (w:World) (o:Out) (t':List V) (h':H) (e:Exit) (a':Act) (w':World):Prop:=
 ∃R' l,exitIs R' o e∧Fwd R R' h h' w w' l∧Sim P allB R' h'.get w'∧zae R' t'=some a'.tmps.toList∧MarksOn D0 m R' w' a'.defers
abbrev PostA (P:Program) (D0:List Deferred) (m:Nat) (R:Emb) (h:H) (w:World) (t':List V) (h':H) (a':Act) (w':World):Prop:=PostE P D0 m R h w .norm t' h' .normal a' w'
theorem PostE.step {D0:List Deferred} {o:Out} {e:Exit} {a':Act} {l:List Nat} (f:Fwd R R1 h h1 w w1 l) (hp:PostE P D0 m R1 h1 w1 o t' h' e a' w'):PostE P D0 m R h w o t' h' e a' w':=
 let ⟨R',l',q0,q1,q2⟩:=hp
 ⟨R',_,q0,f.trans q1,q2⟩
theorem PostE.here {D0:List Deferred} {o:Out} {e:Exit} (he:exitIs R o e) (hs:Sim P allB R h.get w) (ht:zae R t=some a.tmps.toList) (hm:MarksOn D0 m R w a.defers):PostE P D0 m R h w o t h e a w:=⟨R,[],he,.refl R h w,hs,ht,hm⟩
theorem PostE.same {D0:List Deferred} {o:Out} {e:Exit} {a':Act} (hp:PostE P D0 m R h w o t' h' e a' w'):exitIs (fun _=>none) o e∨∃v x,o=.pan v∧e=.panic [{ v:=x,recovered:=false }]:=by
 obtain⟨R',l,q,_⟩:=hp
 cases o with
 |pan v=>obtain⟨x,_,h2⟩:=q;exact .inr ⟨v,x,rfl,h2⟩
 |_=>exact .inl q
def Around (R:Emb) (h:H):Option Nat→Prop
 |none=>True
 |some c=>∃b sz lp,R b=some (c,sz)∧b<h.next∧h.get b=some (.loop lp)
theorem Around.fwd {ro:Option Nat} {l:List Nat} (f:Fwd R R' h h' w w' l) (k:Keep h h') (ha:Around R h ro):Around R' h' ro:=by
 cases ro with
 |none=>trivial
 |some c=>
  obtain⟨b,sz,lp,h1,h2,h3⟩:=ha
  obtain⟨lp',h4⟩:=k.loop b lp h2 h3
  exact⟨b,sz,lp',f.le b _ h1,Nat.lt_of_lt_of_le h2 k.nx,h4⟩
theorem zmu {t:List V} {tmps:Array Value} (hs:Sim P allB R h.get w) (ht:zae R t=some tmps.toList) :
 ∀{rs:List ResultVar} {ms:List ResV} {vs:List V},zeH P rs ms=true→zao t h ms=some vs →
  ∃xs,(rs.mapM (m:=Sem) fun
   |.tmp t=>pure (tmps.getD t undef)
   |.cell a t=>do loadVar t (← asAddr (tmps.getD a undef))).run P w=.ok xs w∧zae R vs=some xs
 |[],[],vs,_,hr=>by
  simp[zao]at hr
  subst hr
  exact⟨[],by simp,zbI R⟩
 |[],_::_,_,ho,_=>by simp[zeH]at ho
 |.tmp _::_,[],_,ho,_=>by simp[zeH]at ho
 |.cell _ _::_,[],_,ho,_=>by simp[zeH]at ho
 |.tmp _::_,.cell _ _::_,_,ho,_=>by simp[zeH]at ho
 |.tmp _::_,.only _::_,_,ho,_=>by simp[zeH]at ho
 |.cell _ _::_,.only _::_,_,ho,_=>by simp[zeH]at ho
 |.cell _ _::_,.tmp _::_,_,ho,_=>by simp[zeH]at ho
 |.tmp x::rs,.tmp y::ms,vs,ho,hr=>by
  simp only[zeH,Bool.and_eq_true,Nat.beq_eq]at ho
  obtain⟨rfl,ho⟩:=ho
  simp only[zao,zdY,Option.map_eq_some_iff]at hr
  obtain⟨vs',hr,rfl⟩:=hr
  obtain⟨xs,h1,h2⟩:=zmu hs ht ho hr
  refine⟨tmps.getD x undef::xs,?_,zah.2 ⟨_,_,?_,h2,rfl⟩⟩
  ·rw[List.mapM_cons]
   simp only[Sem.run_bind,Sem.run_pure,Result.andThen_ok,h1]
  ·have:=zia ht x
   rw[this]
   simp[Array.getD_eq_getD_getElem?,List.getD_eq_getElem?_getD]
 |.cell x ty::rs,.cell y sz::ms,vs,ho,hr=>by
  simp only[zeH,Bool.and_eq_true,Nat.beq_eq]at ho
  obtain⟨⟨rfl,hty⟩,ho⟩:=ho
  simp only[zao]at hr
  split at hr<;>try simp at hr
  rename_i v0 hv0
  obtain⟨vs',hr,rfl⟩:=hr
  obtain⟨xs,h1,h2⟩:=zmu hs ht ho hr
  simp only[zdY]at hv0
  split at hv0<;>try simp at hv0
  rename_i b o hn
  split at hv0<;>try simp at hv0
  rename_i cs hg
  have hx:=zia ht x
  rw[hn,List.getD_eq_getElem?_getD,Array.getElem?_toList]at hx
  obtain⟨c,sz',hb,hxe⟩:=zeT hx
  have hxe':tmps.getD x undef=.pointer (some ⟨c,o,none⟩):=by rw[Array.getD_eq_getD_getElem?,hxe]
  obtain⟨arr,e',ys,rest,g1,g2,g3,g4⟩:=zha hs trivial hb hg
  have hload:∃u,(loadVar ty ⟨c,o,none⟩).run P w=.ok u w∧conc R v0=some u:=by
   cases sz with
   |none=>
    simp only at hty hv0
    rw[zdB]at hv0
    obtain⟨u,hu,hc⟩:=zcb g2 hv0
    have hcell:w.cell? ⟨c,o,none⟩=some u:=zgm g1 (by rw[g3,List.getElem?_append_left (List.getElem?_eq_some_iff.1 hu).1];exact hu)
    exact⟨u,by simp[loadVar,zcX w hty,hcell],hc⟩
   |some k=>
    simp only[Bool.and_eq_true,Option.map_eq_some_iff]at hty hv0
    obtain⟨l,hl,rfl⟩:=hv0
    obtain⟨hle,rfl⟩:=zbh.1 hl
    have hlen:=zan g2
    have hr:=zet (P:=P) g1 g3 (by omega:o+k≤ys.length)
    exact⟨.agg ((ys.drop o).take k).toArray,by simp[loadVar,zdV w hty.1,zaW w hty.2,hr],by simp[conc,zbd k (zbl o g2)]⟩
  obtain⟨u,hu1,hu2⟩:=hload
  refine⟨u::xs,?_,zah.2 ⟨_,_,hu2,h2,rfl⟩⟩
  rw[List.mapM_cons]
  have has:(asAddr (tmps.getD x undef)).run P w=.ok ⟨c,o,none⟩ w:=by rw[hxe'];simp[asAddr]
  simp only[Sem.run_bind,has,Sem.run_pure,Result.andThen_ok,hu1,h1]
theorem zqV {vs:List V} {xs:List Value} (hv:zae R vs=some xs):conc R (zgM vs)=some (if h:xs.toArray.size=1 then xs.toArray[0] else .tuple xs.toArray):=by
 match vs,xs,hv with
 |[],xs,hv=>simp[zae]at hv;subst hv;simp[zgM,conc,zae]
 |[v],xs,hv=>
  obtain⟨x,ys,h1,h2,rfl⟩:=zah.1 hv
  simp[zae]at h2;subst h2
  simpa [zgM] using h1
 |v::v'::vs,xs,hv=>
  obtain⟨x,ys,h1,h2,rfl⟩:=zah.1 hv
  obtain⟨x',ys',h1',h2',rfl⟩:=zah.1 h2
  simp[zgM,conc,hv]
theorem zfW {fn:Func} {t:List V} {tmps:Array Value} {ms:List ResV} {vs:List V} (hs:Sim P allB R h.get w) (ht:zae R t=some tmps.toList) (ho:zeH P fn.results.toList ms=true)
 (hr:zao t h ms=some vs):∃x,(results fn tmps).run P w=.ok x w∧conc R (zgM vs)=some x:=by
 obtain⟨xs,h1,h2⟩:=zmu hs ht ho hr
 refine⟨_,?_,zqV h2⟩
 unfold results
 rw[Array.mapM_eq_mapM_toList]
 simp only[Sem.run_bind,Sem.run_map,Functor.map_map,Sem.run_pure]
 erw [h1]
 rfl
theorem Sim.took {D:Nat} {o:Obj} (hs:Sim P allB R h.get w) (hD:∀b sz,R b≠some (D,sz)):Sim P allB R h.get (w.putObj D o):=
 ⟨fun b c sz x hF hb hx=>(hs.blk b c sz x hF hb hx).mono P R.le_refl (World.putObj_heap_other (fun e=>hD b sz (e▸hb))),hs.inj,fun b c sz hb=>by simpa using hs.lt b c sz hb,hs.fix⟩
theorem Fwd.took {D:Nat} {o:Obj} {l:List Nat} (f:Fwd R R' h h' w w' l) (hD:w.heap.size≤D):Fwd R R' h h' w (w'.putObj D o) l:=
 ⟨f.le,f.log,f.nx,by simpa using f.size,f.new,f.same,fun c hc hl=>by rw[World.putObj_heap_other (by omega)];exact f.frame c hc hl,f.own,f.io.trans ⟨rfl,rfl,rfl⟩⟩
theorem zkg {F:Fence} {n:Nat} {fn:Func} {tmps:Array Value} {K:Ending→World→Prop} {D0:List Deferred} {l:List Nat} {u:FrameMode} (hu:u≠.run) :
 ∀{ms:List Deferred} {w':World},Fwd R R' h h' w w' l→Sim P allB R' h'.get w'→Marks w.heap.size R' w' ms →
  (∀w'',Fwd R R' h h' w w'' l→Sim P allB R' h'.get w''→LeavesInM F n P fn tmps K D0 u w'')→LeavesInM F n P fn tmps K (ms++D0) u w'
 |[],w',f,hs,_,k=>k w' f hs
 |d::ds,w',f,hs,⟨⟨D,h1,h2,h3,h4,h5,h6⟩,hm⟩,k=>by
  refine⟨hu,.inl ⟨D,w'.putObj D (.deferred none),by rw[h1],run_takeDeferred h4,?_⟩⟩
  exact zkg hu (f.took h2) (hs.took h5) (hm.took h6) k
theorem leaves {F:Fence} {n:Nat} {fn:Func} {t:List V} {tmps:Array Value} {ms:List ResV} {vs:List V} {l:List Nat} (ho:zeH P fn.results.toList ms=true) (ht:zae R' t=some tmps.toList)
 (hr:zao t h' ms=some vs) {ds:List Deferred} {w':World} (f:Fwd R R' h h' w w' l) (hs:Sim P allB R' h'.get w') (hm:MarksOn [] w.heap.size R' w' ds) :
   LeavesInM F n P fn tmps (zes P allB R h w (.ok (zgM vs) h')) ds .returning w':=by
 obtain⟨ms,rfl,hm⟩:=hm
 refine zkg (by simp) f hs hm fun w'' f hs => ?_
 obtain⟨x,h1,h2⟩:=zfW hs ht ho hr
 exact⟨x,h1,R',l,f,hs,h2⟩
theorem leavesP {F:Fence} {n:Nat} {fn:Func} {tmps:Array Value} {v:V} {x:Value} {l:List Nat} (hx:conc R' v=some x) {ds:List Deferred} {w':World} (f:Fwd R R' h h' w w' l)
 (hs:Sim P allB R' h'.get w') (hm:MarksOn [] w.heap.size R' w' ds):LeavesInM F n P fn tmps (zes P allB R h w (.pan v h')) ds (.panicking [{ v:=x,recovered:=false }]) w':=by
 obtain⟨ms,rfl,hm⟩:=hm
 refine zkg (by simp) f hs hm fun w'' f hs => ?_
 exact⟨x,rfl,R',l,f,hs,hx⟩
def RL.Gives (r:RL) (o:Out) (t':List V) (h':H):Prop:=match r with
 |.ok t h=>o=.norm∧t'=t∧h'=h
 |.pan v t h=>o=.pan v∧t'=t∧h'=h
 |.fail=>False
theorem zpF {call:V→List V→H→RO} {ops:Array Oper} {n:Nat} {ro:Option Nat} {Q:Exit→Act→World→Prop} {D0:List Deferred} {o:Out} {tail:List Nat} (hc:zcy P call) (hk:zhd call) :
 ∀(L:List Oper) (l:List O) (i:Nat) (t:List V) (h:H) (R:Emb) (w:World) (a:Act),(∀j,j<L.length→ops[i+j]? = L[j]?)→zec P ops L l=true→(zaQ call l t h).Gives o t' h' →
  Sim P allB R h.get w→Fresh R h h'→WF h→zae R t=some a.tmps.toList→MarksOn D0 m R w a.defers →
  (∀a' w',PostA P D0 m R h w t' h' a' w'→a'.defers=a.defers→o=.norm→wpOpsIn (Wd ro) n P ops Q tail a' w') →
  (∀v x a' w',o=.pan v→PostE P D0 m R h w o t' h' (.panic [{ v:=x,recovered:=false }]) a' w'→a'.defers=a.defers→Q (.panic [{ v:=x,recovered:=false }]) a' w') →
  wpOpsIn (Wd ro) n P ops Q (List.range' i L.length++tail) a w
 |[],[],i,t,h,R,w,a,_,_,he,hs,hfr,hw,ht,hm,hQ,_=>by
  obtain⟨rfl,rfl,rfl⟩:=he
  exact hQ a w (.here rfl hs ht hm) rfl rfl
 |[],_::_,_,_,_,_,_,_,_,ho,_,_,_,_,_,_,_,_=>by simp[zec]at ho
 |_::_,[],_,_,_,_,_,_,_,ho,_,_,_,_,_,_,_,_=>by simp[zec]at ho
 |o1::L,ao::l,i,t,h,R,w,a,hL,ho,he,hs,hfr,hw,ht,hm,hQ,hP=>by
  simp only[zec,okO,Bool.and_eq_true]at ho
  obtain⟨⟨⟨hdst,hg⟩,hop⟩,ho⟩:=ho
  have hi:ops[i]? = some o1:=by simpa using hL 0 (by simp)
  have hL':∀j,j<L.length→ops[i+1+j]? = L[j]? := fun j hj=>by
   have:=hL (j+1) (by simp;omega)
   rw[show i+1+j=i+(j+1) by omega]
   simpa using this
  simp only[List.length_cons,List.range'_succ,List.cons_append,wpOpsIn,hi]
  rw[zfa hg ht]
  simp only[zaQ]at he
  have gives:∀{t1:List V} {h1:H},(zaQ call l t1 h1).Gives o t' h'→Keep h1 h':=by
   intro t1 h1 hg
   cases hr:zaQ call l t1 h1 with
   |fail=>rw[hr]at hg;exact hg.elim
   |ok t2 h2=>rw[hr]at hg;obtain⟨_,_,rfl⟩:=hg;exact zbt hk l _ _ _ _ (.inl hr)
   |pan v t2 h2=>rw[hr]at hg;obtain⟨_,_,rfl⟩:=hg;exact zbt hk l _ _ _ _ (.inr ⟨v,hr⟩)
  cases hwt:zcp ao.g t with
  |true=>
   simp only[hwt]at he
   simp only[if_true]
   cases hev:evA call ao.op t h with
   |fail=>simp only[hev]at he;exact he.elim
   |ok v h1=>
    simp only[hev]at he
    have k1:=(zfk hk hev).1
    have k2:=gives he
    refine op_wp hc hop (zcN ht) hs (F:=allB) ?_ (hfr.left k2.nx) hw hev RO.gives_ok ?_ ?_
    ·cases reads ao.op t<;>simp[zco,allB]
    ·rintro v' x w1 hv ⟨R1,l1,q1,q2,q3⟩
     simp only[RO.ok.injEq]at hv
     obtain⟨rfl,_⟩:=hv
     refine zpF hc hk L l (i+1) _ h1 R1 w1 _ hL' ho he q2 (hfr.right q1) (k1.wf hw) (zdr hdst (zav q1.le _ _ ht) q3) (by rw[zaL];exact hm.fwd q1) ?_ ?_
     ·exact fun a' w' hp hd=>hQ a' w' (hp.step q1) (by rw[hd,zaL])
     ·exact fun v x a' w' ho hp hd=>hP v x a' w' ho (hp.step q1) (by rw[hd,zaL])
    ·rintro v' x w1 hv _
     cases hv
   |pan v h1=>
    simp only[hev]at he
    obtain⟨rfl,rfl,rfl⟩:=he
    refine op_wp hc hop (zcN ht) hs (F:=allB) ?_ hfr hw hev RO.gives_pan ?_ ?_
    ·cases reads ao.op t'<;>simp[zco,allB]
    ·rintro v' x w1 hv _
     cases hv
    ·rintro v' x w1 hv ⟨R1,l1,q1,q2,q3⟩
     simp only[RO.pan.injEq]at hv
     obtain⟨rfl,_⟩:=hv
     exact hP v x a w1 rfl ⟨R1,l1,⟨x,q3,rfl⟩,q1,q2,zav q1.le _ _ ht,hm.fwd q1⟩ rfl
  |false=>
   simp only[hwt]at he
   simp only[Bool.false_eq_true,if_false]
   refine⟨fun _ _=>trivial,?_⟩
   refine zpF hc hk L l (i+1) _ h R w _ hL' ho he hs hfr hw (zdr hdst ht (zbk R)) (by rw[zaL];exact hm) ?_ ?_
   ·exact fun a' w' hp hd=>hQ a' w' hp (by rw[hd,zaL])
   ·exact fun v x a' w' ho hp hd=>hP v x a' w' ho hp (by rw[hd,zaL])
end
end Go.Air
